/- What the reference's writing of a number, and the program's reader of bytes, compute. -/
import Derived.Test.YthfedeebfailgaaMem
import Derived.Test.YthfedeebfailgaaProg
set_option linter.unusedVariables false
set_option linter.unusedSimpArgs false
set_option autoImplicit false
namespace Go.Proofs.Ythfedeebfailgaa
open Go.RowKit

/-- The eight bytes of a number, the lowest first. -/
def num8n (x : Nat) : Nat → List UInt8
  | 0 => []
  | k + 1 => UInt8.ofNat (x % 256) :: num8n (x / 256) k
def u64 (n : Int) : Nat := (IntKind.u64.wrap n).toNat
def num8 (n : Int) : List UInt8 := num8n (u64 n) 8
theorem num8n_snoc (k : Nat) : ∀ x, num8n x (k + 1) = num8n x k ++ [UInt8.ofNat (x / 256 ^ k % 256)] := by
  induction k with
  | zero => intro x; simp [num8n]
  | succ k ih => intro x; rw [num8n, ih (x / 256), num8n]; simp [Nat.div_div_eq_div_mul, Nat.pow_succ, Nat.mul_comm]
theorem num8n_length (k : Nat) : ∀ x, (num8n x k).length = k := by
  induction k with
  | zero => intro x; rfl
  | succ k ih => intro x; simp [num8n, ih]

theorem u64_nat (n : Int) : ∃ x : Nat, IntKind.u64.wrap n = (x : Int) ∧ x < 18446744073709551616 := by
  refine ⟨(IntKind.u64.wrap n).toNat, ?_, ?_⟩ <;> simp [IntKind.wrap, IntKind.bits, IntKind.signed] <;> omega

set_option maxRecDepth 100000 in
set_option maxHeartbeats 400000 in
theorem refNum (n : Int) (w : World) :
    Calls Try.prog 68 #[.int .i64 n] w fun e w' => e = .returned (.string ⟨(num8 n).toArray⟩) ∧ Ext w w' := by
  go_enter Try.func68, Try.ntmps68
  go_wp2
  obtain ⟨x, hx, hx2⟩ := u64_nat n
  have hu : u64 n = x := by simp [u64, hx]
  rw [hx]
  have Hu := Lib.hid hu
  have Hx2 := Lib.hid hx2
  clear hu hx hx2
  go_loopw [3, 4, 5] (fun a s i wr => ∃ k : Nat, k ≤ 8 ∧ i = .int .i64 k ∧ a = .int .u64 ((x / 256 ^ k : Nat) : Int) ∧ s = .string ⟨(num8n x k).toArray⟩ ∧ Ext w wr) (fun _ _ i _ => 8 - (intOf i).toNat)
  case atStart => exact ⟨0, by omega, rfl, by simp, rfl, Keeps.refl _ _⟩
  case round =>
    obtain ⟨k, hk, rfl, rfl, rfl, hw⟩ := hrel
    by_cases hlt : k < 8
    · have hs := num8n_snoc k x
      have hp : 256 ^ (k + 1) = 256 ^ k * 256 := Nat.pow_succ _ _
      have hd : x / 256 ^ (k + 1) = x / 256 ^ k / 256 := by rw [hp, Nat.div_div_eq_div_mul]
      have hle : x / 256 ^ k ≤ x := Nat.div_le_self _ _
      generalize hq : x / 256 ^ k = q at *
      have Hs := Lib.hid hs
      have Hd := Lib.hid hd
      clear hs hd hp hq
      have hb0 : 0 ≤ (q : Int) % 256 := by omega
      have hb1 : (q : Int) % 256 < 256 := by omega
      have hcv := fun (w : World) => run_conv_one (P := Try.prog) w 27 9 5 ((q : Int) % 256) Try.underlying27 Try.underlying5 Try.underlying9 hb0 hb1
      have hl := num8n_length k x
      go_wp2
      refine ⟨⟨k + 1, by omega, by go_num, ?_, ?_, hw.alloc _⟩, by simp [intOf]; omega⟩
      · rw [Hd.out]
        have : IntKind.u64.wrap ((q : Int) / 256) = (q : Int) / 256 := by
          have := Hx2.out
          simp [IntKind.wrap, IntKind.bits, IntKind.signed]; omega
        rw [this]; rfl
      · rw [Hs.out, ByteArray.mk_append_mk]
    · go_wp2
      go_ret
      have : k = 8 := by omega
      subst this
      refine ⟨?_, hw⟩
      show Ending.returned (Value.string ⟨(num8n x 8).toArray⟩) = _
      rw [num8, Hu.out]

/-! ### The program's reader -/
def TakeYes (r n : Nat) (l : List UInt8) (w : World) (e : Ending) (w' : World) : Prop :=
  ∃ v1 v2, e = .returned (.tuple #[v1, .bool true]) ∧ Bytes w' v1 (l.take n) ∧ Bytes w' v2 (l.drop n) ∧ Blk w' r #[v2, .bool false] 204 ∧ Keeps (Only r) w w'
set_option maxRecDepth 100000 in
set_option maxHeartbeats 400000 in
theorem take_yes (r n : Nat) (A : Option Addr) (c : Nat) (l : List UInt8) (w : World) (hb : Blk w r #[.slice A l.length c, .bool false] 204) (hl : Bytes w (.slice A l.length c) l) (hn : n ≤ l.length) :
    Calls Try.prog 125 #[.pointer (some ⟨r, 0, none⟩), .int .i64 n] w (TakeYes r n l w) := by
  have c0 := hb.cell 0 _ rfl
  have c1 := hb.cell 1 _ rfl
  have f0 := hb.free 0
  have f1 := hb.free 1
  have hlc : l.length ≤ c ∧ c ≤ maxLen := by
    obtain ⟨_, _, e, h1, h2, _⟩ := hl
    injection e with _ _ e; subst e; exact ⟨h1, h2⟩
  have Hl := Lib.hid hl
  clear hl
  obtain ⟨hlc, hcm⟩ := hlc
  go_enter Try.func125, Try.ntmps125
  go_wp2
  all_goals
    go_ret2
    have nb : ∀ (i : Nat) (x : Int), (#[Value.slice A l.length c, Value.bool false] : Array Value)[i]? ≠ some (Value.int .u8 x) := by rintro (_ | _ | i) x <;> simp
    refine ⟨_, _, rfl, ?_, ?_, hb.set 0 _, (Keeps.refl _ _).set1 _ _⟩
    · have := Hl.out.part 0 n n (by omega) (by omega) (by omega) A (fun _ => by cases A <;> simp [Addr.add])
      rw [List.drop_zero] at this
      exact this.kept ((Keeps.refl _ _).set1 _ _) hb nb
    · refine Bytes.kept (w := w) ?_ ((Keeps.refl _ _).set1 _ _) hb nb
      have e : l.drop n = (l.drop n).take (l.length - n) := (List.take_of_length_le (by simp)).symm
      rw [e]
      exact Hl.out.part n _ _ (by omega) (by omega) (by omega) _ (fun h => by first | rfl | omega)

set_option maxRecDepth 100000 in
set_option maxHeartbeats 400000 in
theorem take_no (r : Nat) (n : Int) (A : Option Addr) (c m : Nat) (bad : Bool) (w : World) (hb : Blk w r #[.slice A m c, .bool bad] 204) (hn : bad = true ∨ n < 0 ∨ (m : Int) < n) :
    Calls Try.prog 125 #[.pointer (some ⟨r, 0, none⟩), .int .i64 n] w fun e w' => e = .returned (.tuple #[.slice none 0 0, .bool false]) ∧ Blk w' r #[.slice none 0 0, .bool true] 204 ∧ Keeps (Only r) w w' := by
  have c0 := hb.cell 0 _ rfl
  have c1 := hb.cell 1 _ rfl
  have f0 := hb.free 0
  have f1 := hb.free 1
  by_cases h1 : bad = true
  · subst h1
    clear hn
    go_enter Try.func125, Try.ntmps125
    go_wp2
    all_goals
      go_ret2
      exact ⟨rfl, (hb.set 1 _).set 0 _, ((Keeps.refl _ _).set1 _ _).set1 _ _⟩
  · have h1 : bad = false := by simpa using h1
    subst h1
    have hn : n < 0 ∨ (m : Int) < n := by simpa using hn
    by_cases h2 : n < 0
    · clear hn
      go_enter Try.func125, Try.ntmps125
      go_wp2
      all_goals
        go_ret2
        exact ⟨rfl, (hb.set 1 _).set 0 _, ((Keeps.refl _ _).set1 _ _).set1 _ _⟩
    · have h3 : (m : Int) < n := by omega
      clear hn
      go_enter Try.func125, Try.ntmps125
      go_wp2
      all_goals
        go_ret2
        exact ⟨rfl, (hb.set 1 _).set 0 _, ((Keeps.refl _ _).set1 _ _).set1 _ _⟩
set_option maxRecDepth 100000 in
set_option maxHeartbeats 400000 in
theorem good (r : Nat) (v : Value) (bad : Bool) (w : World) (hb : Blk w r #[v, .bool bad] 204) :
    Calls Try.prog 126 #[.pointer (some ⟨r, 0, none⟩)] w fun e w' => e = .returned (.bool (!bad)) ∧ w = w' := by
  have c1 := hb.cell 1 _ rfl
  go_enter Try.func126, Try.ntmps126
  go_wp2
  go_ret
  exact ⟨rfl, rfl⟩

theorem info_u8 : (Try.prog.info? 5).map (fun i => (i.zero, i.size, i.bytes)) = some (some (.int .u8 0), 1, 1) := by kernel_rfl
def ReadPost (l : List UInt8) (w : World) (e : Ending) (w' : World) : Prop :=
  ∃ r A c, e = .returned (.pointer (some ⟨r, 0, none⟩)) ∧ w.heap.size ≤ r ∧ Bytes w' (.slice A l.length c) l ∧ Blk w' r #[.slice A l.length c, .bool false] 204 ∧ Ext w w'
set_option maxRecDepth 100000 in
set_option maxHeartbeats 400000 in
theorem code_read (v : Value) (l : List UInt8) (w : World) (hl : Bytes w v l) (hs : l.length ≤ 140737488351232) :
    Calls Try.prog 106 #[v] w (ReadPost l w) := by
  obtain ⟨i0, hi, hz0, hz1, hz2⟩ := info_parts info_u8
  have hsrc := hl.src (P := Try.prog) Try.underlying27
  go_enter Try.func106, Try.ntmps106
  go_wp2_with (at_builtin; refine wpl_append rfl _ _ 27 27 rfl 0 5 i0 (.int .u8 0) 1 1 Try.underlying27 hi hz0 hz1 hz2 rfl (.slice none 0 0) 0 [] rfl (World.ownsRow_nil _ _ _ _) v l.length (bvs l) rfl hsrc (by simp only [maxLen]; omega) (by omega) (by omega) ?_; intro A c w1 ho hg hf)
  go_ret
  have hb1 : Bytes w1 (.slice A l.length c) l := by have := Bytes.ofOwn (l := l) (by simpa using ho); simpa using this
  have hx : Ext w w1 := (Keeps.refl _ _).grown hg (fun k hk => by simp [Value.ownBlock] at hk)
  exact ⟨w1.heap.size, A, c, rfl, hg.size, hb1.ext ((Keeps.refl _ _).alloc _), by simpa using Blk.new w1 _ _, hx.alloc _⟩

/-- What bytes say as a number, the lowest first. -/
def le8 : List UInt8 → Nat
  | [] => 0
  | c :: l => c.toNat + 256 * le8 l
theorem le8_snoc (c : UInt8) : ∀ l : List UInt8, le8 (l ++ [c]) = le8 l + 256 ^ l.length * c.toNat
  | [] => by simp [le8]
  | x :: l => by
    rw [List.cons_append, le8, le8_snoc c l, le8, List.length_cons, Nat.pow_succ, Nat.mul_add, ← Nat.mul_assoc, Nat.mul_comm 256 (256 ^ l.length), Nat.add_assoc]
theorem le8_lt : ∀ l : List UInt8, le8 l < 256 ^ l.length
  | [] => by simp [le8]
  | x :: l => by
    have := le8_lt l
    have := x.toNat_lt
    rw [le8, List.length_cons, Nat.pow_succ]
    omega
theorem pow256 (k : Nat) : 2 ^ (8 * k) = 256 ^ k := by rw [Nat.pow_mul]
theorem pow256_le (k : Nat) (h : k < 8) : 256 ^ k ≤ 72057594037927936 := by
  have := Nat.pow_le_pow_right (show 0 < 256 by omega) (show k ≤ 7 by omega)
  simpa using this
theorem or_le (q x k : Nat) (hq : q < 256 ^ k) (hx : x < 256) (hk : k < 8) : bits .or .u64 (q : Int) (IntKind.u64.wrap ((x : Int) * 2 ^ (8 * k))) = ((q + 256 ^ k * x : Nat) : Int) := by
  have hp := pow256_le k hk
  have h1 : x * 256 ^ k ≤ 255 * 256 ^ k := Nat.mul_le_mul_right _ (by omega)
  have e : (x : Int) * 2 ^ (8 * k) = ((x * 256 ^ k : Nat) : Int) := by rw [← pow256]; simp
  have hw : IntKind.u64.wrap ((x * 256 ^ k : Nat) : Int) = ((x * 256 ^ k : Nat) : Int) := by
    generalize hy : x * 256 ^ k = y at *
    simp [IntKind.wrap, IntKind.bits, IntKind.signed]
    omega
  rw [e, hw, u64_or_nat q (x * 256 ^ k) (by omega) (by omega), Nat.or_comm, nat_join (8 * k) (x * 256 ^ k) q (by rw [pow256]; exact Nat.mul_mod_left _ _) (by rw [pow256]; exact hq)]
  congr 1
  rw [Nat.mul_comm, Nat.add_comm]

def NumYes (r : Nat) (l : List UInt8) (w : World) (e : Ending) (w' : World) : Prop :=
  ∃ A c, e = .returned (.int .i64 (wrap64 (le8 (l.take 8) : Nat))) ∧ Bytes w' (.slice A (l.drop 8).length c) (l.drop 8) ∧ Blk w' r #[.slice A (l.drop 8).length c, .bool false] 204 ∧ Keeps (Only r) w w'
set_option maxRecDepth 100000 in
set_option maxHeartbeats 400000 in
theorem reader_num_yes (r : Nat) (A : Option Addr) (c : Nat) (l : List UInt8) (w : World) (hb : Blk w r #[.slice A l.length c, .bool false] 204) (hl : Bytes w (.slice A l.length c) l) (hn : 8 ≤ l.length) :
    Calls Try.prog 124 #[.pointer (some ⟨r, 0, none⟩)] w (NumYes r l w) := by
  go_enter Try.func124, Try.ntmps124
  go_wp2_with fail
  refine (take_yes r 8 A c l w hb hl hn).mono ?_
  rintro e w1 ⟨v1, v2, rfl, hb1, hb2, hr, hk⟩
  obtain ⟨A1, c1, rfl, _, _, hc1⟩ := hb1
  obtain ⟨A2, c2, rfl, q1, q2, q3⟩ := hb2
  have hb2 : Bytes w1 (.slice A2 (l.drop 8).length c2) (l.drop 8) := ⟨A2, c2, rfl, q1, q2, q3⟩
  have Hfin : Hid (∀ w', w' = w1 → NumYes r l w (.returned (.int .i64 (wrap64 (le8 (l.take 8) : Nat)))) w') := by
    rintro w' rfl
    exact ⟨A2, c2, rfl, hb2, hr, hk⟩
  clear q1 q2 q3 hb2 hr
  obtain ⟨m, hm⟩ : ∃ m, m = l.take 8 := ⟨_, rfl⟩
  have hml : m.length = 8 := by rw [hm]; simp; omega
  rw [← hm] at hc1
  obtain ⟨b, o, rfl, hcell⟩ := hc1 (fun e => by rw [e] at hml; simp at hml)
  have Hm := Lib.hid hm
  have Hml := Lib.hid hml
  clear hm hml hc1 hb hl
  go_wp2_with fail
  go_loop [5, 17] (fun n i => ∃ k : Nat, k ≤ 8 ∧ i = .int .i64 k ∧ n = .int .u64 (le8 (m.take k) : Nat)) (fun _ i => 8 - (intOf i).toNat)
  case atStart => exact ⟨0, by omega, rfl, by simp [le8]⟩
  case round =>
    obtain ⟨k, hk8, rfl, rfl⟩ := hrel
    by_cases hlt : k < 8
    · have hkm : k < m.length := by rw [Hml.out]; exact hlt
      have hx := hcell k (bv m[k]) (by rw [bvs_get, List.getElem?_eq_getElem hkm]; rfl)
      obtain ⟨x, hx'⟩ : ∃ x, m[k] = x := ⟨_, rfl⟩
      rw [hx'] at hx
      simp only [bv] at hx
      have h0 : 0 ≤ (x.toNat : Int) ∧ (x.toNat : Int) < 256 := by have := x.toNat_lt; omega
      obtain ⟨h0, h1⟩ := h0
      generalize hq : le8 (m.take k) = q at *
      have Hq := Lib.hid hq
      have Hx := Lib.hid hx'
      clear hq hx'
      go_wp2
      refine ⟨⟨k + 1, by omega, by go_num, ?_⟩, by simp [intOf]; omega⟩
      have hx := Hx.out
      have hq := Hq.out
      have hlt' := le8_lt (m.take k)
      rw [List.length_take_of_le (by omega), hq] at hlt'
      rw [or_le q x.toNat k hlt' x.toNat_lt hlt, List.take_succ_eq_append_getElem hkm, le8_snoc, List.length_take_of_le (by omega), hq, hx]
    · go_wp2
      go_ret
      have : m.take k = l.take 8 := by rw [List.take_of_length_le (by have := Hml.out; omega), Hm.out]
      rw [this]
      exact Hfin.out _ rfl

def NumNo (r : Nat) (w : World) (e : Ending) (w' : World) : Prop :=
  e = .returned (.int .i64 0) ∧ Blk w' r #[.slice none 0 0, .bool true] 204 ∧ Keeps (Only r) w w'
set_option maxRecDepth 100000 in
set_option maxHeartbeats 400000 in
theorem reader_num_no (r : Nat) (A : Option Addr) (c m : Nat) (bad : Bool) (w : World) (hb : Blk w r #[.slice A m c, .bool bad] 204) (hn : bad = true ∨ m < 8) :
    Calls Try.prog 124 #[.pointer (some ⟨r, 0, none⟩)] w (NumNo r w) := by
  go_enter Try.func124, Try.ntmps124
  go_wp2_with fail
  refine (take_no r 8 A c m bad w hb (by rcases hn with h | h; exact .inl h; exact .inr (.inr (by omega)))).mono ?_
  rintro e w1 ⟨rfl, hr, hk⟩
  go_wp2
  go_ret
  exact ⟨rfl, hr, hk⟩

def InYes (r : Nat) (l : List UInt8) (w : World) (e : Ending) (w' : World) : Prop :=
  ∃ A c, e = .returned (.int .i64 (wrap64 (le8 (l.take 8) : Nat))) ∧ Bytes w' (.slice A (l.drop 8).length c) (l.drop 8) ∧ Blk w' r #[.slice A (l.drop 8).length c, .bool false] 204 ∧ Keeps (Only r) w w'
set_option maxRecDepth 100000 in
set_option maxHeartbeats 400000 in
theorem reader_in_yes (r : Nat) (A : Option Addr) (c : Nat) (l : List UInt8) (lo hi : Int) (w : World) (hb : Blk w r #[.slice A l.length c, .bool false] 204) (hl : Bytes w (.slice A l.length c) l) (hn : 8 ≤ l.length)
    (h1 : lo ≤ wrap64 (le8 (l.take 8) : Nat)) (h2 : wrap64 (le8 (l.take 8) : Nat) ≤ hi) :
    Calls Try.prog 107 #[.pointer (some ⟨r, 0, none⟩), .int .i64 lo, .int .i64 hi] w (InYes r l w) := by
  go_enter Try.func107, Try.ntmps107
  go_wp2_with fail
  refine (reader_num_yes r A c l w hb hl hn).mono ?_
  rintro e w1 ⟨A1, c1, rfl, hb1, hr, hk⟩
  have Hfin : Hid (InYes r l w (.returned (.int .i64 (wrap64 (le8 (l.take 8) : Nat)))) w1) := ⟨A1, c1, rfl, hb1, hr, hk⟩
  generalize wrap64 (le8 (l.take 8) : Nat) = n at *
  clear hb hl hb1 hk
  go_wp2_with fail
  refine (good r _ _ w1 hr).mono ?_
  rintro e w2 ⟨rfl, rfl⟩
  go_wp2
  go_ret
  exact Hfin.out

set_option maxRecDepth 100000 in
set_option maxHeartbeats 400000 in
theorem reader_in_no (r : Nat) (A : Option Addr) (c : Nat) (l : List UInt8) (bad : Bool) (lo hi : Int) (w : World) (hb : Blk w r #[.slice A l.length c, .bool bad] 204) (hl : Bytes w (.slice A l.length c) l)
    (hn : bad = true ∨ l.length < 8 ∨ wrap64 (le8 (l.take 8) : Nat) < lo ∨ hi < wrap64 (le8 (l.take 8) : Nat)) :
    Calls Try.prog 107 #[.pointer (some ⟨r, 0, none⟩), .int .i64 lo, .int .i64 hi] w (NumNo r w) := by
  by_cases h8 : bad = true ∨ l.length < 8
  · clear hn
    go_enter Try.func107, Try.ntmps107
    go_wp2_with fail
    refine (reader_num_no r A c l.length bad w hb h8).mono ?_
    rintro e w1 ⟨rfl, hr, hk⟩
    clear hb hl h8
    by_cases ht : 0 < lo ∨ hi < 0
    · have ht' : (0 < lo) ∨ (¬ 0 < lo ∧ hi < 0) := by omega
      clear ht
      rcases ht' with h | ⟨h, h'⟩
      all_goals
        go_wp2_with fail
        refine (take_no r (-1) none 0 0 true w1 hr (.inl rfl)).mono ?_
        rintro e w2 ⟨rfl, hr2, hk2⟩
        go_wp2_with fail
        refine (good r _ _ w2 hr2).mono ?_
        rintro e w3 ⟨rfl, rfl⟩
        go_wp2
        go_ret
        exact ⟨rfl, hr2, hk.trans hk2⟩
    · have h : ¬ 0 < lo := by omega
      have h' : ¬ hi < 0 := by omega
      clear ht
      go_wp2_with fail
      refine (good r _ _ w1 hr).mono ?_
      rintro e w2 ⟨rfl, rfl⟩
      go_wp2
      go_ret
      exact ⟨rfl, hr, hk⟩
  · have hbad : bad = false := by cases bad <;> simp_all
    subst hbad
    have hn8 : 8 ≤ l.length := by omega
    have hn' : wrap64 (le8 (l.take 8) : Nat) < lo ∨ (¬ wrap64 (le8 (l.take 8) : Nat) < lo ∧ hi < wrap64 (le8 (l.take 8) : Nat)) := by
      rcases hn with h | h | h | h
      · cases h
      · omega
      · exact .inl h
      · by_cases hh : wrap64 (le8 (l.take 8) : Nat) < lo
        · exact .inl hh
        · exact .inr ⟨hh, h⟩
    clear hn h8
    go_enter Try.func107, Try.ntmps107
    go_wp2_with fail
    refine (reader_num_yes r A c l w hb hl hn8).mono ?_
    rintro e w1 ⟨A1, c1, rfl, hb1, hr, hk⟩
    generalize wrap64 (le8 (l.take 8) : Nat) = n at *
    clear hb hl hb1
    rcases hn' with h | ⟨h, h'⟩
    all_goals
      go_wp2_with fail
      refine (take_no r (-1) _ _ _ _ w1 hr (.inr (.inl (by omega)))).mono ?_
      rintro e w2 ⟨rfl, hr2, hk2⟩
      go_wp2_with fail
      refine (good r _ _ w2 hr2).mono ?_
      rintro e w3 ⟨rfl, rfl⟩
      go_wp2
      go_ret
      exact ⟨rfl, hr2, hk.trans hk2⟩

/-- How many bytes the frame has that bytes begin with. -/
def lengthOf (l : List UInt8) : Int :=
  if 8 ≤ l.length ∧ 48 ≤ wrap64 (le8 (l.take 8) : Nat) ∧ wrap64 (le8 (l.take 8) : Nat) ≤ 16384 ∧ wrap64 (le8 (l.take 8) : Nat) ≤ l.length then wrap64 (le8 (l.take 8) : Nat) else 0

set_option maxRecDepth 100000 in
set_option maxHeartbeats 400000 in
theorem seg_length (v : Value) (l : List UInt8) (w : World) (hl : Bytes w v l) (hs : l.length ≤ 140737488351232) :
    Calls Try.prog 69 #[v] w fun e w' => e = .returned (.int .i64 (lengthOf l)) ∧ Ext w w' := by
  obtain ⟨A0, c0, rfl, q⟩ := hl
  have hl : Bytes w (.slice A0 l.length c0) l := ⟨A0, c0, rfl, q⟩
  by_cases hy : 8 ≤ l.length ∧ 48 ≤ wrap64 (le8 (l.take 8) : Nat) ∧ wrap64 (le8 (l.take 8) : Nat) ≤ 16384
  · obtain ⟨y1, y2, y3⟩ := hy
    have Hfin : Hid (lengthOf l = if wrap64 (le8 (l.take 8) : Nat) ≤ l.length then wrap64 (le8 (l.take 8) : Nat) else 0) := by
      unfold Hid lengthOf
      by_cases h : wrap64 (le8 (l.take 8) : Nat) ≤ l.length
      · rw [if_pos ⟨y1, y2, y3, h⟩, if_pos h]
      · rw [if_neg (fun x => h x.2.2.2), if_neg h]
    go_enter Try.func69, Try.ntmps69
    go_wp2_with fail
    refine (code_read _ l w hl hs).mono ?_
    rintro e w1 ⟨r, A, c, rfl, hr0, hb1, hr, hk⟩
    go_wp2_with fail
    refine (reader_in_yes r A c l 48 16384 w1 hr hb1 y1 y2 y3).mono ?_
    rintro e w2 ⟨A2, c2, rfl, _, _, hk2⟩
    have Hk : Hid (Ext w w2) := hk.trans' hk2 (fun i hi e => by unfold Only at e; omega)
    generalize wrap64 (le8 (l.take 8) : Nat) = n at *
    clear hk2 hk hr hb1 y1 y2 y3 hl q
    by_cases hln : (l.length : Int) < n
    · go_wp2
      go_ret
      exact ⟨by rw [Hfin.out, if_neg (by omega)]; rfl, Hk.out⟩
    · go_wp2
      go_ret
      exact ⟨by rw [Hfin.out, if_pos (by omega)]; rfl, Hk.out⟩
  · have Hfin : Hid (lengthOf l = 0) := by
      unfold Hid lengthOf
      rw [if_neg (fun x => hy ⟨x.1, x.2.1, x.2.2.1⟩)]
    go_enter Try.func69, Try.ntmps69
    go_wp2_with fail
    refine (code_read _ l w hl hs).mono ?_
    rintro e w1 ⟨r, A, c, rfl, hr0, hb1, hr, hk⟩
    go_wp2_with fail
    refine (reader_in_no r A c l false 48 16384 w1 hr hb1 (by omega)).mono ?_
    rintro e w2 ⟨rfl, _, hk2⟩
    have Hk : Hid (Ext w w2) := hk.trans' hk2 (fun i hi e => by unfold Only at e; omega)
    clear hk2 hk hr hb1 hl q hy
    go_wp2
    go_ret
    exact ⟨by rw [Hfin.out]; rfl, Hk.out⟩
end Go.Proofs.Ythfedeebfailgaa
