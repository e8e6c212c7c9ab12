/- What the calls of an area compute: where it lies, what is left. The iterator over the parts of a slice. -/
import Derived.Test.YthfedeebfailgaaCode
import Derived.Test.YthfedeebfailgaaDisk3
import Derived.RangeFuncNested
import Derived.RangeFuncBound
import Derived.RangeFuncCalls
import Derived.RangeFuncLeaves
import Derived.Shelf.Abstract
import Derived.Shelf.RegionOpen
import Derived.OwnWalkIn
import Derived.TacticsInMore
import Derived.LoopNIn
import Derived.LoopIn
import Derived.Sort.QuietTacIn
set_option linter.unusedVariables false
set_option linter.unusedSimpArgs false
set_option autoImplicit false
namespace Go.Proofs.Ythfedeebfailgaa
open Go.RowKit Go.Shelf
attribute [local go_sem] Oper.semAt_some

/-- An area: a disk, where it begins, where it ends, where the next frame goes. -/
def acells (d : Nat) (fr en pos : Int) : Array Value := #[.pointer (some ⟨d, 0, none⟩), .int .i64 fr, .int .i64 en, .int .i64 pos]
def halfFrom (n : Nat) (e : Int) : Int := e % 2 * (n / 2 : Nat)
def HalfPost (d n : Nat) (e : Int) (w : World) (x : Ending) (w' : World) : Prop :=
  ∃ a, x = .returned (.pointer (some ⟨a, 0, none⟩)) ∧ w.heap.size ≤ a ∧ Blk w' a (acells d (halfFrom n e) (halfFrom n e + (n / 2 : Nat)) (halfFrom n e)) 108 ∧ Ext w w'
theorem and1 (e : Int) : bits .and .i64 e 1 = e % 2 := by
  have h : (BitVec.ofInt 64 e &&& BitVec.ofInt 64 1).toNat = (e % 2).toNat := by
    rw [BitVec.toNat_and, show (BitVec.ofInt 64 1).toNat = 1 by rfl, Nat.and_one_is_mod, BitVec.toNat_ofInt]
    omega
  show IntKind.i64.wrap (((BitVec.ofInt 64 e &&& BitVec.ofInt 64 1).toNat : Nat) : Int) = _
  rw [h]
  have : e % 2 = 0 ∨ e % 2 = 1 := by omega
  rcases this with h | h <;> rw [h] <;> decide
set_option maxRecDepth 100000 in
set_option maxHeartbeats 400000 in
theorem chain_half (d bn bs : Nat) (wA : Option Addr) (wc : Nat) (D : DS) (e : Int) (w : World) (hb : Blk w d (dcells bn bs wA wc D) 112) (hm : D.now.length ≤ 4096) :
    Calls Try.prog 15 #[.pointer (some ⟨d, 0, none⟩), .int .i64 e] w (HalfPost d D.now.length e w) := by
  generalize hn : D.now.length = n at *
  have Hn := Lib.hid hn
  have Hand := Lib.hid (and1 e)
  have hq2 : 0 ≤ e % 2 ∧ e % 2 ≤ 1 := by omega
  obtain ⟨q, hq⟩ : ∃ q, q = e % 2 := ⟨_, rfl⟩
  rw [← hq] at hq2
  obtain ⟨hq0, hq1⟩ := hq2
  clear hn
  go_enter Try.func15, Try.ntmps15
  go_wp2_with fail
  refine (disk_size d bn bs wA wc D w hb).mono ?_
  rintro x w1 ⟨rfl, rfl⟩
  rw [Hn.out]
  go_wp2_with (simp only [Hand.out, ← hq])
  go_ret
  have hm2 : ∃ m : Nat, (n : Int) / 2 = m ∧ m ≤ 2048 ∧ m = n / 2 := ⟨n / 2, by omega, by omega, rfl⟩
  obtain ⟨m, hm1, hm2, hm3⟩ := hm2
  have hqm : 0 ≤ q * (m : Int) ∧ q * (m : Int) ≤ 2048 := by
    rcases (show q = 0 ∨ q = 1 by omega) with h | h <;> rw [h] <;> omega
  have e1 : wrap64 (q * (m : Int)) = q * m := by generalize q * (m : Int) = z at *; simp [wrap64, IntKind.wrap]; omega
  have e2 : wrap64 (q * (m : Int) + m) = q * m + m := by generalize q * (m : Int) = z at *; simp [wrap64, IntKind.wrap]; omega
  rw [hm1, e1, e2]
  have hh : halfFrom n e = q * m := by rw [halfFrom, hq, hm3]
  exact ⟨w.heap.size, rfl, Nat.le_refl _, by rw [hh, ← hm3]; exact Blk.new w _ _, (Keeps.refl _ _).alloc _⟩

set_option maxRecDepth 100000 in
set_option maxHeartbeats 400000 in
theorem area_left (a d : Nat) (fr en pos : Int) (w : World) (hb : Blk w a (acells d fr en pos) 108) :
    Calls Try.prog 17 #[.pointer (some ⟨a, 0, none⟩)] w fun e w' => e = .returned (.int .i64 (wrap64 (en - pos))) ∧ Ext w w' := by
  have c2 := hb.cell 2 (.int .i64 en) rfl
  have c3 := hb.cell 3 (.int .i64 pos) rfl
  go_enter Try.func17, Try.ntmps17
  go_wp2_with fail
  go_quiet (fail)
  go_wp2
  go_ret
  exact ⟨rfl, (Keeps.refl _ _).drewN _⟩

set_option maxRecDepth 100000 in
set_option maxHeartbeats 400000 in
theorem slices_chunk (A : Option Addr) (len cap : Nat) (w : World) :
    Calls Try.prog 71 #[.slice A len cap, .int .i64 256] w fun e w' => e = .returned (.func (.func 108) #[] #[.pointer (some ⟨w.heap.size, 0, none⟩), .pointer (some ⟨w.heap.size + 1, 0, none⟩)]) ∧
      w' = (w.alloc (.cells #[.slice A len cap] 27)).alloc (.cells #[.int .i64 256] 3) := by
  go_enter Try.func71, Try.ntmps71
  go_wp2
  go_ret
  simp

/-! ### The parts of a slice, one behind the other -/
def parts (len : Nat) : Nat := (len + 255) / 256
def partLen (len k : Nat) : Nat := min 256 (len - 256 * k)
def partV (b off len : Nat) (x : Fin (parts len)) : Value := .slice (some ⟨b, off + 256 * x.1, none⟩) (partLen len x) (partLen len x)
/-- Two boxes lie as they lay. -/
def Two (p q : Nat) (W W' : World) : Prop := W'.heap[p]? = W.heap[p]? ∧ W'.heap[q]? = W.heap[q]?
theorem Two.refl (p q : Nat) (W : World) : Two p q W W := ⟨rfl, rfl⟩
theorem Two.trans {p q : Nat} {A B C : World} (h : Two p q A B) (k : Two p q B C) : Two p q A C := ⟨k.1.trans h.1, k.2.trans h.2⟩
theorem Two.put {p q : Nat} {w : World} (hp : p < w.heap.size) (hq : q < w.heap.size) (W : World) (l : Nat) (o o' : Obj) (hl : w.heap.size ≤ l) (h : W.heap[l]? = some o) (_ : o.isCells = false) (_ : o.isWalk = false) : Two p q W (W.putObj l o') :=
  ⟨World.putObj_heap_other (by omega), World.putObj_heap_other (by omega)⟩
theorem Two.keeps {p q : Nat} {W W' : World} {F : Nat → Prop} (h : Keeps F W W') (hp : p < W.heap.size) (hq : q < W.heap.size) (h1 : ¬ F p) (h2 : ¬ F q) : Two p q W W' := ⟨h.block p hp h1, h.block q hq h2⟩

def upto (len k : Nat) : List (Fin (parts len)) := (List.finRange (parts len)).take k
theorem upto_length (len k : Nat) (h : k ≤ parts len) : (upto len k).length = k := by simp [upto, h]
theorem upto_succ (len k : Nat) (h : k < parts len) : upto len (k + 1) = upto len k ++ [⟨k, h⟩] := by
  unfold upto
  rw [List.take_succ_eq_append_getElem (by simpa using h)]
  simp
theorem upto_all (len : Nat) : upto len (parts len) = List.finRange (parts len) := by
  unfold upto; rw [List.take_of_length_le (by simp)]

theorem size_u8 (w : World) : (sizeOf (Try.prog.elem 27)).run Try.prog w = .ok 1 w := by kernel_rfl
theorem und_bytes : Try.prog.underlying 27 = some (.slice (Try.prog.elem 27)) := by kernel_rfl
theorem slice_l (b off len cap lo : Nat) (x : Int) (hx : x = lo) (h : lo ≤ len) (h2 : lo < cap) (w : World) :
    (Instr.slice 27 (.slice (some ⟨b, off, none⟩) len cap) (some (.int .i64 x)) none none).run Try.prog w = .ok (.slice (some ⟨b, off + lo, none⟩) (len - lo) (cap - lo)) w := by
  subst hx
  rw [run_slice_l _ _ _ _ _ und_bytes .i64 (lo : Int) (by omega) (by omega), size_u8]
  simp only [Result.andThen_ok, sliced, Int.toNat_natCast]
  rw [if_neg (by omega)]
  simp [Addr.add_mid]
theorem slice_lhm (b off len cap lo hi : Nat) (x y : Int) (hx : x = lo) (hy : y = hi) (h : lo < hi) (h2 : hi ≤ cap) (w : World) :
    (Instr.slice 27 (.slice (some ⟨b, off, none⟩) len cap) (some (.int .i64 x)) (some (.int .i64 y)) (some (.int .i64 y))).run Try.prog w = .ok (.slice (some ⟨b, off + lo, none⟩) (hi - lo) (hi - lo)) w := by
  subst hx hy
  rw [run_slice_lhm _ _ _ _ _ und_bytes .i64 .i64 .i64 (lo : Int) (hi : Int) (hi : Int) (by omega) (by omega) (by omega) (by omega), size_u8]
  simp only [Result.andThen_ok, sliced, Int.toNat_natCast]
  rw [if_neg (by omega)]
  simp [Addr.add_mid]
set_option maxRecDepth 100000 in
set_option maxHeartbeats 1000000 in
theorem chunk_stops (n : Nat) (hn : 1 ≤ n) (Bs Bn b off len cap : Nat) (hlen : len ≤ 100000) (hcap : len ≤ cap) (w : World) (hBs : Bs < w.heap.size) (hBn : Bn < w.heap.size)
    (cs : w.cell? ⟨Bs, 0, none⟩ = some (.slice (some ⟨b, off, none⟩) len cap)) (cn : w.cell? ⟨Bn, 0, none⟩ = some (.int .i64 256)) :
    SeqStopsK Fence.wide n Try.prog 108 #[.pointer (some ⟨Bs, 0, none⟩), .pointer (some ⟨Bn, 0, none⟩)] (fun x => #[partV b off len x]) (Two Bs Bn) (fun ys => ys = List.finRange (parts len)) (fun pre => ∃ k, k ≤ parts len ∧ pre = upto len k) (parts len) w := fun l J Jx W hW hA _ hY h0 => by
  have cs' := (hW.cell (p := ⟨Bs, 0, none⟩) hBs).trans cs
  have cn' := (hW.cell (p := ⟨Bn, 0, none⟩) hBn).trans cn
  refine callsIn_of_wp Try.func108 rfl trivial ?_ rfl
  simp only [Try.ntmps108, List.size_toArray, List.length_cons, List.length_nil, Nat.reduceAdd, Nat.reduceSub, Array.replicate_succ, Array.replicate_zero, List.push_toArray, List.append_toArray, List.nil_append, List.cons_append]
  gi_wp2
  gi_loopw [4] (fun i wr => ∃ k : Nat, k ≤ parts len ∧ i = .int .i64 ((256 * k : Nat) : Int) ∧ J (upto len k) wr ∧ Two Bs Bn W wr)
    (fun i _ => parts len - (intOf i).toNat / 256)
  case atStart => exact ⟨0, Nat.zero_le _, rfl, h0, Two.refl _ _ _⟩
  case round =>
    obtain ⟨k, hk, rfl, hJs, hT⟩ := hrel
    have cs2 : wr.cell? ⟨Bs, 0, none⟩ = some (.slice (some ⟨b, off, none⟩) len cap) := (World.cell?_of_block hT.1).trans cs'
    have cn2 : wr.cell? ⟨Bn, 0, none⟩ = some (.int .i64 256) := (World.cell?_of_block hT.2).trans cn'
    by_cases hlt : 256 * k < len
    · have hs1 := slice_l b off len cap (256 * k) (256 * (k : Int)) (by omega) (by omega) (by omega)
      obtain ⟨m, hmp, hml, hmm⟩ : ∃ m, partLen len k = m ∧ 0 < m ∧ 256 * k + m ≤ len := ⟨partLen len k, rfl, by unfold partLen; omega, by unfold partLen; omega⟩
      have hs2 := slice_lhm b off len cap (256 * k) (256 * k + m) (256 * (k : Int)) (256 * (k : Int) + m) (by omega) (by omega) (by omega) (by omega)
      rw [Nat.add_sub_cancel_left] at hs2
      have hcase : (m = 256 ∧ 256 ≤ ((len - 256 * k : Nat) : Int)) ∨ (m = len - 256 * k ∧ ((len - 256 * k : Nat) : Int) < 256) := by unfold partLen at hmp; omega
      have hkp : k < parts len := by unfold parts; omega
      rcases hcase with ⟨hm1, hm2⟩ | ⟨hm1, hm2⟩
      all_goals
        subst hm1
        gi_wp2
        gi_quiet_th (fail)
        have hJn : J (upto len k) (wr.drewN nq) := hA _ wr _ none hJs ⟨rfl, rfl, rfl, Nat.le_refl _, fun _ _ _ => rfl⟩ (fun r e => by cases e)
        obtain ⟨fn, tmps, assign, body, hy, hR⟩ := hY (upto len k) ⟨k, hkp⟩ (wr.drewN nq) hJn (by rw [upto_length _ _ hk]; exact hkp)
        dsimp only [partV] at hy
        rw [hmp] at hy
        gi_wp2
        refine hR.mono ?_
        rintro e W3 (⟨rfl, hJ3, hk3⟩ | ⟨rfl, hJx3⟩)
        · have hT3 : Two Bs Bn W W3 := hT.trans hk3
          have cn3 : W3.cell? ⟨Bn, 0, none⟩ = some (.int .i64 256) := (World.cell?_of_block hT3.2).trans cn'
          gi_wp2
          go_roundw
          case rel => exact ⟨k + 1, by omega, by simp; omega, by rw [upto_succ _ _ hkp]; exact hJ3, hT3⟩
          case measure => simp [intOf]; omega
        · gi_wp2
          refine bodyPost_ret (results_none rfl _ _ _) rfl ?_
          exact ⟨⟨_, rfl⟩, .inr ⟨_, ⟨k + 1, by omega, (upto_succ _ _ hkp).symm⟩, hJx3⟩⟩
    · obtain rfl : k = parts len := by unfold parts at hk ⊢; omega
      gi_wp2
      go_end0
      exact ⟨⟨_, rfl⟩, .inl ⟨_, upto_all len, hJs⟩⟩
end Go.Proofs.Ythfedeebfailgaa
