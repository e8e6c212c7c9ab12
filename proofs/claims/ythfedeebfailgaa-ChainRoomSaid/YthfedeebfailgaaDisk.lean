/- What the calls of a disk compute, each once. -/
import Derived.Test.YthfedeebfailgaaDiskD
import Derived.Test.YthfedeebfailgaaProg
set_option linter.unusedVariables false
set_option linter.unusedSimpArgs false
set_option autoImplicit false
namespace Go.Proofs.Ythfedeebfailgaa
open Go.RowKit

/-- The seven fields of a disk. -/
def dcells (bn bs : Nat) (wA : Option Addr) (wc : Nat) (D : DS) : Array Value :=
  #[.slice (some ⟨bn, 0, none⟩) D.now.length D.now.length, .slice (some ⟨bs, 0, none⟩) D.now.length D.now.length, .slice wA D.waits.length wc, .bool D.down, .int .i64 D.acts, .int .i64 D.fuse, .int .u64 D.keep]
/-- A disk in memory: its struct, its sectors, those that are safe, its waiting writes. -/
structure DiskB (w : World) (d bn bs : Nat) (wA : Option Addr) (wc : Nat) (D : DS) : Prop where
  st : Blk w d (dcells bn bs wA wc D) 112
  now : Blk w bn (rowsV D.now).toArray 134
  safe : Blk w bs (rowsV D.safe).toArray 134
  waits : w.ownsRow 0 137 257 (.slice wA D.waits.length wc) D.waits.length (waitsV D.waits)
  ne : bn ≠ bs
  ok : D.Ok
def foot (d bn bs : Nat) (wA : Option Addr) : Nat → Prop := fun k => k = d ∨ k = bn ∨ k = bs ∨ ∃ a, wA = some a ∧ a.block = k
theorem DiskB.keeps {w w' : World} {d bn bs : Nat} {wA : Option Addr} {wc : Nat} {D : DS} (h : DiskB w d bn bs wA wc D) {F : Nat → Prop} (k : Keeps F w w') (hF : ∀ i, foot d bn bs wA i → ¬ F i) : DiskB w' d bn bs wA wc D :=
  ⟨h.st.keeps k (hF _ (.inl rfl)), h.now.keeps k (hF _ (.inr (.inl rfl))), h.safe.keeps k (hF _ (.inr (.inr (.inl rfl)))),
   k.owns h.waits (fun i hi => hF _ (.inr (.inr (.inr (by
     cases wA with
     | none => simp [Value.ownBlock] at hi
     | some a => exact ⟨a, rfl, by simpa [Value.ownBlock] using hi⟩))))), h.ne, h.ok⟩
theorem DiskB.ext {w w' : World} {d bn bs : Nat} {wA : Option Addr} {wc : Nat} {D : DS} (h : DiskB w d bn bs wA wc D) (k : Ext w w') : DiskB w' d bn bs wA wc D := h.keeps k (fun _ _ x => x)
theorem DiskB.lt {w : World} {d bn bs : Nat} {wA : Option Addr} {wc : Nat} {D : DS} (h : DiskB w d bn bs wA wc D) : ∀ i, foot d bn bs wA i → i < w.heap.size := by
  rintro i (rfl | rfl | rfl | ⟨a, rfl, rfl⟩)
  · exact h.st.lt
  · exact h.now.lt
  · exact h.safe.lt
  · exact (h.waits.lt _ rfl).2
theorem DiskB.dn {w : World} {d bn bs : Nat} {wA : Option Addr} {wc : Nat} {D : DS} (h : DiskB w d bn bs wA wc D) : d ≠ bn := fun e => by subst e; have := (h.st.inj h.now).2; revert this; decide
theorem DiskB.ds {w : World} {d bn bs : Nat} {wA : Option Addr} {wc : Nat} {D : DS} (h : DiskB w d bn bs wA wc D) : d ≠ bs := fun e => by subst e; have := (h.st.inj h.safe).2; revert this; decide
theorem owns_ne {w : World} {base : Nat} {e : TypeId} {size n m c : Nat} {A : Option Addr} {xs : List Value} (h : w.ownsRow base e size (.slice A m c) n xs) {b : Nat} {cs : Array Value} {T : TypeId} (hb : Blk w b cs T) (hT : e ≠ T) : ∀ a, A = some a → a.block ≠ b := by
  rintro a rfl rfl
  rcases h.2 with ⟨h1, _⟩ | ⟨g, cap, cur, h1, _, h2, _⟩
  · cases h1
  · injection h1 with h1; injection h1 with h1; subst h1
    have : Blk w g cur e := h2
    exact hT (this.inj hb).2

set_option maxRecDepth 100000 in
set_option maxHeartbeats 400000 in
theorem disk_ready (d bn bs : Nat) (wA : Option Addr) (wc : Nat) (D : DS) (i : Int) (w : World) (hb : Blk w d (dcells bn bs wA wc D) 112) (hm : D.now.length ≤ 4096) :
    Calls Try.prog 85 #[.pointer (some ⟨d, 0, none⟩), .int .i64 i] w fun e w' => e = .returned (.int .i64 (D.ready i)) ∧ w = w' := by
  have c0 := hb.cell 0 _ rfl
  have c3 := hb.cell 3 _ rfl
  obtain ⟨now, safe, waits, down, acts, fuse, keep⟩ := D
  simp only [dcells] at c0 c3
  simp only at hm
  cases down with
  | true =>
    go_enter Try.func85, Try.ntmps85
    go_wp2
    go_ret
    exact ⟨rfl, rfl⟩
  | false =>
    have Hf : Hid (DS.ready ⟨now, safe, waits, false, acts, fuse, keep⟩ i = if 0 ≤ i ∧ i < now.length then 0 else 1) := rfl
    by_cases h1 : i < 0
    · go_enter Try.func85, Try.ntmps85
      go_wp2
      go_ret
      exact ⟨by rw [Hf.out, if_neg (by omega)]; rfl, rfl⟩
    · by_cases h2 : i < now.length
      · go_enter Try.func85, Try.ntmps85
        go_wp2
        go_ret
        exact ⟨by rw [Hf.out, if_pos (by omega)]; rfl, rfl⟩
      · go_enter Try.func85, Try.ntmps85
        go_wp2
        go_ret
        exact ⟨by rw [Hf.out, if_neg (by omega)]; rfl, rfl⟩

def ActPost (d bn bs : Nat) (wA : Option Addr) (wc : Nat) (D : DS) (w : World) (e : Ending) (w' : World) : Prop :=
  e = .returned (.tuple #[.bool D.act.1, .int .u64 D.act.2.1]) ∧ Blk w' d (dcells bn bs wA wc D.act.2.2) 112 ∧ Keeps (Only d) w w'
set_option maxRecDepth 100000 in
set_option maxHeartbeats 400000 in
theorem disk_act (d bn bs : Nat) (wA : Option Addr) (wc : Nat) (D : DS) (w : World) (hb : Blk w d (dcells bn bs wA wc D) 112) :
    Calls Try.prog 84 #[.pointer (some ⟨d, 0, none⟩)] w (ActPost d bn bs wA wc D w) := by
  have c3 := hb.cell 3 _ rfl
  have c4 := hb.cell 4 _ rfl
  have c5 := hb.cell 5 _ rfl
  have c6 := hb.cell 6 _ rfl
  have f4 := hb.free 4
  have f5 := hb.free 5
  obtain ⟨now, safe, waits, down, acts, fuse, keep⟩ := D
  simp only [dcells] at c3 c4 c5 c6
  cases down with
  | true =>
    go_enter Try.func84, Try.ntmps84
    go_wp2
    go_ret2
    exact ⟨rfl, hb, Keeps.refl _ _⟩
  | false =>
    by_cases h1 : fuse = 0
    · have h1' : (fuse == 0) = true := by simp [h1]
      have Hf : Hid (DS.act ⟨now, safe, waits, false, acts, fuse, keep⟩ = (false, 0, ⟨now, safe, waits, false, wrap64 (acts + 1), fuse, keep⟩)) := by
        unfold Hid; subst h1; rfl
      clear h1
      go_enter Try.func84, Try.ntmps84
      go_wp2
      go_ret2
      exact ⟨by rw [Hf.out]; rfl, by rw [Hf.out]; exact hb.set 4 _, (Keeps.refl _ _).set1 _ _⟩
    · have h1' : (fuse == 0) = false := by simp [h1]
      by_cases h2 : 0 < wrap64 (fuse - 1)
      · have Hf : Hid (DS.act ⟨now, safe, waits, false, acts, fuse, keep⟩ = (false, 0, ⟨now, safe, waits, false, wrap64 (acts + 1), wrap64 (fuse - 1), keep⟩)) := by
          unfold Hid DS.act; rw [if_neg (by simp), if_neg h1, if_pos h2]
        clear h1
        go_enter Try.func84, Try.ntmps84
        go_wp2
        go_ret2
        exact ⟨by rw [Hf.out]; rfl, by rw [Hf.out]; exact (hb.set 4 _).set 5 _, ((Keeps.refl _ _).set1 _ _).set1 _ _⟩
      · have Hf : Hid (DS.act ⟨now, safe, waits, false, acts, fuse, keep⟩ = (true, keep, ⟨now, safe, waits, false, wrap64 (acts + 1), wrap64 (fuse - 1), keep⟩)) := by
          unfold Hid DS.act; rw [if_neg (by simp), if_neg h1, if_neg h2]
        clear h1
        go_enter Try.func84, Try.ntmps84
        go_wp2_with fail
        go_quiet (fail)
        go_wp2
        go_ret2
        exact ⟨by rw [Hf.out]; rfl, by rw [Hf.out]; exact (hb.set 4 _).set 5 _, (((Keeps.refl _ _).set1 _ _).set1 _ _).drewN _⟩

set_option maxRecDepth 100000 in
set_option maxHeartbeats 400000 in
theorem disk_down (d bn bs : Nat) (wA : Option Addr) (wc : Nat) (D : DS) (w : World) (hb : Blk w d (dcells bn bs wA wc D) 112) :
    Calls Try.prog 70 #[.pointer (some ⟨d, 0, none⟩)] w fun e w' => e = .returned (.bool D.down) ∧ w = w' := by
  have c3 := hb.cell 3 _ rfl
  simp only [dcells] at c3
  go_enter Try.func70, Try.ntmps70
  go_wp2
  go_ret
  exact ⟨rfl, rfl⟩

set_option maxRecDepth 100000 in
set_option maxHeartbeats 400000 in
theorem disk_size (d bn bs : Nat) (wA : Option Addr) (wc : Nat) (D : DS) (w : World) (hb : Blk w d (dcells bn bs wA wc D) 112) :
    Calls Try.prog 67 #[.pointer (some ⟨d, 0, none⟩)] w fun e w' => e = .returned (.int .i64 D.now.length) ∧ w = w' := by
  have c0 := hb.cell 0 _ rfl
  simp only [dcells] at c0
  go_enter Try.func67, Try.ntmps67
  go_wp2
  go_ret
  exact ⟨rfl, rfl⟩

set_option maxHeartbeats 400000 in
theorem disk_acts (d bn bs : Nat) (wA : Option Addr) (wc : Nat) (D : DS) (w : World) (hb : Blk w d (dcells bn bs wA wc D) 112) : Calls Try.prog 19 #[.pointer (some ⟨d, 0, none⟩)] w fun e w' => e = .returned (.int .i64 D.acts) ∧ w = w' := by
  have c4 := hb.cell 4 _ rfl
  simp only [dcells] at c4
  go_enter Try.func19, Try.ntmps19
  go_wp2
  go_ret
  exact ⟨rfl, rfl⟩

/-- So many sectors of noughts. -/
def blank (n : Nat) : List (List UInt8) := List.replicate n []
theorem blank_length (n : Nat) : (blank n).length = n := List.length_replicate
/-- A disk of noughts. -/
def DS.new (n : Nat) : DS := { now := blank n, safe := blank n, waits := [], down := false, acts := 0, fuse := 0, keep := 0 }
def clampN (n : Int) : Nat := (min (max n 0) 4096).toNat
theorem info_sector : (Try.prog.info? 134).map (fun i => (i.zero, i.size, i.bytes)) = some (some (.agg (Array.replicate 256 (.int .u8 0))), 256, 256) := by kernel_rfl
theorem made_rows (n : Nat) : madeCells (Array.replicate 256 (Value.int .u8 0)) (n * 256) = (rowsV (blank n)).toArray := by
  show _ = (rowsV (List.replicate n [])).toArray
  have hs : secV [] = List.replicate 256 (Value.int .u8 0) := by
    unfold secV
    rw [fit_short [] (by simp)]
    simp only [bvs, zs, List.nil_append, List.map_replicate, List.length_nil]
    rfl
  apply Array.ext'
  apply List.ext_getElem?
  intro i
  rcases Nat.lt_or_ge i (n * 256) with h | h
  · have h1 : (madeCells (Array.replicate 256 (Value.int .u8 0)) (n * 256)).toList[i]? = some (.int .u8 0) := by
      have : i % 256 < 256 := Nat.mod_lt _ (by omega)
      simp [madeCells, h, getElem!_pos, this]
    rw [h1]
    have h2 : ∀ v ∈ rowsV (List.replicate n []), v = .int .u8 0 := by
      intro v hv
      simp only [rowsV, List.mem_flatMap, List.mem_replicate] at hv
      obtain ⟨s, ⟨_, rfl⟩, hv⟩ := hv
      rw [hs] at hv
      exact (List.mem_replicate.1 hv).2
    have hl : i < (rowsV (List.replicate n [])).length := by rw [rowsV_length, List.length_replicate]; omega
    simp only [List.toList_toArray]
    rw [List.getElem?_eq_getElem hl, h2 _ (List.getElem_mem hl)]
  · rw [List.getElem?_eq_none (by simp [madeCells]; omega), List.getElem?_eq_none (by simp [rowsV_length]; omega)]
theorem make_sectors (n : Nat) (hn : n ≤ 4096) (w : World) : (Instr.makeSlice 109 (.int .i64 (n : Int)) (.int .i64 (n : Int))).run Try.prog w = .ok (.slice (some ⟨w.heap.size, 0, none⟩) n n) (w.alloc (.cells (rowsV (blank n)).toArray 134)) := by
  obtain ⟨i0, hi, hz0, hz1, hz2⟩ := info_parts info_sector
  have h := run_makeSlice (P := Try.prog) w 109 134 i0 _ Try.underlying109 hi hz0 .i64 .i64 (n : Int) (n : Int) (by omega) (by omega) (by rw [hz1]; simp; omega) (by rw [hz2]; omega) (by omega)
  rw [hz1] at h
  simp only [Int.toNat_natCast, Value.cells] at h
  rw [made_rows] at h
  exact h
theorem make_sectors' (x : Int) (h0 : 0 ≤ x) (h1 : x ≤ 4096) (w : World) : (Instr.makeSlice 109 (.int .i64 x) (.int .i64 x)).run Try.prog w = .ok (.slice (some ⟨w.heap.size, 0, none⟩) x.toNat x.toNat) (w.alloc (.cells (rowsV (blank x.toNat)).toArray 134)) := by
  obtain ⟨n, rfl⟩ := Int.eq_ofNat_of_zero_le h0
  exact make_sectors n (by omega) w

def NewPost (n : Int) (w : World) (e : Ending) (w' : World) : Prop :=
  ∃ d bn bs, e = .returned (.pointer (some ⟨d, 0, none⟩)) ∧ DiskB w' d bn bs none 0 (DS.new (clampN n)) ∧ Ext w w' ∧ w.heap.size ≤ d ∧ w.heap.size ≤ bn ∧ w.heap.size ≤ bs
theorem new_ok (n : Int) (m : Nat) (hc : clampN n = m) (hm : m ≤ 4096) (w : World) (p q : Nat) (hpq : p ≠ q) (hp : p = w.heap.size ∨ p = w.heap.size + 1) (hq : q = w.heap.size ∨ q = w.heap.size + 1) (w' : World)
    (h1 : w' = ((w.alloc (.cells (rowsV (blank m)).toArray 134)).alloc (.cells (rowsV (blank m)).toArray 134)).alloc (.cells #[.slice (some ⟨p, 0, none⟩) m m, .slice (some ⟨q, 0, none⟩) m m, .slice none 0 0, .bool false, .int .i64 0, .int .i64 0, .int .u64 0] 112)) :
    NewPost n w (.returned (.pointer (some ⟨w.heap.size + 1 + 1, 0, none⟩))) w'.drew := by
  subst h1
  have b0 := ((Blk.new w (rowsV (blank m)).toArray 134).alloc (.cells (rowsV (blank m)).toArray 134)).alloc (.cells #[.slice (some ⟨p, 0, none⟩) m m, .slice (some ⟨q, 0, none⟩) m m, .slice none 0 0, .bool false, .int .i64 0, .int .i64 0, .int .u64 0] 112)
  have b1 := (Blk.new (w.alloc (.cells (rowsV (blank m)).toArray 134)) (rowsV (blank m)).toArray 134).alloc (.cells #[.slice (some ⟨p, 0, none⟩) m m, .slice (some ⟨q, 0, none⟩) m m, .slice none 0 0, .bool false, .int .i64 0, .int .i64 0, .int .u64 0] 112)
  have b2 := Blk.new ((w.alloc (.cells (rowsV (blank m)).toArray 134)).alloc (.cells (rowsV (blank m)).toArray 134)) #[.slice (some ⟨p, 0, none⟩) m m, .slice (some ⟨q, 0, none⟩) m m, .slice none 0 0, .bool false, .int .i64 0, .int .i64 0, .int .u64 0] 112
  simp only [World.size_alloc] at b1 b2
  rw [NewPost, hc]
  refine ⟨w.heap.size + 1 + 1, p, q, rfl, DiskB.ext ⟨?_, ?_, ?_, World.ownsRow_nil _ _ _ _, hpq, ⟨rfl, by simpa [DS.new, blank_length] using hm, by simp [DS.new], by simp [DS.new]⟩⟩ (Keeps.refl _ _).drew, ((((Keeps.refl _ _).alloc _).alloc _).alloc _).drew, by omega, by omega, by omega⟩
  · simpa [dcells, DS.new, blank_length] using b2
  · rcases hp with rfl | rfl
    · exact b0
    · exact b1
  · rcases hq with rfl | rfl
    · exact b0
    · exact b1
set_option maxRecDepth 100000 in
set_option maxHeartbeats 400000 in
theorem disk_new (n : Int) (w : World) :
    Calls Try.prog 14 #[.int .i64 n] w (NewPost n w) := by
  rcases (show n < 0 ∨ (0 ≤ n ∧ n ≤ 4096) ∨ 4096 < n by omega) with h | ⟨h, h'⟩ | h
  · have hm := make_sectors' 0 (by omega) (by omega)
    go_enter Try.func14, Try.ntmps14
    go_wp2
    go_region
    all_goals
      go_wp2
      go_ret
      have hc : clampN n = 0 := by unfold clampN; omega
      first | exact new_ok n 0 hc (by omega) w _ _ (by omega) (.inl rfl) (.inr rfl) _ rfl | exact new_ok n 0 hc (by omega) w _ _ (by omega) (.inr rfl) (.inl rfl) _ rfl
  · obtain ⟨m, rfl⟩ := Int.eq_ofNat_of_zero_le h
    have hm := make_sectors m (by omega)
    go_enter Try.func14, Try.ntmps14
    go_wp2
    go_region
    all_goals
      go_wp2
      go_ret
      have hc : clampN (m : Int) = m := by unfold clampN; omega
      first | exact new_ok _ m hc (by omega) w _ _ (by omega) (.inl rfl) (.inr rfl) _ rfl | exact new_ok _ m hc (by omega) w _ _ (by omega) (.inr rfl) (.inl rfl) _ rfl
  · have hm := make_sectors' 4096 (by omega) (by omega)
    go_enter Try.func14, Try.ntmps14
    go_wp2
    go_region
    all_goals
      go_wp2
      go_ret
      have hc : clampN n = 4096 := by unfold clampN; omega
      first | exact new_ok n 4096 hc (by omega) w _ _ (by omega) (.inl rfl) (.inr rfl) _ rfl | exact new_ok n 4096 hc (by omega) w _ _ (by omega) (.inr rfl) (.inl rfl) _ rfl
end Go.Proofs.Ythfedeebfailgaa
