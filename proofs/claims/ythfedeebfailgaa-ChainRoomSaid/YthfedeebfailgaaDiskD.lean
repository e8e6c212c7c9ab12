/- What a disk is, as data: its sectors, those that are safe, the writes that wait; what each call makes of it. No program in it. -/
import Derived.Test.YthfedeebfailgaaMem
import Derived.Laws.Entries
set_option linter.unusedVariables false
set_option linter.unusedSimpArgs false
set_option autoImplicit false
namespace Go.Proofs.Ythfedeebfailgaa
open Go.RowKit

/-- Noughts. -/
def zs (n : Nat) : List UInt8 := List.replicate n 0
theorem zs_length (n : Nat) : (zs n).length = n := List.length_replicate
/-- A sector: bytes with noughts behind them, 256 in all. -/
def fit (s : List UInt8) : List UInt8 := (s ++ zs 256).take 256
theorem fit_length (s : List UInt8) : (fit s).length = 256 := by simp only [fit, List.length_take, List.length_append, zs_length]; omega
theorem fit_full (s : List UInt8) (h : s.length = 256) : fit s = s := by
  unfold fit; rw [List.take_append_of_le_length (by omega), List.take_of_length_le (by omega)]
theorem fit_fit (s : List UInt8) : fit (fit s) = fit s := fit_full _ (fit_length s)
theorem fit_short (s : List UInt8) (h : s.length ≤ 256) : fit s = s ++ zs (256 - s.length) := by
  unfold fit zs
  rw [List.take_append, List.take_of_length_le h, List.take_replicate, Nat.min_eq_left (by omega)]
def secV (s : List UInt8) : List Value := bvs (fit s)
theorem secV_length (s : List UInt8) : (secV s).length = 256 := by simp [secV, bvs_length, fit_length]
theorem secV_one (s : List UInt8) : ∀ v ∈ secV s, v.oneCell' = true := bvs_one _
def rowsV (L : List (List UInt8)) : List Value := L.flatMap secV
theorem rowsV_length (L : List (List UInt8)) : (rowsV L).length = 256 * L.length := by
  induction L with
  | nil => rfl
  | cons s L ih => simp [rowsV, secV_length] at ih ⊢; omega
theorem rowsV_one (L : List (List UInt8)) : ∀ v ∈ rowsV L, v.oneCell' = true := by
  intro v hv
  simp only [rowsV, List.mem_flatMap] at hv
  obtain ⟨s, _, hv⟩ := hv
  exact secV_one s v hv
theorem rowsV_drop (L : List (List UInt8)) : ∀ i, (rowsV L).drop (256 * i) = rowsV (L.drop i) := by
  induction L with
  | nil => intro i; simp [rowsV]
  | cons s L ih =>
    intro i
    cases i with
    | zero => simp
    | succ i =>
      have : rowsV (s :: L) = secV s ++ rowsV L := by simp [rowsV]
      rw [this, show 256 * (i + 1) = (secV s).length + 256 * i by rw [secV_length]; omega, ← List.drop_drop, List.drop_left, ih i]
      simp
theorem rowsV_take (L : List (List UInt8)) : ∀ i, (rowsV L).take (256 * i) = rowsV (L.take i) := by
  induction L with
  | nil => intro i; simp [rowsV]
  | cons s L ih =>
    intro i
    cases i with
    | zero => simp [rowsV]
    | succ i =>
      have : rowsV (s :: L) = secV s ++ rowsV L := by simp [rowsV]
      rw [this, show 256 * (i + 1) = (secV s).length + 256 * i by rw [secV_length]; omega, List.take_length_add_append, ih i]
      simp [rowsV]
theorem rowsV_get (L : List (List UInt8)) (i : Nat) (h : i < L.length) : ((rowsV L).drop (256 * i)).take 256 = secV L[i] := by
  rw [rowsV_drop, List.drop_eq_getElem_cons h]
  have : rowsV (L[i] :: L.drop (i + 1)) = secV L[i] ++ rowsV (L.drop (i + 1)) := rfl
  rw [this, List.take_append_of_le_length (by rw [secV_length]; omega), List.take_of_length_le (by rw [secV_length]; omega)]
theorem rowsV_set (L : List (List UInt8)) (i : Nat) (h : i < L.length) (s : List UInt8) : splice (rowsV L) (256 * i) (secV s) = rowsV (L.set i s) := by
  unfold splice
  rw [secV_length, rowsV_take, show 256 * i + 256 = 256 * (i + 1) by omega, rowsV_drop]
  have : L.set i s = L.take i ++ s :: L.drop (i + 1) := by
    rw [List.set_eq_take_append_cons_drop, if_pos h]
  rw [this]
  simp [rowsV]

/-- A write that waits. -/
def waitV (x : Nat × List UInt8) : List Value := .int .i64 x.1 :: secV x.2
theorem waitV_length (x : Nat × List UInt8) : (waitV x).length = 257 := by simp [waitV, secV_length]
theorem waitV_one (x : Nat × List UInt8) : ∀ v ∈ waitV x, v.oneCell' = true := by
  intro v hv
  simp only [waitV, List.mem_cons] at hv
  rcases hv with rfl | hv
  · rfl
  · exact secV_one _ v hv
def waitsV (W : List (Nat × List UInt8)) : List Value := W.flatMap waitV
theorem waitsV_length (W : List (Nat × List UInt8)) : (waitsV W).length = W.length * 257 := by
  induction W with
  | nil => rfl
  | cons s L ih => simp [waitsV, waitV_length] at ih ⊢; omega
theorem waitsV_append (W V : List (Nat × List UInt8)) : waitsV (W ++ V) = waitsV W ++ waitsV V := by simp [waitsV]
theorem waitsV_one (W : List (Nat × List UInt8)) : ∀ v ∈ waitsV W, v.oneCell' = true := by
  intro v hv
  simp only [waitsV, List.mem_flatMap] at hv
  obtain ⟨s, _, hv⟩ := hv
  exact waitV_one s v hv
theorem waitsV_get (W : List (Nat × List UInt8)) (i : Nat) (h : i < W.length) : ((waitsV W).drop (i * 257)).take 257 = waitV W[i] := by
  induction W generalizing i with
  | nil => exact absurd h (by simp)
  | cons x W ih =>
    have e : waitsV (x :: W) = waitV x ++ waitsV W := by simp [waitsV]
    cases i with
    | zero => rw [e]; simp; rw [List.take_append_of_le_length (by rw [waitV_length]; omega), List.take_of_length_le (by rw [waitV_length]; omega)]
    | succ i =>
      rw [e, show (i + 1) * 257 = (waitV x).length + i * 257 by rw [waitV_length]; omega, ← List.drop_drop, List.drop_left, ih i (by simpa using h)]
      simp

/-- A disk. -/
structure DS where
  now : List (List UInt8)
  safe : List (List UInt8)
  waits : List (Nat × List UInt8)
  down : Bool
  acts : Int
  fuse : Int
  keep : Int
def DS.ready (D : DS) (i : Int) : Int := if D.down then 8 else if 0 ≤ i ∧ i < D.now.length then 0 else 1
def DS.act (D : DS) : Bool × Int × DS :=
  if D.down then (false, 0, D)
  else if D.fuse = 0 then (false, 0, { D with acts := wrap64 (D.acts + 1) })
  else if 0 < wrap64 (D.fuse - 1) then (false, 0, { D with acts := wrap64 (D.acts + 1), fuse := wrap64 (D.fuse - 1) })
  else (true, D.keep, { D with acts := wrap64 (D.acts + 1), fuse := wrap64 (D.fuse - 1) })
/-- Whether the i-th waiting write is kept. -/
def keptBit (keep : Int) (i : Nat) : Bool := bits .and .u64 (keep / 2 ^ (i % 64)) 1 == 1
def offSafe (keep : Int) : List (Nat × List UInt8) → Nat → List (List UInt8) → List (List UInt8)
  | [], _, S => S
  | (a, s) :: W, i, S => offSafe keep W (i + 1) (if keptBit keep i then S.set a s else S)
def DS.off (D : DS) (keep : Int) : DS :=
  if D.down then D else
  { D with safe := offSafe keep D.waits 0 D.safe, now := offSafe keep D.waits 0 D.safe, waits := [], down := true, fuse := 0 }
def DS.write (D : DS) (i : Nat) (b : List UInt8) : DS :=
  let D1 := D.act.2.2
  let D2 := { D1 with now := D1.now.set i (fit b), waits := D1.waits ++ [(i, fit b)] }
  if D.act.1 then D2.off D.act.2.1 else D2
theorem offSafe_length (keep : Int) : ∀ (W : List (Nat × List UInt8)) (i : Nat) (S : List (List UInt8)), (offSafe keep W i S).length = S.length
  | [], _, _ => rfl
  | (a, s) :: W, i, S => by rw [offSafe, offSafe_length keep W]; split <;> simp
theorem act_now (D : DS) : D.act.2.2.now = D.now := by
  unfold DS.act; (repeat' split) <;> rfl
theorem act_safe (D : DS) : D.act.2.2.safe = D.safe := by
  unfold DS.act; (repeat' split) <;> rfl
theorem act_waits (D : DS) : D.act.2.2.waits = D.waits := by
  unfold DS.act; (repeat' split) <;> rfl
theorem act_down (D : DS) : D.act.2.2.down = D.down := by
  unfold DS.act; (repeat' split) <;> rfl
/-- A disk that can be. -/
structure DS.Ok (D : DS) : Prop where
  same : D.safe.length = D.now.length
  most : D.now.length ≤ 4096
  at_ : ∀ x ∈ D.waits, x.1 < D.now.length
  few : D.waits.length ≤ 1000000
end Go.Proofs.Ythfedeebfailgaa
