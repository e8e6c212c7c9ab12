/- ChainRoom: what it computes. -/
import Derived.Test.YthfedeebfailgaaAdd
set_option linter.unusedVariables false
set_option linter.unusedSimpArgs false
set_option autoImplicit false
namespace Go.Proofs.Ythfedeebfailgaa
open Go.RowKit

theorem le8_num8n (k : Nat) : ∀ x, le8 (num8n x k) = x % 256 ^ k := by
  induction k with
  | zero => intro x; simp [num8n, le8, Nat.mod_one]
  | succ k ih =>
    intro x
    rw [num8n, le8, ih, Nat.pow_succ, Nat.mul_comm (256 ^ k) 256, Nat.mod_mul]
    simp
theorem le8_num8 (n : Nat) (h : n < 9223372036854775808) : le8 (num8 n) = n := by
  have hu : u64 n = n := by
    unfold u64; simp [IntKind.wrap, IntKind.bits, IntKind.signed]; omega
  rw [num8, hu, le8_num8n, Nat.mod_eq_of_lt (by have : (256 : Nat) ^ 8 = 18446744073709551616 := by decide
                                                omega)]
theorem lengthOf_frame (n : Nat) (r : List UInt8) (h1 : 48 ≤ n) (h2 : n ≤ 16384) (h3 : r.length + 8 = n) : lengthOf (num8 n ++ r) = n := by
  have h8 : (num8 n).length = 8 := num8n_length _ _
  have ht : (num8 n ++ r).take 8 = num8 n := by rw [List.take_append_of_le_length (by omega), List.take_of_length_le (by omega)]
  have hw : wrap64 ((n : Nat) : Int) = n := by simp [wrap64, IntKind.wrap]; omega
  unfold lengthOf
  rw [ht, le8_num8 n (by omega), hw, if_pos ⟨by rw [List.length_append]; omega, by omega, by omega, by rw [List.length_append]; omega⟩]
theorem lengthOf_framedOf (s : List UInt8) (h : s.length ≤ 16000) : lengthOf (framedOf s) = (framedOf s).length := by
  rw [framedOf_length]
  unfold framedOf
  rw [List.append_assoc]
  exact lengthOf_frame _ _ (by omega) (by omega) (by simp [zs_length]; omega)

theorem write_fuse0 (D : DS) (i : Nat) (s : List UInt8) (h : D.fuse = 0) (hd : D.down = false) : D.act.1 = false ∧ (D.write i s).fuse = 0 ∧ (D.write i s).acts = wrap64 (D.acts + 1) := by
  have ha : D.act = (false, 0, { D with acts := wrap64 (D.acts + 1) }) := by unfold DS.act; simp [h, hd]
  refine ⟨by rw [ha], ?_, ?_⟩
  · unfold DS.write; rw [ha]; simp [h]
  · unfold DS.write; rw [ha]; simp
theorem writes_fuse0 : ∀ (L : List (List UInt8)) (D : DS) (i : Nat), D.fuse = 0 → D.down = false → 0 ≤ D.acts → D.acts + L.length ≤ 1000000000 →
    (D.writes i L).1 = false ∧ (D.writes i L).2.fuse = 0 ∧ (D.writes i L).2.acts = D.acts + L.length
  | [], D, i, h, _, _, _ => ⟨rfl, h, by simp [DS.writes]⟩
  | s :: r, D, i, h, hd, h0, hb => by
    obtain ⟨h1, h2, h3⟩ := write_fuse0 D i s h hd
    have hw : wrap64 (D.acts + 1) = D.acts + 1 := by simp at hb; simp [wrap64, IntKind.wrap]; omega
    have hd' : (D.write i s).down = false := (write_down D i s h1).trans hd
    obtain ⟨g1, g2, g3⟩ := writes_fuse0 r (D.write i s) (i + 1) h2 hd' (by omega) (by simp at hb; omega)
    simp only [DS.writes, h1]
    rw [if_neg (by simp)]
    exact ⟨g1, g2, by rw [g3, h3, hw]; simp; omega⟩

/-- A fresh disk with a fresh area, so many of its sectors used; a fresh frame. -/
structure RoomI (w : World) (d a b bn bs c : Nat) (fr en : Int) (f : List UInt8) (n k : Nat) (W : World) : Prop where
  disk : ∃ wA wc D, DiskB W d bn bs wA wc D ∧ (∀ x, wA = some x → x.block ≠ b ∧ w.heap.size ≤ x.block) ∧ D.fuse = 0 ∧ D.down = false ∧ D.now.length = n ∧ D.acts = k ∧ D.waits.length = k
  ar : Blk W a (acells d fr en (fr + k)) 108
  fb : Bytes W (.slice (some ⟨b, 0, none⟩) f.length c) f
  kp : Ext w W
/-- The blocks are apart, and all new. -/
structure RoomS (w : World) (d a b bn bs : Nat) : Prop where
  bd : b ≠ d
  bbn : b ≠ bn
  bbs : b ≠ bs
  ba : b ≠ a
  d : w.heap.size ≤ d
  bn : w.heap.size ≤ bn
  bs : w.heap.size ≤ bs
  a : w.heap.size ≤ a
theorem RoomI.ext {w : World} {d a b bn bs c : Nat} {fr en : Int} {f : List UInt8} {n k : Nat} {W W' : World} (h : RoomI w d a b bn bs c fr en f n k W) (x : Ext W W') : RoomI w d a b bn bs c fr en f n k W' := by
  obtain ⟨⟨wA, wc, D, h1, h2⟩, h3, h4, h5⟩ := h
  exact ⟨⟨wA, wc, D, h1.ext x, h2⟩, h3.keeps x (fun x => x), h4.ext x, h5.trans x⟩
def RoomAdd (w : World) (d a b bn bs c : Nat) (fr en : Int) (f : List UInt8) (n k : Nat) (e : Ending) (W' : World) : Prop :=
  (fr + k + parts f.length ≤ en ∧ e = .returned (.int .i64 0) ∧ RoomI w d a b bn bs c fr en f n (k + parts f.length) W') ∨ (en < fr + k + parts f.length ∧ e = .returned (.int .i64 7) ∧ RoomI w d a b bn bs c fr en f n k W')
theorem RoomI.add {w : World} {d a b bn bs c : Nat} {fr en : Int} {f : List UInt8} {n k : Nat} {W : World} (h : RoomI w d a b bn bs c fr en f n k W) (hS : RoomS w d a b bn bs) (f1 : f.length ≠ 0) (f2 : f.length ≤ 100000) (f3 : lengthOf f = f.length)
    (h0 : 0 ≤ fr) (h1 : fr + k ≤ en) (h2 : en ≤ n) (hk : k ≤ 5000) :
    Calls Try.prog 18 #[.pointer (some ⟨a, 0, none⟩), .slice (some ⟨b, 0, none⟩) f.length c] W (RoomAdd w d a b bn bs c fr en f n k) := by
  obtain ⟨⟨wA, wc, D, hD, hx, d1, d2, d3, d4, d5⟩, hA, hF, hK⟩ := h
  have hp : parts f.length ≤ 400 := by unfold parts; omega
  refine (area_add a d bn bs wA wc D fr en (fr + k) _ f W hD hA hF f2 (by omega) h1 (by rw [d3]; exact h2) (fun b' o' c' e hn hf => by
    injection e with e _ _; injection e with e; injection e with e1 _ _; subst e1
    rcases hf with h | h | h | ⟨x, hx', h⟩
    · exact hS.bd h
    · exact hS.bbn h
    · exact hS.bbs h
    · exact (hx x hx').1 h) (by omega)).mono ?_
  rintro e W' ⟨wA', wc', he, hD', hA', hk', hx'⟩
  have hlp : (partsOf f).length = parts f.length := by simp [partsOf]
  have hF' : Bytes W' (.slice (some ⟨b, 0, none⟩) f.length c) f := hF.keeps hk' (fun b' o' c' e hn hf => by
    injection e with e _ _; injection e with e; injection e with e1 _ _; subst e1
    rcases hf with (h | h | h | ⟨x, hx', h⟩) | h
    · exact hS.bd h
    · exact hS.bbn h
    · exact hS.bbs h
    · exact (hx x hx').1 h
    · exact hS.ba h)
  have hK' : Ext w W' := hK.trans' hk' (fun i hi hf => by
    rcases hf with (h | h | h | ⟨x, hx', h⟩) | h
    · have := hS.d; omega
    · have := hS.bn; omega
    · have := hS.bs; omega
    · have := (hx x hx').2; omega
    · have := hS.a; omega)
  have hbW : b < W.heap.size := by
    obtain ⟨A, cc, e, _, _, q⟩ := hF
    injection e with e _ _
    obtain ⟨b2, o2, e2, r⟩ := q (fun h => f1 (by rw [h]; rfl))
    rw [← e] at e2; injection e2 with e2; injection e2 with e2 e3; subst e2
    have := r 0 (bv f[0]) (by rw [bvs_get, List.getElem?_eq_getElem (by omega)]; rfl)
    exact World.block_lt_of_cell? W _ this
  have hxx : ∀ x, wA' = some x → x.block ≠ b ∧ w.heap.size ≤ x.block := by
    intro x hx2
    rcases hx' x hx2 with ⟨y, hy, hyx⟩ | h
    · rw [← hyx]; exact hx y hy
    · have := hK.size; exact ⟨by omega, by omega⟩
  rcases Int.lt_or_le en (fr + k + parts f.length) with hlt | hge
  · have e1 : areaAdd D en (fr + k) f = (7, D, fr + k) := by
      unfold areaAdd; rw [if_neg (fun h => h.elim f1 (fun h => h f3)), if_neg (by simp [d2]), if_pos (by omega)]
    rw [e1] at he hD' hA'
    exact .inr ⟨hlt, he, ⟨wA', wc', D, hD', hxx, d1, d2, d3, d4, d5⟩, hA', hF', hK'⟩
  · obtain ⟨g1, g2, g3⟩ := writes_fuse0 (partsOf f) D (fr + k).toNat d1 d2 (by omega) (by rw [hlp]; omega)
    obtain ⟨g4, g5, g6⟩ := writes_keep (partsOf f) D (fr + k).toNat g1
    have e1 : areaAdd D en (fr + k) f = (0, (D.writes (fr + k).toNat (partsOf f)).2, fr + k + parts f.length) := by
      unfold areaAdd; rw [if_neg (fun h => h.elim f1 (fun h => h f3)), if_neg (by simp [d2]), if_neg (by omega), if_neg (by simp [g1])]
    rw [e1] at he hD' hA'
    refine .inl ⟨hge, he, ⟨wA', wc', _, hD', hxx, g2, g4.trans d2, g5.trans d3, by rw [g3, hlp, d4]; omega, by rw [g6, hlp, d5]⟩, ?_, hF', hK'⟩
    have : fr + ((k + parts f.length : Nat) : Int) = fr + k + parts f.length := by omega
    rw [this]; exact hA'
end Go.Proofs.Ythfedeebfailgaa
