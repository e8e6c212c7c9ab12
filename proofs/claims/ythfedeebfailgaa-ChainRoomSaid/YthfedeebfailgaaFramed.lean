/- What the statements' own helper framed computes: a frame of a string. -/
import Derived.Test.YthfedeebfailgaaChain
set_option linter.unusedVariables false
set_option linter.unusedSimpArgs false
set_option autoImplicit false
namespace Go.Proofs.Ythfedeebfailgaa
open Go.RowKit

theorem make_bytes (n : Nat) (hn : n ≤ 1048576) (w : World) : (Instr.makeSlice 27 (.int .i64 (n : Int)) (.int .i64 (n : Int))).run Try.prog w = .ok (.slice (some ⟨w.heap.size, 0, none⟩) n n) (w.alloc (.cells (bvs (zs n)).toArray 5)) := by
  obtain ⟨i0, hi, hz0, hz1, hz2⟩ := info_parts info_u8
  have h := run_makeSlice (P := Try.prog) w 27 5 i0 _ Try.underlying27 hi hz0 .i64 .i64 (n : Int) (n : Int) (by omega) (by omega) (by rw [hz1]; simp; omega) (by rw [hz2]; omega) (by omega)
  rw [hz1] at h
  simp only [Int.toNat_natCast, Nat.mul_one] at h
  have e : madeCells (Value.cells (.int .u8 0)) n = (bvs (zs n)).toArray := by
    apply Array.ext
    · simp [madeCells, bvs, zs]
    · intro i h1 h2
      simp [madeCells, bvs, zs, bv, Value.cells]
      have : i % 1 = 0 := Nat.mod_one i
      simp [this]
  rw [e] at h
  exact h
theorem make_bytes' (x : Int) (n : Nat) (hx : x = n) (hn : n ≤ 1048576) (w : World) : (Instr.makeSlice 27 (.int .i64 x) (.int .i64 x)).run Try.prog w = .ok (.slice (some ⟨w.heap.size, 0, none⟩) n n) (w.alloc (.cells (bvs (zs n)).toArray 5)) := by
  subst hx; exact make_bytes n hn w
theorem new_bytes (w : World) (l : List UInt8) (hl : l.length ≤ 1048576) : Bytes (w.alloc (.cells (bvs l).toArray 5)) (.slice (some ⟨w.heap.size, 0, none⟩) l.length l.length) l :=
  ⟨_, _, rfl, Nat.le_refl _, by simp only [maxLen]; omega, fun _ => ⟨_, _, rfl, (Blk.new w _ _).range 0 _ (fun j v hj => by simpa using hj)⟩⟩
/-- The string of so many noughts, however far the world has gone on. -/
theorem conv_zs (n : Nat) (hn : n ≤ 1048576) {w w' : World} (h : Ext (w.alloc (.cells (bvs (zs n)).toArray 5)) w') : (convert 27 9 (.slice (some ⟨w.heap.size, 0, none⟩) n n)).run Try.prog w' = .ok (.string ⟨(zs n).toArray⟩) w' := by
  have hb := (new_bytes w (zs n) (by rw [zs_length]; exact hn)).ext h
  rw [zs_length] at hb
  exact hb.str Try.underlying27 Try.underlying5 Try.underlying9
theorem conv_zs' (n : Nat) (hn : n ≤ 1048576) {w w' : World} (h : Ext (w.alloc (.cells (bvs (zs n)).toArray 5)) w') (g : Nat) (hg : w.heap.size = g) : (convert 27 9 (.slice (some ⟨g, 0, none⟩) n n)).run Try.prog w' = .ok (.string ⟨(zs n).toArray⟩) w' := by
  subst hg; exact conv_zs n hn h
/-- A string as bytes. -/
def afterConv (w : World) (s : List UInt8) : World :=
  w.drew.alloc (.cells (bytesRow ⟨s.toArray⟩ (grownCap w s.length 0 5)) 5 ((bytesRow ⟨s.toArray⟩ (grownCap w s.length 0 5)).size, (bytesRow ⟨s.toArray⟩ (grownCap w s.length 0 5)).size + 1))
theorem conv_str (s : List UInt8) (w : World) : (convert 9 27 (.string ⟨s.toArray⟩)).run Try.prog w = .ok (.slice (some ⟨w.heap.size, 0, none⟩) s.length (grownCap w s.length 0 5)) (afterConv w s) :=
  run_bytes_of_string w 9 27 5 ⟨s.toArray⟩ Try.underlying9 Try.underlying27 Try.underlying5
theorem afterConv_ext (w : World) (s : List UInt8) : Ext w (afterConv w s) := (Keeps.refl _ _).drew.alloc _
theorem afterConv_bytes (w : World) (s : List UInt8) (hs : s.length ≤ 1048576) : Bytes (afterConv w s) (.slice (some ⟨w.heap.size, 0, none⟩) s.length (grownCap w s.length 0 5)) s := by
  refine ⟨_, _, rfl, grownCap_ge _ _ _ _, grownCap_le_maxLen _ _ _ _ (by simp only [maxLen]; omega), fun _ => ⟨_, _, rfl, fun j v hj => ?_⟩⟩
  have h : (afterConv w s).heap[w.heap.size]? = some _ := heap_alloc_new w.drew _
  rw [cell_of_row _ _ _ _ _ _ h]
  have hjl : j < s.length := by have := (List.getElem?_eq_some_iff.1 hj).1; rwa [bvs_length] at this
  rw [bvs_get] at hj
  simp only [bytesRow]
  rw [Nat.zero_add, Array.getElem?_append_left (by simpa using hjl)]
  simpa [bv] using hj

def framedOf (s : List UInt8) : List UInt8 := num8 (max s.length 40 + 8 : Nat) ++ s ++ zs (max s.length 40 - s.length)
theorem framedOf_length (s : List UInt8) : (framedOf s).length = max s.length 40 + 8 := by
  simp only [framedOf, List.length_append, num8, num8n_length, zs_length]; omega
def FramedPost (s : List UInt8) (w : World) (e : Ending) (w' : World) : Prop :=
  ∃ b c, e = .returned (.slice (some ⟨b, 0, none⟩) (framedOf s).length c) ∧ w.heap.size ≤ b ∧ Bytes w' (.slice (some ⟨b, 0, none⟩) (framedOf s).length c) (framedOf s) ∧ Ext w w'
theorem framed_fin (s : List UInt8) (hs : s.length ≤ 1000000) (w u : World) (h : Ext w u) (g c : Nat) (hg : u.heap.size = g) (hc : c = grownCap u (framedOf s).length 0 5) :
    FramedPost s w (.returned (.slice (some ⟨g, 0, none⟩) (framedOf s).length c)) (afterConv u (framedOf s)) := by
  subst hg hc
  have hl := framedOf_length s
  exact ⟨_, _, rfl, h.size, afterConv_bytes u _ (by omega), h.then (afterConv_ext _ _)⟩
set_option maxRecDepth 100000 in
set_option maxHeartbeats 400000 in
theorem framed (s : List UInt8) (hs : s.length ≤ 1000000) (w : World) :
    Calls Try.prog 16 #[.string ⟨s.toArray⟩] w (FramedPost s w) := by
  have hsz : (⟨s.toArray⟩ : ByteArray).size = s.length := rfl
  rcases (show s.length < 40 ∨ 40 ≤ s.length by omega) with h | h
  · go_enter Try.func16, Try.ntmps16
    go_wp2
    have hmk := make_bytes' (40 - s.length) (40 - s.length) (by omega) (by omega)
    have hmk2 := make_bytes' (IntKind.i64.wrap (IntKind.i64.wrap 40 - s.length)) (40 - s.length) (by simp [IntKind.wrap, IntKind.bits, IntKind.signed]; omega) (by omega)
    have hcz := fun w => conv_zs (40 - s.length) (by omega) (Keeps.refl _ (World.alloc w (.cells (bvs (zs (40 - s.length))).toArray 5)))
    have hfr : framedOf s = num8 48 ++ s ++ zs (40 - s.length) := by
      have : max s.length 40 = 40 := by omega
      simp only [framedOf, this]; rfl
    have hcs := conv_str (framedOf s)
    rw [show (⟨(framedOf s).toArray⟩ : ByteArray) = ⟨(num8 48).toArray⟩ ++ ⟨s.toArray⟩ ++ ⟨(zs (40 - s.length)).toArray⟩ by rw [hfr, ByteArray.mk_append_mk, ByteArray.mk_append_mk]] at hcs
    clear hfr
    have hcd := fun w => conv_zs (40 - s.length) (by omega) (Keeps.refl _ (World.alloc w (.cells (bvs (zs (40 - s.length))).toArray 5))).drew
    have h8 : (num8 48).length = 8 := num8n_length _ _
    have hzl : (zs (40 - s.length)).length = 40 - s.length := zs_length _
    go_region_with (refine (refNum _ _).mono ?_; rintro e w1 ⟨rfl, hk⟩; first | (have hcz1 := conv_zs' (40 - s.length) (by omega) hk.undrew w.heap.size rfl; have hko : Ext w w1 := ((Keeps.refl _ _).alloc _).then hk.undrew) | (have hko : Ext w w1 := hk.undrew))
    all_goals
      clear hmk hmk2 hcz hcd hcs
      go_wp2
      go_ret
      refine framed_fin s hs w _ ?_ _ _ (by first | rfl | simp) rfl
      first | with_reducible exact hko | with_reducible exact hko.alloc _ | with_reducible exact hko.drew | with_reducible exact (hko.alloc _).drew
  · go_enter Try.func16, Try.ntmps16
    go_wp2
    have hmk := make_bytes' 0 0 (by omega) (by omega)
    have hmk2 := make_bytes' (IntKind.i64.wrap (IntKind.i64.wrap s.length - s.length)) 0 (by simp [IntKind.wrap, IntKind.bits, IntKind.signed]; omega) (by omega)
    have hfr : framedOf s = num8 ((s.length : Int) + 8) ++ s ++ zs 0 := by
      have : max s.length 40 = s.length := by omega
      simp only [framedOf, this, Nat.sub_self, Int.natCast_add]; rfl
    have hcs := conv_str (framedOf s)
    rw [show (⟨(framedOf s).toArray⟩ : ByteArray) = ⟨(num8 ((s.length : Int) + 8)).toArray⟩ ++ ⟨s.toArray⟩ ++ ⟨(zs 0).toArray⟩ by rw [hfr, ByteArray.mk_append_mk, ByteArray.mk_append_mk]] at hcs
    clear hfr
    have hcz := fun w => conv_zs 0 (by omega) (Keeps.refl _ (World.alloc w (.cells (bvs (zs 0)).toArray 5)))
    have hcd := fun w => conv_zs 0 (by omega) (Keeps.refl _ (World.alloc w (.cells (bvs (zs 0)).toArray 5))).drew
    have h8 : (num8 ((s.length : Int) + 8)).length = 8 := num8n_length _ _
    have hzl : (zs 0).length = 0 := zs_length _
    go_region_with (refine (refNum _ _).mono ?_; rintro e w1 ⟨rfl, hk⟩; first | (have hcz1 := conv_zs' 0 (by omega) hk.undrew w.heap.size rfl; have hko : Ext w w1 := ((Keeps.refl _ _).alloc _).then hk.undrew) | (have hko : Ext w w1 := hk.undrew))
    all_goals
      clear hmk hmk2 hcz hcd hcs
      go_wp2
      go_ret
      refine framed_fin s hs w _ ?_ _ _ (by first | rfl | simp) rfl
      first | with_reducible exact hko | with_reducible exact hko.alloc _ | with_reducible exact hko.drew | with_reducible exact (hko.alloc _).drew
end Go.Proofs.Ythfedeebfailgaa
