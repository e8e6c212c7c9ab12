/- What the calls of a disk compute: a sector is written. -/
import Derived.Test.YthfedeebfailgaaDisk2
set_option linter.unusedVariables false
set_option linter.unusedSimpArgs false
set_option autoImplicit false
namespace Go.Proofs.Ythfedeebfailgaa
open Go.RowKit

set_option maxRecDepth 100000 in
theorem build_write (i : Int) (w : World) : (Instr.build 137 #[(0, .int .i64 i)]).run Try.prog w = .ok (.agg (.int .i64 i :: secV []).toArray) w := by kernel_rfl
theorem waitV_filled (i : Nat) (l : List UInt8) (h : l.length ≤ 256) : splice (waitV (i, [])) 1 (bvs l) = waitV (i, fit l) := by
  have e : waitV (i, []) = .int .i64 i :: bvs (zs 256) := by
    simp only [waitV, secV]; rw [fit_short [] (by simp)]; rfl
  have e2 : waitV (i, fit l) = .int .i64 i :: (bvs l ++ bvs (zs (256 - l.length))) := by
    simp only [waitV, secV]; rw [fit_fit, fit_short l h, bvs_append]
  rw [e, e2]
  unfold splice
  rw [bvs_length, Nat.add_comm 1 l.length, List.drop_succ_cons, ← bvs_drop]
  show [_] ++ (_ ++ _) = _
  have : (zs 256).drop l.length = zs (256 - l.length) := by unfold zs; rw [List.drop_replicate]
  rw [this]; rfl
/-- The literal of one write. -/
theorem exec_one_write (ts : Array Value) (ds : List Deferred) (dst : Option Tmp) (x : Tmp) (ty : TypeId) (pos : String) (af : Array Edge) (g : Option (Nat × Bool)) (w : World) (h : (ts.getD x undef).cells.size = 257) :
    (execOp (Act.eval ⟨ts, ds⟩) ⟨dst, .buildSlice 110 1 #[(0, .tmp x)], ty, pos, af, g⟩).run Try.prog w = .ok (.value (.slice (some ⟨w.heap.size, 0, none⟩) 1 1)) (w.alloc (.cells (ts.getD x undef).cells 137)) := by
  obtain ⟨i0, hi, hz0, hz1, hz2⟩ := info_parts infoW
  have := run_buildSlice_one (P := Try.prog) w 110 137 (ts.getD x undef) i0 _ Try.underlying110 hi hz0 (by rw [hz1]; exact h) (by omega) (by omega)
  exact ex_buildSlice (ps := [(0, .tmp x)]) rfl rfl this

def WritePost (d bn bs : Nat) (wA : Option Addr) (wc : Nat) (D : DS) (i : Nat) (l : List UInt8) (w : World) (e : Ending) (w' : World) : Prop :=
  ∃ wA' wc', e = .returned (.int .i64 (if D.act.1 then 8 else 0)) ∧ DiskB w' d bn bs wA' wc' (D.write i l) ∧ Keeps (foot d bn bs wA) w w' ∧ (∀ a, wA' = some a → (∃ b, wA = some b ∧ b.block = a.block) ∨ w.heap.size ≤ a.block)

set_option maxRecDepth 100000 in
set_option maxHeartbeats 2000000 in
theorem disk_write (d bn bs : Nat) (wA : Option Addr) (wc : Nat) (D : DS) (i : Nat) (v : Value) (l : List UInt8) (w : World) (hD : DiskB w d bn bs wA wc D) (hi : D.ready i = 0) (hlb : Bytes w v l) (hl : l.length ≤ 256) (hfew : D.waits.length < 1000000)
    (hap : ∀ b o c, v = .slice (some ⟨b, o, none⟩) l.length c → l ≠ [] → b ≠ d) :
    Calls Try.prog 72 #[.pointer (some ⟨d, 0, none⟩), .int .i64 i, v] w (WritePost d bn bs wA wc D i l w) := by
  have hrd := disk_ready d bn bs wA wc D i w hD.st hD.ok.most
  rw [hi] at hrd
  have hi' := Lib.hid hi
  clear hi
  obtain ⟨A, c, rfl, q1, q2, q3⟩ := hlb
  have hlb : Bytes w (.slice A l.length c) l := ⟨A, c, rfl, q1, q2, q3⟩
  clear q1 q2 q3
  have HD := Lib.hid hD
  have Hlb := Lib.hid hlb
  have Hap := Lib.hid hap
  have Hrd := Lib.hid hrd
  clear hD hlb hap hrd
  go_enter Try.func72, Try.ntmps72
  go_wp2_with fail
  refine Hrd.out.mono ?_
  rintro e w0 ⟨rfl, rfl⟩
  go_wp2_with fail
  refine (disk_act d bn bs wA wc D w HD.out.st).mono ?_
  rintro e w1 ⟨rfl, hs1, hk1⟩
  have hal := alloc_write
  have hbu := build_write i w1
  obtain ⟨w2, hst2, hb2, hk2⟩ := store_write w1 (i, [])
  have hlb1 : Bytes w1 (.slice A l.length c) l := Hlb.out.keeps hk1 (fun b o c' e hn => Hap.out b o c' e hn)
  have hlb2 := hlb1.ext hk2
  obtain ⟨w3, hcp, hb3, hk3⟩ := Blk.copy (P := Try.prog) hb2 27 27 5 1 256 256 (.slice A l.length c) l.length (bvs l) Try.underlying27 (size := 1) (by kernel_rfl) (by rw [bvs_length, Nat.mul_one]; exact (Nat.min_eq_left hl).symm) (fun _ => rfl) (by
    have := (hlb2.src (P := Try.prog) Try.underlying27).cells
    rwa [show Nat.min l.length 256 = l.length from Nat.min_eq_left hl]) (by rw [bvs_length, waitV_length]; omega) (bvs_one l)
  rw [waitV_filled i l hl] at hb3
  have Hb3 := Lib.hid hb3
  have Hk3 := Lib.hid hk3
  have Hk2 := Lib.hid hk2
  have Hs1 := Lib.hid hs1
  have Hk1 := Lib.hid hk1
  clear hb3 hk3 hk2 hs1 hk1 hlb1 hlb2 hb2
  have hmn : Nat.min l.length 256 = l.length := Nat.min_eq_left hl
  rw [hmn] at hcp
  clear hmn
  obtain ⟨D1, hD1⟩ : ∃ D1, D1 = D.act.2.2 := ⟨_, rfl⟩
  have hn1 : D1.now = D.now := by rw [hD1, act_now]
  have hsf1 : D1.safe = D.safe := by rw [hD1, act_safe]
  have hw1 : D1.waits = D.waits := by rw [hD1, act_waits]
  have hin : i < D.now.length := by
    have := hi'.out
    unfold DS.ready at this
    split at this
    · cases this
    · split at this
      · omega
      · cases this
  have hm4 : D.now.length ≤ 4096 := HD.out.ok.most
  have HD3 : Hid (DiskB w3 d bn bs wA wc D1) := by
    have h1 : DiskB w1 d bn bs wA wc D1 := by
      have hD := HD.out
      refine ⟨by rw [hD1]; exact Hs1.out, ?_, ?_, ?_, hD.ne, ⟨by rw [hsf1, hn1]; exact hD.ok.same, by rw [hn1]; exact hD.ok.most, by rw [hw1, hn1]; exact hD.ok.at_, by rw [hw1]; exact hD.ok.few⟩⟩
      · rw [hn1]; exact hD.now.keeps Hk1.out (fun e => hD.dn e.symm)
      · rw [hsf1]; exact hD.safe.keeps Hk1.out (fun e => hD.ds e.symm)
      · rw [hw1]; exact Hk1.out.owns hD.waits (fun k hk e => by
          have := owns_ne hD.waits hD.st (by decide)
          cases wA with
          | none => simp [Value.ownBlock] at hk
          | some a => simp [Value.ownBlock] at hk; exact this a rfl (hk.trans e))
    have hlt := h1.lt
    exact (h1.ext Hk2.out).keeps Hk3.out (fun k hk e => by have := hlt k hk; unfold Only at e; omega)
  have d0 := HD3.out.st.cell 0 _ rfl
  simp only [dcells, hn1] at d0
  have hld2 : (Instr.loadAt 134 (.pointer (some ⟨w1.heap.size, 1, none⟩))).run Try.prog w3.drew = .ok (.agg (secV (fit l)).toArray) w3.drew := by
    have := Hb3.out.drew.loadAt (P := Try.prog) 1 256 134 Try.underlying134 rfl sizeS (by simp [waitV_length])
    rw [this]
    congr 3
    simp only [waitV, List.drop_succ_cons, List.drop_zero]
    rw [List.take_of_length_le (by rw [secV_length]; omega)]
  obtain ⟨w4, hst4, hb4, hk4⟩ := Blk.storeAt (P := Try.prog) HD3.out.now.drew (i * 256) 134 (secV (fit l)) (by rw [secV_length]; exact sizeS) (by rw [secV_length, rowsV_length, hn1]; omega) (secV_one _)
  have Hk4 := Lib.hid hk4
  have Hg4 : Hid (Blk w4 w1.heap.size (waitV (i, fit l)).toArray 137) := Hb3.out.drew.keeps hk4 (fun e => by
    have h1 := HD3.out.now.inj (by rw [← (show w1.heap.size = bn from e)]; exact Hb3.out)
    exact absurd h1.2 (by decide))
  have HD4 : Hid (DiskB w4 d bn bs wA wc { D1 with now := D.now.set i (fit l) }) := by
    have hD2 := HD3.out
    have e : splice (rowsV D1.now) (i * 256) (secV (fit l)) = rowsV (D.now.set i (fit l)) := by rw [hn1, Nat.mul_comm]; exact rowsV_set D.now i hin _
    refine ⟨?_, by simpa [e] using hb4, hD2.safe.drew.keeps hk4 (fun e => hD2.ne e.symm), ?_, hD2.ne, ⟨by simpa [hn1] using hD2.ok.same, by simpa [hn1] using hD2.ok.most, by simpa [hn1] using hD2.ok.at_, hD2.ok.few⟩⟩
    · have := hD2.st.drew.keeps hk4 (fun e => hD2.dn e)
      simpa [dcells, hn1] using this
    · exact hk4.owns (w := w3.drew) hD2.waits (fun k hk e => by
        have := owns_ne hD2.waits hD2.now (by decide)
        cases wA with
        | none => simp [Value.ownBlock] at hk
        | some a => simp [Value.ownBlock] at hk; exact this a rfl (hk.trans e))
  clear hb4 hk4
  go_wp2_with (first | ((with_reducible show wpList _ _ _ (Oper.mk _ (Op.build _ _) _ _ _ _ :: _) _ _); refine wpl_val rfl (ex_build rfl rfl hbu) ?_; simp only [Act.put, List.setIfInBounds_toArray, List.set_cons_zero, List.set_cons_succ]) | ((with_reducible show wpList _ _ _ (Oper.mk _ (Op.alloc _) _ _ _ _ :: _) _ _); refine wpl_val rfl (ex_alloc rfl (hal _)) ?_; simp only [Act.put, List.setIfInBounds_toArray, List.set_cons_zero, List.set_cons_succ]) | ((with_reducible show wpList _ _ _ (Oper.mk _ (Op.store _ _ _) _ _ _ _ :: _) _ _); refine wpl_do rfl (ex_store rfl rfl rfl hst2) ?_; simp only [Act.put, List.setIfInBounds_toArray, List.set_cons_zero, List.set_cons_succ]) | ((with_reducible show wpList _ _ _ (Oper.mk _ (Op.call (Call.mk (Callee.builtin Builtin.copy) _ _)) _ _ _ _ :: _) _ _); refine wpl_val rfl (ex_copy rfl rfl rfl hcp) ?_; simp only [Act.put, List.setIfInBounds_toArray, List.set_cons_zero, List.set_cons_succ]))
  refine wp_region_still_tail 7 (by kernel_rfl) (by kernel_rfl) ?_
  simp only [List.take_succ_cons, List.take_zero, List.drop_succ_cons, List.drop_zero, World.drew_eq]
  repeat (first | ((with_reducible show wpStill _ _ _ _ (Oper.mk _ (Op.load _ _) _ _ _ _ :: _) _); refine wps_val rfl (ex_load rfl rfl hld2) ?_) | still_step)
  refine wpStill_nil ?_
  go_wp2_with (first | ((with_reducible show wpList _ _ _ (Oper.mk _ (Op.store _ _ _) _ _ _ _ :: _) _ _); refine wpl_do rfl (ex_store rfl rfl rfl hst4) ?_; simp only [Act.put, List.setIfInBounds_toArray, List.set_cons_zero, List.set_cons_succ]))
  clear hld2 hst4 hcp hst2 hbu hal
  have HK14 : Hid (Keeps (foot d bn bs wA) w w4) := by
    have k12 : Keeps (foot d bn bs wA) w w2 := (Hk1.out.mono (fun k _ e => .inl e)).then Hk2.out
    have k13 := k12.trans' Hk3.out (fun k hk e => by unfold Only at e; have := Hk1.out.size; omega)
    exact k13.drew.trans' Hk4.out (fun k _ e => .inr (.inl e))
  have hsz : w.heap.size ≤ w1.heap.size := Hk1.out.size
  have hgd : ∀ a, wA = some a → a.block ≠ w1.heap.size := by
    intro a ha e
    have := HD.out.lt a.block (.inr (.inr (.inr ⟨a, ha, rfl⟩)))
    omega
  have hlt4 : w1.heap.size < w4.heap.size := Hg4.out.lt
  clear Hk1 Hk2 Hk3 Hk4 Hb3 Hs1 HD3 Hlb Hap Hrd hm4 hsf1 d0
  have hda := owns_ne HD4.out.waits HD4.out.st (by decide)
  have hdg : d ≠ w1.heap.size := by
    have := HD.out.st.lt
    omega
  have e2 : w4.cell? ⟨d, 2, none⟩ = some (.slice wA D.waits.length wc) := by
    have := HD4.out.st.cell 2 _ rfl
    simpa [dcells, hw1] using this
  have r4 : w4.drew.rangeAt w1.heap.size 0 (waitV (i, fit l)) := Hg4.out.drew.range 0 _ (fun j v hj => by simpa using hj)
  have hB5 : Blk (w4.alloc (.cells (waitV (i, fit l)).toArray 137)).drew w4.heap.size (waitV (i, fit l)).toArray 137 := (Blk.new w4 _ _).drew
  have hx5 : Ext w4 (w4.alloc (.cells (waitV (i, fit l)).toArray 137)).drew := ((Keeps.refl _ _).alloc _).drew
  generalize hW5 : (w4.alloc (.cells (waitV (i, fit l)).toArray 137)).drew = w5 at *
  have hD5 := HD4.out.ext hx5
  have hown5 := hD5.waits
  simp only [hw1] at hown5
  have r5 : w5.rangeAt w1.heap.size 0 (waitV (i, fit l)) := (Hg4.out.keeps hx5 (fun x => x)).range 0 _ (fun j v hj => by simpa using hj)
  have hc257 : (waitV (i, fit l)).length = 257 := waitV_length _
  have hsrc5 : Src Try.prog 257 110 (.slice (some ⟨w4.heap.size, 0, none⟩) 1 1) 1 (waitV (i, fit l)) w5 :=
    Src.ofSlice _ Try.underlying110 _ 1 1 _ (by rw [hc257]) (fun j u hj => by rw [Addr.add_mid]; exact hB5.cell _ _ (by simpa using hj)) (waitV_one _)
  have hl4 : (Instr.loadAt 110 (.pointer (some ⟨d, 2, none⟩))).run Try.prog w4.drew = .ok (.slice wA D.waits.length wc) w4.drew := load1 Try.underlying110 rfl e2
  have hl5 : (Instr.loadAt 110 (.pointer (some ⟨d, 2, none⟩))).run Try.prog w5 = .ok (.slice wA D.waits.length wc) w5 := load1 Try.underlying110 rfl (hx5.cell e2 (fun x => x))
  obtain ⟨i0, hi0, hz0, hz1, hz2⟩ := info_parts infoW
  have hbw : (Instr.buildSlice 110 1 #[(0, .agg (waitV (i, fit l)).toArray)]).run Try.prog w4.drew = .ok (.slice (some ⟨w4.heap.size, 0, none⟩) 1 1) w5 := by
    rw [run_buildSlice_one (P := Try.prog) w4.drew 110 137 (.agg (waitV (i, fit l)).toArray) i0 _ Try.underlying110 hi0 hz0 (by rw [hz1]; exact waitV_length _) (by omega) (by omega), ← hW5]
    rfl
  have hs137 : (Try.prog.info? 137).map (·.size) = some (waitV (i, fit l)).length := by rw [waitV_length]; exact sizeW
  have HD4' := HD4
  have hsz45 : w4.heap.size ≤ w5.heap.size := hx5.size
  have hst5 := hD5.st
  obtain ⟨D2, hD2⟩ : ∃ D2 : DS, D2 = { D1 with now := D1.now.set i (fit l), waits := D1.waits ++ [(i, fit l)] } := ⟨_, rfl⟩
  have hWr : D.write i l = if D.act.1 then D2.off D.act.2.1 else D2 := by rw [hD2, hD1]; rfl
  have HWr := Lib.hid hWr
  have Hfin : Hid (∀ (w6 w7 : World) (A6 : Option Addr) (c6 : Nat), w5.grownBy w6 (Value.slice wA D.waits.length wc).ownBlock → w6.ownsRow 0 137 257 (.slice A6 (D.waits.length + 1) c6) (D.waits.length + 1) (waitsV D.waits ++ waitV (i, fit l)) →
      (∀ k, (Value.slice A6 (D.waits.length + 1) c6).ownBlock = some k → (Value.slice wA D.waits.length wc).ownBlock = some k ∨ w5.heap.size ≤ k) → w7 = w6.setCell ⟨d, 2, none⟩ (.slice A6 (D.waits.length + 1) c6) →
      DiskB w7 d bn bs A6 c6 D2 ∧ Keeps (foot d bn bs wA) w w7 ∧ (∀ a, A6 = some a → (∃ b, wA = some b ∧ b.block = a.block) ∨ w.heap.size ≤ a.block)) := by
    intro w6 w7 A6 c6 hg hown hf h7
    have hda := owns_ne hD5.waits hD5.st (by decide)
    have hna := owns_ne hD5.waits hD5.now (by decide)
    have hsa := owns_ne hD5.waits hD5.safe (by decide)
    have hne : ∀ b, (∀ a, wA = some a → a.block ≠ b) → some b ≠ (Value.slice wA D.waits.length wc).ownBlock := by
      intro b hb e
      cases wA with
      | none => simp [Value.ownBlock] at e
      | some a => simp [Value.ownBlock] at e; exact hb a rfl e.symm
    have g1 : Blk w6 d _ _ := hD5.st.grown hg (hne d hda)
    have g2 : Blk w6 bn _ _ := hD5.now.grown hg (hne bn hna)
    have g3 : Blk w6 bs _ _ := hD5.safe.grown hg (hne bs hsa)
    have hA6d : ∀ a, A6 = some a → a.block ≠ d := owns_ne hown g1 (by decide)
    have k67 : Keeps (Only d) w6 w7 := by rw [h7]; exact (Keeps.refl _ _).set1 _ _
    refine ⟨⟨?_, ?_, ?_, ?_, hD5.ne, ⟨?_, ?_, ?_, ?_⟩⟩, ?_, ?_⟩
    · rw [h7]
      have := g1.set 2 (.slice A6 (D.waits.length + 1) c6)
      simpa [dcells, hD2, hw1, hn1] using this
    · have := g2.keeps k67 (fun e => hD5.dn e.symm)
      simpa [hD2, hn1] using this
    · have := g3.keeps k67 (fun e => hD5.ds e.symm)
      simpa [hD2] using this
    · have := k67.owns hown (fun k hk e => by
        cases A6 with
        | none => simp [Value.ownBlock] at hk
        | some a => simp [Value.ownBlock] at hk; exact hA6d a rfl (hk.trans e))
      simpa [hD2, hw1, waitsV] using this
    · have := hD5.ok.same; simpa [hD2, hn1] using this
    · have := hD5.ok.most; simpa [hD2, hn1] using this
    · have h1 := hD5.ok.at_
      have h2 := hD5.ok.most
      intro x hx
      simp only [hD2, hn1, hw1, List.mem_append, List.mem_singleton, List.length_set] at hx ⊢
      rcases hx with hx | rfl
      · have := h1 x (by simpa [hw1] using hx); simpa using this
      · exact hin
    · simp only [hD2, hw1, List.length_append, List.length_singleton]; omega
    · have k46 : Keeps (foot d bn bs wA) w w6 := (HK14.out.then hx5).grown hg (fun k hk _ => .inr (.inr (.inr (by
        cases wA with
        | none => simp [Value.ownBlock] at hk
        | some a => simp [Value.ownBlock] at hk; exact ⟨a, rfl, hk⟩))))
      exact k46.trans' k67 (fun k _ e => .inl e)
    · intro a ha
      subst ha
      rcases hf a.block rfl with h | h
      · left
        cases wA with
        | none => simp [Value.ownBlock] at h
        | some b => simp [Value.ownBlock] at h; exact ⟨b, rfl, h⟩
      · right
        have := HK14.out.size
        have := hx5.size
        omega
  clear HD4 hD5 hB5 hx5 hW5 e2 Hg4 hn1
  refine wp_region_held_drew (S := (fun w' => w'.rangeAt w1.heap.size 0 (waitV (i, fit l)))) (by kernel_rfl) (r4) (fun hHeld => ?_)
  refine' qtake 0 ?hi2 ?hs2 ?hf2 ?hr2 ?hpf2 ?hg2 ?hy2 ?hS2 ?h2
  case hi2 => simp only [List.getElem?_toArray, List.getElem?_cons_succ, List.getElem?_cons_zero]; rfl
  case hs2 => kernel_rfl
  case hf2 => kernel_rfl
  case hr2 => kernel_rfl
  case hpf2 => repeat (first | exact PF.body | refine PF.then ?_ | refine PF.inBlock ?_)
  case hg2 => rfl
  case hS2 => assumption
  case hy2 =>
    intro w' hS'
    (try dsimp only at hS')
    go_simp
    (try with_reducible rfl)
  (try simp only [Act.put, List.setIfInBounds_toArray, List.set_cons_zero, List.set_cons_succ])
  refine' qtake 1 ?hi3 ?hs3 ?hf3 ?hr3 ?hpf3 ?hg3 ?hy3 ?hS3 ?h3
  case hi3 => simp only [List.getElem?_toArray, List.getElem?_cons_succ, List.getElem?_cons_zero]; rfl
  case hs3 => kernel_rfl
  case hf3 => kernel_rfl
  case hr3 => kernel_rfl
  case hpf3 => repeat (first | exact PF.body | refine PF.then ?_ | refine PF.inBlock ?_)
  case hg3 => rfl
  case hS3 => assumption
  case hy3 =>
    intro w' hS'
    (try dsimp only at hS')
    go_simp
    (try with_reducible rfl)
  (try simp only [Act.put, List.setIfInBounds_toArray, List.set_cons_zero, List.set_cons_succ])
  refine' qtake 2 ?hi4 ?hs4 ?hf4 ?hr4 ?hpf4 ?hg4 ?hy4 ?hS4 ?h4
  case hi4 => simp only [List.getElem?_toArray, List.getElem?_cons_succ, List.getElem?_cons_zero]; rfl
  case hs4 => kernel_rfl
  case hf4 => kernel_rfl
  case hr4 => kernel_rfl
  case hpf4 => repeat (first | exact PF.body | refine PF.then ?_ | refine PF.inBlock ?_)
  case hg4 => rfl
  case hS4 => assumption
  case hy4 =>
    intro w' hS'
    (try dsimp only at hS')
    go_simp
    (try with_reducible rfl)
  (try simp only [Act.put, List.setIfInBounds_toArray, List.set_cons_zero, List.set_cons_succ])
  refine' qtake 3 ?hi5 ?hs5 ?hf5 ?hr5 ?hpf5 ?hg5 ?hy5 ?hS5 ?h5
  case hi5 => simp only [List.getElem?_toArray, List.getElem?_cons_succ, List.getElem?_cons_zero]; rfl
  case hs5 => kernel_rfl
  case hf5 => kernel_rfl
  case hr5 => kernel_rfl
  case hpf5 => repeat (first | exact PF.body | refine PF.then ?_ | refine PF.inBlock ?_)
  case hg5 => rfl
  case hS5 => assumption
  case hy5 =>
    intro w' hS'
    (try dsimp only at hS')
    go_simp
    (try with_reducible rfl)
  (try simp only [Act.put, List.setIfInBounds_toArray, List.set_cons_zero, List.set_cons_succ])
  refine' qtake 5 ?hi6 ?hs6 ?hf6 ?hr6 ?hpf6 ?hg6 ?hy6 ?hS6 ?h6
  case hi6 => simp only [List.getElem?_toArray, List.getElem?_cons_succ, List.getElem?_cons_zero]; rfl
  case hs6 => kernel_rfl
  case hf6 => kernel_rfl
  case hr6 => kernel_rfl
  case hpf6 => repeat (first | exact PF.body | refine PF.then ?_ | refine PF.inBlock ?_)
  case hg6 => rfl
  case hS6 => assumption
  case hy6 => intro w' hS'; exact ex_load rfl rfl (run_loadAt_mid w' w1.heap.size 0 _ (waitV (i, fit l)) _ hS' Try.underlying137 rfl hs137)
  (try simp only [Act.put, List.setIfInBounds_toArray, List.set_cons_zero, List.set_cons_succ])
  refine wpAnyH_ready (rs := [4, 6]) (by kernel_rfl) (by simp) ?_
  refine' AllReadyH.cons ?ho7 (fun K hK => ?hk7) (AllReadyH.cons ?hoo7 (fun K hK => ?hkk7) AllReadyH.nil)
  case ho7 => simp only [List.getElem?_toArray, List.getElem?_cons_succ, List.getElem?_cons_zero]; rfl
  case hoo7 => simp only [List.getElem?_toArray, List.getElem?_cons_succ, List.getElem?_cons_zero]; rfl
  · refine step_val rfl (ex_load rfl rfl hl4) ?_
    refine hK.out _ _ (r4) (fun hHeld' => ?_)
    clear hK K
    (try simp only [Act.put, List.setIfInBounds_toArray, List.set_cons_zero, List.set_cons_succ])
    refine wpAnyH_ready (rs := [6]) (by kernel_rfl) (by simp) ?_
    refine' AllReadyH.cons ?ho9 (fun K hK => ?hk9) AllReadyH.nil
    case ho9 => simp only [List.getElem?_toArray, List.getElem?_cons_succ, List.getElem?_cons_zero]; rfl
    refine step_val rfl (ex_buildSlice (ps := [(0, .tmp 44)]) rfl rfl hbw) ?_
    refine hK.out _ _ (r5) (fun hHeld' => ?_)
    clear hK K
    (try simp only [Act.put, List.setIfInBounds_toArray, List.set_cons_zero, List.set_cons_succ])
    refine wpAnyH_ready (rs := [7]) (by kernel_rfl) (by simp) ?_
    refine' AllReadyH.cons ?ho11 (fun K hK => ?hk11) AllReadyH.nil
    case ho11 => simp only [List.getElem?_toArray, List.getElem?_cons_succ, List.getElem?_cons_zero]; rfl
    refine step_append rfl _ _ 110 110 rfl 0 137 i0 _ 257 264 Try.underlying110 hi0 hz0 hz1 hz2 (waitV_length _) (.slice wA D.waits.length wc) D.waits.length (waitsV D.waits) rfl hown5 _ 1 (waitV (i, fit l)) rfl hsrc5 (by simp only [maxLen]; omega) (by omega) (by omega) ?_
    intro A6 c6 w6 hown6 hgrow hfoot
    have r6 : w6.rangeAt w1.heap.size 0 (waitV (i, fit l)) := fun j v hj => hgrow.cell (r5 j v hj) (fun e => by
      cases wA with
      | none => simp [Value.ownBlock] at e
      | some a => simp [Value.ownBlock] at e; exact hgd a rfl e.symm)
    have hst6 : Blk w6 d _ _ := hst5.grown hgrow (fun e => by
      cases wA with
      | none => simp [Value.ownBlock] at e
      | some a => simp [Value.ownBlock] at e; exact hda a rfl e.symm)
    have e6 := hst6.cell 2 _ rfl
    have f6 := hst6.free 2
    have hdlt := hst5.lt
    have r7 : (w6.setCell ⟨d, 2, none⟩ (.slice A6 (D.waits.length + 1) c6)).rangeAt w1.heap.size 0 (waitV (i, fit l)) := fun j v hj => by
      rw [World.cell?_setCell_other _ _ _ _ (fun e => by injection e with e _ _; exact hdg e)]
      exact r6 j v hj
    refine hK.out _ _ (r6) (fun hHeld' => ?_)
    clear hK K
    (try simp only [Act.put, List.setIfInBounds_toArray, List.set_cons_zero, List.set_cons_succ])
    refine' qtake 8 ?hi13 ?hs13 ?hf13 ?hr13 ?hpf13 ?hg13 ?hy13 ?hS13 ?h13
    case hi13 => simp only [List.getElem?_toArray, List.getElem?_cons_succ, List.getElem?_cons_zero]; rfl
    case hs13 => kernel_rfl
    case hf13 => kernel_rfl
    case hr13 => kernel_rfl
    case hpf13 => repeat (first | exact PF.body | refine PF.then ?_ | refine PF.inBlock ?_)
    case hg13 => rfl
    case hS13 => assumption
    case hy13 =>
      intro w' hS'
      (try dsimp only at hS')
      go_simp
      (try with_reducible rfl)
    (try simp only [Act.put, List.setIfInBounds_toArray, List.set_cons_zero, List.set_cons_succ])
    refine' qtake 9 ?hi14 ?hs14 ?hf14 ?hr14 ?hpf14 ?hg14 ?hy14 ?hS14 ?h14
    case hi14 => simp only [List.getElem?_toArray, List.getElem?_cons_succ, List.getElem?_cons_zero]; rfl
    case hs14 => kernel_rfl
    case hf14 => kernel_rfl
    case hr14 => kernel_rfl
    case hpf14 => repeat (first | exact PF.body | refine PF.then ?_ | refine PF.inBlock ?_)
    case hg14 => rfl
    case hS14 => assumption
    case hy14 =>
      intro w' hS'
      (try dsimp only at hS')
      go_simp
      (try with_reducible rfl)
    (try simp only [Act.put, List.setIfInBounds_toArray, List.set_cons_zero, List.set_cons_succ])
    refine wpAnyH_ready (rs := [10]) (by kernel_rfl) (by simp) ?_
    refine' AllReadyH.cons ?ho15 (fun K hK => ?hk15) AllReadyH.nil
    case ho15 => simp only [List.getElem?_toArray, List.getElem?_cons_succ, List.getElem?_cons_zero]; rfl
    refine step_do rfl (ex_store (p := .pointer (some ⟨d, 2, none⟩)) (v := .slice A6 (D.waits.length + 1) c6) rfl rfl rfl (store1 (by kernel_rfl) rfl rfl e6 f6)) ?_
    refine hK.out _ _ (r7) (fun hHeld' => ?_)
    clear hK K
    (try simp only [Act.put, List.setIfInBounds_toArray, List.set_cons_zero, List.set_cons_succ])
    refine wpAnyH_done (by kernel_rfl) ?_ _
    obtain ⟨q1, q2, q3⟩ := Hfin.out w6 _ A6 c6 hgrow hown6 hfoot rfl
    generalize w6.setCell ⟨d, 2, none⟩ (.slice A6 (D.waits.length + 1) c6) = w7 at *
    have Hq1 := Lib.hid q1
    have Hq2 := Lib.hid q2
    have Hq3 := Lib.hid q3
    clear q1 q2 q3 r7 e6 f6 hst6 r6 hown6 hgrow hfoot hHeld' hHeld Hfin hst5 hsrc5 hown5 r4 r5 hl4 hl5 hbw hs137
    cases hgo : D.act.1 with
    | false =>
      have HW : Hid (WritePost d bn bs wA wc D i l w (.returned (.int .i64 0)) w7) := ⟨A6, c6, by rw [hgo]; rfl, by rw [HWr.out, hgo]; exact Hq1.out, Hq2.out, Hq3.out⟩
      have Hgo := Lib.hid hgo
      try rw [hgo]
      clear hgo
      go_wp2
      go_ret
      exact HW.out
    | true =>
      have Hgo := Lib.hid hgo
      try rw [hgo]
      clear hgo
      go_wp2_with fail
      refine (disk_off d bn bs A6 c6 D2 D.act.2.1 w7 Hq1.out).mono ?_
      rintro e w8 ⟨wA8, wc8, rfl, hD8, hk8, hA8⟩
      have HW : Hid (WritePost d bn bs wA wc D i l w (.returned (.int .i64 8)) w8) := by
        refine ⟨wA8, wc8, by rw [Hgo.out]; rfl, by rw [HWr.out, Hgo.out]; exact hD8, ?_, ?_⟩
        · refine Hq2.out.trans' hk8 (fun k hk e => ?_)
          rcases e with e | e | e | ⟨a, ha, e⟩
          · exact .inl e
          · exact .inr (.inl e)
          · exact .inr (.inr (.inl e))
          · rcases Hq3.out a ha with ⟨b, hb, hab⟩ | h
            · exact .inr (.inr (.inr ⟨b, hb, hab.trans e⟩))
            · omega
        · intro a ha
          rcases hA8 with h | h
          · rw [h] at ha; cases ha
          · exact Hq3.out a (by rw [← h]; exact ha)
      clear hD8 hk8 hA8
      go_wp2
      go_ret
      exact HW.out
  · refine step_val rfl (ex_buildSlice (ps := [(0, .tmp 44)]) rfl rfl hbw) ?_
    refine hK.out _ _ (r5) (fun hHeld' => ?_)
    clear hK K
    (try simp only [Act.put, List.setIfInBounds_toArray, List.set_cons_zero, List.set_cons_succ])
    refine wpAnyH_ready (rs := [4]) (by kernel_rfl) (by simp) ?_
    refine' AllReadyH.cons ?ho19 (fun K hK => ?hk19) AllReadyH.nil
    case ho19 => simp only [List.getElem?_toArray, List.getElem?_cons_succ, List.getElem?_cons_zero]; rfl
    refine step_val rfl (ex_load rfl rfl hl5) ?_
    refine hK.out _ _ (r5) (fun hHeld' => ?_)
    clear hK K
    (try simp only [Act.put, List.setIfInBounds_toArray, List.set_cons_zero, List.set_cons_succ])
    refine wpAnyH_ready (rs := [7]) (by kernel_rfl) (by simp) ?_
    refine' AllReadyH.cons ?ho21 (fun K hK => ?hk21) AllReadyH.nil
    case ho21 => simp only [List.getElem?_toArray, List.getElem?_cons_succ, List.getElem?_cons_zero]; rfl
    refine step_append rfl _ _ 110 110 rfl 0 137 i0 _ 257 264 Try.underlying110 hi0 hz0 hz1 hz2 (waitV_length _) (.slice wA D.waits.length wc) D.waits.length (waitsV D.waits) rfl hown5 _ 1 (waitV (i, fit l)) rfl hsrc5 (by simp only [maxLen]; omega) (by omega) (by omega) ?_
    intro A6 c6 w6 hown6 hgrow hfoot
    have r6 : w6.rangeAt w1.heap.size 0 (waitV (i, fit l)) := fun j v hj => hgrow.cell (r5 j v hj) (fun e => by
      cases wA with
      | none => simp [Value.ownBlock] at e
      | some a => simp [Value.ownBlock] at e; exact hgd a rfl e.symm)
    have hst6 : Blk w6 d _ _ := hst5.grown hgrow (fun e => by
      cases wA with
      | none => simp [Value.ownBlock] at e
      | some a => simp [Value.ownBlock] at e; exact hda a rfl e.symm)
    have e6 := hst6.cell 2 _ rfl
    have f6 := hst6.free 2
    have hdlt := hst5.lt
    have r7 : (w6.setCell ⟨d, 2, none⟩ (.slice A6 (D.waits.length + 1) c6)).rangeAt w1.heap.size 0 (waitV (i, fit l)) := fun j v hj => by
      rw [World.cell?_setCell_other _ _ _ _ (fun e => by injection e with e _ _; exact hdg e)]
      exact r6 j v hj
    refine hK.out _ _ (r6) (fun hHeld' => ?_)
    clear hK K
    (try simp only [Act.put, List.setIfInBounds_toArray, List.set_cons_zero, List.set_cons_succ])
    refine' qtake 8 ?hi23 ?hs23 ?hf23 ?hr23 ?hpf23 ?hg23 ?hy23 ?hS23 ?h23
    case hi23 => simp only [List.getElem?_toArray, List.getElem?_cons_succ, List.getElem?_cons_zero]; rfl
    case hs23 => kernel_rfl
    case hf23 => kernel_rfl
    case hr23 => kernel_rfl
    case hpf23 => repeat (first | exact PF.body | refine PF.then ?_ | refine PF.inBlock ?_)
    case hg23 => rfl
    case hS23 => assumption
    case hy23 =>
      intro w' hS'
      (try dsimp only at hS')
      go_simp
      (try with_reducible rfl)
    (try simp only [Act.put, List.setIfInBounds_toArray, List.set_cons_zero, List.set_cons_succ])
    refine' qtake 9 ?hi24 ?hs24 ?hf24 ?hr24 ?hpf24 ?hg24 ?hy24 ?hS24 ?h24
    case hi24 => simp only [List.getElem?_toArray, List.getElem?_cons_succ, List.getElem?_cons_zero]; rfl
    case hs24 => kernel_rfl
    case hf24 => kernel_rfl
    case hr24 => kernel_rfl
    case hpf24 => repeat (first | exact PF.body | refine PF.then ?_ | refine PF.inBlock ?_)
    case hg24 => rfl
    case hS24 => assumption
    case hy24 =>
      intro w' hS'
      (try dsimp only at hS')
      go_simp
      (try with_reducible rfl)
    (try simp only [Act.put, List.setIfInBounds_toArray, List.set_cons_zero, List.set_cons_succ])
    refine wpAnyH_ready (rs := [10]) (by kernel_rfl) (by simp) ?_
    refine' AllReadyH.cons ?ho25 (fun K hK => ?hk25) AllReadyH.nil
    case ho25 => simp only [List.getElem?_toArray, List.getElem?_cons_succ, List.getElem?_cons_zero]; rfl
    refine step_do rfl (ex_store (p := .pointer (some ⟨d, 2, none⟩)) (v := .slice A6 (D.waits.length + 1) c6) rfl rfl rfl (store1 (by kernel_rfl) rfl rfl e6 f6)) ?_
    refine hK.out _ _ (r7) (fun hHeld' => ?_)
    clear hK K
    (try simp only [Act.put, List.setIfInBounds_toArray, List.set_cons_zero, List.set_cons_succ])
    refine wpAnyH_done (by kernel_rfl) ?_ _
    obtain ⟨q1, q2, q3⟩ := Hfin.out w6 _ A6 c6 hgrow hown6 hfoot rfl
    generalize w6.setCell ⟨d, 2, none⟩ (.slice A6 (D.waits.length + 1) c6) = w7 at *
    have Hq1 := Lib.hid q1
    have Hq2 := Lib.hid q2
    have Hq3 := Lib.hid q3
    clear q1 q2 q3 r7 e6 f6 hst6 r6 hown6 hgrow hfoot hHeld' hHeld Hfin hst5 hsrc5 hown5 r4 r5 hl4 hl5 hbw hs137
    cases hgo : D.act.1 with
    | false =>
      have HW : Hid (WritePost d bn bs wA wc D i l w (.returned (.int .i64 0)) w7) := ⟨A6, c6, by rw [hgo]; rfl, by rw [HWr.out, hgo]; exact Hq1.out, Hq2.out, Hq3.out⟩
      have Hgo := Lib.hid hgo
      try rw [hgo]
      clear hgo
      go_wp2
      go_ret
      exact HW.out
    | true =>
      have Hgo := Lib.hid hgo
      try rw [hgo]
      clear hgo
      go_wp2_with fail
      refine (disk_off d bn bs A6 c6 D2 D.act.2.1 w7 Hq1.out).mono ?_
      rintro e w8 ⟨wA8, wc8, rfl, hD8, hk8, hA8⟩
      have HW : Hid (WritePost d bn bs wA wc D i l w (.returned (.int .i64 8)) w8) := by
        refine ⟨wA8, wc8, by rw [Hgo.out]; rfl, by rw [HWr.out, Hgo.out]; exact hD8, ?_, ?_⟩
        · refine Hq2.out.trans' hk8 (fun k hk e => ?_)
          rcases e with e | e | e | ⟨a, ha, e⟩
          · exact .inl e
          · exact .inr (.inl e)
          · exact .inr (.inr (.inl e))
          · rcases Hq3.out a ha with ⟨b, hb, hab⟩ | h
            · exact .inr (.inr (.inr ⟨b, hb, hab.trans e⟩))
            · omega
        · intro a ha
          rcases hA8 with h | h
          · rw [h] at ha; cases ha
          · exact Hq3.out a (by rw [← h]; exact ha)
      clear hD8 hk8 hA8
      go_wp2
      go_ret
      exact HW.out
end Go.Proofs.Ythfedeebfailgaa
