/- What the calls of a disk compute: the power goes. -/
import Derived.Test.YthfedeebfailgaaDisk
set_option linter.unusedVariables false
set_option linter.unusedSimpArgs false
set_option autoImplicit false
namespace Go.Proofs.Ythfedeebfailgaa
open Go.RowKit

theorem infoW : (Try.prog.info? 137).map (fun i => (i.zero, i.size, i.bytes)) = some (some (.agg (waitV (0, [])).toArray), 257, 264) := by kernel_rfl
theorem sizeW : (Try.prog.info? 137).map (·.size) = some 257 := by kernel_rfl
theorem sizeS : (Try.prog.info? 134).map (·.size) = some 256 := by kernel_rfl
theorem alloc_write (w : World) : (Instr.alloc 137 true (.tuple #[])).run Try.prog w = .ok (.pointer (some ⟨w.heap.size, 0, none⟩)) (w.alloc (.cells (waitV (0, [])).toArray 137)) := by
  obtain ⟨i0, hi, hz0, hz1, hz2⟩ := info_parts infoW
  simp [Instr.alloc, zeroValue, typeInfo, hi, hz0, newVar, newRow, Value.cells, newObj]
  rfl
theorem splice_all (L M : List Value) (h : L.length = M.length) : splice L 0 M = M := by
  unfold splice; simp [← h]
/-- A write's variable is filled. -/
theorem store_write (w : World) (x : Nat × List UInt8) : ∃ w', (Instr.storeAt 137 (.pointer (some ⟨w.heap.size, 0, none⟩)) (.agg (waitV x).toArray)).run Try.prog (w.alloc (.cells (waitV (0, [])).toArray 137)) = .ok () w' ∧ Blk w' w.heap.size (waitV x).toArray 137 ∧ Ext w w' := by
  obtain ⟨w', h1, h2, h3⟩ := Blk.storeAt (P := Try.prog) (Blk.new w (waitV (0, [])).toArray 137) 0 137 (waitV x) (by rw [waitV_length]; exact sizeW) (by simp [waitV_length]) (waitV_one x)
  rw [splice_all _ _ (by simp [waitV_length])] at h2
  exact ⟨w', h1, h2, ((Keeps.refl _ _).alloc _).trans' h3 (fun i hi e => by unfold Only at e; omega)⟩
/-- The i-th waiting write is read. -/
theorem load_wait {w : World} {g n c : Nat} {W : List (Nat × List UInt8)} (h : w.ownsRow 0 137 257 (.slice (some ⟨g, 0, none⟩) n c) n (waitsV W)) (i : Nat) (hi : i < W.length) :
    (Instr.loadAt 137 (.pointer (some ⟨g, i * 257, none⟩))).run Try.prog w = .ok (.agg (waitV W[i]).toArray) w := by
  refine run_loadAt_mid w g (i * 257) 137 (waitV W[i]) _ (fun j v hj => ?_) Try.underlying137 rfl (by rw [waitV_length]; exact sizeW)
  have hj257 : j < 257 := by have := (List.getElem?_eq_some_iff.1 hj).1; rw [waitV_length] at this; exact this
  have := h.cells (g := g) rfl (i * 257 + j) v (by
    rw [← waitsV_get W i hi, List.getElem?_take, if_pos hj257, List.getElem?_drop] at hj
    exact hj)
  rwa [Addr.add_mid, Nat.zero_add] at this
theorem owns_addr {w : World} {base : Nat} {e : TypeId} {size n m c : Nat} {A : Option Addr} {xs : List Value} (h : w.ownsRow base e size (.slice A m c) n xs) (hn : 0 < n) : ∃ g, A = some ⟨g, 0, none⟩ := by
  rcases h.2 with ⟨_, h1⟩ | ⟨g, cap, cur, h1, _⟩
  · omega
  · injection h1 with h1; exact ⟨g, h1⟩

def OffPost (d bn bs : Nat) (wA : Option Addr) (wc : Nat) (D : DS) (keep : Int) (w : World) (e : Ending) (w' : World) : Prop :=
  ∃ wA' wc', e = .returned (.tuple #[]) ∧ DiskB w' d bn bs wA' wc' (D.off keep) ∧ Keeps (foot d bn bs wA) w w' ∧ (wA' = none ∨ wA' = wA)
set_option maxRecDepth 100000 in
set_option maxHeartbeats 1000000 in
theorem disk_off (d bn bs : Nat) (wA : Option Addr) (wc : Nat) (D : DS) (keep : Int) (w : World) (hD : DiskB w d bn bs wA wc D) :
    Calls Try.prog 36 #[.pointer (some ⟨d, 0, none⟩), .int .u64 keep] w (OffPost d bn bs wA wc D keep w) := by
  obtain ⟨now, safe, waits, down, acts, fuse, keep0⟩ := D
  cases down with
  | true =>
    have c3 := hD.st.cell 3 _ rfl
    simp only [dcells] at c3
    go_enter Try.func36, Try.ntmps36
    go_wp2
    go_end0
    exact ⟨wA, wc, rfl, hD, Keeps.refl _ _, .inr rfl⟩
  | false =>
    have c2 := hD.st.cell 2 _ rfl
    have c3 := hD.st.cell 3 _ rfl
    simp only [dcells] at c2 c3
    obtain ⟨Sf, hSf⟩ : ∃ Sf, Sf = offSafe keep waits 0 safe := ⟨_, rfl⟩
    have HSf := Lib.hid hSf
    clear hSf
    have HD := Lib.hid hD
    have Hfew := Lib.hid hD.ok.few
    have hfew : waits.length ≤ 1000000 := Hfew.out
    clear hD
    go_enter Try.func36, Try.ntmps36
    go_wp2
    go_loopw [4, 5, 19] (fun a b i wr => ∃ (k : Nat) (S : List (List UInt8)), k ≤ waits.length ∧ i = .int .i64 k ∧ S.length = safe.length ∧ offSafe keep (waits.drop k) k S = Sf ∧ DiskB wr d bn bs wA wc ⟨now, S, waits, false, acts, fuse, keep0⟩ ∧ Keeps (Only bs) w wr) (fun _ _ i _ => waits.length - (intOf i).toNat)
    case atStart => exact ⟨0, safe, Nat.zero_le _, rfl, rfl, HSf.out.symm, HD.out, Keeps.refl _ _⟩
    case round =>
      obtain ⟨k, S, hk, rfl, hSl, hSS, hDr, hkr⟩ := hrel
      have HSl := Lib.hid hSl
      have HSS := Lib.hid hSS
      have HDr := Lib.hid hDr
      have Hkr := Lib.hid hkr
      clear hSl hSS hDr hkr
      have hk' := hk
      by_cases hlt : k < waits.length
      · obtain ⟨g, rfl⟩ := owns_addr HDr.out.waits (by show 0 < waits.length; omega)
        have hld := load_wait HDr.out.waits k hlt
        have hal := alloc_write
        obtain ⟨w2, hst, hb2, hk2⟩ := store_write wr waits[k]
        obtain ⟨x, hx⟩ : ∃ x, waits[k] = x := ⟨_, rfl⟩
        obtain ⟨xa, xs⟩ := x
        have Hx := Lib.hid hx
        rw [hx] at hld hst hb2
        have hdrop : offSafe keep (waits.drop k) k S = offSafe keep (waits.drop (k + 1)) (k + 1) (if keptBit keep k then S.set xa xs else S) := by
          rw [List.drop_eq_getElem_cons hlt, hx, offSafe]
        have Hdrop := Lib.hid hdrop
        have hxa : xa < S.length := by
          have h1 := HDr.out.ok.at_ (xa, xs) (by rw [← hx]; exact List.getElem_mem hlt)
          have h2 := HDr.out.ok.same
          simp only at h1 h2; omega
        have hxn : xa < now.length := HDr.out.ok.at_ (xa, xs) (by rw [← hx]; exact List.getElem_mem hlt)
        have hS4 : S.length ≤ 4096 := by
          have h1 := HDr.out.ok.most
          have h2 := HDr.out.ok.same
          simp only at h1 h2; omega
        have HD2 := Lib.hid (HDr.out.ext hk2)
        have Hb2 := Lib.hid hb2
        have Hk2 := Lib.hid hk2
        clear hx hb2 hk2 hdrop
        cases hbit : keptBit keep k with
        | true =>
          have hbit' : (bits BinOp.and IntKind.u64 (keep / 2 ^ (k % 64)) 1 == 1) = true := hbit
          have Hbit := Lib.hid hbit
          clear hbit
          have d1 := HD2.out.st.cell 1 _ rfl
          simp only [dcells] at d1
          have q0 := Hb2.out.cell 0 (.int .i64 xa) rfl
          have hld2 : (Instr.loadAt 134 (.pointer (some ⟨wr.heap.size, 1, none⟩))).run Try.prog w2.drew = .ok (.agg (secV xs).toArray) w2.drew := by
            have := Hb2.out.drew.loadAt (P := Try.prog) 1 256 134 Try.underlying134 rfl sizeS (by simp [waitV_length])
            rw [this]
            congr 3
            simp only [waitV, List.drop_succ_cons, List.drop_zero]
            rw [List.take_of_length_le (by rw [secV_length]; omega)]
          obtain ⟨w3, hst3, hb3, hk3⟩ := Blk.storeAt (P := Try.prog) HD2.out.safe.drew (xa * 256) 134 (secV xs) (by rw [secV_length]; exact sizeS) (by rw [secV_length, rowsV_length]; show xa * 256 + 256 ≤ 256 * S.length; omega) (secV_one xs)
          have HD3 : Hid (DiskB w3 d bn bs (some ⟨g, 0, none⟩) wc ⟨now, S.set xa xs, waits, false, acts, fuse, keep0⟩) := by
            have hD2 := HD2.out
            have e : splice (rowsV S) (xa * 256) (secV xs) = rowsV (S.set xa xs) := by rw [Nat.mul_comm]; exact rowsV_set S xa hxa xs
            refine ⟨hD2.st.drew.keeps hk3 (fun e => hD2.ds e), hD2.now.drew.keeps hk3 (fun e => hD2.ne e), by simpa [e] using hb3, ?_, hD2.ne, ⟨by simpa using hD2.ok.same, hD2.ok.most, hD2.ok.at_, hD2.ok.few⟩⟩
            exact hk3.owns (w := w2.drew) hD2.waits (fun i hi e => by
              have := owns_ne hD2.waits hD2.safe (by decide) _ rfl
              simp [Value.ownBlock] at hi
              subst hi; exact this e)
          have Hk3 : Hid (Keeps (Only bs) w w3) := (Hkr.out.then Hk2.out).drew.trans hk3
          clear hb3 hk3
          go_wp2_with (first | ((with_reducible show wpList _ _ _ (Oper.mk _ (Op.load _ _) _ _ _ _ :: _) _ _); refine wpl_val rfl (ex_load rfl rfl hld) ?_) | ((with_reducible show wpList _ _ _ (Oper.mk _ (Op.alloc _) _ _ _ _ :: _) _ _); refine wpl_val rfl (ex_alloc rfl (hal _)) ?_) | ((with_reducible show wpList _ _ _ (Oper.mk _ (Op.store _ _ _) _ _ _ _ :: _) _ _); refine wpl_do rfl (ex_store rfl rfl rfl hst) ?_))
          refine wp_region_still_tail 8 (by kernel_rfl) (by kernel_rfl) ?_
          simp only [List.take_succ_cons, List.take_zero, List.drop_succ_cons, List.drop_zero, World.drew_eq]
          repeat (first | ((with_reducible show wpStill _ _ _ _ (Oper.mk _ (Op.load _ _) _ _ _ _ :: _) _); refine wps_val rfl (ex_load rfl rfl hld2) ?_) | still_step)
          refine wpStill_nil ?_
          go_wp2_with (first | ((with_reducible show wpList _ _ _ (Oper.mk _ (Op.store _ _ _) _ _ _ _ :: _) _ _); refine wpl_do rfl (ex_store rfl rfl rfl hst3) ?_))
          refine ⟨⟨k + 1, S.set xa xs, by omega, by go_num, by rw [List.length_set]; exact HSl.out, ?_, HD3.out, Hk3.out⟩, by simp [intOf]; omega⟩
          rw [← HSS.out, Hdrop.out, Hbit.out]; rfl
        | false =>
          have hbit' : (bits BinOp.and IntKind.u64 (keep / 2 ^ (k % 64)) 1 == 1) = false := hbit
          have Hbit := Lib.hid hbit
          clear hbit
          go_wp2_with (first | ((with_reducible show wpList _ _ _ (Oper.mk _ (Op.load _ _) _ _ _ _ :: _) _ _); refine wpl_val rfl (ex_load rfl rfl hld) ?_) | ((with_reducible show wpList _ _ _ (Oper.mk _ (Op.alloc _) _ _ _ _ :: _) _ _); refine wpl_val rfl (ex_alloc rfl (hal _)) ?_) | ((with_reducible show wpList _ _ _ (Oper.mk _ (Op.store _ _ _) _ _ _ _ :: _) _ _); refine wpl_do rfl (ex_store rfl rfl rfl hst) ?_))
          refine ⟨⟨k + 1, S, by omega, by go_num, HSl.out, ?_, HD2.out, Hkr.out.then Hk2.out⟩, by simp [intOf]; omega⟩
          rw [← HSS.out, Hdrop.out, Hbit.out]; rfl
      · have hkl : k = waits.length := by omega
        have hSf : S = Sf := by
          have := HSS.out
          rw [hkl, List.drop_length] at this
          exact this
        subst hSf
        clear hkl
        have d0 := HDr.out.st.cell 0 _ rfl
        have d1 := HDr.out.st.cell 1 _ rfl
        simp only [dcells] at d0 d1
        have hnl : S.length = now.length := HDr.out.ok.same
        have hmm : Nat.min now.length now.length = now.length := Nat.min_self _
        obtain ⟨w4, hcp, hb4, hk4⟩ := Blk.copy (P := Try.prog) HDr.out.now.drew 109 109 134 0 now.length now.length (.slice (some ⟨bs, 0, none⟩) now.length now.length) now.length (rowsV S) Try.underlying109 sizeS (by rw [rowsV_length, hnl, hmm]; omega) (fun _ => rfl) (by
          rw [hmm]
          exact run_firstCells_some wr.drew 256 now.length ⟨bs, 0, none⟩ now.length now.length (rowsV S) (by rw [rowsV_length, hnl]; omega) (fun j u hj => by rw [Addr.add_mid]; exact HDr.out.safe.drew.cell _ _ (by simpa using hj))) (by rw [rowsV_length, rowsV_length, hnl]; show 0 + 256 * now.length ≤ 256 * now.length; omega) (rowsV_one S)
        rw [splice_all _ _ (by rw [rowsV_length, rowsV_length, hnl])] at hb4
        have hs4 : Blk w4 d (dcells bn bs wA wc ⟨now, S, waits, false, acts, fuse, keep0⟩) 112 := HDr.out.st.drew.keeps hk4 (fun e => HDr.out.dn e)
        have HS4 := Lib.hid hs4
        have f2 := hs4.free 2
        have f3 := hs4.free 3
        have f5 := hs4.free 5
        have e2 := hs4.cell 2 _ rfl
        have e3 := hs4.cell 3 _ rfl
        have e5 := hs4.cell 5 _ rfl
        simp only [dcells] at e2 e3 e5
        have Hfin : Hid (∀ w', Blk w' d (dcells bn bs none 0 ⟨S, S, [], true, acts, 0, keep0⟩) 112 → Keeps (Only d) w4 w' → OffPost d bn bs wA wc ⟨now, safe, waits, false, acts, fuse, keep0⟩ keep w (.returned (.tuple #[])) w') := by
          intro w' h1 h2
          have e : DS.off ⟨now, safe, waits, false, acts, fuse, keep0⟩ keep = ⟨S, S, [], true, acts, 0, keep0⟩ := by
            unfold DS.off; simp [HSf.out]
          refine ⟨none, 0, rfl, ?_, ?_, .inl rfl⟩
          · rw [e]
            exact ⟨h1, Blk.keeps hb4 h2 (fun e => HDr.out.dn e.symm), (HDr.out.safe.drew.keeps hk4 (fun e => HDr.out.ne e.symm)).keeps h2 (fun e => HDr.out.ds e.symm), World.ownsRow_nil _ _ _ _, HDr.out.ne, ⟨rfl, by simpa [hnl] using HDr.out.ok.most, by simp, by simp⟩⟩
          · refine ((Hkr.out.mono (G := foot d bn bs wA) (fun i _ e => .inr (.inr (.inl e)))).drew.trans' hk4 (fun i _ e => .inr (.inl e))).trans' h2 (fun i _ e => .inl e)
        have hnl' := hnl
        clear hnl hb4 hk4 hs4 hmm
        go_wp2
        refine wp_region_still_tail 8 (by kernel_rfl) (by kernel_rfl) ?_
        simp only [List.take_succ_cons, List.take_zero, List.drop_succ_cons, List.drop_zero, World.drew_eq]
        repeat still_step
        refine wpStill_nil ?_
        go_wp2_with (first | ((with_reducible show wpList _ _ _ (Oper.mk _ (Op.call (Call.mk (Callee.builtin Builtin.copy) _ _)) _ _ _ _ :: _) _ _); refine wpl_val rfl (ex_copy rfl rfl rfl hcp) ?_))
        go_end0
        refine Hfin.out _ ?_ ?_
        · have := ((HS4.out.set 2 (.slice none 0 0)).set 3 (.bool true)).set 5 (.int .i64 0)
          simpa [dcells, hnl'] using this
        · exact (((Keeps.refl _ _).set1 _ _).set1 _ _).set1 _ _
end Go.Proofs.Ythfedeebfailgaa
