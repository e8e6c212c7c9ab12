/- Inside a round of a range over a function: a region whose operations read first and then go on in one way is walked once. No program in it. -/
import Derived.Test.YthfedeebfailgaaMem
import Derived.RangeFuncCalls
import Derived.RangeFuncLeaves
import Derived.StillTail
import Derived.OrdersIn
set_option linter.unusedVariables false
set_option linter.unusedSimpArgs false
set_option autoImplicit false
namespace Go.Proofs.Ythfedeebfailgaa
open Go Go.RowKit

def notDefer (o : Oper) : Bool := match o.op with | .defer _ => false | _ => true
theorem notDefer_ne {o : Oper} (h : notDefer o = true) : ∀ c, o.op ≠ .defer c := fun c e => by simp [notDefer, e] at h
section
variable {P : Program} {n l : Nat} {Q : Exit → Act → World → Prop} {ops : Array Oper}
theorem opIn_of {o : Oper} {a : Act} {w : World} {K : Act → World → Prop} (hd : notDefer o = true) (h : o.wp P a w K Q) : o.wpIn (Fence.wide.inRound l) n P a w K Q := by
  refine ⟨fun _ _ => trivial, ?_⟩
  rw [Fence.inRound_round, Oper.semAt_some l _ _ (notDefer_ne hd)]
  unfold Oper.wp at h
  generalize (execOp a.eval o).run P w = r at *
  cases r with
  | ok nx w' =>
    cases nx with
    | value v => exact h
    | skip => exact h
    | defer d => exact h
    | enter f args =>
      refine ⟨fun h => by simp [Fence.wide] at h, ?_⟩
      refine CallsIn.inRound l ((callsIn_wide.2 h).mono ?_)
      intro e w' he
      cases e <;> exact he
    | row row args => exact ⟨fun h => by simp [Fence.wide] at h, fun c cs _ => let ⟨v, w', r, s⟩ := h c cs; ⟨v, w', r, stepsIn_wide.2 s⟩⟩
    | _ => exact h.elim
  | halt x w' =>
    cases x <;> first | exact h | exact h.elim
theorem opsIn_of (hd : ops.all notDefer = true) (hQ : ¬ LetsOut Q) : ∀ (is : List Nat) (a : Act) (w : World), wpOps P ops Q is a w → wpOpsIn (Fence.wide.inRound l) n P ops Q is a w
  | [], _, _, h => h
  | i :: rest, a, w, h => by
    unfold wpOps at h
    unfold wpOpsIn
    cases ho : ops[i]? with
    | none => simp only [ho] at h ⊢; exact opsIn_of hd hQ rest a w h
    | some o =>
      simp only [ho] at h ⊢
      have hnd : notDefer o = true := by
        obtain ⟨hi, rfl⟩ := Array.getElem?_eq_some_iff.1 ho
        exact (Array.all_eq_true.1 hd) i hi
      by_cases hw : Region.wanted o (yielded ops a.tmps) = true
      · rw [if_pos hw] at h ⊢
        rcases h with h | h
        · exact Oper.wpIn_mono (fun a w h => opsIn_of hd hQ rest a w h) (opIn_of hnd h)
        · exact absurd h.2 hQ
      · rw [if_neg hw] at h ⊢
        exact ⟨fun _ _ => trivial, opsIn_of hd hQ rest _ _ h⟩
theorem round_of_any {id : Nat} {a : Act} {w : World} (hm : P.follows .mixedOrders = true) (hd : ops.all notDefer = true) (hQ : ¬ LetsOut Q)
    (h : wpAny P .any ops Q ops.size (Array.replicate ops.size false) a { w with drawn := w.drawn + 1 }) : (Code.region id ops true).wpIn (Fence.wide.inRound l) n P Q a w :=
  wpIn_region_draw fun t => by
    simp only [Region.schedule, hm, Bool.true_or, if_true]
    exact opsIn_of hd hQ _ _ _ (wpAny_sound ops.size t _ a _ h)
end
/-- Reads in whatever order, then one way alone. -/
theorem round_still_tail {P : Program} {n l : Nat} {Q : Exit → Act → World → Prop} {id : Nat} {a : Act} {w : World} {os : List Oper} (m : Nat) (hm : P.follows .mixedOrders = true) (hd : os.toArray.all notDefer = true) (hQ : ¬ LetsOut Q) (hB : Region.lexTailB .any os.toArray m = true)
    (h : wpStill P os.toArray { w with drawn := w.drawn + 1 } (fun a' => wpList P os.toArray Q (os.drop m) a' { w with drawn := w.drawn + 1 }) (os.take m) a) : (Code.region id os.toArray true).wpIn (Fence.wide.inRound l) n P Q a w := by
  simp only [Region.lexTailB, Bool.and_eq_true, decide_eq_true_eq] at hB
  obtain ⟨⟨⟨⟨hsel, hn⟩, hs⟩, hc⟩, hlex⟩ := hB
  have hn' : m < os.length := by simpa using hn
  have htl : (os.take m).length = m := by simp; omega
  have hdl : (os.drop m).length = os.toArray.size - m := by simp
  have inv0 : HeadInv .any os.toArray m (Array.replicate os.toArray.size false) :=
    ⟨by simp, fun j oj _ hl => (by rw [getD_replicate_false] at hl; cases hl), fun t _ ht => getD_in (by simpa using ht) (getD_replicate_false _ _)⟩
  have H := wpAnyL_lex (md := .any) (g := os.toArray.size - m) hsel hs hc hn (os.take m) 0 _ a (fun j hj => by
    have hj' : j < m := by rw [htl] at hj; exact hj
    simp [hj']) (by simpa using htl) inv0 (by rw [htl]; exact hlex) h
  refine round_of_any hm hd hQ ?_
  have := wpAny_of_head (Q' := Q) (g := os.toArray.size - m) (fun listed a' hL => by
    have := wpAny_of_seq (md := .any) (Q' := Q) (os.drop m) m listed a' { w with drawn := w.drawn + 1 } (fun j => by simp [List.getElem?_drop]) (by rw [hdl]; exact hL.1) hL.2
    rwa [hdl] at this) _ _ _ H
  rw [htl, show m + (os.toArray.size - m) = os.toArray.size by omega] at this
  exact this
end Go.Proofs.Ythfedeebfailgaa
