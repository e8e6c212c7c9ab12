/- What is said of memory in this claim's proofs: blocks known whole, what a call leaves as it was, rows of bytes. No program in it. -/
import Derived.WalkKit
import Derived.WalkSpells
import Derived.WalkLawsBesides
import Derived.BigQuiet
import Derived.Deep.QuietTactic
import Derived.Deep.RegionHeld3
import Derived.StillTailTactics
import Derived.Deep.RegionLaw
import Derived.Deep.RegionWith
import Derived.Deep.MidRow
import Derived.Deep.LoopGhost
import Derived.Deep.DeepCutAuto
import Derived.Deep.CutBlock
import Derived.Deep.AppendSrc
import Derived.Laws.CopyOwn
import Derived.Great.BuildSlice
import Derived.Deep.AppendLies
import Derived.Lib.Hide
set_option linter.unusedVariables false
set_option linter.unusedSimpArgs false
set_option autoImplicit false
namespace Go.Proofs.Ythfedeebfailgaa
open Go.RowKit

/-- Blocks that were there and are not in F are as they were. -/
structure Keeps (F : Nat → Prop) (w w' : World) : Prop where
  os : w'.os = w.os
  tape : w'.tape = w.tape
  output : w'.output = w.output
  size : w.heap.size ≤ w'.heap.size
  block : ∀ k, k < w.heap.size → ¬ F k → w'.heap[k]? = w.heap[k]?

/-- Nothing that was there is turned. -/
abbrev Ext (w w' : World) : Prop := Keeps (fun _ => False) w w'

/-- One block alone. -/
def Only (r : Nat) : Nat → Prop := fun k => k = r
theorem Keeps.refl (F : Nat → Prop) (w : World) : Keeps F w w := ⟨rfl, rfl, rfl, Nat.le_refl _, fun _ _ _ => rfl⟩
theorem Keeps.trans' {F G : Nat → Prop} {a b c : World} (h : Keeps F a b) (k : Keeps G b c) (hs : ∀ i, i < a.heap.size → G i → F i) : Keeps F a c :=
  ⟨k.os.trans h.os, k.tape.trans h.tape, k.output.trans h.output, Nat.le_trans h.size k.size,
   fun i hi hF => (k.block i (Nat.lt_of_lt_of_le hi h.size) (fun hG => hF (hs i hi hG))).trans (h.block i hi hF)⟩
theorem Keeps.trans {F : Nat → Prop} {a b c : World} (h : Keeps F a b) (k : Keeps F b c) : Keeps F a c := h.trans' k (fun _ _ x => x)
theorem Keeps.mono {F G : Nat → Prop} {w w' : World} (h : Keeps F w w') (hs : ∀ i, i < w.heap.size → F i → G i) : Keeps G w w' :=
  ⟨h.os, h.tape, h.output, h.size, fun i hi hG => h.block i hi (fun hF => hG (hs i hi hF))⟩
theorem Keeps.ext {F : Nat → Prop} {w w' : World} (h : Ext w w') : Keeps F w w' := h.mono (fun _ _ x => x.elim)
theorem Keeps.then {F : Nat → Prop} {a b c : World} (h : Keeps F a b) (k : Ext b c) : Keeps F a c := h.trans' k (fun _ _ x => x.elim)
theorem Keeps.drew {F : Nat → Prop} {a w : World} (h : Keeps F a w) : Keeps F a w.drew := ⟨h.os, h.tape, h.output, h.size, h.block⟩
theorem Keeps.drewN {F : Nat → Prop} {a w : World} (h : Keeps F a w) (n : Nat) : Keeps F a (w.drewN n) := ⟨h.os, h.tape, h.output, h.size, h.block⟩
theorem Keeps.undrew {F : Nat → Prop} {a w : World} (h : Keeps F a.drew w) : Keeps F a w := ⟨h.os, h.tape, h.output, h.size, h.block⟩
theorem Keeps.alloc {F : Nat → Prop} {a w : World} (h : Keeps F a w) (o : Obj) : Keeps F a (w.alloc o) :=
  h.trans' (G := fun _ => False) ⟨rfl, rfl, rfl, by simp, fun k hk _ => Below.heap_alloc _ _ _ hk⟩ (fun _ _ x => x.elim)
theorem Keeps.setCell {F : Nat → Prop} {a w : World} (h : Keeps F a w) (p : Addr) (u : Value) (hp : p.block < a.heap.size → F p.block) : Keeps F a (w.setCell p u) :=
  h.trans' (G := fun k => k = p.block) ⟨rfl, rfl, rfl, by simp [World.setCell], fun k hk hne => Below.heap_setCell _ _ _ _ hne⟩ (fun i hi e => by subst e; exact hp hi)
theorem Keeps.set1 {r : Nat} {a w : World} (h : Keeps (Only r) a w) (i : Nat) (u : Value) : Keeps (Only r) a (w.setCell ⟨r, i, none⟩ u) := h.setCell _ _ (fun _ => rfl)
theorem heap_setCells (b k : Nat) (h : k ≠ b) : ∀ (vs : List Value) (o : Nat) (w : World), (w.setCells b o vs).heap[k]? = w.heap[k]?
  | [], _, _ => rfl
  | v :: r, o, w => by rw [World.setCells, heap_setCells b k h r]; exact Below.heap_setCell _ _ _ _ h
theorem size_setCells (b : Nat) : ∀ (vs : List Value) (o : Nat) (w : World), (w.setCells b o vs).heap.size = w.heap.size
  | [], _, _ => rfl
  | v :: r, o, w => by rw [World.setCells, size_setCells b r]; simp
theorem env_setCells (b : Nat) : ∀ (vs : List Value) (o : Nat) (w : World), (w.setCells b o vs).os = w.os ∧ (w.setCells b o vs).tape = w.tape ∧ (w.setCells b o vs).output = w.output
  | [], _, _ => ⟨rfl, rfl, rfl⟩
  | v :: r, o, w => by rw [World.setCells]; exact env_setCells b r (o + 1) _
theorem Keeps.setCells {F : Nat → Prop} {a w : World} (h : Keeps F a w) (b o : Nat) (vs : List Value) (hp : b < a.heap.size → F b) : Keeps F a (w.setCells b o vs) :=
  h.trans' (G := fun k => k = b) ⟨(env_setCells b vs o w).1, (env_setCells b vs o w).2.1, (env_setCells b vs o w).2.2, by rw [size_setCells]; exact Nat.le_refl _, fun k hk hne => heap_setCells b k hne vs o w⟩ (fun i hi e => by subst e; exact hp hi)
theorem Keeps.setRow {F : Nat → Prop} {a w : World} (h : Keeps F a w) (b : Nat) (cs : Array Value) (hp : b < a.heap.size → F b) : Keeps F a (w.setRow b cs) :=
  h.trans' (G := fun k => k = b) ⟨rfl, rfl, rfl, by simp, fun k hk hne => setRow_other _ _ _ _ hne⟩ (fun i hi e => by subst e; exact hp hi)
theorem Keeps.grown {F : Nat → Prop} {a w w' : World} {row : Option Nat} (h : Keeps F a w) (hg : w.grownBy w' row) (hr : ∀ k, row = some k → k < a.heap.size → F k) : Keeps F a w' :=
  h.trans' (G := fun k => some k = row) ⟨hg.os, hg.tape, hg.output, hg.size, fun k hk hne => hg.block k hk hne⟩ (fun i hi e => hr i e.symm hi)
theorem Keeps.below {F : Nat → Prop} {a w w' : World} {B : Nat} (h : Keeps F a w) (hb : Below B w w') (hB : a.heap.size ≤ B) : Keeps F a w' :=
  ⟨hb.os.trans h.os, hb.tape.trans h.tape, hb.output.trans h.output, Nat.le_trans h.size hb.size, fun k hk hF => (hb.block k (by omega)).trans (h.block k hk hF)⟩
theorem Keeps.toBelow {F : Nat → Prop} {w w' : World} (h : Keeps F w w') (hF : ∀ k, k < w.heap.size → ¬ F k) : Below w.heap.size w w' :=
  ⟨h.os, h.tape, h.output, h.size, fun k hk => h.block k hk (hF k hk)⟩
theorem Ext.below {w w' : World} (h : Ext w w') : Below w.heap.size w w' := h.toBelow (fun _ _ x => x)
theorem Ext.ofBelow {w w' : World} (h : Below w.heap.size w w') : Ext w w' := ⟨h.os, h.tape, h.output, h.size, fun k hk _ => h.block k hk⟩
theorem Keeps.cell {F : Nat → Prop} {w w' : World} (h : Keeps F w w') {p : Addr} {v : Value} (hc : w.cell? p = some v) (hF : ¬ F p.block) : w'.cell? p = some v :=
  (World.cell?_of_block (h.block _ (World.block_lt_of_cell? w p hc) hF)).trans hc
theorem Keeps.frozen {F : Nat → Prop} {w w' : World} (h : Keeps F w w') {p : Addr} {x : Bool} (hp : p.block < w.heap.size) (hc : w.frozen? p = x) (hF : ¬ F p.block) : w'.frozen? p = x :=
  (World.frozen?_of_block (h.block _ hp hF)).trans hc
theorem Keeps.owns {F : Nat → Prop} {w w' : World} (h : Keeps F w w') {base : Nat} {e : TypeId} {size n : Nat} {v : Value} {xs : List Value} (ho : w.ownsRow base e size v n xs) (hF : ∀ k, v.ownBlock = some k → ¬ F k) : w'.ownsRow base e size v n xs := by
  obtain ⟨h1, h2⟩ := ho
  refine ⟨h1, ?_⟩
  rcases h2 with h2 | ⟨g, cap, cur, hv, hb, hh, r⟩
  · exact .inl h2
  · refine .inr ⟨g, cap, cur, hv, hb, ?_, r⟩
    rw [h.block g (Array.getElem?_eq_some_iff.1 hh).1 (hF g (by rw [hv]; rfl))]; exact hh

/-! ### A block that is known whole -/
/-- Block b is a row of these cells, none frozen. -/
def Blk (w : World) (b : Nat) (cs : Array Value) (T : TypeId) : Prop := w.heap[b]? = some (.cells cs T (0, 0))
section
variable {w w' : World} {b : Nat} {cs : Array Value} {T : TypeId}
theorem Blk.lt (h : Blk w b cs T) : b < w.heap.size := (Array.getElem?_eq_some_iff.1 h).1
theorem Blk.cell (h : Blk w b cs T) (i : Nat) (v : Value) (hi : cs[i]? = some v) : w.cell? ⟨b, i, none⟩ = some v := by
  rw [cell_of_row w b i cs T _ h, hi]
theorem Blk.free (h : Blk w b cs T) (i : Nat) : w.frozen? ⟨b, i, none⟩ = false := frozen_of_row w b i cs T h
theorem Blk.new (w : World) (cs : Array Value) (T : TypeId) : Blk (w.alloc (.cells cs T)) w.heap.size cs T := heap_alloc_new w _
theorem Blk.alloc (h : Blk w b cs T) (o : Obj) : Blk (w.alloc o) b cs T := (Below.heap_alloc w o b h.lt).trans h
theorem Blk.drew (h : Blk w b cs T) : Blk w.drew b cs T := h
theorem Blk.drewN (h : Blk w b cs T) (n : Nat) : Blk (w.drewN n) b cs T := h
theorem Blk.set (h : Blk w b cs T) (i : Nat) (v : Value) : Blk (w.setCell ⟨b, i, none⟩ v) b (cs.setIfInBounds i v) T := heap_setCell_same w b i cs T v h
theorem Blk.setOther (h : Blk w b cs T) (p : Addr) (v : Value) (hne : p.block ≠ b) : Blk (w.setCell p v) b cs T := (heap_setCell_other w p b v (Ne.symm hne)).trans h
theorem Blk.setCellsOther (h : Blk w b cs T) (b' o : Nat) (vs : List Value) (hne : b' ≠ b) : Blk (w.setCells b' o vs) b cs T := (heap_setCells b' b (Ne.symm hne) vs o w).trans h
theorem Blk.setRow (h : Blk w b cs T) (cs' : Array Value) : Blk (w.setRow b cs') b cs' T := setRow_heap w b cs cs' T _ h
theorem Blk.setRowOther (h : Blk w b cs T) (b' : Nat) (cs' : Array Value) (hne : b' ≠ b) : Blk (w.setRow b' cs') b cs T := (setRow_other w b' b cs' (Ne.symm hne)).trans h
theorem Blk.keeps {F : Nat → Prop} (h : Blk w b cs T) (k : Keeps F w w') (hF : ¬ F b) : Blk w' b cs T := (k.block b h.lt hF).trans h
theorem Blk.grown {row : Option Nat} (h : Blk w b cs T) (k : w.grownBy w' row) (hF : some b ≠ row) : Blk w' b cs T := (k.block b h.lt hF).trans h
theorem Blk.inj {cs' : Array Value} {T' : TypeId} (h : Blk w b cs T) (h' : Blk w b cs' T') : cs = cs' ∧ T = T' := by
  have := h.symm.trans h'
  injection this with this
  injection this with a b
  exact ⟨a, b⟩
theorem Blk.range (h : Blk w b cs T) (o : Nat) (vs : List Value) (hv : ∀ j v, vs[j]? = some v → cs[o + j]? = some v) : w.rangeAt b o vs := fun j v hj => h.cell _ _ (hv j v hj)
theorem Blk.there (h : Blk w b cs T) (o n : Nat) (hn : o + n ≤ cs.size) : w.there b o n := fun j hj => ⟨by rw [h.cell (o + j) cs[o + j] (Array.getElem?_eq_getElem (by omega))]; rfl, h.free _⟩
end

/-- A list over another one, from a place on: both as lists of cells. -/
theorem splice_cons_set (L : List Value) (o : Nat) (v : Value) (r : List Value) (h : o + (r.length + 1) ≤ L.length) : splice (L.set o v) (o + 1) r = splice L o (v :: r) := by
  unfold splice
  apply List.ext_getElem?
  intro i
  simp only [List.getElem?_append, List.length_take, List.length_set, List.getElem?_take, List.length_cons, List.getElem?_drop, List.getElem?_set]
  have h1 : min (o + 1) L.length = o + 1 := by omega
  have h2 : min o L.length = o := by omega
  rw [h1, h2]
  by_cases a : i < o
  · have : ¬ o = i := by omega
    simp [a, this, show i < o + 1 by omega]
  · by_cases e : i = o
    · subst e
      simp [show i < L.length by omega]
    · have c1 : ¬ i < o + 1 := by omega
      simp only [a, c1, if_false]
      obtain ⟨m, rfl⟩ : ∃ m, i = o + 1 + m := ⟨i - (o + 1), by omega⟩
      rw [show o + 1 + m - (o + 1) = m by omega, show o + 1 + m - o = m + 1 by omega]
      by_cases c : m < r.length
      · simp [c]
      · simp [c]
        rw [if_neg (by omega)]
        congr 1; omega
theorem Blk.setCells {b : Nat} {T : TypeId} : ∀ (vs : List Value) (o : Nat) (w : World) (L : List Value), Blk w b L.toArray T → o + vs.length ≤ L.length → Blk (w.setCells b o vs) b (splice L o vs).toArray T
  | [], o, w, L, h, _ => by simpa [splice, World.setCells] using h
  | v :: r, o, w, L, h, hl => by
    rw [World.setCells]
    have h1 := h.set o v
    rw [show L.toArray.setIfInBounds o v = (L.set o v).toArray by simp] at h1
    have := Blk.setCells r (o + 1) _ _ h1 (by simp at hl ⊢; omega)
    rwa [splice_cons_set L o v r (by simpa using hl)] at this

/-! ### Bytes -/
def bv (c : UInt8) : Value := .int .u8 (c.toNat : Int)
def bvs (l : List UInt8) : List Value := l.map bv
theorem bvs_length (l : List UInt8) : (bvs l).length = l.length := by simp [bvs]
theorem bvs_one (l : List UInt8) : ∀ v ∈ bvs l, v.oneCell' = true := by
  intro v hv
  simp only [bvs, List.mem_map] at hv
  obtain ⟨c, _, rfl⟩ := hv
  rfl
theorem bvs_append (l m : List UInt8) : bvs (l ++ m) = bvs l ++ bvs m := by simp [bvs]
theorem bvs_take (l : List UInt8) (n : Nat) : bvs (l.take n) = (bvs l).take n := by simp [bvs]
theorem bvs_drop (l : List UInt8) (n : Nat) : bvs (l.drop n) = (bvs l).drop n := by simp [bvs]
theorem bvs_get (l : List UInt8) (j : Nat) : (bvs l)[j]? = l[j]?.map bv := by simp [bvs]
theorem bv_inj {a b : UInt8} (h : bv a = bv b) : a = b := by
  simp only [bv, Value.int.injEq, true_and] at h
  exact UInt8.toNat_inj.1 (by omega)

/-- A slice of bytes that reads as a list. -/
def Bytes (w : World) (v : Value) (l : List UInt8) : Prop :=
  ∃ A c, v = .slice A l.length c ∧ l.length ≤ c ∧ c ≤ maxLen ∧ (l ≠ [] → ∃ b o, A = some ⟨b, o, none⟩ ∧ w.rangeAt b o (bvs l))
theorem Bytes.nil (w : World) : Bytes w (.slice none 0 0) [] := ⟨none, 0, rfl, Nat.le_refl _, by simp, fun h => absurd rfl h⟩
theorem rangeAt_keeps {F : Nat → Prop} {w w' : World} {b o : Nat} {cs : List Value} (h : w.rangeAt b o cs) (k : Keeps F w w') (hF : ¬ F b) : w'.rangeAt b o cs := fun j v hj => k.cell (h j v hj) hF
theorem Bytes.keeps {F : Nat → Prop} {w w' : World} {v : Value} {l : List UInt8} (h : Bytes w v l) (k : Keeps F w w') (hF : ∀ b o c, v = .slice (some ⟨b, o, none⟩) l.length c → l ≠ [] → ¬ F b) : Bytes w' v l := by
  obtain ⟨A, c, rfl, h1, h2, h3⟩ := h
  refine ⟨A, c, rfl, h1, h2, fun hn => ?_⟩
  obtain ⟨b, o, rfl, hr⟩ := h3 hn
  exact ⟨b, o, rfl, rangeAt_keeps hr k (hF b o c rfl hn)⟩
theorem Bytes.ext {w w' : World} {v : Value} {l : List UInt8} (h : Bytes w v l) (k : Ext w w') : Bytes w' v l := h.keeps k (fun _ _ _ _ _ x => x)
theorem Bytes.ofOwn {w : World} {base e n : Nat} {v : Value} {l : List UInt8} (h : w.ownsRow base e 1 v n (bvs l)) : Bytes w v l := by
  have hl : l.length = n := by have := h.1; simpa [bvs] using this
  rcases h.2 with ⟨rfl, hn⟩ | ⟨g, cap, cur, rfl, hb, hh, h1, h2, h3, h4⟩
  · have : l = [] := List.eq_nil_of_length_eq_zero (by omega)
    subst this hn
    exact Bytes.nil w
  · subst hl
    refine ⟨_, cap, rfl, h1, h2, fun hn => ⟨g, 0, rfl, fun j v hj => ?_⟩⟩
    have := h.cells (g := g) rfl j v hj
    rwa [Addr.add_mid] at this
/-- Bytes do not lie in a block of other things. -/
theorem Bytes.apart {w : World} {v : Value} {l : List UInt8} (h : Bytes w v l) {r : Nat} {cs : Array Value} {T : TypeId} (hb : Blk w r cs T) (hc : ∀ (i : Nat) (x : Int), cs[i]? ≠ some (Value.int .u8 x)) :
    ∀ b o c, v = .slice (some ⟨b, o, none⟩) l.length c → l ≠ [] → ¬ b = r := by
  intro b o c e hn hr
  subst hr
  obtain ⟨A, c', rfl, h1, h2, h3⟩ := h
  obtain ⟨b', o', rfl, hr⟩ := h3 hn
  injection e with e _ _
  injection e with e
  injection e with e1 e2
  subst e1 e2
  cases l with
  | nil => exact hn rfl
  | cons x l =>
    have := hr 0 (bv x) rfl
    rw [cell_of_row w _ _ cs T _ hb] at this
    exact hc _ _ this
theorem Bytes.kept {w w' : World} {v : Value} {l : List UInt8} {r : Nat} {cs : Array Value} {T : TypeId} (h : Bytes w v l) (k : Keeps (Only r) w w') (hb : Blk w r cs T) (hc : ∀ (i : Nat) (x : Int), cs[i]? ≠ some (Value.int .u8 x)) : Bytes w' v l :=
  h.keeps k (h.apart hb hc)
/-- A part of a slice of bytes, from an address on. -/
theorem Bytes.part {w : World} {A : Option Addr} {n c : Nat} {l : List UInt8} (h : Bytes w (.slice A n c) l) (i k cc : Nat) (hk : i + k ≤ l.length) (hcc : k ≤ cc) (hcc2 : cc ≤ maxLen) (A' : Option Addr) (hA : k ≠ 0 → A' = A.map (·.add i)) :
    Bytes w (.slice A' k cc) ((l.drop i).take k) := by
  obtain ⟨A0, c0, e, h1, h2, h3⟩ := h
  injection e with e1 e2 e3
  subst e1 e2 e3
  have hl : ((l.drop i).take k).length = k := by simp; omega
  refine ⟨A', cc, by rw [hl], by omega, hcc2, fun hn => ?_⟩
  have hk0 : k ≠ 0 := fun e => hn (by subst e; simp)
  obtain ⟨b, o, rfl, hr⟩ := h3 (fun e => by subst e; simp at hk; omega)
  refine ⟨b, o + i, by rw [hA hk0]; simp [Addr.add_mid], fun j v hj => ?_⟩
  have hjk : j < k := by
    have := (List.getElem?_eq_some_iff.1 hj).1
    rw [bvs_length, hl] at this; exact this
  have := hr (i + j) v (by
    rw [bvs_get] at hj ⊢
    rw [List.getElem?_take, if_pos hjk, List.getElem?_drop] at hj
    exact hj)
  rwa [Nat.add_assoc]
/-- The length of a slice of bytes. -/
theorem Bytes.len {w : World} {A : Option Addr} {n c : Nat} {l : List UInt8} (h : Bytes w (.slice A n c) l) : n = l.length := by
  obtain ⟨_, _, e, _⟩ := h
  injection e
/-! ### One operation, by what it comes to -/
section
variable {P : Program} {w w' : World} {ops : Array Oper} {rest : List Oper} {o : Oper} {a : Act} {Q : Exit → Act → World → Prop}
theorem wpl_val {v : Value} (hgd : o.guard = none) (hr : (execOp a.eval o).run P w = .ok (.value v) w') (h : wpList P ops Q rest (a.put o.dst v) w') : wpList P ops Q (o :: rest) a w := by
  refine wpList_plain hgd fun K hK => ?_
  unfold Oper.wp
  rw [hr]
  exact hK _ _ h
theorem wpl_do (hgd : o.guard = none) (hr : (execOp a.eval o).run P w = .ok .skip w') (h : wpList P ops Q rest (a.put o.dst undef) w') : wpList P ops Q (o :: rest) a w := by
  refine wpList_plain hgd fun K hK => ?_
  unfold Oper.wp
  rw [hr]
  exact hK _ _ h
theorem wps_val {Q : Act → Prop} {v : Value} (hgd : o.guard = none) (hr : (execOp a.eval o).run P w = .ok (.value v) w) (h : wpStill P ops w Q rest (a.put o.dst v)) : wpStill P ops w Q (o :: rest) a := by
  refine wpStill_step (fun K hK => ?_)
  rw [if_pos (by simp [Region.wanted, hgd])]
  unfold Oper.still
  rw [hr, Oper.stillUpon_value]
  exact hK _ h
theorem ex_load {t : TypeId} {x : Operand} {p v : Value} (ho : o.op = .load t x) (hx : a.eval x = p) (hr : (Instr.loadAt t p).run P w = .ok v w') : (execOp a.eval o).run P w = .ok (.value v) w' := by
  unfold execOp; simp only [ho, hx, Sem.run_bind, hr, Result.andThen_ok, Sem.run_pure]
theorem ex_store {t : TypeId} {x y : Operand} {p v : Value} (ho : o.op = .store t x y) (hx : a.eval x = p) (hy : a.eval y = v) (hr : (Instr.storeAt t p v).run P w = .ok () w') : (execOp a.eval o).run P w = .ok .skip w' := by
  unfold execOp; simp only [ho, hx, hy, Sem.run_bind, hr, Result.andThen_ok, Sem.run_pure]
theorem ex_alloc {t : TypeId} {v : Value} (ho : o.op = .alloc t) (hr : (Instr.alloc t true (.tuple #[])).run P w = .ok v w') : (execOp a.eval o).run P w = .ok (.value v) w' := by
  unfold execOp; simp only [ho, Sem.run_bind, hr, Result.andThen_ok, Sem.run_pure]
theorem ex_box {t : TypeId} {x : Operand} {u v : Value} (ho : o.op = .box t x) (hx : a.eval x = u) (hr : (Instr.box t u).run P w = .ok v w') : (execOp a.eval o).run P w = .ok (.value v) w' := by
  unfold execOp; simp only [ho, hx, Sem.run_bind, hr, Result.andThen_ok, Sem.run_pure]
theorem ex_build {t : TypeId} {ps : List (Nat × Operand)} {us : List (Nat × Value)} {v : Value} (ho : o.op = .build t ps.toArray) (hx : ps.map (fun p => (p.1, a.eval p.2)) = us) (hr : (Instr.build t us.toArray).run P w = .ok v w') : (execOp a.eval o).run P w = .ok (.value v) w' := by
  subst hx; unfold execOp; simp only [ho, List.map_toArray]; simp only [Sem.run_bind, hr, Result.andThen_ok, Sem.run_pure]
theorem ex_buildSlice {t : TypeId} {n : Nat} {ps : List (Nat × Operand)} {us : List (Nat × Value)} {v : Value} (ho : o.op = .buildSlice t n ps.toArray) (hx : ps.map (fun p => (p.1, a.eval p.2)) = us) (hr : (Instr.buildSlice t n us.toArray).run P w = .ok v w') : (execOp a.eval o).run P w = .ok (.value v) w' := by
  subst hx; unfold execOp; simp only [ho, List.map_toArray]; simp only [Sem.run_bind, hr, Result.andThen_ok, Sem.run_pure]
theorem load1 {T : TypeId} {d : TypeDesc} {p : Addr} {v : Value} (hu : P.underlying T = some d) (hd : d.isRow = false) (hc : w.cell? p = some v) : (Instr.loadAt T (.pointer (some p))).run P w = .ok v w := by
  have ha : (isAgg T).run P w = .ok false w := by
    cases d <;> simp_all [isAgg, run_underlying hu]
  simp [Instr.loadAt, Instr.sureAddr, loadVar, ha, load, Sem.run, hc]
theorem store1 {T : TypeId} {p : Addr} {u v : Value} (hi : (P.info? T).map (·.size) = some 1) (h1 : v.oneCell' = true) (hv : v.cells = #[v]) (hc : w.cell? p = some u) (hf : w.frozen? p = false) : (Instr.storeAt T (.pointer (some p)) v).run P w = .ok () (w.setCell p v) := by
  cases hq : P.info? T with
  | none => simp [hq] at hi
  | some i =>
    have hi1 : i.size = 1 := by simpa [hq] using hi
    have hst := run_store P w p v .plain h1
    simp only [hc, hf] at hst
    simp [Instr.storeAt, Instr.sureAddr, storeVar, sizeOf, typeInfo, hq, hi1, hv, storeCells, Addr.add, hst]
theorem step_do {E : Prop} {K : Act → World → Prop} (hgd : o.guard = none) (hr : (execOp a.eval o).run P w = .ok .skip w') (h : K (a.put o.dst undef) w') : if Region.wanted o (yielded ops a.tmps) = true then Oper.wp P o a w K Q else E := by
  rw [if_pos (by simp [Region.wanted, hgd])]
  unfold Oper.wp
  rw [hr]
  exact h
theorem step_val {E : Prop} {K : Act → World → Prop} {v : Value} (hgd : o.guard = none) (hr : (execOp a.eval o).run P w = .ok (.value v) w') (h : K (a.put o.dst v) w') : if Region.wanted o (yielded ops a.tmps) = true then Oper.wp P o a w K Q else E := by
  rw [if_pos (by simp [Region.wanted, hgd])]
  unfold Oper.wp
  rw [hr]
  exact h
theorem ex_makeSlice {t : TypeId} {x y : Operand} {u1 u2 v : Value} (ho : o.op = .makeSlice t x y) (hx : a.eval x = u1) (hy : a.eval y = u2) (hr : (Instr.makeSlice t u1 u2).run P w = .ok v w') : (execOp a.eval o).run P w = .ok (.value v) w' := by
  unfold execOp; simp only [ho, hx, hy, Sem.run_bind, hr, Result.andThen_ok, Sem.run_pure]
theorem ex_convert {s t : TypeId} {x : Operand} {u v : Value} (ho : o.op = .convert s t x) (hx : a.eval x = u) (hr : (convert s t u).run P w = .ok v w') : (execOp a.eval o).run P w = .ok (.value v) w' := by
  unfold execOp; simp only [ho, hx, Sem.run_bind, hr, Result.andThen_ok, Sem.run_pure]
theorem ex_builtin2 {b : Builtin} {x y : Operand} {tx ty : TypeId} {u1 u2 v : Value} (ho : o.op = .call { callee := .builtin b, args := #[x, y], argTypes := #[tx, ty] }) (hx : a.eval x = u1) (hy : a.eval y = u2)
    (hr : ∀ cs, (builtin b #[tx, ty] o.type cs #[u1, u2]).run P w = .ok (.value v) w') : (execOp a.eval o).run P w = .ok (.value v) w' := by
  unfold execOp; simp only [ho, resolve, invoke, Sem.run_bind, Sem.run_pure, Result.andThen_ok, List.map_toArray, List.map_cons, List.map_nil, hx, hy]
  exact hr _
theorem ex_copy {x y : Operand} {tx ty : TypeId} {u1 u2 v : Value} (ho : o.op = .call { callee := .builtin .copy, args := #[x, y], argTypes := #[tx, ty] }) (hx : a.eval x = u1) (hy : a.eval y = u2)
    (hr : ∀ t, (Builtin.copy_ #[tx, ty] t #[u1, u2]).run P w = .ok v w') : (execOp a.eval o).run P w = .ok (.value v) w' := by
  refine ex_builtin2 ho hx hy fun cs => ?_
  unfold builtin
  simp only [Sem.run_bind, hr, Result.andThen_ok, Sem.run_pure]
/-- A row out of a block that is known whole. -/
theorem Blk.loadAt {b : Nat} {L : List Value} {T : TypeId} (h : Blk w b L.toArray T) (o n : Nat) (ty : TypeId) {d : TypeDesc} (hu : P.underlying ty = some d) (hd : d.isRow = true) (hi : (P.info? ty).map (·.size) = some n) (hn : o + n ≤ L.length) :
    (Instr.loadAt ty (.pointer (some ⟨b, o, none⟩))).run P w = .ok (.agg ((L.drop o).take n).toArray) w := by
  have hl : ((L.drop o).take n).length = n := by simp; omega
  refine run_loadAt_mid w b o ty ((L.drop o).take n) d (fun j v hj => ?_) hu hd (by rw [hl]; exact hi)
  have hjn : j < n := by have := (List.getElem?_eq_some_iff.1 hj).1; omega
  rw [List.getElem?_take, if_pos hjn, List.getElem?_drop] at hj
  exact h.cell _ _ (by simpa using hj)
/-- A row into a block that is known whole. -/
theorem Blk.storeAt {b : Nat} {L : List Value} {T : TypeId} (h : Blk w b L.toArray T) (o : Nat) (ty : TypeId) (vs : List Value) (hi : (P.info? ty).map (·.size) = some vs.length) (hn : o + vs.length ≤ L.length) (h1 : ∀ v ∈ vs, v.oneCell' = true) :
    ∃ w', (Instr.storeAt ty (.pointer (some ⟨b, o, none⟩)) (.agg vs.toArray)).run P w = .ok () w' ∧ Blk w' b (splice L o vs).toArray T ∧ Keeps (Only b) w w' := by
  refine ⟨w.setCells b o vs, ?_, Blk.setCells vs o w L h hn, (Keeps.refl _ _).setCells b o vs (fun _ => rfl)⟩
  exact run_storeAt_mid w b o ty vs.toArray (h.there o _ (by simpa using hn)) (by simpa using hi) (all_oneCell_toArray h1)
/-- copy, out of whatever range, into a block that is known whole. -/
theorem Blk.copy {b : Nat} {L : List Value} {T : TypeId} (h : Blk w b L.toArray T) (dT sT elem : TypeId) (o dLen dCap : Nat) (sv : Value) (sLen : Nat) (cs : List Value)
    (hu : P.underlying dT = some (.slice elem)) {size : Nat} (hs : (P.info? elem).map (·.size) = some size) (hn : cs.length = Nat.min sLen dLen * size)
    (hlen : ∀ w, (Builtin.lenOf sv).run P w = .ok sLen w) (hsrc : (Builtin.firstCells size (Nat.min sLen dLen) sv).run P w = .ok cs.toArray w) (hfit : o + cs.length ≤ L.length) (h1 : ∀ v ∈ cs, v.oneCell' = true) :
    ∃ w', (∀ ty, (Builtin.copy_ #[dT, sT] ty #[.slice (some ⟨b, o, none⟩) dLen dCap, sv]).run P w = .ok (goInt (Nat.min sLen dLen)) w') ∧ Blk w' b (splice L o cs).toArray T ∧ Keeps (Only b) w w' := by
  refine ⟨w.setCells b o cs, fun ty => ?_, Blk.setCells cs o w L h hfit, (Keeps.refl _ _).setCells b o cs (fun _ => rfl)⟩
  have hth := h.there o cs.length (by simpa using hfit)
  have hst := run_storeCells_cells (P := P) b o cs 0 w (fun j hj => by simpa using (hth j hj).1) (fun j hj => by simpa using (hth j hj).2) h1
  cases hq : P.info? elem with
  | none => simp [hq] at hs
  | some i =>
    have hi : i.size = size := by simpa [hq] using hs
    simp [Builtin.copy_, run_underlying hu, hlen, sizeOf, typeInfo, hq, hi, hsrc, hst]
end

/-! ### A slice literal of one element -/
theorem fold_set_list (l : List Value) : ∀ (k : Nat) (z : Array Value), k + l.length = z.size →
    ((l.zipIdx k).foldl (fun acc (x : Value × Nat) => acc.setIfInBounds (0 + x.2) x.1) z) = (z.toList.take k ++ l).toArray := by
  induction l with
  | nil => intro k z h; simp at h; rw [List.take_of_length_le (by simp; omega)]; simp
  | cons v l ih =>
    intro k z h
    simp only [List.zipIdx_cons, List.foldl_cons]
    rw [ih (k + 1) _ (by simp at h ⊢; omega)]
    congr 1
    have hk : k < z.toList.length := by simp at h ⊢; omega
    simp only [Nat.zero_add, Array.toList_setIfInBounds]
    rw [List.take_succ_eq_append_getElem (by simpa using hk)]
    rw [List.take_set_of_le (Nat.le_refl _)]
    simp
theorem fold_set (cs z : Array Value) (h : cs.size = z.size) : cs.zipIdx.foldl (fun acc (x : Value × Nat) => acc.setIfInBounds (0 + x.2) x.1) z = cs := by
  have := fold_set_list cs.toList 0 z (by simpa using h)
  rw [← Array.foldl_toList, Array.toList_zipIdx]
  rw [this]; simp
theorem run_buildSlice_one {P : Program} (w : World) (t e : TypeId) (v : Value) (ie : TypeInfo) (z : Value) (hu : P.underlying t = some (.slice e)) (hie : P.info? e = some ie) (hz : ie.zero = some z)
    (h1 : v.cells.size = ie.size) (h2 : 0 < ie.size) (h3 : ie.size ≤ 16777216) :
    (Instr.buildSlice t 1 #[(0, v)]).run P w = .ok (.slice (some ⟨w.heap.size, 0, none⟩) 1 1) (w.alloc (.cells v.cells e)) := by
  refine run_buildSlice w t e 1 #[(0, v)] v.cells ie z hu hie hz (by omega) (by omega) ?_
  have hn : ¬ (v.cells.size ≠ ie.size ∨ 0 + v.cells.size > (Array.map (fun x => z.cells[x % z.cells.size]!) (Array.range (1 * ie.size))).size) := by simp; omega
  have hf := fold_set v.cells (Array.map (fun x => z.cells[x % z.cells.size]!) (Array.range (1 * ie.size))) (by simp; omega)
  simp only [Instr.fill, Nat.zero_mul]
  rw [if_neg (by simpa using hn)]
  exact congrArg some hf

/-! ### A region that draws its order: one operation taken first -/
/-- What is said of a panic hangs on the deferred calls alone. -/
def PF (Q : Exit → Act → World → Prop) : Prop := ∀ c (a a' : Act) w, a.defers = a'.defers → Q (.panic c) a w → Q (.panic c) a' w
theorem PF.body {P : Program} {fn : Func} {R : Ending → World → Prop} : PF (bodyPost P fn R) := fun c a a' w h x => by simpa [bodyPost, h] using x
theorem PF.then {K : Act → World → Prop} {Q : Exit → Act → World → Prop} (h : PF Q) : PF (Exit.then K Q) := fun c a a' w e x => h c a a' w e x
theorem PF.inBlock {n : Nat} {Q : Exit → Act → World → Prop} (h : PF Q) : PF (Exit.inBlock n Q) := fun c a a' w e x => h c a a' w e x
theorem qtake {P : Program} {md : Region.Mode} {ops : Array Oper} {Q : Exit → Act → World → Prop} {S : World → Prop} (i : Nat) {oi : Oper} {v : Value} {fuel : Nat} {listed : Array Bool} {a : Act} {w : World} (hi : ops[i]? = some oi)
    (hs : Region.noSelect ops = true) (hf : Region.free md ops listed i = true) (hr : (Region.ready md ops listed).contains i = true) (hpf : PF Q) (hg : oi.guard = none)
    (hy : ∀ w, S w → (execOp a.eval oi).run P w = .ok (.value v) w) (hS : S w) (h : wpAnyH P md ops Q S fuel (listed.setIfInBounds i true) (a.put oi.dst v) w) : wpAnyH P md ops Q S (fuel + 1) listed a w :=
  wpAnyH_take hi hs hf hr (fun c a' w' x => hpf c _ _ w' (by cases oi.dst <;> rfl) x) (.inl ⟨by simp [Region.wanted, hg], hy⟩) hS h

/-- THE APPEND TO A ROW OF OUR OWN, out of whatever source: what it comes to. -/
theorem run_append_any {P : Program} (w : World) (base : Nat) (t tx ty e : TypeId) (i : TypeInfo) (z : Value) (ht : P.underlying t = some (.slice e)) (hi : P.info? e = some i) (hz : i.zero = some z) (hzs : z.cells.size = i.size)
    (v : Value) (n : Nat) (xs : List Value) (hown : w.ownsRow base e i.size v n xs) (x : Value) (m : Nat) (news : List Value) (hs : Src P i.size tx x m news w)
    (h63 : n + m ≤ maxLen) (hbytes : (n + m) * i.bytes ≤ 140737488355328) (hbase : base ≤ w.heap.size) :
    ∃ v' w', (Builtin.append_ #[t, tx] ty #[v, x]).run P w = .ok v' w' ∧ w'.ownsRow base e i.size v' (n + m) (xs ++ news) ∧ w.grownBy w' v.ownBlock ∧
      (∀ k, v'.ownBlock = some k → v.ownBlock = some k ∨ w.heap.size ≤ k) ∧ (v' = .slice none 0 0 ↔ v = .slice none 0 0 ∧ m = 0) := by
  have h63' : ((n + m : Nat) : Int) ≤ 9223372036854775807 := by simp only [maxLen] at h63; omega
  have hxl := hown.1
  have hnl := hs.newsLen
  have hlen : (xs ++ news).length = (n + m) * i.size := by rw [List.length_append, hxl, hnl, Nat.add_mul]
  have grown : ∀ (old : Nat), old < n + m → ∀ (row : Option Nat),
      (w.drew.alloc (.cells ((xs ++ news).toArray ++ Builtin.zeroCells z.cells (grownCap w (n + m) old e - (n + m))) e)).ownsRow base e i.size
        (.slice (some ⟨w.heap.size, 0, none⟩) (n + m) (grownCap w (n + m) old e)) (n + m) (xs ++ news) ∧
      w.grownBy (w.drew.alloc (.cells ((xs ++ news).toArray ++ Builtin.zeroCells z.cells (grownCap w (n + m) old e - (n + m))) e)) row := by
    intro old ho row
    have hge := grownCap_ge w (n + m) old e
    have hcm : grownCap w (n + m) old e ≤ maxLen := grownCap_le_maxLen w (n + m) old e h63
    refine ⟨⟨hlen, .inr ⟨w.heap.size, _, _, rfl, hbase, heap_alloc_new w.drew _, hge, hcm, ?_, ?_⟩⟩, ⟨rfl, rfl, rfl, by simp, fun k hk _ => Below.heap_alloc w.drew _ k hk⟩⟩
    · simp only [Array.size_append, List.size_toArray, size_zeroCells, hzs, hlen]
      rw [← Nat.add_mul]
      congr 1
      omega
    · simp only [Array.toList_append]
      rw [← hlen]
      exact List.take_left
  rcases hown.2 with ⟨rfl, rfl⟩ | ⟨g, cap, cur, rfl, hbg, hg, hnc, hcm, hcs, htake⟩
  · have hx : xs = [] := List.eq_nil_of_length_eq_zero (by rw [hxl]; simp)
    subst hx
    by_cases hm : m = 0
    · subst hm
      have hn : news = [] := List.eq_nil_of_length_eq_zero (by rw [hnl]; simp)
      subst hn
      refine ⟨.slice none 0 0, w, ?_, World.ownsRow_nil w base e i.size, ⟨rfl, rfl, rfl, Nat.le_refl _, fun _ _ _ => rfl⟩, fun k hk => by simp [Value.ownBlock] at hk, by simp⟩
      rcases hs.kind with ⟨e', hk⟩ | hk <;> simp [Builtin.append_, run_underlying ht, run_underlying hk, sizeOf, typeInfo, hi, hs.len, hs.cells]
    · have hr := run_append_grow_src (P := P) w t tx ty e i z ht hi hz none 0 0 [] (run_firstCells_none w.drew i.size 0 0 0) x m news hs (by omega) (by simpa using h63') (growslice_fits (by omega) (by simpa using hbytes))
      have hgr := grown 0 (by omega) (Value.ownBlock (.slice none 0 0))
      refine ⟨_, _, hr, hgr.1, hgr.2, fun k hk => .inr ?_, by simp [hm]⟩
      simp [Value.ownBlock] at hk
      omega
  · by_cases hroom : n + m ≤ cap
    · have hfit : n * i.size + news.length ≤ cur.size := by rw [hnl, hcs, ← Nat.add_mul]; exact Nat.mul_le_mul_right _ hroom
      have hb : Blk w g cur.toList.toArray e := by simpa [Blk] using hg
      have hth := hb.there (n * i.size) news.length (by simpa using hfit)
      have hr := run_append_room_src (P := P) w t tx ty e i ht hi g 0 n cap x m news hs hroom (fun j hj => by simpa using (hth j hj).1) (fun j hj => by simpa using (hth j hj).2)
      simp only [Nat.zero_add] at hr
      have hb' := Blk.setCells news (n * i.size) w cur.toList hb (by simpa using hfit)
      refine ⟨_, _, hr, ⟨hlen, .inr ⟨g, cap, _, rfl, hbg, hb', hroom, hcm, ?_, ?_⟩⟩, ⟨(env_setCells g news _ w).1, (env_setCells g news _ w).2.1, (env_setCells g news _ w).2.2, by rw [size_setCells]; exact Nat.le_refl _, fun k _ hk => heap_setCells g k (fun e => hk (by simp [Value.ownBlock, e])) news _ w⟩, fun k hk => .inl hk, by simp⟩
      · simp only [List.size_toArray]
        rw [length_splice _ _ _ (by simpa using hfit)]
        simpa using hcs
      · simp only [List.toList_toArray, splice]
        rw [htake, ← hlen, ← List.append_assoc]
        exact List.take_left
    · have holds : ∀ j u, xs[j]? = some u → w.drew.cell? ((⟨g, 0, none⟩ : Addr).add j) = some u := fun j u h => by simpa using hown.cells (g := g) rfl j u h
      have hr := run_append_grow_src (P := P) w t tx ty e i z ht hi hz (some ⟨g, 0, none⟩) n cap xs (run_firstCells_some w.drew i.size n ⟨g, 0, none⟩ n cap xs hxl holds) x m news hs (by omega) h63' (growslice_fits (by omega) hbytes)
      have hgr := grown cap (by omega) (Value.ownBlock (.slice (some ⟨g, 0, none⟩) n cap))
      refine ⟨_, _, hr, hgr.1, hgr.2, fun k hk => .inr ?_, by simp⟩
      simp [Value.ownBlock] at hk
      omega
/-- THE OPERATION, for the walk. -/
theorem wpl_append {P : Program} {w : World} {ops : Array Oper} {rest : List Oper} {o : Oper} {a : Act} {Q : Exit → Act → World → Prop} (hgd : o.guard = none) (sl x : Operand) (t tx : TypeId)
    (ho : o.op = .call { callee := .builtin .append, args := #[sl, x], argTypes := #[t, tx] })
    (base : Nat) (e : TypeId) (i : TypeInfo) (z : Value) (size bytes : Nat) (ht : P.underlying t = some (.slice e)) (hi : P.info? e = some i) (hz : i.zero = some z) (hsize : i.size = size) (hby : i.bytes = bytes) (hzs : z.cells.size = size)
    (v : Value) (n : Nat) (xs : List Value) (hsl : a.eval sl = v) (hown : w.ownsRow base e size v n xs) (vx : Value) (m : Nat) (news : List Value) (hx : a.eval x = vx) (hs : Src P size tx vx m news w)
    (h63 : n + m ≤ maxLen) (hbytes : (n + m) * bytes ≤ 140737488355328) (hbase : base ≤ w.heap.size)
    (h : ∀ (A : Option Addr) (c : Nat) (w' : World), w'.ownsRow base e size (.slice A (n + m) c) (n + m) (xs ++ news) → w.grownBy w' v.ownBlock → (∀ k, (Value.slice A (n + m) c).ownBlock = some k → v.ownBlock = some k ∨ w.heap.size ≤ k) → wpList P ops Q rest (a.put o.dst (.slice A (n + m) c)) w') : wpList P ops Q (o :: rest) a w := by
  subst hsize hby
  refine wpList_plain hgd fun K hK => ?_
  obtain ⟨v', w', hr, h2, h3, h4, h5⟩ := run_append_any (P := P) w base t tx o.type e i z ht hi hz hzs v n xs hown vx m news hs h63 hbytes hbase
  unfold Oper.wp execOp
  simp only [ho, resolve, invoke, builtin, Sem.run_bind, Sem.run_pure, Result.andThen_ok, List.map_toArray, List.map_cons, List.map_nil, hsl, hx, hr]
  have hv : ∃ A c, v' = .slice A (n + m) c := by
    rcases h2.2 with ⟨e1, e2⟩ | ⟨g, cap, cur, e1, _⟩
    · exact ⟨none, 0, by rw [e2]; exact e1⟩
    · exact ⟨_, _, e1⟩
  obtain ⟨A, c, rfl⟩ := hv
  exact hK _ _ (h A c w' h2 h3 h4)
/-- The same, as one step of a region that draws its order. -/
theorem step_append {P : Program} {w : World} {ops : Array Oper} {o : Oper} {a : Act} {K : Act → World → Prop} {Q : Exit → Act → World → Prop} {E : Prop} (hgd : o.guard = none) (sl x : Operand) (t tx : TypeId)
    (ho : o.op = .call { callee := .builtin .append, args := #[sl, x], argTypes := #[t, tx] })
    (base : Nat) (e : TypeId) (i : TypeInfo) (z : Value) (size bytes : Nat) (ht : P.underlying t = some (.slice e)) (hi : P.info? e = some i) (hz : i.zero = some z) (hsize : i.size = size) (hby : i.bytes = bytes) (hzs : z.cells.size = size)
    (v : Value) (n : Nat) (xs : List Value) (hsl : a.eval sl = v) (hown : w.ownsRow base e size v n xs) (vx : Value) (m : Nat) (news : List Value) (hx : a.eval x = vx) (hs : Src P size tx vx m news w)
    (h63 : n + m ≤ maxLen) (hbytes : (n + m) * bytes ≤ 140737488355328) (hbase : base ≤ w.heap.size)
    (h : ∀ (A : Option Addr) (c : Nat) (w' : World), w'.ownsRow base e size (.slice A (n + m) c) (n + m) (xs ++ news) → w.grownBy w' v.ownBlock → (∀ k, (Value.slice A (n + m) c).ownBlock = some k → v.ownBlock = some k ∨ w.heap.size ≤ k) → K (a.put o.dst (.slice A (n + m) c)) w') :
    if Region.wanted o (yielded ops a.tmps) = true then Oper.wp P o a w K Q else E := by
  subst hsize hby
  obtain ⟨v', w', hr, h2, h3, h4, h5⟩ := run_append_any (P := P) w base t tx o.type e i z ht hi hz hzs v n xs hown vx m news hs h63 hbytes hbase
  have hv : ∃ A c, v' = .slice A (n + m) c := by
    rcases h2.2 with ⟨e1, e2⟩ | ⟨g, cap, cur, e1, _⟩
    · exact ⟨none, 0, by rw [e2]; exact e1⟩
    · exact ⟨_, _, e1⟩
  obtain ⟨A, c, rfl⟩ := hv
  refine step_val hgd ?_ (h A c w' h2 h3 h4)
  unfold execOp
  simp only [ho, resolve, invoke, builtin, Sem.run_bind, Sem.run_pure, Result.andThen_ok, List.map_toArray, List.map_cons, List.map_nil, hsl, hx, hr]
/-- Bytes as a source. -/
theorem Bytes.src {P : Program} {w : World} {v : Value} {l : List UInt8} (h : Bytes w v l) {tx e' : TypeId} (hk : P.underlying tx = some (.slice e')) : Src P 1 tx v l.length (bvs l) w := by
  obtain ⟨A, c, rfl, h1, h2, h3⟩ := h
  cases A with
  | none =>
    have : l = [] := by
      by_cases hn : l = []
      · exact hn
      · obtain ⟨_, _, e, _⟩ := h3 hn; cases e
    subst this
    exact Src.ofNil w hk c
  | some ad =>
    refine Src.ofSlice w hk ad l.length c (bvs l) (by simp [bvs]) (fun j u hj => ?_) (bvs_one l)
    have hn : l ≠ [] := fun e => by subst e; simp [bvs] at hj
    obtain ⟨b, o, e, hr⟩ := h3 hn
    injection e with e
    subst e
    rw [Addr.add_mid]
    exact hr j u hj
theorem byteCells_bvs (l : List UInt8) : byteCells ⟨l.toArray⟩ = bvs l := by simp [byteCells, bvs, bv]
/-- A slice of bytes as a string. -/
theorem Bytes.str {P : Program} {w : World} {v : Value} {l : List UInt8} (h : Bytes w v l) {src dst e : TypeId} (hs : P.underlying src = some (.slice e)) (he : P.underlying e = some (.int .u8)) (hd : P.underlying dst = some .string) :
    (convert src dst v).run P w = .ok (.string ⟨l.toArray⟩) w := by
  obtain ⟨A, c, rfl, h1, h2, h3⟩ := h
  by_cases hn : l = []
  · subst hn
    cases A with
    | none => exact run_convert_bytes_nil w src e hs he 0 c dst hd
    | some ad => exact run_convert_bytes_back w src dst e ad c [] hs he hd (fun j hj => absurd hj (by simp))
  · obtain ⟨b, o, rfl, hr⟩ := h3 hn
    refine run_convert_bytes_back w src dst e _ c l hs he hd (fun j hj => ?_)
    rw [Addr.add_mid]
    exact hr j _ (by rw [bvs_get, List.getElem?_eq_getElem hj]; rfl)
/-- One byte, just made, as a string. -/
theorem run_conv_one {P : Program} (w : World) (src dst e : TypeId) (n : Int) (hs : P.underlying src = some (.slice e)) (he : P.underlying e = some (.int .u8)) (hd : P.underlying dst = some .string) (h0 : 0 ≤ n) (h1 : n < 256) :
    (convert src dst (.slice (some ⟨w.heap.size, 0, none⟩) 1 1)).run P (w.alloc (.cells #[.int .u8 n] e)) = .ok (.string ⟨#[UInt8.ofNat n.toNat]⟩) (w.alloc (.cells #[.int .u8 n] e)) := by
  refine run_convert_bytes_back (w.alloc (.cells #[.int .u8 n] e)) src dst e ⟨w.heap.size, 0, none⟩ 1 [UInt8.ofNat n.toNat] hs he hd (fun j hj => ?_)
  have hj0 : j = 0 := by simp at hj; exact hj
  subst hj0
  rw [Addr.add_mid]
  have := (Blk.new w #[.int .u8 n] e).cell 0 (.int .u8 n) rfl
  simp only [Nat.add_zero]
  rw [this]
  have : ((UInt8.ofNat n.toNat).toNat : Int) = n := by simp; omega
  simp only [List.getElem_cons_zero, this]
end Go.Proofs.Ythfedeebfailgaa
