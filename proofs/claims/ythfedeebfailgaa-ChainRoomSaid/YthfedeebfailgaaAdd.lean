/- What an area's Add computes. -/
import Derived.Test.YthfedeebfailgaaFramed
import Derived.Test.YthfedeebfailgaaRound
set_option linter.unusedVariables false
set_option linter.unusedSimpArgs false
set_option autoImplicit false
namespace Go.Proofs.Ythfedeebfailgaa
open Go.RowKit Go.Shelf
attribute [local go_sem] Oper.semAt_some

def part (l : List UInt8) (k : Nat) : List UInt8 := (l.drop (256 * k)).take 256
theorem part_length (l : List UInt8) (k : Nat) : (part l k).length = partLen l.length k := by simp [part, partLen]
/-- The parts of bytes, in order. -/
def partsOf (l : List UInt8) : List (List UInt8) := (List.finRange (parts l.length)).map (fun x => part l x.1)
/-- Writes one behind the other, until the power goes. -/
def DS.writes (D : DS) (i : Nat) : List (List UInt8) → Bool × DS
  | [] => (false, D)
  | s :: r => if D.act.1 then (true, D.write i s) else (D.write i s).writes (i + 1) r
theorem writes_snoc (x : List UInt8) : ∀ (L : List (List UInt8)) (D : DS) (i : Nat), (D.writes i L).1 = false →
    D.writes i (L ++ [x]) = ((D.writes i L).2.act.1, (D.writes i L).2.write (i + L.length) x)
  | [], D, i, _ => by simp only [List.nil_append, DS.writes, List.length_nil, Nat.add_zero]; split <;> simp_all
  | s :: r, D, i, h => by
    simp only [List.cons_append, DS.writes] at h ⊢
    by_cases hx : D.act.1 = true
    · simp [hx] at h
    · rw [if_neg hx] at h
      rw [if_neg hx, if_neg hx]
      rw [writes_snoc x r _ _ h, List.length_cons]
      congr 2; omega
theorem write_now (D : DS) (i : Nat) (s : List UInt8) (h : D.act.1 = false) : (D.write i s).now = D.now.set i (fit s) := by
  unfold DS.write; simp [h, act_now]
theorem write_waits (D : DS) (i : Nat) (s : List UInt8) (h : D.act.1 = false) : (D.write i s).waits = D.waits ++ [(i, fit s)] := by
  unfold DS.write; simp [h, act_waits]
theorem write_down (D : DS) (i : Nat) (s : List UInt8) (h : D.act.1 = false) : (D.write i s).down = D.down := by
  unfold DS.write; simp [h, act_down]
theorem writes_keep : ∀ (L : List (List UInt8)) (D : DS) (i : Nat), (D.writes i L).1 = false →
    (D.writes i L).2.down = D.down ∧ (D.writes i L).2.now.length = D.now.length ∧ (D.writes i L).2.waits.length = D.waits.length + L.length
  | [], D, i, _ => ⟨rfl, rfl, rfl⟩
  | s :: r, D, i, h => by
    simp only [DS.writes] at h ⊢
    by_cases hx : D.act.1 = true
    · simp [hx] at h
    · have hx : D.act.1 = false := by simpa using hx
      rw [if_neg (by simp [hx])] at h ⊢
      obtain ⟨h1, h2, h3⟩ := writes_keep r _ _ h
      rw [h1, h2, h3, write_now _ _ _ hx, write_waits _ _ _ hx, write_down _ _ _ hx]
      simp; omega
def areaAdd (D : DS) (en pos : Int) (l : List UInt8) : Int × DS × Int :=
  if l.length = 0 ∨ lengthOf l ≠ l.length then (1, D, pos)
  else if D.down then (8, D, pos)
  else if en - pos < parts l.length then (7, D, pos)
  else if (D.writes pos.toNat (partsOf l)).1 then (8, (D.writes pos.toNat (partsOf l)).2, pos)
  else (0, (D.writes pos.toNat (partsOf l)).2, pos + parts l.length)
def AddPost (a d bn bs : Nat) (wA : Option Addr) (D : DS) (fr en pos : Int) (l : List UInt8) (w : World) (e : Ending) (w' : World) : Prop :=
  ∃ wA' wc', e = .returned (.int .i64 (areaAdd D en pos l).1) ∧ DiskB w' d bn bs wA' wc' (areaAdd D en pos l).2.1 ∧ Blk w' a (acells d fr en (areaAdd D en pos l).2.2) 108 ∧
    Keeps (fun k => foot d bn bs wA k ∨ k = a) w w' ∧ (∀ x, wA' = some x → (∃ b, wA = some b ∧ b.block = x.block) ∨ w.heap.size ≤ x.block)

theorem results_cell1 {P : Program} {fn : Func} {p : Tmp} {ty : TypeId} (h : fn.results = #[.cell p ty]) {d : TypeDesc} (hu : P.underlying ty = some d) (hd : d.isRow = false) {tmps : Array Value} {q : Addr} (hp : tmps.getD p undef = .pointer (some q)) {w : World} {v : Value} (hc : w.cell? q = some v) :
    (results fn tmps).run P w = .ok v w := by
  have ha : (isAgg ty).run P w = .ok false w := by
    cases d <;> simp_all [isAgg, run_underlying hu]
  have hl : (loadVar ty q).run P w = .ok v w := by
    simp [loadVar, ha, load, Sem.run, hc]
  have hp' : tmps[p]?.getD undef = .pointer (some q) := by simpa using hp
  simp [results, h, hp', asAddr, hl]
theorem results_add {tmps : Array Value} {q : Addr} {w : World} {v : Value} (hp : tmps.getD 4 undef = .pointer (some q)) (hc : w.cell? q = some v) : (results Try.f18 tmps).run Try.prog w = .ok v w :=
  results_cell1 rfl Try.underlying30 rfl hp hc
set_option maxRecDepth 100000 in
set_option maxHeartbeats 400000 in
theorem add_early (a d bn bs : Nat) (wA : Option Addr) (wc : Nat) (D : DS) (fr en pos : Int) (v : Value) (l : List UInt8) (w : World) (hD : DiskB w d bn bs wA wc D) (hb : Blk w a (acells d fr en pos) 108)
    (hl : Bytes w v l) (hs : l.length ≤ 100000) (h0 : 0 ≤ pos) (h1 : pos ≤ en) (h2 : en ≤ D.now.length)
    (hno : l.length = 0 ∨ lengthOf l ≠ l.length ∨ D.down = true ∨ en - pos < parts l.length) :
    Calls Try.prog 18 #[.pointer (some ⟨a, 0, none⟩), v] w (AddPost a d bn bs wA D fr en pos l w) := by
  obtain ⟨A0, c0, rfl, q⟩ := hl
  have hl : Bytes w (.slice A0 l.length c0) l := ⟨A0, c0, rfl, q⟩
  have Hfin : Hid (∀ x w', areaAdd D en pos l = (x, D, pos) → Ext w w' → AddPost a d bn bs wA D fr en pos l w (.returned (.int .i64 x)) w') := by
    intro x w' hx k
    unfold AddPost; rw [hx]
    exact ⟨wA, wc, rfl, hD.ext k, hb.keeps k (fun x => x), k.ext, fun x hx => .inl ⟨x, hx, rfl⟩⟩
  have HD := Lib.hid hD
  have Hb := Lib.hid hb
  have Hl := Lib.hid hl
  clear hD hb hl q
  by_cases c1 : l.length = 0
  · have Hx : Hid (areaAdd D en pos l = (1, D, pos)) := by unfold Hid areaAdd; rw [if_pos (.inl c1)]
    clear hno
    rw [c1]
    go_enter Try.func18, Try.ntmps18
    go_wp2_with fail
    (try simp only [Exit.inBlock, Exit.then])
    refine bodyPost_ret (results_add rfl (by simp)) rfl (Hfin.out _ _ Hx.out (((Keeps.refl _ _).alloc _).alloc _))
  · have hno := hno.resolve_left c1
    have hx0 : Ext w ((w.alloc (.cells #[.pointer (some ⟨a, 0, none⟩)] 25)).alloc (.cells #[.int .i64 0] 30)) := ((Keeps.refl _ _).alloc _).alloc _
    have hseg := seg_length _ l _ (Hl.out.ext hx0) (by omega)
    have hB2 := ((Blk.new w #[.pointer (some ⟨a, 0, none⟩)] 25).alloc (.cells #[.int .i64 0] 30))
    have hB4 := Blk.new (w.alloc (.cells #[.pointer (some ⟨a, 0, none⟩)] 25)) #[.int .i64 0] 30
    rw [World.size_alloc] at hB4
    have x2 := hB2.cell 0 _ rfl
    have x4 := hB4.cell 0 _ rfl
    have y4 := hB4.free 0
    generalize hX : (w.alloc (.cells #[.pointer (some ⟨a, 0, none⟩)] 25)).alloc (.cells #[.int .i64 0] 30) = X at *
    by_cases c2 : lengthOf l ≠ l.length
    · have Hx : Hid (areaAdd D en pos l = (1, D, pos)) := by unfold Hid areaAdd; rw [if_pos (.inr c2)]
      have c1' : ((l.length : Int) == 0) = false := by simp only [beq_eq_false_iff_ne]; omega
      have c2' : (lengthOf l == l.length) = false := by simpa using c2
      generalize lengthOf l = q at *
      clear hno c2
      go_enter Try.func18, Try.ntmps18
      go_wp2_with fail
      refine hseg.mono ?_
      rintro e w1 ⟨rfl, hk⟩
      have b4 := hB4.keeps hk (fun x => x)
      have d4 := b4.cell 0 _ rfl
      have e4 := b4.free 0
      go_wp2_with fail
      (try simp only [Exit.inBlock, Exit.then])
      refine bodyPost_ret (results_add rfl ((b4.set 0 (.int .i64 1)).cell 0 _ rfl)) rfl (Hfin.out _ _ Hx.out ?_)
      exact (hx0.trans hk).setCell _ _ (fun h => by simp at h; omega)
    · have c2 : lengthOf l = l.length := by simpa using c2
      have hno := hno.resolve_left (fun h => h c2)
      have c1' : ((l.length : Int) == 0) = false := by simp only [beq_eq_false_iff_ne]; omega
      have c3 : ¬ (l.length = 0 ∨ lengthOf l ≠ l.length) := fun h => h.elim c1 (fun h => h c2)
      rw [c2] at hseg
      by_cases hdn : D.down = true
      · have Hx : Hid (areaAdd D en pos l = (8, D, pos)) := by unfold Hid areaAdd; rw [if_neg c3, if_pos hdn]
        clear hno c2 c3
        go_enter Try.func18, Try.ntmps18
        go_wp2_with fail
        refine hseg.mono ?_
        rintro e w1 ⟨rfl, hk⟩
        have b2 := (hB2.keeps hk (fun x => x)).cell 0 _ rfl
        have b4 := hB4.keeps hk (fun x => x)
        have d4 := b4.cell 0 _ rfl
        have e4 := b4.free 0
        have ba := (Blk.keeps Hb.out (hx0.trans hk) (fun x => x)).cell 0 (.pointer (some ⟨d, 0, none⟩)) rfl
        go_wp2_with fail
        refine (disk_down d bn bs wA wc D w1 (HD.out.ext (hx0.trans hk)).st).mono ?_
        rintro e w2 ⟨rfl, rfl⟩
        rw [hdn]
        go_wp2_with fail
        (try simp only [Exit.inBlock, Exit.then])
        refine bodyPost_ret (results_add rfl ((b4.set 0 (.int .i64 8)).cell 0 _ rfl)) rfl (Hfin.out _ _ Hx.out ?_)
        exact (hx0.trans hk).setCell _ _ (fun h => by simp at h; omega)
      · have hdn : D.down = false := by simpa using hdn
        have hno := hno.resolve_left (by simp [hdn])
        have Hx : Hid (areaAdd D en pos l = (7, D, pos)) := by unfold Hid areaAdd; rw [if_neg c3, if_neg (by simp [hdn]), if_pos hno]
        have hlt : en - pos < ((l.length : Int) + 256 - 1) / 256 := by unfold parts at hno; omega
        have hsub : wrap64 (en - pos) = en - pos := by simp [wrap64, IntKind.wrap]; have := HD.out.ok.most; omega
        clear hno c2 c3
        go_enter Try.func18, Try.ntmps18
        go_wp2_with fail
        refine hseg.mono ?_
        rintro e w1 ⟨rfl, hk⟩
        have b2 := (hB2.keeps hk (fun x => x)).cell 0 _ rfl
        have b4 := hB4.keeps hk (fun x => x)
        have d4 := b4.cell 0 _ rfl
        have e4 := b4.free 0
        have ba := (Blk.keeps Hb.out (hx0.trans hk) (fun x => x)).cell 0 (.pointer (some ⟨d, 0, none⟩)) rfl
        go_wp2_with fail
        refine (disk_down d bn bs wA wc D w1 (HD.out.ext (hx0.trans hk)).st).mono ?_
        rintro e w2 ⟨rfl, rfl⟩
        rw [hdn]
        go_wp2_with fail
        refine (area_left a d fr en pos w1 (Blk.keeps Hb.out (hx0.trans hk) (fun x => x))).mono ?_
        rintro e w2 ⟨rfl, hk2⟩
        rw [hsub]
        have b5 := b4.keeps hk2 (fun x => x)
        have d5 := b5.cell 0 _ rfl
        have e5 := b5.free 0
        go_wp2_with fail
        (try simp only [Exit.inBlock, Exit.then])
        refine bodyPost_ret (results_add rfl ((b5.set 0 (.int .i64 7)).cell 0 _ rfl)) rfl (Hfin.out _ _ Hx.out ?_)
        exact ((hx0.trans hk).trans hk2).setCell _ _ (fun h => by simp at h; omega)

/-! ### Where a block that is no cells is turned -/
theorem Keeps.ofGrown {W W' : World} {row : Option Nat} (hg : W.grownBy W' row) : Keeps (fun k => some k = row) W W' := ⟨hg.os, hg.tape, hg.output, hg.size, fun k hk hne => hg.block k hk hne⟩
def NoCells (W : World) (row : Option Nat) : Prop := ∀ r, row = some r → ∃ o : Obj, W.heap[r]? = some o ∧ o.isCells = false
theorem Blk.noRow {W : World} {b : Nat} {cs : Array Value} {T : TypeId} (h : Blk W b cs T) {row : Option Nat} (hr : NoCells W row) : ¬ some b = row := fun e => by
  obtain ⟨o, ho, hc⟩ := hr b e.symm
  rw [h] at ho
  cases ho
  cases hc
theorem Blk.own {W W' : World} {b : Nat} {cs : Array Value} {T : TypeId} (h : Blk W b cs T) {row : Option Nat} (hg : W.grownBy W' row) (hr : NoCells W row) : Blk W' b cs T := h.grown hg (h.noRow hr)
theorem DiskB.foots {W : World} {d bn bs : Nat} {wA : Option Addr} {wc : Nat} {D : DS} (h : DiskB W d bn bs wA wc D) : ∀ i, foot d bn bs wA i → ∃ cs T, Blk W i cs T ∧ (T = 112 ∨ T = 134 ∨ T = 137) := by
  rintro i (rfl | rfl | rfl | ⟨x, rfl, rfl⟩)
  · exact ⟨_, _, h.st, .inl rfl⟩
  · exact ⟨_, _, h.now, .inr (.inl rfl)⟩
  · exact ⟨_, _, h.safe, .inr (.inl rfl)⟩
  · rcases h.waits.2 with ⟨h1, _⟩ | ⟨g, cap, cur, h1, _, h2, _⟩
    · cases h1
    · injection h1 with h1; injection h1 with h1; subst h1
      exact ⟨_, _, h2, .inr (.inr rfl)⟩
theorem DiskB.own {W W' : World} {d bn bs : Nat} {wA : Option Addr} {wc : Nat} {D : DS} (h : DiskB W d bn bs wA wc D) {row : Option Nat} (hg : W.grownBy W' row) (hr : NoCells W row) : DiskB W' d bn bs wA wc D :=
  h.keeps (Keeps.ofGrown hg) (fun i hi => by obtain ⟨cs, T, hb, _⟩ := h.foots i hi; exact hb.noRow hr)
theorem DiskB.off_foot {W : World} {d bn bs : Nat} {wA : Option Addr} {wc : Nat} {D : DS} (h : DiskB W d bn bs wA wc D) {k : Nat} {cs : Array Value} {T : TypeId} (hb : Blk W k cs T) (h1 : T ≠ 112) (h2 : T ≠ 134) (h3 : T ≠ 137) : ¬ foot d bn bs wA k := fun hf => by
  obtain ⟨cs', T', hb', hT⟩ := h.foots k hf
  have := (hb.inj hb').2
  subst this
  rcases hT with h | h | h
  · exact h1 h
  · exact h2 h
  · exact h3 h
theorem DiskB.from {W W' : World} {d bn bs : Nat} {wA : Option Addr} {wc : Nat} {D : DS} (h : DiskB W d bn bs wA wc D) (k : Keeps (foot d bn bs wA) W W') (B : Nat) : KeepsFrom B W W' :=
  ⟨k.size, fun i o _ hi ho => by
    refine (k.block i (Array.getElem?_eq_some_iff.1 hi).1 (fun hf => ?_)).trans hi
    obtain ⟨cs, T, hb, _⟩ := h.foots i hf
    rw [hb] at hi
    cases hi
    cases ho⟩

/-- What holds between two rounds: so much is written. -/
structure AddI (ac : Array Value) (w : World) (a d bn bs : Nat) (wA : Option Addr) (p6 Bs Bn : Nat) (sv : Value) (res : Int) (D' : DS) (pos : Int) (W : World) : Prop where
  disk : ∃ wA' wc', DiskB W d bn bs wA' wc' D' ∧ ∀ x, wA' = some x → (∃ b, wA = some b ∧ b.block = x.block) ∨ w.heap.size ≤ x.block
  b2 : Blk W w.heap.size #[.pointer (some ⟨a, 0, none⟩)] 25
  b4 : Blk W (w.heap.size + 1) #[.int .i64 res] 30
  b6 : Blk W p6 #[.int .i64 pos] 3
  bS : Blk W Bs #[sv] 27
  bN : Blk W Bn #[.int .i64 256] 3
  kp : Keeps (fun k => foot d bn bs wA k ∨ k = a) w W
  bA : Blk W a ac 108
theorem AddI.own {ac : Array Value} {w : World} {a d bn bs : Nat} {wA : Option Addr} {p6 Bs Bn : Nat} {sv : Value} {res : Int} {D' : DS} {pos : Int} {W W' : World} (h : AddI ac w a d bn bs wA p6 Bs Bn sv res D' pos W) {row : Option Nat} (hg : W.grownBy W' row) (hr : NoCells W row) (hB : ∀ r, row = some r → w.heap.size ≤ r) : AddI ac w a d bn bs wA p6 Bs Bn sv res D' pos W' := by
  obtain ⟨⟨wA', wc', h1, h2⟩, b2, b4, b6, bS, bN, kp, bA⟩ := h
  exact ⟨⟨wA', wc', h1.own hg hr, h2⟩, b2.own hg hr, b4.own hg hr, b6.own hg hr, bS.own hg hr, bN.own hg hr, kp.grown hg (fun k e hk => by have := hB k e; omega), bA.own hg hr⟩
/-- One part more is written: the disk's call, what it leaves. -/
theorem AddI.write {ac : Array Value} {w : World} {a d bn bs : Nat} {wA : Option Addr} {p6 Bs Bn : Nat} {sv : Value} {res : Int} {D' : DS} {pos : Nat} {W : World} (h : AddI ac w a d bn bs wA p6 Bs Bn sv res D' pos W) (v : Value) (l : List UInt8)
    (hi : D'.ready pos = 0) (hlb : Bytes W v l) (hl : l.length ≤ 256) (hfew : D'.waits.length < 1000000) (hap : ∀ b o c, v = .slice (some ⟨b, o, none⟩) l.length c → l ≠ [] → b ≠ d) (B : Nat) :
    Calls Try.prog 72 #[.pointer (some ⟨d, 0, none⟩), .int .i64 pos, v] W (fun e W' => e = .returned (.int .i64 (if D'.act.1 then 8 else 0)) ∧
      AddI ac w a d bn bs wA p6 Bs Bn sv res (D'.write pos l) pos W' ∧ KeepsFrom B W W' ∧ Two Bs Bn W W') := by
  obtain ⟨⟨wA', wc', h1, h2⟩, b2, b4, b6, bS, bN, kp, bA⟩ := h
  refine (disk_write d bn bs wA' wc' D' pos v l W h1 hi hlb hl hfew hap).mono ?_
  rintro e W1 ⟨wA1, wc1, rfl, hD1, hk1, hA1⟩
  have n2 := h1.off_foot b2 (by decide) (by decide) (by decide)
  have n4 := h1.off_foot b4 (by decide) (by decide) (by decide)
  have n6 := h1.off_foot b6 (by decide) (by decide) (by decide)
  have nS := h1.off_foot bS (by decide) (by decide) (by decide)
  have nN := h1.off_foot bN (by decide) (by decide) (by decide)
  have nA := h1.off_foot bA (by decide) (by decide) (by decide)
  refine ⟨rfl, ⟨⟨wA1, wc1, hD1, fun x hx => ?_⟩, b2.keeps hk1 n2, b4.keeps hk1 n4, b6.keeps hk1 n6, bS.keeps hk1 nS, bN.keeps hk1 nN, kp.trans' hk1 (fun i hi hf => .inl ?_), bA.keeps hk1 nA⟩, h1.from hk1 B, Two.keeps hk1 bS.lt bN.lt nS nN⟩
  · rcases hA1 x hx with ⟨b, hb, hbx⟩ | h
    · rcases h2 b hb with ⟨b', hb', hbb⟩ | h
      · exact .inl ⟨b', hb', hbb.trans hbx⟩
      · exact .inr (by omega)
    · exact .inr (Nat.le_trans kp.size h)
  · rcases hf with h | h | h | ⟨x, hx, h⟩
    · exact .inl h
    · exact .inr (.inl h)
    · exact .inr (.inr (.inl h))
    · rcases h2 x hx with ⟨b, hb, hbx⟩ | h'
      · exact .inr (.inr (.inr ⟨b, hb, hbx.trans h⟩))
      · omega
theorem Blk.ne {W : World} {b b' : Nat} {cs cs' : Array Value} {T T' : TypeId} (h : Blk W b cs T) (h' : Blk W b' cs' T') (hT : T ≠ T') : b ≠ b' := fun e => by
  subst e; exact hT (h.inj h').2
theorem AddI.bump {ac : Array Value} {w : World} {a d bn bs : Nat} {wA : Option Addr} {p6 Bs Bn : Nat} {sv : Value} {res : Int} {D' : DS} {pos : Int} {W : World} (h : AddI ac w a d bn bs wA p6 Bs Bn sv res D' pos W) (z : Int) (h1 : w.heap.size ≤ p6) (h2 : Bn ≠ p6) :
    AddI ac w a d bn bs wA p6 Bs Bn sv res D' z (W.setCell ⟨p6, 0, none⟩ (.int .i64 z)) ∧ Two Bs Bn W (W.setCell ⟨p6, 0, none⟩ (.int .i64 z)) := by
  obtain ⟨⟨wA', wc', hd, hx⟩, b2, b4, b6, bS, bN, kp, bA⟩ := h
  have k : Keeps (Only p6) W (W.setCell ⟨p6, 0, none⟩ (.int .i64 z)) := (Keeps.refl _ _).set1 _ _
  have n6 := hd.off_foot b6 (by decide) (by decide) (by decide)
  exact ⟨⟨⟨wA', wc', hd.keeps k (fun i hi e => n6 (e ▸ hi)), hx⟩, b2.keeps k (b2.ne b6 (by decide)), b4.keeps k (b4.ne b6 (by decide)), b6.set 0 _, bS.keeps k (bS.ne b6 (by decide)), bN.keeps k h2,
    kp.trans' k (fun i hi e => by unfold Only at e; omega), bA.keeps k (bA.ne b6 (by decide))⟩, Two.keeps k bS.lt bN.lt (bS.ne b6 (by decide)) h2⟩
theorem AddI.say {ac : Array Value} {w : World} {a d bn bs : Nat} {wA : Option Addr} {p6 Bs Bn : Nat} {sv : Value} {res : Int} {D' : DS} {pos : Int} {W : World} (h : AddI ac w a d bn bs wA p6 Bs Bn sv res D' pos W) (z : Int) :
    AddI ac w a d bn bs wA p6 Bs Bn sv z D' pos (W.setCell ⟨w.heap.size + 1, 0, none⟩ (.int .i64 z)) := by
  obtain ⟨⟨wA', wc', hd, hx⟩, b2, b4, b6, bS, bN, kp, bA⟩ := h
  have k : Keeps (Only (w.heap.size + 1)) W (W.setCell ⟨w.heap.size + 1, 0, none⟩ (.int .i64 z)) := (Keeps.refl _ _).set1 _ _
  have n4 := hd.off_foot b4 (by decide) (by decide) (by decide)
  exact ⟨⟨wA', wc', hd.keeps k (fun i hi e => n4 (e ▸ hi)), hx⟩, b2.keeps k (b2.ne b4 (by decide)), b4.set 0 _, b6.keeps k (b6.ne b4 (by decide)), bS.keeps k (bS.ne b4 (by decide)), bN.keeps k (bN.ne b4 (by decide)),
    kp.trans' k (fun i hi e => by unfold Only at e; omega), bA.keeps k (bA.ne b4 (by decide))⟩
theorem AddI.drew {ac : Array Value} {w : World} {a d bn bs : Nat} {wA : Option Addr} {p6 Bs Bn : Nat} {sv : Value} {res : Int} {D' : DS} {pos : Int} {W : World} (h : AddI ac w a d bn bs wA p6 Bs Bn sv res D' pos W) : AddI ac w a d bn bs wA p6 Bs Bn sv res D' pos W.drew :=
  h.own (row := none) ⟨rfl, rfl, rfl, Nat.le_refl _, fun _ _ _ => rfl⟩ (fun r e => by cases e) (fun r e => by cases e)
theorem AddI.move {fr en p0 : Int} {w : World} {a d bn bs : Nat} {wA : Option Addr} {p6 Bs Bn : Nat} {sv : Value} {res : Int} {D' : DS} {pos : Int} {W : World} (h : AddI (acells d fr en p0) w a d bn bs wA p6 Bs Bn sv res D' pos W) (z : Int) :
    AddI (acells d fr en z) w a d bn bs wA p6 Bs Bn sv res D' pos (W.setCell ⟨a, 3, none⟩ (.int .i64 z)) := by
  obtain ⟨⟨wA', wc', hd, hx⟩, b2, b4, b6, bS, bN, kp, bA⟩ := h
  have k : Keeps (Only a) W (W.setCell ⟨a, 3, none⟩ (.int .i64 z)) := (Keeps.refl _ _).set1 _ _
  have nA := hd.off_foot bA (by decide) (by decide) (by decide)
  exact ⟨⟨wA', wc', hd.keeps k (fun i hi e => nA (e ▸ hi)), hx⟩, b2.keeps k (b2.ne bA (by decide)), b4.keeps k (b4.ne bA (by decide)), b6.keeps k (b6.ne bA (by decide)), bS.keeps k (bS.ne bA (by decide)), bN.keeps k (bN.ne bA (by decide)),
    kp.trans' k (fun i hi e => .inr e), by simpa [acells] using bA.set 3 (.int .i64 z)⟩
theorem AddI.fin {fr en p0 : Int} {w : World} {a d bn bs : Nat} {wA : Option Addr} {p6 Bs Bn : Nat} {sv : Value} {res : Int} {D D' : DS} {pos z : Int} {l : List UInt8} {W : World} (h : AddI (acells d fr en p0) w a d bn bs wA p6 Bs Bn sv res D' z W) (hA : areaAdd D en pos l = (res, D', p0)) :
    AddPost a d bn bs wA D fr en pos l w (.returned (.int .i64 res)) W := by
  obtain ⟨⟨wA', wc', hd, hx⟩, b2, b4, b6, bS, bN, kp, bA⟩ := h
  unfold AddPost
  rw [hA]
  exact ⟨wA', wc', rfl, hd, bA, kp, hx⟩
theorem AddI.leave {ac : Array Value} {w : World} {a d bn bs : Nat} {wA : Option Addr} {p6 Bs Bn : Nat} {sv : Value} {res : Int} {D' : DS} {pos : Int} {V : World} {R : Ending → World → Prop} (h : AddI ac w a d bn bs wA p6 Bs Bn sv res D' pos V) {D0 : Nat} (hK : V.heap[D0]? = some (.deferred (some []))) (hD0 : w.heap.size ≤ D0) {tmps : Array Value} (hp : tmps.getD 4 undef = .pointer (some ⟨w.heap.size + 1, 0, none⟩))
    (hR : ∀ V', AddI ac w a d bn bs wA p6 Bs Bn sv res D' pos V' → R (.returned (.int .i64 res)) V') : bodyPostM Fence.wide 5 Try.prog Try.f18 R .ret { tmps := tmps, defers := [{ target := .collected D0, args := #[] }] } V := by
  have h' := h.own (grownBy_putObj' V D0 (.deferred none)) (fun r e => by cases e; exact ⟨_, hK, rfl⟩) (fun r e => by cases e; exact hD0)
  refine ⟨by simp, .inl ⟨_, _, rfl, run_takeDeferred hK, ?_⟩⟩
  exact ⟨_, results_add hp (h'.b4.cell 0 _ rfl), hR _ h'⟩
theorem writes_stop (L2 : List (List UInt8)) : ∀ (L : List (List UInt8)) (D : DS) (i : Nat), (D.writes i L).1 = true → D.writes i (L ++ L2) = D.writes i L
  | [], D, i, h => by simp [DS.writes] at h
  | s :: r, D, i, h => by
    simp only [List.cons_append, DS.writes] at h ⊢
    by_cases hx : D.act.1 = true
    · simp [hx]
    · rw [if_neg hx] at h
      rw [if_neg hx, if_neg hx, writes_stop L2 r _ _ h]

/-- The slots of Add at a round's beginning. -/
def addT (a d : Nat) (en : Int) (b o c0 len : Nat) (p z p6 : Nat) (v : Value) : Array Value :=
  #[.pointer (some ⟨a, 0, none⟩), .slice (some ⟨b, o, none⟩) len c0, .pointer (some ⟨z, 0, none⟩), undef, .pointer (some ⟨z + 1, 0, none⟩), .int .i64 (((len : Int) + 256 - 1) / 256), .pointer (some ⟨p6, 0, none⟩), v, undef,
    .pointer (some ⟨a, 0, none⟩), .bool false, .slice (some ⟨b, o, none⟩) len c0, .int .i64 len, .int .i64 ((len : Int) + 256), .int .i64 ((len : Int) + 256 - 1), .int .i64 (((len : Int) + 256 - 1) / 256), .bool false,
    .slice (some ⟨b, o, none⟩) len c0, .int .i64 len, .bool false, .bool false, .slice (some ⟨b, o, none⟩) len c0, .int .i64 len, .slice (some ⟨b, o, none⟩) len c0, .int .i64 len, .bool false, .bool false, .bool false,
    .pointer (some ⟨a, 0, none⟩), .pointer (some ⟨a, 0, none⟩), .pointer (some ⟨a, 0, none⟩), .pointer (some ⟨d, 0, none⟩), .bool false, .bool (decide (en - (p : Int) < ((len : Int) + 256 - 1) / 256)), .int .i64 (((len : Int) + 256 - 1) / 256),
    .pointer (some ⟨a, 0, none⟩), .int .i64 (en - p), .bool (decide (en - (p : Int) < ((len : Int) + 256 - 1) / 256)), .pointer (some ⟨a, 0, none⟩), .pointer (some ⟨a, 0, none⟩), .pointer (some ⟨a, 3, none⟩), .int .i64 p,
    .slice (some ⟨b, o, none⟩) len c0, .func (.func 108) #[] #[.pointer (some ⟨p6 + 1, 0, none⟩), .pointer (some ⟨p6 + 1 + 1, 0, none⟩)], v,
    undef, undef, undef, undef, undef, undef, undef, undef, undef, undef, undef, undef, undef, undef, undef, undef]

set_option maxRecDepth 100000 in
set_option maxHeartbeats 1000000 in
theorem add_go (a d bn bs : Nat) (wA : Option Addr) (wc : Nat) (D : DS) (fr en pos : Int) (v : Value) (l : List UInt8) (w : World) (hD : DiskB w d bn bs wA wc D) (hb : Blk w a (acells d fr en pos) 108)
    (hl : Bytes w v l) (hs : l.length ≤ 100000) (h0 : 0 ≤ pos) (h1 : pos ≤ en) (h2 : en ≤ D.now.length)
    (hap : ∀ b o c, v = .slice (some ⟨b, o, none⟩) l.length c → l ≠ [] → ¬ foot d bn bs wA b) (hfew : D.waits.length + parts l.length ≤ 1000000)
    (c1 : ¬ l.length = 0) (c2 : lengthOf l = l.length) (hdn : D.down = false) (hroom : parts l.length ≤ en - pos) :
    Calls Try.prog 18 #[.pointer (some ⟨a, 0, none⟩), v] w (AddPost a d bn bs wA D fr en pos l w) := by
  have hl' := hl
  obtain ⟨A0, c0, rfl, q1, q2, q3⟩ := hl'
  obtain ⟨b, o, rfl, hr⟩ := q3 (fun e => c1 (by rw [e]; rfl))
  have hbf := hap b o c0 rfl (fun e => c1 (by rw [e]; rfl))
  have hblt : b < w.heap.size := by
    have := hr 0 _ (by rw [bvs_get]; exact (by rw [List.getElem?_eq_getElem (by omega)]; rfl))
    exact World.block_lt_of_cell? w _ this
  clear q3 hap
  have HD := Lib.hid hD
  have Hb := Lib.hid hb
  have Hl := Lib.hid hl
  have Hr := Lib.hid hr
  have hba : b ≠ a := hl.apart hb (fun i x => by
    match i with
    | 0 | 1 | 2 | 3 => simp [acells]
    | i + 4 => simp [acells]) b o c0 rfl (fun e => c1 (by rw [e]; rfl))
  have Hbf := Lib.hid hbf
  clear hD hb hl hr hbf
  have hx0 : Ext w ((w.alloc (.cells #[.pointer (some ⟨a, 0, none⟩)] 25)).alloc (.cells #[.int .i64 0] 30)) := ((Keeps.refl _ _).alloc _).alloc _
  have hseg := seg_length _ l _ (Hl.out.ext hx0) (by omega)
  have hB2 := ((Blk.new w #[.pointer (some ⟨a, 0, none⟩)] 25).alloc (.cells #[.int .i64 0] 30))
  have hB4 := Blk.new (w.alloc (.cells #[.pointer (some ⟨a, 0, none⟩)] 25)) #[.int .i64 0] 30
  rw [World.size_alloc] at hB4
  have x2 := hB2.cell 0 _ rfl
  have x4 := hB4.cell 0 _ rfl
  have y4 := hB4.free 0
  have hXs : ((w.alloc (.cells #[.pointer (some ⟨a, 0, none⟩)] 25)).alloc (.cells #[.int .i64 0] 30)).heap.size = w.heap.size + 2 := by simp
  have c1' : ((l.length : Int) == 0) = false := by simp only [beq_eq_false_iff_ne]; omega
  rw [c2] at hseg
  have hsub : wrap64 (en - pos) = en - pos := by simp [wrap64, IntKind.wrap]; have := HD.out.ok.most; omega
  have hge : ¬ en - pos < ((l.length : Int) + 256 - 1) / 256 := by unfold parts at hroom; omega
  have Hx : Hid (areaAdd D en pos l = if (D.writes pos.toNat (partsOf l)).1 then (8, (D.writes pos.toNat (partsOf l)).2, pos) else (0, (D.writes pos.toNat (partsOf l)).2, pos + parts l.length)) := by
    unfold Hid areaAdd
    rw [if_neg (fun h => h.elim c1 (fun h => h c2)), if_neg (by simp [hdn]), if_neg (by omega)]
  generalize hX : (w.alloc (.cells #[.pointer (some ⟨a, 0, none⟩)] 25)).alloc (.cells #[.int .i64 0] 30) = X at *
  clear c2
  obtain ⟨p, rfl⟩ := Int.eq_ofNat_of_zero_le h0
  refine (callsIn_wide (n := 5)).1 ?_
  refine callsIn_of_wp_marks Try.func18 rfl trivial ?_ rfl
  simp only [Try.ntmps18, List.size_toArray, List.length_cons, List.length_nil, Nat.reduceAdd, Nat.reduceSub, Array.replicate_succ, Array.replicate_zero, List.push_toArray, List.append_toArray, List.nil_append, List.cons_append]
  gi_wp2_with fail
  refine ⟨trivial, (callsIn_wide.2 hseg).mono ?_⟩
  rintro e w1 ⟨rfl, hk⟩
  have b2 := hB2.keeps hk (fun x => x)
  have b4 := hB4.keeps hk (fun x => x)
  have d2 := b2.cell 0 _ rfl
  have d4 := b4.cell 0 _ rfl
  have e4 := b4.free 0
  have ba := Blk.keeps Hb.out (hx0.trans hk) (fun x => x)
  have ba0 := ba.cell 0 (.pointer (some ⟨d, 0, none⟩)) rfl
  have ba3 := ba.cell 3 (.int .i64 (p : Int)) rfl
  gi_wp2_with fail
  refine ⟨trivial, (callsIn_wide.2 (disk_down d bn bs wA wc D w1 (HD.out.ext (hx0.trans hk)).st)).mono ?_⟩
  rintro e w2 ⟨rfl, rfl⟩
  rw [hdn]
  gi_wp2_with fail
  refine ⟨trivial, (callsIn_wide.2 (area_left a d fr en p w1 ba)).mono ?_⟩
  rintro e w2 ⟨rfl, hk2⟩
  rw [hsub]
  have d2' := (b2.keeps hk2 (fun x => x)).cell 0 _ rfl
  have ca := ba.keeps hk2 (fun x => x)
  have ca3 := ca.cell 3 (.int .i64 (p : Int)) rfl
  gi_wp2_with fail
  refine ⟨trivial, (callsIn_wide.2 (slices_chunk _ _ _ _)).mono ?_⟩
  rintro e w3 ⟨rfl, hw3⟩
  have hU : AddI (acells d fr en p) w a d bn bs wA w2.heap.size (w2.heap.size + 1) (w2.heap.size + 2) (.slice (some ⟨b, o, none⟩) l.length c0) 0 D (p : Int) w3 := by
    have e6 := ((Blk.new w2 #[.int .i64 (p : Int)] 3).alloc (.cells #[.slice (some ⟨b, o, none⟩) l.length c0] 27)).alloc (.cells #[.int .i64 256] 3)
    have eS := (Blk.new (w2.alloc (.cells #[.int .i64 (p : Int)] 3)) #[.slice (some ⟨b, o, none⟩) l.length c0] 27).alloc (.cells #[.int .i64 256] 3)
    have eN := Blk.new ((w2.alloc (.cells #[.int .i64 (p : Int)] 3)).alloc (.cells #[.slice (some ⟨b, o, none⟩) l.length c0] 27)) #[.int .i64 256] 3
    rw [← hw3] at e6 eS eN
    simp only [World.size_alloc] at e6 eS eN
    have k3 : Ext w2 w3 := by rw [hw3]; exact (((Keeps.refl _ _).alloc _).alloc _).alloc _
    have kw : Ext w w3 := ((hx0.trans hk).trans hk2).trans k3
    exact ⟨⟨wA, wc, HD.out.ext kw, fun x hx => .inl ⟨x, hx, rfl⟩⟩, ((b2.keeps hk2 (fun x => x)).keeps k3 (fun x => x)), ((b4.keeps hk2 (fun x => x)).keeps k3 (fun x => x)), e6, eS, eN, kw.ext, by rw [hw3]; exact ((ca.alloc _).alloc _).alloc _⟩
  have hsz : w3.heap.size = w2.heap.size + 3 := by rw [hw3]; simp
  have hsw : w.heap.size + 2 ≤ w2.heap.size := by rw [← hXs]; exact (hk.trans hk2).size
  have HU := Lib.hid hU
  have Hsz := Lib.hid hsz
  have Hsw := Lib.hid hsw
  clear hw3 hU hsz hsw hx0 hX hseg hB2 hB4 x2 x4 y4 hXs hk b2 b4 d2 d4 e4 ba ba0 ba3 hk2 d2' ca ca3 hsub hge c1'
  gi_wp2_with fail
  have csS := HU.out.bS.cell 0 _ rfl
  have csN := HU.out.bN.cell 0 _ rfl
  refine wpIn_rangeFunc_ownG rfl (by omega) (gf := 108) (lb := #[.pointer (some ⟨w2.heap.size + 1, 0, none⟩), .pointer (some ⟨w2.heap.size + 1 + 1, 0, none⟩)]) rfl trivial (enters_of Try.func108 (by kernel_rfl) rfl)
    (chunk_stops (5 - 1) (by omega) (w2.heap.size + 1) (w2.heap.size + 1 + 1) b o l.length c0 hs q1 w3 (by rw [Hsz.out]; omega) (by rw [Hsz.out]; omega) csS csN)
    (fun h k => h.trans k) (fun W k o o' hk h c1 c2 => Two.put (by rw [Hsz.out]; omega) (by rw [Hsz.out]; omega) W k o o' hk h c1 c2) (Below.refl _ _) (fun _ => rfl)
    (fun pre W => (D.writes p (pre.map (fun x => part l x.1))).1 = false ∧ AddI (acells d fr en p) w a d bn bs wA w2.heap.size (w2.heap.size + 1) (w2.heap.size + 2) (.slice (some ⟨b, o, none⟩) l.length c0) 0 (D.writes p (pre.map (fun x => part l x.1))).2 ((p + pre.length : Nat) : Int) W)
    (fun c pre W => c = .ret ∧ (D.writes p (pre.map (fun x => part l x.1))).1 = true ∧ (∃ z, AddI (acells d fr en p) w a d bn bs wA w2.heap.size (w2.heap.size + 1) (w2.heap.size + 2) (.slice (some ⟨b, o, none⟩) l.length c0) 8 (D.writes p (pre.map (fun x => part l x.1))).2 z W))
    (fun pre A B row hs hg hr => ⟨hs.1, hs.2.own hg (fun r e => (hr r e).2) (fun r e => by have := (hr r e).1; have := Hsz.out; have := Hsw.out; omega)⟩)
    (fun c pre A B row hs hg hr => ⟨hs.1, hs.2.1, hs.2.2.imp (fun z h => h.own hg (fun r e => (hr r e).2) (fun r e => by have := (hr r e).1; have := Hsz.out; have := Hsw.out; omega))⟩)
    ⟨rfl, HU.out⟩
    (fun x => { tmps := addT a d en b o c0 l.length p w.heap.size w2.heap.size (partV b o l.length x), defers := [] }) ?assign ?body ?done ?stop
  case assign =>
    intro l x W K hK
    gi_wp2
    exact hK
  case body =>
    rintro lp pre x W ⟨hwr, hI⟩ hlen
    obtain ⟨k1, k2, k3⟩ := writes_keep _ _ _ hwr
    have hsn := writes_snoc (part l x.1) _ _ _ hwr
    simp only [List.length_map] at k3 hsn
    generalize hL : pre.map (fun x => part l x.1) = L at *
    generalize hD' : (D.writes p L).2 = D' at *
    obtain ⟨i, hi⟩ : ∃ i, i = p + pre.length := ⟨_, rfl⟩
    rw [← hi] at hsn hI
    have hrdy : D'.ready (i : Int) = 0 := by
      unfold DS.ready
      rw [k1, hdn, k2, if_neg (by simp), if_pos (by omega)]
    have hbW : Bytes W (partV b o l.length x) (part l x.1) := by
      have h1 := Hl.out.keeps hI.kp (fun b' o' c' e hn hf => by injection e with e _ _; injection e with e; injection e with e1 _ _; subst e1; exact hf.elim Hbf.out hba)
      have := h1.part (256 * x.1) (partLen l.length x.1) (partLen l.length x.1) (by have := x.2; unfold parts at this; unfold partLen; omega) (Nat.le_refl _) (by unfold partLen; simp only [maxLen]; omega) (some ⟨b, o + 256 * x.1, none⟩) (fun _ => by simp [Addr.add_mid])
      have e : (l.drop (256 * x.1)).take (partLen l.length x.1) = part l x.1 := by
        unfold part partLen
        rw [List.take_eq_take_iff]; simp
      rw [e] at this
      exact this
    have hId : AddI (acells d fr en p) w a d bn bs wA w2.heap.size (w2.heap.size + 1) (w2.heap.size + 2) (.slice (some ⟨b, o, none⟩) l.length c0) 0 D' (i : Int) W.drew :=
      hI.own (row := none) ⟨rfl, rfl, rfl, Nat.le_refl _, fun _ _ _ => rfl⟩ (fun r e => by cases e) (fun r e => by cases e)
    have hw := hId.write (partV b o l.length x) (part l x.1) hrdy (hbW.ext (Keeps.refl _ _).drew) (by rw [part_length]; unfold partLen; omega) (by omega) (fun b' o' c' e hn hbd => by
      simp only [partV] at e
      injection e with e _ _; injection e with e; injection e with e1 _ _; subst e1; exact Hbf.out (.inl hbd)) w3.heap.size
    have m2 := hI.b2.cell 0 _ rfl
    have m6 := hI.b6.cell 0 _ rfl
    have mA := hI.bA.cell 0 (.pointer (some ⟨d, 0, none⟩)) rfl
    have hib : (i : Int) ≤ 4096 := by have := HD.out.ok.most; omega
    have Hi := Lib.hid hi
    clear hi
    have Hhsn := Lib.hid hsn
    have HhI := Lib.hid hI
    have HbW := Lib.hid hbW
    have HL := Lib.hid hL
    clear hsn hI hbW hId k1 k2 k3 hrdy hwr hD' hL
    have hmx : Try.prog.follows .mixedOrders = true := by kernel_rfl
    simp only [addT]
    cases hact : D'.act.1 with
    | false =>
      rw [hact] at hw
      rw [hact] at Hhsn
      simp only [Bool.false_eq_true, if_false] at hw
      have Hact := Lib.hid hact
      clear hact
      gi_wp2
      refine round_still_tail 6 (by kernel_rfl) (by kernel_rfl) (by rintro ⟨_, _, h⟩; exact h) (by kernel_rfl) ?_
      simp only [List.take_succ_cons, List.take_zero, List.drop_succ_cons, List.drop_zero, World.drew_eq]
      repeat still_step
      refine wpStill_nil ?_
      go_wp2_with fail
      refine hw.mono ?_
      rintro e W1 ⟨rfl, hI1, hkf, hT⟩
      · clear hw
        have n6 := hI1.b6.cell 0 _ rfl
        have f6 := hI1.b6.free 0
        have HI1 := Lib.hid hI1
        have Hkf := Lib.hid hkf
        have HT := Lib.hid hT
        clear hI1 hkf hT
        go_wp2_with fail
        gi_wp2
        obtain ⟨g1, g2⟩ := HI1.out.bump ((i : Int) + 1) (by have := Hsw.out; omega) (by omega)
        refine ⟨KeepsFrom.trans ⟨Hkf.out.size, Hkf.out.same⟩ ((KeepsOthers.setCell _ _ _).from _), Two.trans HT.out g2, ?_, ?_⟩
        · rw [List.map_append, List.map_singleton, HL.out, Hhsn.out]
        · rw [List.map_append, List.map_singleton, HL.out, Hhsn.out, List.length_append, List.length_singleton, ← Nat.add_assoc, ← Hi.out]
          exact g1
    | true =>
      rw [hact] at hw
      rw [hact] at Hhsn
      simp only [if_true] at hw
      have Hact := Lib.hid hact
      clear hact
      gi_wp2
      refine round_still_tail 6 (by kernel_rfl) (by kernel_rfl) (by rintro ⟨_, _, h⟩; exact h) (by kernel_rfl) ?_
      simp only [List.take_succ_cons, List.take_zero, List.drop_succ_cons, List.drop_zero, World.drew_eq]
      repeat still_step
      refine wpStill_nil ?_
      go_wp2_with fail
      refine hw.mono ?_
      rintro e W1 ⟨rfl, hI1, hkf, hT⟩
      · clear hw
        have n4 := hI1.b4.cell 0 _ rfl
        have f4 := hI1.b4.free 0
        have HI1 := Lib.hid hI1
        have Hkf := Lib.hid hkf
        have HT := Lib.hid hT
        clear hI1 hkf hT
        go_wp2_with fail
        gi_wp2
        refine ⟨KeepsFrom.trans ⟨Hkf.out.size, Hkf.out.same⟩ ((KeepsOthers.setCell W1 ⟨w.heap.size + 1, 0, none⟩ (.int .i64 8)).from _), rfl, ?_, ⟨(i : Int), ?_⟩⟩
        · rw [List.map_append, List.map_singleton, HL.out, Hhsn.out]
        · rw [List.map_append, List.map_singleton, HL.out, Hhsn.out]
          exact HI1.out.say 8
  case done =>
    rintro D0 ys W hD0 rfl ⟨hwr, hI⟩ hK
    have m2 := hI.b2.cell 0 _ rfl
    have m6 := hI.b6.cell 0 _ rfl
    have y3 := hI.bA.free 3
    have mA3 := hI.bA.cell 3 (.int .i64 p) rfl
    have m4 := hI.b4.cell 0 _ rfl
    have y4 := hI.b4.free 0
    have n4 := hI.bA.ne hI.b4 (by decide)
    have HI := Lib.hid hI
    have HK := Lib.hid hK
    clear hI hK
    gi_wp2
    have hA : areaAdd D en p l = (0, (D.writes p (partsOf l)).2, (p : Int) + parts l.length) := by
      have e := Hx.out
      rw [e, Int.toNat_natCast]
      have hwr : (D.writes p (partsOf l)).1 = false := hwr
      rw [hwr]; rfl
    have h5 := (HI.out.move ((p : Int) + parts l.length)).say 0
    refine h5.leave ?_ (by have := Hsz.out; have := Hsw.out; omega) rfl (fun V' h => h.fin hA)
    exact (KeepsOthers.trans (KeepsOthers.setCell _ _ _) (KeepsOthers.setCell _ _ _)).same D0 _ HK.out rfl
  case stop =>
    rintro D0 c pre W hD0 ⟨k, hk, hp⟩ ⟨rfl, hwr, z, hI⟩ hK
    gi_wp2
    have hall : D.writes p (partsOf l) = D.writes p (pre.map (fun x => part l x.1)) := by
      have : partsOf l = pre.map (fun x => part l x.1) ++ ((List.finRange (parts l.length)).drop k).map (fun x => part l x.1) := by
        rw [hp, ← List.map_append, upto, List.take_append_drop]; rfl
      rw [this, writes_stop _ _ _ _ hwr]
    have hA : areaAdd D en p l = (8, (D.writes p (pre.map (fun x => part l x.1))).2, (p : Int)) := by
      rw [Hx.out, Int.toNat_natCast, hall, hwr]; rfl
    exact hI.leave hK (by have := Hsz.out; have := Hsw.out; omega) rfl (fun V' h => h.fin hA)

set_option maxHeartbeats 400000 in
/-- ADD. -/
theorem area_add (a d bn bs : Nat) (wA : Option Addr) (wc : Nat) (D : DS) (fr en pos : Int) (v : Value) (l : List UInt8) (w : World) (hD : DiskB w d bn bs wA wc D) (hb : Blk w a (acells d fr en pos) 108)
    (hl : Bytes w v l) (hs : l.length ≤ 100000) (h0 : 0 ≤ pos) (h1 : pos ≤ en) (h2 : en ≤ D.now.length)
    (hap : ∀ b o c, v = .slice (some ⟨b, o, none⟩) l.length c → l ≠ [] → ¬ foot d bn bs wA b) (hfew : D.waits.length + parts l.length ≤ 1000000) :
    Calls Try.prog 18 #[.pointer (some ⟨a, 0, none⟩), v] w (AddPost a d bn bs wA D fr en pos l w) := by
  by_cases hno : l.length = 0 ∨ lengthOf l ≠ l.length ∨ D.down = true ∨ en - pos < parts l.length
  · exact add_early a d bn bs wA wc D fr en pos v l w hD hb hl hs h0 h1 h2 hno
  · have c1 : ¬ l.length = 0 := fun h => hno (.inl h)
    have c2 : lengthOf l = l.length := Decidable.byContradiction fun h => hno (.inr (.inl h))
    have c3 : D.down = false := by
      cases h : D.down with
      | false => rfl
      | true => exact absurd (.inr (.inr (.inl h))) hno
    exact add_go a d bn bs wA wc D fr en pos v l w hD hb hl hs h0 h1 h2 hap hfew c1 c2 c3 (by
      rcases Int.lt_or_le (en - pos) (parts l.length) with h | h
      · exact absurd (.inr (.inr (.inr h))) hno
      · exact h)
end Go.Proofs.Ythfedeebfailgaa
