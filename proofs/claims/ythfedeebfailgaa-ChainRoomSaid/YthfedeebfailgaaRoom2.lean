/- ChainRoom: the walk. -/
import Derived.Test.YthfedeebfailgaaRoom
set_option linter.unusedVariables false
set_option linter.unusedSimpArgs false
set_option autoImplicit false
namespace Go.Proofs.Ythfedeebfailgaa
open Go.RowKit

/-- A new disk, an area on it, a frame: nothing used. -/
theorem room_start {w w1 w2 w3 w4 : World} {n : Int} {d bn bs a b c : Nat} {e : Int} {s : List UInt8} (h1 : DiskB w1 d bn bs none 0 (DS.new (clampN n))) (k1 : Ext w w1) (hd : w.heap.size ≤ d) (hbn : w.heap.size ≤ bn) (hbs : w.heap.size ≤ bs)
    (ha : w1.heap.size ≤ a) (hA : Blk w2 a (acells d (halfFrom (clampN n) e) (halfFrom (clampN n) e + (clampN n / 2 : Nat)) (halfFrom (clampN n) e)) 108) (k2 : Ext w1 w2) (k3 : Ext w2 w3)
    (hb : w3.heap.size ≤ b) (hF : Bytes w4 (.slice (some ⟨b, 0, none⟩) (framedOf s).length c) (framedOf s)) (k4 : Ext w3 w4) :
    RoomI w d a b bn bs c (halfFrom (clampN n) e) (halfFrom (clampN n) e + (clampN n / 2 : Nat)) (framedOf s) (clampN n) 0 w4 ∧ RoomS w d a b bn bs := by
  have s1 := k1.size
  have s2 := k2.size
  have s3 := k3.size
  have l1 := h1.st.lt
  have l2 := h1.now.lt
  have l3 := h1.safe.lt
  have l4 := hA.lt
  refine ⟨⟨⟨none, 0, _, h1.ext ((k2.trans k3).trans k4), (fun x hx => nomatch hx), rfl, rfl, (by simp [DS.new, blank_length]), rfl, rfl⟩, ?_, hF, ((k1.trans k2).trans k3).trans k4⟩, ⟨by omega, by omega, by omega, by omega, hd, hbn, hbs, by omega⟩⟩
  simpa using hA.keeps (k3.trans k4) (fun x => x)
theorem room_cast (n sec : Nat) : (n : Int) / 2 / sec = ((n / 2 / sec : Nat) : Int) := by
  rw [Int.natCast_ediv, Int.natCast_ediv]; rfl
theorem room_left (fr : Int) (n k : Nat) (h : k ≤ n / 2) (hn : n ≤ 60) : wrap64 (fr + (n / 2 : Nat) - (fr + k)) = (n : Int) / 2 - k := by
  have e : fr + (n / 2 : Nat) - (fr + k) = (n : Int) / 2 - k := by omega
  rw [e]
  have h1 : 0 ≤ (n : Int) / 2 - k := by omega
  have h2 : (n : Int) / 2 - k ≤ 60 := by omega
  generalize (n : Int) / 2 - k = z at *
  simp only [wrap64, IntKind.wrap]; omega
theorem room_mul (j sec k : Nat) (h : k = j * sec) (hk : k ≤ 5000) : wrap64 ((j : Int) * sec) = k := by
  have : ((j : Int) * sec) = (k : Int) := by rw [h, Int.natCast_mul]
  rw [this]
  simp only [wrap64, IntKind.wrap]; omega
theorem room_g2 (fr : Int) (n k : Nat) (h : k ≤ n / 2) : fr + k ≤ fr + (n / 2 : Nat) := by omega
theorem room_more1 {j k sec n : Nat} (hk : k = j * sec) (hs : 1 ≤ sec) (hlt : (j : Int) < (n : Int) / 2 / sec) : k + sec ≤ n / 2 := by
  rw [room_cast] at hlt
  have h := (Nat.le_div_iff_mul_le (x := j + 1) (y := n / 2) hs).1 (by omega)
  rw [Nat.add_mul, Nat.one_mul, ← hk] at h
  exact h
theorem room_more2 {j k sec n : Nat} (hk : k = j * sec) (hs : 1 ≤ sec) (hlt : ¬ (j : Int) < (n : Int) / 2 / sec) : n / 2 < k + sec := by
  rw [room_cast] at hlt
  have h := Nat.lt_mul_div_succ (n / 2) hs
  have h2 : sec * (n / 2 / sec + 1) ≤ sec * (j + 1) := Nat.mul_le_mul_left _ (by omega)
  have h3 : sec * (j + 1) = k + sec := by rw [hk, Nat.mul_add, Nat.mul_one, Nat.mul_comm]
  omega
theorem room_q {j k sec n : Nat} (hk : k = j * sec) (hs : 1 ≤ sec) (hlt : ¬ (j : Int) < (n : Int) / 2 / sec) (hj : k ≤ n / 2) : (n : Int) / 2 / sec = j := by
  rw [room_cast] at hlt ⊢
  have h := (Nat.le_div_iff_mul_le (x := j) (y := n / 2) hs).2 (by rw [← hk]; exact hj)
  omega
theorem room_no1 {fr : Int} {n k sec : Nat} (h : fr + k + sec ≤ fr + (n / 2 : Nat)) (h2 : n / 2 < k + sec) : False := by omega
theorem room_no2 {fr : Int} {n k sec : Nat} (h : fr + (n / 2 : Nat) < fr + k + sec) (h2 : k + sec ≤ n / 2) : False := by omega
theorem room_ls {n k sec : Nat} (h : n / 2 < k + sec) : (n : Int) / 2 - k < sec := by omega
theorem room_sub {n k : Nat} (h : k ≤ n / 2) (hn : n ≤ 60) : wrap64 ((n : Int) / 2 - k) = (n : Int) / 2 - k := by
  have h1 : 0 ≤ (n : Int) / 2 - k := by omega
  have h2 : (n : Int) / 2 - k ≤ 60 := by omega
  generalize (n : Int) / 2 - k = z at *
  simp only [wrap64]; omega
theorem room_jn {j k sec n : Nat} (hk : k = j * sec) (hs : 1 ≤ sec) (h : k + sec ≤ n / 2) : n / 2 - (j + 1) < n / 2 - j := by
  have : j * 1 ≤ j * sec := Nat.mul_le_mul_left _ hs
  omega
theorem area_leftv {a d : Nat} {fr en pos : Int} {w : World} (hb : Blk w a (acells d fr en pos) 108) (v : Int) (hv : wrap64 (en - pos) = v) :
    Calls Try.prog 17 #[.pointer (some ⟨a, 0, none⟩)] w fun e w' => e = .returned (.int .i64 v) ∧ Ext w w' := by
  subst hv; exact area_left a d fr en pos w hb
theorem str_x : (⟨#[120]⟩ : ByteArray) = ⟨([120] : List UInt8).toArray⟩ := rfl
set_option maxRecDepth 100000 in
set_option maxHeartbeats 400000 in
theorem alive16 (w : World) : Calls Try.prog 13 #[] w fun e w' => e = .returned (.bool true) ∧ Ext w w' := by
  go_enter Try.func13, Try.ntmps13
  go_wp2_with fail
  refine (disk_new 9 w).mono ?_
  rintro e w1 ⟨d, bn, bs, rfl, hD, k1, hd, hbn, hbs⟩
  have hc : clampN 9 = 9 := rfl
  have hm : (DS.new (clampN 9)).now.length ≤ 4096 := by simp [DS.new, blank_length, hc]
  have HD := Lib.hid hD
  clear hD
  go_wp2_with fail
  refine (chain_half d bn bs none 0 (DS.new (clampN 9)) 0 w1 HD.out.st hm).mono ?_
  rintro e w2 ⟨a, rfl, ha, hA, k2⟩
  have HA := Lib.hid hA
  clear hA
  go_wp2_with fail
  refine (chain_half d bn bs none 0 (DS.new (clampN 9)) 3 w2 (HD.out.ext k2).st hm).mono ?_
  rintro e w3 ⟨a2, rfl, ha2, hA2, k3⟩
  have HA2 := Lib.hid hA2
  clear hA2
  go_wp2_with fail
  first | rw [str_x] | skip
  refine (framed [120] (by decide) w3).mono ?_
  rintro e w4 ⟨b, c, rfl, hb, hF, k4⟩
  have hnl : (DS.new (clampN 9)).now.length = clampN 9 := by simp [DS.new, blank_length]
  rw [hnl] at HA HA2
  obtain ⟨hR, hS⟩ := room_start HD.out k1 hd hbn hbs ha HA.out k2 k3 hb hF k4
  have hfl := Lib.hid (show (framedOf [120]).length = 48 from framedOf_length _)
  have K3 := Lib.hid (k3.trans k4)
  have hok := lengthOf_framedOf [120] (by decide)
  have h0 : halfFrom (clampN 9) 0 = 0 := rfl
  have h3 : halfFrom (clampN 9) 3 = 4 := rfl
  rw [h0, hc] at hR
  have HR := Lib.hid hR
  have HF := Lib.hid hF
  have K4 := Lib.hid k4
  clear hR hF
  rw [h3] at HA2
  go_wp2_with fail
  refine (area_leftv HR.out.ar 4 (by first | decide | simp [wrap64, IntKind.wrap])).mono ?_
  rintro e w5 ⟨rfl, k5⟩
  go_wp2_with fail
  refine (area_leftv (Blk.keeps HA2.out (k4.trans k5) (fun x => x)) 4 (by first | decide | simp [wrap64, IntKind.wrap, hc])).mono ?_
  rintro e w6 ⟨rfl, k6⟩
  go_wp2_with fail
  refine ((HR.out.ext (k5.trans k6)).add hS (by rw [hfl.out]; decide) (by rw [hfl.out]; decide) hok (by decide) (by decide) (by decide) (by decide)).mono ?_
  rintro e w7 (⟨_, rfl, hR7⟩ | ⟨h, _⟩)
  · rw [hfl.out] at hR7
    have HR7 := Lib.hid hR7
    clear hR7
    go_wp2_with fail
    refine (area_leftv HR7.out.ar 3 (by first | decide | simp [wrap64, IntKind.wrap, parts])).mono ?_
    rintro e w8 ⟨rfl, k8⟩
    have ra := (HR7.out.ext k8).ar.cell 0 (.pointer (some ⟨d, 0, none⟩)) rfl
    go_wp2_with fail
    obtain ⟨wA, wc, D, hD8, _, _, _, hDn, _⟩ := (HR7.out.ext k8).disk
    refine (disk_size d bn bs wA wc D w8 hD8.st).mono ?_
    rintro e w9 ⟨rfl, rfl⟩
    rw [hDn]
    have hE : Ext w w8 := HR7.out.kp.trans k8
    clear hD8 hDn
    go_wp2_with fail
    go_ret
    exact ⟨rfl, hE⟩
  · rw [hfl.out] at h
    exact absurd h (by decide)

set_option maxRecDepth 100000 in
set_option maxHeartbeats 400000 in
theorem room_out (n epoch size : Int) (w : World) (hg : n < 0 ∨ 60 < n ∨ epoch < 0 ∨ size < 0 ∨ 4096 < size) :
    Calls Try.prog 3 #[.int .i64 n, .int .i64 epoch, .int .i64 size] w fun e w' => e = .returned (.bool true) ∧ Ext w w' := by
  have hg' : n < 0 ∨ (¬ n < 0 ∧ 60 < n) ∨ (¬ n < 0 ∧ ¬ 60 < n ∧ epoch < 0) ∨ (¬ n < 0 ∧ ¬ 60 < n ∧ ¬ epoch < 0 ∧ size < 0) ∨ (¬ n < 0 ∧ ¬ 60 < n ∧ ¬ epoch < 0 ∧ ¬ size < 0 ∧ 4096 < size) := by omega
  clear hg
  rcases hg' with h | ⟨h1, h⟩ | ⟨h1, h2, h⟩ | ⟨h1, h2, h3, h⟩ | ⟨h1, h2, h3, h4, h⟩
  all_goals
    go_enter Try.func3, Try.ntmps3
    go_wp2_with fail
    refine (alive16 w).mono ?_
    rintro e w1 ⟨rfl, k1⟩
    go_wp2_with fail
    go_ret
    exact ⟨rfl, k1⟩

set_option maxRecDepth 100000 in
set_option maxHeartbeats 400000 in
theorem room_in (n m : Nat) (epoch : Int) (w : World) (hn : n ≤ 60) (he : 0 ≤ epoch) (hm : m ≤ 4096) :
    Calls Try.prog 3 #[.int .i64 n, .int .i64 epoch, .int .i64 m] w fun e w' => e = .returned (.bool true) ∧ Ext w w' := by
  go_enter Try.func3, Try.ntmps3
  go_wp2_with fail
  refine (alive16 w).mono ?_
  rintro e w0 ⟨rfl, k0⟩
  go_wp2_with fail
  refine (disk_new n w0).mono ?_
  rintro e w1 ⟨d, bn, bs, rfl, hD, k1, hd, hbn, hbs⟩
  have hc : clampN n = n := by unfold clampN; omega
  have hml : (DS.new (clampN n)).now.length ≤ 4096 := by simp [DS.new, blank_length, hc]; omega
  have hnl : (DS.new (clampN n)).now.length = clampN n := by simp [DS.new, blank_length]
  have HD := Lib.hid hD
  have Hnl := Lib.hid hnl
  have Hc := Lib.hid hc
  clear hD hnl hc
  go_wp2_with fail
  refine (chain_half d bn bs none 0 (DS.new (clampN n)) epoch w1 HD.out.st hml).mono ?_
  rintro e w2 ⟨a, rfl, ha, hA, k2⟩
  rw [Hnl.out] at hA
  have HA := Lib.hid hA
  clear hA
  have hmk := make_bytes m (by omega) w2
  have hcv := conv_zs m (by omega) (Keeps.refl _ (w2.alloc (.cells (bvs (zs m)).toArray 5)))
  go_wp2_with fail
  refine (framed (zs m) (by rw [zs_length]; omega) _).mono ?_
  rintro e w4 ⟨b, c, rfl, hb, hF, k4⟩
  have k3 : Ext w2 (w2.alloc (.cells (bvs (zs m)).toArray 5)) := (Keeps.refl _ _).alloc _
  obtain ⟨hR, hS⟩ := room_start HD.out k1 hd hbn hbs ha HA.out k2 k3 hb hF k4
  have hok := lengthOf_framedOf (zs m) (by rw [zs_length]; omega)
  have hfl := framedOf_length (zs m)
  rw [zs_length] at hfl
  rw [Hc.out] at hR
  generalize framedOf (zs m) = f at *
  have HR := Lib.hid hR
  have Hok := Lib.hid hok
  have hf1 : 48 ≤ f.length := by omega
  have hf2 : f.length ≤ 4104 := by omega
  have HF := Lib.hid hF
  clear hR hok hfl hF hmk hcv k4 hb
  obtain ⟨sec, hsec, hs1, hs2, hs3⟩ : ∃ s : Nat, ((f.length : Int) + 255) / 256 = s ∧ 1 ≤ s ∧ s ≤ 17 ∧ parts f.length = s := ⟨parts f.length, by unfold parts; omega, by unfold parts; omega, by unfold parts; omega, rfl⟩
  have Hs3 := Lib.hid hs3
  have hfr : 0 ≤ halfFrom n epoch ∧ halfFrom n epoch + (n / 2 : Nat) ≤ n := by
    unfold halfFrom
    rcases (show epoch % 2 = 0 ∨ epoch % 2 = 1 by omega) with h | h <;> rw [h] <;> omega
  have hc' := Hc.out
  rw [hc'] at HA
  generalize halfFrom n epoch = fr at *
  obtain ⟨hfr0, hfr1⟩ := hfr
  clear hs3 hc' HA HD Hnl hml
  go_wp2_with fail
  rw [hsec]
  have Hsec := Lib.hid hsec
  clear hsec
  go_loopw [11] (fun i wr => ∃ j : Nat, i = .int .i64 j ∧ j * sec ≤ n / 2 ∧ RoomI w0 d a b bn bs c fr (fr + (n / 2 : Nat)) f n (j * sec) wr) (fun i _ => n / 2 - (intOf i).toNat)
  case atStart => exact ⟨0, rfl, by omega, by simpa using HR.out⟩
  case round =>
    obtain ⟨j, rfl, hj, hRj⟩ := hrel
    have hj30 : j ≤ 30 := by
      have := Nat.le_mul_of_pos_right j hs1
      omega
    obtain ⟨k, hk⟩ : ∃ k, k = j * sec := ⟨_, rfl⟩
    have hk5 : k ≤ 5000 := by rw [hk]; omega
    have hmul : wrap64 ((j : Int) * sec) = k := room_mul j sec k hk hk5
    rw [← hk] at hj hRj
    have HRj := Lib.hid hRj
    have Hk := Lib.hid hk
    clear hRj hk
    have hleft := room_left fr n k hj hn
    have Hpar : Hid (parts f.length = sec) := Hs3
    have F1 : Hid (f.length ≠ 0) := Lib.hid (by omega)
    have F2 : Hid (f.length ≤ 100000) := Lib.hid (by omega)
    have G0 : Hid (0 ≤ fr) := hfr0
    have G1 : Hid (fr + (n / 2 : Nat) ≤ n) := hfr1
    have G2 : Hid (fr + k ≤ fr + (n / 2 : Nat)) := room_g2 fr n k hj
    have G3 : Hid (k ≤ 5000) := hk5
    clear hk5
    have Hleft := Lib.hid hleft
    have Hj := Lib.hid hj
    clear hfr0 hfr1 hleft hf1 hf2
    by_cases hlt : (j : Int) < (n : Int) / 2 / sec
    · have hmore : k + sec ≤ n / 2 := room_more1 Hk.out hs1 hlt
      have Hmore := Lib.hid hmore
      have Hs1 := Lib.hid hs1
      clear hmore
      go_wp2_with fail
      have hsub := room_sub hj hn
      have Hj30 := Lib.hid hj30
      clear hlt hs1 hs2 hj30 hj hn
      refine (area_leftv HRj.out.ar _ Hleft.out).mono ?_
      rintro e w5 ⟨rfl, k5⟩
      go_wp2_with fail
      refine ((HRj.out.ext k5).add hS F1.out F2.out Hok.out G0.out G2.out G1.out G3.out).mono ?_
      rintro e w6 (⟨_, rfl, hR6⟩ | ⟨h, _⟩)
      · rw [Hpar.out] at hR6
        have HR6 := Lib.hid hR6
        clear hR6 hsub hmul
        have hj30 := Hj30.out
        go_wp2_with fail
        refine ⟨⟨j + 1, by simp, ?_, ?_⟩, by simp only [intOf, Int.toNat_natCast]; exact room_jn Hk.out Hs1.out Hmore.out⟩
        · rw [Nat.add_mul, Nat.one_mul, ← Hk.out]; exact Hmore.out
        · rw [Nat.add_mul, Nat.one_mul, ← Hk.out]; exact HR6.out
      · rw [Hpar.out] at h
        exact (room_no2 h Hmore.out).elim
    · have hmore : n / 2 < k + sec := room_more2 Hk.out hs1 hlt
      have hq : (n : Int) / 2 / sec = j := room_q Hk.out hs1 hlt hj
      have Hmore := Lib.hid hmore
      have hls := room_ls hmore
      clear hlt hmore hj hj30
      obtain ⟨wA, wc, D, hDj, _, _, _, _, hac, _⟩ := HRj.out.disk
      have hacts := disk_acts d bn bs wA wc D wr hDj.st
      rw [hac] at hacts
      clear hDj hac
      go_wp2_with fail
      refine hacts.mono ?_
      rintro e w5 ⟨rfl, rfl⟩
      go_wp2_with fail
      refine (HRj.out.add hS F1.out F2.out Hok.out G0.out G2.out G1.out G3.out).mono ?_
      rintro e w6 (⟨h, _⟩ | ⟨_, rfl, hR6⟩)
      · rw [Hpar.out] at h
        exact (room_no1 h Hmore.out).elim
      · obtain ⟨wA6, wc6, D6, hD6, _, _, _, _, hac6, _⟩ := hR6.disk
        have hacts6 := disk_acts d bn bs wA6 wc6 D6 w6 hD6.st
        rw [hac6] at hacts6
        have HR6 := Lib.hid hR6
        clear hD6 hac6 hR6
        go_wp2_with fail
        refine hacts6.mono ?_
        rintro e w7 ⟨rfl, rfl⟩
        go_wp2_with fail
        refine (area_leftv HR6.out.ar _ Hleft.out).mono ?_
        rintro e w7 ⟨rfl, k7⟩
        go_wp2_with fail
        go_ret
        exact ⟨rfl, k0.trans (HR6.out.kp.trans k7)⟩

theorem room_walk (n epoch size : Int) (w : World) : Calls Try.prog 3 #[.int .i64 n, .int .i64 epoch, .int .i64 size] w fun e w' => e = .returned (.bool true) ∧ Below w.heap.size w w' := by
  by_cases hg : n < 0 ∨ 60 < n ∨ epoch < 0 ∨ size < 0 ∨ 4096 < size
  · exact (room_out n epoch size w hg).mono fun e w' h => ⟨h.1, Ext.below h.2⟩
  · obtain ⟨a, rfl⟩ := Int.eq_ofNat_of_zero_le (show 0 ≤ n by omega)
    obtain ⟨m, rfl⟩ := Int.eq_ofNat_of_zero_le (show 0 ≤ size by omega)
    exact (room_in a m epoch w (by omega) (by omega) (by omega)).mono fun e w' h => ⟨h.1, Ext.below h.2⟩
end Go.Proofs.Ythfedeebfailgaa
