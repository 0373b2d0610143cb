/- DiskTorn: what is recovered behind a commit, whole or torn. -/
import Derived.Test.YtfmgdjgedhnmeaaDiskK
namespace Go.Proofs.Ytfmgdjgedhnmeaa
open Go.RowKit
set_option linter.unusedVariables false
set_option linter.unusedSimpArgs false

theorem law_at (k : Int) (n : Nat) (w : World) (hn : 0 < n) (hs : n ≤ 1152921504606846976) (h1 : -9223372036854775808 ≤ k) (h2 : k ≤ 9223372036854775807) :
    Calls Try.prog 26 #[.int .i64 k, .int .i64 n] w fun e w' => ∃ r : Nat, r < n ∧ e = .returned (.int .i64 r) ∧ w = w' := by
  have hn' : (1 : Int) ≤ n := by omega
  have hs' : (n : Int) ≤ 1152921504606846976 := by omega
  rcases (show k < 0 ∨ 0 ≤ k from by omega) with hk | hk
  · have e0 : k.tmod n = -((-k) % n) := by
      have := Int.neg_tmod (-k) n
      rw [Int.neg_neg, Int.tmod_eq_emod_of_nonneg (a := -k) (by omega)] at this
      exact this
    have b1 := Int.emod_nonneg (-k) (show (n : Int) ≠ 0 by omega)
    have b2 := Int.emod_lt_of_pos (-k) (show (0 : Int) < n by omega)
    have hm : -(n : Int) < k.tmod n ∧ k.tmod n ≤ 0 := by omega
    obtain ⟨m1, m2⟩ := hm
    have HN := Lib.hid hn
    have hne : ((n : Int) == 0) = false := by simp; omega
    clear e0 b1 b2 hn hs
    rcases (show k.tmod n < 0 ∨ k.tmod n = 0 from by omega) with hz | hz
    · obtain ⟨r, hr⟩ := Int.eq_ofNat_of_zero_le (show 0 ≤ k.tmod n + n by omega)
      have HR := Lib.hid hr
      have hlt : r < n := by omega
      clear hr
      go_enter Try.func26, Try.ntmps26
      go_wp2
      go_ret
      exact ⟨r, hlt, ret_int HR.out, rfl⟩
    · have HZ := Lib.hid hz
      have hz' : ¬ k.tmod n < 0 := by omega
      clear hz
      go_enter Try.func26, Try.ntmps26
      go_wp2
      go_ret
      exact ⟨0, HN.out, ret_int HZ.out, rfl⟩
  · have b1 := Int.emod_nonneg k (show (n : Int) ≠ 0 by omega)
    have b2 := Int.emod_lt_of_pos k (show (0 : Int) < n by omega)
    obtain ⟨r, hr⟩ := Int.eq_ofNat_of_zero_le b1
    have HR := Lib.hid hr
    have hlt : r < n := by omega
    clear hn hs b2 hr
    go_enter Try.func26, Try.ntmps26
    go_wp2
    go_ret
    exact ⟨r, hlt, ret_int HR.out, rfl⟩
theorem law_at_z (k z : Int) (n : Nat) (w : World) (hz : z = n) (hn : 0 < n) (hs : n ≤ 1152921504606846976) (h1 : -9223372036854775808 ≤ k) (h2 : k ≤ 9223372036854775807) :
    Calls Try.prog 26 #[.int .i64 k, .int .i64 z] w fun e w' => ∃ r : Nat, r < n ∧ e = .returned (.int .i64 r) ∧ w = w' := by
  subst hz
  exact law_at k n w hn hs h1 h2
/-- a torn disk in its box -/
structure TornAft (W wx : World) (lo tb : Nat) (fo : Option Addr) (fn fc : Nat) (go : Option Addr) (gn gc : Nat) (t : DiskV) : Prop where
  box : wx.heap[tb]? = some (.cells #[.slice fo fn fc, .slice go gn gc] 57 (0, 0))
  inn : DiskIn wx fo fn fc go gn gc t
  below : Below W.heap.size W wx
  low : lo ≤ tb
theorem keep_alloc {X : World} {b i : Nat} {v : Value} (h : X.cell? ⟨b, i, none⟩ = some v) (o : Obj) : (X.alloc o).cell? ⟨b, i, none⟩ = some v :=
  ((bcell ((Below.refl X.heap.size X).alloc (Nat.le_refl _) o)).1 _ _ (World.block_lt_of_cell? _ _ h)).trans h
theorem keep_set {X : World} {b i c j : Nat} {v u : Value} (h : X.cell? ⟨b, i, none⟩ = some v) (hn : b ≠ c) : (X.setCell ⟨c, j, none⟩ u).cell? ⟨b, i, none⟩ = some v :=
  (World.cell?_of_block (w := X) (Below.heap_setCell _ _ _ _ (show b ≠ c from hn))).trans h
theorem tornA {W w7 : World} {lo : Nat} {fo go : Option Addr} {fn fc gn gc : Nat} {t : DiskV} (hd : DiskIn w7 fo fn fc go gn gc t) (hb : Below W.heap.size W w7) (hl : lo ≤ W.heap.size) : TornAft W (w7.alloc (.cells #[.slice fo fn fc, .slice go gn gc] 57)) lo w7.heap.size fo fn fc go gn gc t :=
  ⟨heap_alloc_new _ _, hd.mono ((Below.refl _ _).alloc (Nat.le_refl _) _), hb.alloc hb.size _, Nat.le_trans hl hb.size⟩
theorem tornB {W w7 : World} {lo tb : Nat} {a1 a2 fo go : Option Addr} {n1 c1 n2 c2 fn fc gn gc : Nat} {t : DiskV} (hd : DiskIn w7 fo fn fc go gn gc t) (hb : Below W.heap.size W w7) (hl : lo ≤ W.heap.size) (hq : w7.heap[tb]? = some (.cells #[.slice a1 n1 c1, .slice a2 n2 c2] 57 (0, 0))) (ht : W.heap.size ≤ tb) : TornAft W ((w7.setCell ⟨tb, 0, none⟩ (.slice fo fn fc)).setCell ⟨tb, 1, none⟩ (.slice go gn gc)) lo tb fo fn fc go gn gc t :=
  ⟨box2_heap hq, ⟨hd.a.box2 hq, hd.b.box2 hq⟩, (hb.setCell (p := ⟨tb, 0, none⟩) ht _).setCell (p := ⟨tb, 1, none⟩) ht _, Nat.le_trans hl ht⟩

set_option maxRecDepth 100000 in
set_option maxHeartbeats 16000000 in
theorem law_torn (w : World) (po1 po2 qo1 qo2 ro1 ro2 : Option Addr) (pn1 pc1 pn2 pc2 qn1 qc1 qn2 qc2 rn1 rc1 rn2 rc2 : Nat) (p q r : PoolV) (n : Int) (hp : PoolIn w po1 pn1 pc1 po2 pn2 pc2 p) (hwp : WfP p) (hq : PoolIn w qo1 qn1 qc1 qo2 qn2 qc2 q) (hwq : WfP q) (hr : PoolIn w ro1 rn1 rc1 ro2 rn2 rc2 r) (hwr : WfP r) (hn : I64 n) :
    Calls Try.prog 7 #[.agg #[.slice po1 pn1 pc1, .slice po2 pn2 pc2], .agg #[.slice qo1 qn1 qc1, .slice qo2 qn2 qc2], .agg #[.slice ro1 rn1 rc1, .slice ro2 rn2 rc2], .int .i64 n] w fun e w' => e = .returned (.bool true) ∧ Below w.heap.size w w' := by
  obtain ⟨hb0, h0, h1, h2, hs0⟩ := three_boxes w (.cells #[.slice po1 pn1 pc1, .slice po2 pn2 pc2] 49) (.cells #[.slice qo1 qn1 qc1, .slice qo2 qn2 qc2] 49) (.cells #[.slice ro1 rn1 rc1, .slice ro2 rn2 rc2] 49)
  have HB := Lib.hid hb0
  have Pp := Lib.hid h0
  have Qp := Lib.hid h1
  have Rp := Lib.hid h2
  have HP := Lib.hid hp
  have HQ := Lib.hid hq
  have HR := Lib.hid hr
  have Pw := Lib.hid hwp
  have Qw := Lib.hid hwq
  have Rw := Lib.hid hwr
  obtain ⟨hn1, hn2⟩ := hn
  obtain ⟨⟨D1, E1⟩, hC⟩ : ∃ z, commitD noD p = z := ⟨_, rfl⟩
  have HC1 := Lib.hid hC
  clear hb0 h0 h1 h2 hp hq hr hwp hwq hwr hC
  go_enter Try.func7, Try.ntmps7
  go_upto_region 1 with fail
  generalize ((w.alloc (.cells #[.slice po1 pn1 pc1, .slice po2 pn2 pc2] 49)).alloc (.cells #[.slice qo1 qn1 qc1, .slice qo2 qn2 qc2] 49)).alloc (.cells #[.slice ro1 rn1 rc1, .slice ro2 rn2 rc2] 49) = W0 at *
  have Pk0 := cell_of_block Pp.out 0
  have Pk1 := cell_of_block Pp.out 1
  have Pkl := lt_heap Pp.out
  simp at Pk0 Pk1
  go_wp2_with fail
  refine (commit_any W0 none none po1 po2 0 0 0 0 pn1 pc1 pn2 pc2 noD p (noD_in _) ⟨nil_byt, nil_byt⟩ (HP.out.mono HB.out) Pw.out).mono ?_
  rw [HC1.out]
  rintro e w1 ⟨ao1, an1, ac1, bo1, bn1, bc1, rfl, hin, hb1⟩
  simp only at hin ⊢
  clear Pk0 Pk1 Pkl
  have hz1 := hb1.size
  have hbp : Below w1.heap.size w1 (w1.alloc (.cells #[.slice ao1 an1 ac1, .slice bo1 bn1 bc1] 57)) := (Below.refl _ _).alloc (Nat.le_refl _) _
  have dp : Hid ((w1.alloc (.cells #[.slice ao1 an1 ac1, .slice bo1 bn1 bc1] 57)).heap[w1.heap.size]? = some (.cells #[.slice ao1 an1 ac1, .slice bo1 bn1 bc1] 57 (0, 0))) := Lib.hid (heap_alloc_new _ _)
  have hbq := below_step hb1 hbp
  have Pp := Lib.hid ((hbq.block _ (lt_heap Pp.out)).trans Pp.out)
  have Qp := Lib.hid ((hbq.block _ (lt_heap Qp.out)).trans Qp.out)
  have Rp := Lib.hid ((hbq.block _ (lt_heap Rp.out)).trans Rp.out)
  have HB := Lib.hid (below_step HB.out hbq)
  have di := Lib.hid (hin.mono hbp)
  have HDB := Lib.hid (show w.heap.size + 3 ≤ w1.heap.size by omega)
  clear hin hb1 hbp hbq hz1 hs0
  go_upto_region 2 with fail
  generalize w1.alloc (.cells #[.slice ao1 an1 ac1, .slice bo1 bn1 bc1] 57) = W1 at *
  go_wp2_with fail
  refine (kept_any W1).mono ?_
  rintro e w2 ⟨rfl, hb2⟩
  have Pp := Lib.hid ((hb2.block _ (lt_heap Pp.out)).trans Pp.out)
  have Qp := Lib.hid ((hb2.block _ (lt_heap Qp.out)).trans Qp.out)
  have Rp := Lib.hid ((hb2.block _ (lt_heap Rp.out)).trans Rp.out)
  have dp := Lib.hid ((hb2.block _ (lt_heap dp.out)).trans dp.out)
  have di := Lib.hid (di.out.mono hb2)
  have HB := Lib.hid (below_step HB.out hb2)
  clear hb2
  by_cases hE10 : E1 = 0
  · as_aux_lemma =>
    subst hE10
    obtain ⟨⟨D2, E2⟩, hC⟩ : ∃ z, commitD D1 q = z := ⟨_, rfl⟩
    have HC2 := Lib.hid hC
    clear hC
    have HBP := Lib.hid (image_byt Pw.out (commit_is HC1.out).2.1)
    have HY1 := Lib.hid (commit_byt nil_byt nil_byt HBP.out HC1.out)
    go_upto_region 4 with fail
    have dk0 := cell_of_block dp.out 0
    have dk1 := cell_of_block dp.out 1
    have dkl := lt_heap dp.out
    have Qk0 := cell_of_block Qp.out 0
    have Qk1 := cell_of_block Qp.out 1
    have Qkl := lt_heap Qp.out
    simp at dk0 dk1 Qk0 Qk1
    go_wp2_with fail
    refine (commit_any w2 ao1 bo1 qo1 qo2 an1 ac1 bn1 bc1 qn1 qc1 qn2 qc2 D1 q di.out HY1.out (HQ.out.mono HB.out) Qw.out).mono ?_
    rw [HC2.out]
    rintro e w3 ⟨ao2, an2, ac2, bo2, bn2, bc2, rfl, hin, hb3⟩
    simp only at hin ⊢
    clear dk0 dk1 dkl Qk0 Qk1 Qkl
    have Pp := Lib.hid ((hb3.block _ (lt_heap Pp.out)).trans Pp.out)
    have Qp := Lib.hid ((hb3.block _ (lt_heap Qp.out)).trans Qp.out)
    have Rp := Lib.hid ((hb3.block _ (lt_heap Rp.out)).trans Rp.out)
    have dp := Lib.hid ((hb3.block _ (lt_heap dp.out)).trans dp.out)
    have HB := Lib.hid (below_step HB.out hb3)
    have dk0 := cell_of_block dp.out 0
    have dk1 := cell_of_block dp.out 1
    have dkl := lt_heap dp.out
    simp at dk0 dk1
    have df0 := free_of_block dp.out 0
    have df1 := free_of_block dp.out 1
    go_upto_region 5 with fail
    have hbz := (HB.out.setCell (p := ⟨w1.heap.size, 0, none⟩) (by show w.heap.size ≤ w1.heap.size; have := HDB.out; omega) (.slice ao2 an2 ac2)).setCell (p := ⟨w1.heap.size, 1, none⟩) (by show w.heap.size ≤ w1.heap.size; have := HDB.out; omega) (.slice bo2 bn2 bc2)
    have hbx := box2_heap (x := ao2) (xn := an2) (xc := ac2) (y := bo2) (yn := bn2) (yc := bc2) dp.out
    have hix : DiskIn ((w3.setCell ⟨w1.heap.size, 0, none⟩ (.slice ao2 an2 ac2)).setCell ⟨w1.heap.size, 1, none⟩ (.slice bo2 bn2 bc2)) ao2 an2 ac2 bo2 bn2 bc2 D2 := ⟨hin.a.box2 dp.out, hin.b.box2 dp.out⟩
    have hxP : ((w3.setCell ⟨w1.heap.size, 0, none⟩ (.slice ao2 an2 ac2)).setCell ⟨w1.heap.size, 1, none⟩ (.slice bo2 bn2 bc2)).heap[w.heap.size]? = _ := heap_setCell_ne (heap_setCell_ne Pp.out (by show w.heap.size ≠ w1.heap.size; have := HDB.out; omega)) (by show w.heap.size ≠ w1.heap.size; have := HDB.out; omega)
    have hxQ : ((w3.setCell ⟨w1.heap.size, 0, none⟩ (.slice ao2 an2 ac2)).setCell ⟨w1.heap.size, 1, none⟩ (.slice bo2 bn2 bc2)).heap[w.heap.size + 1]? = _ := heap_setCell_ne (heap_setCell_ne Qp.out (by show w.heap.size + 1 ≠ w1.heap.size; have := HDB.out; omega)) (by show w.heap.size + 1 ≠ w1.heap.size; have := HDB.out; omega)
    have hxR : ((w3.setCell ⟨w1.heap.size, 0, none⟩ (.slice ao2 an2 ac2)).setCell ⟨w1.heap.size, 1, none⟩ (.slice bo2 bn2 bc2)).heap[w.heap.size + 1 + 1]? = _ := heap_setCell_ne (heap_setCell_ne Rp.out (by show w.heap.size + 1 + 1 ≠ w1.heap.size; have := HDB.out; omega)) (by show w.heap.size + 1 + 1 ≠ w1.heap.size; have := HDB.out; omega)
    clear dk0 dk1 dkl
    clear df0 df1
    clear hin
    generalize (w3.setCell ⟨w1.heap.size, 0, none⟩ (.slice ao2 an2 ac2)).setCell ⟨w1.heap.size, 1, none⟩ (.slice bo2 bn2 bc2) = W3 at *
    have HB := Lib.hid hbz
    have dp := Lib.hid hbx
    have di := Lib.hid hix
    have Pp := Lib.hid hxP
    have Qp := Lib.hid hxQ
    have Rp := Lib.hid hxR
    clear hbz hbx hix hxP hxQ hxR
    clear hb3
    by_cases hE20 : E2 = 0
    · as_aux_lemma =>
        subst hE20
        have HBQ := Lib.hid (image_byt Qw.out (commit_is HC2.out).2.1)
        have HY2 := Lib.hid (commit_byt HY1.out.1 HY1.out.2 HBQ.out HC2.out)
        have HTC := Lib.hid (two_commits Pw.out.sto Qw.out.sto HBP.out HBQ.out HC1.out HC2.out)
        go_upto_region 7 with fail
        have dk0 := cell_of_block dp.out 0
        have dk1 := cell_of_block dp.out 1
        have dkl := lt_heap dp.out
        simp at dk0 dk1
        go_wp2_with fail
        refine (recover_any W3 ao2 bo2 an2 ac2 bn2 bc2 D2 di.out HY2.out).mono ?_
        rw [HTC.out.2.2.2.2]
        rintro e w4 ⟨xo1, xn1, xc1, xo2, xn2, xc2, rfl, hin, hwf, hb4⟩
        simp only at hin hwf ⊢
        clear dk0 dk1 dkl
        have hbp : Below w4.heap.size w4 (w4.alloc (.cells #[.slice xo1 xn1 xc1, .slice xo2 xn2 xc2] 49)) := (Below.refl _ _).alloc (Nat.le_refl _) _
        have xp : Hid ((w4.alloc (.cells #[.slice xo1 xn1 xc1, .slice xo2 xn2 xc2] 49)).heap[w4.heap.size]? = some (.cells #[.slice xo1 xn1 xc1, .slice xo2 xn2 xc2] 49 (0, 0))) := Lib.hid (heap_alloc_new _ _)
        have hbq := below_step hb4 hbp
        have Pp := Lib.hid ((hbq.block _ (lt_heap Pp.out)).trans Pp.out)
        have Qp := Lib.hid ((hbq.block _ (lt_heap Qp.out)).trans Qp.out)
        have Rp := Lib.hid ((hbq.block _ (lt_heap Rp.out)).trans Rp.out)
        have dp := Lib.hid ((hbq.block _ (lt_heap dp.out)).trans dp.out)
        have di := Lib.hid (di.out.mono hbq)
        have HB := Lib.hid (below_step HB.out hbq)
        have xi := Lib.hid (hin.mono hbp)
        clear hin hwf hb4 hbp hbq
        go_upto_region 8 with fail
        generalize w4.alloc (.cells #[.slice xo1 xn1 xc1, .slice xo2 xn2 xc2] 49) = W4 at *
        have xk0 := cell_of_block xp.out 0
        have xk1 := cell_of_block xp.out 1
        have xkl := lt_heap xp.out
        have Qk0 := cell_of_block Qp.out 0
        have Qk1 := cell_of_block Qp.out 1
        have Qkl := lt_heap Qp.out
        simp at xk0 xk1 Qk0 Qk1
        go_wp2_with fail
        refine (same_is W4 _ _ _ _ _ _ _ _ _ _ _ _ q q true (by rw [sameP_self, if_pos (commit_is HC2.out).2.1]) xi.out Qw.out (HQ.out.mono HB.out) Qw.out).mono ?_
        rintro e w5 ⟨rfl, hb5⟩
        clear xk0 xk1 xkl Qk0 Qk1 Qkl
        have Pp := Lib.hid ((hb5.block _ (lt_heap Pp.out)).trans Pp.out)
        have Qp := Lib.hid ((hb5.block _ (lt_heap Qp.out)).trans Qp.out)
        have Rp := Lib.hid ((hb5.block _ (lt_heap Rp.out)).trans Rp.out)
        have dp := Lib.hid ((hb5.block _ (lt_heap dp.out)).trans dp.out)
        have di := Lib.hid (di.out.mono hb5)
        have HB := Lib.hid (below_step HB.out hb5)
        clear hb5 xp xi
        obtain ⟨⟨D3, E3⟩, hC⟩ : ∃ z, commitD D2 r = z := ⟨_, rfl⟩
        have HC3 := Lib.hid hC
        clear hC
        go_upto_region 10 with fail
        have dk0 := cell_of_block dp.out 0
        have dk1 := cell_of_block dp.out 1
        have dkl := lt_heap dp.out
        have Rk0 := cell_of_block Rp.out 0
        have Rk1 := cell_of_block Rp.out 1
        have Rkl := lt_heap Rp.out
        simp at dk0 dk1 Rk0 Rk1
        go_wp2_with fail
        refine (commit_any w5 ao2 bo2 ro1 ro2 an2 ac2 bn2 bc2 rn1 rc1 rn2 rc2 D2 r di.out HY2.out (HR.out.mono HB.out) Rw.out).mono ?_
        rw [HC3.out]
        rintro e w6 ⟨co1, cn1, cc1, co2, cn2, cc2, rfl, hin, hb6⟩
        simp only at hin ⊢
        clear dk0 dk1 dkl Rk0 Rk1 Rkl
        have hbp : Below w6.heap.size w6 (w6.alloc (.cells #[.slice co1 cn1 cc1, .slice co2 cn2 cc2] 57)) := (Below.refl _ _).alloc (Nat.le_refl _) _
        have cp : Hid ((w6.alloc (.cells #[.slice co1 cn1 cc1, .slice co2 cn2 cc2] 57)).heap[w6.heap.size]? = some (.cells #[.slice co1 cn1 cc1, .slice co2 cn2 cc2] 57 (0, 0))) := Lib.hid (heap_alloc_new _ _)
        have hbq := below_step hb6 hbp
        have Pp := Lib.hid ((hbq.block _ (lt_heap Pp.out)).trans Pp.out)
        have Qp := Lib.hid ((hbq.block _ (lt_heap Qp.out)).trans Qp.out)
        have Rp := Lib.hid ((hbq.block _ (lt_heap Rp.out)).trans Rp.out)
        have dp := Lib.hid ((hbq.block _ (lt_heap dp.out)).trans dp.out)
        have di := Lib.hid (di.out.mono hbq)
        have HB := Lib.hid (below_step HB.out hbq)
        have ci := Lib.hid (hin.mono hbp)
        clear hin hb6 hbp hbq
        go_upto_region 11 with fail
        generalize w6.alloc (.cells #[.slice co1 cn1 cc1, .slice co2 cn2 cc2] 57) = W6 at *
        by_cases hE30 : E3 = 0
        · as_aux_lemma =>
            subst hE30
            have HBR := Lib.hid (image_byt Rw.out (commit_is HC3.out).2.1)
            have HSH := Lib.hid (commit_short HC3.out)
            have HCL : Hid (cn1 ≤ 20009 ∧ cn2 ≤ 20009) := Lib.hid (by have h := HSH.out; have := ci.out.a.len; have := ci.out.b.len; unfold diskE at h; split at h; (cases h); omega)
            have HSZ := Lib.hid (show w.heap.size + 3 ≤ W6.heap.size from Nat.le_trans HDB.out (by have := lt_heap dp.out; omega))
            have HTN : Hid (∀ W, Below W6.heap.size W6 W → ∀ x : Int, Calls Try.prog 25 #[.agg #[.slice ao2 an2 ac2, .slice bo2 bn2 bc2], .agg #[.slice ro1 rn1 rc1, .slice ro2 rn2 rc2], .int .i64 x] W fun e w' => ComEnd e W w' (tornD D2 r x)) := Lib.hid fun W hW x => torn_any W x ao2 bo2 ro1 ro2 an2 ac2 bn2 bc2 rn1 rc1 rn2 rc2 D2 r (di.out.mono hW) HY2.out (HR.out.mono (HB.out.trans (hW.mono HB.out.size))) Rw.out
            have HM1 : Hid (IntKind.i64.wrap ((cn1 : Int) + 1) = ((cn1 + 1 : Nat) : Int)) := Lib.hid (by have := HCL.out; rw [IntWalk.i64_in _ (by omega)]; omega)
            have HM2 : Hid (IntKind.i64.wrap ((cn2 : Int) + 1) = ((cn2 + 1 : Nat) : Int)) := Lib.hid (by have := HCL.out; rw [IntWalk.i64_in _ (by omega)]; omega)
            have hc1 : cn1 ≤ 20009 := HCL.out.1
            have hc2 : cn2 ≤ 20009 := HCL.out.2
            go_upto_region 13 with fail
            have dk0 := cell_of_block dp.out 0
            have dk1 := cell_of_block dp.out 1
            have dkl := lt_heap dp.out
            have Rk0 := cell_of_block Rp.out 0
            have Rk1 := cell_of_block Rp.out 1
            have Rkl := lt_heap Rp.out
            have ck0 := cell_of_block cp.out 0
            have ck1 := cell_of_block cp.out 1
            have ckl := lt_heap cp.out
            simp at dk0 dk1 Rk0 Rk1 ck0 ck1
            go_cut [14, 10] (fun u v wx => ∃ (tb x : Nat) (fo : Option Addr) (fn fc : Nat) (go : Option Addr) (gn gc : Nat), u = .pointer (some ⟨tb, 0, none⟩) ∧ v = .int .i64 (tornD D2 r (x : Int)).2 ∧ Hid (TornAft W6 wx (w.heap.size + 3) tb fo fn fc go gn gc (tornD D2 r (x : Int)).1))
            case first =>
              have b0 : Below W6.heap.size W6 W6.drew := (Below.refl _ _).drew
              have bA : Below W6.heap.size W6 (W6.drew.alloc (.cells #[.slice none 0 0, .slice none 0 0] 57)) := b0.alloc (Nat.le_refl _) _
              have gA : (W6.drew.alloc (.cells #[.slice none 0 0, .slice none 0 0] 57)).heap[W6.heap.size]? = some (.cells #[.slice none 0 0, .slice none 0 0] 57 (0, 0)) := heap_alloc_new _ _
              have zA : W6.heap.size < (W6.drew.alloc (.cells #[.slice none 0 0, .slice none 0 0] 57)).heap.size := lt_heap gA
              have ne1 : w1.heap.size ≠ W6.heap.size := Nat.ne_of_lt dkl
              have ne2 : w.heap.size + 1 + 1 ≠ W6.heap.size := Nat.ne_of_lt Rkl
              have ne3 : w6.heap.size ≠ W6.heap.size := Nat.ne_of_lt ckl
              have s00 : W6.drew.cell? ⟨w1.heap.size, 0, none⟩ = _ := dk0
              have s01 : W6.drew.cell? ⟨w1.heap.size, 1, none⟩ = _ := dk1
              have s02 : W6.drew.cell? ⟨w.heap.size + 1 + 1, 0, none⟩ = _ := Rk0
              have s03 : W6.drew.cell? ⟨w.heap.size + 1 + 1, 1, none⟩ = _ := Rk1
              have s04 : W6.drew.cell? ⟨w6.heap.size, 0, none⟩ = _ := ck0
              have s05 : W6.drew.cell? ⟨w6.heap.size, 1, none⟩ = _ := ck1
              have sA0 := ((bcell bA).1 _ 0 dkl).trans dk0
              have sA1 := ((bcell bA).1 _ 1 dkl).trans dk1
              have sA2 := ((bcell bA).1 _ 0 Rkl).trans Rk0
              have sA3 := ((bcell bA).1 _ 1 Rkl).trans Rk1
              have sA4 := ((bcell bA).1 _ 0 ckl).trans ck0
              have sA5 := ((bcell bA).1 _ 1 ckl).trans ck1
              by_cases hmx : cn1 < cn2
              · skip
                go_region_held3 (fun w' => w'.cell? ⟨w1.heap.size, 0, none⟩ = some (.slice ao2 an2 ac2) ∧ w'.cell? ⟨w1.heap.size, 1, none⟩ = some (.slice bo2 bn2 bc2) ∧ w'.cell? ⟨w.heap.size + 1 + 1, 0, none⟩ = some (.slice ro1 rn1 rc1) ∧ w'.cell? ⟨w.heap.size + 1 + 1, 1, none⟩ = some (.slice ro2 rn2 rc2) ∧ w'.cell? ⟨w6.heap.size, 0, none⟩ = some (.slice co1 cn1 cc1) ∧ w'.cell? ⟨w6.heap.size, 1, none⟩ = some (.slice co2 cn2 cc2))
                  (first
                  | with_reducible exact ⟨dk0, dk1, Rk0, Rk1, ck0, ck1⟩
                  | with_reducible exact ⟨sA0, sA1, sA2, sA3, sA4, sA5⟩
                  | (refine ⟨?_, ?_, ?_, ?_, ?_, ?_⟩ <;> with_reducible assumption)
                  | (refine ⟨?_, ?_, ?_, ?_, ?_, ?_⟩ <;> (refine keep_alloc ?_ _; with_reducible assumption))
                  | (refine ⟨?_, ?_, ?_, ?_, ?_, ?_⟩ <;> (refine keep_set ?_ (by with_reducible assumption); with_reducible assumption))
                  | (refine ⟨?_, ?_, ?_, ?_, ?_, ?_⟩ <;> (refine keep_set (keep_set ?_ (by with_reducible assumption)) (by with_reducible assumption); with_reducible assumption)))
                  (first
                  | (go_at_call 26; refine (law_at_z n _ (cn2 + 1) _ HM2.out (by omega) (by omega) hn1 hn2).mono ?_; rintro e w' ⟨x, hx, rfl, rfl⟩)
                  | (go_at_call 25; refine (HTN.out _ (by first | exact b0 | exact bA) _).mono ?_; rintro e w7 ⟨fo, fn, fc, go, gn, gc, rfl, hin7, hb7⟩; (have hb67 : Below W6.heap.size W6 w7 := by first | exact b0.trans (hb7.mono (Nat.le_refl _)) | exact bA.trans (hb7.mono (Nat.le_of_lt zA))); (have s70 := ((bcell hb67).1 _ 0 dkl).trans dk0); (have s71 := ((bcell hb67).1 _ 1 dkl).trans dk1); (have s72 := ((bcell hb67).1 _ 0 Rkl).trans Rk0); (have s73 := ((bcell hb67).1 _ 1 Rkl).trans Rk1); (have s74 := ((bcell hb67).1 _ 0 ckl).trans ck0); (have s75 := ((bcell hb67).1 _ 1 ckl).trans ck1); (try have hq7 := (hb7.block W6.heap.size zA).trans gA); (try have q70 := cell_of_block hq7 0); (try have q71 := cell_of_block hq7 1); (try have r70 := free_of_block hq7 0); (try have r71 := free_of_block hq7 1); (try have q7l := lt_heap hq7); (try simp at q70 q71)))
                all_goals
                  go_wp2_with fail
                  go_meet
                  first
                    | with_reducible exact ⟨w7.heap.size, x, fo, fn, fc, go, gn, gc, rfl, rfl, Lib.hid (tornA hin7 hb67 HSZ.out)⟩
                    | with_reducible exact ⟨W6.heap.size, x, fo, fn, fc, go, gn, gc, rfl, rfl, Lib.hid (tornB hin7 hb67 HSZ.out hq7 (Nat.le_refl _))⟩
              · skip
                go_region_held3 (fun w' => w'.cell? ⟨w1.heap.size, 0, none⟩ = some (.slice ao2 an2 ac2) ∧ w'.cell? ⟨w1.heap.size, 1, none⟩ = some (.slice bo2 bn2 bc2) ∧ w'.cell? ⟨w.heap.size + 1 + 1, 0, none⟩ = some (.slice ro1 rn1 rc1) ∧ w'.cell? ⟨w.heap.size + 1 + 1, 1, none⟩ = some (.slice ro2 rn2 rc2) ∧ w'.cell? ⟨w6.heap.size, 0, none⟩ = some (.slice co1 cn1 cc1) ∧ w'.cell? ⟨w6.heap.size, 1, none⟩ = some (.slice co2 cn2 cc2))
                  (first
                  | with_reducible exact ⟨dk0, dk1, Rk0, Rk1, ck0, ck1⟩
                  | with_reducible exact ⟨sA0, sA1, sA2, sA3, sA4, sA5⟩
                  | (refine ⟨?_, ?_, ?_, ?_, ?_, ?_⟩ <;> with_reducible assumption)
                  | (refine ⟨?_, ?_, ?_, ?_, ?_, ?_⟩ <;> (refine keep_alloc ?_ _; with_reducible assumption))
                  | (refine ⟨?_, ?_, ?_, ?_, ?_, ?_⟩ <;> (refine keep_set ?_ (by with_reducible assumption); with_reducible assumption))
                  | (refine ⟨?_, ?_, ?_, ?_, ?_, ?_⟩ <;> (refine keep_set (keep_set ?_ (by with_reducible assumption)) (by with_reducible assumption); with_reducible assumption)))
                  (first
                  | (go_at_call 26; refine (law_at_z n _ (cn1 + 1) _ HM1.out (by omega) (by omega) hn1 hn2).mono ?_; rintro e w' ⟨x, hx, rfl, rfl⟩)
                  | (go_at_call 25; refine (HTN.out _ (by first | exact b0 | exact bA) _).mono ?_; rintro e w7 ⟨fo, fn, fc, go, gn, gc, rfl, hin7, hb7⟩; (have hb67 : Below W6.heap.size W6 w7 := by first | exact b0.trans (hb7.mono (Nat.le_refl _)) | exact bA.trans (hb7.mono (Nat.le_of_lt zA))); (have s70 := ((bcell hb67).1 _ 0 dkl).trans dk0); (have s71 := ((bcell hb67).1 _ 1 dkl).trans dk1); (have s72 := ((bcell hb67).1 _ 0 Rkl).trans Rk0); (have s73 := ((bcell hb67).1 _ 1 Rkl).trans Rk1); (have s74 := ((bcell hb67).1 _ 0 ckl).trans ck0); (have s75 := ((bcell hb67).1 _ 1 ckl).trans ck1); (try have hq7 := (hb7.block W6.heap.size zA).trans gA); (try have q70 := cell_of_block hq7 0); (try have q71 := cell_of_block hq7 1); (try have r70 := free_of_block hq7 0); (try have r71 := free_of_block hq7 1); (try have q7l := lt_heap hq7); (try simp at q70 q71)))
                all_goals
                  go_wp2_with fail
                  go_meet
                  first
                    | with_reducible exact ⟨w7.heap.size, x, fo, fn, fc, go, gn, gc, rfl, rfl, Lib.hid (tornA hin7 hb67 HSZ.out)⟩
                    | with_reducible exact ⟨W6.heap.size, x, fo, fn, fc, go, gn, gc, rfl, rfl, Lib.hid (tornB hin7 hb67 HSZ.out hq7 (Nat.le_refl _))⟩
            case rest =>
              obtain ⟨tb, x, fo, fn, fc, go, gn, gc, rfl, rfl, hT⟩ := hcut
              have hbT := hT.out.below
              obtain ⟨⟨T1, ET⟩, hTT⟩ : ∃ z, tornD D2 r (x : Int) = z := ⟨_, rfl⟩
              rw [hTT] at hT ⊢
              simp only at hT ⊢
              have HTT := Lib.hid hTT
              have Pp := Lib.hid ((hbT.block _ (lt_heap Pp.out)).trans Pp.out)
              have Qp := Lib.hid ((hbT.block _ (lt_heap Qp.out)).trans Qp.out)
              have Rp := Lib.hid ((hbT.block _ (lt_heap Rp.out)).trans Rp.out)
              have HB := Lib.hid (below_step HB.out hbT)
              have tp := Lib.hid hT.out.box
              have ti := Lib.hid hT.out.inn
              have HTB := Lib.hid hT.out.low
              clear hbT hT hTT HTN dp di cp ci HM1 HM2 dk0 dk1 dkl Rk0 Rk1 Rkl ck0 ck1 ckl
              have HTE : Hid (ET = 3 ∨ ET = 0) := Lib.hid (by
                rcases torn_err (d := D2) (p := r) (by rw [commit_next HC3.out]) (x : Int) with h | ⟨-, -, h⟩
                · rw [HTT.out] at h; exact .inl h
                · rw [HTT.out] at h; exact .inr (congrArg Prod.snd h))
              rcases HTE.out with rfl | rfl
              · go_wp2_with fail
                go_ret
                exact ⟨rfl, HB.out⟩
              · skip
                obtain ⟨Y, K, T2, hL⟩ := torn_law Pw.out.sto Qw.out.sto Rw.out.sto HBP.out HBQ.out HBR.out HC1.out HC2.out HC3.out HTT.out
                have HL := Lib.hid hL
                clear hL
                have HTY : Hid (Byt T1.a ∧ Byt T1.b) := Lib.hid ⟨HL.out.2.2.2.2.1, HL.out.2.2.2.2.2.1⟩
                have HSY : Hid (Byt T2.a ∧ Byt T2.b) := Lib.hid HL.out.2.2.2.2.2.2
                go_upto_region 16 with fail
                have tk0 := cell_of_block tp.out 0
                have tk1 := cell_of_block tp.out 1
                have tkl := lt_heap tp.out
                simp at tk0 tk1
                go_wp2_with fail
                refine (recover_any wc fo go fn fc gn gc T1 ti.out HTY.out).mono ?_
                rw [HL.out.1]
                rintro e w8 ⟨yo1, yn1, yc1, yo2, yn2, yc2, rfl, hin, hwf, hb8⟩
                simp only at hin hwf ⊢
                clear tk0 tk1 tkl
                have hbp : Below w8.heap.size w8 (w8.alloc (.cells #[.slice yo1 yn1 yc1, .slice yo2 yn2 yc2] 49)) := (Below.refl _ _).alloc (Nat.le_refl _) _
                have yp : Hid ((w8.alloc (.cells #[.slice yo1 yn1 yc1, .slice yo2 yn2 yc2] 49)).heap[w8.heap.size]? = some (.cells #[.slice yo1 yn1 yc1, .slice yo2 yn2 yc2] 49 (0, 0))) := Lib.hid (heap_alloc_new _ _)
                have hbq := below_step hb8 hbp
                have Pp := Lib.hid ((hbq.block _ (lt_heap Pp.out)).trans Pp.out)
                have Qp := Lib.hid ((hbq.block _ (lt_heap Qp.out)).trans Qp.out)
                have Rp := Lib.hid ((hbq.block _ (lt_heap Rp.out)).trans Rp.out)
                have tp := Lib.hid ((hbq.block _ (lt_heap tp.out)).trans tp.out)
                have ti := Lib.hid (ti.out.mono hbq)
                have HB := Lib.hid (below_step HB.out hbq)
                have yi := Lib.hid (hin.mono hbp)
                clear hin hwf hb8 hbp hbq
                go_upto_region 17 with fail
                generalize w8.alloc (.cells #[.slice yo1 yn1 yc1, .slice yo2 yn2 yc2] 49) = W8 at *
                have HK : Hid (K = 2 ∨ K = 3) := Lib.hid (HL.out.2.1.imp (fun h => h.1) fun h => h.1)
                go_cut [123] (fun u wx => u = .bool false ∧ Below W8.heap.size W8 wx)
                case first =>
                  rcases HL.out.2.1 with ⟨rfl, rfl⟩ | ⟨rfl, rfl⟩
                  · skip
                    have yk0 := cell_of_block yp.out 0
                    have yk1 := cell_of_block yp.out 1
                    have ykl := lt_heap yp.out
                    have Qk0 := cell_of_block Qp.out 0
                    have Qk1 := cell_of_block Qp.out 1
                    have Qkl := lt_heap Qp.out
                    simp at yk0 yk1 Qk0 Qk1
                    go_wp2_with fail
                    refine (same_is W8 _ _ _ _ _ _ _ _ _ _ _ _ _ _ true (by rw [sameP_self, if_pos (commit_is HC2.out).2.1]) yi.out Qw.out (HQ.out.mono HB.out) Qw.out).mono ?_
                    rintro e w9 ⟨rfl, hb9⟩
                    clear yk0 yk1 ykl Qk0 Qk1 Qkl
                    go_wp2_with fail
                    go_meet
                    exact ⟨rfl, hb9⟩
                  · skip
                    have yk0 := cell_of_block yp.out 0
                    have yk1 := cell_of_block yp.out 1
                    have ykl := lt_heap yp.out
                    have Rk0 := cell_of_block Rp.out 0
                    have Rk1 := cell_of_block Rp.out 1
                    have Rkl := lt_heap Rp.out
                    simp at yk0 yk1 Rk0 Rk1
                    go_wp2_with fail
                    refine (same_is W8 _ _ _ _ _ _ _ _ _ _ _ _ _ _ true (by rw [sameP_self, if_pos (commit_is HC3.out).2.1]) yi.out Rw.out (HR.out.mono HB.out) Rw.out).mono ?_
                    rintro e w9 ⟨rfl, hb9⟩
                    clear yk0 yk1 ykl Rk0 Rk1 Rkl
                    go_wp2_with fail
                    go_meet
                    exact ⟨rfl, hb9⟩
                case rest =>
                  obtain ⟨rfl, hb9⟩ := hcut
                  have Pp := Lib.hid ((hb9.block _ (lt_heap Pp.out)).trans Pp.out)
                  have Qp := Lib.hid ((hb9.block _ (lt_heap Qp.out)).trans Qp.out)
                  have Rp := Lib.hid ((hb9.block _ (lt_heap Rp.out)).trans Rp.out)
                  have tp := Lib.hid ((hb9.block _ (lt_heap tp.out)).trans tp.out)
                  have ti := Lib.hid (ti.out.mono hb9)
                  have HB := Lib.hid (below_step HB.out hb9)
                  clear hb9 yp yi
                  have hk23 : 2 ≤ K ∧ K ≤ 3 := by rcases HK.out with h | h <;> omega
                  obtain ⟨hkl, hkh⟩ := hk23
                  go_upto_region 19 with fail
                  have tk0 := cell_of_block tp.out 0
                  have tk1 := cell_of_block tp.out 1
                  have tkl := lt_heap tp.out
                  have Pk0 := cell_of_block Pp.out 0
                  have Pk1 := cell_of_block Pp.out 1
                  have Pkl := lt_heap Pp.out
                  simp at tk0 tk1 Pk0 Pk1
                  go_wp2_with fail
                  refine (commit_any _ fo go po1 po2 fn fc gn gc pn1 pc1 pn2 pc2 T1 p ti.out HTY.out (HP.out.mono HB.out) Pw.out).mono ?_
                  rw [HL.out.2.2.1]
                  rintro e wa ⟨so1, sn1, sc1, so2, sn2, sc2, rfl, hin, hba⟩
                  simp only at hin ⊢
                  clear tk0 tk1 tkl Pk0 Pk1 Pkl
                  have Pp := Lib.hid ((hba.block _ (lt_heap Pp.out)).trans Pp.out)
                  have Qp := Lib.hid ((hba.block _ (lt_heap Qp.out)).trans Qp.out)
                  have Rp := Lib.hid ((hba.block _ (lt_heap Rp.out)).trans Rp.out)
                  have tp := Lib.hid ((hba.block _ (lt_heap tp.out)).trans tp.out)
                  have HB := Lib.hid (below_step HB.out hba)
                  clear hba
                  have tk0 := cell_of_block tp.out 0
                  have tk1 := cell_of_block tp.out 1
                  have tkl := lt_heap tp.out
                  simp at tk0 tk1
                  have tf0 := free_of_block tp.out 0
                  have tf1 := free_of_block tp.out 1
                  go_upto_region 20 with fail
                  have hbz := (HB.out.setCell (p := ⟨tb, 0, none⟩) (by show w.heap.size ≤ tb; have := HTB.out; omega) (.slice so1 sn1 sc1)).setCell (p := ⟨tb, 1, none⟩) (by show w.heap.size ≤ tb; have := HTB.out; omega) (.slice so2 sn2 sc2)
                  have hbx := box2_heap (x := so1) (xn := sn1) (xc := sc1) (y := so2) (yn := sn2) (yc := sc2) tp.out
                  have hix : DiskIn ((wa.setCell ⟨tb, 0, none⟩ (.slice so1 sn1 sc1)).setCell ⟨tb, 1, none⟩ (.slice so2 sn2 sc2)) so1 sn1 sc1 so2 sn2 sc2 T2 := ⟨hin.a.box2 tp.out, hin.b.box2 tp.out⟩
                  have hxP : ((wa.setCell ⟨tb, 0, none⟩ (.slice so1 sn1 sc1)).setCell ⟨tb, 1, none⟩ (.slice so2 sn2 sc2)).heap[w.heap.size]? = _ := heap_setCell_ne (heap_setCell_ne Pp.out (by show w.heap.size ≠ tb; have := HTB.out; omega)) (by show w.heap.size ≠ tb; have := HTB.out; omega)
                  clear tk0 tk1 tkl
                  clear tf0 tf1
                  clear hin
                  generalize (wa.setCell ⟨tb, 0, none⟩ (.slice so1 sn1 sc1)).setCell ⟨tb, 1, none⟩ (.slice so2 sn2 sc2) = WA at *
                  have HB := Lib.hid hbz
                  have tp := Lib.hid hbx
                  have ti := Lib.hid hix
                  have Pp := Lib.hid hxP
                  clear hbz hbx hix hxP
                  have tk0 := cell_of_block tp.out 0
                  have tk1 := cell_of_block tp.out 1
                  have tkl := lt_heap tp.out
                  simp at tk0 tk1
                  go_wp2_with fail
                  refine (recover_any WA so1 so2 sn1 sc1 sn2 sc2 T2 ti.out HSY.out).mono ?_
                  rw [HL.out.2.2.2.1]
                  rintro e wb ⟨vo1, vn1, vc1, vo2, vn2, vc2, rfl, hin, hwf, hbb⟩
                  simp only at hin hwf ⊢
                  clear tk0 tk1 tkl
                  have hbp : Below wb.heap.size wb (wb.alloc (.cells #[.slice vo1 vn1 vc1, .slice vo2 vn2 vc2] 49)) := (Below.refl _ _).alloc (Nat.le_refl _) _
                  have vp : Hid ((wb.alloc (.cells #[.slice vo1 vn1 vc1, .slice vo2 vn2 vc2] 49)).heap[wb.heap.size]? = some (.cells #[.slice vo1 vn1 vc1, .slice vo2 vn2 vc2] 49 (0, 0))) := Lib.hid (heap_alloc_new _ _)
                  have hbq := below_step hbb hbp
                  have Pp := Lib.hid ((hbq.block _ (lt_heap Pp.out)).trans Pp.out)
                  have tp := Lib.hid ((hbq.block _ (lt_heap tp.out)).trans tp.out)
                  have ti := Lib.hid (ti.out.mono hbq)
                  have HB := Lib.hid (below_step HB.out hbq)
                  have vi := Lib.hid (hin.mono hbp)
                  clear hin hwf hbb hbp hbq
                  go_upto_region 21 with fail
                  generalize wb.alloc (.cells #[.slice vo1 vn1 vc1, .slice vo2 vn2 vc2] 49) = WB at *
                  have vk0 := cell_of_block vp.out 0
                  have vk1 := cell_of_block vp.out 1
                  have vkl := lt_heap vp.out
                  have Pk0 := cell_of_block Pp.out 0
                  have Pk1 := cell_of_block Pp.out 1
                  have Pkl := lt_heap Pp.out
                  simp at vk0 vk1 Pk0 Pk1
                  go_wp2_with fail
                  refine (same_is WB _ _ _ _ _ _ _ _ _ _ _ _ p p true (by rw [sameP_self, if_pos (commit_is HC1.out).2.1]) vi.out Pw.out (HP.out.mono HB.out) Pw.out).mono ?_
                  rintro e wd ⟨rfl, hbd⟩
                  clear vk0 vk1 vkl Pk0 Pk1 Pkl
                  have Pp := Lib.hid ((hbd.block _ (lt_heap Pp.out)).trans Pp.out)
                  have tp := Lib.hid ((hbd.block _ (lt_heap tp.out)).trans tp.out)
                  have vp := Lib.hid ((hbd.block _ (lt_heap vp.out)).trans vp.out)
                  have ti := Lib.hid (ti.out.mono hbd)
                  have vi := Lib.hid (vi.out.mono hbd)
                  have HB := Lib.hid (below_step HB.out hbd)
                  go_wp2_with fail
                  go_ret
                  exact ⟨rfl, HB.out⟩
        · have qE3 : (E3 == 0) = false := by rw [beq_eq_false_iff_ne]; exact hE30
          clear hE30
          go_wp2_with fail
          go_ret
          exact ⟨rfl, HB.out⟩
    · have qE2 : (E2 == 0) = false := by rw [beq_eq_false_iff_ne]; exact hE20
      clear hE20
      go_wp2_with fail
      go_ret
      exact ⟨rfl, HB.out⟩
  · as_aux_lemma =>
    have qE1 : (E1 == 0) = false := by rw [beq_eq_false_iff_ne]; exact hE10
    clear hE10
    go_wp2_with fail
    refine (kept_any w2).mono ?_
    rintro e w3 ⟨rfl, hb3⟩
    have Pp := Lib.hid ((hb3.block _ (lt_heap Pp.out)).trans Pp.out)
    have Qp := Lib.hid ((hb3.block _ (lt_heap Qp.out)).trans Qp.out)
    have Rp := Lib.hid ((hb3.block _ (lt_heap Rp.out)).trans Rp.out)
    have dp := Lib.hid ((hb3.block _ (lt_heap dp.out)).trans dp.out)
    have di := Lib.hid (di.out.mono hb3)
    have HB := Lib.hid (below_step HB.out hb3)
    clear hb3
    go_wp2_with fail
    go_ret
    exact ⟨rfl, HB.out⟩
end Go.Proofs.Ytfmgdjgedhnmeaa
