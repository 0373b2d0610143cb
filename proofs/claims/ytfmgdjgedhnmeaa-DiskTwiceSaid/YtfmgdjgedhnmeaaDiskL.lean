/- DiskTwice: each commit has the next number, and the slots take turns. -/
import Derived.Test.YtfmgdjgedhnmeaaDiskK
namespace Go.Proofs.Ytfmgdjgedhnmeaa
open Go.RowKit
set_option linter.unusedVariables false
set_option linter.unusedSimpArgs false

theorem commit_side {d a : DiskV} {p : PoolV} (h : commitD d p = (a, 0)) : a.a = d.a ∨ a.b = d.b := by
  obtain ⟨-, -, -, rfl⟩ := commit_is h
  unfold withD
  cases nextB d
  · exact .inr rfl
  · exact .inl rfl

set_option maxRecDepth 100000 in
set_option maxHeartbeats 16000000 in
theorem law_twice (w : World) (ao bo so xo po yo : Option Addr) (an ac bn bc sn sc xn xc pn pc yn yc : Nat) (d : DiskV) (p q : PoolV) (hd : DiskIn w ao an ac bo bn bc d) (hy : DByt d) (ha : an ≤ 140737488351232) (hb : bn ≤ 140737488351232) (hp : PoolIn w so sn sc xo xn xc p) (hwp : WfP p) (hq : PoolIn w po pn pc yo yn yc q) (hwq : WfP q) :
    Calls Try.prog 8 #[.agg #[.slice ao an ac, .slice bo bn bc], .agg #[.slice so sn sc, .slice xo xn xc], .agg #[.slice po pn pc, .slice yo yn yc]] w fun e w' => e = .returned (.bool true) ∧ Below w.heap.size w w' := by
  obtain ⟨hb0, h0, h1, h2, hs0⟩ := three_boxes w (.cells #[.slice ao an ac, .slice bo bn bc] 57) (.cells #[.slice so sn sc, .slice xo xn xc] 49) (.cells #[.slice po pn pc, .slice yo yn yc] 49)
  have HB := Lib.hid hb0
  have Dp := Lib.hid h0
  have Pp := Lib.hid h1
  have Qp := Lib.hid h2
  have Di := Lib.hid (hd.mono hb0)
  have Pi := Lib.hid (hp.mono hb0)
  have Qi := Lib.hid (hq.mono hb0)
  have HY := Lib.hid hy
  have Pw := Lib.hid hwp
  have Qw := Lib.hid hwq
  obtain ⟨⟨X, n, e1⟩, hR⟩ : ∃ z, recoverD d = z := ⟨_, rfl⟩
  obtain ⟨⟨A, F⟩, hC⟩ : ∃ z, commitD d p = z := ⟨_, rfl⟩
  have HR := Lib.hid hR
  have HC := Lib.hid hC
  clear hb0 h0 h1 h2 hs0 hd hp hq hy hwp hwq hR hC
  go_enter Try.func8, Try.ntmps8
  go_upto_region 1 with fail
  generalize ((w.alloc (.cells #[.slice ao an ac, .slice bo bn bc] 57)).alloc (.cells #[.slice so sn sc, .slice xo xn xc] 49)).alloc (.cells #[.slice po pn pc, .slice yo yn yc] 49) = W0 at *
  have Dk0 := cell_of_block Dp.out 0
  have Dk1 := cell_of_block Dp.out 1
  have Dkl := lt_heap Dp.out
  simp at Dk0 Dk1
  go_wp2_with fail
  refine (recover_any W0 ao bo an ac bn bc d Di.out HY.out).mono ?_
  rw [HR.out]
  rintro e w1 ⟨ro1, rn1, rc1, ro2, rn2, rc2, rfl, -, -, hb1⟩
  simp only
  clear Dk0 Dk1 Dkl
  have hbp : Below w1.heap.size w1 (w1.alloc (.cells #[.slice ro1 rn1 rc1, .slice ro2 rn2 rc2] 49)) := (Below.refl _ _).alloc (Nat.le_refl _) _
  have up : Hid ((w1.alloc (.cells #[.slice ro1 rn1 rc1, .slice ro2 rn2 rc2] 49)).heap[w1.heap.size]? = some (.cells #[.slice ro1 rn1 rc1, .slice ro2 rn2 rc2] 49 (0, 0))) := Lib.hid (heap_alloc_new _ _)
  have hbq := below_step hb1 hbp
  have Dp := Lib.hid ((hbq.block _ (lt_heap Dp.out)).trans Dp.out)
  have Pp := Lib.hid ((hbq.block _ (lt_heap Pp.out)).trans Pp.out)
  have Qp := Lib.hid ((hbq.block _ (lt_heap Qp.out)).trans Qp.out)
  have Di := Lib.hid (Di.out.mono hbq)
  have Pi := Lib.hid (Pi.out.mono hbq)
  have Qi := Lib.hid (Qi.out.mono hbq)
  have HB := Lib.hid (below_step HB.out hbq)
  clear hb1 hbp hbq up
  go_upto_region 2 with fail
  generalize w1.alloc (.cells #[.slice ro1 rn1 rc1, .slice ro2 rn2 rc2] 49) = W1 at *
  have Dk0 := cell_of_block Dp.out 0
  have Dk1 := cell_of_block Dp.out 1
  have Dkl := lt_heap Dp.out
  have Pk0 := cell_of_block Pp.out 0
  have Pk1 := cell_of_block Pp.out 1
  have Pkl := lt_heap Pp.out
  simp at Dk0 Dk1 Pk0 Pk1
  go_wp2_with fail
  refine (commit_any W1 ao bo so xo an ac bn bc sn sc xn xc d p Di.out HY.out Pi.out Pw.out).mono ?_
  rw [HC.out]
  rintro e w2 ⟨ao1, an1, ac1, bo1, bn1, bc1, rfl, hin, hb2⟩
  simp only at hin ⊢
  clear Dk0 Dk1 Dkl Pk0 Pk1 Pkl
  have hbp : Below w2.heap.size w2 (w2.alloc (.cells #[.slice ao1 an1 ac1, .slice bo1 bn1 bc1] 57)) := (Below.refl _ _).alloc (Nat.le_refl _) _
  have ap : Hid ((w2.alloc (.cells #[.slice ao1 an1 ac1, .slice bo1 bn1 bc1] 57)).heap[w2.heap.size]? = some (.cells #[.slice ao1 an1 ac1, .slice bo1 bn1 bc1] 57 (0, 0))) := Lib.hid (heap_alloc_new _ _)
  have hbq := below_step hb2 hbp
  have Dp := Lib.hid ((hbq.block _ (lt_heap Dp.out)).trans Dp.out)
  have Pp := Lib.hid ((hbq.block _ (lt_heap Pp.out)).trans Pp.out)
  have Qp := Lib.hid ((hbq.block _ (lt_heap Qp.out)).trans Qp.out)
  have Di := Lib.hid (Di.out.mono hbq)
  have Pi := Lib.hid (Pi.out.mono hbq)
  have Qi := Lib.hid (Qi.out.mono hbq)
  have HB := Lib.hid (below_step HB.out hbq)
  have ai := Lib.hid (hin.mono hbp)
  clear hin hb2 hbp hbq
  go_upto_region 3 with fail
  generalize w2.alloc (.cells #[.slice ao1 an1 ac1, .slice bo1 bn1 bc1] 57) = W2 at *
  go_wp2_with fail
  refine (kept_any W2).mono ?_
  rintro e w3 ⟨rfl, hb3⟩
  have Dp := Lib.hid ((hb3.block _ (lt_heap Dp.out)).trans Dp.out)
  have Pp := Lib.hid ((hb3.block _ (lt_heap Pp.out)).trans Pp.out)
  have Qp := Lib.hid ((hb3.block _ (lt_heap Qp.out)).trans Qp.out)
  have ap := Lib.hid ((hb3.block _ (lt_heap ap.out)).trans ap.out)
  have Di := Lib.hid (Di.out.mono hb3)
  have Pi := Lib.hid (Pi.out.mono hb3)
  have Qi := Lib.hid (Qi.out.mono hb3)
  have ai := Lib.hid (ai.out.mono hb3)
  have HB := Lib.hid (below_step HB.out hb3)
  clear hb3
  by_cases hF0 : F = 0
  · as_aux_lemma =>
    subst hF0
    have HC2 := Lib.hid (commit_is HC.out)
    have HAY := Lib.hid (commit_byt HY.out.1 HY.out.2 (image_byt Pw.out HC2.out.2.1) HC.out)
    have HRA := Lib.hid (recover_commit HY.out.1 HY.out.2 Pw.out.sto HC.out)
    have HRN := Lib.hid (recover_num HC.out)
    obtain ⟨m, hm⟩ : ∃ m, nextN d = m := ⟨_, rfl⟩
    have hmx : m ≤ 2147483647 := by rw [← hm]; exact HC2.out.2.2.1
    have hm1 : 1 ≤ m := by rw [← hm]; exact (next_above d HY.out.1 HY.out.2).2.2
    rw [hm] at HRA HRN
    have HM := Lib.hid hm
    clear hm
    have HAB : Hid (an1 ≤ 20009 ∧ bn1 ≤ 20009) := Lib.hid (by have h := commit_short HC.out; have := ai.out.a.len; have := ai.out.b.len; unfold diskE at h; split at h; (cases h); omega)
    have HDB : Hid (an ≤ 20009 ∧ bn ≤ 20009) := Lib.hid (by have h := HC2.out.1; have := Di.out.a.len; have := Di.out.b.len; unfold diskE at h; split at h; (cases h); omega)
    have ak0 := cell_of_block ap.out 0
    have ak1 := cell_of_block ap.out 1
    have akl := lt_heap ap.out
    simp at ak0 ak1
    go_wp2_with fail
    refine (recover_any w3 ao1 bo1 an1 ac1 bn1 bc1 A ai.out HAY.out).mono ?_
    rw [HRA.out]
    rintro e w4 ⟨xo1, xn1, xc1, xo2, xn2, xc2, rfl, hin, hwf, hb4⟩
    simp only at hin hwf ⊢
    clear ak0 ak1 akl
    have hbp : Below w4.heap.size w4 (w4.alloc (.cells #[.slice xo1 xn1 xc1, .slice xo2 xn2 xc2] 49)) := (Below.refl _ _).alloc (Nat.le_refl _) _
    have xp : Hid ((w4.alloc (.cells #[.slice xo1 xn1 xc1, .slice xo2 xn2 xc2] 49)).heap[w4.heap.size]? = some (.cells #[.slice xo1 xn1 xc1, .slice xo2 xn2 xc2] 49 (0, 0))) := Lib.hid (heap_alloc_new _ _)
    have hbq := below_step hb4 hbp
    have Dp := Lib.hid ((hbq.block _ (lt_heap Dp.out)).trans Dp.out)
    have Pp := Lib.hid ((hbq.block _ (lt_heap Pp.out)).trans Pp.out)
    have Qp := Lib.hid ((hbq.block _ (lt_heap Qp.out)).trans Qp.out)
    have ap := Lib.hid ((hbq.block _ (lt_heap ap.out)).trans ap.out)
    have Di := Lib.hid (Di.out.mono hbq)
    have Pi := Lib.hid (Pi.out.mono hbq)
    have Qi := Lib.hid (Qi.out.mono hbq)
    have ai := Lib.hid (ai.out.mono hbq)
    have HB := Lib.hid (below_step HB.out hbq)
    have xi := Lib.hid (hin.mono hbp)
    clear hin hwf hb4 hbp hbq
    have HN1 : Hid (e1 = 0 → m = n + 1) := Lib.hid (by have h := HRN.out.1; rw [HR.out] at h; exact h)
    have HN2 : Hid (e1 ≠ 0 → m = 1) := Lib.hid (by have h := HRN.out.2; rw [HR.out] at h; exact h)
    go_upto_region 6 with fail
    generalize w4.alloc (.cells #[.slice xo1 xn1 xc1, .slice xo2 xn2 xc2] 49) = W4 at *
    go_cut [68] (fun u wx => u = .bool false ∧ Below W4.heap.size W4 wx)
    case first =>
      have xk0 := cell_of_block xp.out 0
      have xk1 := cell_of_block xp.out 1
      have xkl := lt_heap xp.out
      have Pk0 := cell_of_block Pp.out 0
      have Pk1 := cell_of_block Pp.out 1
      have Pkl := lt_heap Pp.out
      simp at xk0 xk1 Pk0 Pk1
      go_wp2_with fail
      refine (same_is W4 _ _ _ _ _ _ _ _ _ _ _ _ p p true (by rw [sameP_self, if_pos HC2.out.2.1]) xi.out Pw.out Pi.out Pw.out).mono ?_
      rintro e w5 ⟨rfl, hb5⟩
      clear xk0 xk1 xkl Pk0 Pk1 Pkl
      by_cases he10 : e1 = 0
      · have hmn := HN1.out he10
        subst he10
        subst hmn
        go_wp2_with fail
        go_meet
        exact ⟨rfl, hb5⟩
      · have hm1 := HN2.out he10
        have qe1 : (e1 == 0) = false := by rw [beq_eq_false_iff_ne]; exact he10
        subst hm1
        go_wp2_with fail
        go_meet
        exact ⟨rfl, hb5⟩
    case rest =>
      obtain ⟨rfl, hb5⟩ := hcut
      have Dp := Lib.hid ((hb5.block _ (lt_heap Dp.out)).trans Dp.out)
      have Pp := Lib.hid ((hb5.block _ (lt_heap Pp.out)).trans Pp.out)
      have Qp := Lib.hid ((hb5.block _ (lt_heap Qp.out)).trans Qp.out)
      have ap := Lib.hid ((hb5.block _ (lt_heap ap.out)).trans ap.out)
      have xp := Lib.hid ((hb5.block _ (lt_heap xp.out)).trans xp.out)
      have Di := Lib.hid (Di.out.mono hb5)
      have Pi := Lib.hid (Pi.out.mono hb5)
      have Qi := Lib.hid (Qi.out.mono hb5)
      have ai := Lib.hid (ai.out.mono hb5)
      have xi := Lib.hid (xi.out.mono hb5)
      have HB := Lib.hid (below_step HB.out hb5)
      clear hb5 HN1 HN2 HRN
      have HSD : Hid (A.a = d.a ∨ A.b = d.b) := Lib.hid (commit_side HC.out)
      obtain ⟨EA, hEA⟩ : ∃ z, (A.a == d.a) = z := ⟨_, rfl⟩
      obtain ⟨EB, hEB⟩ : ∃ z, (A.b == d.b) = z := ⟨_, rfl⟩
      have HEA := Lib.hid hEA
      have HEB := Lib.hid hEB
      clear hEA hEB
      have HCA : Hid (∀ W, Below wc.heap.size wc W → Calls Try.prog 13 #[.slice ao1 an1 ac1, .slice ao an ac] W fun e w' => e = .returned (.bool EA) ∧ Below W.heap.size W w') := Lib.hid fun W hW => by
        refine (bytes_equal_n _ _ _ _ _ _ A.a d.a W ai.out.a.len Di.out.a.len (ai.out.a.low.row.mono hW) (Di.out.a.low.row.mono hW) HAY.out.1 HY.out.1).mono ?_
        rintro e w' ⟨rfl, rfl⟩
        exact ⟨by rw [HEA.out], Below.refl _ _⟩
      have HCB : Hid (∀ W, Below wc.heap.size wc W → Calls Try.prog 13 #[.slice bo1 bn1 bc1, .slice bo bn bc] W fun e w' => e = .returned (.bool EB) ∧ Below W.heap.size W w') := Lib.hid fun W hW => by
        refine (bytes_equal_n _ _ _ _ _ _ A.b d.b W ai.out.b.len Di.out.b.len (ai.out.b.low.row.mono hW) (Di.out.b.low.row.mono hW) HAY.out.2 HY.out.2).mono ?_
        rintro e w' ⟨rfl, rfl⟩
        exact ⟨by rw [HEB.out], Below.refl _ _⟩
      have ak0 := cell_of_block ap.out 0
      have ak1 := cell_of_block ap.out 1
      have akl := lt_heap ap.out
      have Dk0 := cell_of_block Dp.out 0
      have Dk1 := cell_of_block Dp.out 1
      have Dkl := lt_heap Dp.out
      simp at ak0 ak1 Dk0 Dk1
      go_upto_region 8 with fail
      refine wp_region_mix (by kernel_rfl) (by kernel_rfl) ?_
      repeat (go_big_quiet_step (first
        | (go_at_call 13; refine calls_mix (v := .bool EA) ?_; exact HCA.out _ (mix_below _ _))
        | (go_at_call 13; refine calls_mix (v := .bool EB) ?_; exact HCB.out _ (mix_below _ _))))
      refine wpQuiet_nil ?_
      intro w6 hb6
      clear ak0 ak1 akl Dk0 Dk1 Dkl
      have Dp := Lib.hid ((hb6.block _ (lt_heap Dp.out)).trans Dp.out)
      have Pp := Lib.hid ((hb6.block _ (lt_heap Pp.out)).trans Pp.out)
      have Qp := Lib.hid ((hb6.block _ (lt_heap Qp.out)).trans Qp.out)
      have ap := Lib.hid ((hb6.block _ (lt_heap ap.out)).trans ap.out)
      have xp := Lib.hid ((hb6.block _ (lt_heap xp.out)).trans xp.out)
      have Di := Lib.hid (Di.out.mono hb6)
      have Pi := Lib.hid (Pi.out.mono hb6)
      have Qi := Lib.hid (Qi.out.mono hb6)
      have ai := Lib.hid (ai.out.mono hb6)
      have xi := Lib.hid (xi.out.mono hb6)
      have HB := Lib.hid (below_step HB.out hb6)
      cases EA with
      | true =>
        cases EB with
        | true =>
            have ak0 := cell_of_block ap.out 0
            have ak1 := cell_of_block ap.out 1
            have akl := lt_heap ap.out
            have Dk0 := cell_of_block Dp.out 0
            have Dk1 := cell_of_block Dp.out 1
            have Dkl := lt_heap Dp.out
            simp at ak0 ak1 Dk0 Dk1
            go_wp2_with fail
            refine (bytes_equal_n _ _ _ _ _ _ A.a d.a _ ai.out.a.len Di.out.a.len ai.out.a.low.row Di.out.a.low.row HAY.out.1 HY.out.1).mono ?_
            rw [HEA.out]
            rintro e w7 ⟨rfl, rfl⟩
            go_wp2_with fail
            go_ret
            exact ⟨rfl, HB.out⟩
        | false =>
            as_aux_lemma =>
              obtain ⟨⟨B, G⟩, hG⟩ : ∃ z, commitD A q = z := ⟨_, rfl⟩
              have HG := Lib.hid hG
              clear hG HCA HCB
              go_upto_region 10 with fail
              have ak0 := cell_of_block ap.out 0
              have ak1 := cell_of_block ap.out 1
              have akl := lt_heap ap.out
              have Qk0 := cell_of_block Qp.out 0
              have Qk1 := cell_of_block Qp.out 1
              have Qkl := lt_heap Qp.out
              simp at ak0 ak1 Qk0 Qk1
              go_wp2_with fail
              refine (commit_any w6 ao1 bo1 po yo an1 ac1 bn1 bc1 pn pc yn yc A q ai.out HAY.out Qi.out Qw.out).mono ?_
              rw [HG.out]
              rintro e w7 ⟨ao2, an2, ac2, bo2, bn2, bc2, rfl, hin, hb7⟩
              simp only at hin ⊢
              clear ak0 ak1 akl Qk0 Qk1 Qkl
              have hbp : Below w7.heap.size w7 (w7.alloc (.cells #[.slice ao2 an2 ac2, .slice bo2 bn2 bc2] 57)) := (Below.refl _ _).alloc (Nat.le_refl _) _
              have bp : Hid ((w7.alloc (.cells #[.slice ao2 an2 ac2, .slice bo2 bn2 bc2] 57)).heap[w7.heap.size]? = some (.cells #[.slice ao2 an2 ac2, .slice bo2 bn2 bc2] 57 (0, 0))) := Lib.hid (heap_alloc_new _ _)
              have hbq := below_step hb7 hbp
              have Dp := Lib.hid ((hbq.block _ (lt_heap Dp.out)).trans Dp.out)
              have Pp := Lib.hid ((hbq.block _ (lt_heap Pp.out)).trans Pp.out)
              have Qp := Lib.hid ((hbq.block _ (lt_heap Qp.out)).trans Qp.out)
              have ap := Lib.hid ((hbq.block _ (lt_heap ap.out)).trans ap.out)
              have xp := Lib.hid ((hbq.block _ (lt_heap xp.out)).trans xp.out)
              have Di := Lib.hid (Di.out.mono hbq)
              have Pi := Lib.hid (Pi.out.mono hbq)
              have Qi := Lib.hid (Qi.out.mono hbq)
              have ai := Lib.hid (ai.out.mono hbq)
              have xi := Lib.hid (xi.out.mono hbq)
              have HB := Lib.hid (below_step HB.out hbq)
              have bi := Lib.hid (hin.mono hbp)
              clear hin hb7 hbp hbq
              go_upto_region 11 with fail
              generalize w7.alloc (.cells #[.slice ao2 an2 ac2, .slice bo2 bn2 bc2] 57) = W7 at *
              by_cases hG0 : G = 0
              · skip
                subst hG0
                have HTW := Lib.hid (twice_law HY.out.1 HY.out.2 Pw.out.sto Qw.out.sto (image_byt Pw.out HC2.out.2.1) HC.out HG.out)
                have HG2 := Lib.hid (commit_is HG.out)
                have HBY := Lib.hid (commit_byt HAY.out.1 HAY.out.2 (image_byt Qw.out HG2.out.2.1) HG.out)
                have HRB := HTW.out.1
                rw [HM.out] at HRB
                have HRB := Lib.hid HRB
                have bk0 := cell_of_block bp.out 0
                have bk1 := cell_of_block bp.out 1
                have bkl := lt_heap bp.out
                simp at bk0 bk1
                go_wp2_with fail
                refine (recover_any W7 ao2 bo2 an2 ac2 bn2 bc2 B bi.out HBY.out).mono ?_
                rw [HRB.out]
                rintro e w8 ⟨zo1, zn1, zc1, zo2, zn2, zc2, rfl, hin, hwf, hb8⟩
                simp only at hin hwf ⊢
                clear bk0 bk1 bkl
                have hbp : Below w8.heap.size w8 (w8.alloc (.cells #[.slice zo1 zn1 zc1, .slice zo2 zn2 zc2] 49)) := (Below.refl _ _).alloc (Nat.le_refl _) _
                have zp : Hid ((w8.alloc (.cells #[.slice zo1 zn1 zc1, .slice zo2 zn2 zc2] 49)).heap[w8.heap.size]? = some (.cells #[.slice zo1 zn1 zc1, .slice zo2 zn2 zc2] 49 (0, 0))) := Lib.hid (heap_alloc_new _ _)
                have hbq := below_step hb8 hbp
                have Dp := Lib.hid ((hbq.block _ (lt_heap Dp.out)).trans Dp.out)
                have Pp := Lib.hid ((hbq.block _ (lt_heap Pp.out)).trans Pp.out)
                have Qp := Lib.hid ((hbq.block _ (lt_heap Qp.out)).trans Qp.out)
                have ap := Lib.hid ((hbq.block _ (lt_heap ap.out)).trans ap.out)
                have xp := Lib.hid ((hbq.block _ (lt_heap xp.out)).trans xp.out)
                have bp := Lib.hid ((hbq.block _ (lt_heap bp.out)).trans bp.out)
                have Di := Lib.hid (Di.out.mono hbq)
                have Pi := Lib.hid (Pi.out.mono hbq)
                have Qi := Lib.hid (Qi.out.mono hbq)
                have ai := Lib.hid (ai.out.mono hbq)
                have xi := Lib.hid (xi.out.mono hbq)
                have bi := Lib.hid (bi.out.mono hbq)
                have HB := Lib.hid (below_step HB.out hbq)
                have zi := Lib.hid (hin.mono hbp)
                clear hin hwf hb8 hbp hbq
                go_upto_region 14 with fail
                generalize w8.alloc (.cells #[.slice zo1 zn1 zc1, .slice zo2 zn2 zc2] 49) = W8 at *
                have zk0 := cell_of_block zp.out 0
                have zk1 := cell_of_block zp.out 1
                have zkl := lt_heap zp.out
                have Qk0 := cell_of_block Qp.out 0
                have Qk1 := cell_of_block Qp.out 1
                have Qkl := lt_heap Qp.out
                simp at zk0 zk1 Qk0 Qk1
                go_wp2_with fail
                refine (same_is W8 _ _ _ _ _ _ _ _ _ _ _ _ q q true (by rw [sameP_self, if_pos HG2.out.2.1]) zi.out Qw.out Qi.out Qw.out).mono ?_
                rintro e w9 ⟨rfl, hb9⟩
                clear zk0 zk1 zkl Qk0 Qk1 Qkl
                have Dp := Lib.hid ((hb9.block _ (lt_heap Dp.out)).trans Dp.out)
                have Pp := Lib.hid ((hb9.block _ (lt_heap Pp.out)).trans Pp.out)
                have Qp := Lib.hid ((hb9.block _ (lt_heap Qp.out)).trans Qp.out)
                have ap := Lib.hid ((hb9.block _ (lt_heap ap.out)).trans ap.out)
                have xp := Lib.hid ((hb9.block _ (lt_heap xp.out)).trans xp.out)
                have bp := Lib.hid ((hb9.block _ (lt_heap bp.out)).trans bp.out)
                have zp := Lib.hid ((hb9.block _ (lt_heap zp.out)).trans zp.out)
                have Di := Lib.hid (Di.out.mono hb9)
                have Pi := Lib.hid (Pi.out.mono hb9)
                have Qi := Lib.hid (Qi.out.mono hb9)
                have ai := Lib.hid (ai.out.mono hb9)
                have xi := Lib.hid (xi.out.mono hb9)
                have bi := Lib.hid (bi.out.mono hb9)
                have zi := Lib.hid (zi.out.mono hb9)
                have HB := Lib.hid (below_step HB.out hb9)
                clear hb9
                have ak0 := cell_of_block ap.out 0
                have ak1 := cell_of_block ap.out 1
                have akl := lt_heap ap.out
                have Dk0 := cell_of_block Dp.out 0
                have Dk1 := cell_of_block Dp.out 1
                have Dkl := lt_heap Dp.out
                have bk0 := cell_of_block bp.out 0
                have bk1 := cell_of_block bp.out 1
                have bkl := lt_heap bp.out
                simp at ak0 ak1 Dk0 Dk1 bk0 bk1
                go_wp2_with fail
                refine (bytes_equal_n _ _ _ _ _ _ A.a d.a _ ai.out.a.len Di.out.a.len ai.out.a.low.row Di.out.a.low.row HAY.out.1 HY.out.1).mono ?_
                rw [HEA.out]
                rintro e w10 ⟨rfl, rfl⟩
                go_wp2_with fail
                refine (bytes_equal_n _ _ _ _ _ _ B.b A.b _ bi.out.b.len ai.out.b.len bi.out.b.low.row ai.out.b.low.row HBY.out.2 HAY.out.2).mono ?_
                rw [show (B.b == A.b) = true by rw [beq_iff_eq]; exact HTW.out.2.2.1 (by have h := HEB.out; rw [beq_eq_false_iff_ne] at h; exact h)]
                rintro e w11 ⟨rfl, rfl⟩
                go_wp2_with fail
                go_ret
                exact ⟨rfl, HB.out⟩
              · have qG : (G == 0) = false := by rw [beq_eq_false_iff_ne]; exact hG0
                clear hG0
                go_wp2_with fail
                go_ret
                exact ⟨rfl, HB.out⟩
      | false =>
        cases EB with
        | false =>
          exfalso
          rcases HSD.out with h | h
          · have h2 := HEA.out; rw [h, beq_self_eq_true] at h2; cases h2
          · have h2 := HEB.out; rw [h, beq_self_eq_true] at h2; cases h2
        | true =>
            as_aux_lemma =>
              obtain ⟨⟨B, G⟩, hG⟩ : ∃ z, commitD A q = z := ⟨_, rfl⟩
              have HG := Lib.hid hG
              clear hG HCA HCB
              go_upto_region 10 with fail
              have ak0 := cell_of_block ap.out 0
              have ak1 := cell_of_block ap.out 1
              have akl := lt_heap ap.out
              have Qk0 := cell_of_block Qp.out 0
              have Qk1 := cell_of_block Qp.out 1
              have Qkl := lt_heap Qp.out
              simp at ak0 ak1 Qk0 Qk1
              go_wp2_with fail
              refine (commit_any w6 ao1 bo1 po yo an1 ac1 bn1 bc1 pn pc yn yc A q ai.out HAY.out Qi.out Qw.out).mono ?_
              rw [HG.out]
              rintro e w7 ⟨ao2, an2, ac2, bo2, bn2, bc2, rfl, hin, hb7⟩
              simp only at hin ⊢
              clear ak0 ak1 akl Qk0 Qk1 Qkl
              have hbp : Below w7.heap.size w7 (w7.alloc (.cells #[.slice ao2 an2 ac2, .slice bo2 bn2 bc2] 57)) := (Below.refl _ _).alloc (Nat.le_refl _) _
              have bp : Hid ((w7.alloc (.cells #[.slice ao2 an2 ac2, .slice bo2 bn2 bc2] 57)).heap[w7.heap.size]? = some (.cells #[.slice ao2 an2 ac2, .slice bo2 bn2 bc2] 57 (0, 0))) := Lib.hid (heap_alloc_new _ _)
              have hbq := below_step hb7 hbp
              have Dp := Lib.hid ((hbq.block _ (lt_heap Dp.out)).trans Dp.out)
              have Pp := Lib.hid ((hbq.block _ (lt_heap Pp.out)).trans Pp.out)
              have Qp := Lib.hid ((hbq.block _ (lt_heap Qp.out)).trans Qp.out)
              have ap := Lib.hid ((hbq.block _ (lt_heap ap.out)).trans ap.out)
              have xp := Lib.hid ((hbq.block _ (lt_heap xp.out)).trans xp.out)
              have Di := Lib.hid (Di.out.mono hbq)
              have Pi := Lib.hid (Pi.out.mono hbq)
              have Qi := Lib.hid (Qi.out.mono hbq)
              have ai := Lib.hid (ai.out.mono hbq)
              have xi := Lib.hid (xi.out.mono hbq)
              have HB := Lib.hid (below_step HB.out hbq)
              have bi := Lib.hid (hin.mono hbp)
              clear hin hb7 hbp hbq
              go_upto_region 11 with fail
              generalize w7.alloc (.cells #[.slice ao2 an2 ac2, .slice bo2 bn2 bc2] 57) = W7 at *
              by_cases hG0 : G = 0
              · skip
                subst hG0
                have HTW := Lib.hid (twice_law HY.out.1 HY.out.2 Pw.out.sto Qw.out.sto (image_byt Pw.out HC2.out.2.1) HC.out HG.out)
                have HG2 := Lib.hid (commit_is HG.out)
                have HBY := Lib.hid (commit_byt HAY.out.1 HAY.out.2 (image_byt Qw.out HG2.out.2.1) HG.out)
                have HRB := HTW.out.1
                rw [HM.out] at HRB
                have HRB := Lib.hid HRB
                have bk0 := cell_of_block bp.out 0
                have bk1 := cell_of_block bp.out 1
                have bkl := lt_heap bp.out
                simp at bk0 bk1
                go_wp2_with fail
                refine (recover_any W7 ao2 bo2 an2 ac2 bn2 bc2 B bi.out HBY.out).mono ?_
                rw [HRB.out]
                rintro e w8 ⟨zo1, zn1, zc1, zo2, zn2, zc2, rfl, hin, hwf, hb8⟩
                simp only at hin hwf ⊢
                clear bk0 bk1 bkl
                have hbp : Below w8.heap.size w8 (w8.alloc (.cells #[.slice zo1 zn1 zc1, .slice zo2 zn2 zc2] 49)) := (Below.refl _ _).alloc (Nat.le_refl _) _
                have zp : Hid ((w8.alloc (.cells #[.slice zo1 zn1 zc1, .slice zo2 zn2 zc2] 49)).heap[w8.heap.size]? = some (.cells #[.slice zo1 zn1 zc1, .slice zo2 zn2 zc2] 49 (0, 0))) := Lib.hid (heap_alloc_new _ _)
                have hbq := below_step hb8 hbp
                have Dp := Lib.hid ((hbq.block _ (lt_heap Dp.out)).trans Dp.out)
                have Pp := Lib.hid ((hbq.block _ (lt_heap Pp.out)).trans Pp.out)
                have Qp := Lib.hid ((hbq.block _ (lt_heap Qp.out)).trans Qp.out)
                have ap := Lib.hid ((hbq.block _ (lt_heap ap.out)).trans ap.out)
                have xp := Lib.hid ((hbq.block _ (lt_heap xp.out)).trans xp.out)
                have bp := Lib.hid ((hbq.block _ (lt_heap bp.out)).trans bp.out)
                have Di := Lib.hid (Di.out.mono hbq)
                have Pi := Lib.hid (Pi.out.mono hbq)
                have Qi := Lib.hid (Qi.out.mono hbq)
                have ai := Lib.hid (ai.out.mono hbq)
                have xi := Lib.hid (xi.out.mono hbq)
                have bi := Lib.hid (bi.out.mono hbq)
                have HB := Lib.hid (below_step HB.out hbq)
                have zi := Lib.hid (hin.mono hbp)
                clear hin hwf hb8 hbp hbq
                go_upto_region 14 with fail
                generalize w8.alloc (.cells #[.slice zo1 zn1 zc1, .slice zo2 zn2 zc2] 49) = W8 at *
                have zk0 := cell_of_block zp.out 0
                have zk1 := cell_of_block zp.out 1
                have zkl := lt_heap zp.out
                have Qk0 := cell_of_block Qp.out 0
                have Qk1 := cell_of_block Qp.out 1
                have Qkl := lt_heap Qp.out
                simp at zk0 zk1 Qk0 Qk1
                go_wp2_with fail
                refine (same_is W8 _ _ _ _ _ _ _ _ _ _ _ _ q q true (by rw [sameP_self, if_pos HG2.out.2.1]) zi.out Qw.out Qi.out Qw.out).mono ?_
                rintro e w9 ⟨rfl, hb9⟩
                clear zk0 zk1 zkl Qk0 Qk1 Qkl
                have Dp := Lib.hid ((hb9.block _ (lt_heap Dp.out)).trans Dp.out)
                have Pp := Lib.hid ((hb9.block _ (lt_heap Pp.out)).trans Pp.out)
                have Qp := Lib.hid ((hb9.block _ (lt_heap Qp.out)).trans Qp.out)
                have ap := Lib.hid ((hb9.block _ (lt_heap ap.out)).trans ap.out)
                have xp := Lib.hid ((hb9.block _ (lt_heap xp.out)).trans xp.out)
                have bp := Lib.hid ((hb9.block _ (lt_heap bp.out)).trans bp.out)
                have zp := Lib.hid ((hb9.block _ (lt_heap zp.out)).trans zp.out)
                have Di := Lib.hid (Di.out.mono hb9)
                have Pi := Lib.hid (Pi.out.mono hb9)
                have Qi := Lib.hid (Qi.out.mono hb9)
                have ai := Lib.hid (ai.out.mono hb9)
                have xi := Lib.hid (xi.out.mono hb9)
                have bi := Lib.hid (bi.out.mono hb9)
                have zi := Lib.hid (zi.out.mono hb9)
                have HB := Lib.hid (below_step HB.out hb9)
                clear hb9
                have ak0 := cell_of_block ap.out 0
                have ak1 := cell_of_block ap.out 1
                have akl := lt_heap ap.out
                have Dk0 := cell_of_block Dp.out 0
                have Dk1 := cell_of_block Dp.out 1
                have Dkl := lt_heap Dp.out
                have bk0 := cell_of_block bp.out 0
                have bk1 := cell_of_block bp.out 1
                have bkl := lt_heap bp.out
                simp at ak0 ak1 Dk0 Dk1 bk0 bk1
                go_wp2_with fail
                refine (bytes_equal_n _ _ _ _ _ _ A.a d.a _ ai.out.a.len Di.out.a.len ai.out.a.low.row Di.out.a.low.row HAY.out.1 HY.out.1).mono ?_
                rw [HEA.out]
                rintro e w10 ⟨rfl, rfl⟩
                go_wp2_with fail
                refine (bytes_equal_n _ _ _ _ _ _ B.a A.a _ bi.out.a.len ai.out.a.len bi.out.a.low.row ai.out.a.low.row HBY.out.1 HAY.out.1).mono ?_
                rw [show (B.a == A.a) = true by rw [beq_iff_eq]; exact HTW.out.2.2.2 (by have h := HEA.out; rw [beq_eq_false_iff_ne] at h; exact h)]
                rintro e w11 ⟨rfl, rfl⟩
                go_wp2_with fail
                go_ret
                exact ⟨rfl, HB.out⟩
              · have qG : (G == 0) = false := by rw [beq_eq_false_iff_ne]; exact hG0
                clear hG0
                go_wp2_with fail
                go_ret
                exact ⟨rfl, HB.out⟩
  · as_aux_lemma =>
    have qF : (F == 0) = false := by rw [beq_eq_false_iff_ne]; exact hF0
    clear hF0
    go_wp2_with fail
    refine (kept_any w3).mono ?_
    rintro e w5 ⟨rfl, hb5⟩
    have HB := Lib.hid (below_step HB.out hb5)
    clear hb5
    go_wp2_with fail
    go_ret
    exact ⟨rfl, HB.out⟩
end Go.Proofs.Ytfmgdjgedhnmeaa
