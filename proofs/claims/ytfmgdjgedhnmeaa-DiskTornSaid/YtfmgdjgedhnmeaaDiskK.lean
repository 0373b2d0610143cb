/- The closed fact of the disks. -/
import Derived.Test.YtfmgdjgedhnmeaaDiskX
namespace Go.Proofs.Ytfmgdjgedhnmeaa
open Go.RowKit
set_option linter.unusedVariables false
set_option linter.unusedSimpArgs false

def imQ : PoolV := ⟨List.replicate 92 noBlk, [⟨3, 1, []⟩]⟩
theorem iq_new : newPool 92 [3] [1] = (imQ, 0) := by kernel_rfl
theorem iq_ok : poolE imQ = 0 := by kernel_rfl
theorem iq_wf : WfS imQ.s := (newR_wf 92).1
theorem iq_same : sameP imQ imQ = true := by
  unfold sameP
  rw [iq_ok]
  simp
def kdD : DiskV := ⟨slotD 1 (imageL imP), []⟩
theorem kd_one : commitD noD imP = (kdD, 0) := by
  have h := commit_mk (d := noD) (p := imP) (by decide) im_ok (by rw [noD_next.1]; decide)
  rw [noD_next.1, noD_next.2] at h
  exact h
theorem nil_byt : Byt [] := fun x hx => by cases hx
theorem kd_next : nextN kdD = 2 ∧ nextB kdD = true ∧ newD kdD = some (1, imP) := by
  have l := commit_last (d := noD) nil_byt nil_byt im_wf kd_one
  have m := next_of_new l.2
  rw [noD_next.1] at m l
  rw [l.1, noD_next.2] at m
  exact ⟨m.1, m.2, l.2⟩
theorem kd_byt (h : Byt (imageL imP)) : Byt kdD.a ∧ Byt kdD.b := ⟨slot_byt h, nil_byt⟩
def kdC : DiskV := ⟨slotD 1 (imageL imP), slotD 2 (imageL imQ)⟩
def kdT : DiskV := ⟨slotD 1 (imageL imP), (slotD 2 (imageL imQ)).take 20⟩
theorem kdD_E : diskE kdD = 0 := diskE_low (slot_small im_ok) (by simp [kdD])
theorem kd_two : commitD kdD imQ = (kdC, 0) := by
  have h := commit_mk (d := kdD) (p := imQ) kdD_E iq_ok (by rw [kd_next.1]; decide)
  rw [kd_next.1, kd_next.2.1] at h
  exact h
theorem iq_more : 20 < 9 + (imageL imQ).length := by
  have h : (imageL imQ).length = 746 := by kernel_rfl
  omega
theorem iq_long : 20 ≤ (slotD 2 (imageL imQ)).length := by
  rw [slotD_len]
  have h : (imageL imQ).length = 746 := by kernel_rfl
  omega
theorem kd_torn : tornD kdD imQ 20 = (kdT, 0) := by
  have h := commit_ok (d := kdD) (p := imQ) kdD_E iq_ok (by rw [kd_next.1]; decide)
  rw [kd_next.1, kd_next.2.1] at h
  unfold tornD
  rw [h]
  simp only
  rw [if_neg (by decide), if_neg (by have := iq_long; omega)]
  rfl
theorem kdC_rec : recoverD kdC = (imQ, 2, 0) := by
  have hb : Byt (imageL imP) := im_byt
  have h := recover_commit (kd_byt hb).1 (kd_byt hb).2 iq_wf kd_two
  rw [kd_next.1] at h
  exact h
theorem kdT_rec : recoverD kdT = (imP, 1, 0) := by
  have oa := open_slot (n := 1) (p := imP) (by decide) (by decide) im_wf im_ok
  have ob := open_torn (n := 2) (b := imageL imQ) (by have := (poolE_ok iq_ok).small; omega) 20 iq_more
  have hE : diskE kdT = 0 := diskE_low (slot_small im_ok) (by show ((slotD 2 (imageL imQ)).take 20).length ≤ 20009; rw [List.length_take]; omega)
  have hl : lastB kdT = false := by
    unfold lastB
    rw [decide_eq_false]
    rw [show slotN kdT.a = 1 from slotN_some oa, show slotN kdT.b = -1 from slotN_none ob]
    decide
  have hn : newD kdT = some (1, imP) := by
    unfold newD
    rw [hl, if_neg (by decide)]
    exact oa
  exact recoverD_some hE hn
theorem kdT_byt (h : Byt (imageL imQ)) : Byt kdT.a ∧ Byt kdT.b := ⟨slot_byt im_byt, (slot_byt h).take 20⟩

set_option maxRecDepth 100000 in
set_option maxHeartbeats 16000000 in
theorem kept_any (w : World) :
    Calls Try.prog 23 #[] w fun e w' => e = .returned (.bool true) ∧ Below w.heap.size w w' := by
  have hbi : Below w.heap.size w ((w.alloc (.cells #[.int .i64 3] 3)).alloc (.cells #[.int .i64 1] 3)) := ((Below.refl _ _).alloc (Nat.le_refl _) _).alloc (by simp) _
  have hr1 : Row .i64 ((w.alloc (.cells #[.int .i64 3] 3)).alloc (.cells #[.int .i64 1] 3)) (some ⟨w.heap.size, 0, none⟩) [3] := (row_ints w .i64 3 [3]).mono ((Below.refl _ _).alloc (Nat.le_refl _) _)
  have hr2 : Row .i64 ((w.alloc (.cells #[.int .i64 3] 3)).alloc (.cells #[.int .i64 1] 3)) (some ⟨w.heap.size + 1, 0, none⟩) [1] := by
    have h := row_ints (w.alloc (.cells #[.int .i64 3] 3)) .i64 3 [1]
    simpa using h
  have HB := Lib.hid hbi
  clear hbi
  go_enter Try.func23, Try.ntmps23
  go_wp2_with fail
  generalize ((w.alloc (.cells #[.int .i64 3] 3)).alloc (.cells #[.int .i64 1] 3)) = W0 at *
  refine (new_pool W0 91 _ _ 1 1 1 1 [3] [1] rfl rfl hr1 hr2 (fun k hk => by simp only [List.mem_singleton] at hk; subst hk; exact ⟨by decide, by decide⟩) (fun k hk => by simp only [List.mem_singleton] at hk; subst hk; exact ⟨by decide, by decide⟩) (by decide)).mono ?_
  rw [im_new]
  rintro e w1 ⟨so, sn, sc, ao, n, cap, rfl, hin, hwf, hb1⟩
  simp only at hin hwf ⊢
  have hbp : Below w1.heap.size w1 (w1.alloc (.cells #[.slice so sn sc, .slice ao n cap] 49)) := (Below.refl _ _).alloc (Nat.le_refl _) _
  have xp : Hid ((w1.alloc (.cells #[.slice so sn sc, .slice ao n cap] 49)).heap[w1.heap.size]? = some (.cells #[.slice so sn sc, .slice ao n cap] 49 (0, 0))) := Lib.hid (heap_alloc_new _ _)
  have hbq := below_step hb1 hbp
  have HB := Lib.hid (below_step HB.out hbq)
  have xi := Lib.hid (hin.mono hbp)
  have xw := Lib.hid hwf
  clear hin hwf hb1 hbp hbq hr1 hr2
  skip
  go_upto_region 2 with fail
  generalize w1.alloc (.cells #[.slice so sn sc, .slice ao n cap] 49) = W1 at *
  have hbi : Below W1.heap.size W1 ((W1.alloc (.cells #[.int .i64 3] 3)).alloc (.cells #[.int .i64 1] 3)) := ((Below.refl _ _).alloc (Nat.le_refl _) _).alloc (by simp) _
  have hr1 : Row .i64 ((W1.alloc (.cells #[.int .i64 3] 3)).alloc (.cells #[.int .i64 1] 3)) (some ⟨W1.heap.size, 0, none⟩) [3] := (row_ints W1 .i64 3 [3]).mono ((Below.refl _ _).alloc (Nat.le_refl _) _)
  have hr2 : Row .i64 ((W1.alloc (.cells #[.int .i64 3] 3)).alloc (.cells #[.int .i64 1] 3)) (some ⟨W1.heap.size + 1, 0, none⟩) [1] := by
    have h := row_ints (W1.alloc (.cells #[.int .i64 3] 3)) .i64 3 [1]
    simpa using h
  have xp := Lib.hid ((hbi.block _ (lt_heap xp.out)).trans xp.out)
  have xi := Lib.hid (xi.out.mono hbi)
  have HB := Lib.hid (below_step HB.out hbi)
  clear hbi
  go_wp2_with fail
  generalize ((W1.alloc (.cells #[.int .i64 3] 3)).alloc (.cells #[.int .i64 1] 3)) = W2 at *
  refine (new_pool W2 92 _ _ 1 1 1 1 [3] [1] rfl rfl hr1 hr2 (fun k hk => by simp only [List.mem_singleton] at hk; subst hk; exact ⟨by decide, by decide⟩) (fun k hk => by simp only [List.mem_singleton] at hk; subst hk; exact ⟨by decide, by decide⟩) (by decide)).mono ?_
  rw [iq_new]
  rintro e w3 ⟨po, tn, tc, bo, bn, bcap, rfl, hin, hwf, hb3⟩
  simp only at hin hwf ⊢
  have hbp : Below w3.heap.size w3 (w3.alloc (.cells #[.slice po tn tc, .slice bo bn bcap] 49)) := (Below.refl _ _).alloc (Nat.le_refl _) _
  have yp : Hid ((w3.alloc (.cells #[.slice po tn tc, .slice bo bn bcap] 49)).heap[w3.heap.size]? = some (.cells #[.slice po tn tc, .slice bo bn bcap] 49 (0, 0))) := Lib.hid (heap_alloc_new _ _)
  have hbq := below_step hb3 hbp
  have xp := Lib.hid ((hbq.block _ (lt_heap xp.out)).trans xp.out)
  have xi := Lib.hid (xi.out.mono hbq)
  have HB := Lib.hid (below_step HB.out hbq)
  have yi := Lib.hid (hin.mono hbp)
  have yw := Lib.hid hwf
  clear hin hwf hb3 hbp hbq hr1 hr2
  go_upto_region 3 with fail
  generalize w3.alloc (.cells #[.slice po tn tc, .slice bo bn bcap] 49) = W3 at *
  have xk0 := cell_of_block xp.out 0
  have xk1 := cell_of_block xp.out 1
  have xkl := lt_heap xp.out
  simp at xk0 xk1
  go_wp2_with fail
  refine (commit_any W3 none none so ao 0 0 0 0 sn sc n cap ⟨[], []⟩ imP (noD_in _) ⟨nil_byt, nil_byt⟩ xi.out xw.out).mono ?_
  rw [show commitD ⟨[], []⟩ imP = (kdD, 0) from kd_one]
  rintro e w4 ⟨do1, dn1, dc1, eo1, en1, ec1, rfl, hin, hb4⟩
  simp only at hin ⊢
  clear xk0 xk1 xkl
  have hbp : Below w4.heap.size w4 (w4.alloc (.cells #[.slice do1 dn1 dc1, .slice eo1 en1 ec1] 57)) := (Below.refl _ _).alloc (Nat.le_refl _) _
  have dp : Hid ((w4.alloc (.cells #[.slice do1 dn1 dc1, .slice eo1 en1 ec1] 57)).heap[w4.heap.size]? = some (.cells #[.slice do1 dn1 dc1, .slice eo1 en1 ec1] 57 (0, 0))) := Lib.hid (heap_alloc_new _ _)
  have hbq := below_step hb4 hbp
  have xp := Lib.hid ((hbq.block _ (lt_heap xp.out)).trans xp.out)
  have yp := Lib.hid ((hbq.block _ (lt_heap yp.out)).trans yp.out)
  have xi := Lib.hid (xi.out.mono hbq)
  have yi := Lib.hid (yi.out.mono hbq)
  have HB := Lib.hid (below_step HB.out hbq)
  have di := Lib.hid (hin.mono hbp)
  clear hin hb4 hbp hbq
  go_upto_region 4 with fail
  generalize w4.alloc (.cells #[.slice do1 dn1 dc1, .slice eo1 en1 ec1] 57) = W4 at *
  have dk0 := cell_of_block dp.out 0
  have dk1 := cell_of_block dp.out 1
  have dkl := lt_heap dp.out
  have yk0 := cell_of_block yp.out 0
  have yk1 := cell_of_block yp.out 1
  have ykl := lt_heap yp.out
  simp at dk0 dk1 yk0 yk1
  go_wp2_with fail
  refine (torn_any W4 20 do1 eo1 po bo dn1 dc1 en1 ec1 tn tc bn bcap kdD imQ di.out (kd_byt im_byt) yi.out yw.out).mono ?_
  rw [kd_torn]
  rintro e w5 ⟨fo1, fn1, fc1, go1, gn1, gc1, rfl, hin, hb5⟩
  simp only at hin ⊢
  clear dk0 dk1 dkl yk0 yk1 ykl
  have hbp : Below w5.heap.size w5 (w5.alloc (.cells #[.slice fo1 fn1 fc1, .slice go1 gn1 gc1] 57)) := (Below.refl _ _).alloc (Nat.le_refl _) _
  have tp : Hid ((w5.alloc (.cells #[.slice fo1 fn1 fc1, .slice go1 gn1 gc1] 57)).heap[w5.heap.size]? = some (.cells #[.slice fo1 fn1 fc1, .slice go1 gn1 gc1] 57 (0, 0))) := Lib.hid (heap_alloc_new _ _)
  have hbq := below_step hb5 hbp
  have xp := Lib.hid ((hbq.block _ (lt_heap xp.out)).trans xp.out)
  have yp := Lib.hid ((hbq.block _ (lt_heap yp.out)).trans yp.out)
  have dp := Lib.hid ((hbq.block _ (lt_heap dp.out)).trans dp.out)
  have xi := Lib.hid (xi.out.mono hbq)
  have yi := Lib.hid (yi.out.mono hbq)
  have di := Lib.hid (di.out.mono hbq)
  have HB := Lib.hid (below_step HB.out hbq)
  have ti := Lib.hid (hin.mono hbp)
  clear hin hb5 hbp hbq
  go_upto_region 5 with fail
  generalize w5.alloc (.cells #[.slice fo1 fn1 fc1, .slice go1 gn1 gc1] 57) = W5 at *
  have tk0 := cell_of_block tp.out 0
  have tk1 := cell_of_block tp.out 1
  have tkl := lt_heap tp.out
  simp at tk0 tk1
  go_wp2_with fail
  refine (recover_any W5 fo1 go1 fn1 fc1 gn1 gc1 kdT ti.out (kdT_byt (image_byt yw.out iq_ok))).mono ?_
  rw [kdT_rec]
  rintro e w6 ⟨ho1, hn1, hc1, io1, in1, ic1, rfl, hin, hwf, hb6⟩
  simp only at hin hwf ⊢
  clear tk0 tk1 tkl
  have hbp : Below w6.heap.size w6 (w6.alloc (.cells #[.slice ho1 hn1 hc1, .slice io1 in1 ic1] 49)) := (Below.refl _ _).alloc (Nat.le_refl _) _
  have up : Hid ((w6.alloc (.cells #[.slice ho1 hn1 hc1, .slice io1 in1 ic1] 49)).heap[w6.heap.size]? = some (.cells #[.slice ho1 hn1 hc1, .slice io1 in1 ic1] 49 (0, 0))) := Lib.hid (heap_alloc_new _ _)
  have hbq := below_step hb6 hbp
  have xp := Lib.hid ((hbq.block _ (lt_heap xp.out)).trans xp.out)
  have yp := Lib.hid ((hbq.block _ (lt_heap yp.out)).trans yp.out)
  have dp := Lib.hid ((hbq.block _ (lt_heap dp.out)).trans dp.out)
  have xi := Lib.hid (xi.out.mono hbq)
  have yi := Lib.hid (yi.out.mono hbq)
  have di := Lib.hid (di.out.mono hbq)
  have HB := Lib.hid (below_step HB.out hbq)
  have ui := Lib.hid (hin.mono hbp)
  have uw := Lib.hid hwf
  clear hin hwf hb6 hbp hbq tp ti
  go_upto_region 6 with fail
  generalize w6.alloc (.cells #[.slice ho1 hn1 hc1, .slice io1 in1 ic1] 49) = W6 at *
  have dk0 := cell_of_block dp.out 0
  have dk1 := cell_of_block dp.out 1
  have dkl := lt_heap dp.out
  have yk0 := cell_of_block yp.out 0
  have yk1 := cell_of_block yp.out 1
  have ykl := lt_heap yp.out
  simp at dk0 dk1 yk0 yk1
  go_wp2_with fail
  refine (commit_any W6 do1 eo1 po bo dn1 dc1 en1 ec1 tn tc bn bcap kdD imQ di.out (kd_byt im_byt) yi.out yw.out).mono ?_
  rw [kd_two]
  rintro e w7 ⟨jo1, jn1, jc1, ko1, kn1, kc1, rfl, hin, hb7⟩
  simp only at hin ⊢
  clear dk0 dk1 dkl yk0 yk1 ykl
  have hbp : Below w7.heap.size w7 (w7.alloc (.cells #[.slice jo1 jn1 jc1, .slice ko1 kn1 kc1] 57)) := (Below.refl _ _).alloc (Nat.le_refl _) _
  have cp : Hid ((w7.alloc (.cells #[.slice jo1 jn1 jc1, .slice ko1 kn1 kc1] 57)).heap[w7.heap.size]? = some (.cells #[.slice jo1 jn1 jc1, .slice ko1 kn1 kc1] 57 (0, 0))) := Lib.hid (heap_alloc_new _ _)
  have hbq := below_step hb7 hbp
  have xp := Lib.hid ((hbq.block _ (lt_heap xp.out)).trans xp.out)
  have yp := Lib.hid ((hbq.block _ (lt_heap yp.out)).trans yp.out)
  have dp := Lib.hid ((hbq.block _ (lt_heap dp.out)).trans dp.out)
  have up := Lib.hid ((hbq.block _ (lt_heap up.out)).trans up.out)
  have xi := Lib.hid (xi.out.mono hbq)
  have yi := Lib.hid (yi.out.mono hbq)
  have di := Lib.hid (di.out.mono hbq)
  have ui := Lib.hid (ui.out.mono hbq)
  have HB := Lib.hid (below_step HB.out hbq)
  have ci := Lib.hid (hin.mono hbp)
  clear hin hb7 hbp hbq
  go_upto_region 7 with fail
  generalize w7.alloc (.cells #[.slice jo1 jn1 jc1, .slice ko1 kn1 kc1] 57) = W7 at *
  have ck0 := cell_of_block cp.out 0
  have ck1 := cell_of_block cp.out 1
  have ckl := lt_heap cp.out
  simp at ck0 ck1
  go_wp2_with fail
  refine (recover_any W7 jo1 ko1 jn1 jc1 kn1 kc1 kdC ci.out ⟨slot_byt im_byt, slot_byt (image_byt yw.out iq_ok)⟩).mono ?_
  rw [kdC_rec]
  rintro e w8 ⟨lo1, ln1, lc1, mo1, mn1, mc1, rfl, hin, hwf, hb8⟩
  simp only at hin hwf ⊢
  clear ck0 ck1 ckl
  have hbp : Below w8.heap.size w8 (w8.alloc (.cells #[.slice lo1 ln1 lc1, .slice mo1 mn1 mc1] 49)) := (Below.refl _ _).alloc (Nat.le_refl _) _
  have vp : Hid ((w8.alloc (.cells #[.slice lo1 ln1 lc1, .slice mo1 mn1 mc1] 49)).heap[w8.heap.size]? = some (.cells #[.slice lo1 ln1 lc1, .slice mo1 mn1 mc1] 49 (0, 0))) := Lib.hid (heap_alloc_new _ _)
  have hbq := below_step hb8 hbp
  have xp := Lib.hid ((hbq.block _ (lt_heap xp.out)).trans xp.out)
  have yp := Lib.hid ((hbq.block _ (lt_heap yp.out)).trans yp.out)
  have dp := Lib.hid ((hbq.block _ (lt_heap dp.out)).trans dp.out)
  have up := Lib.hid ((hbq.block _ (lt_heap up.out)).trans up.out)
  have xi := Lib.hid (xi.out.mono hbq)
  have yi := Lib.hid (yi.out.mono hbq)
  have di := Lib.hid (di.out.mono hbq)
  have ui := Lib.hid (ui.out.mono hbq)
  have HB := Lib.hid (below_step HB.out hbq)
  have vi := Lib.hid (hin.mono hbp)
  have vw := Lib.hid hwf
  clear hin hwf hb8 hbp hbq cp ci
  go_upto_region 8 with fail
  generalize w8.alloc (.cells #[.slice lo1 ln1 lc1, .slice mo1 mn1 mc1] 49) = W8 at *
  have HDL : Hid (dn1 = (slotD 1 (imageL imP)).length ∧ en1 = 0) := Lib.hid ⟨di.out.a.len.symm, di.out.b.len.symm⟩
  have e0 : en1 = 0 := HDL.out.2
  subst e0
  have hd9 : (9 : Int) < dn1 := by rw [HDL.out.1, slotD_len, im_len]; decide
  have xk0 := cell_of_block xp.out 0
  have xk1 := cell_of_block xp.out 1
  have xkl := lt_heap xp.out
  have uk0 := cell_of_block up.out 0
  have uk1 := cell_of_block up.out 1
  have ukl := lt_heap up.out
  have yk0 := cell_of_block yp.out 0
  have yk1 := cell_of_block yp.out 1
  have ykl := lt_heap yp.out
  have vk0 := cell_of_block vp.out 0
  have vk1 := cell_of_block vp.out 1
  have vkl := lt_heap vp.out
  have dk0 := cell_of_block dp.out 0
  have dk1 := cell_of_block dp.out 1
  have dkl := lt_heap dp.out
  simp at xk0 xk1 uk0 uk1 yk0 yk1 vk0 vk1 dk0 dk1
  go_wp2_with fail
  refine (same_is W8 _ _ _ _ _ _ _ _ _ _ _ _ imP imP true im_same xi.out xw.out ui.out uw.out).mono ?_
  rintro e w9 ⟨rfl, hb9⟩
  clear xk0 xk1 xkl uk0 uk1 ukl yk0 yk1 ykl vk0 vk1 vkl dk0 dk1 dkl
  have xp := Lib.hid ((hb9.block _ (lt_heap xp.out)).trans xp.out)
  have yp := Lib.hid ((hb9.block _ (lt_heap yp.out)).trans yp.out)
  have dp := Lib.hid ((hb9.block _ (lt_heap dp.out)).trans dp.out)
  have up := Lib.hid ((hb9.block _ (lt_heap up.out)).trans up.out)
  have vp := Lib.hid ((hb9.block _ (lt_heap vp.out)).trans vp.out)
  have xi := Lib.hid (xi.out.mono hb9)
  have yi := Lib.hid (yi.out.mono hb9)
  have di := Lib.hid (di.out.mono hb9)
  have ui := Lib.hid (ui.out.mono hb9)
  have vi := Lib.hid (vi.out.mono hb9)
  have HB := Lib.hid (below_step HB.out hb9)
  clear hb9
  have yk0 := cell_of_block yp.out 0
  have yk1 := cell_of_block yp.out 1
  have ykl := lt_heap yp.out
  have vk0 := cell_of_block vp.out 0
  have vk1 := cell_of_block vp.out 1
  have vkl := lt_heap vp.out
  have dk0 := cell_of_block dp.out 0
  have dk1 := cell_of_block dp.out 1
  have dkl := lt_heap dp.out
  simp at yk0 yk1 vk0 vk1 dk0 dk1
  go_wp2_with fail
  refine (same_is w9 _ _ _ _ _ _ _ _ _ _ _ _ imQ imQ true iq_same yi.out yw.out vi.out vw.out).mono ?_
  rintro e w10 ⟨rfl, hb10⟩
  clear yk0 yk1 ykl vk0 vk1 vkl dk0 dk1 dkl
  have xp := Lib.hid ((hb10.block _ (lt_heap xp.out)).trans xp.out)
  have yp := Lib.hid ((hb10.block _ (lt_heap yp.out)).trans yp.out)
  have dp := Lib.hid ((hb10.block _ (lt_heap dp.out)).trans dp.out)
  have up := Lib.hid ((hb10.block _ (lt_heap up.out)).trans up.out)
  have vp := Lib.hid ((hb10.block _ (lt_heap vp.out)).trans vp.out)
  have xi := Lib.hid (xi.out.mono hb10)
  have yi := Lib.hid (yi.out.mono hb10)
  have di := Lib.hid (di.out.mono hb10)
  have ui := Lib.hid (ui.out.mono hb10)
  have vi := Lib.hid (vi.out.mono hb10)
  have HB := Lib.hid (below_step HB.out hb10)
  clear hb10
  have dk0 := cell_of_block dp.out 0
  have dk1 := cell_of_block dp.out 1
  have dkl := lt_heap dp.out
  simp at dk0 dk1
  go_wp2_with fail
  go_ret
  exact ⟨rfl, HB.out⟩
end Go.Proofs.Ytfmgdjgedhnmeaa
