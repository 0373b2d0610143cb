/- ImageBack: what is written is read, what is read is written. -/
import Derived.Test.YtfmgdjgedhnmeaaImApart
namespace Go.Proofs.Ytfmgdjgedhnmeaa
open Go.RowKit
set_option linter.unusedVariables false
set_option linter.unusedSimpArgs false

theorem u8_of {n : Int} (h : (Lit.int .u8 n).wf = true) : 0 ≤ n ∧ n ≤ 255 := byt_of (xs := [n]) (fun k hk => by rw [List.mem_singleton] at hk; subst hk; exact h) n (List.mem_singleton.mpr rfl)
theorem LowB.of_row {w : World} {ao : Option Addr} {b : List Int} (h : Row .u8 w ao b) : LowB w w.heap.size ao b := by
  rcases h with h | ⟨c, o, e, h⟩
  · exact .inl h
  · by_cases hb : b = []
    · exact .inl hb
    · exact .inr ⟨c, o, e, World.block_lt_of_cell? _ _ (h 0 (List.length_pos_iff.mpr hb)), h⟩
theorem BytIn.take {w : World} {ao : Option Addr} {n cap : Nat} {b : List Int} (h : BytIn w ao n cap b) (k : Nat) (hk : k ≤ n) : BytIn w ao k cap (b.take k) := by
  refine ⟨?_, h.low.take k, by have := h.cap.1; omega, h.cap.2⟩
  rw [List.length_take, h.len]
  omega
theorem Own.bytIn {w : World} {base n cap : Nat} {ao : Option Addr} {xs : List Int} (ho : Own .u8 5 base w (.slice ao n cap) xs) : BytIn w ao n cap xs := by
  obtain ⟨h1, h2, h3⟩ := (own_sl ho).at
  refine ⟨h1.symm, LowB.of_row h2, ?_⟩
  rw [h1]
  exact h3
theorem read_is (w : World) (ao : Option Addr) (n cap : Nat) (b : List Int) (z : PoolV × Int) (hz : readI b = z) (hb : BytIn w ao n cap b) (hy : Byt b) :
    Calls Try.prog 20 #[.slice ao n cap] w fun e w' => ∃ so sn sc xo xn xc, e = .returned (.tuple #[.agg #[.slice so sn sc, .slice xo xn xc], .int .i64 z.2]) ∧ PoolIn w' so sn sc xo xn xc z.1 ∧ WfP z.1 ∧ Below w.heap.size w w' := by
  refine (read_image w ao n cap b hb.len hb.low hb.cap hy).mono ?_
  rintro e w' ⟨hg, h⟩
  rw [hz] at h
  obtain ⟨so, sn, sc, xo, xn, xc, h1, h2, h3⟩ := h
  exact ⟨so, sn, sc, xo, xn, xc, h1, h2.inn, h3, hg.os, hg.tape, hg.output, hg.size, fun c hc => hg.block c hc (by simp)⟩
theorem read_v (w : World) (ao : Option Addr) (n cap : Nat) (b : List Int) (z : PoolV × Int) (hz : readI b = z) (hb : BytIn w ao n cap b) (hy : Byt b) :
    Calls Try.prog 20 #[.slice ao n cap] w fun e w' => ∃ so sn sc xo xn xc, e = .returned (.tuple #[.agg #[.slice so sn sc, .slice xo xn xc], .int .i64 z.2]) ∧ VPool w.heap.size w' (.agg #[.slice so sn sc, .slice xo xn xc]) z.1 ∧ WfP z.1 ∧ Below w.heap.size w w' := by
  refine (read_image w ao n cap b hb.len hb.low hb.cap hy).mono ?_
  rintro e w' ⟨hg, h⟩
  rw [hz] at h
  obtain ⟨so, sn, sc, xo, xn, xc, h1, h2, h3⟩ := h
  exact ⟨so, sn, sc, xo, xn, xc, h1, h2, h3, hg.os, hg.tape, hg.output, hg.size, fun c hc => hg.block c hc (by simp)⟩
theorem own_low {base n cap : Nat} {ao : Option Addr} {w : World} {xs : List Int} (h : Own .u8 5 base w (.slice ao n cap) xs) (g : Nat) (hg : (Value.slice ao n cap).ownBlock = some g) : base ≤ g := by
  cases ao with
  | none => cases hg
  | some a =>
    have := (h.blockOf a rfl).2.1
    simp only [Value.ownBlock, Option.map_some, Option.some.injEq] at hg
    omega
theorem image_pos (p : PoolV) : ∃ j, (imageL p).length = j + 1 := by
  unfold imageL
  exact ⟨_, by simp [nb]; rfl⟩

set_option maxRecDepth 100000 in
set_option maxHeartbeats 16000000 in
theorem law_imBack (w : World) (so ao bo : Option Addr) (sn sc n cap bn bc : Nat) (p : PoolV) (b : List Int) (m : Int) (hp : PoolIn w so sn sc ao n cap p) (hw : WfP p) (hbl : b.length = bn) (hbr : Row .u8 w bo b) (hby : Byt b) (hbc : Capd bo bn bc) (hm : 0 ≤ m ∧ m ≤ 255) :
    Calls Try.prog 6 #[.agg #[.slice so sn sc, .slice ao n cap], .slice bo bn bc, .int .u8 m] w fun e w' => e = .returned (.bool true) ∧ Below w.heap.size w w' := by
  have hb0 : Below w.heap.size w (w.alloc (.cells #[.slice so sn sc, .slice ao n cap] 49)) := (Below.refl _ _).alloc (Nat.le_refl _) _
  have p0 : (w.alloc (.cells #[.slice so sn sc, .slice ao n cap] 49)).heap[w.heap.size]? = some (.cells #[.slice so sn sc, .slice ao n cap] 49 (0, 0)) := heap_alloc_new _ _
  have HP := Lib.hid (hp.mono hb0)
  have HW := Lib.hid hw
  have HBI := Lib.hid ((BytIn.mk hbl (LowB.of_row hbr) hbc).mono hb0)
  have HBY := Lib.hid hby
  have HM := Lib.hid hm
  obtain ⟨E, hE⟩ : ∃ E, poolE p = E := ⟨_, rfl⟩
  have HE := Lib.hid hE
  obtain ⟨⟨P1, R⟩, hR⟩ : ∃ z, readI b = z := ⟨_, rfl⟩
  have HRD := Lib.hid hR
  clear hp hw hbl hbr hby hbc hm hE hR
  go_enter Try.func6, Try.ntmps6
  go_wp2_with fail
  generalize w.alloc (.cells #[.slice so sn sc, .slice ao n cap] 49) = W0 at *
  refine (read_is W0 bo bn bc b (P1, R) HRD.out HBI.out HBY.out).mono ?_
  rintro e w1 ⟨qo, qn, qc, xo, xn, xc, rfl, hin, hwf, hb1⟩
  simp only at hin hwf ⊢
  have hbp : Below w1.heap.size w1 (w1.alloc (.cells #[.slice qo qn qc, .slice xo xn xc] 49)) := (Below.refl _ _).alloc (Nat.le_refl _) _
  have hb2 := below_step hb1 hbp
  replace p0 := (hb2.block _ (lt_heap p0)).trans p0
  have q0 : (w1.alloc (.cells #[.slice qo qn qc, .slice xo xn xc] 49)).heap[w1.heap.size]? = some (.cells #[.slice qo qn qc, .slice xo xn xc] 49 (0, 0)) := heap_alloc_new _ _
  have HP := Lib.hid (HP.out.mono hb2)
  have HBI := Lib.hid (HBI.out.mono hb2)
  have HQ := Lib.hid (hin.mono hbp)
  have HWQ := Lib.hid hwf
  have HBW := Lib.hid (below_step hb0 hb2)
  clear hb0 hb1 hbp hb2 hin hwf
  have c0 := cell_of_block p0 0
  have c1 := cell_of_block p0 1
  have d0 := cell_of_block q0 0
  have d1 := cell_of_block q0 1
  simp at c0 c1 d0 d1
  by_cases hR0 : R = 0
  · subst hR0
    have HR0 := Lib.hid (read_of HRD.out)
    have HO1 : Hid (outI P1 = b) := Lib.hid (by unfold outI; rw [if_pos HR0.out.1]; exact read_back HBY.out HRD.out)
    go_wp2_with fail
    generalize w1.alloc (.cells #[.slice qo qn qc, .slice xo xn xc] 49) = W1 at *
    refine (write_image W1 qo xo qn qc xn xc P1 HQ.out HWQ.out).mono ?_
    intro e w2 h2
    obtain ⟨yo, yn, yc, rfl, hy, hb2⟩ := h2.open
    rw [HR0.out.1]
    rw [HO1.out] at hy
    have p2 := (hb2.block _ (lt_heap p0)).trans p0
    have HY := Lib.hid hy
    have HPX := Lib.hid (HP.out.mono hb2)
    have HBI2 := Lib.hid (HBI.out.mono hb2)
    have HBX := Lib.hid (below_step HBW.out hb2)
    clear h2 hy hb2 p0 q0 c0 c1 d0 d1
    have c0 := cell_of_block p2 0
    have c1 := cell_of_block p2 1
    simp at c0 c1
    have PX := Lib.hid p2
    clear p2
    go_wp2_with fail
    refine (bytes_equal_n bo yo bn yn bc yc b b w2 HBI2.out.len HY.out.len HBI2.out.low.row HY.out.low.row HBY.out HBY.out).mono ?_
    rw [beq_self_eq_true]
    rintro e w9 ⟨rfl, rfl⟩
    clear HY
    go_wp2_with fail
    generalize w2 = WX at *
    as_aux_lemma =>
      refine (write_image WX so ao sn sc n cap p HPX.out HW.out).mono ?_
      intro e w3 h3
      obtain ⟨yo, yn, yc, rfl, hy, hb3⟩ := h3.open
      rw [HE.out]
      have p3 := (hb3.block _ (lt_heap PX.out)).trans PX.out
      have HY := Lib.hid hy
      have HP3 := Lib.hid (HPX.out.mono hb3)
      have HB3 := Lib.hid (below_step HBX.out hb3)
      clear h3 hy hb3
      go_wp2_with fail
      refine (imaged_any w3).mono ?_
      rintro e w4 ⟨rfl, hb4⟩
      have p4 := (hb4.block _ (lt_heap p3)).trans p3
      have HY := Lib.hid (HY.out.mono hb4)
      have HP4 := Lib.hid (HP3.out.mono hb4)
      have HB4 := Lib.hid (below_step HB3.out hb4)
      clear hb4 p3
      by_cases h0 : E = 0
      · subst h0
        have HO : Hid (outI p = imageL p) := Lib.hid (by unfold outI; rw [if_pos HE.out])
        obtain ⟨j, hj⟩ := image_pos p
        have hyn : yn = j + 1 := by rw [← HY.out.len, HO.out, hj]
        subst hyn
        have HJ := Lib.hid hj
        clear hj
        have hyc : j + 1 ≤ yc := HY.out.cap.1
        have hyc2 : (j : Int) ≤ yc := by omega
        have hj6 : j ≤ 9896 := by have := (poolE_ok HE.out).small; have := HJ.out; omega
        go_wp2_with fail
        refine (read_is w4 yo _ yc (outI p) (p, 0) (by rw [HO.out]; exact write_back HW.out.sto HE.out) HY.out (outI_byt HW.out)).mono ?_
        rintro e w5 ⟨zo, zn, zc, vo, vn, vc, rfl, hin5, hwf5, hb5⟩
        simp only at hin5 hwf5 ⊢
        have hbp : Below w5.heap.size w5 (w5.alloc (.cells #[.slice zo zn zc, .slice vo vn vc] 49)) := (Below.refl _ _).alloc (Nat.le_refl _) _
        have hb6 := below_step hb5 hbp
        have p6 := (hb6.block _ (lt_heap p4)).trans p4
        have z6 : (w5.alloc (.cells #[.slice zo zn zc, .slice vo vn vc] 49)).heap[w5.heap.size]? = some (.cells #[.slice zo zn zc, .slice vo vn vc] 49 (0, 0)) := heap_alloc_new _ _
        have HY := Lib.hid (HY.out.mono hb6)
        have HP6 := Lib.hid (HP4.out.mono hb6)
        have HZ := Lib.hid (hin5.mono hbp)
        have HB6 := Lib.hid (below_step HB4.out hb6)
        clear hin5 hwf5 hb5 hbp hb6 p4
        go_wp2_with fail
        generalize w5.alloc (.cells #[.slice zo zn zc, .slice vo vn vc] 49) = W6 at *
        refine (read_is W6 yo j yc ((outI p).take j) (noPool, 9) (by rw [HO.out]; exact write_less HW.out.sto HE.out j (by have := HJ.out; omega)) (HY.out.take j (by omega)) (fun x hx => outI_byt HW.out x (List.mem_of_mem_take hx))).mono ?_
        rintro e w7 ⟨so7, sn7, sc7, ao7, n7, cap7, rfl, -, -, hb7⟩
        simp only
        have hbp : Below w7.heap.size w7 (w7.alloc (.cells #[.slice so7 sn7 sc7, .slice ao7 n7 cap7] 49)) := (Below.refl _ _).alloc (Nat.le_refl _) _
        have hb8 := below_step hb7 hbp
        have p8 := (hb8.block _ (lt_heap p6)).trans p6
        have z8 := (hb8.block _ (lt_heap z6)).trans z6
        have HY := Lib.hid (HY.out.mono hb8)
        have HP8 := Lib.hid (HP6.out.mono hb8)
        have HZ := Lib.hid (HZ.out.mono hb8)
        have HB8 := Lib.hid (below_step HB6.out hb8)
        clear hb7 hbp hb8 p6 z6
        go_wp2_with fail
        generalize w7.alloc (.cells #[.slice so7 sn7 sc7, .slice ao7 n7 cap7] 49) = W8 at *
        refine (clone_bytes_n yo (j + 1) yc (outI p) W8 HY.out.len HY.out.low.row HY.out.cap.2 (by omega)).mono ?_
        rintro e w9 ⟨v9, rfl, hown9, -, hb9⟩
        obtain ⟨a9, n9, c9, rfl⟩ := hown9.shapeN
        have hbA : Below w9.heap.size w9 (w9.alloc (.cells #[.int .u8 m] 5)) := (Below.refl _ _).alloc (Nat.le_refl _) _
        have hb10 := below_step hb9 hbA
        have HOWN := Lib.hid (hown9.mono hbA)
        have HROW : Hid (Row .u8 (w9.alloc (.cells #[.int .u8 m] 5)) (some ⟨w9.heap.size, 0, none⟩) [m]) := Lib.hid (row_ints w9 .u8 5 [m])
        have H10 := Lib.hid hb10
        have P8 := Lib.hid p8
        have Z8 := Lib.hid z8
        have HSZ := Lib.hid (show W8.heap.size ≤ (w9.alloc (.cells #[.int .u8 m] 5)).heap.size from hb10.size)
        have HL8 := Lib.hid (show w.heap.size ≤ W8.heap.size from HB8.out.size)
        have lp8 := lt_heap p8
        have lz8 := lt_heap z8
        have HLN := Lib.hid (show (outI p).length + [m].length ≤ 1000000000 by rw [HO.out]; have := HJ.out; simp only [List.length_singleton]; omega)
        have HOB := Lib.hid (fun g (h : (Value.slice a9 n9 c9).ownBlock = some g) => own_low hown9 g h)
        clear hown9 hb9 hbA hb10 p8 z8 HY
        go_wp2_with (at_builtin; refine append_w rfl (.tmp 67) (.tmp 69) _ rfl 5 W8.heap.size Try.underlying38 info_u8 (.slice a9 n9 c9) (outI p) [m] (some ⟨w9.heap.size, 0, none⟩) 1 rfl HOWN.out rfl HROW.out (fun h => by cases h) HLN.out HSZ.out ?_; intro v11 w11 hown11 hg11 hn11; obtain ⟨a11, n11, c11, rfl⟩ := hown11.shapeN; have HQ11 := Lib.hid (And.intro hown11 hg11); clear hown11 hg11 hn11)
        have hb11 : Below W8.heap.size (w9.alloc (.cells #[.int .u8 m] 5)) w11 := ⟨HQ11.out.2.os, HQ11.out.2.tape, HQ11.out.2.output, HQ11.out.2.size, fun c hc => HQ11.out.2.block c (Nat.lt_of_lt_of_le hc HSZ.out) (fun e => by have := HOB.out c e.symm; omega)⟩
        refine (read_is w11 a11 n11 c11 (outI p ++ [m]) (noPool, 9) (by rw [HO.out]; exact write_more HW.out.sto HE.out m) (HQ11.out.1.bytIn) ((outI_byt HW.out).app (fun x hx => by rw [List.mem_singleton] at hx; subst hx; exact HM.out))).mono ?_
        rintro e w12 ⟨so12, sn12, sc12, ao12, n12, cap12, rfl, -, -, hb12⟩
        simp only
        have hbp : Below w12.heap.size w12 (w12.alloc (.cells #[.slice so12 sn12 sc12, .slice ao12 n12 cap12] 49)) := (Below.refl _ _).alloc (Nat.le_refl _) _
        have hb13 := H10.out.trans (hb11.trans ((below_step hb12 hbp).mono (Nat.le_trans HSZ.out hb11.size)))
        have p13 := (hb13.block _ lp8).trans P8.out
        have z13 := (hb13.block _ lz8).trans Z8.out
        have HP13 := Lib.hid (HP8.out.mono hb13)
        have HZ13 := Lib.hid (HZ.out.mono hb13)
        have HB13 := Lib.hid (below_step HB8.out hb13)
        clear hb11 hb12 hbp hb13 HP8 HB8 HZ P8 Z8 H10 HQ11 HOB HROW HOWN
        have c0 := cell_of_block p13 0
        have c1 := cell_of_block p13 1
        have d0 := cell_of_block z13 0
        have d1 := cell_of_block z13 1
        simp at c0 c1 d0 d1
        clear p13 z13
        go_wp2_with fail
        generalize w12.alloc (.cells #[.slice so12 sn12 sc12, .slice ao12 n12 cap12] 49) = W13 at *
        refine (same_is W13 _ _ _ _ _ _ _ _ _ _ _ _ p p true (by rw [sameP_self, if_pos HE.out]) HP13.out HW.out HZ13.out HW.out).mono ?_
        rintro e w14 ⟨rfl, hb14⟩
        have HB14 := Lib.hid (below_step HB13.out hb14)
        clear hb14
        go_wp2_with fail
        go_ret
        exact ⟨rfl, HB14.out⟩
      · have q5 : (E == 0) = false := by rw [beq_eq_false_iff_ne]; exact h0
        clear h0
        go_wp2_with fail
        refine (imaged_any w4).mono ?_
        rintro e w5 ⟨rfl, hb5⟩
        have HB5 := Lib.hid (below_step HB4.out hb5)
        clear hb5
        go_wp2_with fail
        go_ret
        exact ⟨rfl, HB5.out⟩
  · have qR : (R == 0) = false := by rw [beq_eq_false_iff_ne]; exact hR0
    have PX := Lib.hid p0
    have HPX := HP
    have HBX := HBW
    clear hR0 HP HBW p0 q0
    go_wp2_with fail
    generalize w1.alloc (.cells #[.slice qo qn qc, .slice xo xn xc] 49) = WX at *
    as_aux_lemma =>
      refine (write_image WX so ao sn sc n cap p HPX.out HW.out).mono ?_
      intro e w3 h3
      obtain ⟨yo, yn, yc, rfl, hy, hb3⟩ := h3.open
      rw [HE.out]
      have p3 := (hb3.block _ (lt_heap PX.out)).trans PX.out
      have HY := Lib.hid hy
      have HP3 := Lib.hid (HPX.out.mono hb3)
      have HB3 := Lib.hid (below_step HBX.out hb3)
      clear h3 hy hb3
      go_wp2_with fail
      refine (imaged_any w3).mono ?_
      rintro e w4 ⟨rfl, hb4⟩
      have p4 := (hb4.block _ (lt_heap p3)).trans p3
      have HY := Lib.hid (HY.out.mono hb4)
      have HP4 := Lib.hid (HP3.out.mono hb4)
      have HB4 := Lib.hid (below_step HB3.out hb4)
      clear hb4 p3
      by_cases h0 : E = 0
      · subst h0
        have HO : Hid (outI p = imageL p) := Lib.hid (by unfold outI; rw [if_pos HE.out])
        obtain ⟨j, hj⟩ := image_pos p
        have hyn : yn = j + 1 := by rw [← HY.out.len, HO.out, hj]
        subst hyn
        have HJ := Lib.hid hj
        clear hj
        have hyc : j + 1 ≤ yc := HY.out.cap.1
        have hyc2 : (j : Int) ≤ yc := by omega
        have hj6 : j ≤ 9896 := by have := (poolE_ok HE.out).small; have := HJ.out; omega
        go_wp2_with fail
        refine (read_is w4 yo _ yc (outI p) (p, 0) (by rw [HO.out]; exact write_back HW.out.sto HE.out) HY.out (outI_byt HW.out)).mono ?_
        rintro e w5 ⟨zo, zn, zc, vo, vn, vc, rfl, hin5, hwf5, hb5⟩
        simp only at hin5 hwf5 ⊢
        have hbp : Below w5.heap.size w5 (w5.alloc (.cells #[.slice zo zn zc, .slice vo vn vc] 49)) := (Below.refl _ _).alloc (Nat.le_refl _) _
        have hb6 := below_step hb5 hbp
        have p6 := (hb6.block _ (lt_heap p4)).trans p4
        have z6 : (w5.alloc (.cells #[.slice zo zn zc, .slice vo vn vc] 49)).heap[w5.heap.size]? = some (.cells #[.slice zo zn zc, .slice vo vn vc] 49 (0, 0)) := heap_alloc_new _ _
        have HY := Lib.hid (HY.out.mono hb6)
        have HP6 := Lib.hid (HP4.out.mono hb6)
        have HZ := Lib.hid (hin5.mono hbp)
        have HB6 := Lib.hid (below_step HB4.out hb6)
        clear hin5 hwf5 hb5 hbp hb6 p4
        go_wp2_with fail
        generalize w5.alloc (.cells #[.slice zo zn zc, .slice vo vn vc] 49) = W6 at *
        refine (read_is W6 yo j yc ((outI p).take j) (noPool, 9) (by rw [HO.out]; exact write_less HW.out.sto HE.out j (by have := HJ.out; omega)) (HY.out.take j (by omega)) (fun x hx => outI_byt HW.out x (List.mem_of_mem_take hx))).mono ?_
        rintro e w7 ⟨so7, sn7, sc7, ao7, n7, cap7, rfl, -, -, hb7⟩
        simp only
        have hbp : Below w7.heap.size w7 (w7.alloc (.cells #[.slice so7 sn7 sc7, .slice ao7 n7 cap7] 49)) := (Below.refl _ _).alloc (Nat.le_refl _) _
        have hb8 := below_step hb7 hbp
        have p8 := (hb8.block _ (lt_heap p6)).trans p6
        have z8 := (hb8.block _ (lt_heap z6)).trans z6
        have HY := Lib.hid (HY.out.mono hb8)
        have HP8 := Lib.hid (HP6.out.mono hb8)
        have HZ := Lib.hid (HZ.out.mono hb8)
        have HB8 := Lib.hid (below_step HB6.out hb8)
        clear hb7 hbp hb8 p6 z6
        go_wp2_with fail
        generalize w7.alloc (.cells #[.slice so7 sn7 sc7, .slice ao7 n7 cap7] 49) = W8 at *
        refine (clone_bytes_n yo (j + 1) yc (outI p) W8 HY.out.len HY.out.low.row HY.out.cap.2 (by omega)).mono ?_
        rintro e w9 ⟨v9, rfl, hown9, -, hb9⟩
        obtain ⟨a9, n9, c9, rfl⟩ := hown9.shapeN
        have hbA : Below w9.heap.size w9 (w9.alloc (.cells #[.int .u8 m] 5)) := (Below.refl _ _).alloc (Nat.le_refl _) _
        have hb10 := below_step hb9 hbA
        have HOWN := Lib.hid (hown9.mono hbA)
        have HROW : Hid (Row .u8 (w9.alloc (.cells #[.int .u8 m] 5)) (some ⟨w9.heap.size, 0, none⟩) [m]) := Lib.hid (row_ints w9 .u8 5 [m])
        have H10 := Lib.hid hb10
        have P8 := Lib.hid p8
        have Z8 := Lib.hid z8
        have HSZ := Lib.hid (show W8.heap.size ≤ (w9.alloc (.cells #[.int .u8 m] 5)).heap.size from hb10.size)
        have HL8 := Lib.hid (show w.heap.size ≤ W8.heap.size from HB8.out.size)
        have lp8 := lt_heap p8
        have lz8 := lt_heap z8
        have HLN := Lib.hid (show (outI p).length + [m].length ≤ 1000000000 by rw [HO.out]; have := HJ.out; simp only [List.length_singleton]; omega)
        have HOB := Lib.hid (fun g (h : (Value.slice a9 n9 c9).ownBlock = some g) => own_low hown9 g h)
        clear hown9 hb9 hbA hb10 p8 z8 HY
        go_wp2_with (at_builtin; refine append_w rfl (.tmp 67) (.tmp 69) _ rfl 5 W8.heap.size Try.underlying38 info_u8 (.slice a9 n9 c9) (outI p) [m] (some ⟨w9.heap.size, 0, none⟩) 1 rfl HOWN.out rfl HROW.out (fun h => by cases h) HLN.out HSZ.out ?_; intro v11 w11 hown11 hg11 hn11; obtain ⟨a11, n11, c11, rfl⟩ := hown11.shapeN; have HQ11 := Lib.hid (And.intro hown11 hg11); clear hown11 hg11 hn11)
        have hb11 : Below W8.heap.size (w9.alloc (.cells #[.int .u8 m] 5)) w11 := ⟨HQ11.out.2.os, HQ11.out.2.tape, HQ11.out.2.output, HQ11.out.2.size, fun c hc => HQ11.out.2.block c (Nat.lt_of_lt_of_le hc HSZ.out) (fun e => by have := HOB.out c e.symm; omega)⟩
        refine (read_is w11 a11 n11 c11 (outI p ++ [m]) (noPool, 9) (by rw [HO.out]; exact write_more HW.out.sto HE.out m) (HQ11.out.1.bytIn) ((outI_byt HW.out).app (fun x hx => by rw [List.mem_singleton] at hx; subst hx; exact HM.out))).mono ?_
        rintro e w12 ⟨so12, sn12, sc12, ao12, n12, cap12, rfl, -, -, hb12⟩
        simp only
        have hbp : Below w12.heap.size w12 (w12.alloc (.cells #[.slice so12 sn12 sc12, .slice ao12 n12 cap12] 49)) := (Below.refl _ _).alloc (Nat.le_refl _) _
        have hb13 := H10.out.trans (hb11.trans ((below_step hb12 hbp).mono (Nat.le_trans HSZ.out hb11.size)))
        have p13 := (hb13.block _ lp8).trans P8.out
        have z13 := (hb13.block _ lz8).trans Z8.out
        have HP13 := Lib.hid (HP8.out.mono hb13)
        have HZ13 := Lib.hid (HZ.out.mono hb13)
        have HB13 := Lib.hid (below_step HB8.out hb13)
        clear hb11 hb12 hbp hb13 HP8 HB8 HZ P8 Z8 H10 HQ11 HOB HROW HOWN
        have c0 := cell_of_block p13 0
        have c1 := cell_of_block p13 1
        have d0 := cell_of_block z13 0
        have d1 := cell_of_block z13 1
        simp at c0 c1 d0 d1
        clear p13 z13
        go_wp2_with fail
        generalize w12.alloc (.cells #[.slice so12 sn12 sc12, .slice ao12 n12 cap12] 49) = W13 at *
        refine (same_is W13 _ _ _ _ _ _ _ _ _ _ _ _ p p true (by rw [sameP_self, if_pos HE.out]) HP13.out HW.out HZ13.out HW.out).mono ?_
        rintro e w14 ⟨rfl, hb14⟩
        have HB14 := Lib.hid (below_step HB13.out hb14)
        clear hb14
        go_wp2_with fail
        go_ret
        exact ⟨rfl, HB14.out⟩
      · have q5 : (E == 0) = false := by rw [beq_eq_false_iff_ne]; exact h0
        clear h0
        go_wp2_with fail
        refine (imaged_any w4).mono ?_
        rintro e w5 ⟨rfl, hb5⟩
        have HB5 := Lib.hid (below_step HB4.out hb5)
        clear hb5
        go_wp2_with fail
        go_ret
        exact ⟨rfl, HB5.out⟩
end Go.Proofs.Ytfmgdjgedhnmeaa
