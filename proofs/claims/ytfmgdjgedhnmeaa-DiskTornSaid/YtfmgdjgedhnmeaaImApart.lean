/- ImageApart: pools are alike just if their bytes are. -/
import Derived.Test.YtfmgdjgedhnmeaaImaged
namespace Go.Proofs.Ytfmgdjgedhnmeaa
open Go.RowKit
set_option linter.unusedVariables false
set_option linter.unusedSimpArgs false

theorem sameP_comm (p q : PoolV) : sameP p q = sameP q p := by
  unfold sameP
  by_cases h1 : poolE p = 0
  · by_cases h2 : poolE q = 0
    · rw [if_pos h1, if_pos h2, if_pos h2, if_pos h1]
      exact Bool.beq_comm
    · rw [if_pos h1, if_neg h2, if_neg h2]
  · by_cases h2 : poolE q = 0
    · rw [if_neg h1, if_pos h2, if_neg h1]
    · rw [if_neg h1, if_neg h2]
theorem sameP_self (p : PoolV) : sameP p p = if poolE p = 0 then true else false := by
  unfold sameP
  by_cases h1 : poolE p = 0
  · rw [if_pos h1, if_pos h1, if_pos h1]
    simp
  · rw [if_neg h1, if_neg h1]
theorem sameP_out {p q : PoolV} (h1 : poolE p = 0) (h2 : poolE q = 0) : sameP p q = (outI p == outI q) := by
  unfold sameP outI
  rw [if_pos h1, if_pos h2, if_pos h1, if_pos h2]
theorem same_is (w : World) (so ao so' ao' : Option Addr) (sn sc n cap sn' sc' n' cap' : Nat) (p q : PoolV) (B : Bool) (hB : sameP p q = B) (hp : PoolIn w so sn sc ao n cap p) (hw : WfP p) (hq : PoolIn w so' sn' sc' ao' n' cap' q) (hwq : WfP q) :
    Calls Try.prog 19 #[.agg #[.slice so sn sc, .slice ao n cap], .agg #[.slice so' sn' sc', .slice ao' n' cap']] w fun e w' => e = .returned (.bool B) ∧ Below w.heap.size w w' := by
  subst hB
  exact same_pools w so ao so' ao' sn sc n cap sn' sc' n' cap' p q hp hw hq hwq
theorem Byt.app {a b : List Int} (h : Byt a) (k : Byt b) : Byt (a ++ b) := fun x hx => (List.mem_append.mp hx).elim (h x) (k x)
theorem Byt.flat {α : Type} {f : α → List Int} {l : List α} (h : ∀ x ∈ l, Byt (f x)) : Byt (l.flatMap f) := fun x hx => by
  obtain ⟨y, hy, h2⟩ := List.mem_flatMap.mp hx
  exact h y hy x h2
theorem Byt.n (n : Nat) (h : n < 65536) : Byt (nb n) := nb_byt ⟨by omega, by omega⟩
theorem Byt.nbs {l : List Int} (h : ∀ x ∈ l, W16 x) : Byt (nbs l) := Byt.flat fun x hx => nb_byt (h x hx)
theorem Byt.three {a b c : Int} (h1 : W16 a) (h2 : W16 b) (h3 : W16 c) : Byt (Go.Proofs.Ytfmgdjgedhnmeaa.nbs [a, b, c]) := Byt.nbs fun x hx => by
  simp only [List.mem_cons, List.not_mem_nil, or_false] at hx
  rcases hx with rfl | rfl | rfl <;> assumption
theorem nat_W {n : Nat} (h : n < 65536) : W16 (n : Int) := ⟨by omega, by omega⟩
theorem Byt.str {s : ByteArray} (h : s.size < 65536) : Byt (strI s) := (Byt.n _ h).app (strL_byt s)
theorem Byt.ent {x : Ent} (h : FitE x) : Byt (entI x) := (Byt.str h.1).app (Byt.nbs fun y hy => by
  simp only [List.mem_cons, List.not_mem_nil, or_false] at hy
  rcases hy with rfl | rfl
  · exact h.2.1
  · exact h.2.2)
theorem Byt.ents {l : List Ent} (h : FitL l) : Byt (entsI l) := (Byt.n _ h.1).app (Byt.flat fun x hx => Byt.ent (h.2 x hx))
theorem Byt.snp {y : Snp} (h : FitS y) : Byt (snpI y) := (Byt.str h.1).app (Byt.ents h.2)
theorem Byt.set {x : SetV} (h : FitSet x) : Byt (setI x) := (((Byt.str h.nm).app (Byt.ents h.files)).app (Byt.n _ h.len)).app (Byt.flat fun y hy => Byt.snp (h.snaps y hy))
theorem Byt.blk {x : Blk} (h : FitB x) : Byt (blkI x) := (((Byt.three h.refs h.level (nat_W h.klen)).app (Byt.nbs h.kids)).app (Byt.n _ h.blen)).app h.byt
theorem Byt.ten {t : TenV} (h : FitTen t) : Byt (tenI t) := (Byt.three h.key h.quota (nat_W h.len)).app (Byt.flat fun y hy => Byt.set (h.sets y hy))
theorem image_byt {p : PoolV} (hw : WfP p) (h : poolE p = 0) : Byt (imageL p) := by
  have f := (poolE_ok h).fit hw.sto
  exact (((Byt.n _ f.slen).app (Byt.flat fun y hy => Byt.blk (f.sto y hy))).app (Byt.n _ f.len)).app (Byt.flat fun y hy => Byt.ten (f.tens y hy))
theorem outI_byt {p : PoolV} (hw : WfP p) : Byt (outI p) := by
  unfold outI
  split
  · rename_i h
    exact image_byt hw h
  · exact fun x hx => (List.not_mem_nil hx).elim

set_option maxRecDepth 100000 in
set_option maxHeartbeats 16000000 in
theorem law_imApart (w : World) (so so' ao ao' : Option Addr) (sn sc n cap sn' sc2 n' cap' : Nat) (p q : PoolV) (hp : PoolIn w so sn sc ao n cap p) (hw : WfP p) (hq : PoolIn w so' sn' sc2 ao' n' cap' q) (hwq : WfP q) :
    Calls Try.prog 5 #[.agg #[.slice so sn sc, .slice ao n cap], .agg #[.slice so' sn' sc2, .slice ao' n' cap']] w fun e w' => e = .returned (.bool true) ∧ Below w.heap.size w w' := by
  have hb0 : Below w.heap.size w ((w.alloc (.cells #[.slice so sn sc, .slice ao n cap] 49)).alloc (.cells #[.slice so' sn' sc2, .slice ao' n' cap'] 49)) := ((Below.refl _ _).alloc (Nat.le_refl _) _).alloc (by simp) _
  have p0 := heap_alloc2_old w (.cells #[.slice so sn sc, .slice ao n cap] 49) (.cells #[.slice so' sn' sc2, .slice ao' n' cap'] 49)
  have p1 := heap_alloc2_new w (.cells #[.slice so sn sc, .slice ao n cap] 49) (.cells #[.slice so' sn' sc2, .slice ao' n' cap'] 49)
  have HP := Lib.hid (hp.mono hb0)
  have HQ := Lib.hid (hq.mono hb0)
  have HW := Lib.hid hw
  have HWQ := Lib.hid hwq
  obtain ⟨E, hE⟩ : ∃ E, poolE p = E := ⟨_, rfl⟩
  obtain ⟨F, hF⟩ : ∃ F, poolE q = F := ⟨_, rfl⟩
  obtain ⟨B, hB⟩ : ∃ B, sameP p q = B := ⟨_, rfl⟩
  obtain ⟨C, hC⟩ : ∃ C, sameP p p = C := ⟨_, rfl⟩
  obtain ⟨G, hG⟩ : ∃ G, (outI p == outI q) = G := ⟨_, rfl⟩
  have HE := Lib.hid hE
  have HF := Lib.hid hF
  have HPQ := Lib.hid hB
  have HQP := Lib.hid ((sameP_comm q p).trans hB)
  have HPP := Lib.hid hC
  have HG := Lib.hid hG
  have HC : Hid (C = if E = 0 then true else false) := Lib.hid (by rw [← hC, sameP_self, hE])
  have HB : Hid (B = if E = 0 then if F = 0 then G else false else false) := Lib.hid (by
    rw [← hB]
    by_cases h1 : E = 0
    · by_cases h2 : F = 0
      · rw [if_pos h1, if_pos h2, ← hG, sameP_out (hE.trans h1) (hF.trans h2)]
      · rw [if_pos h1, if_neg h2]
        unfold sameP
        rw [if_pos (hE.trans h1), if_neg (hF ▸ h2)]
    · rw [if_neg h1]
      unfold sameP
      rw [if_neg (hE ▸ h1)])
  clear hp hq hw hwq hE hF hB hC hG
  go_enter Try.func5, Try.ntmps5
  go_wp2_with fail
  generalize (w.alloc (.cells #[.slice so sn sc, .slice ao n cap] 49)).alloc (.cells #[.slice so' sn' sc2, .slice ao' n' cap'] 49) = W0 at *
  refine (write_image W0 so ao sn sc n cap p HP.out HW.out).mono ?_
  intro e w1 h1
  obtain ⟨xo, xn, xc, rfl, hx, hb1⟩ := h1.open
  rw [HE.out]
  replace p0 := (hb1.block _ (lt_heap p0)).trans p0
  replace p1 := (hb1.block _ (lt_heap p1)).trans p1
  have HX := Lib.hid hx
  have HP := Lib.hid (HP.out.mono hb1)
  have HQ := Lib.hid (HQ.out.mono hb1)
  have hbw := below_step hb0 hb1
  clear h1 hx hb0 hb1
  have c0 := cell_of_block p0 0
  have c1 := cell_of_block p0 1
  have d0 := cell_of_block p1 0
  have d1 := cell_of_block p1 1
  simp at c0 c1 d0 d1
  go_wp2_with fail
  refine (write_image w1 so' ao' sn' sc2 n' cap' q HQ.out HWQ.out).mono ?_
  intro e w2 h2
  obtain ⟨yo, yn, yc, rfl, hy, hb2⟩ := h2.open
  rw [HF.out]
  replace p0 := (hb2.block _ (lt_heap p0)).trans p0
  replace p1 := (hb2.block _ (lt_heap p1)).trans p1
  have HY := Lib.hid hy
  have HX := Lib.hid (HX.out.mono hb2)
  have HP := Lib.hid (HP.out.mono hb2)
  have HQ := Lib.hid (HQ.out.mono hb2)
  have HBW := Lib.hid (below_step hbw hb2)
  clear h2 hy hbw hb2 c0 c1 d0 d1
  have c0 := cell_of_block p0 0
  have c1 := cell_of_block p0 1
  have d0 := cell_of_block p1 0
  have d1 := cell_of_block p1 1
  simp at c0 c1 d0 d1
  have l0 := lt_heap p0
  have l1 := lt_heap p1
  go_wp2_with fail
  by_cases h0 : E = 0
  · subst h0
    have hC : C = true := HC.out.trans (if_pos rfl)
    subst hC
    by_cases h1 : F = 0
    · subst h1
      have hB : B = G := HB.out.trans ((if_pos rfl).trans (if_pos rfl))
      subst hB
      clear HB HC
      cases B
      · as_aux_lemma =>
          refine wp_region_mix (by kernel_rfl) (by kernel_rfl) ?_
          repeat (go_big_quiet_step (first
            | (go_at_call 18; refine calls_mix (v := .bool true) ?_; exact imaged_any _)
            | (go_at_call 19; refine calls_mix (v := .bool false) ?_; exact same_is _ _ _ _ _ _ _ _ _ _ _ _ _ _ _ _ HPQ.out (HP.out.mono (mix_below _ _)) HW.out (HQ.out.mono (mix_below _ _)) HWQ.out)
            | (go_at_call 19; refine calls_mix (v := .bool false) ?_; exact same_is _ _ _ _ _ _ _ _ _ _ _ _ _ _ _ _ HQP.out (HQ.out.mono (mix_below _ _)) HWQ.out (HP.out.mono (mix_below _ _)) HW.out)
            | (go_at_call 19; refine calls_mix (v := .bool true) ?_; exact same_is _ _ _ _ _ _ _ _ _ _ _ _ _ _ _ _ HPP.out (HP.out.mono (mix_below _ _)) HW.out (HP.out.mono (mix_below _ _)) HW.out)))
          refine wpQuiet_nil ?_
          intro w3 hb3
          replace p0 := (hb3.block _ (lt_heap p0)).trans p0
          replace p1 := (hb3.block _ (lt_heap p1)).trans p1
          have HP3 := Lib.hid (HP.out.mono hb3)
          have HQ3 := Lib.hid (HQ.out.mono hb3)
          have HX3 := Lib.hid (HX.out.mono hb3)
          have HY3 := Lib.hid (HY.out.mono hb3)
          have HB3 := Lib.hid (below_step HBW.out hb3)
          clear hb3 c0 c1 d0 d1 l0 l1
          have c0 := cell_of_block p0 0
          have c1 := cell_of_block p0 1
          have d0 := cell_of_block p1 0
          have d1 := cell_of_block p1 1
          simp at c0 c1 d0 d1
          go_wp2_with fail
          refine (same_is w3 _ _ _ _ _ _ _ _ _ _ _ _ p q false HPQ.out HP3.out HW.out HQ3.out HWQ.out).mono ?_
          rintro e w4 ⟨rfl, hb4⟩
          have HX4 := Lib.hid (HX3.out.mono hb4)
          have HY4 := Lib.hid (HY3.out.mono hb4)
          have HB4 := Lib.hid (below_step HB3.out hb4)
          clear hb4
          go_wp2_with fail
          refine (bytes_equal_n xo yo xn yn xc yc (outI p) (outI q) w4 HX4.out.len HY4.out.len HX4.out.low.row HY4.out.low.row (outI_byt HW.out) (outI_byt HWQ.out)).mono ?_
          rw [HG.out]
          rintro e w5 ⟨rfl, rfl⟩
          go_wp2_with fail
          go_ret
          exact ⟨rfl, HB4.out⟩
      · as_aux_lemma =>
          refine wp_region_mix (by kernel_rfl) (by kernel_rfl) ?_
          repeat (go_big_quiet_step (first
            | (go_at_call 18; refine calls_mix (v := .bool true) ?_; exact imaged_any _)
            | (go_at_call 19; refine calls_mix (v := .bool true) ?_; exact same_is _ _ _ _ _ _ _ _ _ _ _ _ _ _ _ _ HPQ.out (HP.out.mono (mix_below _ _)) HW.out (HQ.out.mono (mix_below _ _)) HWQ.out)
            | (go_at_call 19; refine calls_mix (v := .bool true) ?_; exact same_is _ _ _ _ _ _ _ _ _ _ _ _ _ _ _ _ HQP.out (HQ.out.mono (mix_below _ _)) HWQ.out (HP.out.mono (mix_below _ _)) HW.out)
            | (go_at_call 19; refine calls_mix (v := .bool true) ?_; exact same_is _ _ _ _ _ _ _ _ _ _ _ _ _ _ _ _ HPP.out (HP.out.mono (mix_below _ _)) HW.out (HP.out.mono (mix_below _ _)) HW.out)))
          refine wpQuiet_nil ?_
          intro w3 hb3
          replace p0 := (hb3.block _ (lt_heap p0)).trans p0
          replace p1 := (hb3.block _ (lt_heap p1)).trans p1
          have HP3 := Lib.hid (HP.out.mono hb3)
          have HQ3 := Lib.hid (HQ.out.mono hb3)
          have HX3 := Lib.hid (HX.out.mono hb3)
          have HY3 := Lib.hid (HY.out.mono hb3)
          have HB3 := Lib.hid (below_step HBW.out hb3)
          clear hb3 c0 c1 d0 d1 l0 l1
          have c0 := cell_of_block p0 0
          have c1 := cell_of_block p0 1
          have d0 := cell_of_block p1 0
          have d1 := cell_of_block p1 1
          simp at c0 c1 d0 d1
          go_wp2_with fail
          refine (same_is w3 _ _ _ _ _ _ _ _ _ _ _ _ p q true HPQ.out HP3.out HW.out HQ3.out HWQ.out).mono ?_
          rintro e w4 ⟨rfl, hb4⟩
          have HX4 := Lib.hid (HX3.out.mono hb4)
          have HY4 := Lib.hid (HY3.out.mono hb4)
          have HB4 := Lib.hid (below_step HB3.out hb4)
          clear hb4
          go_wp2_with fail
          refine (bytes_equal_n xo yo xn yn xc yc (outI p) (outI q) w4 HX4.out.len HY4.out.len HX4.out.low.row HY4.out.low.row (outI_byt HW.out) (outI_byt HWQ.out)).mono ?_
          rw [HG.out]
          rintro e w5 ⟨rfl, rfl⟩
          go_wp2_with fail
          go_ret
          exact ⟨rfl, HB4.out⟩
    · have q0 : (F == 0) = false := by rw [beq_eq_false_iff_ne]; exact h1
      have hB : B = false := HB.out.trans ((if_pos rfl).trans (if_neg h1))
      subst hB
      clear HB HC h1
      as_aux_lemma =>
        refine wp_region_mix (by kernel_rfl) (by kernel_rfl) ?_
        repeat (go_big_quiet_step (first
          | (go_at_call 18; refine calls_mix (v := .bool true) ?_; exact imaged_any _)
          | (go_at_call 19; refine calls_mix (v := .bool false) ?_; exact same_is _ _ _ _ _ _ _ _ _ _ _ _ _ _ _ _ HPQ.out (HP.out.mono (mix_below _ _)) HW.out (HQ.out.mono (mix_below _ _)) HWQ.out)
          | (go_at_call 19; refine calls_mix (v := .bool false) ?_; exact same_is _ _ _ _ _ _ _ _ _ _ _ _ _ _ _ _ HQP.out (HQ.out.mono (mix_below _ _)) HWQ.out (HP.out.mono (mix_below _ _)) HW.out)
          | (go_at_call 19; refine calls_mix (v := .bool true) ?_; exact same_is _ _ _ _ _ _ _ _ _ _ _ _ _ _ _ _ HPP.out (HP.out.mono (mix_below _ _)) HW.out (HP.out.mono (mix_below _ _)) HW.out)))
        refine wpQuiet_nil ?_
        intro w3 hb3
        replace p0 := (hb3.block _ (lt_heap p0)).trans p0
        replace p1 := (hb3.block _ (lt_heap p1)).trans p1
        have HP3 := Lib.hid (HP.out.mono hb3)
        have HQ3 := Lib.hid (HQ.out.mono hb3)
        have HX3 := Lib.hid (HX.out.mono hb3)
        have HY3 := Lib.hid (HY.out.mono hb3)
        have HB3 := Lib.hid (below_step HBW.out hb3)
        clear hb3 c0 c1 d0 d1 l0 l1
        have c0 := cell_of_block p0 0
        have c1 := cell_of_block p0 1
        have d0 := cell_of_block p1 0
        have d1 := cell_of_block p1 1
        simp at c0 c1 d0 d1
        go_wp2_with fail
        refine (same_is w3 _ _ _ _ _ _ _ _ _ _ _ _ p q false HPQ.out HP3.out HW.out HQ3.out HWQ.out).mono ?_
        rintro e w4 ⟨rfl, hb4⟩
        have HX4 := Lib.hid (HX3.out.mono hb4)
        have HY4 := Lib.hid (HY3.out.mono hb4)
        have HB4 := Lib.hid (below_step HB3.out hb4)
        clear hb4
        go_wp2_with fail
        go_ret
        exact ⟨rfl, HB4.out⟩
  · have q0 : (E == 0) = false := by rw [beq_eq_false_iff_ne]; exact h0
    have hC : C = false := HC.out.trans (if_neg h0)
    have hB : B = false := HB.out.trans (if_neg h0)
    subst hC hB
    clear HB HC h0
    as_aux_lemma =>
      refine wp_region_mix (by kernel_rfl) (by kernel_rfl) ?_
      repeat (go_big_quiet_step (first
        | (go_at_call 18; refine calls_mix (v := .bool true) ?_; exact imaged_any _)
        | (go_at_call 19; refine calls_mix (v := .bool false) ?_; exact same_is _ _ _ _ _ _ _ _ _ _ _ _ _ _ _ _ HPQ.out (HP.out.mono (mix_below _ _)) HW.out (HQ.out.mono (mix_below _ _)) HWQ.out)
        | (go_at_call 19; refine calls_mix (v := .bool false) ?_; exact same_is _ _ _ _ _ _ _ _ _ _ _ _ _ _ _ _ HQP.out (HQ.out.mono (mix_below _ _)) HWQ.out (HP.out.mono (mix_below _ _)) HW.out)
        | (go_at_call 19; refine calls_mix (v := .bool false) ?_; exact same_is _ _ _ _ _ _ _ _ _ _ _ _ _ _ _ _ HPP.out (HP.out.mono (mix_below _ _)) HW.out (HP.out.mono (mix_below _ _)) HW.out)))
      refine wpQuiet_nil ?_
      intro w3 hb3
      replace p0 := (hb3.block _ (lt_heap p0)).trans p0
      replace p1 := (hb3.block _ (lt_heap p1)).trans p1
      have HP3 := Lib.hid (HP.out.mono hb3)
      have HQ3 := Lib.hid (HQ.out.mono hb3)
      have HX3 := Lib.hid (HX.out.mono hb3)
      have HY3 := Lib.hid (HY.out.mono hb3)
      have HB3 := Lib.hid (below_step HBW.out hb3)
      clear hb3 c0 c1 d0 d1 l0 l1
      have c0 := cell_of_block p0 0
      have c1 := cell_of_block p0 1
      have d0 := cell_of_block p1 0
      have d1 := cell_of_block p1 1
      simp at c0 c1 d0 d1
      go_wp2_with fail
      refine (same_is w3 _ _ _ _ _ _ _ _ _ _ _ _ p q false HPQ.out HP3.out HW.out HQ3.out HWQ.out).mono ?_
      rintro e w4 ⟨rfl, hb4⟩
      have HX4 := Lib.hid (HX3.out.mono hb4)
      have HY4 := Lib.hid (HY3.out.mono hb4)
      have HB4 := Lib.hid (below_step HB3.out hb4)
      clear hb4
      go_wp2_with fail
      go_ret
      exact ⟨rfl, HB4.out⟩
end Go.Proofs.Ytfmgdjgedhnmeaa
