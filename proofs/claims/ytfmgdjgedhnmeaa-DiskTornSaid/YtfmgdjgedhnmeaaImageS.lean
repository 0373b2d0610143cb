/- image.Same. -/
import Derived.Test.YtfmgdjgedhnmeaaImageRd
import Derived.Test.YtfmgdjgedhnmeaaImage
namespace Go.Proofs.Ytfmgdjgedhnmeaa
open Go.RowKit
set_option linter.unusedVariables false
set_option linter.unusedSimpArgs false

/-- what Write hands back: the bytes -/
def outI (p : PoolV) : List Int := if poolE p = 0 then imageL p else []
/-- bytes in memory -/
structure BytIn (w : World) (ao : Option Addr) (n cap : Nat) (b : List Int) : Prop where
  len : b.length = n
  low : LowB w w.heap.size ao b
  cap : Capd ao n cap
theorem BytIn.mono {w w' : World} {ao : Option Addr} {n cap : Nat} {b : List Int} (h : BytIn w ao n cap b) (hb : Below w.heap.size w w') : BytIn w' ao n cap b := ⟨h.len, (h.low.mono hb).up hb.size, h.cap⟩
theorem WriteEnd.open {e : Ending} {w w' : World} {p : PoolV} (h : WriteEnd e w w' p) : ∃ ao n cap, e = .returned (.tuple #[.slice ao n cap, .int .i64 (poolE p)]) ∧ BytIn w' ao n cap (outI p) ∧ Below w.heap.size w w' := by
  obtain ⟨v, rfl, ho, hb⟩ := h
  obtain ⟨ao, n, cap, rfl⟩ := ho.shapeN
  have hr := ho.rowOf
  have hbl := ho.blockOf
  obtain ⟨h1, h2, h3⟩ := (own_sl ho).at
  refine ⟨ao, n, cap, rfl, ⟨h1.symm, ?_, h1 ▸ h3⟩, hb⟩
  rcases hr with hr | ⟨b, o, e, hr⟩
  · exact .inl hr
  · refine .inr ⟨b, o, e, ?_, hr⟩
    have := (hbl _ e).2.2
    exact this
theorem outI_fit (p : PoolV) : (outI p).length ≤ 1152921504606846976 := by
  unfold outI
  split
  · rename_i h
    have := (poolE_ok h).small
    omega
  · simp
/-- are two pools alike? -/
def sameP (p q : PoolV) : Bool := if poolE p = 0 then if poolE q = 0 then imageL p == imageL q else false else false

set_option maxRecDepth 100000 in
set_option maxHeartbeats 4000000 in
theorem same_pools (w : World) (so ao so' ao' : Option Addr) (sn sc n cap sn' sc' n' cap' : Nat) (p q : PoolV) (hp : PoolIn w so sn sc ao n cap p) (hw : WfP p) (hq : PoolIn w so' sn' sc' ao' n' cap' q) (hwq : WfP q) :
    Calls Try.prog 19 #[.agg #[.slice so sn sc, .slice ao n cap], .agg #[.slice so' sn' sc', .slice ao' n' cap']] w fun e w' => e = .returned (.bool (sameP p q)) ∧ Below w.heap.size w w' := by
  have hb0 : Below w.heap.size w ((w.alloc (.cells #[.slice so sn sc, .slice ao n cap] 49)).alloc (.cells #[.slice so' sn' sc', .slice ao' n' cap'] 49)) := ((Below.refl _ _).alloc (Nat.le_refl _) _).alloc (by simp) _
  have p0 := heap_alloc2_old w (.cells #[.slice so sn sc, .slice ao n cap] 49) (.cells #[.slice so' sn' sc', .slice ao' n' cap'] 49)
  have p1 := heap_alloc2_new w (.cells #[.slice so sn sc, .slice ao n cap] 49) (.cells #[.slice so' sn' sc', .slice ao' n' cap'] 49)
  have HP := Lib.hid (hp.mono hb0)
  have HQ := Lib.hid (hq.mono hb0)
  have HW := Lib.hid hw
  have HWQ := Lib.hid hwq
  obtain ⟨E, hE⟩ : ∃ E, poolE p = E := ⟨_, rfl⟩
  obtain ⟨F, hF⟩ : ∃ F, poolE q = F := ⟨_, rfl⟩
  have HS : Hid (sameP p q = if E = 0 then if F = 0 then outI p == outI q else false else false) := Lib.hid (by
    unfold sameP outI
    rw [hE, hF]
    split
    · split
      · rfl
      · rfl
    · rfl)
  have HE := Lib.hid hE
  have HF := Lib.hid hF
  clear hp hq hw hwq hE hF
  go_enter Try.func19, Try.ntmps19
  go_wp2_with fail
  generalize (w.alloc (.cells #[.slice so sn sc, .slice ao n cap] 49)).alloc (.cells #[.slice so' sn' sc', .slice ao' n' cap'] 49) = W0 at *
  refine (write_image W0 so ao sn sc n cap p HP.out HW.out).mono ?_
  intro e w1 h1
  obtain ⟨xo, xn, xc, rfl, hx, hb1⟩ := h1.open
  rw [HE.out]
  replace p1 := (hb1.block _ (lt_heap p1)).trans p1
  have HX := Lib.hid hx
  have HQ := Lib.hid (HQ.out.mono hb1)
  have hbw := below_step hb0 hb1
  clear h1 hx hb0 hb1 p0 HP
  have c0 := cell_of_block p1 0
  have c1 := cell_of_block p1 1
  simp at c0 c1
  go_wp2_with fail
  refine (write_image w1 so' ao' sn' sc' n' cap' q HQ.out HWQ.out).mono ?_
  intro e w2 h2
  obtain ⟨yo, yn, yc, rfl, hy, hb2⟩ := h2.open
  rw [HF.out]
  have HY := Lib.hid hy
  have HX := Lib.hid (HX.out.mono hb2)
  have HBW := Lib.hid (below_step hbw hb2)
  clear h2 hy hbw hb2 HQ p1 c0 c1
  by_cases h0 : E = 0
  · subst h0
    by_cases h1 : F = 0
    · subst h1
      have HR : Hid (sameP p q = (outI p == outI q)) := Lib.hid (HS.out.trans (by rw [if_pos rfl, if_pos rfl]))
      clear HS
      go_wp2_with fail
      refine (slices_equal_byte xo yo xn yn xc yc _ _ w2 HX.out.len HY.out.len HX.out.low.row HY.out.low.row (HX.out.len ▸ outI_fit p)).mono ?_
      rintro e w3 ⟨rfl, hb3⟩
      rw [← HR.out]
      have HB3 := Lib.hid (below_step HBW.out hb3)
      clear hb3 HBW
      clear HR
      obtain ⟨B, hB⟩ : ∃ B, sameP p q = B := ⟨_, rfl⟩
      rw [hB]
      have HB := Lib.hid hB
      clear hB
      cases B
      · go_wp2_with fail
        go_ret
        exact ⟨ret_bool HB.out.symm, HB3.out⟩
      · go_wp2_with fail
        go_ret
        exact ⟨ret_bool HB.out.symm, HB3.out⟩
    · have q1 : (F == 0) = false := by rw [beq_eq_false_iff_ne]; exact h1
      have HR := Lib.hid (HS.out.trans (by rw [if_pos rfl, if_neg h1]))
      clear h1
      go_wp2_with fail
      go_ret
      exact ⟨ret_bool HR.out.symm, HBW.out⟩
  · have q1 : (E == 0) = false := by rw [beq_eq_false_iff_ne]; exact h0
    have HR := Lib.hid (HS.out.trans (by rw [if_neg h0]))
    clear h0
    go_wp2_with fail
    go_ret
    exact ⟨ret_bool HR.out.symm, HBW.out⟩
end Go.Proofs.Ytfmgdjgedhnmeaa
