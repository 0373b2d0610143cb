/- Whatever the store and the order: rookerylaw.StoreFrees returns true, and its arguments read as before. No condition. -/
import Derived.Test.YtpfopbkaddjjcaaRows
import Derived.Test.YtpfopbkaddjjcaaOpen
import Derived.SizedLaws
import Derived.WalkKit
import Derived.ProofKit
import Derived.OpenShut
import Derived.ShutString
import Derived.ChangeOld
import Derived.Below
namespace Go.Proofs.Ytpfopbkaddjjcaa.storeFrees
open Go.ChangeShapes Go.WideShapes Go.ChangeAt Go.RowKit
open Go.ChangeMaps (open_string shut_string)
set_option linter.unusedVariables false

theorem own : ownKnob Try.prog.godebug = none := by kernel_rfl
theorem laidOut : laidOutB Try.prog = true := by kernel_rfl

theorem walk (ao oo : Option Addr) (n cap m oc : Nat) (s : List Blk) (os : List Int) (w : World) (hn : s.length = n) (hn63 : n ≤ 1152921504606846976) (hs : StoRow w ao s) (hwf : WfS s) (hc : Capd ao n cap)
    (hm : os.length = m) (ho : Row .i64 w oo os) (how : ∀ k ∈ os, I64 k) (hm63 : m ≤ 1152921504606846976) :
    Calls Try.prog 7 #[.agg #[.slice ao n cap], .slice oo m oc] w fun e w' => e = .returned (.bool true) ∧ Below w.heap.size w w' := by
  by_cases hce : checkE s = 0
  · exact law_frees_ok w ao oo n cap m oc s os hn hn63 hs hwf hc hm ho how hm63 hce
  · exact law_frees_bad w ao oo n cap m oc s hn hn63 hs hwf hce

/-! ### THE ROW's STEP: WRITTEN OUT: LEAVE IT -/
set_option maxRecDepth 100000 in
theorem lifted (os : Os) (started : os.Started) (H : Type) (enc : TypeId × Value → H) :
    ReturnsInHanded {} Try.checked os 7 .any (Rows.storeFreesSpec.pre6 enc Try.prog Try.f7 Rows.storeFreesRow.domain false) (Rows.storeFreesSpec.post enc Try.prog Try.f7 false true false false) := by
  refine returnsInHanded_of_change_sized (C := Try.checked) own started (by kernel_rfl) Try.func7
    (ChangeSpec.witness6 (enc := enc) (C := Try.checked) false ⟨#[], #[.agg #[.slice none 0 0], .slice none 0 0], []⟩ 8 (by kernel_rfl) (by kernel_rfl) (by kernel_rfl) (by kernel_rfl)) ?_
  intro W base args ds gs before hval0 hW hcnd hwt _
  have hval : ∀ (j : Nat) t v, Try.f7.params[j]? = some t → args[j]? = some v → Value.okWide Try.prog W .any base t v := hval0
  have hW' := hW
  obtain ⟨p, q, hA0, hV, rfl, hfz, hnd⟩ := hW
  have hA : DataW.TrodAll enc Try.prog W 0 (fun _ => true) true Try.f7.params.toList args.toList ds p := hA0
  rw [Try.params7] at hA hval hwt
  obtain ⟨v0, vs0, d0, ds0, p0, q0, hargs, rfl, rfl, h0, r0⟩ := trodAll_cons hA
  obtain ⟨v1, vs1, d1, ds1, p1, q1, rfl, rfl, rfl, h1, r1⟩ := trodAll_cons r0
  obtain ⟨rfl, rfl, rfl⟩ := trodAll_nil r1
  obtain rfl : args = #[v0, v1] := by cases args; simp_all
  obtain ⟨rfl, rfl⟩ := trodVars_none hV
  have hwe := fun n hn => List.all_eq_true.1 hwt n hn
  have k0 := h0
  have lt0 : ∀ x ∈ p0, x.block < W.heap.size := by obtain ⟨m, hm⟩ := k0; exact DataW.trod_lt m _ _ _ hm
  have k1 := h1
  have lt1 : ∀ x ∈ p1, x.block < W.heap.size := by obtain ⟨m, hm⟩ := k1; exact DataW.trod_lt m _ _ _ hm
  obtain ⟨ao, n, cap, s, rfl, hn, hs, hwf, hc, h63⟩ := open_store (hval 0 40 v0 rfl rfl) h0 (fun n hn => by simpa using hwe n (DataW.weights_mem_each (j := 0) (t := 40) (d := d0) rfl rfl n hn))
  obtain ⟨oo, m, oc, rfl⟩ := okWide_slice Try.underlying24 (hval 1 24 v1 rfl rfl)
  obtain ⟨zs, hm, ho, hw, hb⟩ : ∃ zs : List Int, zs.length = m ∧ Row .i64 W oo zs ∧ (∀ k ∈ zs, I64 k) ∧ m ≤ 1152921504606846976 := by
    obtain ⟨fuel, hf⟩ := h1
    obtain ⟨zs, hsl, hwz, hb⟩ := open_sl (v := .slice oo m oc) Try.underlying24 Try.underlying3 (by kernel_rfl) (by simpa [Value.cells] using hf)
    obtain ⟨h1, h2, _⟩ := hsl.at
    have hb2 := hb (fun n hn => by simpa using hwe n (DataW.weights_mem_each (j := 1) (t := 24) (d := d1) rfl rfl n hn))
    have e8 : Try.prog.bytesOf 3 = 8 := by kernel_rfl
    rw [e8] at hb2
    have hR : reachBytes = 140737488351232 := rfl
    exact ⟨zs, h1.symm, h2, fun k hk => i64_of (hwz k hk), by omega⟩
  clear hA0 hval0
  refine (walk ao oo n cap m oc s zs W hn h63 hs hwf hc hm ho hw hb).mono fun e W' ⟨he, bel⟩ => ?_
  subst he
  exact ⟨_, rfl, _, _, _, [], _, [], hW', trodAll_mk1 (shut_bool Try.underlying4 _), (trodAll_cons_mk (Below.trod laidOut (by kernel_rfl) (of_decide_eq_true (by kernel_rfl)) k0 bel lt0) (trodAll_cons_mk (Below.trod laidOut (by kernel_rfl) (of_decide_eq_true (by kernel_rfl)) k1 bel lt1) trodAll_mk0)), rfl, bel.frame _, fun h => by cases h⟩

theorem over : Rows.storeFreesRow.holds Try.pinned (OpenSpec.ofChange Rows.storeFreesSpec) :=
  OpenClaim.holds_of_wide 7 Try.f7 rfl rfl rfl rfl rfl rfl rfl ⟨rfl, rfl, rfl, rfl, rfl⟩ rfl rfl rfl rfl rfl (by kernel_rfl) Try.func7 (by kernel_rfl)
    (of_decide_eq_true (by kernel_rfl)) (by unfold Func.isWrapper; first | (rw [if_pos (by decide +kernel)]; kernel_rfl) | (rw [if_neg (by decide +kernel)]; exact ⟨rfl, rfl⟩))
    (fun os started H enc _ => lifted os started H enc)

/-- ████ THE STATEMENT ████ -/
theorem proved : Rows.StoreFreesSaid := over
end Go.Proofs.Ytpfopbkaddjjcaa.storeFrees
