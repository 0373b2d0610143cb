/- Whatever the stores, the number and the roots: rookerylaw.StoreTells returns true, and its arguments read as before. No condition. -/
import Derived.Test.YtpfopbkaddjjcaaRows
import Derived.Test.YtpfopbkaddjjcaaOpen
import Derived.Test.YtpfopbkaddjjcaaTells
import Derived.SizedLaws
import Derived.WalkKit
import Derived.ProofKit
import Derived.OpenShut
import Derived.ShutString
import Derived.ChangeOld
import Derived.Below
namespace Go.Proofs.Ytpfopbkaddjjcaa.storeTells
open Go.ChangeShapes Go.WideShapes Go.ChangeAt Go.RowKit
open Go.ChangeMaps (open_string shut_string)
set_option linter.unusedVariables false

theorem own : ownKnob Try.prog.godebug = none := by kernel_rfl
theorem laidOut : laidOutB Try.prog = true := by kernel_rfl

theorem walk (w : World) (a0 : Option Addr) (n0 : Nat) (c0 : Nat) (s0 : List Blk) (x1 : Int) (a2 : Option Addr) (n2 : Nat) (c2 : Nat) (z2 : List Int) (a3 : Option Addr) (n3 : Nat) (c3 : Nat) (s3 : List Blk) (hn0 : s0.length = n0) (h410 : n0 ≤ 2199023255552) (hs0 : StoRow w a0 s0) (hwf0 : WfS s0) (hc0 : Capd a0 n0 c0) (hx1 : I64 x1) (hz2 : z2.length = n2) (hr2 : Row .i64 w a2 z2) (hw2 : ∀ k ∈ z2, I64 k) (hb2 : n2 ≤ 17592186044416) (hc2 : Capd a2 n2 c2) (hn3 : s3.length = n3) (h413 : n3 ≤ 2199023255552) (hs3 : StoRow w a3 s3) (hwf3 : WfS s3) (hc3 : Capd a3 n3 c3) :
    Calls Try.prog 16 #[.agg #[.slice a0 n0 c0], .int .i64 x1, .slice a2 n2 c2, .agg #[.slice a3 n3 c3]] w fun e w' => e = .returned (.bool true) ∧ Below w.heap.size w w' := by
  by_cases hce : checkE s0 = 0
  · rcases (show x1 < 0 ∨ 400 < x1 ∨ (0 ≤ x1 ∧ x1 ≤ 400) from by omega) with h | h | ⟨h1, h2⟩
    · exact law_tells_ok_neg w a0 a2 a3 n0 c0 n2 c2 n3 c3 s0 s3 z2 x1 hn0 h410 hs0 hwf0 hz2 hr2 hw2 hb2 hn3 h413 hs3 hwf3 hce h
    · exact law_tells_ok_big w a0 a2 a3 n0 c0 n2 c2 n3 c3 s0 s3 z2 x1 hn0 h410 hs0 hwf0 hz2 hr2 hw2 hb2 hn3 h413 hs3 hwf3 hce h
    · exact law_tells_ok_fine w a0 a2 a3 n0 c0 n2 c2 n3 c3 s0 s3 z2 x1 hn0 h410 hs0 hwf0 hz2 hr2 hw2 hb2 hn3 h413 hs3 hwf3 hce h1 h2
  · rcases (show x1 < 0 ∨ 400 < x1 ∨ (0 ≤ x1 ∧ x1 ≤ 400) from by omega) with h | h | ⟨h1, h2⟩
    · exact law_tells_bad_neg w a0 a2 a3 n0 c0 n2 c2 n3 c3 s0 s3 z2 x1 hn0 h410 hs0 hwf0 hz2 hr2 hw2 hb2 hn3 h413 hs3 hwf3 hce h
    · exact law_tells_bad_big w a0 a2 a3 n0 c0 n2 c2 n3 c3 s0 s3 z2 x1 hn0 h410 hs0 hwf0 hz2 hr2 hw2 hb2 hn3 h413 hs3 hwf3 hce h
    · exact law_tells_bad_fine w a0 a2 a3 n0 c0 n2 c2 n3 c3 s0 s3 z2 x1 hn0 h410 hs0 hwf0 hz2 hr2 hw2 hb2 hn3 h413 hs3 hwf3 hce h1 h2

set_option maxRecDepth 100000 in
set_option maxHeartbeats 4000000 in
theorem lifted (os : Os) (started : os.Started) (H : Type) (enc : TypeId × Value → H) :
    ReturnsInHanded {} Try.checked os 16 .any (Rows.storeTellsSpec.pre6 enc Try.prog Try.f16 Rows.storeTellsRow.domain false) (Rows.storeTellsSpec.post enc Try.prog Try.f16 false true false false) := by
  refine returnsInHanded_of_change_sized (C := Try.checked) own started (by kernel_rfl) Try.func16
    (ChangeSpec.witness6 (enc := enc) (C := Try.checked) false ⟨#[], #[.agg #[.slice none 0 0], .int .i64 0, .slice none 0 0, .agg #[.slice none 0 0]], []⟩ 8 (by kernel_rfl) (by kernel_rfl) (by kernel_rfl) (by kernel_rfl)) ?_
  intro W base args ds gs before hval0 hW hcnd hwt _
  have hval : ∀ (j : Nat) t v, Try.f16.params[j]? = some t → args[j]? = some v → Value.okWide Try.prog W .any base t v := hval0
  have hW' := hW
  obtain ⟨p, q, hA0, hV, rfl, hfz, hnd⟩ := hW
  have hA : DataW.TrodAll enc Try.prog W 0 (fun _ => true) true Try.f16.params.toList args.toList ds p := hA0
  rw [Try.params16] at hA hval hwt
  obtain ⟨v0, vs0, d0, ds0, p0, q0, hargs, rfl, rfl, h0, tr0⟩ := trodAll_cons hA
  obtain ⟨v1, vs1, d1, ds1, p1, q1, rfl, rfl, rfl, h1, tr1⟩ := trodAll_cons tr0
  obtain ⟨v2, vs2, d2, ds2, p2, q2, rfl, rfl, rfl, h2, tr2⟩ := trodAll_cons tr1
  obtain ⟨v3, vs3, d3, ds3, p3, q3, rfl, rfl, rfl, h3, tr3⟩ := trodAll_cons tr2
  obtain ⟨rfl, rfl, rfl⟩ := trodAll_nil tr3
  obtain rfl : args = #[v0, v1, v2, v3] := by cases args; simp_all
  obtain ⟨rfl, rfl⟩ := trodVars_none hV
  have hwe := fun n hn => List.all_eq_true.1 hwt n hn
  have k0 := h0
  have lt0 : ∀ x ∈ p0, x.block < W.heap.size := by obtain ⟨m, hm⟩ := k0; exact DataW.trod_lt m _ _ _ hm
  have k2 := h2
  have lt2 : ∀ x ∈ p2, x.block < W.heap.size := by obtain ⟨m, hm⟩ := k2; exact DataW.trod_lt m _ _ _ hm
  have k3 := h3
  have lt3 : ∀ x ∈ p3, x.block < W.heap.size := by obtain ⟨m, hm⟩ := k3; exact DataW.trod_lt m _ _ _ hm
  obtain ⟨a0, n0, c0, s0, rfl, hn0, hs0, hwf0, hc0, h410⟩ := open_store (hval 0 40 v0 rfl rfl) h0 (fun n hn => by simpa using hwe n (DataW.weights_mem_each (j := 0) (t := 40) (d := d0) rfl rfl n hn))
  obtain ⟨a2, n2, c2, rfl⟩ := okWide_slice Try.underlying24 (hval 2 24 v2 rfl rfl)
  obtain ⟨z2, hz2, hr2, hw2, hb2, hc2⟩ : ∃ zs : List Int, zs.length = n2 ∧ Row .i64 W a2 zs ∧ (∀ k ∈ zs, I64 k) ∧ n2 ≤ 17592186044416 ∧ Capd a2 n2 c2 := by
    obtain ⟨fuel, hf⟩ := h2
    obtain ⟨zs, hsl, hwz, hb⟩ := open_sl (v := .slice a2 n2 c2) Try.underlying24 Try.underlying3 (by kernel_rfl) (by simpa [Value.cells] using hf)
    obtain ⟨h1, h2, h3⟩ := hsl.at
    have hb2 := hb (fun n hn => by simpa using hwe n (DataW.weights_mem_each (j := 2) (t := 24) (d := d2) rfl rfl n hn))
    have e8 : Try.prog.bytesOf 3 = 8 := by kernel_rfl
    rw [e8] at hb2
    have hR : reachBytes = 140737488351232 := rfl
    exact ⟨zs, h1.symm, h2, (fun k hk => i64_of (hwz k hk)), by omega, h1 ▸ h3⟩
  obtain ⟨a3, n3, c3, s3, rfl, hn3, hs3, hwf3, hc3, h413⟩ := open_store (hval 3 40 v3 rfl rfl) h3 (fun n hn => by simpa using hwe n (DataW.weights_mem_each (j := 3) (t := 40) (d := d3) rfl rfl n hn))
  obtain ⟨x1, rfl, rfl, rfl, w1⟩ := open_int Try.underlying3 (hval 1 3 v1 rfl rfl) h1
  clear hA0 hval0
  refine (walk W a0 n0 c0 s0 x1 a2 n2 c2 z2 a3 n3 c3 s3 hn0 h410 hs0 hwf0 hc0 (i64_of w1) hz2 hr2 hw2 hb2 hc2 hn3 h413 hs3 hwf3 hc3).mono fun e W' ⟨he, bel⟩ => ?_
  subst he
  exact ⟨_, rfl, _, _, _, [], _, [], hW', trodAll_mk1 (shut_bool Try.underlying4 _), (trodAll_cons_mk (Below.trod laidOut (by kernel_rfl) (of_decide_eq_true (by kernel_rfl)) k0 bel lt0) (trodAll_cons_mk (shut_int Try.underlying3 w1) (trodAll_cons_mk (Below.trod laidOut (by kernel_rfl) (of_decide_eq_true (by kernel_rfl)) k2 bel lt2) (trodAll_cons_mk (Below.trod laidOut (by kernel_rfl) (of_decide_eq_true (by kernel_rfl)) k3 bel lt3) trodAll_mk0)))), rfl, bel.frame _, fun h => by cases h⟩

theorem over : Rows.storeTellsRow.holds Try.pinned (OpenSpec.ofChange Rows.storeTellsSpec) :=
  OpenClaim.holds_of_wide 16 Try.f16 rfl rfl rfl rfl rfl rfl rfl ⟨rfl, rfl, rfl, rfl, rfl⟩ rfl rfl rfl rfl rfl (by kernel_rfl) Try.func16 (by kernel_rfl)
    (of_decide_eq_true (by kernel_rfl)) (by unfold Func.isWrapper; first | (rw [if_pos (by decide +kernel)]; kernel_rfl) | (rw [if_neg (by decide +kernel)]; exact ⟨rfl, rfl⟩))
    (fun os started H enc _ => lifted os started H enc)

/-- ████ THE STATEMENT ████ -/
theorem proved : Rows.StoreTellsSaid := over
end Go.Proofs.Ytpfopbkaddjjcaa.storeTells
