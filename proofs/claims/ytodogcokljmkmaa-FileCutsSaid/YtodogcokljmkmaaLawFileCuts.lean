/- Whatever the store, the key, the file and the sizes: rookerylaw.FileCuts returns true, and its arguments read as before. No condition. -/
import Derived.Test.YtodogcokljmkmaaRows
import Derived.Test.YtodogcokljmkmaaOpen
import Derived.Test.YtodogcokljmkmaaFileCuts
import Derived.SizedLaws
import Derived.WalkKit
import Derived.ProofKit
import Derived.OpenShut
import Derived.ShutString
import Derived.ChangeOld
import Derived.Below
namespace Go.Proofs.Ytodogcokljmkmaa.fileCuts
open Go.ChangeShapes Go.WideShapes Go.ChangeAt Go.RowKit
open Go.ChangeMaps (open_string shut_string)
set_option linter.unusedVariables false

theorem own : ownKnob Try.prog.godebug = none := by kernel_rfl
theorem laidOut : laidOutB Try.prog = true := by kernel_rfl

theorem walk (w : World) (a0 : Option Addr) (n0 : Nat) (c0 : Nat) (s0 : List Blk) (x1 : Int) (r2 : Int) (z2 : Int) (x3 : Int) (x4 : Int) (hn0 : s0.length = n0) (h410 : n0 ≤ 2199023255552) (hs0 : StoRow w a0 s0) (hwf0 : WfS s0) (hc0 : Capd a0 n0 c0) (hx1 : I64 x1) (hr2 : I64 r2) (hz2 : I64 z2) (hx3 : I64 x3) (hx4 : I64 x4) :
    Calls Try.prog 3 #[.agg #[.slice a0 n0 c0], .int .i64 x1, .agg #[.int .i64 r2, .int .i64 z2], .int .i64 x3, .int .i64 x4] w fun e w' => e = .returned (.bool true) ∧ Below w.heap.size w w' := by
  exact law_cuts w a0 n0 c0 s0 x1 r2 z2 x3 x4 hn0 h410 hs0 hwf0 hc0 hz2 hx3 hx4

set_option maxRecDepth 100000 in
set_option maxHeartbeats 4000000 in
theorem lifted (os : Os) (started : os.Started) (H : Type) (enc : TypeId × Value → H) :
    ReturnsInHanded {} Try.checked os 3 .any (Rows.fileCutsSpec.pre6 enc Try.prog Try.f3 Rows.fileCutsRow.domain false) (Rows.fileCutsSpec.post enc Try.prog Try.f3 false true false false) := by
  refine returnsInHanded_of_change_sized (C := Try.checked) own started (by kernel_rfl) Try.func3
    (ChangeSpec.witness6 (enc := enc) (C := Try.checked) false ⟨#[], #[.agg #[.slice none 0 0], .int .i64 0, .agg #[.int .i64 0, .int .i64 0], .int .i64 0, .int .i64 0], []⟩ 8 (by kernel_rfl) (by kernel_rfl) (by kernel_rfl) (by kernel_rfl)) ?_
  intro W base args ds gs before hval0 hW hcnd hwt _
  have hval : ∀ (j : Nat) t v, Try.f3.params[j]? = some t → args[j]? = some v → Value.okWide Try.prog W .any base t v := hval0
  have hW' := hW
  obtain ⟨p, q, hA0, hV, rfl, hfz, hnd⟩ := hW
  have hA : DataW.TrodAll enc Try.prog W 0 (fun _ => true) true Try.f3.params.toList args.toList ds p := hA0
  rw [Try.params3] at hA hval hwt
  obtain ⟨v0, vs0, d0, ds0, p0, q0, hargs, rfl, rfl, h0, tr0⟩ := trodAll_cons hA
  obtain ⟨v1, vs1, d1, ds1, p1, q1, rfl, rfl, rfl, h1, tr1⟩ := trodAll_cons tr0
  obtain ⟨v2, vs2, d2, ds2, p2, q2, rfl, rfl, rfl, h2, tr2⟩ := trodAll_cons tr1
  obtain ⟨v3, vs3, d3, ds3, p3, q3, rfl, rfl, rfl, h3, tr3⟩ := trodAll_cons tr2
  obtain ⟨v4, vs4, d4, ds4, p4, q4, rfl, rfl, rfl, h4, tr4⟩ := trodAll_cons tr3
  obtain ⟨rfl, rfl, rfl⟩ := trodAll_nil tr4
  obtain rfl : args = #[v0, v1, v2, v3, v4] := by cases args; simp_all
  obtain ⟨rfl, rfl⟩ := trodVars_none hV
  have hwe := fun n hn => List.all_eq_true.1 hwt n hn
  have k0 := h0
  have lt0 : ∀ x ∈ p0, x.block < W.heap.size := by obtain ⟨m, hm⟩ := k0; exact DataW.trod_lt m _ _ _ hm
  have k2 := h2
  have lt2 : ∀ x ∈ p2, x.block < W.heap.size := by obtain ⟨m, hm⟩ := k2; exact DataW.trod_lt m _ _ _ hm
  obtain ⟨a0, n0, c0, s0, rfl, hn0, hs0, hwf0, hc0, h410⟩ := open_store (hval 0 24 v0 rfl rfl) h0 (fun n hn => by simpa using hwe n (DataW.weights_mem_each (j := 0) (t := 24) (d := d0) rfl rfl n hn))
  obtain ⟨r2, z2, rfl, hr2, hz2⟩ := open_file (hval 2 26 v2 rfl rfl) h2
  obtain ⟨x1, rfl, rfl, rfl, w1⟩ := open_int Try.underlying3 (hval 1 3 v1 rfl rfl) h1
  obtain ⟨x3, rfl, rfl, rfl, w3⟩ := open_int Try.underlying3 (hval 3 3 v3 rfl rfl) h3
  obtain ⟨x4, rfl, rfl, rfl, w4⟩ := open_int Try.underlying3 (hval 4 3 v4 rfl rfl) h4
  clear hA0 hval0
  refine (walk W a0 n0 c0 s0 x1 r2 z2 x3 x4 hn0 h410 hs0 hwf0 hc0 (i64_of w1) hr2 hz2 (i64_of w3) (i64_of w4)).mono fun e W' ⟨he, bel⟩ => ?_
  subst he
  exact ⟨_, rfl, _, _, _, [], _, [], hW', trodAll_mk1 (shut_bool Try.underlying4 _), (trodAll_cons_mk (Below.trod laidOut (by kernel_rfl) (of_decide_eq_true (by kernel_rfl)) k0 bel lt0) (trodAll_cons_mk (shut_int Try.underlying3 w1) (trodAll_cons_mk (Below.trod laidOut (by kernel_rfl) (of_decide_eq_true (by kernel_rfl)) k2 bel lt2) (trodAll_cons_mk (shut_int Try.underlying3 w3) (trodAll_cons_mk (shut_int Try.underlying3 w4) trodAll_mk0))))), rfl, bel.frame _, fun h => by cases h⟩

theorem over : Rows.fileCutsRow.holds Try.pinned (OpenSpec.ofChange Rows.fileCutsSpec) :=
  OpenClaim.holds_of_wide 3 Try.f3 rfl rfl rfl rfl rfl rfl rfl ⟨rfl, rfl, rfl, rfl, rfl⟩ rfl rfl rfl rfl rfl (by kernel_rfl) Try.func3 (by kernel_rfl)
    (of_decide_eq_true (by kernel_rfl)) (by unfold Func.isWrapper; first | (rw [if_pos (by decide +kernel)]; kernel_rfl) | (rw [if_neg (by decide +kernel)]; exact ⟨rfl, rfl⟩))
    (fun os started H enc _ => lifted os started H enc)

/-- ████ THE STATEMENT ████ -/
theorem proved : Rows.FileCutsSaid := over
end Go.Proofs.Ytodogcokljmkmaa.fileCuts
