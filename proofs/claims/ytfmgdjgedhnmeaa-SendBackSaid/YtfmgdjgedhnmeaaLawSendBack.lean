/- Whatever the store, the key and the two sets: rookerylaw.SendBack returns true, and its arguments read as before. No condition. -/
import Derived.Test.YtfmgdjgedhnmeaaRows
import Derived.Test.YtfmgdjgedhnmeaaOpenX
import Derived.Test.YtfmgdjgedhnmeaaBack
import Derived.SizedLaws
import Derived.WalkKit
import Derived.ProofKit
import Derived.OpenShut
import Derived.ShutString
import Derived.ChangeOld
import Derived.Below
namespace Go.Proofs.Ytfmgdjgedhnmeaa.sendBack
open Go.ChangeShapes Go.WideShapes Go.ChangeAt Go.RowKit
open Go.ChangeMaps (open_string shut_string)
set_option linter.unusedVariables false

theorem own : ownKnob Try.prog.godebug = none := by kernel_rfl
theorem laidOut : laidOutB Try.prog = true := by kernel_rfl

theorem walk (w : World) (a0 : Option Addr) (n0 : Nat) (c0 : Nat) (s0 : List Blk) (x1 : Int) (fo2 : Option Addr) (fn2 : Nat) (fc2 : Nat) (so2 : Option Addr) (sn2 : Nat) (sc2 : Nat) (x2 : SetV) (fo3 : Option Addr) (fn3 : Nat) (fc3 : Nat) (so3 : Option Addr) (sn3 : Nat) (sc3 : Nat) (x3 : SetV) (hn0 : s0.length = n0) (h410 : n0 ≤ 2199023255552) (hs0 : StoRow w a0 s0) (hwf0 : WfS s0) (hc0 : Capd a0 n0 c0) (hx1 : I64 x1) (hx2 : SetIn w fo2 fn2 fc2 so2 sn2 sc2 x2) (hwx2 : WfX x2) (hfx2 : FitX x2) (hx3 : SetIn w fo3 fn3 fc3 so3 sn3 sc3 x3) (hwx3 : WfX x3) (hfx3 : FitX x3) :
    Calls Try.prog 4 #[.agg #[.slice a0 n0 c0], .int .i64 x1, .agg #[.string x2.nm, .slice fo2 fn2 fc2, .slice so2 sn2 sc2], .agg #[.string x3.nm, .slice fo3 fn3 fc3, .slice so3 sn3 sc3]] w fun e w' => e = .returned (.bool true) ∧ Below w.heap.size w w' := by
  exact law_back w a0 fo2 so2 fo3 so3 n0 c0 fn2 fc2 sn2 sc2 fn3 fc3 sn3 sc3 s0 x1 x2 x3 hn0 h410 hs0 hwf0 hc0 hx2 hwx2 hx3 hwx3

set_option maxRecDepth 100000 in
set_option maxHeartbeats 4000000 in
theorem lifted (os : Os) (started : os.Started) (H : Type) (enc : TypeId × Value → H) :
    ReturnsInHanded {} Try.checked os 4 .any (Rows.sendBackSpec.pre6 enc Try.prog Try.f4 Rows.sendBackRow.domain false) (Rows.sendBackSpec.post enc Try.prog Try.f4 false true false false) := by
  refine returnsInHanded_of_change_sized (C := Try.checked) own started (by kernel_rfl) Try.func4
    (ChangeSpec.witness6 (enc := enc) (C := Try.checked) false ⟨#[], #[.agg #[.slice none 0 0], .int .i64 0, .agg #[.string ⟨#[]⟩, .slice none 0 0, .slice none 0 0], .agg #[.string ⟨#[]⟩, .slice none 0 0, .slice none 0 0]], []⟩ 8 (by kernel_rfl) (by kernel_rfl) (by kernel_rfl) (by kernel_rfl)) ?_
  intro W base args ds gs before hval0 hW hcnd hwt _
  have hval : ∀ (j : Nat) t v, Try.f4.params[j]? = some t → args[j]? = some v → Value.okWide Try.prog W .any base t v := hval0
  have hW' := hW
  obtain ⟨p, q, hA0, hV, rfl, hfz, hnd⟩ := hW
  have hA : DataW.TrodAll enc Try.prog W 0 (fun _ => true) true Try.f4.params.toList args.toList ds p := hA0
  rw [Try.params4] at hA hval hwt
  obtain ⟨v0, vs0, d0, ds0, p0, q0, hargs, rfl, rfl, h0, tr0⟩ := trodAll_cons hA
  obtain ⟨v1, vs1, d1, ds1, p1, q1, rfl, rfl, rfl, h1, tr1⟩ := trodAll_cons tr0
  obtain ⟨v2, vs2, d2, ds2, p2, q2, rfl, rfl, rfl, h2, tr2⟩ := trodAll_cons tr1
  obtain ⟨v3, vs3, d3, ds3, p3, q3, rfl, rfl, rfl, h3, tr3⟩ := trodAll_cons tr2
  obtain ⟨rfl, rfl, rfl⟩ := trodAll_nil tr3
  obtain rfl : args = #[v0, v1, v2, v3] := by cases args; simp_all
  obtain ⟨rfl, rfl⟩ := trodVars_none hV
  have hwe := fun n hn => List.all_eq_true.1 hwt n hn
  have k0 := h0
  have lt0 : ∀ x ∈ p0, x.block < W.heap.size := by obtain ⟨m, hm⟩ := k0; exact DataW.trod_lt m _ _ _ hm
  have k2 := h2
  have lt2 : ∀ x ∈ p2, x.block < W.heap.size := by obtain ⟨m, hm⟩ := k2; exact DataW.trod_lt m _ _ _ hm
  have k3 := h3
  have lt3 : ∀ x ∈ p3, x.block < W.heap.size := by obtain ⟨m, hm⟩ := k3; exact DataW.trod_lt m _ _ _ hm
  obtain ⟨a0, n0, c0, s0, rfl, hn0, hs0, hwf0, hc0, h410⟩ := open_store (hval 0 24 v0 rfl rfl) h0 (fun n hn => by simpa using hwe n (DataW.weights_mem_each (j := 0) (t := 24) (d := d0) rfl rfl n hn))
  obtain ⟨fo2, fn2, fc2, so2, sn2, sc2, x2, rfl, hx2, hwx2, hfx2⟩ := open_set (hval 2 28 v2 rfl rfl) h2 (fun n hn => by simpa using hwe n (DataW.weights_mem_each (j := 2) (t := 28) (d := d2) rfl rfl n hn))
  obtain ⟨fo3, fn3, fc3, so3, sn3, sc3, x3, rfl, hx3, hwx3, hfx3⟩ := open_set (hval 3 28 v3 rfl rfl) h3 (fun n hn => by simpa using hwe n (DataW.weights_mem_each (j := 3) (t := 28) (d := d3) rfl rfl n hn))
  obtain ⟨x1, rfl, rfl, rfl, w1⟩ := open_int Try.underlying3 (hval 1 3 v1 rfl rfl) h1
  clear hA0 hval0
  refine (walk W a0 n0 c0 s0 x1 fo2 fn2 fc2 so2 sn2 sc2 x2 fo3 fn3 fc3 so3 sn3 sc3 x3 hn0 h410 hs0 hwf0 hc0 (i64_of w1) hx2 hwx2 hfx2 hx3 hwx3 hfx3).mono fun e W' ⟨he, bel⟩ => ?_
  subst he
  exact ⟨_, rfl, _, _, _, [], _, [], hW', trodAll_mk1 (shut_bool Try.underlying4 _), (trodAll_cons_mk (Below.trod laidOut (by kernel_rfl) (of_decide_eq_true (by kernel_rfl)) k0 bel lt0) (trodAll_cons_mk (shut_int Try.underlying3 w1) (trodAll_cons_mk (Below.trod laidOut (by kernel_rfl) (of_decide_eq_true (by kernel_rfl)) k2 bel lt2) (trodAll_cons_mk (Below.trod laidOut (by kernel_rfl) (of_decide_eq_true (by kernel_rfl)) k3 bel lt3) trodAll_mk0)))), rfl, bel.frame _, fun h => by cases h⟩

theorem over : Rows.sendBackRow.holds Try.pinned (OpenSpec.ofChange Rows.sendBackSpec) :=
  OpenClaim.holds_of_wide 4 Try.f4 rfl rfl rfl rfl rfl rfl rfl ⟨rfl, rfl, rfl, rfl, rfl⟩ rfl rfl rfl rfl rfl (by kernel_rfl) Try.func4 (by kernel_rfl)
    (of_decide_eq_true (by kernel_rfl)) (by unfold Func.isWrapper; first | (rw [if_pos (by decide +kernel)]; kernel_rfl) | (rw [if_neg (by decide +kernel)]; exact ⟨rfl, rfl⟩))
    (fun os started H enc _ => lifted os started H enc)

/-- ████ THE STATEMENT ████ -/
theorem proved : Rows.SendBackSaid := over
end Go.Proofs.Ytfmgdjgedhnmeaa.sendBack
