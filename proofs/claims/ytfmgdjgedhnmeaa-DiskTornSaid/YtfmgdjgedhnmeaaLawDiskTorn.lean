/- Whatever the three pools and the number: rookerylaw.DiskTorn returns true, and its arguments read as before. No condition. -/
import Derived.Test.YtfmgdjgedhnmeaaRows
import Derived.Test.YtfmgdjgedhnmeaaOpenX
import Derived.Test.YtfmgdjgedhnmeaaPoolRow
import Derived.Test.YtfmgdjgedhnmeaaDiskT
import Derived.SizedLaws
import Derived.WalkKit
import Derived.ProofKit
import Derived.OpenShut
import Derived.ShutString
import Derived.ChangeOld
import Derived.Below
namespace Go.Proofs.Ytfmgdjgedhnmeaa.diskTorn
open Go.ChangeShapes Go.WideShapes Go.ChangeAt Go.RowKit
open Go.ChangeMaps (open_string shut_string)
set_option linter.unusedVariables false

theorem own : ownKnob Try.prog.godebug = none := by kernel_rfl
theorem laidOut : laidOutB Try.prog = true := by kernel_rfl

theorem walk (w : World) (so0 : Option Addr) (sn0 : Nat) (sc0 : Nat) (ao0 : Option Addr) (n0 : Nat) (cap0 : Nat) (p0x : PoolV) (so1 : Option Addr) (sn1 : Nat) (sc1 : Nat) (ao1 : Option Addr) (n1 : Nat) (cap1 : Nat) (p1x : PoolV) (so2 : Option Addr) (sn2 : Nat) (sc2 : Nat) (ao2 : Option Addr) (n2 : Nat) (cap2 : Nat) (p2x : PoolV) (x3 : Int) (hp0 : PoolIn w so0 sn0 sc0 ao0 n0 cap0 p0x) (hwp0 : WfP p0x) (hp1 : PoolIn w so1 sn1 sc1 ao1 n1 cap1 p1x) (hwp1 : WfP p1x) (hp2 : PoolIn w so2 sn2 sc2 ao2 n2 cap2 p2x) (hwp2 : WfP p2x) (hx3 : I64 x3) :
    Calls Try.prog 7 #[.agg #[.slice so0 sn0 sc0, .slice ao0 n0 cap0], .agg #[.slice so1 sn1 sc1, .slice ao1 n1 cap1], .agg #[.slice so2 sn2 sc2, .slice ao2 n2 cap2], .int .i64 x3] w fun e w' => e = .returned (.bool true) ∧ Below w.heap.size w w' := by
  exact law_torn w so0 ao0 so1 ao1 so2 ao2 sn0 sc0 n0 cap0 sn1 sc1 n1 cap1 sn2 sc2 n2 cap2 p0x p1x p2x x3 hp0 hwp0 hp1 hwp1 hp2 hwp2 hx3

set_option maxRecDepth 100000 in
set_option maxHeartbeats 4000000 in
theorem lifted (os : Os) (started : os.Started) (H : Type) (enc : TypeId × Value → H) :
    ReturnsInHanded {} Try.checked os 7 .any (Rows.diskTornSpec.pre6 enc Try.prog Try.f7 Rows.diskTornRow.domain false) (Rows.diskTornSpec.post enc Try.prog Try.f7 false true false false) := by
  refine returnsInHanded_of_change_sized (C := Try.checked) own started (by kernel_rfl) Try.func7
    (ChangeSpec.witness6 (enc := enc) (C := Try.checked) false ⟨#[], #[.agg #[.slice none 0 0, .slice none 0 0], .agg #[.slice none 0 0, .slice none 0 0], .agg #[.slice none 0 0, .slice none 0 0], .int .i64 0], []⟩ 8 (by kernel_rfl) (by kernel_rfl) (by kernel_rfl) (by kernel_rfl)) ?_
  intro W base args ds gs before hval0 hW hcnd hwt _
  have hval : ∀ (j : Nat) t v, Try.f7.params[j]? = some t → args[j]? = some v → Value.okWide Try.prog W .any base t v := hval0
  have hW' := hW
  obtain ⟨p, q, hA0, hV, rfl, hfz, hnd⟩ := hW
  have hA : DataW.TrodAll enc Try.prog W 0 (fun _ => true) true Try.f7.params.toList args.toList ds p := hA0
  rw [Try.params7] at hA hval hwt
  obtain ⟨v0, vs0, d0, ds0, p0, q0, hargs, rfl, rfl, h0, tr0⟩ := trodAll_cons hA
  obtain ⟨v1, vs1, d1, ds1, p1, q1, rfl, rfl, rfl, h1, tr1⟩ := trodAll_cons tr0
  obtain ⟨v2, vs2, d2, ds2, p2, q2, rfl, rfl, rfl, h2, tr2⟩ := trodAll_cons tr1
  obtain ⟨v3, vs3, d3, ds3, p3, q3, rfl, rfl, rfl, h3, tr3⟩ := trodAll_cons tr2
  obtain ⟨rfl, rfl, rfl⟩ := trodAll_nil tr3
  obtain rfl : args = #[v0, v1, v2, v3] := by cases args; simp_all
  obtain ⟨rfl, rfl⟩ := trodVars_none hV
  have hwe := fun n hn => List.all_eq_true.1 hwt n hn
  have k0 := h0
  have lt0 : ∀ x ∈ p0, x.block < W.heap.size := by obtain ⟨m, hm⟩ := k0; exact DataW.trod_lt m _ _ _ hm
  have k1 := h1
  have lt1 : ∀ x ∈ p1, x.block < W.heap.size := by obtain ⟨m, hm⟩ := k1; exact DataW.trod_lt m _ _ _ hm
  have k2 := h2
  have lt2 : ∀ x ∈ p2, x.block < W.heap.size := by obtain ⟨m, hm⟩ := k2; exact DataW.trod_lt m _ _ _ hm
  obtain ⟨so0, sn0, sc0, ao0, n0, cap0, p0x, rfl, hp0, hwp0⟩ := open_pool (hval 0 49 v0 rfl rfl) h0 (fun n hn => by simpa using hwe n (DataW.weights_mem_each (j := 0) (t := 49) (d := d0) rfl rfl n hn))
  obtain ⟨so1, sn1, sc1, ao1, n1, cap1, p1x, rfl, hp1, hwp1⟩ := open_pool (hval 1 49 v1 rfl rfl) h1 (fun n hn => by simpa using hwe n (DataW.weights_mem_each (j := 1) (t := 49) (d := d1) rfl rfl n hn))
  obtain ⟨so2, sn2, sc2, ao2, n2, cap2, p2x, rfl, hp2, hwp2⟩ := open_pool (hval 2 49 v2 rfl rfl) h2 (fun n hn => by simpa using hwe n (DataW.weights_mem_each (j := 2) (t := 49) (d := d2) rfl rfl n hn))
  obtain ⟨x3, rfl, rfl, rfl, w3⟩ := open_int Try.underlying3 (hval 3 3 v3 rfl rfl) h3
  clear hA0 hval0
  refine (walk W so0 sn0 sc0 ao0 n0 cap0 p0x so1 sn1 sc1 ao1 n1 cap1 p1x so2 sn2 sc2 ao2 n2 cap2 p2x x3 hp0 hwp0 hp1 hwp1 hp2 hwp2 (i64_of w3)).mono fun e W' ⟨he, bel⟩ => ?_
  subst he
  exact ⟨_, rfl, _, _, _, [], _, [], hW', trodAll_mk1 (shut_bool Try.underlying4 _), (trodAll_cons_mk (Below.trod laidOut (by kernel_rfl) (of_decide_eq_true (by kernel_rfl)) k0 bel lt0) (trodAll_cons_mk (Below.trod laidOut (by kernel_rfl) (of_decide_eq_true (by kernel_rfl)) k1 bel lt1) (trodAll_cons_mk (Below.trod laidOut (by kernel_rfl) (of_decide_eq_true (by kernel_rfl)) k2 bel lt2) (trodAll_cons_mk (shut_int Try.underlying3 w3) trodAll_mk0)))), rfl, bel.frame _, fun h => by cases h⟩

theorem over : Rows.diskTornRow.holds Try.pinned (OpenSpec.ofChange Rows.diskTornSpec) :=
  OpenClaim.holds_of_wide 7 Try.f7 rfl rfl rfl rfl rfl rfl rfl ⟨rfl, rfl, rfl, rfl, rfl⟩ rfl rfl rfl rfl rfl (by kernel_rfl) Try.func7 (by kernel_rfl)
    (of_decide_eq_true (by kernel_rfl)) (by unfold Func.isWrapper; first | (rw [if_pos (by decide +kernel)]; kernel_rfl) | (rw [if_neg (by decide +kernel)]; exact ⟨rfl, rfl⟩))
    (fun os started H enc _ => lifted os started H enc)

/-- ████ THE STATEMENT ████ -/
theorem proved : Rows.DiskTornSaid := over
end Go.Proofs.Ytfmgdjgedhnmeaa.diskTorn
