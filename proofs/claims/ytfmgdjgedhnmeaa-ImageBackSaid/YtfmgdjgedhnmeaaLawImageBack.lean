/- Whatever the pool, the bytes and the byte: rookerylaw.ImageBack returns true, and its arguments read as before. No condition. -/
import Derived.Test.YtfmgdjgedhnmeaaRows
import Derived.Test.YtfmgdjgedhnmeaaOpenX
import Derived.Test.YtfmgdjgedhnmeaaPoolRow
import Derived.Test.YtfmgdjgedhnmeaaImBack
import Derived.SizedLaws
import Derived.WalkKit
import Derived.ProofKit
import Derived.OpenShut
import Derived.ShutString
import Derived.ChangeOld
import Derived.Below
namespace Go.Proofs.Ytfmgdjgedhnmeaa.imageBack
open Go.ChangeShapes Go.WideShapes Go.ChangeAt Go.RowKit
open Go.ChangeMaps (open_string shut_string)
set_option linter.unusedVariables false

theorem own : ownKnob Try.prog.godebug = none := by kernel_rfl
theorem laidOut : laidOutB Try.prog = true := by kernel_rfl

theorem walk (w : World) (so0 : Option Addr) (sn0 : Nat) (sc0 : Nat) (ao0 : Option Addr) (n0 : Nat) (cap0 : Nat) (p0x : PoolV) (a1 : Option Addr) (n1 : Nat) (c1 : Nat) (z1 : List Int) (x2 : Int) (hp0 : PoolIn w so0 sn0 sc0 ao0 n0 cap0 p0x) (hwp0 : WfP p0x) (hz1 : z1.length = n1) (hr1 : Row .u8 w a1 z1) (hw1 : Byt z1) (hb1 : n1 ≤ 140737488351232) (hc1 : Capd a1 n1 c1) (hx2 : 0 ≤ x2 ∧ x2 ≤ 255) :
    Calls Try.prog 6 #[.agg #[.slice so0 sn0 sc0, .slice ao0 n0 cap0], .slice a1 n1 c1, .int .u8 x2] w fun e w' => e = .returned (.bool true) ∧ Below w.heap.size w w' := by
  exact law_imBack w so0 ao0 a1 sn0 sc0 n0 cap0 n1 c1 p0x z1 x2 hp0 hwp0 hz1 hr1 hw1 hc1 hx2

set_option maxRecDepth 100000 in
set_option maxHeartbeats 4000000 in
theorem lifted (os : Os) (started : os.Started) (H : Type) (enc : TypeId × Value → H) :
    ReturnsInHanded {} Try.checked os 6 .any (Rows.imageBackSpec.pre6 enc Try.prog Try.f6 Rows.imageBackRow.domain false) (Rows.imageBackSpec.post enc Try.prog Try.f6 false true false false) := by
  refine returnsInHanded_of_change_sized (C := Try.checked) own started (by kernel_rfl) Try.func6
    (ChangeSpec.witness6 (enc := enc) (C := Try.checked) false ⟨#[], #[.agg #[.slice none 0 0, .slice none 0 0], .slice none 0 0, .int .u8 0], []⟩ 8 (by kernel_rfl) (by kernel_rfl) (by kernel_rfl) (by kernel_rfl)) ?_
  intro W base args ds gs before hval0 hW hcnd hwt _
  have hval : ∀ (j : Nat) t v, Try.f6.params[j]? = some t → args[j]? = some v → Value.okWide Try.prog W .any base t v := hval0
  have hW' := hW
  obtain ⟨p, q, hA0, hV, rfl, hfz, hnd⟩ := hW
  have hA : DataW.TrodAll enc Try.prog W 0 (fun _ => true) true Try.f6.params.toList args.toList ds p := hA0
  rw [Try.params6] at hA hval hwt
  obtain ⟨v0, vs0, d0, ds0, p0, q0, hargs, rfl, rfl, h0, tr0⟩ := trodAll_cons hA
  obtain ⟨v1, vs1, d1, ds1, p1, q1, rfl, rfl, rfl, h1, tr1⟩ := trodAll_cons tr0
  obtain ⟨v2, vs2, d2, ds2, p2, q2, rfl, rfl, rfl, h2, tr2⟩ := trodAll_cons tr1
  obtain ⟨rfl, rfl, rfl⟩ := trodAll_nil tr2
  obtain rfl : args = #[v0, v1, v2] := by cases args; simp_all
  obtain ⟨rfl, rfl⟩ := trodVars_none hV
  have hwe := fun n hn => List.all_eq_true.1 hwt n hn
  have k0 := h0
  have lt0 : ∀ x ∈ p0, x.block < W.heap.size := by obtain ⟨m, hm⟩ := k0; exact DataW.trod_lt m _ _ _ hm
  have k1 := h1
  have lt1 : ∀ x ∈ p1, x.block < W.heap.size := by obtain ⟨m, hm⟩ := k1; exact DataW.trod_lt m _ _ _ hm
  obtain ⟨so0, sn0, sc0, ao0, n0, cap0, p0x, rfl, hp0, hwp0⟩ := open_pool (hval 0 49 v0 rfl rfl) h0 (fun n hn => by simpa using hwe n (DataW.weights_mem_each (j := 0) (t := 49) (d := d0) rfl rfl n hn))
  obtain ⟨a1, n1, c1, rfl⟩ := okWide_slice Try.underlying38 (hval 1 38 v1 rfl rfl)
  obtain ⟨z1, hz1, hr1, hw1, hb1, hc1⟩ : ∃ zs : List Int, zs.length = n1 ∧ Row .u8 W a1 zs ∧ (Byt zs) ∧ n1 ≤ 140737488351232 ∧ Capd a1 n1 c1 := by
    obtain ⟨fuel, hf⟩ := h1
    obtain ⟨zs, hsl, hwz, hb⟩ := open_sl (v := .slice a1 n1 c1) Try.underlying38 Try.underlying5 (by kernel_rfl) (by simpa [Value.cells] using hf)
    obtain ⟨h1, h2, h3⟩ := hsl.at
    have hb2 := hb (fun n hn => by simpa using hwe n (DataW.weights_mem_each (j := 1) (t := 38) (d := d1) rfl rfl n hn))
    have e8 : Try.prog.bytesOf 5 = 1 := by kernel_rfl
    rw [e8] at hb2
    have hR : reachBytes = 140737488351232 := rfl
    exact ⟨zs, h1.symm, h2, byt_of hwz, by omega, h1 ▸ h3⟩
  obtain ⟨x2, rfl, rfl, rfl, w2⟩ := open_int Try.underlying5 (hval 2 5 v2 rfl rfl) h2
  clear hA0 hval0
  refine (walk W so0 sn0 sc0 ao0 n0 cap0 p0x a1 n1 c1 z1 x2 hp0 hwp0 hz1 hr1 hw1 hb1 hc1 (u8_of w2)).mono fun e W' ⟨he, bel⟩ => ?_
  subst he
  exact ⟨_, rfl, _, _, _, [], _, [], hW', trodAll_mk1 (shut_bool Try.underlying4 _), (trodAll_cons_mk (Below.trod laidOut (by kernel_rfl) (of_decide_eq_true (by kernel_rfl)) k0 bel lt0) (trodAll_cons_mk (Below.trod laidOut (by kernel_rfl) (of_decide_eq_true (by kernel_rfl)) k1 bel lt1) (trodAll_cons_mk (shut_int Try.underlying5 w2) trodAll_mk0))), rfl, bel.frame _, fun h => by cases h⟩

theorem over : Rows.imageBackRow.holds Try.pinned (OpenSpec.ofChange Rows.imageBackSpec) :=
  OpenClaim.holds_of_wide 6 Try.f6 rfl rfl rfl rfl rfl rfl rfl ⟨rfl, rfl, rfl, rfl, rfl⟩ rfl rfl rfl rfl rfl (by kernel_rfl) Try.func6 (by kernel_rfl)
    (of_decide_eq_true (by kernel_rfl)) (by unfold Func.isWrapper; first | (rw [if_pos (by decide +kernel)]; kernel_rfl) | (rw [if_neg (by decide +kernel)]; exact ⟨rfl, rfl⟩))
    (fun os started H enc _ => lifted os started H enc)

/-- ████ THE STATEMENT ████ -/
theorem proved : Rows.ImageBackSaid := over
end Go.Proofs.Ytfmgdjgedhnmeaa.imageBack
