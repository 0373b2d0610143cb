/- Whatever the store, the key, the file, the places and the bytes: rookerylaw.FileReads returns true, and its arguments read as before. No condition. -/
import Derived.Test.YtodogcokljmkmaaRows
import Derived.Test.YtodogcokljmkmaaOpen
import Derived.Test.YtodogcokljmkmaaFileReads
import Derived.SizedLaws
import Derived.WalkKit
import Derived.ProofKit
import Derived.OpenShut
import Derived.ShutString
import Derived.ChangeOld
import Derived.Below
namespace Go.Proofs.Ytodogcokljmkmaa.fileReads
open Go.ChangeShapes Go.WideShapes Go.ChangeAt Go.RowKit
open Go.ChangeMaps (open_string shut_string)
set_option linter.unusedVariables false

theorem own : ownKnob Try.prog.godebug = none := by kernel_rfl
theorem laidOut : laidOutB Try.prog = true := by kernel_rfl

theorem walk (w : World) (a0 : Option Addr) (n0 : Nat) (c0 : Nat) (s0 : List Blk) (x1 : Int) (r2 : Int) (z2 : Int) (x3 : Int) (x4 : Int) (a5 : Option Addr) (n5 : Nat) (c5 : Nat) (z5 : List Int) (a6 : Option Addr) (n6 : Nat) (c6 : Nat) (z6 : List Int) (hn0 : s0.length = n0) (h410 : n0 ≤ 2199023255552) (hs0 : StoRow w a0 s0) (hwf0 : WfS s0) (hc0 : Capd a0 n0 c0) (hx1 : I64 x1) (hr2 : I64 r2) (hz2 : I64 z2) (hx3 : I64 x3) (hx4 : I64 x4) (hz5 : z5.length = n5) (hr5 : Row .u8 w a5 z5) (hw5 : Byt z5) (hb5 : n5 ≤ 140737488351232) (hc5 : Capd a5 n5 c5) (hz6 : z6.length = n6) (hr6 : Row .u8 w a6 z6) (hw6 : Byt z6) (hb6 : n6 ≤ 140737488351232) (hc6 : Capd a6 n6 c6) :
    Calls Try.prog 6 #[.agg #[.slice a0 n0 c0], .int .i64 x1, .agg #[.int .i64 r2, .int .i64 z2], .int .i64 x3, .int .i64 x4, .slice a5 n5 c5, .slice a6 n6 c6] w fun e w' => e = .returned (.bool true) ∧ Below w.heap.size w w' := by
  exact law_reads w a0 a5 a6 n0 c0 n5 c5 n6 c6 s0 x1 r2 z2 x3 x4 z5 z6 hn0 h410 hs0 hwf0 hc0 hz2 hz5 hr5 hw5 hb5 hc5 hz6 hr6 hw6 hb6 hc6

set_option maxRecDepth 100000 in
set_option maxHeartbeats 4000000 in
theorem lifted (os : Os) (started : os.Started) (H : Type) (enc : TypeId × Value → H) :
    ReturnsInHanded {} Try.checked os 6 .any (Rows.fileReadsSpec.pre6 enc Try.prog Try.f6 Rows.fileReadsRow.domain false) (Rows.fileReadsSpec.post enc Try.prog Try.f6 false true false false) := by
  refine returnsInHanded_of_change_sized (C := Try.checked) own started (by kernel_rfl) Try.func6
    (ChangeSpec.witness6 (enc := enc) (C := Try.checked) false ⟨#[], #[.agg #[.slice none 0 0], .int .i64 0, .agg #[.int .i64 0, .int .i64 0], .int .i64 0, .int .i64 0, .slice none 0 0, .slice none 0 0], []⟩ 8 (by kernel_rfl) (by kernel_rfl) (by kernel_rfl) (by kernel_rfl)) ?_
  intro W base args ds gs before hval0 hW hcnd hwt _
  have hval : ∀ (j : Nat) t v, Try.f6.params[j]? = some t → args[j]? = some v → Value.okWide Try.prog W .any base t v := hval0
  have hW' := hW
  obtain ⟨p, q, hA0, hV, rfl, hfz, hnd⟩ := hW
  have hA : DataW.TrodAll enc Try.prog W 0 (fun _ => true) true Try.f6.params.toList args.toList ds p := hA0
  rw [Try.params6] at hA hval hwt
  obtain ⟨v0, vs0, d0, ds0, p0, q0, hargs, rfl, rfl, h0, tr0⟩ := trodAll_cons hA
  obtain ⟨v1, vs1, d1, ds1, p1, q1, rfl, rfl, rfl, h1, tr1⟩ := trodAll_cons tr0
  obtain ⟨v2, vs2, d2, ds2, p2, q2, rfl, rfl, rfl, h2, tr2⟩ := trodAll_cons tr1
  obtain ⟨v3, vs3, d3, ds3, p3, q3, rfl, rfl, rfl, h3, tr3⟩ := trodAll_cons tr2
  obtain ⟨v4, vs4, d4, ds4, p4, q4, rfl, rfl, rfl, h4, tr4⟩ := trodAll_cons tr3
  obtain ⟨v5, vs5, d5, ds5, p5, q5, rfl, rfl, rfl, h5, tr5⟩ := trodAll_cons tr4
  obtain ⟨v6, vs6, d6, ds6, p6, q6, rfl, rfl, rfl, h6, tr6⟩ := trodAll_cons tr5
  obtain ⟨rfl, rfl, rfl⟩ := trodAll_nil tr6
  obtain rfl : args = #[v0, v1, v2, v3, v4, v5, v6] := by cases args; simp_all
  obtain ⟨rfl, rfl⟩ := trodVars_none hV
  have hwe := fun n hn => List.all_eq_true.1 hwt n hn
  have k0 := h0
  have lt0 : ∀ x ∈ p0, x.block < W.heap.size := by obtain ⟨m, hm⟩ := k0; exact DataW.trod_lt m _ _ _ hm
  have k2 := h2
  have lt2 : ∀ x ∈ p2, x.block < W.heap.size := by obtain ⟨m, hm⟩ := k2; exact DataW.trod_lt m _ _ _ hm
  have k5 := h5
  have lt5 : ∀ x ∈ p5, x.block < W.heap.size := by obtain ⟨m, hm⟩ := k5; exact DataW.trod_lt m _ _ _ hm
  have k6 := h6
  have lt6 : ∀ x ∈ p6, x.block < W.heap.size := by obtain ⟨m, hm⟩ := k6; exact DataW.trod_lt m _ _ _ hm
  obtain ⟨a0, n0, c0, s0, rfl, hn0, hs0, hwf0, hc0, h410⟩ := open_store (hval 0 24 v0 rfl rfl) h0 (fun n hn => by simpa using hwe n (DataW.weights_mem_each (j := 0) (t := 24) (d := d0) rfl rfl n hn))
  obtain ⟨r2, z2, rfl, hr2, hz2⟩ := open_file (hval 2 26 v2 rfl rfl) h2
  obtain ⟨a5, n5, c5, rfl⟩ := okWide_slice Try.underlying32 (hval 5 32 v5 rfl rfl)
  obtain ⟨z5, hz5, hr5, hw5, hb5, hc5⟩ : ∃ zs : List Int, zs.length = n5 ∧ Row .u8 W a5 zs ∧ (Byt zs) ∧ n5 ≤ 140737488351232 ∧ Capd a5 n5 c5 := by
    obtain ⟨fuel, hf⟩ := h5
    obtain ⟨zs, hsl, hwz, hb⟩ := open_sl (v := .slice a5 n5 c5) Try.underlying32 Try.underlying5 (by kernel_rfl) (by simpa [Value.cells] using hf)
    obtain ⟨h1, h2, h3⟩ := hsl.at
    have hb2 := hb (fun n hn => by simpa using hwe n (DataW.weights_mem_each (j := 5) (t := 32) (d := d5) rfl rfl n hn))
    have e8 : Try.prog.bytesOf 5 = 1 := by kernel_rfl
    rw [e8] at hb2
    have hR : reachBytes = 140737488351232 := rfl
    exact ⟨zs, h1.symm, h2, byt_of hwz, by omega, h1 ▸ h3⟩
  obtain ⟨a6, n6, c6, rfl⟩ := okWide_slice Try.underlying32 (hval 6 32 v6 rfl rfl)
  obtain ⟨z6, hz6, hr6, hw6, hb6, hc6⟩ : ∃ zs : List Int, zs.length = n6 ∧ Row .u8 W a6 zs ∧ (Byt zs) ∧ n6 ≤ 140737488351232 ∧ Capd a6 n6 c6 := by
    obtain ⟨fuel, hf⟩ := h6
    obtain ⟨zs, hsl, hwz, hb⟩ := open_sl (v := .slice a6 n6 c6) Try.underlying32 Try.underlying5 (by kernel_rfl) (by simpa [Value.cells] using hf)
    obtain ⟨h1, h2, h3⟩ := hsl.at
    have hb2 := hb (fun n hn => by simpa using hwe n (DataW.weights_mem_each (j := 6) (t := 32) (d := d6) rfl rfl n hn))
    have e8 : Try.prog.bytesOf 5 = 1 := by kernel_rfl
    rw [e8] at hb2
    have hR : reachBytes = 140737488351232 := rfl
    exact ⟨zs, h1.symm, h2, byt_of hwz, by omega, h1 ▸ h3⟩
  obtain ⟨x1, rfl, rfl, rfl, w1⟩ := open_int Try.underlying3 (hval 1 3 v1 rfl rfl) h1
  obtain ⟨x3, rfl, rfl, rfl, w3⟩ := open_int Try.underlying3 (hval 3 3 v3 rfl rfl) h3
  obtain ⟨x4, rfl, rfl, rfl, w4⟩ := open_int Try.underlying3 (hval 4 3 v4 rfl rfl) h4
  clear hA0 hval0
  refine (walk W a0 n0 c0 s0 x1 r2 z2 x3 x4 a5 n5 c5 z5 a6 n6 c6 z6 hn0 h410 hs0 hwf0 hc0 (i64_of w1) hr2 hz2 (i64_of w3) (i64_of w4) hz5 hr5 hw5 hb5 hc5 hz6 hr6 hw6 hb6 hc6).mono fun e W' ⟨he, bel⟩ => ?_
  subst he
  exact ⟨_, rfl, _, _, _, [], _, [], hW', trodAll_mk1 (shut_bool Try.underlying4 _), (trodAll_cons_mk (Below.trod laidOut (by kernel_rfl) (of_decide_eq_true (by kernel_rfl)) k0 bel lt0) (trodAll_cons_mk (shut_int Try.underlying3 w1) (trodAll_cons_mk (Below.trod laidOut (by kernel_rfl) (of_decide_eq_true (by kernel_rfl)) k2 bel lt2) (trodAll_cons_mk (shut_int Try.underlying3 w3) (trodAll_cons_mk (shut_int Try.underlying3 w4) (trodAll_cons_mk (Below.trod laidOut (by kernel_rfl) (of_decide_eq_true (by kernel_rfl)) k5 bel lt5) (trodAll_cons_mk (Below.trod laidOut (by kernel_rfl) (of_decide_eq_true (by kernel_rfl)) k6 bel lt6) trodAll_mk0))))))), rfl, bel.frame _, fun h => by cases h⟩

theorem over : Rows.fileReadsRow.holds Try.pinned (OpenSpec.ofChange Rows.fileReadsSpec) :=
  OpenClaim.holds_of_wide 6 Try.f6 rfl rfl rfl rfl rfl rfl rfl ⟨rfl, rfl, rfl, rfl, rfl⟩ rfl rfl rfl rfl rfl (by kernel_rfl) Try.func6 (by kernel_rfl)
    (of_decide_eq_true (by kernel_rfl)) (by unfold Func.isWrapper; first | (rw [if_pos (by decide +kernel)]; kernel_rfl) | (rw [if_neg (by decide +kernel)]; exact ⟨rfl, rfl⟩))
    (fun os started H enc _ => lifted os started H enc)

/-- ████ THE STATEMENT ████ -/
theorem proved : Rows.FileReadsSaid := over
end Go.Proofs.Ytodogcokljmkmaa.fileReads
