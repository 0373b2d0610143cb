/- A closed sentence: rookerylaw.Names returns true. No condition. -/
import Derived.Test.YtpfopbkaddjjcaaRows
import Derived.Test.YtpfopbkaddjjcaaSealLaw
import Derived.WalkKit
import Derived.ProofKit
import Derived.OpenShut
import Derived.ShutString
namespace Go.Proofs.Ytpfopbkaddjjcaa.names
open Go.ChangeShapes Go.WideShapes Go.ChangeAt Go.RowKit
open Go.ChangeMaps (open_string shut_string)
set_option linter.unusedVariables false      -- a walk need not use every 'w<i>' (that an integer argument fits its kind)

theorem own : ownKnob Try.prog.godebug = none := by kernel_rfl

/-! ### STEP 1: THE WALK: the Go text returns true. 'Below w.heap.size w w'': the world has at most new blocks (Derived/RowKit3.lean). Part the cases AHEAD of 'go_enter' where a test parts the walk; take each callee by a contract of your own. -/
theorem walk  (w : World) :
    Calls Try.prog 3 #[] w fun e w' => e = .returned (.bool true) ∧ Below w.heap.size w w' := by
  have hce : ∀ k : Nat, k < 11 → (w.alloc (.cells #[.int .i64 0, .int .i64 1, .int .i64 2, .int .i64 3, .int .i64 4, .int .i64 5, .int .i64 6, .int .i64 7, .int .i64 8, .int .i64 9, .int .i64 10] 22)).cell? ⟨w.heap.size, k, none⟩ = some (.int .i64 k) := by
    intro k hk
    rw [World.cell?_alloc_new]
    match k, hk with
    | 0, _ | 1, _ | 2, _ | 3, _ | 4, _ | 5, _ | 6, _ | 7, _ | 8, _ | 9, _ | 10, _ => rfl
    | k + 11, h => omega
  have hb0 : Below w.heap.size w (w.alloc (.cells #[.int .i64 0, .int .i64 1, .int .i64 2, .int .i64 3, .int .i64 4, .int .i64 5, .int .i64 6, .int .i64 7, .int .i64 8, .int .i64 9, .int .i64 10] 22)) := (Below.refl _ _).alloc (Nat.le_refl _) _
  go_enter Try.func3, Try.ntmps3
  go_wp2_with fail
  generalize w.alloc (Obj.cells #[.int .i64 0, .int .i64 1, .int .i64 2, .int .i64 3, .int .i64 4, .int .i64 5, .int .i64 6, .int .i64 7, .int .i64 8, .int .i64 9, .int .i64 10] 22) = W at *
  go_loop [9] (fun i => ∃ k : Nat, k ≤ 11 ∧ i = .int .i64 k) (fun i => 11 - (intOf i).toNat)
  case atStart => exact ⟨0, by omega, rfl⟩
  case round =>
    obtain ⟨k, hk, rfl⟩ := hrel
    by_cases hlt : k < 11
    · have hck := hce k hlt
      clear hce
      have hn : ((k : Int) != (k : Int)) = false := by simp
      go_wp2
      go_round
      case rel => exact ⟨k + 1, by omega, by go_num⟩
      case measure => simp [intOf]; omega
    · obtain rfl : k = 11 := by omega
      clear hce
      go_wp2_with fail
      refine (slices_equal_int _ _ _ _ _ _ [400, 4, 4, 3, 256, 8, 6, 3, 3, 3, 1000, 90, 20000, 60, 40, 1000000] [400, 4, 4, 3, 256, 8, 6, 3, 3, 3, 1000, 90, 20000, 60, 40, 1000000] _ rfl rfl ?_ ?_ (by decide)).mono ?_
      · exact (row_lit .i64 _ W [400, 4, 4, 3, 256, 8, 6, 3, 3, 3, 1000, 90, 20000, 60, 40, 1000000] _ rfl _ rfl).mono (((Below.refl _ _).alloc (Nat.le_refl _) _).alloc (by simp) _)
      · exact row_lit .i64 _ _ [400, 4, 4, 3, 256, 8, 6, 3, 3, 3, 1000, 90, 20000, 60, 40, 1000000] _ rfl _ (by simp)
      rintro e w1 ⟨rfl, hb1⟩
      go_wp2_with fail
      refine (slices_equal_int _ _ _ _ _ _ [1, 2, 3, 4, 5, 6, 7, 8, 9, 10, 11, 12, 13, 1, 2, 3] [1, 2, 3, 4, 5, 6, 7, 8, 9, 10, 11, 12, 13, 1, 2, 3] _ rfl rfl ?_ ?_ (by decide)).mono ?_
      · refine Row.mono (Row.mono (w := (W.alloc (.cells (icells .i64 [400, 4, 4, 3, 256, 8, 6, 3, 3, 3, 1000, 90, 20000, 60, 40, 1000000]) 3)).alloc (.cells (icells .i64 [1, 2, 3, 4, 5, 6, 7, 8, 9, 10, 11, 12, 13, 1, 2, 3]) 3)) ?_ ?_) ((Below.refl _ _).alloc (Nat.le_refl _) _)
        · exact row_lit .i64 _ _ [1, 2, 3, 4, 5, 6, 7, 8, 9, 10, 11, 12, 13, 1, 2, 3] _ rfl _ (by simp)
        · exact ((Below.refl _ _).alloc (Nat.le_refl _) _).trans (hb1.mono (by simp))
      · exact row_lit .i64 _ _ [1, 2, 3, 4, 5, 6, 7, 8, 9, 10, 11, 12, 13, 1, 2, 3] _ rfl _ rfl
      rintro e w2 ⟨rfl, hb2⟩
      go_wp2_with fail
      go_ret
      refine ⟨rfl, ?_⟩
      have h1 : Below W.heap.size W w1 := (((Below.refl _ _).alloc (Nat.le_refl _) _).alloc (by simp) _ |>.alloc (by simp; omega) _).trans (hb1.mono (by simp; omega))
      exact below_step (below_step hb0 h1) (below_step ((Below.refl _ _).alloc (Nat.le_refl _) _) hb2)

/-! ### THE ROW's STEP: WRITTEN OUT: LEAVE IT -/
set_option maxRecDepth 100000 in
theorem lifted (os : Os) (started : os.Started) (H : Type) (enc : TypeId × Value → H) :
    ReturnsInHanded {} Try.checked os 3 .any (Rows.namesSpec.pre6 enc Try.prog Try.f3 Rows.namesRow.domain false) (Rows.namesSpec.post enc Try.prog Try.f3 false true false false) := by
  refine returnsInHanded_of_change (C := Try.checked) own started (by kernel_rfl) Try.func3
    (ChangeSpec.witness6 (enc := enc) (C := Try.checked) false ⟨#[], #[], []⟩ 8 (by kernel_rfl) (by kernel_rfl) (by kernel_rfl) (by kernel_rfl)) ?_
  intro W base args ds gs before hval0 hW hcnd _
  have hval : ∀ (j : Nat) t v, Try.f3.params[j]? = some t → args[j]? = some v → Value.okWide Try.prog W .any base t v := hval0
  have hW' := hW
  obtain ⟨p, q, hA0, hV, rfl, hfz, hnd⟩ := hW
  have hA : DataW.TrodAll enc Try.prog W 0 (fun _ => true) true Try.f3.params.toList args.toList ds p := hA0
  rw [Try.params3] at hA hval
  obtain ⟨rfl, rfl, rfl⟩ := trodAll_none hA
  obtain ⟨rfl, rfl⟩ := trodVars_none hV
  clear hA0 hval0
  simp only [List.append_nil] at hW'
  refine (walk  W).mono fun e W' ⟨he, bel⟩ => ?_
  subst he
  exact ⟨_, rfl, _, _, _, [], [], [], hW', trodAll_mk1 (shut_bool Try.underlying4 _), rfl, rfl, bel.frame _, fun h => by cases h⟩

theorem over : Rows.namesRow.holds Try.pinned (OpenSpec.ofChange Rows.namesSpec) :=
  OpenClaim.holds_of_wide 3 Try.f3 rfl rfl rfl rfl rfl rfl rfl ⟨rfl, rfl, rfl, rfl, rfl⟩ rfl rfl rfl rfl rfl (by kernel_rfl) Try.func3 (by kernel_rfl)
    (of_decide_eq_true (by kernel_rfl)) (by unfold Func.isWrapper; first | (rw [if_pos (by decide +kernel)]; kernel_rfl) | (rw [if_neg (by decide +kernel)]; exact ⟨rfl, rfl⟩))
    (fun os started H enc _ => lifted os started H enc)

/-- ████ THE STATEMENT ████ -/
theorem proved : Rows.NamesSaid :=
  over
end Go.Proofs.Ytpfopbkaddjjcaa.names
