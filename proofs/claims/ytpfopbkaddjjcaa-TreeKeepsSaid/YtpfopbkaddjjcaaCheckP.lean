/- What Check says, in plain words. -/
import Derived.Test.YtpfopbkaddjjcaaOutOf
namespace Go.Proofs.Ytpfopbkaddjjcaa
open Go.RowKit
set_option linter.unusedVariables false

theorem formsE_app (s l1 l2 : List Blk) (h : formsE s l1 = 0) : formsE s (l1 ++ l2) = formsE s l2 := by
  induction l1 with
  | nil => rfl
  | cons x l ih =>
    simp only [formsE, List.cons_append] at *
    by_cases hx : formB s x = 0
    · rw [if_pos hx] at *
      exact ih h
    · rw [if_neg hx] at h
      exact absurd h hx

theorem formsE_step (s : List Blk) (k : Nat) (h : k < s.length) (h0 : formsE s (s.take k) = 0) (hx : formB s s[k] = 0) : formsE s (s.take (k + 1)) = 0 := by
  rw [List.take_succ_eq_append_getElem h, formsE_app _ _ _ h0]
  simp [formsE, hx]

theorem formsE_stop (s : List Blk) (k : Nat) (h : k < s.length) (h0 : formsE s (s.take k) = 0) (hx : formB s s[k] ≠ 0) : formsE s s = formB s s[k] := by
  have e : s = s.take k ++ s[k] :: s.drop (k + 1) := by rw [← List.drop_eq_getElem_cons h, List.take_append_drop]
  have e2 : formsE s s = formsE s (s.take k ++ s[k] :: s.drop (k + 1)) := by rw [← e]
  rw [e2, formsE_app _ _ _ h0]
  simp [formsE, hx]

theorem formsE_all (s l : List Blk) (h : formsE s l = 0) : ∀ x ∈ l, formB s x = 0 := by
  induction l with
  | nil => intro x hx; cases hx
  | cons y l ih =>
    simp only [formsE] at h
    by_cases hy : formB s y = 0
    · rw [if_pos hy] at h
      intro x hx
      rcases List.mem_cons.1 hx with rfl | hx
      · exact hy
      · exact ih h x hx
    · rw [if_neg hy] at h
      exact absurd h hy

/-- a block that is right by itself -/
theorem formB_zero (s : List Blk) (x : Blk) (h : formB s x = 0) :
    (x.refs = 0 ∧ x.level = 0 ∧ x.kids = [] ∧ x.bytes = []) ∨ (0 < x.refs ∧ x.refs ≤ 1000000 ∧ x.level = 0 ∧ x.kids = [] ∧ x.bytes.length = 4) ∨
    (0 < x.refs ∧ x.refs ≤ 1000000 ∧ 1 ≤ x.level ∧ x.level ≤ 3 ∧ x.kids.length = 4 ∧ x.bytes = [] ∧ x.kids.all (kidOk s x.level) = true ∧ x.kids.all (fun k => decide (k = 0)) = false) := by
  unfold formB formE at h
  split at h
  · split at h
    · omega
    · rename_i h1 h2
      refine .inl ⟨h1, by omega, List.eq_nil_of_length_eq_zero (by omega), List.eq_nil_of_length_eq_zero (by omega)⟩
  · split at h
    · omega
    · split at h
      · split at h
        · omega
        · exact .inr (.inl ⟨by omega, by omega, by omega, List.eq_nil_of_length_eq_zero (by omega), by omega⟩)
      · split at h
        · omega
        · split at h
          · omega
          · split at h
            · omega
            · rename_i h5 h6
              refine .inr (.inr ⟨by omega, by omega, by omega, by omega, by omega, List.eq_nil_of_length_eq_zero (by omega), by simpa using h5, by simpa using h6⟩)

theorem kidsIn_of (s : List Blk) (h : formsE s s = 0) : KidsIn s := by
  intro x hx
  rcases formB_zero s x (formsE_all s s h x hx) with ⟨_, _, hk, _⟩ | ⟨_, _, _, hk, _⟩ | ⟨_, _, _, _, hk, _, ha, _⟩
  · rw [hk]; exact ⟨by simp, fun k h => by cases h⟩
  · rw [hk]; exact ⟨by simp, fun k h => by cases h⟩
  · refine ⟨by omega, fun k hkm => ?_⟩
    have := List.all_eq_true.1 ha k hkm
    unfold kidOk at this
    simp only [Bool.or_eq_true, decide_eq_true_eq, Bool.and_eq_true] at this
    rcases this with h0 | ⟨h1, _⟩
    · exact .inl h0
    · obtain ⟨j, hj, rfl, _⟩ := there_in h1
      exact .inr ⟨by omega, by omega⟩

theorem refsIn_of (s : List Blk) (h : formsE s s = 0) : RefsIn s := by
  intro x hx
  rcases formB_zero s x (formsE_all s s h x hx) with ⟨h1, _⟩ | ⟨h1, h2, _⟩ | ⟨h1, h2, _⟩ <;> omega

theorem checkE_many (s : List Blk) (h : 400 < s.length) : checkE s = 2 := by unfold checkE; rw [if_pos h]
theorem checkE_form (s : List Blk) (h : ¬ 400 < s.length) (h1 : formsE s s ≠ 0) : checkE s = formsE s s := by unfold checkE; rw [if_neg h, if_pos h1]
theorem checkE_tail (s : List Blk) (h : ¬ 400 < s.length) (h1 : formsE s s = 0) : checkE s = if (outL s).any (fun n => decide (n < 0)) then 7 else 0 := by unfold checkE; rw [if_neg h, if_neg (by simp [h1])]

theorem outL_length (s : List Blk) : (outL s).length = s.length := by simp [outL]
theorem belowL_length (s : List Blk) : (belowL s).length = s.length := by simp [belowL]
theorem outL_below (s : List Blk) (i : Nat) (h : i < s.length) (h1 : i < (outL s).length) (h2 : i < (belowL s).length) : (outL s)[i] = s[i].refs - (belowL s)[i] := by simp [outL, belowL, h]

/-- none of the first ones is below 0 -/
def noneTo (s : List Blk) (k : Nat) : Bool := ((outL s).take k).all fun n => decide (0 ≤ n)
theorem noneTo_zero (s : List Blk) : noneTo s 0 = true := by simp [noneTo]
theorem noneTo_succ (s : List Blk) (k : Nat) (h : k < (outL s).length) (h0 : noneTo s k = true) (h1 : 0 ≤ (outL s)[k]) : noneTo s (k + 1) = true := by
  unfold noneTo at *
  rw [List.take_succ_eq_append_getElem h, List.all_append, h0]
  simp [h1]
theorem noneTo_any (s : List Blk) (h : noneTo s s.length = true) : (outL s).any (fun n => decide (n < 0)) = false := by
  unfold noneTo at h
  rw [← outL_length, List.take_length] at h
  rw [Bool.eq_false_iff]
  intro h2
  rw [List.any_eq_true] at h2
  obtain ⟨x, hx, h3⟩ := h2
  have := List.all_eq_true.1 h x hx
  simp at this h3
  omega
theorem any_at (s : List Blk) (k : Nat) (h : k < (outL s).length) (h1 : (outL s)[k] < 0) : (outL s).any (fun n => decide (n < 0)) = true := by
  rw [List.any_eq_true]
  exact ⟨_, List.getElem_mem h, by simpa using h1⟩
end Go.Proofs.Ytpfopbkaddjjcaa
