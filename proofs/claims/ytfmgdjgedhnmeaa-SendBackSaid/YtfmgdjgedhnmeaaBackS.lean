/- What Apply makes of what Diff says, byte by byte. No program in sight. -/
import Derived.Test.YtfmgdjgedhnmeaaSendP
namespace Go.Proofs.Ytfmgdjgedhnmeaa
open Go.RowKit
set_option linter.unusedVariables false
set_option linter.unusedSimpArgs false

theorem runC_at : ∀ (l : List Int) (x : Int) (j : Nat) (h : j < runC x l) (h2 : j < l.length), l[j] = x + j
  | [], _, _, _, h2 => absurd h2 (by simp)
  | y :: l, x, j, h, h2 => by
    unfold runC at h
    split at h
    · rename_i e
      subst e
      cases j with
      | zero => simp
      | succ j =>
        rw [List.getElem_cons_succ, runC_at l (y + 1) j (by omega) (by simpa using h2)]
        omega
    · omega
theorem runC_len : ∀ (l : List Int) (x : Int), runC x l ≤ l.length
  | [], _ => Nat.le_refl _
  | y :: l, x => by
    unfold runC
    split
    · have := runC_len l (x + 1)
      simp only [List.length_cons]
      omega
    · exact Nat.zero_le _
/-- what a run of places is -/
theorem run_mem {l : List Int} {x q : Int} : q ∈ x :: l ↔ (x ≤ q ∧ q < x + ((1 + runC (x + 1) l : Nat) : Int)) ∨ q ∈ l.drop (runC (x + 1) l) := by
  have hl := runC_len l (x + 1)
  constructor
  · intro h
    rcases List.mem_cons.1 h with rfl | h
    · exact .inl ⟨Int.le_refl _, by omega⟩
    · rw [← List.take_append_drop (runC (x + 1) l) l] at h
      rcases List.mem_append.1 h with h | h
      · left
        obtain ⟨j, hj, rfl⟩ := List.mem_iff_getElem.1 h
        rw [List.length_take] at hj
        rw [List.getElem_take, runC_at l (x + 1) j (by omega) (by omega)]
        omega
      · exact .inr h
  · rintro (⟨h1, h2⟩ | h)
    · by_cases e : q = x
      · subst e
        exact List.mem_cons_self
      · have hj : (q - x - 1).toNat < runC (x + 1) l := by omega
        refine List.mem_cons_of_mem _ (List.mem_iff_getElem.2 ⟨(q - x - 1).toNat, by omega, ?_⟩)
        rw [runC_at l (x + 1) _ hj (by omega)]
        omega
    · exact List.mem_cons_of_mem _ (List.mem_of_mem_drop h)

/-- what a file's bytes are, when runs of another's are laid over them -/
def layRuns (B : List Int) : List (Int × Nat) → List Int → List Int
  | [], C => C
  | p :: ps, C => layRuns B ps (overL C (p.1 * 4).toNat ((B.take (p.1 * 4 + (p.2 : Int) * 4).toNat).drop (p.1 * 4).toNat))
theorem overL_get {C D : List Int} {k : Nat} (hk : k + D.length ≤ C.length) (p : Nat) : (overL C k D).getD p 0 = if k ≤ p ∧ p < k + D.length then D.getD (p - k) 0 else C.getD p 0 := by
  unfold overL
  by_cases h0 : D = []
  · subst h0
    rw [if_pos rfl, if_neg (by simp)]
  · rw [if_neg h0]
    have e : C ++ zeros (k + D.length - C.length) = C := by
      rw [show k + D.length - C.length = 0 from by omega]
      simp [zeros]
    rw [e]
    unfold Go.splice
    simp only [List.getD_eq_getElem?_getD]
    by_cases h1 : p < k
    · rw [if_neg (by omega), List.getElem?_append_left (by rw [List.length_take]; omega), List.getElem?_take, if_pos h1]
    · by_cases h2 : p < k + D.length
      · rw [if_pos (by omega), List.getElem?_append_right (by rw [List.length_take]; omega), List.length_take, Nat.min_eq_left (by omega), List.getElem?_append_left (by omega)]
      · rw [if_neg (by omega), List.getElem?_append_right (by rw [List.length_take]; omega), List.length_take, Nat.min_eq_left (by omega), List.getElem?_append_right (by omega), List.getElem?_drop]
        congr 2
        omega
theorem overL_same {C D : List Int} {k : Nat} (hk : k + D.length ≤ C.length) : (overL C k D).length = C.length := by
  rw [overL_len]
  split
  · rfl
  · omega
/-- all runs laid: what lies in them is the other's, what doesn't is as it was -/
theorem layRuns_get {B : List Int} {z : Nat} (hB : B.length = z) : ∀ (f : Nat) (l : List Int) (C : List Int), l.length ≤ f → (∀ x ∈ l, 0 ≤ x ∧ x * 4 < z) → C.length = z →
    (layRuns B (runsL f l) C).length = z ∧ ∀ p, p < z → (layRuns B (runsL f l) C).getD p 0 = if ((p / 4 : Nat) : Int) ∈ l then B.getD p 0 else C.getD p 0
  | 0, l, C, hl, _, hC => by
    have : l = [] := List.eq_nil_of_length_eq_zero (by omega)
    subst this
    exact ⟨hC, fun p _ => by simp [runsL, layRuns]⟩
  | f + 1, [], C, _, _, hC => ⟨hC, fun p _ => by simp [runsL, layRuns]⟩
  | f + 1, x :: l, C, hl, hx, hC => by
    have hx0 := hx x (by simp)
    have hrl := runC_len l (x + 1)
    generalize hn : runC (x + 1) l = n at *
    have hD : ((B.take (x * 4 + ((1 + n : Nat) : Int) * 4).toNat).drop (x * 4).toNat).length = min z ((x * 4).toNat + (1 + n) * 4) - (x * 4).toNat := by
      rw [List.length_drop, List.length_take, hB]
      omega
    have hk : (x * 4).toNat + ((B.take (x * 4 + ((1 + n : Nat) : Int) * 4).toNat).drop (x * 4).toNat).length ≤ C.length := by
      rw [hD, hC]
      omega
    obtain ⟨h1, h2⟩ := layRuns_get hB f (l.drop n) (overL C (x * 4).toNat ((B.take (x * 4 + ((1 + n : Nat) : Int) * 4).toNat).drop (x * 4).toNat)) (by rw [List.length_drop]; simp at hl; omega) (fun y hy => hx y (List.mem_cons_of_mem _ (List.mem_of_mem_drop hy))) (by rw [overL_same hk, hC])
    unfold runsL layRuns
    rw [hn]
    refine ⟨h1, fun p hp => ?_⟩
    rw [h2 p hp, overL_get hk, hD]
    have hm := run_mem (l := l) (x := x) (q := ((p / 4 : Nat) : Int))
    rw [hn] at hm
    by_cases m1 : ((p / 4 : Nat) : Int) ∈ l.drop n
    · rw [if_pos m1, if_pos (hm.2 (.inr m1))]
    · rw [if_neg m1]
      by_cases m2 : x ≤ ((p / 4 : Nat) : Int) ∧ ((p / 4 : Nat) : Int) < x + ((1 + n : Nat) : Int)
      · rw [if_pos (by omega), if_pos (hm.2 (.inl m2))]
        rw [List.getD_eq_getElem?_getD, List.getElem?_drop, List.getElem?_take, if_pos (by omega), ← List.getD_eq_getElem?_getD]
        congr 1
        omega
      · rw [if_neg (by omega), if_neg fun h => (hm.1 h).elim m2 m1]
/-- the runs of two files: what is laid makes the other one -/
theorem runs_make {s : List Blk} (hw : WfS s) {key r1 r2 : Int} {z1 z2 : Nat} (h1 : fileE s key r1 z1 = 0) (h2 : fileE s key r2 z2 = 0) :
    layRuns (fileB s key r2 z2) (runsL 64 (farD s r1 r2 z2)) (cutL (fileB s key r1 z1) z2) = fileB s key r2 z2 := by
  have l1 := fileB_len h1
  have l2 := fileB_len h2
  have hz1 := (fileE_ok h1).2.2.1
  have hz2 := (fileE_ok h2).2.2.1
  have hdl : (farD s r1 r2 z2).length ≤ 64 := Nat.le_trans (List.length_filter_le _ _) (diffF_len 3 (by omega) s r1 r2 0)
  have hmem : ∀ x : Int, x ∈ farD s r1 r2 z2 ↔ ∃ j : Nat, x = j ∧ j < 64 ∧ j * 4 < z2 ∧ leafB 3 s r1 j ≠ leafB 3 s r2 j := fun x => by
    unfold farD
    rw [diffF_eq 3 s r1 r2 0 (by omega), List.mem_filter]
    constructor
    · rintro ⟨h, h'⟩
      obtain ⟨j, hj, rfl⟩ := List.mem_map.1 h
      unfold diffL at hj
      rw [List.mem_filter, List.mem_range] at hj
      have h64 : p4n 3 = 64 := rfl
      simp only [decide_eq_true_eq] at hj
      simp at h'
      exact ⟨j, by omega, by omega, by omega, hj.2⟩
    · rintro ⟨j, rfl, h3, h4, h5⟩
      refine ⟨List.mem_map.2 ⟨j, ?_, by omega⟩, by simp; omega⟩
      unfold diffL
      rw [List.mem_filter, List.mem_range]
      exact ⟨h3, by simpa using h5⟩
  obtain ⟨g1, g2⟩ := layRuns_get l2 64 (farD s r1 r2 z2) (cutL (fileB s key r1 z1) z2) hdl (fun x hx => by
    obtain ⟨j, rfl, -, h, -⟩ := (hmem x).1 hx
    omega) (cutL_len _ _)
  refine ext_getD (by rw [g1, l2]) fun p hp => ?_
  rw [g1] at hp
  rw [g2 p hp]
  split
  · rfl
  · rename_i hn
    have hj : p / 4 < 64 := by omega
    have hlf : leafB 3 s r1 (p / 4) = leafB 3 s r2 (p / 4) := Classical.byContradiction fun h => hn ((hmem _).2 ⟨p / 4, rfl, hj, by omega, h⟩)
    have f1 := file_leaves h1 hw (p / 4) hj
    have f2 := file_leaves h2 hw (p / 4) hj
    have e : fourAt (pad (fileB s key r1 z1)) (p / 4) = fourAt (pad (fileB s key r2 z2)) (p / 4) := by
      rw [← leafOf_bytes (key := key) (i := p / 4) (fourAt_len _ (pad_len _ (by omega)) _ hj) (fourAt_byt (pad_byt (fileB_byt s key r1 z1)) _), ← f1, hlf, f2, leafOf_bytes (fourAt_len _ (pad_len _ (by omega)) _ hj) (fourAt_byt (pad_byt (fileB_byt s key r2 z2)) _)]
    have key2 : ∀ (b : List Int), b.length ≤ 256 → (fourAt (pad b) (p / 4)).getD (p % 4) 0 = b.getD p 0 := fun b hb => by
      unfold fourAt pad
      rw [take_getD, if_pos (by omega), drop_getD, append_zeros_getD]
      congr 1
      omega
    have e2 : (fourAt (pad (fileB s key r1 z1)) (p / 4)).getD (p % 4) 0 = (fourAt (pad (fileB s key r2 z2)) (p / 4)).getD (p % 4) 0 := by rw [e]
    rw [key2 _ (by omega), key2 _ (by omega)] at e2
    unfold cutL
    rw [append_zeros_getD, take_getD, if_pos hp, e2]
end Go.Proofs.Ytfmgdjgedhnmeaa
