/- The reference's files in plain words. -/
import Derived.Test.YtodogcokljmkmaaFileOver
namespace Go.Proofs.Ytodogcokljmkmaa
open Go.RowKit
set_option linter.unusedVariables false

theorem ext_getD {a b : List Int} (h : a.length = b.length) (h2 : ∀ j, j < a.length → a.getD j 0 = b.getD j 0) : a = b := by
  refine List.ext_getElem h fun j h3 h4 => ?_
  have := h2 j h3
  rw [List.getD_eq_getElem?_getD, List.getD_eq_getElem?_getD, List.getElem?_eq_getElem h3, List.getElem?_eq_getElem h4] at this
  exact this
theorem zeros_getD (n j : Nat) : (zeros n).getD j 0 = 0 := by
  rw [List.getD_eq_getElem?_getD]
  unfold zeros
  rw [List.getElem?_replicate]
  split <;> rfl
theorem append_getD (a b : List Int) (j : Nat) : (a ++ b).getD j 0 = if j < a.length then a.getD j 0 else b.getD (j - a.length) 0 := by
  simp only [List.getD_eq_getElem?_getD, List.getElem?_append]
  split <;> rfl
theorem getD_out {a : List Int} {j : Nat} (h : a.length ≤ j) : a.getD j 0 = 0 := by
  rw [List.getD_eq_getElem?_getD, List.getElem?_eq_none h]; rfl
theorem append_zeros_getD (a : List Int) (n j : Nat) : (a ++ zeros n).getD j 0 = a.getD j 0 := by
  rw [append_getD]
  split
  · rfl
  · rename_i h
    rw [zeros_getD, getD_out (by omega)]
theorem take_getD (a : List Int) (k j : Nat) : (a.take k).getD j 0 = if j < k then a.getD j 0 else 0 := by
  simp only [List.getD_eq_getElem?_getD, List.getElem?_take]
  split <;> rfl
theorem drop_getD (a : List Int) (k j : Nat) : (a.drop k).getD j 0 = a.getD (k + j) 0 := by
  simp only [List.getD_eq_getElem?_getD, List.getElem?_drop]
theorem splice_getD (a b : List Int) (k j : Nat) (h : k + b.length ≤ a.length) : (splice a k b).getD j 0 = if k ≤ j ∧ j < k + b.length then b.getD (j - k) 0 else a.getD j 0 := by
  unfold splice
  rw [append_getD, append_getD, take_getD, drop_getD, List.length_take, Nat.min_eq_left (by omega)]
  by_cases h1 : j < k
  · rw [if_pos h1, if_pos h1, if_neg (by omega)]
  · rw [if_neg h1]
    by_cases h2 : j - k < b.length
    · rw [if_pos h2, if_pos (by omega)]
    · rw [if_neg h2, if_neg (by omega)]
      congr 1
      omega
theorem set_getD (a : List Int) (k j : Nat) (x : Int) (h : k < a.length) : (a.set k x).getD j 0 = if j = k then x else a.getD j 0 := by
  simp only [List.getD_eq_getElem?_getD, List.getElem?_set]
  by_cases e : k = j
  · subst e; simp [h]
  · rw [if_neg e, if_neg (Ne.symm e)]
theorem overL_getD (b : List Int) (k : Nat) (more : List Int) (j : Nat) : (overL b k more).getD j 0 = if k ≤ j ∧ j < k + more.length then more.getD (j - k) 0 else b.getD j 0 := by
  unfold overL
  by_cases h : more = []
  · subst h
    rw [if_pos rfl, if_neg (by rw [List.length_nil]; omega)]
  · rw [if_neg h, splice_getD _ _ _ _ (by simp [zeros]; omega), append_zeros_getD]

/-- the reference lays one byte after the other -/
theorem overL_step (b : List Int) (k : Nat) (more : List Int) (i : Nat) (hi : i < more.length) :
    overL b k (more.take (i + 1)) = ((overL b k (more.take i)) ++ zeros (k + i + 1 - (overL b k (more.take i)).length)).set (k + i) more[i] := by
  have hl := overL_len b k (more.take i)
  have hl2 := overL_len b k (more.take (i + 1))
  rw [List.length_take, Nat.min_eq_left (by omega)] at hl hl2
  rw [if_neg (by omega)] at hl2
  have hlen : (overL b k (more.take (i + 1))).length = (((overL b k (more.take i)) ++ zeros (k + i + 1 - (overL b k (more.take i)).length)).set (k + i) more[i]).length := by
    rw [List.length_set, List.length_append, hl2, hl]
    simp only [zeros, List.length_replicate]
    split <;> omega
  refine ext_getD hlen fun j hj => ?_
  rw [overL_getD, set_getD _ _ _ _ (by rw [List.length_append]; simp only [zeros, List.length_replicate]; omega), append_zeros_getD, overL_getD, take_getD, take_getD, List.length_take, List.length_take, Nat.min_eq_left (by omega), Nat.min_eq_left (by omega)]
  by_cases e : j = k + i
  · subst e
    rw [if_pos (by omega), if_pos (by omega), if_pos rfl, List.getD_eq_getElem?_getD, show k + i - k = i from by omega, List.getElem?_eq_getElem hi]
    rfl
  · rw [if_neg e]
    by_cases h2 : k ≤ j ∧ j < k + i
    · rw [if_pos (by omega), if_pos (by omega), if_pos h2, if_pos (by omega)]
    · rw [if_neg (by omega), if_neg h2]
theorem overL_zero (b : List Int) (k : Nat) (more : List Int) : overL b k (more.take 0) = b := by simp [overL]

/-- the reference's four bytes -/
theorem four_ref (b : List Int) (h : b.length ≤ 256) (i : Nat) (hi : i < 64) : splice (zeros 4) 0 ((b.drop (4 * i)).take 4) = fourAt (pad b) i := by
  have h4 := fourAt_len (pad b) (pad_len b h) i hi
  have hl : ((b.drop (4 * i)).take 4).length ≤ 4 := by simp; omega
  have hz : (zeros 4).length = 4 := rfl
  refine ext_getD ?_ fun j hj => ?_
  · rw [h4]
    unfold splice
    simp only [List.take_zero, List.nil_append, List.length_append, List.length_drop, hz]
    omega
  · rw [splice_getD _ _ _ _ (by omega), zeros_getD, take_getD, drop_getD]
    unfold fourAt pad
    rw [take_getD, drop_getD, append_zeros_getD]
    rw [List.length_take, List.length_drop]
    have hj4 : j < 4 := by
      unfold splice at hj
      simp only [List.take_zero, List.nil_append, List.length_append, List.length_drop, hz] at hj
      omega
    rw [if_pos hj4]
    by_cases h2 : 0 ≤ j ∧ j < 0 + min 4 (b.length - 4 * i)
    · rw [if_pos h2, if_pos (by omega)]
      congr 1
      omega
    · rw [if_neg h2, getD_out (by omega)]
theorem four_none (b : List Int) (h : b.length ≤ 256) (i : Nat) (hi : i < 64) (h2 : b.length ≤ 4 * i) : fourAt (pad b) i = zeros 4 := by
  rw [← four_ref b h i hi, List.drop_eq_nil_of_le h2]
  rfl

theorem count_zero_iff (xs : List Int) : xs.count 0 = xs.length ↔ ∀ x ∈ xs, x = 0 := by
  rw [List.count_eq_length]
  exact ⟨fun h x hx => (h x hx).symm, fun h x hx => (h x hx).symm⟩
/-- where the size ends in a leaf -/
def behindN (size : Int) (i : Nat) : Nat := min 4 (size - 4 * (i : Int)).toNat
theorem behind_count {size : Int} {i : Nat} {ys : List Int} (hy : ys.length = 4) : behindB size i ys 4 = false ↔ (ys.drop (behindN size i)).count 0 = 4 - behindN size i := by
  have hl : (ys.drop (behindN size i)).length = 4 - behindN size i := by rw [List.length_drop, hy]
  rw [← hl, count_zero_iff]
  unfold behindB
  rw [List.any_eq_false]
  constructor
  · intro h x hx
    obtain ⟨p, hp, rfl⟩ := List.getElem_of_mem hx
    rw [hl] at hp
    rw [List.getElem_drop]
    have h1 := h (behindN size i + p) (List.mem_range.2 (by omega))
    rw [List.getD_eq_getElem?_getD, List.getElem?_eq_getElem (by omega), Option.getD_some] at h1
    simp only [Bool.and_eq_true, decide_eq_true_eq, not_and, Decidable.not_not] at h1
    refine h1 ?_
    unfold behindN at hp ⊢
    omega
  · intro h p hp
    have hp := List.mem_range.1 hp
    simp only [Bool.and_eq_true, decide_eq_true_eq, not_and, Decidable.not_not]
    intro h1
    rw [List.getD_eq_getElem?_getD, List.getElem?_eq_getElem (by omega), Option.getD_some]
    refine h _ ?_
    have hq : behindN size i ≤ p := by unfold behindN; omega
    have : ys[p] = (ys.drop (behindN size i))[p - behindN size i]'(by rw [hl]; omega) := by
      rw [List.getElem_drop]
      congr 1
      omega
    rw [this]
    exact List.getElem_mem _
theorem zeroB_count {ys : List Int} (hy : ys.length = 4) : zeroB ys = true ↔ ys.count 0 = 4 := by
  rw [zeroB_iff, ← count_zero_iff, hy]
theorem leafBad_count {key size : Int} {i : Nat} {xs : List Int} (h : xs.length = 4) : leafBad key size i xs = (decide ((openL key i xs).count 0 = 4) || decide ((((openL key i xs).drop (behindN size i)).count 0 : Nat) ≠ 4 - behindN size i)) := by
  have hy : (openL key i xs).length = 4 := (sealed_length _ _ _ _).trans h
  have hne : xs ≠ [] := fun e => by rw [e] at h; simp at h
  unfold leafBad
  rw [decide_eq_true hne, Bool.true_and, h]
  congr 1
  · rw [Bool.eq_iff_iff, decide_eq_true_eq]
    exact zeroB_count hy
  · rw [Bool.eq_iff_iff, decide_eq_true_eq, ne_eq, ← behind_count hy]
    simp
theorem leafBad_nil (key size : Int) (i : Nat) : leafBad key size i [] = false := rfl
end Go.Proofs.Ytodogcokljmkmaa
