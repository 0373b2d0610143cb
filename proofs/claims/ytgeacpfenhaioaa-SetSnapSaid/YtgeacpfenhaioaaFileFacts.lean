/- The reference's files in plain words. · What a turn of a file keeps, gives and takes, in plain words. -/
import Derived.Test.YtgeacpfenhaioaaFileOver
import Derived.Test.YtgeacpfenhaioaaFileWrite
import Derived.Test.YtgeacpfenhaioaaSeal
import Derived.Test.YtgeacpfenhaioaaTurnF
namespace Go.Proofs.Ytgeacpfenhaioaa
open Go.RowKit
set_option linter.unusedVariables false

theorem ext_getD {a b : List Int} (h : a.length = b.length) (h2 : ∀ j, j < a.length → a.getD j 0 = b.getD j 0) : a = b := by
  refine List.ext_getElem h fun j h3 h4 => ?_
  have := h2 j h3
  rw [List.getD_eq_getElem?_getD, List.getD_eq_getElem?_getD, List.getElem?_eq_getElem h3, List.getElem?_eq_getElem h4] at this
  exact this
theorem zeros_getD (n j : Nat) : (zeros n).getD j 0 = 0 := by
  rw [List.getD_eq_getElem?_getD]
  unfold zeros
  rw [List.getElem?_replicate]
  split <;> rfl
theorem append_getD (a b : List Int) (j : Nat) : (a ++ b).getD j 0 = if j < a.length then a.getD j 0 else b.getD (j - a.length) 0 := by
  simp only [List.getD_eq_getElem?_getD, List.getElem?_append]
  split <;> rfl
theorem getD_out {a : List Int} {j : Nat} (h : a.length ≤ j) : a.getD j 0 = 0 := by
  rw [List.getD_eq_getElem?_getD, List.getElem?_eq_none h]; rfl
theorem append_zeros_getD (a : List Int) (n j : Nat) : (a ++ zeros n).getD j 0 = a.getD j 0 := by
  rw [append_getD]
  split
  · rfl
  · rename_i h
    rw [zeros_getD, getD_out (by omega)]
theorem take_getD (a : List Int) (k j : Nat) : (a.take k).getD j 0 = if j < k then a.getD j 0 else 0 := by
  simp only [List.getD_eq_getElem?_getD, List.getElem?_take]
  split <;> rfl
theorem drop_getD (a : List Int) (k j : Nat) : (a.drop k).getD j 0 = a.getD (k + j) 0 := by
  simp only [List.getD_eq_getElem?_getD, List.getElem?_drop]
theorem splice_getD (a b : List Int) (k j : Nat) (h : k + b.length ≤ a.length) : (splice a k b).getD j 0 = if k ≤ j ∧ j < k + b.length then b.getD (j - k) 0 else a.getD j 0 := by
  unfold splice
  rw [append_getD, append_getD, take_getD, drop_getD, List.length_take, Nat.min_eq_left (by omega)]
  by_cases h1 : j < k
  · rw [if_pos h1, if_pos h1, if_neg (by omega)]
  · rw [if_neg h1]
    by_cases h2 : j - k < b.length
    · rw [if_pos h2, if_pos (by omega)]
    · rw [if_neg h2, if_neg (by omega)]
      congr 1
      omega
theorem set_getD (a : List Int) (k j : Nat) (x : Int) (h : k < a.length) : (a.set k x).getD j 0 = if j = k then x else a.getD j 0 := by
  simp only [List.getD_eq_getElem?_getD, List.getElem?_set]
  by_cases e : k = j
  · subst e; simp [h]
  · rw [if_neg e, if_neg (Ne.symm e)]
theorem overL_getD (b : List Int) (k : Nat) (more : List Int) (j : Nat) : (overL b k more).getD j 0 = if k ≤ j ∧ j < k + more.length then more.getD (j - k) 0 else b.getD j 0 := by
  unfold overL
  by_cases h : more = []
  · subst h
    rw [if_pos rfl, if_neg (by rw [List.length_nil]; omega)]
  · rw [if_neg h, splice_getD _ _ _ _ (by simp [zeros]; omega), append_zeros_getD]

/-- the reference lays one byte after the other -/
theorem overL_step (b : List Int) (k : Nat) (more : List Int) (i : Nat) (hi : i < more.length) :
    overL b k (more.take (i + 1)) = ((overL b k (more.take i)) ++ zeros (k + i + 1 - (overL b k (more.take i)).length)).set (k + i) more[i] := by
  have hl := overL_len b k (more.take i)
  have hl2 := overL_len b k (more.take (i + 1))
  rw [List.length_take, Nat.min_eq_left (by omega)] at hl hl2
  rw [if_neg (by omega)] at hl2
  have hlen : (overL b k (more.take (i + 1))).length = (((overL b k (more.take i)) ++ zeros (k + i + 1 - (overL b k (more.take i)).length)).set (k + i) more[i]).length := by
    rw [List.length_set, List.length_append, hl2, hl]
    simp only [zeros, List.length_replicate]
    split <;> omega
  refine ext_getD hlen fun j hj => ?_
  rw [overL_getD, set_getD _ _ _ _ (by rw [List.length_append]; simp only [zeros, List.length_replicate]; omega), append_zeros_getD, overL_getD, take_getD, take_getD, List.length_take, List.length_take, Nat.min_eq_left (by omega), Nat.min_eq_left (by omega)]
  by_cases e : j = k + i
  · subst e
    rw [if_pos (by omega), if_pos (by omega), if_pos rfl, List.getD_eq_getElem?_getD, show k + i - k = i from by omega, List.getElem?_eq_getElem hi]
    rfl
  · rw [if_neg e]
    by_cases h2 : k ≤ j ∧ j < k + i
    · rw [if_pos (by omega), if_pos (by omega), if_pos h2, if_pos (by omega)]
    · rw [if_neg (by omega), if_neg h2]
theorem overL_zero (b : List Int) (k : Nat) (more : List Int) : overL b k (more.take 0) = b := by simp [overL]

/-- the reference's four bytes -/
theorem four_ref (b : List Int) (h : b.length ≤ 256) (i : Nat) (hi : i < 64) : splice (zeros 4) 0 ((b.drop (4 * i)).take 4) = fourAt (pad b) i := by
  have h4 := fourAt_len (pad b) (pad_len b h) i hi
  have hl : ((b.drop (4 * i)).take 4).length ≤ 4 := by simp; omega
  have hz : (zeros 4).length = 4 := rfl
  refine ext_getD ?_ fun j hj => ?_
  · rw [h4]
    unfold splice
    simp only [List.take_zero, List.nil_append, List.length_append, List.length_drop, hz]
    omega
  · rw [splice_getD _ _ _ _ (by omega), zeros_getD, take_getD, drop_getD]
    unfold fourAt pad
    rw [take_getD, drop_getD, append_zeros_getD]
    rw [List.length_take, List.length_drop]
    have hj4 : j < 4 := by
      unfold splice at hj
      simp only [List.take_zero, List.nil_append, List.length_append, List.length_drop, hz] at hj
      omega
    rw [if_pos hj4]
    by_cases h2 : 0 ≤ j ∧ j < 0 + min 4 (b.length - 4 * i)
    · rw [if_pos h2, if_pos (by omega)]
      congr 1
      omega
    · rw [if_neg h2, getD_out (by omega)]
theorem four_none (b : List Int) (h : b.length ≤ 256) (i : Nat) (hi : i < 64) (h2 : b.length ≤ 4 * i) : fourAt (pad b) i = zeros 4 := by
  rw [← four_ref b h i hi, List.drop_eq_nil_of_le h2]
  rfl

theorem count_zero_iff (xs : List Int) : xs.count 0 = xs.length ↔ ∀ x ∈ xs, x = 0 := by
  rw [List.count_eq_length]
  exact ⟨fun h x hx => (h x hx).symm, fun h x hx => (h x hx).symm⟩
/-- where the size ends in a leaf -/
def behindN (size : Int) (i : Nat) : Nat := min 4 (size - 4 * (i : Int)).toNat
theorem behind_count {size : Int} {i : Nat} {ys : List Int} (hy : ys.length = 4) : behindB size i ys 4 = false ↔ (ys.drop (behindN size i)).count 0 = 4 - behindN size i := by
  have hl : (ys.drop (behindN size i)).length = 4 - behindN size i := by rw [List.length_drop, hy]
  rw [← hl, count_zero_iff]
  unfold behindB
  rw [List.any_eq_false]
  constructor
  · intro h x hx
    obtain ⟨p, hp, rfl⟩ := List.getElem_of_mem hx
    rw [hl] at hp
    rw [List.getElem_drop]
    have h1 := h (behindN size i + p) (List.mem_range.2 (by omega))
    rw [List.getD_eq_getElem?_getD, List.getElem?_eq_getElem (by omega), Option.getD_some] at h1
    simp only [Bool.and_eq_true, decide_eq_true_eq, not_and, Decidable.not_not] at h1
    refine h1 ?_
    unfold behindN at hp ⊢
    omega
  · intro h p hp
    have hp := List.mem_range.1 hp
    simp only [Bool.and_eq_true, decide_eq_true_eq, not_and, Decidable.not_not]
    intro h1
    rw [List.getD_eq_getElem?_getD, List.getElem?_eq_getElem (by omega), Option.getD_some]
    refine h _ ?_
    have hq : behindN size i ≤ p := by unfold behindN; omega
    have : ys[p] = (ys.drop (behindN size i))[p - behindN size i]'(by rw [hl]; omega) := by
      rw [List.getElem_drop]
      congr 1
      omega
    rw [this]
    exact List.getElem_mem _
theorem zeroB_count {ys : List Int} (hy : ys.length = 4) : zeroB ys = true ↔ ys.count 0 = 4 := by
  rw [zeroB_iff, ← count_zero_iff, hy]
theorem leafBad_count {key size : Int} {i : Nat} {xs : List Int} (h : xs.length = 4) : leafBad key size i xs = (decide ((openL key i xs).count 0 = 4) || decide ((((openL key i xs).drop (behindN size i)).count 0 : Nat) ≠ 4 - behindN size i)) := by
  have hy : (openL key i xs).length = 4 := (sealed_length _ _ _ _).trans h
  have hne : xs ≠ [] := fun e => by rw [e] at h; simp at h
  unfold leafBad
  rw [decide_eq_true hne, Bool.true_and, h]
  congr 1
  · rw [Bool.eq_iff_iff, decide_eq_true_eq]
    exact zeroB_count hy
  · rw [Bool.eq_iff_iff, decide_eq_true_eq, ne_eq, ← behind_count hy]
    simp
theorem leafBad_nil (key size : Int) (i : Nat) : leafBad key size i [] = false := rfl
end Go.Proofs.Ytgeacpfenhaioaa

namespace Go.Proofs.Ytgeacpfenhaioaa
open Go.RowKit
set_option linter.unusedVariables false

theorem fours_get (f : Nat → List Int) (h : ∀ i, (f i).length = 4) : ∀ k, ((List.range k).flatMap f).length = 4 * k ∧ ∀ i, i < k → (((List.range k).flatMap f).drop (i * 4)).take 4 = f i := by
  intro k
  induction k with
  | zero => exact ⟨rfl, fun i hi => by omega⟩
  | succ k ih =>
    obtain ⟨h1, h2⟩ := ih
    rw [List.range_succ, List.flatMap_append]
    simp only [List.flatMap_cons, List.flatMap_nil, List.append_nil]
    refine ⟨by rw [List.length_append, h1, h]; omega, fun i hi => ?_⟩
    by_cases e : i = k
    · subst e
      rw [List.drop_append_of_le_length (by omega), List.drop_eq_nil_of_le (by omega), List.nil_append, List.take_of_length_le (by rw [h]; omega)]
    · rw [List.drop_append_of_le_length (by omega), List.take_append_of_le_length (by rw [List.length_drop, h1]; omega)]
      exact h2 i (by omega)
theorem fours_all (B : List Int) (h : B.length = 256) : ∀ k, k ≤ 64 → (List.range k).flatMap (fourAt B) = B.take (k * 4) := by
  intro k
  induction k with
  | zero => intro _; simp
  | succ k ih =>
    intro hk
    rw [List.range_succ, List.flatMap_append, ih (by omega)]
    simp only [List.flatMap_cons, List.flatMap_nil, List.append_nil]
    rw [show (k + 1) * 4 = k * 4 + 4 from by omega, List.take_add]
    rfl
theorem four_zero {ys : List Int} (h : ys.length = 4) (hz : zeroB ys = true) : ys = [0, 0, 0, 0] := by
  rw [zeroB_iff] at hz
  match ys, h with
  | [a, b, c, d], _ =>
    have h1 := hz a (by simp)
    have h2 := hz b (by simp)
    have h3 := hz c (by simp)
    have h4 := hz d (by simp)
    subst h1 h2 h3 h4
    rfl

/-- what is put for four bytes reads as these -/
theorem leafOf_bytes {key : Int} {i : Nat} {ys : List Int} (h : ys.length = 4) (hb : Byt ys) : leafBytes key i (leafOf key i ys) = ys := by
  unfold leafBytes leafOf
  cases hz : zeroB ys with
  | true => simp only [if_true]; exact (four_zero h hz).symm
  | false =>
    simp only [Bool.false_eq_true, if_false]
    rw [if_neg (fun e => by
      have h2 := congrArg List.length e
      rw [sealL, sealed_length, h] at h2
      simp at h2)]
    exact open_sealed key i ys hb
theorem leafOf_bad {key size : Int} {i : Nat} {ys : List Int} (h : ys.length = 4) (hb : Byt ys) (hs : ∀ q : Nat, q < 4 → size ≤ (i : Int) * 4 + q → ys.getD q 0 = 0) : leafBad key size i (leafOf key i ys) = false := by
  unfold leafOf
  cases hz : zeroB ys with
  | true => rfl
  | false =>
    simp only [Bool.false_eq_true, if_false]
    have e : openL key i (sealL key i ys) = ys := open_sealed key i ys hb
    unfold leafBad
    rw [e, hz, Bool.false_or, show (sealL key i ys).length = 4 from (sealed_length _ _ _ _).trans h]
    have : behindB size i ys 4 = false := by
      unfold behindB
      rw [List.any_eq_false]
      intro q hq
      have hq := List.mem_range.1 hq
      simp only [Bool.and_eq_true, decide_eq_true_eq, not_and, Decidable.not_not]
      exact hs q hq
    rw [this, Bool.and_false]

theorem leaves_getD (s : List Blk) (root : Int) (j : Nat) (hj : j < 64) : (leavesF 3 s root).getD j [] = leafB 3 s root j := by
  rw [List.getD_eq_getElem?_getD, List.getElem?_eq_getElem (by rw [leavesF_len]; exact hj), Option.getD_some, leavesF_get]

/-- these leaves make that file -/
theorem file_made {s : List Blk} {key root : Int} {b : List Int} (hc : checkE s = 0) (hr : RootAt s 3 root) (hk : keyE key 0 = 0) (hb : Byt b) (hl : b.length ≤ 256) (hL : ∀ j, j < 64 → leafB 3 s root j = leafOf key j (fourAt (pad b) j)) :
    fileE s key root b.length = 0 ∧ fileB s key root b.length = b := by
  have hpl := pad_len b hl
  have hct : checkT s root (3 : Nat) ((0 : Nat) : Int) = 0 := checkT_mk hc (by omega) hr (show 0 < p4n 3 by decide)
  have hct : checkT s root 3 0 = 0 := hct
  constructor
  · unfold fileE
    rw [if_neg (by simp [hk]), if_neg (by omega), if_neg (by simp [hct]), if_neg]
    intro h
    unfold filesBad at h
    rw [List.any_eq_true] at h
    obtain ⟨i, hi, h⟩ := h
    have hi := List.mem_range.1 hi
    rw [leaves_getD s root i hi, hL i hi, leafOf_bad (fourAt_len _ hpl i hi) (fourAt_byt (pad_byt hb) i)] at h
    · cases h
    · intro q hq h1
      unfold fourAt pad
      rw [take_getD, if_pos hq, drop_getD, append_zeros_getD, getD_out (by omega)]
  · unfold fileB bytesTo
    have e : (List.range 64).flatMap (fun i => leafBytes key i ((leavesF 3 s root).getD i [])) = (List.range 64).flatMap (fourAt (pad b)) := by
      unfold List.flatMap
      congr 1
      apply List.map_congr_left
      intro i hi
      have hi := List.mem_range.1 hi
      rw [leaves_getD s root i hi, hL i hi]
      exact leafOf_bytes (fourAt_len _ hpl i hi) (fourAt_byt (pad_byt hb) i)
    rw [e, fours_all _ hpl 64 (Nat.le_refl _), Int.toNat_natCast, List.take_take, Nat.min_eq_left (by omega)]
    unfold pad
    rw [List.take_left' rfl]

theorem bytesTo_four {key : Int} {L : List (List Int)} (h : ∀ x ∈ L, x = [] ∨ x.length = 4) (i : Nat) (hi : i < 64) : fourAt (bytesTo key L 64) i = leafBytes key i (L.getD i []) := by
  refine (fours_get (fun i => leafBytes key i (L.getD i [])) (fun i => leafBytes_len ?_) 64).2 i hi
  by_cases hk : i < L.length
  · rw [List.getD_eq_getElem?_getD, List.getElem?_eq_getElem hk, Option.getD_some]
    exact h _ (List.getElem_mem hk)
  · rw [List.getD_eq_getElem?_getD, List.getElem?_eq_none (by omega)]
    exact .inl rfl

theorem filesBad_each {key size : Int} {L : List (List Int)} (h : filesBad key size L 64 = false) (i : Nat) (hi : i < 64) : leafBad key size i (L.getD i []) = false := by
  unfold filesBad at h
  rw [List.any_eq_false] at h
  simpa using h i (List.mem_range.2 hi)

/-- a right file's leaves are those of its bytes -/
theorem file_leaves {s : List Blk} {key root : Int} {z : Nat} (hok : fileE s key root z = 0) (hw : WfS s) (j : Nat) (hj : j < 64) : leafB 3 s root j = leafOf key j (fourAt (pad (fileB s key root z)) j) := by
  obtain ⟨hk, -, hz, hct, hfb⟩ := fileE_ok hok
  obtain ⟨hce, m, hm3, hm, hroot, -, -⟩ := checkT_ok hct
  obtain rfl : m = 3 := by omega
  have h4 := leaf_four (checkE_zero s hce).2.1 (by omega) hroot
  have hlen := bytesTo_len (key := key) h4 64
  have hget : ∀ i, i < 64 → (leavesF 3 s root).getD i [] = leafB 3 s root i := leaves_getD s root
  have hby := leavesF_byt hw 3 root
  have hbad := fun i hi => filesBad_each hfb i hi
  have hfour := fun i hi => bytesTo_four (key := key) h4 i hi
  have hpad : pad (fileB s key root z) = bytesTo key (leavesF 3 s root) 64 := by
    unfold fileB
    rw [Int.toNat_natCast]
    have hpl := pad_len ((bytesTo key (leavesF 3 s root) 64).take z) (by rw [List.length_take]; omega)
    refine ext_getD (by omega) fun p hp => ?_
    unfold pad
    rw [append_zeros_getD, take_getD]
    by_cases h1 : p < z
    · rw [if_pos h1]
    · rw [if_neg h1]
      have hp64 : p / 4 < 64 := by omega
      have e1 : (bytesTo key (leavesF 3 s root) 64).getD p 0 = (fourAt (bytesTo key (leavesF 3 s root) 64) (p / 4)).getD (p % 4) 0 := by
        unfold fourAt
        rw [take_getD, if_pos (by omega), drop_getD]
        congr 1
        omega
      rw [e1, hfour _ hp64]
      have hb := hbad _ hp64
      have hx4 : (leavesF 3 s root).getD (p / 4) [] = [] ∨ ((leavesF 3 s root).getD (p / 4) []).length = 4 := by
        rw [List.getD_eq_getElem?_getD, List.getElem?_eq_getElem (by rw [leavesF_len]; exact hp64), Option.getD_some]
        exact h4 _ (List.getElem_mem _)
      generalize (leavesF 3 s root).getD (p / 4) [] = xs at *
      unfold leafBytes
      by_cases hx : xs = []
      · rw [if_pos hx]
        have : p % 4 = 0 ∨ p % 4 = 1 ∨ p % 4 = 2 ∨ p % 4 = 3 := by omega
        rcases this with e | e | e | e <;> rw [e] <;> rfl
      · rw [if_neg hx]
        have hx4 := hx4.resolve_left hx
        unfold leafBad at hb
        rw [decide_eq_true hx, Bool.true_and, hx4, Bool.or_eq_false_iff] at hb
        have hb2 := hb.2
        unfold behindB at hb2
        rw [List.any_eq_false] at hb2
        have h3 := hb2 (p % 4) (List.mem_range.2 (by omega))
        simp only [Bool.and_eq_true, decide_eq_true_eq, not_and, Decidable.not_not] at h3
        exact (h3 (by omega)).symm
  rw [hpad, hfour j hj, ← hget j hj]
  have hb := hbad j hj
  have hxb : Byt ((leavesF 3 s root).getD j []) := by
    rw [List.getD_eq_getElem?_getD, List.getElem?_eq_getElem (by rw [leavesF_len]; exact hj), Option.getD_some]
    exact hby _ (List.getElem_mem _)
  generalize (leavesF 3 s root).getD j [] = xs at *
  unfold leafBytes
  by_cases hx : xs = []
  · rw [if_pos hx, hx]
    rfl
  · rw [if_neg hx]
    unfold leafBad at hb
    rw [decide_eq_true hx, Bool.true_and, Bool.or_eq_false_iff] at hb
    unfold leafOf
    rw [if_neg (by rw [hb.1]; simp)]
    exact (seal_opened key j xs hxb).symm

/-- a store that stands behind a turn is right -/
theorem TurnAt.chk {s t : List Blk} {root M : Int} (h : TurnAt s t root M) (hc : checkE s = 0) (hM : M ≤ 1000000) : checkE t = 0 := by
  have hl := h.len
  refine checkE_of t h.good.few (h.good.form_ok hM) fun j hj => ?_
  have := out_nn hc j (by omega)
  rw [h.out j (by omega)]
  split <;> omega
theorem TurnAt.drop {s t : List Blk} {root M : Int} (h : TurnAt s t root M) (hc : checkE s = 0) (hw : WfS s) (hM : M ≤ 1000000) (h0 : root ≠ 0) : dropR t root = (s, 0) := by
  have hchk := h.chk hc hM
  have hg := Good.of_check hc hw
  have hl := h.len
  obtain ⟨ht, -⟩ := h.rt.resolve_left h0
  obtain ⟨k, hk, hke, -⟩ := there_in ht
  have hks : k < s.length := by omega
  have hok := h.out k hks
  have hnn := out_nn hc k hks
  rw [hke, if_pos rfl] at hok
  have hpos : 0 < outA t k := by omega
  have hlo := drop_out t k hk hchk hpos
  have hlv := lv_of t (checkE_zero t hchk).2.1
  have hu : looseF 4 t ((k : Int) + 1) = s := by
    refine sub_unique t _ s hlv.1 hlv.2 hlo.sub (keeps_sub hg hl h.keeps) fun j hj => ?_
    rw [drop_outA t k hk hchk hpos j hj, h.out j (by omega), hke]
    by_cases e : j = k
    · rw [if_pos (by omega), if_pos e]; omega
    · rw [if_neg (by omega), if_neg e]; omega
  rw [hke]
  unfold dropR
  rw [if_neg (by simp [hchk]), ← hke, ht, if_neg (by simp), hke, outL_get _ (by omega) (by omega), show ((k : Int) + 1 - 1).toNat = k from by omega, if_neg (by omega), hu]
/-- the old files are there as they were -/
theorem TurnAt.file {s t : List Blk} {root M : Int} (h : TurnAt s t root M) (hc : checkE s = 0) (hw : WfS s) (hM : M ≤ 1000000) {key old z : Int} (hok : fileE s key old z = 0) : fileE t key old z = 0 ∧ fileB t key old z = fileB s key old z := by
  have hchk := h.chk hc hM
  have hg := Good.of_check hc hw
  obtain ⟨hk, h1, hz, hct, hfb⟩ := fileE_ok hok
  obtain ⟨-, m, hm3, hm, hroot, -, -⟩ := checkT_ok hct
  obtain rfl : m = 3 := by omega
  have hlv : leavesF 3 t old = leavesF 3 s old := by
    unfold leavesF
    apply List.map_congr_left
    intro i hi
    exact leaf_keeps hg h.keeps 3 old i (by omega) hroot (List.mem_range.1 hi)
  have hct2 : checkT t old (3 : Nat) ((0 : Nat) : Int) = 0 := checkT_mk hchk (by omega) (h.keeps.root hroot) (show 0 < p4n 3 by decide)
  have hct2 : checkT t old 3 0 = 0 := hct2
  constructor
  · unfold fileE
    rw [if_neg (by simp [hk]), if_neg (by omega), if_neg (by simp [hct2]), hlv, hfb, if_neg (by simp)]
  · unfold fileB
    rw [hlv]

/-- equal bytes: only the root is held once more -/
theorem turn_same (key : Int) (x : List Int) {r : List Blk × Int × Int} (h : r.2.2 = 0) : ∀ i, turnTo key x x r i = r := by
  intro i
  induction i with
  | zero => rfl
  | succ i ih =>
    show turnOne key x x i (turnTo key x x r i) = r
    rw [ih]
    unfold turnOne
    rw [if_neg (by simpa using h), if_pos rfl]
theorem turnR_same {s : List Blk} {key root z : Int} {b : List Int} (h : pad (fileB s key root z) = pad b) : turnR s key root z b = startR s root := by
  unfold turnR
  rw [h]
  exact turn_same key (pad b) rfl 64

/-- a turn without an error -/
structure TurnOk (s t : List Blk) (key rt M : Int) (b : List Int) : Prop where
  at_ : TurnAt s t rt M
  leaf : ∀ j, j < 64 → leafB 3 t rt j = leafOf key j (fourAt (pad b) j)
theorem TurnOk.file {s t : List Blk} {key rt M : Int} {b : List Int} (h : TurnOk s t key rt M b) (hc : checkE s = 0) (hM : M ≤ 1000000) (hk : keyE key 0 = 0) (hb : Byt b) (hl : b.length ≤ 256) : fileE t key rt b.length = 0 ∧ fileB t key rt b.length = b :=
  file_made (h.at_.chk hc hM) h.at_.rt hk hb hl h.leaf

theorem turnR_ok {s : List Blk} (hw : WfS s) {key root M0 : Int} {z : Nat} (hok : fileE s key root z = 0) (hfew : ∀ x ∈ s, x.refs ≤ M0) (hM : 1 ≤ M0) (hM2 : M0 ≤ 1000000) {b : List Int} (hb : Byt b) (hl : b.length ≤ 256) (he : (turnR s key root z b).2.2 = 0) :
    TurnOk s (turnR s key root z b).1 key (turnR s key root z b).2.1 (M0 + 833) b := by
  obtain ⟨hk, -, hz, hct, -⟩ := fileE_ok hok
  obtain ⟨hce, m, hm3, hm, hroot, -, -⟩ := checkT_ok hct
  obtain rfl : m = 3 := by omega
  have h64 : (64 : Nat) ≤ 64 := Nat.le_refl _
  have hlv := fun j hj => file_leaves hok hw j hj
  have hT : ∃ k : Nat, k = 64 ∧ Turned M0 s key (pad (fileB s key root z)) (pad b) (leavesF 3 s root) k (turnR s key root z b) := by
    unfold turnR at he ⊢
    generalize hke : (64 : Nat) = k at he h64 ⊢
    exact ⟨k, rfl, turned_all hce hw hroot hfew hM hM2 (pad_len b hl) (pad_byt hb) k (by omega) he⟩
  obtain ⟨k, rfl, hT⟩ := hT
  generalize turnR s key root z b = r at *
  have h1 := hT.at_
  refine ⟨⟨h1.good.weaken (by omega), h1.len, h1.keeps, h1.rt, h1.out⟩, fun j hj => ?_⟩
  rw [hT.leaf j hj]
  by_cases e : fourAt (pad (fileB s key root z)) j = fourAt (pad b) j
  · rw [if_neg (fun h => h.2 e), leaves_getD s root j hj, hlv j hj, e]
  · rw [if_pos ⟨hj, e⟩]

/-- there is no room, at worst -/
theorem turnTo_err {s : List Blk} (hc : checkE s = 0) (hw : WfS s) {root M0 : Int} (hr : RootAt s 3 root) (hfew : ∀ x ∈ s, x.refs ≤ M0) (hM : 1 ≤ M0) (hM2 : M0 ≤ 1000000) {key : Int} {was now : List Int} (hnow : now.length = 256) (hby : Byt now) :
    ∀ i, i ≤ 64 → (turnTo key was now (startR s root) i).2.2 = 0 ∨ (turnTo key was now (startR s root) i).2.2 = 8 := by
  intro i
  induction i with
  | zero => intro _; exact .inl rfl
  | succ i ih =>
    intro hi
    have hA := turned_all hc hw hr hfew hM hM2 (key := key) (was := was) hnow hby i (by omega)
    show (turnOne key was now i (turnTo key was now (startR s root) i)).2.2 = 0 ∨ _
    have hgo : (turnTo key was now (startR s root) (i + 1)) = turnOne key was now i (turnTo key was now (startR s root) i) := rfl
    rw [hgo]
    have ih := ih (by omega)
    clear hgo
    generalize turnTo key was now (startR s root) i = r at *
    unfold turnOne
    by_cases h0 : r.2.2 = 0
    · rw [if_neg (by simpa using h0)]
      have hT := hA h0
      by_cases e : fourAt was i = fourAt now i
      · rw [if_pos e]; exact .inl h0
      · rw [if_neg e]
        have hl := leafOf_len (key := key) (i := i) (fourAt_len now hnow i (by omega))
        have hse := set_err 3 r.1 r.2.1 i (leafOf key i (fourAt now i)) (M0 + 1 + 13 * i) (by omega) hT.at_.good (by omega) (by omega) hT.at_.rt (show i < 64 by omega) (leafOf_byt key i _) hl
        by_cases h1 : (setF 3 r.1 r.2.1 i (leafOf key i (fourAt now i))).2.2 = 0
        · rw [if_neg (by simpa using h1)]; exact .inl rfl
        · rw [if_pos h1]; exact hse
    · rw [if_pos h0]; exact ih

theorem turnR_err {s : List Blk} (hw : WfS s) {key root : Int} {z : Nat} (hok : fileE s key root z = 0) {b : List Int} (hb : Byt b) (hl : b.length ≤ 256) : (turnR s key root z b).2.2 = 0 ∨ (turnR s key root z b).2.2 = 8 := by
  obtain ⟨hk, -, hz, hct, -⟩ := fileE_ok hok
  obtain ⟨hce, m, hm3, hm, hroot, -, -⟩ := checkT_ok hct
  obtain rfl : m = 3 := by omega
  have h64 : (64 : Nat) ≤ 64 := Nat.le_refl _
  unfold turnR
  generalize hke : (64 : Nat) = k at h64 ⊢
  exact turnTo_err hce hw hroot (fun x hx => ((checkE_zero s hce).2.2.2.1 x hx).2) (by omega) (by omega) (pad_len b hl) (pad_byt hb) k (by omega)

/-- the empty file -/
theorem file_empty {s : List Blk} {key : Int} (hc : checkE s = 0) (hk : keyE key 0 = 0) : fileE s key 0 ((0 : Nat) : Int) = 0 ∧ fileB s key 0 ((0 : Nat) : Int) = [] := by
  have h := file_made (s := s) (root := 0) (b := []) hc (.inl rfl) hk (fun x hx => by cases hx) (by simp) fun j hj => ?_
  · exact h
  · rw [leafB_zero]
    have hz : zeroB (fourAt (pad []) j) = true := by
      rw [zeroB_iff]
      intro x hx
      have := List.mem_of_mem_drop (List.mem_of_mem_take hx)
      exact (List.mem_replicate.1 this).2
    unfold leafOf
    rw [if_pos hz]
end Go.Proofs.Ytgeacpfenhaioaa
