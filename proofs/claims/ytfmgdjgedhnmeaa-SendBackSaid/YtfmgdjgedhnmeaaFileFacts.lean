/- The reference's files in plain words. · What a turn of a file keeps, gives and takes, in plain words. -/
import Derived.Test.YtfmgdjgedhnmeaaFileOver
import Derived.Test.YtfmgdjgedhnmeaaFileWrite
import Derived.Test.YtfmgdjgedhnmeaaSeal
import Derived.Test.YtfmgdjgedhnmeaaTurnF
namespace Go.Proofs.Ytfmgdjgedhnmeaa
open Go.RowKit
set_option linter.unusedVariables false

theorem ext_getD {a b : List Int} (h : a.length = b.length) (h2 : ∀ j, j < a.length → a.getD j 0 = b.getD j 0) : a = b := by
  refine List.ext_getElem h fun j h3 h4 => ?_
  have := h2 j h3
  rw [List.getD_eq_getElem?_getD, List.getD_eq_getElem?_getD, List.getElem?_eq_getElem h3, List.getElem?_eq_getElem h4] at this
  exact this
theorem zeros_getD (n j : Nat) : (zeros n).getD j 0 = 0 := by
  rw [List.getD_eq_getElem?_getD]
  unfold zeros
  rw [List.getElem?_replicate]
  split <;> rfl
theorem append_getD (a b : List Int) (j : Nat) : (a ++ b).getD j 0 = if j < a.length then a.getD j 0 else b.getD (j - a.length) 0 := by
  simp only [List.getD_eq_getElem?_getD, List.getElem?_append]
  split <;> rfl
theorem getD_out {a : List Int} {j : Nat} (h : a.length ≤ j) : a.getD j 0 = 0 := by
  rw [List.getD_eq_getElem?_getD, List.getElem?_eq_none h]; rfl
theorem append_zeros_getD (a : List Int) (n j : Nat) : (a ++ zeros n).getD j 0 = a.getD j 0 := by
  rw [append_getD]
  split
  · rfl
  · rename_i h
    rw [zeros_getD, getD_out (by omega)]
theorem take_getD (a : List Int) (k j : Nat) : (a.take k).getD j 0 = if j < k then a.getD j 0 else 0 := by
  simp only [List.getD_eq_getElem?_getD, List.getElem?_take]
  split <;> rfl
theorem drop_getD (a : List Int) (k j : Nat) : (a.drop k).getD j 0 = a.getD (k + j) 0 := by
  simp only [List.getD_eq_getElem?_getD, List.getElem?_drop]
end Go.Proofs.Ytfmgdjgedhnmeaa

namespace Go.Proofs.Ytfmgdjgedhnmeaa
open Go.RowKit
set_option linter.unusedVariables false

theorem fours_get (f : Nat → List Int) (h : ∀ i, (f i).length = 4) : ∀ k, ((List.range k).flatMap f).length = 4 * k ∧ ∀ i, i < k → (((List.range k).flatMap f).drop (i * 4)).take 4 = f i := by
  intro k
  induction k with
  | zero => exact ⟨rfl, fun i hi => by omega⟩
  | succ k ih =>
    obtain ⟨h1, h2⟩ := ih
    rw [List.range_succ, List.flatMap_append]
    simp only [List.flatMap_cons, List.flatMap_nil, List.append_nil]
    refine ⟨by rw [List.length_append, h1, h]; omega, fun i hi => ?_⟩
    by_cases e : i = k
    · subst e
      rw [List.drop_append_of_le_length (by omega), List.drop_eq_nil_of_le (by omega), List.nil_append, List.take_of_length_le (by rw [h]; omega)]
    · rw [List.drop_append_of_le_length (by omega), List.take_append_of_le_length (by rw [List.length_drop, h1]; omega)]
      exact h2 i (by omega)
theorem fours_all (B : List Int) (h : B.length = 256) : ∀ k, k ≤ 64 → (List.range k).flatMap (fourAt B) = B.take (k * 4) := by
  intro k
  induction k with
  | zero => intro _; simp
  | succ k ih =>
    intro hk
    rw [List.range_succ, List.flatMap_append, ih (by omega)]
    simp only [List.flatMap_cons, List.flatMap_nil, List.append_nil]
    rw [show (k + 1) * 4 = k * 4 + 4 from by omega, List.take_add]
    rfl
theorem four_zero {ys : List Int} (h : ys.length = 4) (hz : zeroB ys = true) : ys = [0, 0, 0, 0] := by
  rw [zeroB_iff] at hz
  match ys, h with
  | [a, b, c, d], _ =>
    have h1 := hz a (by simp)
    have h2 := hz b (by simp)
    have h3 := hz c (by simp)
    have h4 := hz d (by simp)
    subst h1 h2 h3 h4
    rfl

/-- what is put for four bytes reads as these -/
theorem leafOf_bytes {key : Int} {i : Nat} {ys : List Int} (h : ys.length = 4) (hb : Byt ys) : leafBytes key i (leafOf key i ys) = ys := by
  unfold leafBytes leafOf
  cases hz : zeroB ys with
  | true => simp only [if_true]; exact (four_zero h hz).symm
  | false =>
    simp only [Bool.false_eq_true, if_false]
    rw [if_neg (fun e => by
      have h2 := congrArg List.length e
      rw [sealL, sealed_length, h] at h2
      simp at h2)]
    exact open_sealed key i ys hb
theorem leafOf_bad {key size : Int} {i : Nat} {ys : List Int} (h : ys.length = 4) (hb : Byt ys) (hs : ∀ q : Nat, q < 4 → size ≤ (i : Int) * 4 + q → ys.getD q 0 = 0) : leafBad key size i (leafOf key i ys) = false := by
  unfold leafOf
  cases hz : zeroB ys with
  | true => rfl
  | false =>
    simp only [Bool.false_eq_true, if_false]
    have e : openL key i (sealL key i ys) = ys := open_sealed key i ys hb
    unfold leafBad
    rw [e, hz, Bool.false_or, show (sealL key i ys).length = 4 from (sealed_length _ _ _ _).trans h]
    have : behindB size i ys 4 = false := by
      unfold behindB
      rw [List.any_eq_false]
      intro q hq
      have hq := List.mem_range.1 hq
      simp only [Bool.and_eq_true, decide_eq_true_eq, not_and, Decidable.not_not]
      exact hs q hq
    rw [this, Bool.and_false]

theorem leaves_getD (s : List Blk) (root : Int) (j : Nat) (hj : j < 64) : (leavesF 3 s root).getD j [] = leafB 3 s root j := by
  rw [List.getD_eq_getElem?_getD, List.getElem?_eq_getElem (by rw [leavesF_len]; exact hj), Option.getD_some, leavesF_get]

/-- these leaves make that file -/
theorem file_made {s : List Blk} {key root : Int} {b : List Int} (hc : checkE s = 0) (hr : RootAt s 3 root) (hk : keyE key 0 = 0) (hb : Byt b) (hl : b.length ≤ 256) (hL : ∀ j, j < 64 → leafB 3 s root j = leafOf key j (fourAt (pad b) j)) :
    fileE s key root b.length = 0 ∧ fileB s key root b.length = b := by
  have hpl := pad_len b hl
  have hct : checkT s root (3 : Nat) ((0 : Nat) : Int) = 0 := checkT_mk hc (by omega) hr (show 0 < p4n 3 by decide)
  have hct : checkT s root 3 0 = 0 := hct
  constructor
  · unfold fileE
    rw [if_neg (by simp [hk]), if_neg (by omega), if_neg (by simp [hct]), if_neg]
    intro h
    unfold filesBad at h
    rw [List.any_eq_true] at h
    obtain ⟨i, hi, h⟩ := h
    have hi := List.mem_range.1 hi
    rw [leaves_getD s root i hi, hL i hi, leafOf_bad (fourAt_len _ hpl i hi) (fourAt_byt (pad_byt hb) i)] at h
    · cases h
    · intro q hq h1
      unfold fourAt pad
      rw [take_getD, if_pos hq, drop_getD, append_zeros_getD, getD_out (by omega)]
  · unfold fileB bytesTo
    have e : (List.range 64).flatMap (fun i => leafBytes key i ((leavesF 3 s root).getD i [])) = (List.range 64).flatMap (fourAt (pad b)) := by
      unfold List.flatMap
      congr 1
      apply List.map_congr_left
      intro i hi
      have hi := List.mem_range.1 hi
      rw [leaves_getD s root i hi, hL i hi]
      exact leafOf_bytes (fourAt_len _ hpl i hi) (fourAt_byt (pad_byt hb) i)
    rw [e, fours_all _ hpl 64 (Nat.le_refl _), Int.toNat_natCast, List.take_take, Nat.min_eq_left (by omega)]
    unfold pad
    rw [List.take_left' rfl]

theorem bytesTo_four {key : Int} {L : List (List Int)} (h : ∀ x ∈ L, x = [] ∨ x.length = 4) (i : Nat) (hi : i < 64) : fourAt (bytesTo key L 64) i = leafBytes key i (L.getD i []) := by
  refine (fours_get (fun i => leafBytes key i (L.getD i [])) (fun i => leafBytes_len ?_) 64).2 i hi
  by_cases hk : i < L.length
  · rw [List.getD_eq_getElem?_getD, List.getElem?_eq_getElem hk, Option.getD_some]
    exact h _ (List.getElem_mem hk)
  · rw [List.getD_eq_getElem?_getD, List.getElem?_eq_none (by omega)]
    exact .inl rfl

theorem filesBad_each {key size : Int} {L : List (List Int)} (h : filesBad key size L 64 = false) (i : Nat) (hi : i < 64) : leafBad key size i (L.getD i []) = false := by
  unfold filesBad at h
  rw [List.any_eq_false] at h
  simpa using h i (List.mem_range.2 hi)

/-- a right file's leaves are those of its bytes -/
theorem file_leaves {s : List Blk} {key root : Int} {z : Nat} (hok : fileE s key root z = 0) (hw : WfS s) (j : Nat) (hj : j < 64) : leafB 3 s root j = leafOf key j (fourAt (pad (fileB s key root z)) j) := by
  obtain ⟨hk, -, hz, hct, hfb⟩ := fileE_ok hok
  obtain ⟨hce, m, hm3, hm, hroot, -, -⟩ := checkT_ok hct
  obtain rfl : m = 3 := by omega
  have h4 := leaf_four (checkE_zero s hce).2.1 (by omega) hroot
  have hlen := bytesTo_len (key := key) h4 64
  have hget : ∀ i, i < 64 → (leavesF 3 s root).getD i [] = leafB 3 s root i := leaves_getD s root
  have hby := leavesF_byt hw 3 root
  have hbad := fun i hi => filesBad_each hfb i hi
  have hfour := fun i hi => bytesTo_four (key := key) h4 i hi
  have hpad : pad (fileB s key root z) = bytesTo key (leavesF 3 s root) 64 := by
    unfold fileB
    rw [Int.toNat_natCast]
    have hpl := pad_len ((bytesTo key (leavesF 3 s root) 64).take z) (by rw [List.length_take]; omega)
    refine ext_getD (by omega) fun p hp => ?_
    unfold pad
    rw [append_zeros_getD, take_getD]
    by_cases h1 : p < z
    · rw [if_pos h1]
    · rw [if_neg h1]
      have hp64 : p / 4 < 64 := by omega
      have e1 : (bytesTo key (leavesF 3 s root) 64).getD p 0 = (fourAt (bytesTo key (leavesF 3 s root) 64) (p / 4)).getD (p % 4) 0 := by
        unfold fourAt
        rw [take_getD, if_pos (by omega), drop_getD]
        congr 1
        omega
      rw [e1, hfour _ hp64]
      have hb := hbad _ hp64
      have hx4 : (leavesF 3 s root).getD (p / 4) [] = [] ∨ ((leavesF 3 s root).getD (p / 4) []).length = 4 := by
        rw [List.getD_eq_getElem?_getD, List.getElem?_eq_getElem (by rw [leavesF_len]; exact hp64), Option.getD_some]
        exact h4 _ (List.getElem_mem _)
      generalize (leavesF 3 s root).getD (p / 4) [] = xs at *
      unfold leafBytes
      by_cases hx : xs = []
      · rw [if_pos hx]
        have : p % 4 = 0 ∨ p % 4 = 1 ∨ p % 4 = 2 ∨ p % 4 = 3 := by omega
        rcases this with e | e | e | e <;> rw [e] <;> rfl
      · rw [if_neg hx]
        have hx4 := hx4.resolve_left hx
        unfold leafBad at hb
        rw [decide_eq_true hx, Bool.true_and, hx4, Bool.or_eq_false_iff] at hb
        have hb2 := hb.2
        unfold behindB at hb2
        rw [List.any_eq_false] at hb2
        have h3 := hb2 (p % 4) (List.mem_range.2 (by omega))
        simp only [Bool.and_eq_true, decide_eq_true_eq, not_and, Decidable.not_not] at h3
        exact (h3 (by omega)).symm
  rw [hpad, hfour j hj, ← hget j hj]
  have hb := hbad j hj
  have hxb : Byt ((leavesF 3 s root).getD j []) := by
    rw [List.getD_eq_getElem?_getD, List.getElem?_eq_getElem (by rw [leavesF_len]; exact hj), Option.getD_some]
    exact hby _ (List.getElem_mem _)
  generalize (leavesF 3 s root).getD j [] = xs at *
  unfold leafBytes
  by_cases hx : xs = []
  · rw [if_pos hx, hx]
    rfl
  · rw [if_neg hx]
    unfold leafBad at hb
    rw [decide_eq_true hx, Bool.true_and, Bool.or_eq_false_iff] at hb
    unfold leafOf
    rw [if_neg (by rw [hb.1]; simp)]
    exact (seal_opened key j xs hxb).symm

/-- a turn without an error -/
structure TurnOk (s t : List Blk) (key rt M : Int) (b : List Int) : Prop where
  at_ : TurnAt s t rt M
  leaf : ∀ j, j < 64 → leafB 3 t rt j = leafOf key j (fourAt (pad b) j)
theorem turnR_ok {s : List Blk} (hw : WfS s) {key root M0 : Int} {z : Nat} (hok : fileE s key root z = 0) (hfew : ∀ x ∈ s, x.refs ≤ M0) (hM : 1 ≤ M0) (hM2 : M0 ≤ 1000000) {b : List Int} (hb : Byt b) (hl : b.length ≤ 256) (he : (turnR s key root z b).2.2 = 0) :
    TurnOk s (turnR s key root z b).1 key (turnR s key root z b).2.1 (M0 + 833) b := by
  obtain ⟨hk, -, hz, hct, -⟩ := fileE_ok hok
  obtain ⟨hce, m, hm3, hm, hroot, -, -⟩ := checkT_ok hct
  obtain rfl : m = 3 := by omega
  have h64 : (64 : Nat) ≤ 64 := Nat.le_refl _
  have hlv := fun j hj => file_leaves hok hw j hj
  have hT : ∃ k : Nat, k = 64 ∧ Turned M0 s key (pad (fileB s key root z)) (pad b) (leavesF 3 s root) k (turnR s key root z b) := by
    unfold turnR at he ⊢
    generalize hke : (64 : Nat) = k at he h64 ⊢
    exact ⟨k, rfl, turned_all hce hw hroot hfew hM hM2 (pad_len b hl) (pad_byt hb) k (by omega) he⟩
  obtain ⟨k, rfl, hT⟩ := hT
  generalize turnR s key root z b = r at *
  have h1 := hT.at_
  refine ⟨⟨h1.good.weaken (by omega), h1.len, h1.keeps, h1.rt, h1.out⟩, fun j hj => ?_⟩
  rw [hT.leaf j hj]
  by_cases e : fourAt (pad (fileB s key root z)) j = fourAt (pad b) j
  · rw [if_neg (fun h => h.2 e), leaves_getD s root j hj, hlv j hj, e]
  · rw [if_pos ⟨hj, e⟩]

/-- the empty file -/
theorem file_empty {s : List Blk} {key : Int} (hc : checkE s = 0) (hk : keyE key 0 = 0) : fileE s key 0 ((0 : Nat) : Int) = 0 ∧ fileB s key 0 ((0 : Nat) : Int) = [] := by
  have h := file_made (s := s) (root := 0) (b := []) hc (.inl rfl) hk (fun x hx => by cases hx) (by simp) fun j hj => ?_
  · exact h
  · rw [leafB_zero]
    have hz : zeroB (fourAt (pad []) j) = true := by
      rw [zeroB_iff]
      intro x hx
      have := List.mem_of_mem_drop (List.mem_of_mem_take hx)
      exact (List.mem_replicate.1 this).2
    unfold leafOf
    rw [if_pos hz]
end Go.Proofs.Ytfmgdjgedhnmeaa
