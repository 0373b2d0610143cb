/- Plain facts of the file laws. -/
import Derived.Test.YtodogcokljmkmaaFileFacts
import Derived.Test.YtodogcokljmkmaaDiffer
namespace Go.Proofs.Ytodogcokljmkmaa
open Go.RowKit
set_option linter.unusedVariables false

theorem readR_cases (s : List Blk) (key root size at_ k : Int) :
    (fileE s key root size ≠ 0 ∧ readR s key root size at_ k = ([], fileE s key root size)) ∨ (fileE s key root size = 0 ∧ (at_ < 0 ∨ k < 0 ∨ 256 < at_ ∨ 256 < k) ∧ readR s key root size at_ k = ([], 3)) ∨
      (fileE s key root size = 0 ∧ ∃ q l z : Nat, at_ = q ∧ k = l ∧ size = z ∧ q ≤ 256 ∧ l ≤ 256 ∧ z ≤ 256 ∧ (fileB s key root z).length = z ∧ readR s key root size at_ k = (((fileB s key root z).take (min (q + l) z)).drop (min q z), 0)) := by
  unfold readR
  by_cases h : fileE s key root size = 0
  · right
    rw [if_neg (fun h1 => h1 h)]
    by_cases h1 : at_ < 0 ∨ k < 0 ∨ 256 < at_ ∨ 256 < k
    · left
      exact ⟨h, h1, by rw [if_pos h1]⟩
    · right
      obtain ⟨-, hz0, hz1, -, -⟩ := fileE_ok h
      obtain ⟨z, rfl⟩ : ∃ z : Nat, size = z := ⟨size.toNat, by omega⟩
      obtain ⟨q, rfl⟩ : ∃ q : Nat, at_ = q := ⟨at_.toNat, by omega⟩
      obtain ⟨l, rfl⟩ : ∃ l : Nat, k = l := ⟨k.toNat, by omega⟩
      have hl := fileB_len h
      refine ⟨h, q, l, z, rfl, rfl, rfl, by omega, by omega, by omega, hl, ?_⟩
      rw [if_neg h1, show ((q : Int) + (l : Int)).toNat = q + l from by omega, Int.toNat_natCast]
      congr 1
      generalize fileB s key root z = F at *
      refine ext_getD (by rw [List.length_drop, List.length_drop, List.length_take, List.length_take]; omega) fun j hj => ?_
      rw [List.length_drop, List.length_take] at hj
      rw [drop_getD, drop_getD, take_getD, take_getD, if_pos (by omega), if_pos (by omega)]
      congr 1
      omega
  · left
    exact ⟨h, by rw [if_pos h]⟩

theorem turnedR_ok {s : List Blk} {key root z : Int} {b : List Int} (h : (turnR s key root z b).2.2 = 0) : turnedR s key root z b = ((turnR s key root z b).1, ((turnR s key root z b).2.1, (b.length : Int)), 0) := by unfold turnedR; rw [if_pos h]
theorem turnedR_err {s : List Blk} {key root z : Int} {b : List Int} (h : (turnR s key root z b).2.2 ≠ 0) : turnedR s key root z b = ([], (0, 0), (turnR s key root z b).2.2) := by unfold turnedR; rw [if_neg h]

/-- equal leaves differ nowhere -/
theorem differ_none {t : List Blk} (hc : checkE t = 0) {a b : Int} (ha : RootAt t 3 a) (hb : RootAt t 3 b) (h : ∀ j, j < 64 → leafB 3 t a j = leafB 3 t b j) : differR t a b 3 = ([], 0) := by
  have h1 : checkT t a (3 : Nat) ((0 : Nat) : Int) = 0 := checkT_mk hc (by omega) ha (show 0 < p4n 3 by decide)
  have h2 : checkT t b (3 : Nat) ((0 : Nat) : Int) = 0 := checkT_mk hc (by omega) hb (show 0 < p4n 3 by decide)
  have h1 : checkT t a 3 0 = 0 := h1
  have h2 : checkT t b 3 0 = 0 := h2
  have h3 : diffF 3 t a b 0 = [] := by
    rw [diffF_eq 3 t a b 0 (Nat.le_refl _)]
    unfold diffL
    rw [List.map_eq_nil_iff, List.filter_eq_nil_iff]
    intro i hi
    have := h i (List.mem_range.1 hi)
    simpa using this
  unfold differR
  rw [if_neg (by simp [h1]), if_neg (by simp [h2])]
  exact Prod.ext h3 rfl

theorem overR_fresh (b : List Int) (h : b.length ≤ 256) : overR [] 0 b = (b, 0) := by
  unfold overR
  rw [if_neg (by omega), if_neg (by omega)]
  congr 1
  unfold overL
  split
  · rename_i e; exact e.symm
  · simp [splice, zeros]

end Go.Proofs.Ytodogcokljmkmaa
