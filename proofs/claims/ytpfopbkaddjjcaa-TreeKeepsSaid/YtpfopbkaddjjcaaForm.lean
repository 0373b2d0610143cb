/- store.form, rookeryref.FormOf: what is wrong with a block by itself. -/
import Derived.Test.YtpfopbkaddjjcaaStoW
namespace Go.Proofs.Ytpfopbkaddjjcaa
open Go.RowKit
set_option linter.unusedVariables false

theorem level_in {s : List Blk} {a : Int} (h : thereB s a = true) : ∃ k : Nat, k < s.length ∧ a = k + 1 ∧ blk s a = s[k]?.getD noBlk := by
  obtain ⟨k, hk, rfl, _⟩ := there_in h
  exact ⟨k, hk, rfl, by rw [blk_at s k hk]; simp [hk]⟩

/-- how many of these aren't 0 -/
def nz (l : List Int) : Int := ((l.filter fun k => decide (k ≠ 0)).length : Nat)
theorem nz_snoc (l : List Int) (k : Int) : nz (l ++ [k]) = nz l + if k = 0 then 0 else 1 := by
  unfold nz
  rw [List.filter_append]
  by_cases h : k = 0 <;> simp [h]
theorem nz_bd (l : List Int) : 0 ≤ nz l ∧ nz l ≤ l.length := by
  unfold nz
  have := List.length_filter_le (fun k : Int => decide (k ≠ 0)) l
  omega
theorem nz_zero (l : List Int) : (nz l = 0) ↔ l.all (fun k => decide (k = 0)) = true := by
  unfold nz
  simp [List.filter_eq_nil_iff, Int.natCast_eq_zero, List.length_eq_zero_iff]

set_option maxRecDepth 100000 in
set_option maxHeartbeats 1000000 in
theorem form_early (w : World) (ao ka ba : Option Addr) (n cap nk kc nb bc : Nat) (s : List Blk) (r l : Int) (ks bs : List Int) (hk : ks.length = nk) (hb : bs.length = nb) (hnk : nk ≤ 17592186044416) (hnb : nb ≤ 140737488351232)
    (hl : ¬ (0 < r ∧ r ≤ 1000000 ∧ 1 ≤ l ∧ l ≤ 3 ∧ nk = 4 ∧ nb = 0)) :
    Calls Try.prog 64 #[.agg #[.slice ao n cap], .agg #[.int .i64 r, .int .i64 l, .slice ka nk kc, .slice ba nb bc]] w fun e w' => e = .returned (.int .i64 (formE s r l ks bs)) ∧ Below w.heap.size w w' := by
  have HK := Lib.hid hk
  have HB := Lib.hid hb
  have hs : IntKind.i64.wrap ((nk : Int) + nb) = (nk : Int) + nb := IntWalk.i64_in _ (by omega)
  clear hk hb hnk hnb
  rcases (show r < 0 ∨ r = 0 ∨ (0 < r ∧ r ≤ 1000000) ∨ 1000000 < r from by omega) with h1 | rfl | ⟨h1, h2⟩ | h1
  rotate_left
  · rcases (show l < 0 ∨ l = 0 ∨ 0 < l from by omega) with h2 | rfl | h2
    rotate_left
    · by_cases h3 : 0 < nk + nb
      rotate_left
      · obtain ⟨rfl, rfl⟩ : nk = 0 ∧ nb = 0 := by omega
        clear h3 hl hs
        go_enter Try.func64, Try.ntmps64
        go_wp2
        go_ret
        refine ⟨ret_int ?_, ((Below.refl _ _).alloc (Nat.le_refl _) _).alloc (by simp) _⟩
        have h9 := HK.out
        have h8 := HB.out
        unfold formE
        repeat' split
        all_goals omega
      · clear hl
        have h4 : (0 : Int) < (nk : Int) + nb := by omega
        go_enter Try.func64, Try.ntmps64
        go_wp2
        go_ret
        refine ⟨ret_int ?_, ((Below.refl _ _).alloc (Nat.le_refl _) _).alloc (by simp) _⟩
        have h9 := HK.out
        have h8 := HB.out
        unfold formE
        repeat' split
        all_goals omega
    · clear hl
      go_enter Try.func64, Try.ntmps64
      go_wp2
      go_ret
      refine ⟨ret_int ?_, ((Below.refl _ _).alloc (Nat.le_refl _) _).alloc (by simp) _⟩
      have h9 := HK.out
      have h8 := HB.out
      unfold formE
      repeat' split
      all_goals omega
    · clear hl
      go_enter Try.func64, Try.ntmps64
      go_wp2
      go_ret
      refine ⟨ret_int ?_, ((Below.refl _ _).alloc (Nat.le_refl _) _).alloc (by simp) _⟩
      have h9 := HK.out
      have h8 := HB.out
      unfold formE
      repeat' split
      all_goals omega
  · rcases (show l < 0 ∨ l = 0 ∨ (1 ≤ l ∧ l ≤ 3) ∨ 3 < l from by omega) with h3 | rfl | ⟨h3, h4⟩ | h3
    rotate_left
    · rcases (show nk = 0 ∨ 0 < nk from by omega) with rfl | h4
      · rcases (show nb < 4 ∨ nb = 4 ∨ 4 < nb from by omega) with h5 | rfl | h5
        all_goals
          clear hl hs
          go_enter Try.func64, Try.ntmps64
          go_wp2
          go_ret
          refine ⟨ret_int ?_, ((Below.refl _ _).alloc (Nat.le_refl _) _).alloc (by simp) _⟩
          have h9 := HK.out
          have h8 := HB.out
          unfold formE
          repeat' split
          all_goals omega
      · clear hl
        go_enter Try.func64, Try.ntmps64
        go_wp2
        go_ret
        refine ⟨ret_int ?_, ((Below.refl _ _).alloc (Nat.le_refl _) _).alloc (by simp) _⟩
        have h9 := HK.out
        have h8 := HB.out
        unfold formE
        repeat' split
        all_goals omega
    · rcases (show nk < 4 ∨ nk = 4 ∨ 4 < nk from by omega) with h5 | rfl | h5
      rotate_left
      · have h6 : 0 < nb := by omega
        clear hl
        go_enter Try.func64, Try.ntmps64
        go_wp2
        go_ret
        refine ⟨ret_int ?_, ((Below.refl _ _).alloc (Nat.le_refl _) _).alloc (by simp) _⟩
        have h9 := HK.out
        have h8 := HB.out
        unfold formE
        repeat' split
        all_goals omega
      · clear hl
        go_enter Try.func64, Try.ntmps64
        go_wp2
        go_ret
        refine ⟨ret_int ?_, ((Below.refl _ _).alloc (Nat.le_refl _) _).alloc (by simp) _⟩
        have h9 := HK.out
        have h8 := HB.out
        unfold formE
        repeat' split
        all_goals omega
      · clear hl
        go_enter Try.func64, Try.ntmps64
        go_wp2
        go_ret
        refine ⟨ret_int ?_, ((Below.refl _ _).alloc (Nat.le_refl _) _).alloc (by simp) _⟩
        have h9 := HK.out
        have h8 := HB.out
        unfold formE
        repeat' split
        all_goals omega
    · clear hl
      go_enter Try.func64, Try.ntmps64
      go_wp2
      go_ret
      refine ⟨ret_int ?_, ((Below.refl _ _).alloc (Nat.le_refl _) _).alloc (by simp) _⟩
      have h9 := HK.out
      have h8 := HB.out
      unfold formE
      repeat' split
      all_goals omega
    · clear hl
      go_enter Try.func64, Try.ntmps64
      go_wp2
      go_ret
      refine ⟨ret_int ?_, ((Below.refl _ _).alloc (Nat.le_refl _) _).alloc (by simp) _⟩
      have h9 := HK.out
      have h8 := HB.out
      unfold formE
      repeat' split
      all_goals omega
  · clear hl
    go_enter Try.func64, Try.ntmps64
    go_wp2
    go_ret
    refine ⟨ret_int ?_, ((Below.refl _ _).alloc (Nat.le_refl _) _).alloc (by simp) _⟩
    have h9 := HK.out
    have h8 := HB.out
    unfold formE
    repeat' split
    all_goals omega
  · clear hl
    go_enter Try.func64, Try.ntmps64
    go_wp2
    go_ret
    refine ⟨ret_int ?_, ((Below.refl _ _).alloc (Nat.le_refl _) _).alloc (by simp) _⟩
    have h9 := HK.out
    have h8 := HB.out
    unfold formE
    repeat' split
    all_goals omega
end Go.Proofs.Ytpfopbkaddjjcaa
