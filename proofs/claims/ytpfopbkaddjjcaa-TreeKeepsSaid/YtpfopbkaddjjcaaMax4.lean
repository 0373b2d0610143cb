/- slices.Max over integers that are not below 0. -/
import Derived.Test.YtpfopbkaddjjcaaOwnSto
namespace Go.Proofs.Ytpfopbkaddjjcaa
open Go.RowKit
set_option linter.unusedVariables false

set_option maxRecDepth 100000 in
set_option maxHeartbeats 1000000 in
theorem max_int (w : World) (ao : Option Addr) (n cap : Nat) (xs : List Int) (hn : xs.length = n) (h1 : 1 ≤ n) (h63 : n ≤ 1000) (hr : Row .i64 w ao xs) (hx : ∀ x ∈ xs, 0 ≤ x ∧ x ≤ 1000000) :
    Calls Try.prog 96 #[.slice ao n cap] w fun e w' => ∃ r : Int, e = .returned (.int .i64 r) ∧ (r = 0 ↔ ∀ x ∈ xs, x = 0) ∧ w' = w := by
  have HN := Lib.hid hn
  have h0s : 0 < xs.length := by omega
  obtain ⟨b, o, rfl, hq⟩ := hr.at 0 h0s
  have hc0 := hq 0 h0s
  rw [Nat.add_zero] at hc0
  have lb := World.block_lt_of_cell? _ _ hc0
  have hx0 := hx _ (List.getElem_mem h0s)
  have HT1 : Hid (xs.take 1 = [xs[0]]) := Lib.hid (by rw [List.take_succ_eq_append_getElem h0s]; rfl)
  have hn1 : ¬ ((n : Int) < 1) := by omega
  have hn2 : (0 : Int) < n := by omega
  clear hn
  generalize xs[0] = y0 at *
  go_enter Try.func96, Try.ntmps96
  go_wp2
  go_loop [3, 4] (fun u i => ∃ (k : Nat) (v : Int), 1 ≤ k ∧ k ≤ n ∧ i = .int .i64 k ∧ u = .int .i64 v ∧ 0 ≤ v ∧ v ≤ 1000000 ∧ Hid (v = 0 ↔ ∀ x ∈ xs.take k, x = 0)) (fun _ i => n - (intOf i).toNat)
  case atStart => exact ⟨1, y0, by omega, by omega, rfl, rfl, hx0.1, hx0.2, Lib.hid (by rw [HT1.out]; simp)⟩
  case round =>
    obtain ⟨k, v, hk1, hkn, rfl, rfl, hv0, hv1, HV⟩ := hrel
    by_cases hlt : k < n
    · have hks : k < xs.length := by have := HN.out; omega
      have hck := hq k hks
      have hxk := hx _ (List.getElem_mem hks)
      have hts := List.take_succ_eq_append_getElem hks
      have HTS := Lib.hid hts
      have hkn2 : (k : Int) < n := by omega
      clear hts hc0
      generalize xs[k] = y at *
      have HM : Hid ((if v < y then y else v) = 0 ↔ ∀ x ∈ xs.take (k + 1), x = 0) := Lib.hid (by
        rw [HTS.out]
        simp only [List.mem_append, List.mem_singleton]
        constructor
        · intro h x hxx
          rcases hxx with e | e
          · exact HV.out.1 (by split at h <;> omega) x e
          · rw [e]; split at h <;> omega
        · intro h
          have e1 := HV.out.2 fun x hxx => h x (.inl hxx)
          have e2 := h y (.inr rfl)
          split <;> omega)
      have hb2 : 0 ≤ (if v < y then y else v) ∧ (if v < y then y else v) ≤ 1000000 := by split <;> omega
      clear hq
      go_wp2
      go_round
      case rel => exact ⟨k + 1, _, by omega, by omega, by go_num, rfl, hb2.1, hb2.2, HM⟩
      case measure => simp [intOf]; omega
    · obtain rfl : k = n := by omega
      have HE := Lib.hid (show v = 0 ↔ ∀ x ∈ xs, x = 0 by
        have := HV.out
        rwa [List.take_of_length_le (by have := HN.out; omega)] at this)
      go_wp2
      go_ret
      exact ⟨_, rfl, HE.out, rfl⟩
end Go.Proofs.Ytpfopbkaddjjcaa
