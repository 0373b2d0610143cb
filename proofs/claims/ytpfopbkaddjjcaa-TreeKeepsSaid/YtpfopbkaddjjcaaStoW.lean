/- The store's small functions: what they compute. -/
import Derived.Test.YtpfopbkaddjjcaaSto
import Derived.Test.YtpfopbkaddjjcaaSlices
namespace Go.Proofs.Ytpfopbkaddjjcaa
open Go.RowKit
set_option linter.unusedVariables false

theorem there_any (w : World) (ao : Option Addr) (n cap : Nat) (s : List Blk) (a : Int) (hn : s.length = n) (hs : n ≤ 1152921504606846976) (hr : StoRow w ao s) :
    Calls Try.prog 66 #[.agg #[.slice ao n cap], .int .i64 a] w fun e w' => e = .returned (.bool (thereB s a)) ∧ Below w.heap.size w w' := by
  subst hn
  rcases (show a < 1 ∨ (1 ≤ a ∧ (s.length : Int) < a) ∨ (1 ≤ a ∧ a ≤ s.length) from by omega) with h | ⟨h1, h2⟩ | ⟨h1, h2⟩
  · have ht := Lib.hid (there_low s a h)
    go_enter Try.func66, Try.ntmps66
    go_wp2
    go_ret
    exact ⟨ret_bool ht.out.symm, (Below.refl _ _).alloc (Nat.le_refl _) _⟩
  · have ht := Lib.hid (there_high s a h2)
    go_enter Try.func66, Try.ntmps66
    go_wp2
    go_ret
    exact ⟨ret_bool ht.out.symm, (Below.refl _ _).alloc (Nat.le_refl _) _⟩
  · obtain ⟨k, rfl⟩ : ∃ k : Nat, a = k + 1 := ⟨(a - 1).toNat, by omega⟩
    have hk : k < s.length := by omega
    have ht := Lib.hid (there_at s k hk)
    obtain ⟨b, o, rfl, hb⟩ := hr.at k hk
    have hc := (hb k hk).refs
    have hl := (hb k hk).lt
    clear hr hb
    go_enter Try.func66, Try.ntmps66
    go_wp2
    go_ret
    exact ⟨ret_bool ht.out.symm, (Below.refl _ _).alloc (Nat.le_refl _) _⟩

theorem ref_there (w : World) (ao : Option Addr) (n cap : Nat) (s : List Blk) (a : Int) (hn : s.length = n) (hs : n ≤ 1152921504606846976) (hr : StoRow w ao s) :
    Calls Try.prog 39 #[.agg #[.slice ao n cap], .int .i64 a] w fun e w' => e = .returned (.bool (thereB s a)) ∧ Below w.heap.size w w' := by
  subst hn
  rcases (show a < 1 ∨ (1 ≤ a ∧ (s.length : Int) < a) ∨ (1 ≤ a ∧ a ≤ s.length) from by omega) with h | ⟨h1, h2⟩ | ⟨h1, h2⟩
  · have ht := Lib.hid (there_low s a h)
    go_enter Try.func39, Try.ntmps39
    go_wp2
    go_ret
    exact ⟨ret_bool ht.out.symm, (Below.refl _ _).alloc (Nat.le_refl _) _⟩
  · have ht := Lib.hid (there_high s a h2)
    go_enter Try.func39, Try.ntmps39
    go_wp2
    go_ret
    exact ⟨ret_bool ht.out.symm, (Below.refl _ _).alloc (Nat.le_refl _) _⟩
  · obtain ⟨k, rfl⟩ : ∃ k : Nat, a = k + 1 := ⟨(a - 1).toNat, by omega⟩
    have hk : k < s.length := by omega
    have ht := Lib.hid (there_at s k hk)
    obtain ⟨b, o, rfl, hb⟩ := hr.at k hk
    have hc := (hb k hk).refs
    have hl := (hb k hk).lt
    clear hr hb
    go_enter Try.func39, Try.ntmps39
    go_wp2
    go_ret
    exact ⟨ret_bool ht.out.symm, (Below.refl _ _).alloc (Nat.le_refl _) _⟩

theorem there_any_is (w : World) (ao : Option Addr) (n cap : Nat) (s : List Blk) (a : Int) (v : Bool) (hv : thereB s a = v) (hn : s.length = n) (hs : n ≤ 1152921504606846976) (hr : StoRow w ao s) :
    Calls Try.prog 66 #[.agg #[.slice ao n cap], .int .i64 a] w fun e w' => e = .returned (.bool v) ∧ Below w.heap.size w w' := by
  subst hv
  exact there_any w ao n cap s a hn hs hr

theorem ref_there_is (w : World) (ao : Option Addr) (n cap : Nat) (s : List Blk) (a : Int) (v : Bool) (hv : thereB s a = v) (hn : s.length = n) (hs : n ≤ 1152921504606846976) (hr : StoRow w ao s) :
    Calls Try.prog 39 #[.agg #[.slice ao n cap], .int .i64 a] w fun e w' => e = .returned (.bool v) ∧ Below w.heap.size w w' := by
  subst hv
  exact ref_there w ao n cap s a hn hs hr
end Go.Proofs.Ytpfopbkaddjjcaa
