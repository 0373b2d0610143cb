/- rookeryref.FormOf: a leaf; all cases. -/
import Derived.Test.YtpfopbkaddjjcaaFormOf
namespace Go.Proofs.Ytpfopbkaddjjcaa
open Go.RowKit
set_option linter.unusedVariables false

set_option maxRecDepth 100000 in
theorem formOf_leaf (w : World) (ao ka ba : Option Addr) (n cap kc bc : Nat) (s : List Blk) (r : Int) (ks bs : List Int) (h1 : 0 < r) (h2 : r ≤ 1000000) (hk : ks.length = 0) (hb : bs.length = 4) :
    Calls Try.prog 70 #[.agg #[.slice ao n cap], .agg #[.int .i64 r, .int .i64 0, .slice ka 0 kc, .slice ba 4 bc]] w fun e w' => e = .returned (.int .i64 (formE s r 0 ks bs)) ∧ Below w.heap.size w w' := by
  have HK := Lib.hid hk
  have HB := Lib.hid hb
  clear hk hb
  go_enter Try.func70, Try.ntmps70
  go_wp2
  refine wp_loop_rounds 1 ?_
  rw [rounds_succ]
  go_wp2
  go_ret
  refine ⟨ret_int ?_, ((Below.refl _ _).alloc (Nat.le_refl _) _).alloc (by simp) _⟩
  have h9 := HK.out
  have h8 := HB.out
  unfold formE
  repeat' split
  all_goals omega

theorem formOf_any (w : World) (ao ka ba : Option Addr) (n cap nk kc nb bc : Nat) (s : List Blk) (r l : Int) (ks bs : List Int) (hn : s.length = n) (hn63 : n ≤ 1152921504606846976) (hs : StoRow w ao s) (hwf : WfS s) (hr : Row .i64 w ka ks)
    (hki : ∀ k ∈ ks, I64 k) (hk : ks.length = nk) (hb : bs.length = nb) :
    Calls Try.prog 70 #[.agg #[.slice ao n cap], .agg #[.int .i64 r, .int .i64 l, .slice ka nk kc, .slice ba nb bc]] w fun e w' => e = .returned (.int .i64 (formE s r l ks bs)) ∧ Below w.heap.size w w' := by
  by_cases h : 0 < r ∧ r ≤ 1000000 ∧ 1 ≤ l ∧ l ≤ 3 ∧ nk = 4 ∧ nb = 0
  · obtain ⟨h1, h2, h3, h4, rfl, rfl⟩ := h
    exact formOf_loop w ao ka ba n cap kc bc s r l ks bs hn hn63 hs hwf hr hki h1 h2 h3 h4 hk hb
  · by_cases h' : 0 < r ∧ r ≤ 1000000 ∧ l = 0 ∧ nk = 0 ∧ nb = 4
    · obtain ⟨h1, h2, rfl, rfl, rfl⟩ := h'
      exact formOf_leaf w ao ka ba n cap kc bc s r ks bs h1 h2 hk hb
    · exact formOf_early w ao ka ba n cap nk kc nb bc s r l ks bs hk hb h h'
end Go.Proofs.Ytpfopbkaddjjcaa
