/- rookerylaw.crowded: is some block held very often? · rookerylaw.filed: a closed fact. -/
import Derived.Laws.BytesArg
import Derived.Lib.SlBytesConst
import Derived.Test.YtfmgdjgedhnmeaaPut
import Derived.Test.YtfmgdjgedhnmeaaFileFacts
namespace Go.Proofs.Ytfmgdjgedhnmeaa
open Go.RowKit
set_option linter.unusedVariables false

def crowdB (s : List Blk) : Bool := s.any fun x => decide (999000 < x.refs)
theorem crowdB_at {s : List Blk} {k : Nat} (h : k < s.length) (h1 : 999000 < s[k].refs) : crowdB s = true := by
  unfold crowdB
  rw [List.any_eq_true]
  exact ⟨_, List.getElem_mem h, by simpa using h1⟩
theorem crowdB_none {s : List Blk} (h : ∀ j (hj : j < s.length), ¬ 999000 < s[j].refs) : crowdB s = false := by
  rw [Bool.eq_false_iff]
  intro h2
  unfold crowdB at h2
  rw [List.any_eq_true] at h2
  obtain ⟨x, hx, h3⟩ := h2
  obtain ⟨j, hj, rfl⟩ := List.getElem_of_mem hx
  exact h j hj (by simpa using h3)
theorem crowd_one (w : World) (b : Blk) (kv bv : Value) (hk : ∃ a n c, kv = .slice a n c) (hb : ∃ a n c, bv = .slice a n c) :
    Calls Try.prog 38 #[.agg #[.int .i64 b.refs, .int .i64 b.level, kv, bv]] w fun e w' => e = .returned (.bool (decide (999000 < b.refs))) ∧ Below w.heap.size w w' := by
  obtain ⟨a1, n1, c1, rfl⟩ := hk
  obtain ⟨a2, n2, c2, rfl⟩ := hb
  go_enter Try.func38, Try.ntmps38
  go_wp2
  go_ret
  exact ⟨rfl, (Below.refl _ _).alloc (Nat.le_refl _) _⟩

set_option maxRecDepth 100000 in
set_option maxHeartbeats 1000000 in
theorem indexCrowd (w : World) (ao : Option Addr) (n cap : Nat) (s : List Blk) (hn : s.length = n) (h41 : n ≤ 2199023255552) (hs : StoRow w ao s) :
    Calls Try.prog 80 #[.slice ao n cap, .func (.func 38) #[] #[]] w fun e w' => ∃ r : Int, e = .returned (.int .i64 r) ∧ decide (0 ≤ r) = crowdB s ∧ Below w.heap.size w w' := by
  have HN := Lib.hid hn
  clear hn
  go_enter Try.func80, Try.ntmps80
  go_wp2
  go_loopw [8] (fun i wr => ∃ k : Nat, k ≤ n ∧ i = .int .i64 k ∧ Hid (∀ j (hj : j < s.length), j < k → s[j].refs ≤ 999000) ∧ Below w.heap.size w wr) (fun i _ => n - (intOf i).toNat)
  case atStart => exact ⟨0, Nat.zero_le _, rfl, Lib.hid fun j _ hj => absurd hj (Nat.not_lt_zero _), Below.refl _ _⟩
  case round =>
    obtain ⟨k, hkn, rfl, HNO, hbel⟩ := hrel
    by_cases hlt : k < n
    · have hks : k < s.length := by have := HN.out; omega
      obtain ⟨b, o, rfl, hq⟩ := (hs.mono hbel).at k hks
      have hB := hq k hks
      have c0 := hB.refs
      have c1 := hB.level
      obtain ⟨v2, c2, kao, kcap, rfl, hrow, hcd⟩ := hB.kids
      obtain ⟨v3, c3, bao, bcap, rfl, hrow3, hcd3⟩ := hB.bytes
      have lb := hB.lt
      clear hq hB hrow hrow3 hcd hcd3
      go_wp2_with fail
      refine (crowd_one _ s[k] _ _ ⟨_, _, _, rfl⟩ ⟨_, _, _, rfl⟩).mono ?_
      rintro e w2 ⟨rfl, hb2⟩
      by_cases h0 : 999000 < s[k].refs
      · have hb : decide (999000 < s[k].refs) = true := by simpa using h0
        have HF := Lib.hid (crowdB_at hks h0)
        clear h0
        go_wp2
        go_ret
        exact ⟨_, rfl, by rw [HF.out]; simp, below_step hbel hb2⟩
      · have hb : decide (999000 < s[k].refs) = false := by simpa using h0
        have H0 := Lib.hid (show s[k].refs ≤ 999000 by omega)
        clear h0
        go_wp2
        go_roundw
        case rel =>
          refine ⟨k + 1, by omega, by go_num, Lib.hid fun j hj hjk => ?_, below_step hbel hb2⟩
          rcases (show j < k ∨ j = k from by omega) with e | rfl
          · exact HNO.out j hj e
          · exact H0.out
        case measure => simp [intOf]; omega
    · obtain rfl : k = n := by omega
      have HF := Lib.hid (crowdB_none fun j hj => by have := HNO.out j hj (by have := HN.out; omega); omega)
      go_wp2
      go_ret
      exact ⟨_, rfl, by rw [HF.out]; rfl, hbel⟩

set_option maxRecDepth 100000 in
theorem containsCrowd (w : World) (ao : Option Addr) (n cap : Nat) (s : List Blk) (hn : s.length = n) (h41 : n ≤ 2199023255552) (hs : StoRow w ao s) :
    Calls Try.prog 37 #[.slice ao n cap, .func (.func 38) #[] #[]] w fun e w' => e = .returned (.bool (crowdB s)) ∧ Below w.heap.size w w' := by
  have HN := Lib.hid hn
  clear hn
  go_enter Try.func37, Try.ntmps37
  go_wp2_with fail
  refine (indexCrowd _ _ _ _ s HN.out h41 hs).mono ?_
  rintro e w1 ⟨r, rfl, hr, hb1⟩
  have HR := Lib.hid hr
  clear hr
  go_wp2
  go_ret
  exact ⟨by rw [← HR.out]; rfl, hb1⟩

set_option maxRecDepth 100000 in
theorem crowded_any (w : World) (ao : Option Addr) (n cap : Nat) (s : List Blk) (hn : s.length = n) (h41 : n ≤ 2199023255552) (hs : StoRow w ao s) :
    Calls Try.prog 14 #[.agg #[.slice ao n cap]] w fun e w' => e = .returned (.bool (crowdB s)) ∧ Below w.heap.size w w' := by
  have HN := Lib.hid hn
  clear hn
  have hb0 : Below w.heap.size w (w.alloc (.cells #[.slice ao n cap] 24)) := (Below.refl _ _).alloc (Nat.le_refl _) _
  go_enter Try.func14, Try.ntmps14
  go_wp2_with fail
  refine (containsCrowd _ _ _ _ s HN.out h41 (hs.mono hb0)).mono ?_
  rintro e w1 ⟨rfl, hb1⟩
  go_wp2
  go_ret
  exact ⟨rfl, below_step hb0 hb1⟩
end Go.Proofs.Ytfmgdjgedhnmeaa

namespace Go.Proofs.Ytfmgdjgedhnmeaa
open Go.RowKit
set_option linter.unusedVariables false

end Go.Proofs.Ytfmgdjgedhnmeaa
