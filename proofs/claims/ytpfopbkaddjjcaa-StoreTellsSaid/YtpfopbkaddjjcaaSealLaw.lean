/- rookerylaw.sealed, SealSays: the walks -/
import Derived.Test.YtpfopbkaddjjcaaSealRef
import Derived.Test.YtpfopbkaddjjcaaSlices
namespace Go.Proofs.Ytpfopbkaddjjcaa
open Go.RowKit
set_option linter.unusedVariables false

theorem row_lit (k : IntKind) (t : TypeId) (w : World) (xs : List Int) (cs : Array Value) (h : cs = icells k xs) (g : Nat) (hg : g = w.heap.size) : Row k (w.alloc (.cells cs t)) (some ⟨g, 0, none⟩) xs := by
  subst h
  subst hg
  exact row_of_block (heap_alloc_new w _)

theorem byt_05 : Byt [0, 5] := by intro x hx; simp at hx; omega
theorem byt_29 : Byt [29, 205] := by intro x hx; simp at hx; omega
theorem sealed_05 : sealed 1 0 0 [0, 5] = [29, 205] := by decide
theorem opened_29 : sealed (-1) 0 0 [29, 205] = [0, 5] := by decide

set_option maxRecDepth 100000 in
theorem law_sealed (w : World) : Calls Try.prog 21 #[] w fun e w' => e = .returned (.bool true) ∧ Below w.heap.size w w' := by
  go_enter Try.func21, Try.ntmps21
  go_wp2_with fail
  refine (seal_ok 0 0 _ _ [0, 5] _ (by decide) (by decide) (row_lit .u8 _ w [0, 5] _ rfl _ rfl) byt_05).mono ?_
  rintro e w1 ⟨a1, c1, hc1, rfl, hr1, hb1⟩
  rw [sealed_05] at hr1
  go_wp2_with fail
  refine (open_ok 0 0 _ _ [29, 205] _ (by decide) (by decide) hr1 byt_29).mono ?_
  rintro e w2 ⟨a2, c2, hc2, rfl, hr2, hb2⟩
  rw [opened_29] at hr2
  have hr1 := hr1.mono hb2
  have hb0 : Below w.heap.size w w2 := below_step ((Below.refl _ _).alloc (Nat.le_refl _) _) (below_step hb1 hb2)
  clear hb1 hb2
  go_wp2_with fail
  refine (bytes_equal _ _ _ _ [29, 205] [29, 205] _ ?_ ?_ byt_29 byt_29).mono ?_
  · exact hr1.mono ((Below.refl _ _).alloc (Nat.le_refl _) _)
  · exact row_lit .u8 _ w2 [29, 205] _ rfl _ rfl
  rintro e w3 ⟨rfl, rfl⟩
  go_wp2_with fail
  refine (bytes_equal _ _ _ _ [0, 5] [0, 5] _ ?_ ?_ byt_05 byt_05).mono ?_
  · exact hr2.mono (((Below.refl _ _).alloc (Nat.le_refl _) _).alloc (by simp) _)
  · exact row_lit .u8 _ _ [0, 5] _ rfl _ (by simp)
  rintro e w3 ⟨rfl, rfl⟩
  go_wp2_with fail
  go_ret
  exact ⟨rfl, (hb0.alloc hb0.size _).alloc (by have := hb0.size; simp; omega) _⟩

set_option maxRecDepth 100000 in
set_option maxHeartbeats 1000000 in
theorem law_sealSays (key at_ : Int) (ao : Option Addr) (cap : Nat) (xs : List Int) (w : World) (hx : Row .u8 w ao xs) (hby : Byt xs) :
    Calls Try.prog 4 #[.int .i64 key, .int .i64 at_, .slice ao xs.length cap] w fun e w' => e = .returned (.bool true) ∧ Below w.heap.size w w' := by
  rcases keyE_cases key at_ with h | h
  · rcases Nat.lt_or_ge 256 xs.length with hn | hn
    · have hd : decide (256 < (xs.length : Int)) = true := by simp; omega
      go_enter Try.func4, Try.ntmps4
      go_wp2_with (first
        | (go_at_call 18; refine (seal_many _ _ _ _ _ _ h hn).mono ?_; rintro e w' ⟨rfl, rfl⟩)
        | (go_at_call 19; refine (open_many _ _ _ _ _ _ h hn).mono ?_; rintro e w' ⟨rfl, rfl⟩)
        | (go_at_call 20; refine (ref_checkKey _ _ _).mono ?_; rintro e w' ⟨rfl, rfl⟩)
        | (go_at_call 21; refine (law_sealed _).mono ?_; rintro e w1 ⟨rfl, hb⟩)
        | (go_at_call 22; refine (seal_check _ _ _).mono ?_; rintro e w' ⟨rfl, rfl⟩))
      go_ret
      exact ⟨rfl, hb⟩
    · have hd : decide (256 < (xs.length : Int)) = false := by simp; omega
      go_enter Try.func4, Try.ntmps4
      go_wp2_with fail
      refine (seal_ok _ _ _ _ xs _ h hn hx hby).mono ?_
      rintro e w1 ⟨a1, c1, hc1, rfl, hr1, hb1⟩
      have hx1 := hx.mono hb1
      go_wp2_with fail
      refine (open_ok _ _ _ _ xs _ h hn hx1 hby).mono ?_
      rintro e w2 ⟨a2, c2, hc2, rfl, hr2, hb2⟩
      have hx2 := hx1.mono hb2
      have hr1 := hr1.mono hb2
      have hb := below_step hb1 hb2
      clear hb1 hb2 hx1 hx
      go_wp2_with (first
        | (go_at_call 20; refine (ref_checkKey _ _ _).mono ?_; rintro e w' ⟨rfl, rfl⟩)
        | (go_at_call 21; refine (law_sealed _).mono ?_; rintro e w3 ⟨rfl, hb3⟩)
        | (go_at_call 22; refine (seal_check _ _ _).mono ?_; rintro e w' ⟨rfl, rfl⟩))
      have hx3 := hx2.mono hb3
      refine (ref_sealed _ _ _ _ xs _ h hn hx3 hby).mono ?_
      rintro e w4 ⟨v4, rfl, ho4, hb4⟩
      obtain ⟨a4, c4, rfl, _, _, hr4⟩ := ho4.shape
      rw [sealed_length]
      have hr1 := (hr1.mono hb3).mono hb4
      have hr2 := (hr2.mono hb3).mono hb4
      have hx4 := hx3.mono hb4
      have hb := below_step hb (below_step hb3 hb4)
      clear hb3 hb4 hx3 hx2 ho4
      go_wp2_with fail
      have e1 := sealed_length 1 key at_ xs
      have hsb := sealed_byt 1 key at_ xs
      generalize sealed 1 key at_ xs = ys at *
      refine (bytes_equal_n _ _ _ _ _ _ ys ys _ e1 e1 hr1 hr4 hsb hsb).mono ?_
      rintro e w5 ⟨rfl, rfl⟩
      clear e1
      go_wp2_with fail
      refine (ref_opened _ _ _ _ xs _ h hn hx4 hby).mono ?_
      rintro e w5 ⟨v5, rfl, ho5, hb5⟩
      obtain ⟨a5, c5, rfl, _, _, hr5⟩ := ho5.shape
      rw [sealed_length]
      have hr2 := hr2.mono hb5
      have hb := below_step hb hb5
      go_wp2_with fail
      have e2 := sealed_length (-1) key at_ xs
      have hsb := sealed_byt (-1) key at_ xs
      generalize sealed (-1) key at_ xs = zs at *
      refine (bytes_equal_n _ _ _ _ _ _ zs zs _ e2 e2 hr2 hr5 hsb hsb).mono ?_
      rintro e w6 ⟨rfl, rfl⟩
      clear e2
      go_wp2_with fail
      go_ret
      exact ⟨by simp, hb⟩
  · go_enter Try.func4, Try.ntmps4
    go_wp2_with (first
      | (go_at_call 18; refine (seal_bad _ _ _ _ _ _ h).mono ?_; rintro e w' ⟨rfl, rfl⟩)
      | (go_at_call 19; refine (open_bad _ _ _ _ _ _ h).mono ?_; rintro e w' ⟨rfl, rfl⟩)
      | (go_at_call 20; refine (ref_checkKey _ _ _).mono ?_; rintro e w' ⟨rfl, rfl⟩)
      | (go_at_call 21; refine (law_sealed _).mono ?_; rintro e w1 ⟨rfl, hb⟩)
      | (go_at_call 22; refine (seal_check _ _ _).mono ?_; rintro e w' ⟨rfl, rfl⟩))
    go_ret
    exact ⟨rfl, hb⟩
end Go.Proofs.Ytpfopbkaddjjcaa
