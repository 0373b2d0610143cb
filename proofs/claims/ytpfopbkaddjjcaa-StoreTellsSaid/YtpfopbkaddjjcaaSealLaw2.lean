/- rookerylaw.SealParts, SealBack: the walks -/
import Derived.Test.YtpfopbkaddjjcaaSealLaw
namespace Go.Proofs.Ytpfopbkaddjjcaa
open Go.RowKit
set_option linter.unusedVariables false

theorem law_at (k : Int) (n : Nat) (w : World) (hn : 0 < n) (hs : n ≤ 1152921504606846976) (h1 : -9223372036854775808 ≤ k) (h2 : k ≤ 9223372036854775807) :
    Calls Try.prog 26 #[.int .i64 k, .int .i64 n] w fun e w' => ∃ r : Nat, r < n ∧ e = .returned (.int .i64 r) ∧ w = w' := by
  have hn' : (1 : Int) ≤ n := by omega
  have hs' : (n : Int) ≤ 1152921504606846976 := by omega
  rcases (show k < 0 ∨ 0 ≤ k from by omega) with hk | hk
  · have e0 : k.tmod n = -((-k) % n) := by
      have := Int.neg_tmod (-k) n
      rw [Int.neg_neg, Int.tmod_eq_emod_of_nonneg (a := -k) (by omega)] at this
      exact this
    have b1 := Int.emod_nonneg (-k) (show (n : Int) ≠ 0 by omega)
    have b2 := Int.emod_lt_of_pos (-k) (show (0 : Int) < n by omega)
    have hm : -(n : Int) < k.tmod n ∧ k.tmod n ≤ 0 := by omega
    obtain ⟨m1, m2⟩ := hm
    have HN := Lib.hid hn
    have hne : ((n : Int) == 0) = false := by simp; omega
    clear e0 b1 b2 hn hs
    rcases (show k.tmod n < 0 ∨ k.tmod n = 0 from by omega) with hz | hz
    · obtain ⟨r, hr⟩ := Int.eq_ofNat_of_zero_le (show 0 ≤ k.tmod n + n by omega)
      have HR := Lib.hid hr
      have hlt : r < n := by omega
      clear hr
      go_enter Try.func26, Try.ntmps26
      go_wp2
      go_ret
      exact ⟨r, hlt, ret_int HR.out, rfl⟩
    · have HZ := Lib.hid hz
      have hz' : ¬ k.tmod n < 0 := by omega
      clear hz
      go_enter Try.func26, Try.ntmps26
      go_wp2
      go_ret
      exact ⟨0, HN.out, ret_int HZ.out, rfl⟩
  · have b1 := Int.emod_nonneg k (show (n : Int) ≠ 0 by omega)
    have b2 := Int.emod_lt_of_pos k (show (0 : Int) < n by omega)
    obtain ⟨r, hr⟩ := Int.eq_ofNat_of_zero_le b1
    have HR := Lib.hid hr
    have hlt : r < n := by omega
    clear hn hs b2 hr
    go_enter Try.func26, Try.ntmps26
    go_wp2
    go_ret
    exact ⟨r, hlt, ret_int HR.out, rfl⟩

theorem seal_ok_n (key at_ : Int) (ao : Option Addr) (n cap : Nat) (xs : List Int) (w : World) (hl : xs.length = n) (h : keyE key at_ = 0) (hn : n ≤ 256) (hx : Row .u8 w ao xs) (hby : Byt xs) :
    Calls Try.prog 18 #[.int .i64 key, .int .i64 at_, .slice ao n cap] w fun e w' =>
      ∃ ao' cap', n ≤ cap' ∧ e = .returned (.tuple #[.slice ao' n cap', .int .i64 0]) ∧ Row .u8 w' ao' (sealed 1 key at_ xs) ∧ Below w.heap.size w w' := by
  subst hl
  exact seal_ok key at_ ao cap xs w h hn hx hby

theorem open_ok_n (key at_ : Int) (ao : Option Addr) (n cap : Nat) (xs : List Int) (w : World) (hl : xs.length = n) (h : keyE key at_ = 0) (hn : n ≤ 256) (hx : Row .u8 w ao xs) (hby : Byt xs) :
    Calls Try.prog 19 #[.int .i64 key, .int .i64 at_, .slice ao n cap] w fun e w' =>
      ∃ ao' cap', n ≤ cap' ∧ e = .returned (.tuple #[.slice ao' n cap', .int .i64 0]) ∧ Row .u8 w' ao' (sealed (-1) key at_ xs) ∧ Below w.heap.size w w' := by
  subst hl
  exact open_ok key at_ ao cap xs w h hn hx hby

theorem sealed_take (d key at_ : Int) (xs : List Int) (k : Nat) : sealed d key at_ (xs.take k) = (sealed d key at_ xs).take k := by
  apply List.ext_getElem
  · simp [sealed_length]
  · intro i h1 h2
    simp [sealed_length] at h1 h2
    rw [sealed_at _ _ _ _ _ (by simp; omega), List.getElem_take, List.getElem_take, sealed_at _ _ _ _ _ (by omega)]

theorem open_sealed (key at_ : Int) (xs : List Int) (h : Byt xs) : sealed (-1) key at_ (sealed 1 key at_ xs) = xs := by
  apply List.ext_getElem
  · simp [sealed_length]
  · intro i h1 h2
    rw [sealed_at _ _ _ _ _ (by rw [sealed_length]; exact h2), sealed_at _ _ _ _ _ h2]
    have := h.at i h2
    omega

theorem seal_opened (key at_ : Int) (xs : List Int) (h : Byt xs) : sealed 1 key at_ (sealed (-1) key at_ xs) = xs := by
  apply List.ext_getElem
  · simp [sealed_length]
  · intro i h1 h2
    rw [sealed_at _ _ _ _ _ (by rw [sealed_length]; exact h2), sealed_at _ _ _ _ _ h2]
    have := h.at i h2
    omega

theorem Row.take {k : IntKind} {w : World} {ao : Option Addr} {xs : List Int} (h : Row k w ao xs) (n : Nat) : Row k w ao (xs.take n) := by
  rcases h with rfl | ⟨b, o, rfl, h⟩
  · exact .inl (by simp)
  · exact .inr ⟨b, o, rfl, fun i hi => by rw [List.getElem_take]; exact h i (by simp at hi; omega)⟩

theorem Byt.take {xs : List Int} (h : Byt xs) (n : Nat) : Byt (xs.take n) := fun x hx => h x (List.mem_of_mem_take hx)

set_option maxRecDepth 100000 in
set_option maxHeartbeats 1000000 in
theorem law_sealParts (key at_ : Int) (ao : Option Addr) (cap : Nat) (xs : List Int) (k : Int) (w : World) (hx : Row .u8 w ao xs) (hby : Byt xs) (hlc : xs.length ≤ cap) (h1 : -9223372036854775808 ≤ k) (h2 : k ≤ 9223372036854775807) :
    Calls Try.prog 5 #[.int .i64 key, .int .i64 at_, .slice ao xs.length cap, .int .i64 k] w fun e w' => e = .returned (.bool true) ∧ Below w.heap.size w w' := by
  rcases keyE_cases key at_ with h | h
  · rcases Nat.lt_or_ge 256 xs.length with hn | hn
    · have hd : decide (256 < (xs.length : Int)) = true := by simp; omega
      go_enter Try.func5, Try.ntmps5
      go_wp2_with (first
        | (go_at_call 18; refine (seal_many _ _ _ _ _ _ h hn).mono ?_; rintro e w' ⟨rfl, rfl⟩))
      refine (law_sealed _).mono ?_
      rintro e w1 ⟨rfl, hb1⟩
      go_wp2_with fail
      refine (law_sealed _).mono ?_
      rintro e w2 ⟨rfl, hb2⟩
      go_wp2_with fail
      go_ret
      exact ⟨rfl, below_step hb1 hb2⟩
    · have hd : decide (256 < (xs.length : Int)) = false := by simp; omega
      go_enter Try.func5, Try.ntmps5
      go_wp2_with fail
      refine (seal_ok _ _ _ _ xs _ h hn hx hby).mono ?_
      rintro e w1 ⟨a1, c1, hc1, rfl, hr1, hb1⟩
      have hx1 := hx.mono hb1
      go_wp2_with fail
      refine (law_sealed _).mono ?_
      rintro e w2 ⟨rfl, hb2⟩
      have hx2 := hx1.mono hb2
      have hr1 := hr1.mono hb2
      have hb := below_step hb1 hb2
      clear hb1 hb2 hx1 hx
      go_wp2_with fail
      have hat := law_at k (xs.length + 1) w2 (by omega) (by omega) h1 h2
      simp only [Int.natCast_add, Int.cast_ofNat_Int] at hat
      refine hat.mono ?_
      rintro e w3 ⟨r, hr, rfl, rfl⟩
      clear hat
      go_wp2_with fail
      have hxr := hx2.take r
      have hbr := hby.take r
      have lr : (xs.take r).length = r := by simp; omega
      refine (seal_ok_n _ _ _ _ _ (xs.take r) _ lr h (by omega) hxr hbr).mono ?_
      rintro e w3 ⟨a3, c3, hc3, rfl, hr3, hb3⟩
      have hr1 := (hr1.mono hb3).take r
      have hxr := hxr.mono hb3
      have hb := below_step hb hb3
      clear hx2 hb3
      go_wp2_with fail
      have lsr : ((sealed 1 key at_ xs).take r).length = r := by simp [sealed_length]; omega
      have hbs : Byt ((sealed 1 key at_ xs).take r) := (sealed_byt 1 key at_ xs).take r
      refine (open_ok_n _ _ _ _ _ ((sealed 1 key at_ xs).take r) _ lsr h (by omega) hr1 hbs).mono ?_
      rintro e w4 ⟨a4, c4, hc4, rfl, hr4, hb4⟩
      rw [← sealed_take, open_sealed _ _ _ hbr] at hr4
      rw [sealed_take] at hr3
      have hr1 := hr1.mono hb4
      have hxr := hxr.mono hb4
      have hr3 := hr3.mono hb4
      have hb := below_step hb hb4
      clear hb4
      go_wp2_with fail
      refine (bytes_equal_n _ _ _ _ _ _ _ _ _ lsr lsr hr3 hr1 hbs hbs).mono ?_
      rintro e w5 ⟨rfl, rfl⟩
      go_wp2_with fail
      refine (bytes_equal_n _ _ _ _ _ _ _ _ _ lr lr hr4 hxr hbr hbr).mono ?_
      rintro e w5 ⟨rfl, rfl⟩
      go_wp2_with fail
      go_ret
      exact ⟨by simp, hb⟩
  · go_enter Try.func5, Try.ntmps5
    go_wp2_with (first
      | (go_at_call 18; refine (seal_bad _ _ _ _ _ _ h).mono ?_; rintro e w' ⟨rfl, rfl⟩))
    refine (law_sealed _).mono ?_
    rintro e w1 ⟨rfl, hb1⟩
    go_wp2_with fail
    refine (law_sealed _).mono ?_
    rintro e w2 ⟨rfl, hb2⟩
    go_wp2_with fail
    go_ret
    exact ⟨rfl, below_step hb1 hb2⟩
end Go.Proofs.Ytpfopbkaddjjcaa
