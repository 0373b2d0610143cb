/- disk.sum, disk.slot: what they compute. -/
import Derived.Test.YtfmgdjgedhnmeaaDiskP
import Derived.Test.YtfmgdjgedhnmeaaImBack
namespace Go.Proofs.Ytfmgdjgedhnmeaa
open Go.RowKit
set_option linter.unusedVariables false
set_option linter.unusedSimpArgs false

theorem xor_low {x y : Int} (hx : 0 ≤ x) (hx2 : x < 65521) (hy : 0 ≤ y) (hy2 : y < 65521) : bits .xor .i64 x y = ((x.toNat ^^^ y.toNat : Nat) : Int) := by
  obtain ⟨a, rfl⟩ : ∃ a : Nat, x = a := ⟨x.toNat, by omega⟩
  obtain ⟨b, rfl⟩ : ∃ b : Nat, y = b := ⟨y.toNat, by omega⟩
  have h2 := Nat.xor_lt_two_pow (n := 16) (x := a) (y := b) (by omega) (by omega)
  show IntKind.i64.wrap ((BitVec.ofInt 64 (a : Int) ^^^ BitVec.ofInt 64 (b : Int)).toNat : Int) = _
  rw [BitVec.toNat_xor, ofInt_i64 _ (by omega), ofInt_i64 _ (by omega)]
  rw [IntWalk.i64_in _ (by omega)]
  simp
theorem or_more {x y : Int} (hx : 0 ≤ x) (hx2 : x < 16777216) (hy : 0 ≤ y) (hy2 : y ≤ 255) : bits .or .i64 (x * 256) y = x * 256 + y := by
  obtain ⟨a, rfl⟩ : ∃ a : Nat, x = a := ⟨x.toNat, by omega⟩
  obtain ⟨b, rfl⟩ : ∃ b : Nat, y = b := ⟨y.toNat, by omega⟩
  have h1 : (2 ^ 8 * a ||| b : Nat) = 2 ^ 8 * a + b := (Nat.two_pow_add_eq_or_of_lt (by omega : b < 2 ^ 8) a).symm
  have e : ((a : Int) * 256) = ((2 ^ 8 * a : Nat) : Int) := by omega
  show IntKind.i64.wrap ((BitVec.ofInt 64 ((a : Int) * 256) ||| BitVec.ofInt 64 (b : Int)).toNat : Int) = _
  rw [e, BitVec.toNat_or, ofInt_i64 _ (by omega), ofInt_i64 _ (by omega), h1]
  rw [IntWalk.i64_in _ (by omega)]
  omega
theorem sumD_is (xs : List Int) (n : Nat) (hn : xs.length = n) (z : Int × Int) (hz : (xs.take n).foldl sumS (1, 0) = z) : sumD xs = ((z.1.toNat ^^^ z.2.toNat : Nat) : Int) := by
  rw [List.take_of_length_le (by omega)] at hz
  unfold sumD
  rw [hz]

set_option maxRecDepth 100000 in
set_option maxHeartbeats 4000000 in
theorem sum_any (w : World) (ao : Option Addr) (n cap : Nat) (xs : List Int) (hn : xs.length = n) (hr : Row .u8 w ao xs) (hb : Byt xs) (hl : n ≤ 17000000) :
    Calls Try.prog 128 #[.slice ao n cap] w fun e w' => e = .returned (.int .i64 (sumD xs)) ∧ w = w' := by
  have HN := Lib.hid hn
  have hl2 : (n : Int) ≤ 17000000 := by omega
  clear hn
  go_enter Try.func128, Try.ntmps128
  go_wp2
  go_loop [3, 4, 9] (fun x y i => ∃ (k : Nat) (z : Int × Int), k ≤ n ∧ i = .int .i64 k ∧ Hid ((xs.take k).foldl sumS (1, 0) = z) ∧ x = .int .i64 z.1 ∧ y = .int .i64 z.2 ∧ 0 ≤ z.1 ∧ z.1 < 65521 ∧ 0 ≤ z.2 ∧ z.2 < 65521) (fun _ _ i => n - (intOf i).toNat)
  case atStart => exact ⟨0, (1, 0), Nat.zero_le _, rfl, Lib.hid rfl, rfl, rfl, by decide, by decide, by decide, by decide⟩
  case round =>
    obtain ⟨k, ⟨p, q⟩, hkn, rfl, HZ, rfl, rfl, p0, p1, q0, q1⟩ := hrel
    simp only at p0 p1 q0 q1
    by_cases hlt : k < n
    · have hkl : k < xs.length := by have := HN.out; omega
      have hlt' : (k : Int) < n := by omega
      obtain ⟨b, o, rfl, hq⟩ := hr.at k hkl
      have c0 := hq k hkl
      have lb := World.block_lt_of_cell? _ _ c0
      obtain ⟨hx0, hx1⟩ := hb.at k hkl
      have HT : Hid ((xs.take (k + 1)).foldl sumS (1, 0) = sumS (p, q) xs[k]) := Lib.hid (by rw [List.take_succ_eq_append_getElem hkl, List.foldl_append, HZ.out]; rfl)
      have HLW := Lib.hid (sumS_low (z := (p, q)) (c := xs[k]))
      generalize xs[k] = c at *
      clear hq hr hb
      go_wp2
      go_round
      case rel => exact ⟨k + 1, _, by omega, by go_num, HT.out |> Lib.hid, rfl, rfl, HLW.out.1, HLW.out.2.1, HLW.out.2.2.1, HLW.out.2.2.2⟩
      case measure => simp [intOf]; omega
    · obtain rfl : k = n := by omega
      have HX := Lib.hid (xor_low p0 p1 q0 q1)
      have HS := Lib.hid (sumD_is xs k HN.out (p, q) HZ.out)
      clear HZ
      go_wp2
      go_ret
      exact ⟨ret_int (by rw [HS.out]; exact HX.out), rfl⟩
end Go.Proofs.Ytfmgdjgedhnmeaa
