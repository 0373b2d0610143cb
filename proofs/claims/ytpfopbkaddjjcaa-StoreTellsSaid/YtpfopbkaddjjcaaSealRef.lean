/- the reference's seal: what it computes -/
import Derived.Test.YtpfopbkaddjjcaaSeal
namespace Go.Proofs.Ytpfopbkaddjjcaa
open Go.RowKit
set_option linter.unusedVariables false

def strm (n0 : Int) (n : Nat) : List Int := (List.range n).map fun i => byt (ste n0 (i + 1))
theorem strm_length (n0 : Int) (n : Nat) : (strm n0 n).length = n := by simp [strm]
theorem strm_succ (n0 : Int) (n : Nat) : strm n0 (n + 1) = strm n0 n ++ [byt (ste n0 (n + 1))] := by simp [strm, List.range_succ]

theorem i_num {k : IntKind} {a b : Int} (h : a = b) : Value.int k a = Value.int k b := by rw [h]

set_option maxRecDepth 100000 in
set_option maxHeartbeats 400000 in
theorem ref_stream (key at_ : Int) (n : Nat) (w : World) (h : keyE key at_ = 0) (hl : n ≤ 256) :
    Calls Try.prog 63 #[.int .i64 key, .int .i64 at_, .int .i64 n] w fun e w' =>
      ∃ v, e = .returned v ∧ Own .u8 5 w.heap.size w' v (strm (st0 key at_) n) ∧ Below w.heap.size w w' := by
  have hb : 0 ≤ key ∧ key ≤ 1000 ∧ 0 ≤ at_ ∧ at_ ≤ 255 := by
    unfold keyE at h
    split at h <;> omega
  have hk : 0 ≤ st0 key at_ ∧ st0 key at_ ≤ 200000000 := by unfold st0; omega
  have hbd := ste_bd (st0 key at_) hk.1 hk.2
  have e0 : 104729 * key + 7919 * at_ + 12345 = st0 key at_ := by unfold st0; omega
  have E0 := Lib.hid e0
  clear e0 h
  obtain ⟨b1, b2, b3, b4⟩ := hb
  generalize st0 key at_ = n0 at *
  go_enter Try.func63, Try.ntmps63
  go_wp2
  go_loopw [7, 8, 16] (fun x v i wr => ∃ k : Nat, k ≤ n ∧ i = .int .i64 k ∧ x = .int .i64 (ste n0 k) ∧ Own .u8 5 w.heap.size wr v (strm n0 k) ∧ Below w.heap.size w wr)
    (fun _ _ i _ => n - (intOf i).toNat)
  case atStart => exact ⟨0, Nat.zero_le _, rfl, i_num E0.out, Own.nil _ _ _ _, Below.refl _ _⟩
  case round =>
    obtain ⟨k, hk, rfl, rfl, hown, hbel⟩ := hrel
    have hb := hbd k
    have hnb := nxt_bd (ste n0 k)
    by_cases hlt : k < n
    · have hsz := hbel.size
      have hln := strm_length n0 k
      have e1 : (75 * ste n0 k + 74) % 65537 = nxt (ste n0 k) := by unfold nxt; omega
      clear hbd
      go_wp2_with (first
        | (at_builtin; (refine append_int rfl (.tmp 22) (.tmp 27) _ rfl .u8 5 1 w.heap.size Try.underlying27 info_u8 _ _ _ rfl hown _ rfl (by simp) ?_ ?_ hsz ?_); rotate_right; intro v' w1 hown1 hbel1))
      · go_roundw
        case rel => exact ⟨k + 1, by omega, by go_num, rfl, by rw [strm_succ]; exact hown1, hbel.trans hbel1⟩
        case measure => simp [intOf]; omega
      · rw [hln]; unfold maxLen; omega
      · rw [hln]; omega
    · obtain rfl : k = n := by omega
      go_wp2
      go_ret
      exact ⟨_, rfl, hown, hbel⟩

theorem strm_at (n0 : Int) (n i : Nat) (h : i < n) (h' : i < (strm n0 n).length) : (strm n0 n)[i] = byt (ste n0 (i + 1)) := by simp [strm]

/-- after so many: the first sealed, the others still the stream -/
def mixTo (d key at_ : Int) (xs : List Int) (k : Nat) : List Int := (sealed d key at_ xs).take k ++ (strm (st0 key at_) xs.length).drop k
theorem mixTo_length (d key at_ : Int) (xs : List Int) (k : Nat) (h : k ≤ xs.length) : (mixTo d key at_ xs k).length = xs.length := by
  simp [mixTo, sealed_length, strm_length]; omega
theorem mixTo_zero (d key at_ : Int) (xs : List Int) : mixTo d key at_ xs 0 = strm (st0 key at_) xs.length := by simp [mixTo]
theorem mixTo_all (d key at_ : Int) (xs : List Int) : mixTo d key at_ xs xs.length = sealed d key at_ xs := by
  simp [mixTo, List.take_of_length_le (Nat.le_of_eq (sealed_length d key at_ xs)), List.drop_of_length_le (Nat.le_of_eq (strm_length _ _))]
theorem mixTo_at (d key at_ : Int) (xs : List Int) (k : Nat) (h : k < xs.length) (h' : k < (mixTo d key at_ xs k).length) : (mixTo d key at_ xs k)[k] = byt (ste (st0 key at_) (k + 1)) := by
  have hl := sealed_length d key at_ xs
  simp only [mixTo]
  rw [List.getElem_append_right (by simp [hl]; omega)]
  simp [hl, Nat.min_eq_left (Nat.le_of_lt h), strm]
theorem mixTo_succ (d key at_ : Int) (xs : List Int) (k : Nat) (h : k < xs.length) :
    (mixTo d key at_ xs k).set k ((xs[k] + d * byt (ste (st0 key at_) (k + 1))) % 256) = mixTo d key at_ xs (k + 1) := by
  have hl := sealed_length d key at_ xs
  have hl2 := strm_length (st0 key at_) xs.length
  apply List.ext_getElem
  · simp [mixTo_length _ _ _ _ _ (Nat.le_of_lt h), mixTo_length _ _ _ _ _ h]
  · intro i h1 h2
    rw [List.getElem_set]
    by_cases e : k = i
    · subst e
      simp only [if_true, mixTo]
      rw [List.getElem_append_left (by simp [hl]; omega), List.getElem_take, sealed_at _ _ _ _ _ h]
    · rw [if_neg e]
      simp only [mixTo]
      rw [mixTo_length _ _ _ _ _ h] at h2
      rcases Nat.lt_or_ge i k with hi | hi
      · rw [List.getElem_append_left (by simp [hl]; omega), List.getElem_append_left (by simp [hl]; omega)]
        simp
      · rw [List.getElem_append_right (by simp [hl]; omega), List.getElem_append_right (by simp [hl]; omega)]
        simp [hl, Nat.min_eq_left (Nat.le_of_lt h), Nat.min_eq_left (show k + 1 ≤ xs.length from h)]
        congr 1
        omega

theorem i_u8 (x : Int) (h : 0 ≤ x ∧ x ≤ 255) : IntKind.i64.wrap x = x := IntWalk.i64_in _ (by omega)

set_option maxRecDepth 100000 in
set_option maxHeartbeats 400000 in
theorem ref_sealed (key at_ : Int) (ao : Option Addr) (cap : Nat) (xs : List Int) (w : World) (h : keyE key at_ = 0) (hl : xs.length ≤ 256) (hx : Row .u8 w ao xs) (hby : Byt xs) :
    Calls Try.prog 24 #[.int .i64 key, .int .i64 at_, .slice ao xs.length cap] w fun e w' =>
      ∃ v, e = .returned v ∧ Own .u8 5 w.heap.size w' v (sealed 1 key at_ xs) ∧ Below w.heap.size w w' := by
  go_enter Try.func24, Try.ntmps24
  go_wp2_with (first
    | (go_at_call 63; refine (ref_stream key at_ xs.length w h hl).mono ?_; rintro e w1 ⟨v, rfl, hown, hbel⟩))
  obtain ⟨ao1, cap1, rfl, hlc, hcm, hrow⟩ := hown.shape
  rw [strm_length] at *
  have hown : Own .u8 5 w.heap.size w1 (.slice ao1 xs.length cap1) (mixTo 1 key at_ xs 0) := by rw [mixTo_zero]; exact hown
  clear hrow h
  go_loopw [17] (fun i wr => ∃ k : Nat, k ≤ xs.length ∧ i = .int .i64 k ∧ Own .u8 5 w.heap.size wr (.slice ao1 xs.length cap1) (mixTo 1 key at_ xs k) ∧ Below w.heap.size w wr)
    (fun i _ => xs.length - (intOf i).toNat)
  case atStart => exact ⟨0, Nat.zero_le _, rfl, hown, hbel⟩
  case round =>
    obtain ⟨k, hk, rfl, hown, hbel⟩ := hrel
    by_cases hlt : k < xs.length
    · obtain ⟨b, o, rfl, hc⟩ := hx.at k hlt
      have hck := hc k hlt
      have hbl := World.block_lt_of_cell? _ _ hck
      have hck' : wr.cell? ⟨b, o + k, none⟩ = some (.int .u8 xs[k]) := (hbel.cell (p := ⟨b, o + k, none⟩) hbl).trans hck
      have hml := mixTo_length 1 key at_ xs k hk
      obtain ⟨g, cap2, hv, hg, hco, hfo, hgl⟩ := hown.at k (by omega)
      simp only [Value.slice.injEq] at hv
      obtain ⟨rfl, _, rfl⟩ := hv
      rw [mixTo_at 1 key at_ xs k hlt] at hco
      have hyk := hby.at k hlt
      have hbk := byt_bd (ste (st0 key at_) (k + 1))
      have hss := mixTo_succ 1 key at_ xs k hlt
      generalize byt (ste (st0 key at_) (k + 1)) = bk at *
      have hset := Own.set hown k ((xs[k] + 1 * bk) % 256)
      rw [hss] at hset
      have he : (xs[k] + 1 * bk) % 256 = (bk + xs[k]) % 256 := by omega
      rw [he] at hset
      have HS := Lib.hid hset
      clear hc hck hx hml hby hset hss he
      go_wp2
      go_roundw
      case rel => exact ⟨k + 1, by omega, by go_num, HS.out, hbel.setCell hg _⟩
      case measure => simp [intOf]; omega
    · obtain rfl : k = xs.length := by omega
      go_wp2
      go_ret
      exact ⟨_, rfl, by rw [← mixTo_all]; exact hown, hbel⟩

set_option maxRecDepth 100000 in
set_option maxHeartbeats 400000 in
theorem ref_opened (key at_ : Int) (ao : Option Addr) (cap : Nat) (xs : List Int) (w : World) (h : keyE key at_ = 0) (hl : xs.length ≤ 256) (hx : Row .u8 w ao xs) (hby : Byt xs) :
    Calls Try.prog 25 #[.int .i64 key, .int .i64 at_, .slice ao xs.length cap] w fun e w' =>
      ∃ v, e = .returned v ∧ Own .u8 5 w.heap.size w' v (sealed (-1) key at_ xs) ∧ Below w.heap.size w w' := by
  go_enter Try.func25, Try.ntmps25
  go_wp2_with (first
    | (go_at_call 63; refine (ref_stream key at_ xs.length w h hl).mono ?_; rintro e w1 ⟨v, rfl, hown, hbel⟩))
  obtain ⟨ao1, cap1, rfl, hlc, hcm, hrow⟩ := hown.shape
  rw [strm_length] at *
  have hown : Own .u8 5 w.heap.size w1 (.slice ao1 xs.length cap1) (mixTo (-1) key at_ xs 0) := by rw [mixTo_zero]; exact hown
  clear hrow h
  go_loopw [17] (fun i wr => ∃ k : Nat, k ≤ xs.length ∧ i = .int .i64 k ∧ Own .u8 5 w.heap.size wr (.slice ao1 xs.length cap1) (mixTo (-1) key at_ xs k) ∧ Below w.heap.size w wr)
    (fun i _ => xs.length - (intOf i).toNat)
  case atStart => exact ⟨0, Nat.zero_le _, rfl, hown, hbel⟩
  case round =>
    obtain ⟨k, hk, rfl, hown, hbel⟩ := hrel
    by_cases hlt : k < xs.length
    · obtain ⟨b, o, rfl, hc⟩ := hx.at k hlt
      have hck := hc k hlt
      have hbl := World.block_lt_of_cell? _ _ hck
      have hck' : wr.cell? ⟨b, o + k, none⟩ = some (.int .u8 xs[k]) := (hbel.cell (p := ⟨b, o + k, none⟩) hbl).trans hck
      have hml := mixTo_length (-1) key at_ xs k hk
      obtain ⟨g, cap2, hv, hg, hco, hfo, hgl⟩ := hown.at k (by omega)
      simp only [Value.slice.injEq] at hv
      obtain ⟨rfl, _, rfl⟩ := hv
      rw [mixTo_at (-1) key at_ xs k hlt] at hco
      have hyk := hby.at k hlt
      have hbk := byt_bd (ste (st0 key at_) (k + 1))
      have hss := mixTo_succ (-1) key at_ xs k hlt
      generalize byt (ste (st0 key at_) (k + 1)) = bk at *
      have hset := Own.set hown k ((xs[k] + (-1) * bk) % 256)
      rw [hss] at hset
      have he : (xs[k] + -1 * bk) % 256 = (xs[k] - bk) % 256 := by omega
      rw [he] at hset
      have HS := Lib.hid hset
      clear hc hck hx hml hby hset hss he
      go_wp2
      go_roundw
      case rel => exact ⟨k + 1, by omega, by go_num, HS.out, hbel.setCell hg _⟩
      case measure => simp [intOf]; omega
    · obtain rfl : k = xs.length := by omega
      go_wp2
      go_ret
      exact ⟨_, rfl, by rw [← mixTo_all]; exact hown, hbel⟩

end Go.Proofs.Ytpfopbkaddjjcaa
