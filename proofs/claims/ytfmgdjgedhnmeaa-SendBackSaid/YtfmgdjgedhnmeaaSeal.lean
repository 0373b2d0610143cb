/- The package of sealed bytes: what its functions compute. · the reference's seal: what it computes · seal.Seal: the room of what it gives. · rookerylaw.sealed, SealSays: the walks · rookerylaw.SealParts, SealBack: the walks -/
import Derived.Test.YtfmgdjgedhnmeaaSto
namespace Go.Proofs.Ytfmgdjgedhnmeaa
open Go.RowKit
set_option linter.unusedVariables false

/-- what is wrong with a key and a place -/
def keyE (key at_ : Int) : Int := if key < 0 ∨ 1000 < key ∨ at_ < 0 ∨ 255 < at_ then 3 else 0

theorem seal_check (key at_ : Int) (w : World) :
    Calls Try.prog 44 #[.int .i64 key, .int .i64 at_] w fun e w' => e = .returned (.int .i64 (keyE key at_)) ∧ w = w' := by
  rcases (show key < 0 ∨ (0 ≤ key ∧ 1000 < key) ∨ (0 ≤ key ∧ key ≤ 1000 ∧ at_ < 0) ∨ (0 ≤ key ∧ key ≤ 1000 ∧ 0 ≤ at_ ∧ 256 ≤ at_) ∨ (0 ≤ key ∧ key ≤ 1000 ∧ 0 ≤ at_ ∧ at_ < 256) from by omega) with h1 | ⟨h1, h2⟩ | ⟨h1, h2, h3⟩ | ⟨h1, h2, h3, h4⟩ | ⟨h1, h2, h3, h4⟩
  all_goals
    go_enter Try.func44, Try.ntmps44
    go_wp2
    go_ret
    exact ⟨ret_int (by unfold keyE; split <;> omega), rfl⟩

/-- the stream's next state; its byte; the state behind so many -/
def nxt (n : Int) : Int := (n * 75 + 74) % 65537
def byt (n : Int) : Int := n / 8 % 256
def ste (n : Int) : Nat → Int
  | 0 => n
  | k + 1 => nxt (ste n k)
def st0 (key at_ : Int) : Int := key * 104729 + at_ * 7919 + 12345

theorem nxt_bd (n : Int) : 0 ≤ nxt n ∧ nxt n ≤ 65536 := by unfold nxt; omega
theorem byt_bd (n : Int) : 0 ≤ byt n ∧ byt n ≤ 255 := by unfold byt; omega
theorem ste_bd (n : Int) (h0 : 0 ≤ n) (h1 : n ≤ 200000000) (k : Nat) : 0 ≤ ste n k ∧ ste n k ≤ 200000000 := by
  cases k with
  | zero => exact ⟨h0, h1⟩
  | succ k => have := nxt_bd (ste n k); simp only [ste]; omega

theorem stream_next (n : Int) (B : Nat) (t : TypeId) (w : World) (h0 : 0 ≤ n) (h1 : n ≤ 200000000) (hc : w.heap[B]? = some (.cells #[.int .i64 n] t (0, 0))) :
    Calls Try.prog 140 #[.pointer (some ⟨B, 0, none⟩)] w fun e w' => e = .returned (.int .u8 (byt (nxt n))) ∧ w.setCell ⟨B, 0, none⟩ (.int .i64 (nxt n)) = w' := by
  have c1 := cell_of_one hc
  have f1 := free_of_one hc
  have c2 : ∀ v, (w.setCell ⟨B, 0, none⟩ v).cell? ⟨B, 0, none⟩ = some v := fun v => World.cell?_setCell_same _ _ _ c1
  clear hc
  go_enter Try.func140, Try.ntmps140
  go_wp2
  go_ret
  exact ⟨rfl, rfl⟩

theorem stream_any (key at_ : Int) (w : World) (h : keyE key at_ = 0) :
    Calls Try.prog 122 #[.int .i64 key, .int .i64 at_] w fun e w' => e = .returned (.func (.func 140) #[] #[.pointer (some ⟨w.heap.size, 0, none⟩)]) ∧ w.alloc (.cells #[.int .i64 (st0 key at_)] 3) = w' := by
  have hb : 0 ≤ key ∧ key ≤ 1000 ∧ 0 ≤ at_ ∧ at_ ≤ 255 := by
    unfold keyE at h
    split at h <;> omega
  clear h
  obtain ⟨h1, h2, h3, h4⟩ := hb
  go_enter Try.func122, Try.ntmps122
  go_wp2
  go_ret
  exact ⟨rfl, rfl⟩

/-- the bytes sealed (d = 1), opened (d = -1) -/
def sealed (d key at_ : Int) (xs : List Int) : List Int := (List.range xs.length).map fun i => (xs.getD i 0 + d * byt (ste (st0 key at_) (i + 1))) % 256

theorem sealed_length (d key at_ : Int) (xs : List Int) : (sealed d key at_ xs).length = xs.length := by simp [sealed]
theorem sealed_at (d key at_ : Int) (xs : List Int) (i : Nat) (h : i < xs.length) (h' : i < (sealed d key at_ xs).length) : (sealed d key at_ xs)[i] = (xs[i] + d * byt (ste (st0 key at_) (i + 1))) % 256 := by
  simp [sealed, h]
theorem sealed_byt (d key at_ : Int) (xs : List Int) : Byt (sealed d key at_ xs) := by
  intro x hx
  simp only [sealed, List.mem_map] at hx
  obtain ⟨i, _, rfl⟩ := hx
  omega

/-- after so many: the first sealed, the others nought -/
def sealTo (d key at_ : Int) (xs : List Int) (k : Nat) : List Int := (sealed d key at_ xs).take k ++ List.replicate (xs.length - k) 0
theorem sealTo_length (d key at_ : Int) (xs : List Int) (k : Nat) (h : k ≤ xs.length) : (sealTo d key at_ xs k).length = xs.length := by
  simp [sealTo, sealed_length]; omega
theorem sealTo_zero (d key at_ : Int) (xs : List Int) : sealTo d key at_ xs 0 = List.replicate xs.length 0 := by simp [sealTo]
theorem sealTo_all (d key at_ : Int) (xs : List Int) : sealTo d key at_ xs xs.length = sealed d key at_ xs := by
  simp [sealTo, List.take_of_length_le (Nat.le_of_eq (sealed_length d key at_ xs))]
theorem sealTo_succ (d key at_ : Int) (xs : List Int) (k : Nat) (h : k < xs.length) :
    (sealTo d key at_ xs k).set k ((xs[k] + d * byt (ste (st0 key at_) (k + 1))) % 256) = sealTo d key at_ xs (k + 1) := by
  have hl := sealed_length d key at_ xs
  apply List.ext_getElem
  · simp [sealTo_length _ _ _ _ _ (Nat.le_of_lt h), sealTo_length _ _ _ _ _ h]
  · intro i h1 h2
    rw [List.getElem_set]
    by_cases e : k = i
    · subst e
      simp only [if_true, sealTo]
      rw [List.getElem_append_left (by simp [hl]; omega), List.getElem_take, sealed_at _ _ _ _ _ h]
    · rw [if_neg e]
      simp only [sealTo]
      rw [sealTo_length _ _ _ _ _ h] at h2
      rcases Nat.lt_or_ge i k with hi | hi
      · rw [List.getElem_append_left (by simp [hl]; omega), List.getElem_append_left (by simp [hl]; omega)]
        simp
      · rw [List.getElem_append_right (by simp [hl]; omega), List.getElem_append_right (by simp [hl]; omega)]
        simp

set_option maxHeartbeats 400000 in
set_option maxRecDepth 100000 in
theorem open_ok (key at_ : Int) (ao : Option Addr) (cap : Nat) (xs : List Int) (w : World) (h : keyE key at_ = 0) (hl : xs.length ≤ 256) (hx : Row .u8 w ao xs) (hby : Byt xs) :
    Calls Try.prog 78 #[.int .i64 key, .int .i64 at_, .slice ao xs.length cap] w fun e w' =>
      ∃ ao' cap', xs.length ≤ cap' ∧ e = .returned (.tuple #[.slice ao' xs.length cap', .int .i64 0]) ∧ Row .u8 w' ao' (sealed (-1) key at_ xs) ∧ Below w.heap.size w w' := by
  have hk : 0 ≤ st0 key at_ ∧ st0 key at_ ≤ 200000000 := by
    unfold keyE at h; unfold st0
    split at h <;> omega
  have hmk := make_ints (P := Try.prog) .u8 38 5 1 Try.underlying38 info_u8 xs.length (by omega) (by omega)
  have hbd := ste_bd (st0 key at_) hk.1 hk.2
  generalize hn : st0 key at_ = n0 at *
  have HN := Lib.hid hn
  have hd : decide (256 < (xs.length : Int)) = false := by simp; omega
  clear hn hk
  go_enter Try.func78, Try.ntmps78
  go_wp2_with (first
    | (go_at_call 44; refine (seal_check _ _ _).mono ?_; rintro e w' ⟨rfl, rfl⟩)
    | (go_at_call 122; refine (stream_any _ _ _ h).mono ?_; rintro e w' ⟨rfl, rfl⟩))
  go_loopw [30] (fun i wr => ∃ k : Nat, k ≤ xs.length ∧ i = .int .i64 k ∧ wr.heap[w.heap.size]? = some (.cells #[.int .i64 (ste n0 k)] 3 (0, 0)) ∧
      wr.heap[w.heap.size + 1]? = some (.cells (icells .u8 (sealTo (-1) key at_ xs k)) 5 (0, 0)) ∧ Below w.heap.size w wr)
    (fun i _ => xs.length - (intOf i).toNat)
  case atStart =>
    refine ⟨0, Nat.zero_le _, rfl, ?_, ?_, ((Below.refl _ _).alloc (Nat.le_refl _) _).alloc (by simp) _⟩
    · rw [heap_alloc2_old, HN.out]; rfl
    · rw [heap_alloc2_new, sealTo_zero]; rfl
  case round =>
    obtain ⟨k, hk, rfl, hB, hO, hbel⟩ := hrel
    by_cases hlt : k < xs.length
    · obtain ⟨b, o, rfl, hc⟩ := hx.at k hlt
      have hck := hc k hlt
      have hbl := World.block_lt_of_cell? _ _ hck
      have hck' : wr.cell? ⟨b, o + k, none⟩ = some (.int .u8 xs[k]) := (hbel.cell (p := ⟨b, o + k, none⟩) hbl).trans hck
      have hnb := hbd k
      have hsl := sealTo_length (-1) key at_ xs k hk
      obtain ⟨yk, hco⟩ := icell_ex hO k (by omega)
      have hfo := free_of_block hO k
      have hyk := hby.at k hlt
      have hbk := byt_bd (nxt (ste n0 k))
      clear hc hck hx hsl hby hbd
      go_wp2_with (first
        | (go_at_call 140; refine (stream_next _ _ _ _ hnb.1 hnb.2 hB).mono ?_; rintro e w' ⟨rfl, rfl⟩))
      go_roundw
      case rel =>
        refine ⟨k + 1, by omega, by go_num, heap_setCell_ne (heap_setCell_same' hB _ _) (by simp), ?_, (hbel.setCell (Nat.le_refl _) _).setCell (by simp) _⟩
        have h2 := heap_setCell_same' (heap_setCell_ne (a := ⟨w.heap.size, 0, none⟩) (v := .int .i64 (nxt (ste n0 k))) hO (by simp)) k (.int .u8 ((xs[k] - byt (nxt (ste n0 k))) % 256))
        rw [icells_set] at h2
        have h3 := sealTo_succ (-1) key at_ xs k hlt
        rw [HN.out, ste, show xs[k] + -1 * byt (nxt (ste n0 k)) = xs[k] - byt (nxt (ste n0 k)) from by omega] at h3
        rw [h3] at h2
        exact h2
      case measure => simp [intOf]; omega
    · obtain rfl : k = xs.length := by omega
      go_wp2
      go_ret2
      refine ⟨_, _, Nat.le_refl _, rfl, ?_, hbel⟩
      rw [sealTo_all] at hO
      exact row_of_block hO

end Go.Proofs.Ytfmgdjgedhnmeaa

namespace Go.Proofs.Ytfmgdjgedhnmeaa
open Go.RowKit
set_option linter.unusedVariables false

end Go.Proofs.Ytfmgdjgedhnmeaa

namespace Go.Proofs.Ytfmgdjgedhnmeaa
open Go.RowKit
set_option linter.unusedVariables false

set_option maxHeartbeats 400000 in
set_option maxRecDepth 100000 in
theorem seal_capd (key at_ : Int) (ao : Option Addr) (cap : Nat) (xs : List Int) (w : World) (h : keyE key at_ = 0) (hl : xs.length ≤ 256) (hx : Row .u8 w ao xs) (hby : Byt xs) :
    Calls Try.prog 135 #[.int .i64 key, .int .i64 at_, .slice ao xs.length cap] w fun e w' =>
      ∃ ao' cap', Capd ao' xs.length cap' ∧ e = .returned (.tuple #[.slice ao' xs.length cap', .int .i64 0]) ∧ Row .u8 w' ao' (sealed 1 key at_ xs) ∧ Below w.heap.size w w' := by
  have hk : 0 ≤ st0 key at_ ∧ st0 key at_ ≤ 200000000 := by
    unfold keyE at h; unfold st0
    split at h <;> omega
  have hmk := make_ints (P := Try.prog) .u8 38 5 1 Try.underlying38 info_u8 xs.length (by omega) (by omega)
  have hbd := ste_bd (st0 key at_) hk.1 hk.2
  generalize hn : st0 key at_ = n0 at *
  have HN := Lib.hid hn
  have hd : decide (256 < (xs.length : Int)) = false := by simp; omega
  clear hn hk
  go_enter Try.func135, Try.ntmps135
  go_wp2_with (first
    | (go_at_call 44; refine (seal_check _ _ _).mono ?_; rintro e w' ⟨rfl, rfl⟩)
    | (go_at_call 122; refine (stream_any _ _ _ h).mono ?_; rintro e w' ⟨rfl, rfl⟩))
  go_loopw [30] (fun i wr => ∃ k : Nat, k ≤ xs.length ∧ i = .int .i64 k ∧ wr.heap[w.heap.size]? = some (.cells #[.int .i64 (ste n0 k)] 3 (0, 0)) ∧
      wr.heap[w.heap.size + 1]? = some (.cells (icells .u8 (sealTo 1 key at_ xs k)) 5 (0, 0)) ∧ Below w.heap.size w wr)
    (fun i _ => xs.length - (intOf i).toNat)
  case atStart =>
    refine ⟨0, Nat.zero_le _, rfl, ?_, ?_, ((Below.refl _ _).alloc (Nat.le_refl _) _).alloc (by simp) _⟩
    · rw [heap_alloc2_old, HN.out]; rfl
    · rw [heap_alloc2_new, sealTo_zero]; rfl
  case round =>
    obtain ⟨k, hk, rfl, hB, hO, hbel⟩ := hrel
    by_cases hlt : k < xs.length
    · obtain ⟨b, o, rfl, hc⟩ := hx.at k hlt
      have hck := hc k hlt
      have hbl := World.block_lt_of_cell? _ _ hck
      have hck' : wr.cell? ⟨b, o + k, none⟩ = some (.int .u8 xs[k]) := (hbel.cell (p := ⟨b, o + k, none⟩) hbl).trans hck
      have hnb := hbd k
      have hsl := sealTo_length 1 key at_ xs k hk
      obtain ⟨yk, hco⟩ := icell_ex hO k (by omega)
      have hfo := free_of_block hO k
      have hyk := hby.at k hlt
      have hbk := byt_bd (nxt (ste n0 k))
      clear hc hck hx hsl hby hbd
      go_wp2_with (first
        | (go_at_call 140; refine (stream_next _ _ _ _ hnb.1 hnb.2 hB).mono ?_; rintro e w' ⟨rfl, rfl⟩))
      go_roundw
      case rel =>
        refine ⟨k + 1, by omega, by go_num, heap_setCell_ne (heap_setCell_same' hB _ _) (by simp), ?_, (hbel.setCell (Nat.le_refl _) _).setCell (by simp) _⟩
        have h2 := heap_setCell_same' (heap_setCell_ne (a := ⟨w.heap.size, 0, none⟩) (v := .int .i64 (nxt (ste n0 k))) hO (by simp)) k (.int .u8 ((xs[k] + byt (nxt (ste n0 k))) % 256))
        rw [icells_set] at h2
        have h3 := sealTo_succ 1 key at_ xs k hlt
        rw [HN.out, ste, Int.one_mul] at h3
        rw [h3] at h2
        exact h2
      case measure => simp [intOf]; omega
    · obtain rfl : k = xs.length := by omega
      go_wp2
      go_ret2
      refine ⟨_, _, ⟨Nat.le_refl _, fun h => by cases h⟩, rfl, ?_, hbel⟩
      rw [sealTo_all] at hO
      exact row_of_block hO

theorem seal_capd_n (key at_ : Int) (ao : Option Addr) (n cap : Nat) (xs : List Int) (w : World) (hl : xs.length = n) (h : keyE key at_ = 0) (hn : n ≤ 256) (hx : Row .u8 w ao xs) (hby : Byt xs) :
    Calls Try.prog 135 #[.int .i64 key, .int .i64 at_, .slice ao n cap] w fun e w' =>
      ∃ ao' cap', Capd ao' n cap' ∧ e = .returned (.tuple #[.slice ao' n cap', .int .i64 0]) ∧ Row .u8 w' ao' (sealed 1 key at_ xs) ∧ Below w.heap.size w w' := by
  subst hl
  exact seal_capd key at_ ao cap xs w h hn hx hby
end Go.Proofs.Ytfmgdjgedhnmeaa

namespace Go.Proofs.Ytfmgdjgedhnmeaa
open Go.RowKit
set_option linter.unusedVariables false

end Go.Proofs.Ytfmgdjgedhnmeaa

namespace Go.Proofs.Ytfmgdjgedhnmeaa
open Go.RowKit
set_option linter.unusedVariables false

theorem open_sealed (key at_ : Int) (xs : List Int) (h : Byt xs) : sealed (-1) key at_ (sealed 1 key at_ xs) = xs := by
  apply List.ext_getElem
  · simp [sealed_length]
  · intro i h1 h2
    rw [sealed_at _ _ _ _ _ (by rw [sealed_length]; exact h2), sealed_at _ _ _ _ _ h2]
    have := h.at i h2
    omega

theorem seal_opened (key at_ : Int) (xs : List Int) (h : Byt xs) : sealed 1 key at_ (sealed (-1) key at_ xs) = xs := by
  apply List.ext_getElem
  · simp [sealed_length]
  · intro i h1 h2
    rw [sealed_at _ _ _ _ _ (by rw [sealed_length]; exact h2), sealed_at _ _ _ _ _ h2]
    have := h.at i h2
    omega

end Go.Proofs.Ytfmgdjgedhnmeaa
