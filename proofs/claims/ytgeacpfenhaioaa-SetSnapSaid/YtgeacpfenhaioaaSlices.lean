/- the library's slices and bytes, as far as the store and the leaves go -/
import Derived.Test.YtgeacpfenhaioaaBase
import Derived.Test.YtgeacpfenhaioaaProg
namespace Go.Proofs.Ytgeacpfenhaioaa
open Go.RowKit
set_option linter.unusedVariables false

theorem info_u8 : (Try.prog.info? 5).map (fun i => (i.zero, i.size, i.bytes)) = some (some (.int .u8 0), 1, 1) := by kernel_rfl

theorem conv_zero {P : Program} (w : World) (src e : TypeId) (hs : P.underlying src = some (.slice e)) (he : P.underlying e = some (.int .u8)) (p : Option Addr) (c : Nat) :
    ∀ dst, P.underlying dst = some .string → (convert src dst (.slice p 0 c)).run P w = .ok (.string ByteArray.empty) w := by
  intro dst hd
  rw [run_convert_bytes_string w src dst e _ 0 c hs he hd]
  cases p <;> simp [Conv.bytesToString, loadCells]
  all_goals rfl

theorem conv_bytes {P : Program} (src e dst : TypeId) (hs : P.underlying src = some (.slice e)) (he : P.underlying e = some (.int .u8)) (hd : P.underlying dst = some .string) (ao : Option Addr) (c : Nat) (xs : List Int)
    (w : World) (h : Row .u8 w ao xs) : (convert src dst (.slice ao xs.length c)).run P w = .ok (.string (strOfNums xs)) w := by
  rcases h with rfl | ⟨b, o, rfl, h⟩
  · exact conv_zero w src e hs he ao c dst hd
  · exact run_convert_bytes_arg (P := P) w src e hs he b o _ c xs rfl (fun i hi => by rw [h i hi]; simp [hi]) dst hd

theorem bytes_equal (ao bo : Option Addr) (c d : Nat) (xs ys : List Int) (w : World) (hx : Row .u8 w ao xs) (hy : Row .u8 w bo ys) (bx : Byt xs) (by_ : Byt ys) :
    Calls Try.prog 19 #[.slice ao xs.length c, .slice bo ys.length d] w fun e w' => e = .returned (.bool (xs == ys)) ∧ w = w' := by
  have c1 := conv_bytes (P := Try.prog) 33 5 9 Try.underlying33 Try.underlying5 Try.underlying9 ao c xs w hx
  have c2 := conv_bytes (P := Try.prog) 33 5 9 Try.underlying33 Try.underlying5 Try.underlying9 bo d ys w hy
  have hh := strOfNums_eq xs ys bx by_
  have H := Lib.hid hh
  clear hh
  generalize strOfNums xs = s1 at *
  generalize strOfNums ys = s2 at *
  go_enter Try.func19, Try.ntmps19
  go_wp2
  go_ret
  exact ⟨ret_bool H.out, rfl⟩

theorem bytes_equal_n (ao bo : Option Addr) (n m c d : Nat) (xs ys : List Int) (w : World) (hn : xs.length = n) (hm : ys.length = m) (hx : Row .u8 w ao xs) (hy : Row .u8 w bo ys) (bx : Byt xs) (by_ : Byt ys) :
    Calls Try.prog 19 #[.slice ao n c, .slice bo m d] w fun e w' => e = .returned (.bool (xs == ys)) ∧ w = w' := by
  subst hn hm
  exact bytes_equal ao bo c d xs ys w hx hy bx by_

/-- nil only of nil -/
def NilKept (v : Value) (ao : Option Addr) : Prop := v = .slice none 0 0 → ao = none

set_option maxRecDepth 100000 in
theorem clone_bytes (ao : Option Addr) (c : Nat) (xs : List Int) (w : World) (hx : Row .u8 w ao xs) (h0 : ao = none → c = 0) (hl : xs.length ≤ 140737488355328) :
    Calls Try.prog 27 #[.slice ao xs.length c] w fun e w' => ∃ v, e = .returned v ∧ Own .u8 5 w.heap.size w' v xs ∧ NilKept v ao ∧ Below w.heap.size w w' := by
  have he := fun w a n c => Lib.run_eql_slice_nil (P := Try.prog) w 33 5 a n c 0 0 Try.underlying33
  cases ao with
  | none =>
    have hxs : xs = [] := by
      rcases hx with h | ⟨_, _, h, _⟩
      · exact h
      · cases h
    subst hxs
    obtain rfl := h0 rfl
    go_enter Try.func27, Try.ntmps27
    go_wp2
    go_ret
    exact ⟨_, rfl, Own.nil _ _ _ _, fun _ => rfl, Below.refl _ _⟩
  | some a =>
    clear h0
    have HL := Lib.hid hl
    clear hl
    have hq := hx.mono (w' := w.alloc (.cells #[] 5)) ((Below.refl _ _).alloc (Nat.le_refl _) _)
    go_enter Try.func27, Try.ntmps27
    go_wp2_with (first
      | (at_builtin; refine append_ints rfl (.tmp 5) (.tmp 6) _ rfl .u8 5 1 w.heap.size Try.underlying33 info_u8 _ _ _ _ _ rfl (Own.empty _ _ _) rfl hq (fun h => by cases h) ?_ ?_ (by simp) ?_; rotate_right; intro v' w1 hown1 hbel1 hnil))
    · go_ret
      exact ⟨_, rfl, hown1, (fun h => by have := hnil h; cases this), ((Below.refl _ _).alloc (Nat.le_refl _) _).trans hbel1⟩
    · have := HL.out; simp; unfold maxLen; omega
    · have := HL.out; simp; omega
set_option maxRecDepth 100000 in
theorem slices_equal_int (ao bo : Option Addr) (n m c d : Nat) (xs ys : List Int) (w : World) (hn : xs.length = n) (hm : ys.length = m) (hx : Row .i64 w ao xs) (hy : Row .i64 w bo ys) (h63 : n ≤ 1152921504606846976) :
    Calls Try.prog 45 #[.slice ao n c, .slice bo m d] w fun e w' => e = .returned (.bool (xs == ys)) ∧ Below w.heap.size w w' := by
  subst hn hm
  have H63 := Lib.hid h63
  by_cases hl : xs.length = ys.length
  · have HL := Lib.hid hl
    have h0 : ((xs.length : Int) != (ys.length : Int)) = false := by simp [hl]
    have h1 : (xs.length : Int) ≤ 1152921504606846976 := by omega
    clear hl h63
    go_enter Try.func45, Try.ntmps45
    go_wp2
    go_loopw [13] (fun i wr => ∃ k : Nat, k ≤ xs.length ∧ i = .int .i64 k ∧ xs.take k = ys.take k ∧ Below w.heap.size w wr) (fun i _ => xs.length - (intOf i).toNat)
    case atStart => exact ⟨0, Nat.zero_le _, rfl, by simp, Below.refl _ _⟩
    case round =>
      obtain ⟨k, hk, rfl, heq, hbel⟩ := hrel
      have HE := Lib.hid heq
      clear heq
      by_cases hlt : k < xs.length
      · obtain ⟨b1, o1, rfl, hc1⟩ := hx.at k hlt
        obtain ⟨b2, o2, rfl, hc2⟩ := hy.at k (by have := HL.out; omega)
        have hk2 : k < ys.length := by have := HL.out; omega
        have c1 := hc1 k hlt
        have c2 := hc2 k hk2
        have l1 := World.block_lt_of_cell? _ _ c1
        have l2 := World.block_lt_of_cell? _ _ c2
        have c1 := (hbel.cell (p := ⟨b1, o1 + k, none⟩) l1).trans c1
        have c2 := (hbel.cell (p := ⟨b2, o2 + k, none⟩) l2).trans c2
        have e1 : xs.take (k + 1) = xs.take k ++ [xs[k]] := by rw [List.take_succ_eq_append_getElem hlt]
        have e2 : ys.take (k + 1) = ys.take k ++ [ys[k]] := by rw [List.take_succ_eq_append_getElem hk2]
        have E1 := Lib.hid e1
        have E2 := Lib.hid e2
        have hk3 : (k : Int) < (ys.length : Int) := by omega
        clear hc1 hc2 e1 e2
        by_cases hxy : xs[k] = ys[k]
        · have hb : (xs[k] != ys[k]) = false := by simp [hxy]
          have HX := Lib.hid hxy
          clear hxy
          go_wp2_with fail
          go_quiet (fail)
          go_wp2
          go_roundw
          case rel => exact ⟨k + 1, by omega, by go_num, by rw [E1.out, E2.out, HE.out, HX.out], hbel.trans ⟨rfl, rfl, rfl, Nat.le_refl _, fun _ _ => rfl⟩⟩
          case measure => simp [intOf]; omega
        · have hb : (xs[k] != ys[k]) = true := by simp [hxy]
          go_wp2_with fail
          go_quiet (fail)
          go_wp2
          go_ret
          refine ⟨ret_bool ?_, hbel.trans ⟨rfl, rfl, rfl, Nat.le_refl _, fun _ _ => rfl⟩⟩
          symm
          rw [beq_eq_false_iff_ne]
          intro h
          have h2 : xs[k]? = ys[k]? := by rw [h]
          simp [hlt, hk2] at h2
          exact hxy h2
      · obtain rfl : k = xs.length := by omega
        have h2 : xs = ys := by
          have h := HE.out
          rw [List.take_length, HL.out, List.take_length] at h
          exact h
        have H2 := Lib.hid h2
        clear h2
        go_wp2
        go_ret
        exact ⟨ret_bool (by rw [H2.out]; simp), hbel⟩
  · have h0 : ((xs.length : Int) != (ys.length : Int)) = true := by simp; omega
    clear h63
    go_enter Try.func45, Try.ntmps45
    go_wp2
    go_ret
    refine ⟨ret_bool ?_, Below.refl _ _⟩
    symm
    rw [beq_eq_false_iff_ne]
    rintro rfl
    exact hl rfl

set_option maxRecDepth 100000 in
theorem slices_equal_byte (ao bo : Option Addr) (n m c d : Nat) (xs ys : List Int) (w : World) (hn : xs.length = n) (hm : ys.length = m) (hx : Row .u8 w ao xs) (hy : Row .u8 w bo ys) (h63 : n ≤ 1152921504606846976) :
    Calls Try.prog 46 #[.slice ao n c, .slice bo m d] w fun e w' => e = .returned (.bool (xs == ys)) ∧ Below w.heap.size w w' := by
  subst hn hm
  have H63 := Lib.hid h63
  by_cases hl : xs.length = ys.length
  · have HL := Lib.hid hl
    have h0 : ((xs.length : Int) != (ys.length : Int)) = false := by simp [hl]
    have h1 : (xs.length : Int) ≤ 1152921504606846976 := by omega
    clear hl h63
    go_enter Try.func46, Try.ntmps46
    go_wp2
    go_loopw [13] (fun i wr => ∃ k : Nat, k ≤ xs.length ∧ i = .int .i64 k ∧ xs.take k = ys.take k ∧ Below w.heap.size w wr) (fun i _ => xs.length - (intOf i).toNat)
    case atStart => exact ⟨0, Nat.zero_le _, rfl, by simp, Below.refl _ _⟩
    case round =>
      obtain ⟨k, hk, rfl, heq, hbel⟩ := hrel
      have HE := Lib.hid heq
      clear heq
      by_cases hlt : k < xs.length
      · obtain ⟨b1, o1, rfl, hc1⟩ := hx.at k hlt
        obtain ⟨b2, o2, rfl, hc2⟩ := hy.at k (by have := HL.out; omega)
        have hk2 : k < ys.length := by have := HL.out; omega
        have c1 := hc1 k hlt
        have c2 := hc2 k hk2
        have l1 := World.block_lt_of_cell? _ _ c1
        have l2 := World.block_lt_of_cell? _ _ c2
        have c1 := (hbel.cell (p := ⟨b1, o1 + k, none⟩) l1).trans c1
        have c2 := (hbel.cell (p := ⟨b2, o2 + k, none⟩) l2).trans c2
        have e1 : xs.take (k + 1) = xs.take k ++ [xs[k]] := by rw [List.take_succ_eq_append_getElem hlt]
        have e2 : ys.take (k + 1) = ys.take k ++ [ys[k]] := by rw [List.take_succ_eq_append_getElem hk2]
        have E1 := Lib.hid e1
        have E2 := Lib.hid e2
        have hk3 : (k : Int) < (ys.length : Int) := by omega
        clear hc1 hc2 e1 e2
        by_cases hxy : xs[k] = ys[k]
        · have hb : (xs[k] != ys[k]) = false := by simp [hxy]
          have HX := Lib.hid hxy
          clear hxy
          go_wp2_with fail
          go_quiet (fail)
          go_wp2
          go_roundw
          case rel => exact ⟨k + 1, by omega, by go_num, by rw [E1.out, E2.out, HE.out, HX.out], hbel.trans ⟨rfl, rfl, rfl, Nat.le_refl _, fun _ _ => rfl⟩⟩
          case measure => simp [intOf]; omega
        · have hb : (xs[k] != ys[k]) = true := by simp [hxy]
          go_wp2_with fail
          go_quiet (fail)
          go_wp2
          go_ret
          refine ⟨ret_bool ?_, hbel.trans ⟨rfl, rfl, rfl, Nat.le_refl _, fun _ _ => rfl⟩⟩
          symm
          rw [beq_eq_false_iff_ne]
          intro h
          have h2 : xs[k]? = ys[k]? := by rw [h]
          simp [hlt, hk2] at h2
          exact hxy h2
      · obtain rfl : k = xs.length := by omega
        have h2 : xs = ys := by
          have h := HE.out
          rw [List.take_length, HL.out, List.take_length] at h
          exact h
        have H2 := Lib.hid h2
        clear h2
        go_wp2
        go_ret
        exact ⟨ret_bool (by rw [H2.out]; simp), hbel⟩
  · have h0 : ((xs.length : Int) != (ys.length : Int)) = true := by simp; omega
    clear h63
    go_enter Try.func46, Try.ntmps46
    go_wp2
    go_ret
    refine ⟨ret_bool ?_, Below.refl _ _⟩
    symm
    rw [beq_eq_false_iff_ne]
    rintro rfl
    exact hl rfl

end Go.Proofs.Ytgeacpfenhaioaa
