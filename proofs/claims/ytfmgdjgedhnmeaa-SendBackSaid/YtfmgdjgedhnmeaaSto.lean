/- the library's slices and bytes, as far as the store and the leaves go · Regions that draw their order, whose callees may make memory of their own: one walk of the text's order, if what each operation yields does not depend on new memory. · Stores as lists of blocks: what a store reads as, and what is asked of one. No program in sight. · The store's small functions: what they compute. -/
import Derived.Test.YtfmgdjgedhnmeaaBase
import Derived.Test.YtfmgdjgedhnmeaaProg
namespace Go.Proofs.Ytfmgdjgedhnmeaa
open Go.RowKit
set_option linter.unusedVariables false

theorem info_u8 : (Try.prog.info? 5).map (fun i => (i.zero, i.size, i.bytes)) = some (some (.int .u8 0), 1, 1) := by kernel_rfl

theorem conv_zero {P : Program} (w : World) (src e : TypeId) (hs : P.underlying src = some (.slice e)) (he : P.underlying e = some (.int .u8)) (p : Option Addr) (c : Nat) :
    ∀ dst, P.underlying dst = some .string → (convert src dst (.slice p 0 c)).run P w = .ok (.string ByteArray.empty) w := by
  intro dst hd
  rw [run_convert_bytes_string w src dst e _ 0 c hs he hd]
  cases p <;> simp [Conv.bytesToString, loadCells]
  all_goals rfl

theorem conv_bytes {P : Program} (src e dst : TypeId) (hs : P.underlying src = some (.slice e)) (he : P.underlying e = some (.int .u8)) (hd : P.underlying dst = some .string) (ao : Option Addr) (c : Nat) (xs : List Int)
    (w : World) (h : Row .u8 w ao xs) : (convert src dst (.slice ao xs.length c)).run P w = .ok (.string (strOfNums xs)) w := by
  rcases h with rfl | ⟨b, o, rfl, h⟩
  · exact conv_zero w src e hs he ao c dst hd
  · exact run_convert_bytes_arg (P := P) w src e hs he b o _ c xs rfl (fun i hi => by rw [h i hi]; simp [hi]) dst hd

theorem bytes_equal (ao bo : Option Addr) (c d : Nat) (xs ys : List Int) (w : World) (hx : Row .u8 w ao xs) (hy : Row .u8 w bo ys) (bx : Byt xs) (by_ : Byt ys) :
    Calls Try.prog 13 #[.slice ao xs.length c, .slice bo ys.length d] w fun e w' => e = .returned (.bool (xs == ys)) ∧ w = w' := by
  have c1 := conv_bytes (P := Try.prog) 38 5 9 Try.underlying38 Try.underlying5 Try.underlying9 ao c xs w hx
  have c2 := conv_bytes (P := Try.prog) 38 5 9 Try.underlying38 Try.underlying5 Try.underlying9 bo d ys w hy
  have hh := strOfNums_eq xs ys bx by_
  have H := Lib.hid hh
  clear hh
  generalize strOfNums xs = s1 at *
  generalize strOfNums ys = s2 at *
  go_enter Try.func13, Try.ntmps13
  go_wp2
  go_ret
  exact ⟨ret_bool H.out, rfl⟩

theorem bytes_equal_n (ao bo : Option Addr) (n m c d : Nat) (xs ys : List Int) (w : World) (hn : xs.length = n) (hm : ys.length = m) (hx : Row .u8 w ao xs) (hy : Row .u8 w bo ys) (bx : Byt xs) (by_ : Byt ys) :
    Calls Try.prog 13 #[.slice ao n c, .slice bo m d] w fun e w' => e = .returned (.bool (xs == ys)) ∧ w = w' := by
  subst hn hm
  exact bytes_equal ao bo c d xs ys w hx hy bx by_

/-- nil only of nil -/
def NilKept (v : Value) (ao : Option Addr) : Prop := v = .slice none 0 0 → ao = none

set_option maxRecDepth 100000 in
theorem clone_bytes (ao : Option Addr) (c : Nat) (xs : List Int) (w : World) (hx : Row .u8 w ao xs) (h0 : ao = none → c = 0) (hl : xs.length ≤ 140737488355328) :
    Calls Try.prog 21 #[.slice ao xs.length c] w fun e w' => ∃ v, e = .returned v ∧ Own .u8 5 w.heap.size w' v xs ∧ NilKept v ao ∧ Below w.heap.size w w' := by
  have he := fun w a n c => Lib.run_eql_slice_nil (P := Try.prog) w 38 5 a n c 0 0 Try.underlying38
  cases ao with
  | none =>
    have hxs : xs = [] := by
      rcases hx with h | ⟨_, _, h, _⟩
      · exact h
      · cases h
    subst hxs
    obtain rfl := h0 rfl
    go_enter Try.func21, Try.ntmps21
    go_wp2
    go_ret
    exact ⟨_, rfl, Own.nil _ _ _ _, fun _ => rfl, Below.refl _ _⟩
  | some a =>
    clear h0
    have HL := Lib.hid hl
    clear hl
    have hq := hx.mono (w' := w.alloc (.cells #[] 5)) ((Below.refl _ _).alloc (Nat.le_refl _) _)
    go_enter Try.func21, Try.ntmps21
    go_wp2_with (first
      | (at_builtin; refine append_ints rfl (.tmp 5) (.tmp 6) _ rfl .u8 5 1 w.heap.size Try.underlying38 info_u8 _ _ _ _ _ rfl (Own.empty _ _ _) rfl hq (fun h => by cases h) ?_ ?_ (by simp) ?_; rotate_right; intro v' w1 hown1 hbel1 hnil))
    · go_ret
      exact ⟨_, rfl, hown1, (fun h => by have := hnil h; cases this), ((Below.refl _ _).alloc (Nat.le_refl _) _).trans hbel1⟩
    · have := HL.out; simp; unfold maxLen; omega
    · have := HL.out; simp; omega
set_option maxRecDepth 100000 in
theorem slices_equal_byte (ao bo : Option Addr) (n m c d : Nat) (xs ys : List Int) (w : World) (hn : xs.length = n) (hm : ys.length = m) (hx : Row .u8 w ao xs) (hy : Row .u8 w bo ys) (h63 : n ≤ 1152921504606846976) :
    Calls Try.prog 53 #[.slice ao n c, .slice bo m d] w fun e w' => e = .returned (.bool (xs == ys)) ∧ Below w.heap.size w w' := by
  subst hn hm
  have H63 := Lib.hid h63
  by_cases hl : xs.length = ys.length
  · have HL := Lib.hid hl
    have h0 : ((xs.length : Int) != (ys.length : Int)) = false := by simp [hl]
    have h1 : (xs.length : Int) ≤ 1152921504606846976 := by omega
    clear hl h63
    go_enter Try.func53, Try.ntmps53
    go_wp2
    go_loopw [13] (fun i wr => ∃ k : Nat, k ≤ xs.length ∧ i = .int .i64 k ∧ xs.take k = ys.take k ∧ Below w.heap.size w wr) (fun i _ => xs.length - (intOf i).toNat)
    case atStart => exact ⟨0, Nat.zero_le _, rfl, by simp, Below.refl _ _⟩
    case round =>
      obtain ⟨k, hk, rfl, heq, hbel⟩ := hrel
      have HE := Lib.hid heq
      clear heq
      by_cases hlt : k < xs.length
      · obtain ⟨b1, o1, rfl, hc1⟩ := hx.at k hlt
        obtain ⟨b2, o2, rfl, hc2⟩ := hy.at k (by have := HL.out; omega)
        have hk2 : k < ys.length := by have := HL.out; omega
        have c1 := hc1 k hlt
        have c2 := hc2 k hk2
        have l1 := World.block_lt_of_cell? _ _ c1
        have l2 := World.block_lt_of_cell? _ _ c2
        have c1 := (hbel.cell (p := ⟨b1, o1 + k, none⟩) l1).trans c1
        have c2 := (hbel.cell (p := ⟨b2, o2 + k, none⟩) l2).trans c2
        have e1 : xs.take (k + 1) = xs.take k ++ [xs[k]] := by rw [List.take_succ_eq_append_getElem hlt]
        have e2 : ys.take (k + 1) = ys.take k ++ [ys[k]] := by rw [List.take_succ_eq_append_getElem hk2]
        have E1 := Lib.hid e1
        have E2 := Lib.hid e2
        have hk3 : (k : Int) < (ys.length : Int) := by omega
        clear hc1 hc2 e1 e2
        by_cases hxy : xs[k] = ys[k]
        · have hb : (xs[k] != ys[k]) = false := by simp [hxy]
          have HX := Lib.hid hxy
          clear hxy
          go_wp2_with fail
          go_quiet (fail)
          go_wp2
          go_roundw
          case rel => exact ⟨k + 1, by omega, by go_num, by rw [E1.out, E2.out, HE.out, HX.out], hbel.trans ⟨rfl, rfl, rfl, Nat.le_refl _, fun _ _ => rfl⟩⟩
          case measure => simp [intOf]; omega
        · have hb : (xs[k] != ys[k]) = true := by simp [hxy]
          go_wp2_with fail
          go_quiet (fail)
          go_wp2
          go_ret
          refine ⟨ret_bool ?_, hbel.trans ⟨rfl, rfl, rfl, Nat.le_refl _, fun _ _ => rfl⟩⟩
          symm
          rw [beq_eq_false_iff_ne]
          intro h
          have h2 : xs[k]? = ys[k]? := by rw [h]
          simp [hlt, hk2] at h2
          exact hxy h2
      · obtain rfl : k = xs.length := by omega
        have h2 : xs = ys := by
          have h := HE.out
          rw [List.take_length, HL.out, List.take_length] at h
          exact h
        have H2 := Lib.hid h2
        clear h2
        go_wp2
        go_ret
        exact ⟨ret_bool (by rw [H2.out]; simp), hbel⟩
  · have h0 : ((xs.length : Int) != (ys.length : Int)) = true := by simp; omega
    clear h63
    go_enter Try.func53, Try.ntmps53
    go_wp2
    go_ret
    refine ⟨ret_bool ?_, Below.refl _ _⟩
    symm
    rw [beq_eq_false_iff_ne]
    rintro rfl
    exact hl rfl

end Go.Proofs.Ytfmgdjgedhnmeaa

namespace Go.Proofs.Ytfmgdjgedhnmeaa
open Go.RowKit
set_option linter.unusedVariables false

open Classical in
/-- x, if it is w with new memory; else w itself -/
noncomputable def mix (w x : World) : World := if Below w.heap.size w x then x else w

theorem mix_below (w x : World) : Below w.heap.size w (mix w x) := by
  unfold mix
  split
  · assumption
  · exact Below.refl _ _

theorem mix_of {w x : World} (h : Below w.heap.size w x) : mix w x = x := by
  unfold mix
  rw [if_pos h]

@[go_sem] theorem mix_cell (w x : World) (b o : Nat) (h : b < w.heap.size) : (mix w x).cell? ⟨b, o, none⟩ = w.cell? ⟨b, o, none⟩ := (bcell (mix_below w x)).1 b o h

@[go_sem] theorem mix_lt (w x : World) (b : Nat) (h : b < w.heap.size) : (b < (mix w x).heap.size) = True := by
  have := (mix_below w x).size
  simp; omega

/-- a callee that makes memory of its own alone -/
theorem calls_mix {P : Program} {f : FuncId} {args : Array Value} {w n : World} {v : Value} (h : Calls P f args (mix w n) fun e w' => e = .returned v ∧ Below (mix w n).heap.size (mix w n) w') :
    Calls P f args (mix w n) fun e w'' => e = .returned v ∧ ∃ x, w'' = mix w x :=
  h.mono fun _ w' ⟨he, hb⟩ => ⟨he, w', (mix_of (below_step (mix_below w n) hb)).symm⟩

theorem wp_region_mix {P : Program} {id : Nat} {Q : Exit → Act → World → Prop} {a : Act} {w : World} {l : List Oper} (hm : P.follows .mixedOrders = true) (hB : Region.lexB .any l.toArray = true)
    (h : wpQuiet P l.toArray (fun w' => ∃ x, w' = mix w x) (fun a' => ∀ w', Below w.heap.size w w' → Q .normal a' w') l a) : (Code.region id l.toArray true).wp P Q a w := by
  have hd : Below w.heap.size w { w with drawn := w.drawn + 1 } := ⟨rfl, rfl, rfl, Nat.le_refl _, fun _ _ => rfl⟩
  refine wp_region_quiet (C := fun w' => ∃ x, w' = mix w x) hm hB ⟨{ w with drawn := w.drawn + 1 }, (mix_of hd).symm⟩ ?_
  have e : (fun a' => ∀ w', (∃ x, w' = mix w x) → Q .normal a' w') = (fun a' => ∀ w', Below w.heap.size w w' → Q .normal a' w') := by
    funext a'
    refine propext ⟨fun h w' hb => h w' ⟨w', (mix_of hb).symm⟩, fun h w' ⟨x, hx⟩ => ?_⟩
    subst hx
    exact h _ (mix_below w x)
  rw [e]
  simpa using h
end Go.Proofs.Ytfmgdjgedhnmeaa

namespace Go.Proofs.Ytfmgdjgedhnmeaa
open Go.RowKit
set_option linter.unusedVariables false

structure Blk where
  refs : Int
  level : Int
  kids : List Int
  bytes : List Int
  deriving DecidableEq

def noBlk : Blk := ⟨0, 0, [], []⟩

/-- the block at an address -/
def blk (s : List Blk) (a : Int) : Blk := (s[(a - 1).toNat]?).getD noBlk

/-- is there a block? -/
def thereB (s : List Blk) (a : Int) : Bool := decide (1 ≤ a) && (decide (a ≤ s.length) && decide (0 < (blk s a).refs))

theorem blk_at (s : List Blk) (k : Nat) (h : k < s.length) : blk s ((k : Int) + 1) = s[k] := by
  unfold blk
  rw [show ((k : Int) + 1 - 1).toNat = k from by omega]
  simp [h]

theorem there_at (s : List Blk) (k : Nat) (h : k < s.length) : thereB s ((k : Int) + 1) = decide (0 < s[k].refs) := by
  unfold thereB
  rw [blk_at s k h, decide_eq_true (show (1 : Int) ≤ k + 1 by omega), decide_eq_true (show (k : Int) + 1 ≤ s.length by omega)]
  simp

theorem there_low (s : List Blk) (a : Int) (h : a < 1) : thereB s a = false := by
  unfold thereB
  rw [decide_eq_false (show ¬ 1 ≤ a by omega)]
  rfl

theorem there_high (s : List Blk) (a : Int) (h : (s.length : Int) < a) : thereB s a = false := by
  unfold thereB
  rw [decide_eq_false (show ¬ a ≤ s.length by omega)]
  simp

theorem there_in {s : List Blk} {a : Int} (h : thereB s a = true) : ∃ k : Nat, k < s.length ∧ a = k + 1 ∧ 0 < (s[k]?.getD noBlk).refs := by
  unfold thereB at h
  simp only [Bool.and_eq_true, decide_eq_true_eq] at h
  refine ⟨(a - 1).toNat, by omega, by omega, h.2.2⟩

def I64 (x : Int) : Prop := -9223372036854775808 ≤ x ∧ x ≤ 9223372036854775807

/-- a block's numbers fit their kinds; its lists are no longer than memory -/
structure WfB (x : Blk) : Prop where
  refs : I64 x.refs
  level : I64 x.level
  kids : ∀ k ∈ x.kids, I64 k
  bytes : Byt x.bytes
  klen : x.kids.length ≤ 17592186044416
  blen : x.bytes.length ≤ 140737488351232

def Capd (ao : Option Addr) (n cap : Nat) : Prop := n ≤ cap ∧ (ao = none → cap = 0)

/-- a slice of integers, as a value -/
def Sl (k : IntKind) (w : World) (v : Value) (xs : List Int) : Prop := ∃ ao cap, v = .slice ao xs.length cap ∧ Row k w ao xs ∧ Capd ao xs.length cap

theorem Sl.mono {k : IntKind} {w w' : World} {v : Value} {xs : List Int} (h : Sl k w v xs) (hb : Below w.heap.size w w') : Sl k w' v xs := by
  obtain ⟨ao, cap, hv, hr, hc⟩ := h
  exact ⟨ao, cap, hv, hr.mono hb, hc⟩

/-- a block lies there -/
structure BlkAt (w : World) (b o : Nat) (x : Blk) : Prop where
  refs : w.cell? ⟨b, o, none⟩ = some (.int .i64 x.refs)
  level : w.cell? ⟨b, o + 1, none⟩ = some (.int .i64 x.level)
  kids : ∃ v, w.cell? ⟨b, o + 2, none⟩ = some v ∧ Sl .i64 w v x.kids
  bytes : ∃ v, w.cell? ⟨b, o + 3, none⟩ = some v ∧ Sl .u8 w v x.bytes

theorem BlkAt.lt {w : World} {b o : Nat} {x : Blk} (h : BlkAt w b o x) : b < w.heap.size := World.block_lt_of_cell? _ _ h.refs

theorem BlkAt.mono {w w' : World} {b o : Nat} {x : Blk} (h : BlkAt w b o x) (hb : Below w.heap.size w w') : BlkAt w' b o x := by
  have hc := (bcell hb).1 b
  have hl := h.lt
  obtain ⟨v, h1, h2⟩ := h.kids
  obtain ⟨u, h3, h4⟩ := h.bytes
  exact ⟨(hc _ hl).trans h.refs, (hc _ hl).trans h.level, ⟨v, (hc _ hl).trans h1, h2.mono hb⟩, ⟨u, (hc _ hl).trans h3, h4.mono hb⟩⟩

/-- a store's blocks lie there -/
def StoRow (w : World) (ao : Option Addr) (s : List Blk) : Prop := s = [] ∨ ∃ b o, ao = some ⟨b, o, none⟩ ∧ ∀ i (h : i < s.length), BlkAt w b (o + i * 4) s[i]

theorem StoRow.at {w : World} {ao : Option Addr} {s : List Blk} (h : StoRow w ao s) (i : Nat) (hi : i < s.length) : ∃ b o, ao = some ⟨b, o, none⟩ ∧ ∀ i (h : i < s.length), BlkAt w b (o + i * 4) s[i] := by
  rcases h with rfl | h
  · simp at hi
  · exact h

theorem StoRow.mono {w w' : World} {ao : Option Addr} {s : List Blk} (h : StoRow w ao s) (hb : Below w.heap.size w w') : StoRow w' ao s := by
  rcases h with rfl | ⟨b, o, rfl, h⟩
  · exact .inl rfl
  · exact .inr ⟨b, o, rfl, fun i hi => (h i hi).mono hb⟩

def WfS (s : List Blk) : Prop := ∀ x ∈ s, WfB x

theorem WfS.at {s : List Blk} (h : WfS s) (i : Nat) (hi : i < s.length) : WfB s[i] := h _ (List.getElem_mem hi)

/-- what is wrong with a block by itself -/
def kidOk (s : List Blk) (l k : Int) : Bool := decide (k = 0) || (thereB s k && decide ((blk s k).level = l - 1))
def formE (s : List Blk) (r l : Int) (ks bs : List Int) : Int :=
  if r = 0 then (if l ≠ 0 ∨ 0 < ks.length + bs.length then 4 else 0)
  else if r < 0 ∨ 1000000 < r ∨ l < 0 ∨ 3 < l then 3
  else if l = 0 then (if 0 < ks.length ∨ bs.length ≠ 4 then 4 else 0)
  else if ks.length ≠ 4 ∨ 0 < bs.length then 4
  else if ks.all (kidOk s l) = false then 5
  else if ks.all (fun k => decide (k = 0)) then 4 else 0

def formB (s : List Blk) (x : Blk) : Int := formE s x.refs x.level x.kids x.bytes

/-- how often an address stands among the kids of all -/
def kidsOf (s : List Blk) : List Int := s.flatMap Blk.kids
def belowN (s : List Blk) (i : Nat) : Int := ((kidsOf s).count ((i : Int) + 1) : Nat)
def belowL (s : List Blk) : List Int := (List.range s.length).map (belowN s)
def outL (s : List Blk) : List Int := (List.range s.length).map fun i => (s[i]?.getD noBlk).refs - belowN s i

/-- the first error among the blocks -/
def formsE (s : List Blk) : List Blk → Int
  | [] => 0
  | x :: l => if formB s x = 0 then formsE s l else formB s x

def checkE (s : List Blk) : Int :=
  if 400 < s.length then 2
  else if formsE s s ≠ 0 then formsE s s
  else if (outL s).any (fun n => decide (n < 0)) then 7 else 0
end Go.Proofs.Ytfmgdjgedhnmeaa

namespace Go.Proofs.Ytfmgdjgedhnmeaa
open Go.RowKit
set_option linter.unusedVariables false

theorem there_any (w : World) (ao : Option Addr) (n cap : Nat) (s : List Blk) (a : Int) (hn : s.length = n) (hs : n ≤ 1152921504606846976) (hr : StoRow w ao s) :
    Calls Try.prog 123 #[.agg #[.slice ao n cap], .int .i64 a] w fun e w' => e = .returned (.bool (thereB s a)) ∧ Below w.heap.size w w' := by
  subst hn
  rcases (show a < 1 ∨ (1 ≤ a ∧ (s.length : Int) < a) ∨ (1 ≤ a ∧ a ≤ s.length) from by omega) with h | ⟨h1, h2⟩ | ⟨h1, h2⟩
  · have ht := Lib.hid (there_low s a h)
    go_enter Try.func123, Try.ntmps123
    go_wp2
    go_ret
    exact ⟨ret_bool ht.out.symm, (Below.refl _ _).alloc (Nat.le_refl _) _⟩
  · have ht := Lib.hid (there_high s a h2)
    go_enter Try.func123, Try.ntmps123
    go_wp2
    go_ret
    exact ⟨ret_bool ht.out.symm, (Below.refl _ _).alloc (Nat.le_refl _) _⟩
  · obtain ⟨k, rfl⟩ : ∃ k : Nat, a = k + 1 := ⟨(a - 1).toNat, by omega⟩
    have hk : k < s.length := by omega
    have ht := Lib.hid (there_at s k hk)
    obtain ⟨b, o, rfl, hb⟩ := hr.at k hk
    have hc := (hb k hk).refs
    have hl := (hb k hk).lt
    clear hr hb
    go_enter Try.func123, Try.ntmps123
    go_wp2
    go_ret
    exact ⟨ret_bool ht.out.symm, (Below.refl _ _).alloc (Nat.le_refl _) _⟩

theorem there_any_is (w : World) (ao : Option Addr) (n cap : Nat) (s : List Blk) (a : Int) (v : Bool) (hv : thereB s a = v) (hn : s.length = n) (hs : n ≤ 1152921504606846976) (hr : StoRow w ao s) :
    Calls Try.prog 123 #[.agg #[.slice ao n cap], .int .i64 a] w fun e w' => e = .returned (.bool v) ∧ Below w.heap.size w w' := by
  subst hv
  exact there_any w ao n cap s a hn hs hr

end Go.Proofs.Ytfmgdjgedhnmeaa
