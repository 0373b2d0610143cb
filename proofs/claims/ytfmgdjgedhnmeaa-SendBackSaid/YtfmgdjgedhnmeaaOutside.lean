/- store.below: how often each block stands below others. · rookeryref.OutsideOf: how often each block is held by nobody in the store. · What Check says, in plain words. · store.Check: what is wrong with a store. · store.Outside, store.Used: what they tell. -/
import Derived.Test.YtfmgdjgedhnmeaaSto
import Derived.Test.YtfmgdjgedhnmeaaForm
namespace Go.Proofs.Ytfmgdjgedhnmeaa
open Go.RowKit
set_option linter.unusedVariables false

def cntL (n : Nat) (l : List Int) : List Int := (List.range n).map fun (j : Nat) => ((l.count ((j : Int) + 1) : Nat) : Int)
theorem cntL_length (n : Nat) (l : List Int) : (cntL n l).length = n := by simp [cntL]
theorem cntL_at (n : Nat) (l : List Int) (j : Nat) (h : j < n) (h' : j < (cntL n l).length) : (cntL n l)[j] = ((l.count ((j : Int) + 1) : Nat) : Int) := by simp [cntL]
theorem cntL_nil (n : Nat) : cntL n [] = zeros n := by
  apply List.ext_getElem
  · simp [cntL, zeros]
  · intro i h1 h2
    simp [cntL, zeros]
theorem cntL_zero (n : Nat) (l : List Int) : cntL n (l ++ [0]) = cntL n l := by
  unfold cntL
  apply List.map_congr_left
  intro j _
  rw [List.count_append, List.count_cons_of_ne (by omega)]
  simp
theorem cntL_succ (n : Nat) (l : List Int) (j : Nat) : cntL n (l ++ [(j : Int) + 1]) = (cntL n l).set j (((l.count ((j : Int) + 1) : Nat) : Int) + 1) := by
  apply List.ext_getElem
  · simp [cntL]
  · intro i h1 h2
    rw [List.getElem_set]
    simp only [cntL, List.length_map, List.length_range] at h1
    by_cases e : j = i
    · subst e
      simp [cntL, List.count_append]
    · rw [if_neg e]
      simp only [cntL, List.getElem_map, List.getElem_range]
      rw [List.count_append, List.count_cons_of_ne (by omega)]
      simp

/-- kids are 0, or addresses; four at most -/
def KidsIn (s : List Blk) : Prop := ∀ x ∈ s, x.kids.length ≤ 4 ∧ ∀ k ∈ x.kids, k = 0 ∨ (1 ≤ k ∧ k ≤ s.length)

theorem kidsOf_take (s : List Blk) (i : Nat) (h : i < s.length) : kidsOf (s.take (i + 1)) = kidsOf (s.take i) ++ s[i].kids := by
  unfold kidsOf
  rw [List.take_succ_eq_append_getElem h, List.flatMap_append]
  simp

theorem kidsOf_len (s : List Blk) (h : ∀ x ∈ s, x.kids.length ≤ 4) : (kidsOf s).length ≤ 4 * s.length := by
  induction s with
  | nil => simp [kidsOf]
  | cons x s ih =>
    have h1 := h x (by simp)
    have h2 := ih fun y hy => h y (by simp [hy])
    simp only [kidsOf, List.flatMap_cons, List.length_append, List.length_cons] at *
    omega

theorem belowL_cnt (s : List Blk) : belowL s = cntL s.length (kidsOf s) := rfl

theorem info_int : (Try.prog.info? 3).map (fun i => (i.zero, i.size, i.bytes)) = some (some (.int .i64 0), 1, 8) := by kernel_rfl

set_option maxRecDepth 100000 in
set_option maxHeartbeats 1000000 in
theorem below_any (w : World) (ao : Option Addr) (n cap : Nat) (s : List Blk) (hn : s.length = n) (hn4 : n ≤ 400) (hs : StoRow w ao s) (hk : KidsIn s) :
    Calls Try.prog 87 #[.agg #[.slice ao n cap]] w fun e w' => ∃ ao', e = .returned (.slice ao' n n) ∧ Own .i64 3 w.heap.size w' (.slice ao' n n) (belowL s) ∧ Below w.heap.size w w' := by
  have hmk := make_ints (P := Try.prog) .i64 91 3 8 Try.underlying91 info_int n (by omega) (by omega)
  have HN := Lib.hid hn
  have h400 : (n : Int) ≤ 400 := by omega
  clear hn
  go_enter Try.func87, Try.ntmps87
  go_wp2
  go_loopw [15] (fun i wr => ∃ k : Nat, k ≤ n ∧ i = .int .i64 k ∧ wr.heap[w.heap.size + 1]? = some (.cells (icells .i64 (cntL n (kidsOf (s.take k)))) 3 (0, 0)) ∧ Below w.heap.size w wr) (fun i _ => n - (intOf i).toNat)
  case atStart =>
    refine ⟨0, Nat.zero_le _, rfl, ?_, ((Below.refl _ _).alloc (Nat.le_refl _) _).alloc (by simp) _⟩
    rw [heap_alloc2_new]
    simp only [List.take_zero]
    rw [show kidsOf [] = [] from rfl, cntL_nil]
  case round =>
    obtain ⟨k, hkn, rfl, hG, hbel⟩ := hrel
    by_cases hlt : k < n
    · have hks : k < s.length := by have := HN.out; omega
      obtain ⟨b, o, rfl, hq⟩ := hs.at k hks
      have hB := hq k hks
      have lb0 := hB.lt
      have lb : b < wr.heap.size := Nat.lt_of_lt_of_le lb0 hbel.size
      have hbc := (bcell hbel).1
      have c0 := (hbc _ _ lb0).trans hB.refs
      have c1 := (hbc _ _ lb0).trans hB.level
      obtain ⟨v2, c2, kao, kcap, rfl, hrow, hcd⟩ := hB.kids
      obtain ⟨v3, c3, bao, bcap, rfl, hrow3, hcd3⟩ := hB.bytes
      have c2 := (hbc _ _ lb0).trans c2
      have c3 := (hbc _ _ lb0).trans c3
      clear hbc
      have hkk := hk _ (List.getElem_mem hks)
      have hkt := kidsOf_take s k hks
      have HKT := Lib.hid hkt
      have hlen : (kidsOf (s.take k)).length ≤ 1600 := by
        have := kidsOf_len (s.take k) (fun x hx => (hk x (List.mem_of_mem_take hx)).1)
        simp at this; omega
      have HLEN := Lib.hid hlen
      clear hq hs hB hkt hlen
      generalize hx : s[k] = x at *
      have HX := Lib.hid hx
      clear hx
      have hs4 : (x.kids.length : Int) ≤ 4 := by have := hkk.1; omega
      have hgl := lt_heap hG
      go_wp2
      have hG2 : (wr.alloc (.cells #[.int .i64 x.refs, .int .i64 x.level, .slice kao x.kids.length kcap, .slice bao x.bytes.length bcap] 93)).heap[w.heap.size + 1]? = some (.cells (icells .i64 (cntL n (kidsOf (s.take k) ++ x.kids.take 0))) 3 (0, 0)) := by
        rw [Below.heap_alloc _ _ _ hgl]; simpa using hG
      have hbel2 : Below w.heap.size w (wr.alloc (.cells #[.int .i64 x.refs, .int .i64 x.level, .slice kao x.kids.length kcap, .slice bao x.bytes.length bcap] 93)) := hbel.alloc hbel.size _
      clear hG hbel c0 c1 c2 c3 hrow3
      generalize wr.alloc (Obj.cells #[Value.int .i64 x.refs, Value.int .i64 x.level, Value.slice kao x.kids.length kcap, Value.slice bao x.bytes.length bcap] 93) = W2 at *
      go_loopw [22] (fun j wr => ∃ m : Nat, m ≤ x.kids.length ∧ j = .int .i64 m ∧ wr.heap[w.heap.size + 1]? = some (.cells (icells .i64 (cntL n (kidsOf (s.take k) ++ x.kids.take m))) 3 (0, 0)) ∧ Below w.heap.size w wr) (fun j _ => x.kids.length - (intOf j).toNat)
      case atStart => exact ⟨0, Nat.zero_le _, rfl, hG2, hbel2⟩
      case round =>
        obtain ⟨m, hm, rfl, hG, hbel⟩ := hrel
        have hm4 : m ≤ 4 := by omega
        by_cases hmt : m < x.kids.length
        · obtain ⟨kb, ko, rfl, hkc⟩ := hrow.at m hmt
          have hck := hkc m hmt
          have hlk := World.block_lt_of_cell? _ _ hck
          have e1 : x.kids.take (m + 1) = x.kids.take m ++ [x.kids[m]] := by rw [List.take_succ_eq_append_getElem hmt]
          have hkv := hkk.2 _ (List.getElem_mem hmt)
          have hck := ((bcell hbel).1 _ _ hlk).trans hck
          have hlk2 : kb < wr.heap.size := Nat.lt_of_lt_of_le hlk hbel.size
          clear hkc hrow
          generalize x.kids[m] = y at *
          have E1 := Lib.hid e1
          clear e1
          rcases hkv with rfl | ⟨hy1, hy2⟩
          · go_wp2
            go_roundw
            case rel => exact ⟨m + 1, by omega, by go_num, by rw [E1.out, ← List.append_assoc, cntL_zero]; exact hG, hbel⟩
            case measure => simp [intOf]; omega
          · obtain ⟨j, rfl⟩ : ∃ j : Nat, y = j + 1 := ⟨(y - 1).toNat, by omega⟩
            have hj : j < n := by have := HN.out; omega
            have hcg := cell_of_block hG j
            rw [icells_at _ _ j (by rw [cntL_length]; exact hj), cntL_at _ _ _ hj] at hcg
            have hfg := free_of_block hG j
            have hcl : (kidsOf (s.take k) ++ x.kids.take m).length ≤ 1604 := by have := HLEN.out; simp; omega
            have hcc := List.count_le_length (a := ((j : Int) + 1)) (l := kidsOf (s.take k) ++ x.kids.take m)
            have hsu := cntL_succ n (kidsOf (s.take k) ++ x.kids.take m) j
            have hset := heap_setCell_same' hG j (.int .i64 (((List.count ((j : Int) + 1) (kidsOf (s.take k) ++ x.kids.take m) : Nat) : Int) + 1))
            rw [icells_set, ← hsu, List.append_assoc, ← E1.out] at hset
            have HSET := Lib.hid hset
            have hcn0 : (0 : Int) ≤ ((List.count ((j : Int) + 1) (kidsOf (s.take k) ++ x.kids.take m) : Nat) : Int) := by omega
            have hnc : (((List.count ((j : Int) + 1) (kidsOf (s.take k) ++ x.kids.take m) : Nat) : Int) + 1) ≤ 1605 := by omega
            clear hcl hsu hset hy1 hy2
            generalize ((List.count ((j : Int) + 1) (kidsOf (s.take k) ++ x.kids.take m) : Nat) : Int) = cn at *
            go_wp2
            go_roundw
            case rel => exact ⟨m + 1, by omega, by go_num, HSET.out, hbel.setCell (by simp) _⟩
            case measure => simp [intOf]; omega
        · obtain rfl : m = x.kids.length := by omega
          go_wp2
          go_roundw
          case rel =>
            refine ⟨k + 1, by omega, by go_num, ?_, hbel⟩
            rw [HKT.out]
            rw [List.take_length] at hG
            exact hG
          case measure => simp [intOf]; omega
    · obtain rfl : k = n := by omega
      go_wp2
      go_ret
      refine ⟨_, rfl, ?_, hbel⟩
      have ht : s.take k = s := List.take_of_length_le (by have := HN.out; omega)
      rw [ht] at hG
      have hl := cntL_length k (kidsOf s)
      rw [belowL_cnt, HN.out]
      refine ⟨by simp, .inr ⟨_, k, _, by rw [hl], by omega, hG, by rw [hl]; exact Nat.le_refl _, by unfold maxLen; omega, by rw [icells_size, hl, Nat.mul_one], ?_⟩⟩
      rw [hl, Nat.mul_one, List.take_of_length_le (by rw [Array.length_toList, icells_size, hl]; exact Nat.le_refl _)]
      rfl
end Go.Proofs.Ytfmgdjgedhnmeaa

namespace Go.Proofs.Ytfmgdjgedhnmeaa
open Go.RowKit
set_option linter.unusedVariables false

def outM (s : List Blk) (l : List Int) : List Int := (List.range s.length).map fun (j : Nat) => (s[j]?.getD noBlk).refs - ((l.count ((j : Int) + 1) : Nat) : Int)
theorem outM_length (s : List Blk) (l : List Int) : (outM s l).length = s.length := by simp [outM]
theorem outM_at (s : List Blk) (l : List Int) (j : Nat) (h : j < s.length) (h' : j < (outM s l).length) : (outM s l)[j] = s[j].refs - ((l.count ((j : Int) + 1) : Nat) : Int) := by simp [outM, h]
theorem outM_zero (s : List Blk) (l : List Int) : outM s (l ++ [0]) = outM s l := by
  unfold outM
  apply List.map_congr_left
  intro j _
  rw [List.count_append, List.count_cons_of_ne (by omega)]
  simp
theorem outM_succ (s : List Blk) (l : List Int) (j : Nat) (h : j < s.length) : outM s (l ++ [(j : Int) + 1]) = (outM s l).set j (s[j].refs - ((l.count ((j : Int) + 1) : Nat) : Int) - 1) := by
  apply List.ext_getElem
  · simp [outM]
  · intro i h1 h2
    rw [List.getElem_set]
    have hi : i < s.length := by simpa [outM_length] using h1
    by_cases e : j = i
    · subst e
      rw [outM_at s _ j h]
      simp [List.count_append]
      omega
    · rw [if_neg e, outM_at s _ i hi, outM_at s _ i hi, List.count_append, List.count_cons_of_ne (by omega)]
      simp
theorem outL_out (s : List Blk) : outL s = outM s (kidsOf s) := rfl

theorem Own.weaken {k : IntKind} {e base base' : Nat} {w : World} {v : Value} {xs : List Int} (h : Own k e base w v xs) (hb : base' ≤ base) : Own k e base' w v xs := by
  obtain ⟨h1, h2⟩ := h
  refine ⟨h1, ?_⟩
  rcases h2 with h2 | ⟨g, cap, cur, hv, hg, hh, r⟩
  · exact .inl h2
  · exact .inr ⟨g, cap, cur, hv, by omega, hh, r⟩

def RefsIn (s : List Blk) : Prop := ∀ x ∈ s, 0 ≤ x.refs ∧ x.refs ≤ 1000000

end Go.Proofs.Ytfmgdjgedhnmeaa

namespace Go.Proofs.Ytfmgdjgedhnmeaa
open Go.RowKit
set_option linter.unusedVariables false

theorem formsE_app (s l1 l2 : List Blk) (h : formsE s l1 = 0) : formsE s (l1 ++ l2) = formsE s l2 := by
  induction l1 with
  | nil => rfl
  | cons x l ih =>
    simp only [formsE, List.cons_append] at *
    by_cases hx : formB s x = 0
    · rw [if_pos hx] at *
      exact ih h
    · rw [if_neg hx] at h
      exact absurd h hx

theorem formsE_step (s : List Blk) (k : Nat) (h : k < s.length) (h0 : formsE s (s.take k) = 0) (hx : formB s s[k] = 0) : formsE s (s.take (k + 1)) = 0 := by
  rw [List.take_succ_eq_append_getElem h, formsE_app _ _ _ h0]
  simp [formsE, hx]

theorem formsE_stop (s : List Blk) (k : Nat) (h : k < s.length) (h0 : formsE s (s.take k) = 0) (hx : formB s s[k] ≠ 0) : formsE s s = formB s s[k] := by
  have e : s = s.take k ++ s[k] :: s.drop (k + 1) := by rw [← List.drop_eq_getElem_cons h, List.take_append_drop]
  have e2 : formsE s s = formsE s (s.take k ++ s[k] :: s.drop (k + 1)) := by rw [← e]
  rw [e2, formsE_app _ _ _ h0]
  simp [formsE, hx]

theorem formsE_all (s l : List Blk) (h : formsE s l = 0) : ∀ x ∈ l, formB s x = 0 := by
  induction l with
  | nil => intro x hx; cases hx
  | cons y l ih =>
    simp only [formsE] at h
    by_cases hy : formB s y = 0
    · rw [if_pos hy] at h
      intro x hx
      rcases List.mem_cons.1 hx with rfl | hx
      · exact hy
      · exact ih h x hx
    · rw [if_neg hy] at h
      exact absurd h hy

/-- a block that is right by itself -/
theorem formB_zero (s : List Blk) (x : Blk) (h : formB s x = 0) :
    (x.refs = 0 ∧ x.level = 0 ∧ x.kids = [] ∧ x.bytes = []) ∨ (0 < x.refs ∧ x.refs ≤ 1000000 ∧ x.level = 0 ∧ x.kids = [] ∧ x.bytes.length = 4) ∨
    (0 < x.refs ∧ x.refs ≤ 1000000 ∧ 1 ≤ x.level ∧ x.level ≤ 3 ∧ x.kids.length = 4 ∧ x.bytes = [] ∧ x.kids.all (kidOk s x.level) = true ∧ x.kids.all (fun k => decide (k = 0)) = false) := by
  unfold formB formE at h
  split at h
  · split at h
    · omega
    · rename_i h1 h2
      refine .inl ⟨h1, by omega, List.eq_nil_of_length_eq_zero (by omega), List.eq_nil_of_length_eq_zero (by omega)⟩
  · split at h
    · omega
    · split at h
      · split at h
        · omega
        · exact .inr (.inl ⟨by omega, by omega, by omega, List.eq_nil_of_length_eq_zero (by omega), by omega⟩)
      · split at h
        · omega
        · split at h
          · omega
          · split at h
            · omega
            · rename_i h5 h6
              refine .inr (.inr ⟨by omega, by omega, by omega, by omega, by omega, List.eq_nil_of_length_eq_zero (by omega), by simpa using h5, by simpa using h6⟩)

theorem kidsIn_of (s : List Blk) (h : formsE s s = 0) : KidsIn s := by
  intro x hx
  rcases formB_zero s x (formsE_all s s h x hx) with ⟨_, _, hk, _⟩ | ⟨_, _, _, hk, _⟩ | ⟨_, _, _, _, hk, _, ha, _⟩
  · rw [hk]; exact ⟨by simp, fun k h => by cases h⟩
  · rw [hk]; exact ⟨by simp, fun k h => by cases h⟩
  · refine ⟨by omega, fun k hkm => ?_⟩
    have := List.all_eq_true.1 ha k hkm
    unfold kidOk at this
    simp only [Bool.or_eq_true, decide_eq_true_eq, Bool.and_eq_true] at this
    rcases this with h0 | ⟨h1, _⟩
    · exact .inl h0
    · obtain ⟨j, hj, rfl, _⟩ := there_in h1
      exact .inr ⟨by omega, by omega⟩

theorem refsIn_of (s : List Blk) (h : formsE s s = 0) : RefsIn s := by
  intro x hx
  rcases formB_zero s x (formsE_all s s h x hx) with ⟨h1, _⟩ | ⟨h1, h2, _⟩ | ⟨h1, h2, _⟩ <;> omega

theorem checkE_many (s : List Blk) (h : 400 < s.length) : checkE s = 2 := by unfold checkE; rw [if_pos h]
theorem checkE_form (s : List Blk) (h : ¬ 400 < s.length) (h1 : formsE s s ≠ 0) : checkE s = formsE s s := by unfold checkE; rw [if_neg h, if_pos h1]
theorem checkE_tail (s : List Blk) (h : ¬ 400 < s.length) (h1 : formsE s s = 0) : checkE s = if (outL s).any (fun n => decide (n < 0)) then 7 else 0 := by unfold checkE; rw [if_neg h, if_neg (by simp [h1])]

theorem outL_length (s : List Blk) : (outL s).length = s.length := by simp [outL]
theorem belowL_length (s : List Blk) : (belowL s).length = s.length := by simp [belowL]
theorem outL_below (s : List Blk) (i : Nat) (h : i < s.length) (h1 : i < (outL s).length) (h2 : i < (belowL s).length) : (outL s)[i] = s[i].refs - (belowL s)[i] := by simp [outL, belowL, h]

/-- none of the first ones is below 0 -/
def noneTo (s : List Blk) (k : Nat) : Bool := ((outL s).take k).all fun n => decide (0 ≤ n)
theorem noneTo_zero (s : List Blk) : noneTo s 0 = true := by simp [noneTo]
theorem noneTo_succ (s : List Blk) (k : Nat) (h : k < (outL s).length) (h0 : noneTo s k = true) (h1 : 0 ≤ (outL s)[k]) : noneTo s (k + 1) = true := by
  unfold noneTo at *
  rw [List.take_succ_eq_append_getElem h, List.all_append, h0]
  simp [h1]
theorem noneTo_any (s : List Blk) (h : noneTo s s.length = true) : (outL s).any (fun n => decide (n < 0)) = false := by
  unfold noneTo at h
  rw [← outL_length, List.take_length] at h
  rw [Bool.eq_false_iff]
  intro h2
  rw [List.any_eq_true] at h2
  obtain ⟨x, hx, h3⟩ := h2
  have := List.all_eq_true.1 h x hx
  simp at this h3
  omega
theorem any_at (s : List Blk) (k : Nat) (h : k < (outL s).length) (h1 : (outL s)[k] < 0) : (outL s).any (fun n => decide (n < 0)) = true := by
  rw [List.any_eq_true]
  exact ⟨_, List.getElem_mem h, by simpa using h1⟩
end Go.Proofs.Ytfmgdjgedhnmeaa

namespace Go.Proofs.Ytfmgdjgedhnmeaa
open Go.RowKit
set_option linter.unusedVariables false

set_option maxRecDepth 100000 in
set_option maxHeartbeats 1000000 in
theorem check_any (w : World) (ao : Option Addr) (n cap : Nat) (s : List Blk) (hn : s.length = n) (hn63 : n ≤ 1152921504606846976) (hs : StoRow w ao s) (hwf : WfS s) :
    Calls Try.prog 45 #[.agg #[.slice ao n cap]] w fun e w' => e = .returned (.int .i64 (checkE s)) ∧ Below w.heap.size w w' := by
  have HN := Lib.hid hn
  rcases Nat.lt_or_ge 400 n with h4 | h4
  · have HC := Lib.hid (checkE_many s (by omega))
    have hd : decide (400 < (n : Int)) = true := by simp; omega
    clear hn
    go_enter Try.func45, Try.ntmps45
    go_wp2
    go_ret
    exact ⟨ret_int HC.out.symm, (Below.refl _ _).alloc (Nat.le_refl _) _⟩
  · have hd : decide (400 < (n : Int)) = false := by simp; omega
    have h4s : ¬ 400 < s.length := by omega
    have H4 := Lib.hid h4s
    clear hn h4s
    go_enter Try.func45, Try.ntmps45
    go_wp2
    have a1 : (w.alloc (.cells #[.slice ao n cap] 24)).cell? ⟨w.heap.size, 0, none⟩ = some (.slice ao n cap) := by simp
    have hb0 : Below w.heap.size w (w.alloc (.cells #[.slice ao n cap] 24)) := (Below.refl _ _).alloc (Nat.le_refl _) _
    have hz : w.heap.size < (w.alloc (.cells #[.slice ao n cap] 24)).heap.size := by simp
    have hs := hs.mono hb0
    generalize w.alloc (Obj.cells #[Value.slice ao n cap] 24) = W1 at *
    go_loopw [15] (fun i wr => ∃ k : Nat, k ≤ n ∧ i = .int .i64 k ∧ formsE s (s.take k) = 0 ∧ Below W1.heap.size W1 wr) (fun i _ => n - (intOf i).toNat)
    case atStart => exact ⟨0, Nat.zero_le _, rfl, rfl, Below.refl _ _⟩
    case round =>
      obtain ⟨k, hkn, rfl, hf0, hbel⟩ := hrel
      have HF0 := Lib.hid hf0
      have c9 := ((bcell hbel).1 w.heap.size 0 hz).trans a1
      have l9 : w.heap.size < wr.heap.size := Nat.lt_of_lt_of_le hz hbel.size
      clear hf0 a1
      by_cases hlt : k < n
      · have hks : k < s.length := by have := HN.out; omega
        have hs2 := hs.mono hbel
        obtain ⟨b, o, rfl, hq⟩ := hs2.at k hks
        have hB := hq k hks
        have c0 := hB.refs
        have c1 := hB.level
        obtain ⟨v2, c2, kao, kcap, rfl, hrow, hcd⟩ := hB.kids
        obtain ⟨v3, c3, bao, bcap, rfl, hrow3, hcd3⟩ := hB.bytes
        have lb := hB.lt
        have hwk := hwf.at k hks
        have HW := Lib.hid hwk
        clear hq hB hwk hcd hcd3 hrow3
        go_wp2_with fail
        have hba : Below wr.heap.size wr (wr.alloc (.cells #[.int .i64 s[k].refs, .int .i64 s[k].level, .slice kao s[k].kids.length kcap, .slice bao s[k].bytes.length bcap] 93)) := (Below.refl _ _).alloc (Nat.le_refl _) _
        by_cases hfe : formB s s[k] = 0
        · refine (form_any _ _ _ _ _ _ _ _ _ _ s s[k].refs s[k].level s[k].kids s[k].bytes HN.out hn63 (hs2.mono hba) hwf (hrow.mono hba) HW.out.kids rfl rfl HW.out.klen HW.out.blen).mono ?_
          rintro e w2 ⟨rfl, hb2⟩
          have hst := formsE_step s k hks HF0.out hfe
          have hfe' : formE s s[k].refs s[k].level s[k].kids s[k].bytes = 0 := hfe
          have HST := Lib.hid hst
          clear hst hfe
          go_wp2
          go_roundw
          case rel => exact ⟨k + 1, by omega, by go_num, HST.out, below_step hbel (below_step hba hb2)⟩
          case measure => simp [intOf]; omega
        · refine (form_any _ _ _ _ _ _ _ _ _ _ s s[k].refs s[k].level s[k].kids s[k].bytes HN.out hn63 (hs2.mono hba) hwf (hrow.mono hba) HW.out.kids rfl rfl HW.out.klen HW.out.blen).mono ?_
          rintro e w2 ⟨rfl, hb2⟩
          have hst := formsE_stop s k hks HF0.out hfe
          have hch := checkE_form s H4.out (by rw [hst]; exact hfe)
          rw [hst] at hch
          have hfe' : (formE s s[k].refs s[k].level s[k].kids s[k].bytes == 0) = false := by rw [beq_eq_false_iff_ne]; exact hfe
          have hfe2 : (formE s s[k].refs s[k].level s[k].kids s[k].bytes != 0) = true := by rw [bne_iff_ne]; exact hfe
          have HCH := Lib.hid hch
          clear hst hfe hch
          go_wp2
          go_ret
          exact ⟨ret_int HCH.out.symm, below_step hb0 (below_step hbel (below_step hba hb2))⟩
      · obtain rfl : k = n := by omega
        have ht : s.take k = s := List.take_of_length_le (by have := HN.out; omega)
        have hfz : formsE s s = 0 := by have := HF0.out; rw [ht] at this; exact this
        have HC := Lib.hid (checkE_tail s H4.out hfz)
        have hki := kidsIn_of s hfz
        have hri := refsIn_of s hfz
        have hs2 := hs.mono hbel
        clear ht hfz
        go_wp2_with fail
        refine (below_any _ _ _ _ s HN.out h4 hs2 hki).mono ?_
        rintro e w3 ⟨ao3, rfl, ho3, hb3⟩
        have hs3 := hs2.mono hb3
        have c9 := ((bcell hb3).1 w.heap.size 0 l9).trans c9
        have l9 : w.heap.size < w3.heap.size := Nat.lt_of_lt_of_le l9 hb3.size
        clear hs2
        go_wp2
        go_loopw [29] (fun i wr => ∃ m : Nat, m ≤ k ∧ i = .int .i64 m ∧ noneTo s m = true ∧ Below w3.heap.size w3 wr) (fun i _ => k - (intOf i).toNat)
        case atStart => exact ⟨0, Nat.zero_le _, rfl, noneTo_zero s, Below.refl _ _⟩
        case round =>
          obtain ⟨m, hmn, rfl, hno, hbel3⟩ := hrel
          have HNO := Lib.hid hno
          clear hno
          by_cases hlt2 : m < k
          · have hms : m < s.length := by have := HN.out; omega
            have hmo : m < (outL s).length := by rw [outL_length]; exact hms
            have hstep := noneTo_succ s m hmo HNO.out
            have hany := any_at s m hmo
            have hml : m < (belowL s).length := by rw [belowL_length]; exact hms
            have hrel := outL_below s m hms hmo hml
            obtain ⟨g, gcap, hv, hg, hcg, hfg, hgl⟩ := ho3.at m hml
            simp only [Value.slice.injEq] at hv
            obtain ⟨rfl, _, _⟩ := hv
            have hcg := ((bcell hbel3).1 _ _ hgl).trans hcg
            have hgl2 : g < wr.heap.size := Nat.lt_of_lt_of_le hgl hbel3.size
            obtain ⟨b, o, rfl, hq⟩ := (hs3.mono hbel3).at m hms
            have c0 := (hq m hms).refs
            have lb := (hq m hms).lt
            have c9 := ((bcell hbel3).1 w.heap.size 0 l9).trans c9
            have l9 : w.heap.size < wr.heap.size := Nat.lt_of_lt_of_le l9 hbel3.size
            clear hq
            rw [hrel] at hstep hany
            generalize (belowL s)[m] = bm at *
            clear hrel
            by_cases hcmp : s[m].refs < bm
            · have HA := Lib.hid (hany (by omega))
              clear hany hstep
              go_wp2
              go_ret
              exact ⟨ret_int (by rw [HC.out, HA.out]; rfl), below_step hb0 (below_step hbel (below_step hb3 hbel3))⟩
            · have HA := Lib.hid (hstep (by omega))
              clear hany hstep
              go_wp2
              go_roundw
              case rel => exact ⟨m + 1, by omega, by go_num, HA.out, hbel3⟩
              case measure => simp [intOf]; omega
          · obtain rfl : m = k := by omega
            have hna := noneTo_any s (by have := HN.out; rw [this]; exact HNO.out)
            have HNA := Lib.hid hna
            clear hna
            go_wp2
            go_ret
            exact ⟨ret_int (by rw [HC.out, HNA.out]; rfl), below_step hb0 (below_step hbel (below_step hb3 hbel3))⟩
end Go.Proofs.Ytfmgdjgedhnmeaa

namespace Go.Proofs.Ytfmgdjgedhnmeaa
open Go.RowKit
set_option linter.unusedVariables false

theorem checkE_zero (s : List Blk) (h : checkE s = 0) : s.length ≤ 400 ∧ formsE s s = 0 ∧ KidsIn s ∧ RefsIn s ∧ ∀ n ∈ outL s, 0 ≤ n := by
  unfold checkE at h
  split at h
  · omega
  · split at h
    · rename_i h1 h2; exact absurd h h2
    · rename_i h1 h2
      have hz : formsE s s = 0 := by simpa using h2
      refine ⟨by omega, hz, kidsIn_of s hz, refsIn_of s hz, fun n hn => ?_⟩
      split at h
      · omega
      · rename_i h3
        rw [List.any_eq_true] at h3
        rcases Int.lt_or_le n 0 with hlt | hle
        · exact absurd ⟨n, hn, by simpa using hlt⟩ h3
        · exact hle

/-- after so many: the first told, the others as below -/
def outTo (s : List Blk) (k : Nat) : List Int := (outL s).take k ++ (belowL s).drop k
theorem outTo_length (s : List Blk) (k : Nat) (h : k ≤ s.length) : (outTo s k).length = s.length := by simp [outTo, outL_length, belowL_length]; omega
theorem outTo_zero (s : List Blk) : outTo s 0 = belowL s := by simp [outTo]
theorem outTo_all (s : List Blk) : outTo s s.length = outL s := by
  simp [outTo, List.take_of_length_le (Nat.le_of_eq (outL_length s)), List.drop_of_length_le (Nat.le_of_eq (belowL_length s))]
theorem outTo_at (s : List Blk) (k : Nat) (h : k < s.length) (h' : k < (outTo s k).length) (h2 : k < (belowL s).length) : (outTo s k)[k] = (belowL s)[k] := by
  simp only [outTo]
  rw [List.getElem_append_right (by simp [outL_length]; omega)]
  simp [outL_length, Nat.min_eq_left (Nat.le_of_lt h)]
theorem outTo_succ (s : List Blk) (k : Nat) (h : k < s.length) (h2 : k < (belowL s).length) : (outTo s k).set k (s[k].refs - (belowL s)[k]) = outTo s (k + 1) := by
  have hl := outL_length s
  have hl2 := belowL_length s
  apply List.ext_getElem
  · simp [outTo_length _ _ (Nat.le_of_lt h), outTo_length _ _ h]
  · intro i h1 h2'
    rw [List.getElem_set]
    by_cases e : k = i
    · subst e
      simp only [if_true, outTo]
      rw [List.getElem_append_left (by simp [hl]; omega), List.getElem_take, outL_below s _ h (by rw [hl]; exact h) h2]
    · rw [if_neg e]
      simp only [outTo]
      rw [outTo_length _ _ h] at h2'
      rcases Nat.lt_or_ge i k with hi | hi
      · rw [List.getElem_append_left (by simp [hl]; omega), List.getElem_append_left (by simp [hl]; omega)]
        simp
      · rw [List.getElem_append_right (by simp [hl]; omega), List.getElem_append_right (by simp [hl]; omega)]
        simp [hl, Nat.min_eq_left (Nat.le_of_lt h), Nat.min_eq_left (show k + 1 ≤ s.length from h)]
        congr 1
        omega

theorem belowL_bd (s : List Blk) (hk : KidsIn s) (h4 : s.length ≤ 400) (k : Nat) (h : k < (belowL s).length) : 0 ≤ (belowL s)[k] ∧ (belowL s)[k] ≤ 1600 := by
  have h1 := kidsOf_len s (fun x hx => (hk x hx).1)
  have h2 := List.count_le_length (a := ((k : Int) + 1)) (l := kidsOf s)
  simp only [belowL, List.getElem_map, List.getElem_range, belowN]
  omega

set_option maxRecDepth 100000 in
set_option maxHeartbeats 1000000 in
theorem outside_ok (w : World) (ao : Option Addr) (n cap : Nat) (s : List Blk) (hn : s.length = n) (hs : StoRow w ao s) (hwf : WfS s) (hc : checkE s = 0) :
    Calls Try.prog 81 #[.agg #[.slice ao n cap]] w fun e w' => ∃ ao', e = .returned (.tuple #[.slice ao' n n, .int .i64 0]) ∧ Own .i64 3 w.heap.size w' (.slice ao' n n) (outL s) ∧ Below w.heap.size w w' := by
  obtain ⟨hz4, _, hki, hri, _⟩ := checkE_zero s hc
  have HC := Lib.hid hc
  have HN := Lib.hid hn
  have h4 : n ≤ 400 := by omega
  have a1 : (w.alloc (.cells #[.slice ao n cap] 24)).cell? ⟨w.heap.size, 0, none⟩ = some (.slice ao n cap) := by simp
  have hb0 : Below w.heap.size w (w.alloc (.cells #[.slice ao n cap] 24)) := (Below.refl _ _).alloc (Nat.le_refl _) _
  have hz : w.heap.size < (w.alloc (.cells #[.slice ao n cap] 24)).heap.size := by simp
  have hs := hs.mono hb0
  clear hn hz4
  go_enter Try.func81, Try.ntmps81
  go_wp2_with fail
  refine (check_any _ _ _ _ s HN.out (by omega) hs hwf).mono ?_
  rintro e w1 ⟨rfl, hb1⟩
  generalize w.alloc (Obj.cells #[Value.slice ao n cap] 24) = W0 at *
  have c1 := ((bcell hb1).1 w.heap.size 0 hz).trans a1
  have l1 : w.heap.size < w1.heap.size := Nat.lt_of_lt_of_le hz hb1.size
  have hs := hs.mono hb1
  clear a1 hz
  go_wp2_with fail
  refine (below_any _ _ _ _ s HN.out h4 hs hki).mono ?_
  rintro e w2 ⟨ao3, rfl, ho3, hb2⟩
  have c1 := ((bcell hb2).1 w.heap.size 0 l1).trans c1
  have l1 : w.heap.size < w2.heap.size := Nat.lt_of_lt_of_le l1 hb2.size
  have hs := hs.mono hb2
  go_wp2
  go_loopw [18] (fun i wr => ∃ k : Nat, k ≤ n ∧ i = .int .i64 k ∧ Own .i64 3 w1.heap.size wr (.slice ao3 n n) (outTo s k) ∧ Below w1.heap.size w1 wr) (fun i _ => n - (intOf i).toNat)
  case atStart => exact ⟨0, Nat.zero_le _, rfl, by rw [outTo_zero]; exact ho3, hb2⟩
  case round =>
    clear ho3 c1 l1
    obtain ⟨k, hkn, rfl, hown, hbel⟩ := hrel
    by_cases hlt : k < n
    · have hks : k < s.length := by have := HN.out; omega
      have hbl : k < (belowL s).length := by rw [belowL_length]; exact hks
      have hol := outTo_length s k (Nat.le_of_lt hks)
      have hs1 := ‹StoRow w1 ao s›
      obtain ⟨b, o, rfl, hq⟩ := (hs1.mono hbel).at k hks
      have hB := hq k hks
      have c0 := hB.refs
      have c1' := hB.level
      obtain ⟨v2, c2, kao, kcap, rfl, hrow, hcd⟩ := hB.kids
      obtain ⟨v3, c3, bao, bcap, rfl, hrow3, hcd3⟩ := hB.bytes
      have lb := hB.lt
      obtain ⟨g, gcap, hv, hg, hcg, hfg, hgl⟩ := hown.at k (by omega)
      rw [hol, HN.out] at hv
      simp only [Value.slice.injEq, true_and] at hv
      obtain ⟨rfl, rfl⟩ := hv
      rw [outTo_at s k hks _ hbl] at hcg
      have hset := (hown.set k (s[k].refs - (belowL s)[k])).mono (w' := (wr.setCell ⟨g, k, none⟩ (.int .i64 (s[k].refs - (belowL s)[k]))).alloc (.cells #[.int .i64 s[k].refs, .int .i64 s[k].level, .slice kao s[k].kids.length kcap, .slice bao s[k].bytes.length bcap] 93)) ((Below.refl _ _).alloc (Nat.le_refl _) _)
      rw [outTo_succ s k hks hbl] at hset
      have hbb := belowL_bd s hki (by have := HN.out; omega) k hbl
      have hrb := hri _ (List.getElem_mem hks)
      have hwr : IntKind.i64.wrap (s[k].refs - (belowL s)[k]) = s[k].refs - (belowL s)[k] := IntWalk.i64_in _ (by omega)
      have HSET := Lib.hid hset
      have hi1 : (0 : Int) ≤ k := by omega
      have hi2 : (k : Int) < n := by omega
      have hgw := hgl
      clear hq hB hrow hrow3 hcd hcd3 hset hbb hrb hol hs1 hown
      generalize (belowL s)[k] = bk at *
      go_wp2_with fail
      go_region
      go_wp2
      go_roundw
      case rel => exact ⟨k + 1, by omega, by go_num, HSET.out, ((hbel.setCell (p := ⟨g, k, none⟩) hg _).alloc (by have := hbel.size; simp; omega) _).drew⟩
      case measure => simp [intOf]; omega
    · obtain rfl : k = n := by omega
      have ht : outTo s k = outL s := by have := HN.out; rw [← this]; exact outTo_all s
      rw [ht] at hown
      clear ht
      go_wp2
      go_ret2
      exact ⟨_, rfl, hown.weaken (by have := hb0.size; have := hb1.size; omega), below_step hb0 (below_step hb1 hbel)⟩
end Go.Proofs.Ytfmgdjgedhnmeaa
