/- store.below: how often each block stands below others. -/
import Derived.Test.YtpfopbkaddjjcaaStoW
namespace Go.Proofs.Ytpfopbkaddjjcaa
open Go.RowKit
set_option linter.unusedVariables false

def cntL (n : Nat) (l : List Int) : List Int := (List.range n).map fun (j : Nat) => ((l.count ((j : Int) + 1) : Nat) : Int)
theorem cntL_length (n : Nat) (l : List Int) : (cntL n l).length = n := by simp [cntL]
theorem cntL_at (n : Nat) (l : List Int) (j : Nat) (h : j < n) (h' : j < (cntL n l).length) : (cntL n l)[j] = ((l.count ((j : Int) + 1) : Nat) : Int) := by simp [cntL]
theorem cntL_nil (n : Nat) : cntL n [] = zeros n := by
  apply List.ext_getElem
  · simp [cntL, zeros]
  · intro i h1 h2
    simp [cntL, zeros]
theorem cntL_zero (n : Nat) (l : List Int) : cntL n (l ++ [0]) = cntL n l := by
  unfold cntL
  apply List.map_congr_left
  intro j _
  rw [List.count_append, List.count_cons_of_ne (by omega)]
  simp
theorem cntL_succ (n : Nat) (l : List Int) (j : Nat) : cntL n (l ++ [(j : Int) + 1]) = (cntL n l).set j (((l.count ((j : Int) + 1) : Nat) : Int) + 1) := by
  apply List.ext_getElem
  · simp [cntL]
  · intro i h1 h2
    rw [List.getElem_set]
    simp only [cntL, List.length_map, List.length_range] at h1
    by_cases e : j = i
    · subst e
      simp [cntL, List.count_append]
    · rw [if_neg e]
      simp only [cntL, List.getElem_map, List.getElem_range]
      rw [List.count_append, List.count_cons_of_ne (by omega)]
      simp

/-- kids are 0, or addresses; four at most -/
def KidsIn (s : List Blk) : Prop := ∀ x ∈ s, x.kids.length ≤ 4 ∧ ∀ k ∈ x.kids, k = 0 ∨ (1 ≤ k ∧ k ≤ s.length)

theorem kidsOf_take (s : List Blk) (i : Nat) (h : i < s.length) : kidsOf (s.take (i + 1)) = kidsOf (s.take i) ++ s[i].kids := by
  unfold kidsOf
  rw [List.take_succ_eq_append_getElem h, List.flatMap_append]
  simp

theorem kidsOf_len (s : List Blk) (h : ∀ x ∈ s, x.kids.length ≤ 4) : (kidsOf s).length ≤ 4 * s.length := by
  induction s with
  | nil => simp [kidsOf]
  | cons x s ih =>
    have h1 := h x (by simp)
    have h2 := ih fun y hy => h y (by simp [hy])
    simp only [kidsOf, List.flatMap_cons, List.length_append, List.length_cons] at *
    omega

theorem belowL_cnt (s : List Blk) : belowL s = cntL s.length (kidsOf s) := rfl

theorem info_int : (Try.prog.info? 3).map (fun i => (i.zero, i.size, i.bytes)) = some (some (.int .i64 0), 1, 8) := by kernel_rfl

set_option maxRecDepth 100000 in
set_option maxHeartbeats 1000000 in
theorem below_any (w : World) (ao : Option Addr) (n cap : Nat) (s : List Blk) (hn : s.length = n) (hn4 : n ≤ 400) (hs : StoRow w ao s) (hk : KidsIn s) :
    Calls Try.prog 65 #[.agg #[.slice ao n cap]] w fun e w' => ∃ ao', e = .returned (.slice ao' n n) ∧ Own .i64 3 w.heap.size w' (.slice ao' n n) (belowL s) ∧ Below w.heap.size w w' := by
  have hmk := make_ints (P := Try.prog) .i64 24 3 8 Try.underlying24 info_int n (by omega) (by omega)
  have HN := Lib.hid hn
  have h400 : (n : Int) ≤ 400 := by omega
  clear hn
  go_enter Try.func65, Try.ntmps65
  go_wp2
  go_loopw [15] (fun i wr => ∃ k : Nat, k ≤ n ∧ i = .int .i64 k ∧ wr.heap[w.heap.size + 1]? = some (.cells (icells .i64 (cntL n (kidsOf (s.take k)))) 3 (0, 0)) ∧ Below w.heap.size w wr) (fun i _ => n - (intOf i).toNat)
  case atStart =>
    refine ⟨0, Nat.zero_le _, rfl, ?_, ((Below.refl _ _).alloc (Nat.le_refl _) _).alloc (by simp) _⟩
    rw [heap_alloc2_new]
    simp only [List.take_zero]
    rw [show kidsOf [] = [] from rfl, cntL_nil]
  case round =>
    obtain ⟨k, hkn, rfl, hG, hbel⟩ := hrel
    by_cases hlt : k < n
    · have hks : k < s.length := by have := HN.out; omega
      obtain ⟨b, o, rfl, hq⟩ := hs.at k hks
      have hB := hq k hks
      have lb0 := hB.lt
      have lb : b < wr.heap.size := Nat.lt_of_lt_of_le lb0 hbel.size
      have hbc := (bcell hbel).1
      have c0 := (hbc _ _ lb0).trans hB.refs
      have c1 := (hbc _ _ lb0).trans hB.level
      obtain ⟨v2, c2, kao, kcap, rfl, hrow, hcd⟩ := hB.kids
      obtain ⟨v3, c3, bao, bcap, rfl, hrow3, hcd3⟩ := hB.bytes
      have c2 := (hbc _ _ lb0).trans c2
      have c3 := (hbc _ _ lb0).trans c3
      clear hbc
      have hkk := hk _ (List.getElem_mem hks)
      have hkt := kidsOf_take s k hks
      have HKT := Lib.hid hkt
      have hlen : (kidsOf (s.take k)).length ≤ 1600 := by
        have := kidsOf_len (s.take k) (fun x hx => (hk x (List.mem_of_mem_take hx)).1)
        simp at this; omega
      have HLEN := Lib.hid hlen
      clear hq hs hB hkt hlen
      generalize hx : s[k] = x at *
      have HX := Lib.hid hx
      clear hx
      have hs4 : (x.kids.length : Int) ≤ 4 := by have := hkk.1; omega
      have hgl := lt_heap hG
      go_wp2
      have hG2 : (wr.alloc (.cells #[.int .i64 x.refs, .int .i64 x.level, .slice kao x.kids.length kcap, .slice bao x.bytes.length bcap] 50)).heap[w.heap.size + 1]? = some (.cells (icells .i64 (cntL n (kidsOf (s.take k) ++ x.kids.take 0))) 3 (0, 0)) := by
        rw [Below.heap_alloc _ _ _ hgl]; simpa using hG
      have hbel2 : Below w.heap.size w (wr.alloc (.cells #[.int .i64 x.refs, .int .i64 x.level, .slice kao x.kids.length kcap, .slice bao x.bytes.length bcap] 50)) := hbel.alloc hbel.size _
      clear hG hbel c0 c1 c2 c3 hrow3
      generalize wr.alloc (Obj.cells #[Value.int .i64 x.refs, Value.int .i64 x.level, Value.slice kao x.kids.length kcap, Value.slice bao x.bytes.length bcap] 50) = W2 at *
      go_loopw [22] (fun j wr => ∃ m : Nat, m ≤ x.kids.length ∧ j = .int .i64 m ∧ wr.heap[w.heap.size + 1]? = some (.cells (icells .i64 (cntL n (kidsOf (s.take k) ++ x.kids.take m))) 3 (0, 0)) ∧ Below w.heap.size w wr) (fun j _ => x.kids.length - (intOf j).toNat)
      case atStart => exact ⟨0, Nat.zero_le _, rfl, hG2, hbel2⟩
      case round =>
        obtain ⟨m, hm, rfl, hG, hbel⟩ := hrel
        have hm4 : m ≤ 4 := by omega
        by_cases hmt : m < x.kids.length
        · obtain ⟨kb, ko, rfl, hkc⟩ := hrow.at m hmt
          have hck := hkc m hmt
          have hlk := World.block_lt_of_cell? _ _ hck
          have e1 : x.kids.take (m + 1) = x.kids.take m ++ [x.kids[m]] := by rw [List.take_succ_eq_append_getElem hmt]
          have hkv := hkk.2 _ (List.getElem_mem hmt)
          have hck := ((bcell hbel).1 _ _ hlk).trans hck
          have hlk2 : kb < wr.heap.size := Nat.lt_of_lt_of_le hlk hbel.size
          clear hkc hrow
          generalize x.kids[m] = y at *
          have E1 := Lib.hid e1
          clear e1
          rcases hkv with rfl | ⟨hy1, hy2⟩
          · go_wp2
            go_roundw
            case rel => exact ⟨m + 1, by omega, by go_num, by rw [E1.out, ← List.append_assoc, cntL_zero]; exact hG, hbel⟩
            case measure => simp [intOf]; omega
          · obtain ⟨j, rfl⟩ : ∃ j : Nat, y = j + 1 := ⟨(y - 1).toNat, by omega⟩
            have hj : j < n := by have := HN.out; omega
            have hcg := cell_of_block hG j
            rw [icells_at _ _ j (by rw [cntL_length]; exact hj), cntL_at _ _ _ hj] at hcg
            have hfg := free_of_block hG j
            have hcl : (kidsOf (s.take k) ++ x.kids.take m).length ≤ 1604 := by have := HLEN.out; simp; omega
            have hcc := List.count_le_length (a := ((j : Int) + 1)) (l := kidsOf (s.take k) ++ x.kids.take m)
            have hsu := cntL_succ n (kidsOf (s.take k) ++ x.kids.take m) j
            have hset := heap_setCell_same' hG j (.int .i64 (((List.count ((j : Int) + 1) (kidsOf (s.take k) ++ x.kids.take m) : Nat) : Int) + 1))
            rw [icells_set, ← hsu, List.append_assoc, ← E1.out] at hset
            have HSET := Lib.hid hset
            have hcn0 : (0 : Int) ≤ ((List.count ((j : Int) + 1) (kidsOf (s.take k) ++ x.kids.take m) : Nat) : Int) := by omega
            have hnc : (((List.count ((j : Int) + 1) (kidsOf (s.take k) ++ x.kids.take m) : Nat) : Int) + 1) ≤ 1605 := by omega
            clear hcl hsu hset hy1 hy2
            generalize ((List.count ((j : Int) + 1) (kidsOf (s.take k) ++ x.kids.take m) : Nat) : Int) = cn at *
            go_wp2
            go_roundw
            case rel => exact ⟨m + 1, by omega, by go_num, HSET.out, hbel.setCell (by simp) _⟩
            case measure => simp [intOf]; omega
        · obtain rfl : m = x.kids.length := by omega
          go_wp2
          go_roundw
          case rel =>
            refine ⟨k + 1, by omega, by go_num, ?_, hbel⟩
            rw [HKT.out]
            rw [List.take_length] at hG
            exact hG
          case measure => simp [intOf]; omega
    · obtain rfl : k = n := by omega
      go_wp2
      go_ret
      refine ⟨_, rfl, ?_, hbel⟩
      have ht : s.take k = s := List.take_of_length_le (by have := HN.out; omega)
      rw [ht] at hG
      have hl := cntL_length k (kidsOf s)
      rw [belowL_cnt, HN.out]
      refine ⟨by simp, .inr ⟨_, k, _, by rw [hl], by omega, hG, by rw [hl]; exact Nat.le_refl _, by unfold maxLen; omega, by rw [icells_size, hl, Nat.mul_one], ?_⟩⟩
      rw [hl, Nat.mul_one, List.take_of_length_le (by rw [Array.length_toList, icells_size, hl]; exact Nat.le_refl _)]
      rfl
end Go.Proofs.Ytpfopbkaddjjcaa
