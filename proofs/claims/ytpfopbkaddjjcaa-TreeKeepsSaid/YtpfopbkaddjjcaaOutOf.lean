/- rookeryref.OutsideOf: how often each block is held by nobody in the store. -/
import Derived.Test.YtpfopbkaddjjcaaBelow
namespace Go.Proofs.Ytpfopbkaddjjcaa
open Go.RowKit
set_option linter.unusedVariables false

def outM (s : List Blk) (l : List Int) : List Int := (List.range s.length).map fun (j : Nat) => (s[j]?.getD noBlk).refs - ((l.count ((j : Int) + 1) : Nat) : Int)
theorem outM_length (s : List Blk) (l : List Int) : (outM s l).length = s.length := by simp [outM]
theorem outM_at (s : List Blk) (l : List Int) (j : Nat) (h : j < s.length) (h' : j < (outM s l).length) : (outM s l)[j] = s[j].refs - ((l.count ((j : Int) + 1) : Nat) : Int) := by simp [outM, h]
theorem outM_nil (s : List Blk) : outM s [] = s.map Blk.refs := by
  apply List.ext_getElem
  · simp [outM]
  · intro i h1 h2
    simp [outM_length] at h1
    rw [outM_at s [] i h1]
    simp
theorem outM_zero (s : List Blk) (l : List Int) : outM s (l ++ [0]) = outM s l := by
  unfold outM
  apply List.map_congr_left
  intro j _
  rw [List.count_append, List.count_cons_of_ne (by omega)]
  simp
theorem outM_succ (s : List Blk) (l : List Int) (j : Nat) (h : j < s.length) : outM s (l ++ [(j : Int) + 1]) = (outM s l).set j (s[j].refs - ((l.count ((j : Int) + 1) : Nat) : Int) - 1) := by
  apply List.ext_getElem
  · simp [outM]
  · intro i h1 h2
    rw [List.getElem_set]
    have hi : i < s.length := by simpa [outM_length] using h1
    by_cases e : j = i
    · subst e
      rw [outM_at s _ j h]
      simp [List.count_append]
      omega
    · rw [if_neg e, outM_at s _ i hi, outM_at s _ i hi, List.count_append, List.count_cons_of_ne (by omega)]
      simp
theorem outL_out (s : List Blk) : outL s = outM s (kidsOf s) := rfl

theorem Own.weaken {k : IntKind} {e base base' : Nat} {w : World} {v : Value} {xs : List Int} (h : Own k e base w v xs) (hb : base' ≤ base) : Own k e base' w v xs := by
  obtain ⟨h1, h2⟩ := h
  refine ⟨h1, ?_⟩
  rcases h2 with h2 | ⟨g, cap, cur, hv, hg, hh, r⟩
  · exact .inl h2
  · exact .inr ⟨g, cap, cur, hv, by omega, hh, r⟩

def RefsIn (s : List Blk) : Prop := ∀ x ∈ s, 0 ≤ x.refs ∧ x.refs ≤ 1000000

set_option maxRecDepth 100000 in
set_option maxHeartbeats 1000000 in
theorem outsideOf_any (w : World) (ao : Option Addr) (n cap : Nat) (s : List Blk) (hn : s.length = n) (hn4 : n ≤ 400) (hs : StoRow w ao s) (hk : KidsIn s) (hri : RefsIn s) :
    Calls Try.prog 40 #[.agg #[.slice ao n cap]] w fun e w' => ∃ v, e = .returned v ∧ Own .i64 3 w.heap.size w' v (outL s) ∧ Below w.heap.size w w' := by
  have HN := Lib.hid hn
  have h400 : (n : Int) ≤ 400 := by omega
  clear hn
  go_enter Try.func40, Try.ntmps40
  go_wp2
  have a1 : (w.alloc (.cells #[.slice ao n cap] 40)).cell? ⟨w.heap.size, 0, none⟩ = some (.slice ao n cap) := by simp
  have hb0 : Below w.heap.size w (w.alloc (.cells #[.slice ao n cap] 40)) := (Below.refl _ _).alloc (Nat.le_refl _) _
  have hz : w.heap.size < (w.alloc (.cells #[.slice ao n cap] 40)).heap.size := by simp
  have hs := hs.mono hb0
  generalize w.alloc (Obj.cells #[Value.slice ao n cap] 40) = W1 at *
  go_loopw [3, 13] (fun v i wr => ∃ k : Nat, k ≤ n ∧ i = .int .i64 k ∧ Own .i64 3 W1.heap.size wr v ((s.take k).map Blk.refs) ∧ Below W1.heap.size W1 wr) (fun _ i _ => n - (intOf i).toNat)
  case atStart => exact ⟨0, Nat.zero_le _, rfl, Own.nil _ _ _ _, Below.refl _ _⟩
  case round =>
    obtain ⟨k, hkn, rfl, hown, hbel⟩ := hrel
    by_cases hlt : k < n
    · have hks : k < s.length := by have := HN.out; omega
      obtain ⟨b, o, rfl, hq⟩ := hs.at k hks
      have hB := hq k hks
      have lb0 := hB.lt
      have lb : b < wr.heap.size := Nat.lt_of_lt_of_le lb0 hbel.size
      have hbc := (bcell hbel).1
      have c0 := (hbc _ _ lb0).trans hB.refs
      have c1 := (hbc _ _ lb0).trans hB.level
      obtain ⟨v2, c2, kao, kcap, rfl, hrow, hcd⟩ := hB.kids
      obtain ⟨v3, c3, bao, bcap, rfl, hrow3, hcd3⟩ := hB.bytes
      have c2 := (hbc _ _ lb0).trans c2
      have c3 := (hbc _ _ lb0).trans c3
      have hkt : s.take (k + 1) = s.take k ++ [s[k]] := by rw [List.take_succ_eq_append_getElem hks]
      have HKT := Lib.hid hkt
      have hlen : ((s.take k).map Blk.refs).length ≤ 400 := by simp; omega
      have HLEN := Lib.hid hlen
      clear hbc hq hs hB hkt hlen hrow hrow3 hcd hcd3
      have hsz := hbel.size
      have hown2 : Own .i64 3 W1.heap.size (wr.alloc (.cells #[.int .i64 s[k].refs, .int .i64 s[k].level, .slice kao s[k].kids.length kcap, .slice bao s[k].bytes.length bcap] 50)) u3 ((s.take k).map Blk.refs) := hown.mono ((Below.refl _ _).alloc (Nat.le_refl _) _)
      have hbel2 : Below W1.heap.size W1 (wr.alloc (.cells #[.int .i64 s[k].refs, .int .i64 s[k].level, .slice kao s[k].kids.length kcap, .slice bao s[k].bytes.length bcap] 50)) := hbel.alloc hbel.size _
      have hsz2 := hbel2.size
      clear hown
      go_wp2_with (first
        | (at_builtin; refine append_int rfl (.tmp 17) (.tmp 20) _ rfl .i64 3 8 W1.heap.size Try.underlying24 info_int _ _ _ rfl hown2 _ rfl (by simp) ?_ ?_ hsz2 ?_; rotate_right; intro v' w1 hown1 hbel1))
      · go_roundw
        case rel => exact ⟨k + 1, by omega, by go_num, by rw [HKT.out, List.map_append]; exact hown1, hbel2.trans hbel1⟩
        case measure => simp [intOf]; omega
      · have := HLEN.out; unfold maxLen; omega
      · have := HLEN.out; omega
    · obtain rfl : k = n := by omega
      have ht : s.take k = s := List.take_of_length_le (by have := HN.out; omega)
      rw [ht, ← outM_nil] at hown
      clear ht
      have c1 := ((bcell hbel).1 w.heap.size 0 hz).trans a1
      have l1 : w.heap.size < wr.heap.size := Nat.lt_of_lt_of_le hz hbel.size
      clear a1
      go_wp2
      go_loopw [26] (fun i wr => ∃ m : Nat, m ≤ k ∧ i = .int .i64 m ∧ Own .i64 3 W1.heap.size wr u3 (outM s (kidsOf (s.take m))) ∧ Below W1.heap.size W1 wr) (fun i _ => k - (intOf i).toNat)
      case atStart => exact ⟨0, Nat.zero_le _, rfl, hown, hbel⟩
      case round =>
        clear hown hbel c1 l1
        obtain ⟨m, hmn, rfl, hown, hbel⟩ := hrel
        by_cases hlt : m < k
        · have hks : m < s.length := by have := HN.out; omega
          obtain ⟨b, o, rfl, hq⟩ := hs.at m hks
          have hB := hq m hks
          have lb0 := hB.lt
          have lb : b < wr.heap.size := Nat.lt_of_lt_of_le lb0 hbel.size
          have hbc := (bcell hbel).1
          have c0 := (hbc _ _ lb0).trans hB.refs
          have c1 := (hbc _ _ lb0).trans hB.level
          obtain ⟨v2, c2, kao, kcap, rfl, hrow, hcd⟩ := hB.kids
          obtain ⟨v3, c3, bao, bcap, rfl, hrow3, hcd3⟩ := hB.bytes
          have c2 := (hbc _ _ lb0).trans c2
          have c3 := (hbc _ _ lb0).trans c3
          have hkk := hk _ (List.getElem_mem hks)
          have HKT := Lib.hid (kidsOf_take s m hks)
          have hlen : (kidsOf (s.take m)).length ≤ 1600 := by
            have := kidsOf_len (s.take m) (fun x hx => (hk x (List.mem_of_mem_take hx)).1)
            simp at this; omega
          have HLEN := Lib.hid hlen
          clear hbc hq hs hB hlen hrow3 hcd hcd3
          generalize hx : s[m] = x at *
          have HX := Lib.hid hx
          clear hx
          have hs4 : (x.kids.length : Int) ≤ 4 := by have := hkk.1; omega
          go_wp2
          have hG2 := (hown.mono (w' := wr.alloc (.cells #[.int .i64 x.refs, .int .i64 x.level, .slice kao x.kids.length kcap, .slice bao x.bytes.length bcap] 50)) ((Below.refl _ _).alloc (Nat.le_refl _) _))
          have hbel2 : Below W1.heap.size W1 (wr.alloc (.cells #[.int .i64 x.refs, .int .i64 x.level, .slice kao x.kids.length kcap, .slice bao x.bytes.length bcap] 50)) := hbel.alloc hbel.size _
          clear hown hbel c0 c1 c2 c3
          generalize wr.alloc (Obj.cells #[Value.int .i64 x.refs, Value.int .i64 x.level, Value.slice kao x.kids.length kcap, Value.slice bao x.bytes.length bcap] 50) = W2 at *
          go_loopw [33] (fun j wr => ∃ q : Nat, q ≤ x.kids.length ∧ j = .int .i64 q ∧ Own .i64 3 W1.heap.size wr u3 (outM s (kidsOf (s.take m) ++ x.kids.take q)) ∧ Below W1.heap.size W1 wr) (fun j _ => x.kids.length - (intOf j).toNat)
          case atStart => exact ⟨0, Nat.zero_le _, rfl, by simpa using hG2, hbel2⟩
          case round =>
            clear hG2 hbel2
            obtain ⟨q, hm, rfl, hown, hbel⟩ := hrel
            have hm4 : q ≤ 4 := by omega
            by_cases hmt : q < x.kids.length
            · obtain ⟨kb, ko, rfl, hkc⟩ := hrow.at q hmt
              have hck := hkc q hmt
              have hlk := World.block_lt_of_cell? _ _ hck
              have hck := ((bcell hbel).1 _ _ hlk).trans hck
              have hlk2 : kb < wr.heap.size := Nat.lt_of_lt_of_le hlk hbel.size
              have e1 : x.kids.take (q + 1) = x.kids.take q ++ [x.kids[q]] := by rw [List.take_succ_eq_append_getElem hmt]
              have hkv := hkk.2 _ (List.getElem_mem hmt)
              clear hkc hrow
              generalize x.kids[q] = y at *
              have E1 := Lib.hid e1
              clear e1
              rcases hkv with rfl | ⟨hy1, hy2⟩
              · go_wp2
                go_roundw
                case rel => exact ⟨q + 1, by omega, by go_num, by rw [E1.out, ← List.append_assoc, outM_zero]; exact hown, hbel⟩
                case measure => simp [intOf]; omega
              · obtain ⟨j, rfl⟩ : ∃ j : Nat, y = j + 1 := ⟨(y - 1).toNat, by omega⟩
                have hjs : j < s.length := by omega
                have hj : j < k := by have := HN.out; omega
                have hol := outM_length s (kidsOf (s.take m) ++ x.kids.take q)
                obtain ⟨g, gcap, rfl, hgb, hcg, hfg, hgl⟩ := hown.at j (by omega)
                rw [outM_at s _ j hjs] at hcg
                have hcl : (kidsOf (s.take m) ++ x.kids.take q).length ≤ 1604 := by have := HLEN.out; simp; omega
                have hcc := List.count_le_length (a := ((j : Int) + 1)) (l := kidsOf (s.take m) ++ x.kids.take q)
                have hset := hown.set j (s[j].refs - ((List.count ((j : Int) + 1) (kidsOf (s.take m) ++ x.kids.take q) : Nat) : Int) - 1)
                rw [← outM_succ s _ j hjs, List.append_assoc, ← E1.out, hol, HN.out] at hset
                rw [hol, HN.out]
                have HSET := Lib.hid hset
                have hrj := hri _ (List.getElem_mem hjs)
                have hcn0 : -1604 ≤ s[j].refs - ((List.count ((j : Int) + 1) (kidsOf (s.take m) ++ x.kids.take q) : Nat) : Int) ∧ s[j].refs - ((List.count ((j : Int) + 1) (kidsOf (s.take m) ++ x.kids.take q) : Nat) : Int) ≤ 1000000 := by omega
                obtain ⟨hcn1, hcn2⟩ := hcn0
                clear hcl hset hy1 hy2 hol hcc hown hrj
                generalize s[j].refs - ((List.count ((j : Int) + 1) (kidsOf (s.take m) ++ x.kids.take q) : Nat) : Int) = cn at *
                go_wp2
                go_roundw
                case rel => exact ⟨q + 1, by omega, by go_num, HSET.out, hbel.setCell hgb _⟩
                case measure => simp [intOf]; omega
            · obtain rfl : q = x.kids.length := by omega
              go_wp2
              go_roundw
              case rel =>
                refine ⟨m + 1, by omega, by go_num, ?_, hbel⟩
                rw [HKT.out]
                rw [List.take_length] at hown
                exact hown
              case measure => simp [intOf]; omega
        · obtain rfl : m = k := by omega
          go_wp2
          go_ret
          have ht : s.take m = s := List.take_of_length_le (by have := HN.out; omega)
          rw [ht, ← outL_out] at hown
          exact ⟨_, rfl, hown.weaken (by omega), below_step hb0 hbel⟩
end Go.Proofs.Ytpfopbkaddjjcaa
