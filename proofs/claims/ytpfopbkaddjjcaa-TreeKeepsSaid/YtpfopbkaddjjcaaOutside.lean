/- store.Outside, store.Used: what they tell. -/
import Derived.Test.YtpfopbkaddjjcaaCheck
namespace Go.Proofs.Ytpfopbkaddjjcaa
open Go.RowKit
set_option linter.unusedVariables false

theorem checkE_zero (s : List Blk) (h : checkE s = 0) : s.length ≤ 400 ∧ formsE s s = 0 ∧ KidsIn s ∧ RefsIn s ∧ ∀ n ∈ outL s, 0 ≤ n := by
  unfold checkE at h
  split at h
  · omega
  · split at h
    · rename_i h1 h2; exact absurd h h2
    · rename_i h1 h2
      have hz : formsE s s = 0 := by simpa using h2
      refine ⟨by omega, hz, kidsIn_of s hz, refsIn_of s hz, fun n hn => ?_⟩
      split at h
      · omega
      · rename_i h3
        rw [List.any_eq_true] at h3
        rcases Int.lt_or_le n 0 with hlt | hle
        · exact absurd ⟨n, hn, by simpa using hlt⟩ h3
        · exact hle

/-- after so many: the first told, the others as below -/
def outTo (s : List Blk) (k : Nat) : List Int := (outL s).take k ++ (belowL s).drop k
theorem outTo_length (s : List Blk) (k : Nat) (h : k ≤ s.length) : (outTo s k).length = s.length := by simp [outTo, outL_length, belowL_length]; omega
theorem outTo_zero (s : List Blk) : outTo s 0 = belowL s := by simp [outTo]
theorem outTo_all (s : List Blk) : outTo s s.length = outL s := by
  simp [outTo, List.take_of_length_le (Nat.le_of_eq (outL_length s)), List.drop_of_length_le (Nat.le_of_eq (belowL_length s))]
theorem outTo_at (s : List Blk) (k : Nat) (h : k < s.length) (h' : k < (outTo s k).length) (h2 : k < (belowL s).length) : (outTo s k)[k] = (belowL s)[k] := by
  simp only [outTo]
  rw [List.getElem_append_right (by simp [outL_length]; omega)]
  simp [outL_length, Nat.min_eq_left (Nat.le_of_lt h)]
theorem outTo_succ (s : List Blk) (k : Nat) (h : k < s.length) (h2 : k < (belowL s).length) : (outTo s k).set k (s[k].refs - (belowL s)[k]) = outTo s (k + 1) := by
  have hl := outL_length s
  have hl2 := belowL_length s
  apply List.ext_getElem
  · simp [outTo_length _ _ (Nat.le_of_lt h), outTo_length _ _ h]
  · intro i h1 h2'
    rw [List.getElem_set]
    by_cases e : k = i
    · subst e
      simp only [if_true, outTo]
      rw [List.getElem_append_left (by simp [hl]; omega), List.getElem_take, outL_below s _ h (by rw [hl]; exact h) h2]
    · rw [if_neg e]
      simp only [outTo]
      rw [outTo_length _ _ h] at h2'
      rcases Nat.lt_or_ge i k with hi | hi
      · rw [List.getElem_append_left (by simp [hl]; omega), List.getElem_append_left (by simp [hl]; omega)]
        simp
      · rw [List.getElem_append_right (by simp [hl]; omega), List.getElem_append_right (by simp [hl]; omega)]
        simp [hl, Nat.min_eq_left (Nat.le_of_lt h), Nat.min_eq_left (show k + 1 ≤ s.length from h)]
        congr 1
        omega

theorem belowL_bd (s : List Blk) (hk : KidsIn s) (h4 : s.length ≤ 400) (k : Nat) (h : k < (belowL s).length) : 0 ≤ (belowL s)[k] ∧ (belowL s)[k] ≤ 1600 := by
  have h1 := kidsOf_len s (fun x hx => (hk x hx).1)
  have h2 := List.count_le_length (a := ((k : Int) + 1)) (l := kidsOf s)
  simp only [belowL, List.getElem_map, List.getElem_range, belowN]
  omega

theorem outside_bad (w : World) (ao : Option Addr) (n cap : Nat) (s : List Blk) (hn : s.length = n) (hn63 : n ≤ 1152921504606846976) (hs : StoRow w ao s) (hwf : WfS s) (hc : checkE s ≠ 0) :
    Calls Try.prog 30 #[.agg #[.slice ao n cap]] w fun e w' => e = .returned (.tuple #[.slice none 0 0, .int .i64 (checkE s)]) ∧ Below w.heap.size w w' := by
  have h1 : (checkE s != 0) = true := by rw [bne_iff_ne]; exact hc
  have h2 : (checkE s == 0) = false := by rw [beq_eq_false_iff_ne]; exact hc
  have hb0 : Below w.heap.size w (w.alloc (.cells #[.slice ao n cap] 40)) := (Below.refl _ _).alloc (Nat.le_refl _) _
  clear hc
  go_enter Try.func30, Try.ntmps30
  go_wp2_with fail
  refine (check_any _ _ _ _ s hn hn63 (hs.mono hb0) hwf).mono ?_
  rintro e w1 ⟨rfl, hb1⟩
  generalize hce : checkE s = ce at *
  have HCE := Lib.hid hce
  clear hn hce
  go_wp2_with fail
  go_ret2
  exact ⟨by rw [HCE.out]; rfl, below_step hb0 hb1⟩

theorem used_bad (w : World) (ao : Option Addr) (n cap : Nat) (s : List Blk) (hn : s.length = n) (hn63 : n ≤ 1152921504606846976) (hs : StoRow w ao s) (hwf : WfS s) (hc : checkE s ≠ 0) :
    Calls Try.prog 31 #[.agg #[.slice ao n cap]] w fun e w' => e = .returned (.tuple #[.int .i64 0, .int .i64 (checkE s)]) ∧ Below w.heap.size w w' := by
  have h1 : (checkE s != 0) = true := by rw [bne_iff_ne]; exact hc
  have h2 : (checkE s == 0) = false := by rw [beq_eq_false_iff_ne]; exact hc
  have hb0 : Below w.heap.size w (w.alloc (.cells #[.slice ao n cap] 40)) := (Below.refl _ _).alloc (Nat.le_refl _) _
  clear hc
  go_enter Try.func31, Try.ntmps31
  go_wp2_with fail
  refine (check_any _ _ _ _ s hn hn63 (hs.mono hb0) hwf).mono ?_
  rintro e w1 ⟨rfl, hb1⟩
  generalize hce : checkE s = ce at *
  have HCE := Lib.hid hce
  clear hn hce
  go_wp2_with fail
  go_ret2
  exact ⟨by rw [HCE.out]; rfl, below_step hb0 hb1⟩

def usedN (l : List Blk) : Int := ((l.filter fun x => decide (0 < x.refs)).length : Nat)
theorem usedN_snoc (l : List Blk) (x : Blk) : usedN (l ++ [x]) = usedN l + if 0 < x.refs then 1 else 0 := by
  unfold usedN
  rw [List.filter_append]
  by_cases h : 0 < x.refs <;> simp [h]
theorem usedN_bd (l : List Blk) : 0 ≤ usedN l ∧ usedN l ≤ l.length := by
  unfold usedN
  have := List.length_filter_le (fun x : Blk => decide (0 < x.refs)) l
  omega

set_option maxRecDepth 100000 in
set_option maxHeartbeats 1000000 in
theorem used_ok (w : World) (ao : Option Addr) (n cap : Nat) (s : List Blk) (hn : s.length = n) (hs : StoRow w ao s) (hwf : WfS s) (hc : checkE s = 0) :
    Calls Try.prog 31 #[.agg #[.slice ao n cap]] w fun e w' => e = .returned (.tuple #[.int .i64 (usedN s), .int .i64 0]) ∧ Below w.heap.size w w' := by
  have hz4 := (checkE_zero s hc).1
  have HC := Lib.hid hc
  have HN := Lib.hid hn
  have h4 : n ≤ 400 := by omega
  have a1 : (w.alloc (.cells #[.slice ao n cap] 40)).cell? ⟨w.heap.size, 0, none⟩ = some (.slice ao n cap) := by simp
  have hb0 : Below w.heap.size w (w.alloc (.cells #[.slice ao n cap] 40)) := (Below.refl _ _).alloc (Nat.le_refl _) _
  have hz : w.heap.size < (w.alloc (.cells #[.slice ao n cap] 40)).heap.size := by simp
  have hs := hs.mono hb0
  clear hn hz4
  go_enter Try.func31, Try.ntmps31
  go_wp2_with fail
  refine (check_any _ _ _ _ s HN.out (by omega) hs hwf).mono ?_
  rintro e w1 ⟨rfl, hb1⟩
  generalize w.alloc (Obj.cells #[Value.slice ao n cap] 40) = W0 at *
  have c1 := ((bcell hb1).1 w.heap.size 0 hz).trans a1
  have l1 : w.heap.size < w1.heap.size := Nat.lt_of_lt_of_le hz hb1.size
  have hs := hs.mono hb1
  clear a1 hz
  go_wp2
  go_loopw [5, 16] (fun u i wr => ∃ k : Nat, k ≤ n ∧ i = .int .i64 k ∧ u = .int .i64 (usedN (s.take k)) ∧ Below w1.heap.size w1 wr) (fun _ i _ => n - (intOf i).toNat)
  case atStart => exact ⟨0, Nat.zero_le _, rfl, rfl, Below.refl _ _⟩
  case round =>
    obtain ⟨k, hkn, rfl, rfl, hbel⟩ := hrel
    by_cases hlt : k < n
    · have hks : k < s.length := by have := HN.out; omega
      obtain ⟨b, o, rfl, hq⟩ := (hs.mono hbel).at k hks
      have hB := hq k hks
      have c0 := hB.refs
      have c1' := hB.level
      obtain ⟨v2, c2, kao, kcap, rfl, hrow, hcd⟩ := hB.kids
      obtain ⟨v3, c3, bao, bcap, rfl, hrow3, hcd3⟩ := hB.bytes
      have lb := hB.lt
      have HKT := Lib.hid (show usedN (s.take (k + 1)) = _ by rw [List.take_succ_eq_append_getElem hks, usedN_snoc])
      have hub := usedN_bd (s.take k)
      have hu1 := hub.1
      have hu2 : usedN (s.take k) ≤ 400 := by have := hub.2; simp at this; omega
      clear hq hB hrow hrow3 hcd hcd3 hub c1 l1
      generalize s[k] = x at *
      by_cases hpos : 0 < x.refs
      · go_wp2
        go_roundw
        case rel => exact ⟨k + 1, by omega, by go_num, by rw [HKT.out, if_pos hpos], below_step hbel ((Below.refl _ _).alloc (Nat.le_refl _) _)⟩
        case measure => simp [intOf]; omega
      · go_wp2
        go_roundw
        case rel => exact ⟨k + 1, by omega, by go_num, by rw [HKT.out, if_neg (by omega), Int.add_zero], below_step hbel ((Below.refl _ _).alloc (Nat.le_refl _) _)⟩
        case measure => simp [intOf]; omega
    · obtain rfl : k = n := by omega
      have ht : s.take k = s := List.take_of_length_le (by have := HN.out; omega)
      rw [ht]
      clear ht
      go_wp2
      go_ret2
      exact ⟨rfl, below_step hb0 (below_step hb1 hbel)⟩

set_option maxRecDepth 100000 in
set_option maxHeartbeats 1000000 in
theorem outside_ok (w : World) (ao : Option Addr) (n cap : Nat) (s : List Blk) (hn : s.length = n) (hs : StoRow w ao s) (hwf : WfS s) (hc : checkE s = 0) :
    Calls Try.prog 30 #[.agg #[.slice ao n cap]] w fun e w' => ∃ ao', e = .returned (.tuple #[.slice ao' n n, .int .i64 0]) ∧ Own .i64 3 w.heap.size w' (.slice ao' n n) (outL s) ∧ Below w.heap.size w w' := by
  obtain ⟨hz4, _, hki, hri, _⟩ := checkE_zero s hc
  have HC := Lib.hid hc
  have HN := Lib.hid hn
  have h4 : n ≤ 400 := by omega
  have a1 : (w.alloc (.cells #[.slice ao n cap] 40)).cell? ⟨w.heap.size, 0, none⟩ = some (.slice ao n cap) := by simp
  have hb0 : Below w.heap.size w (w.alloc (.cells #[.slice ao n cap] 40)) := (Below.refl _ _).alloc (Nat.le_refl _) _
  have hz : w.heap.size < (w.alloc (.cells #[.slice ao n cap] 40)).heap.size := by simp
  have hs := hs.mono hb0
  clear hn hz4
  go_enter Try.func30, Try.ntmps30
  go_wp2_with fail
  refine (check_any _ _ _ _ s HN.out (by omega) hs hwf).mono ?_
  rintro e w1 ⟨rfl, hb1⟩
  generalize w.alloc (Obj.cells #[Value.slice ao n cap] 40) = W0 at *
  have c1 := ((bcell hb1).1 w.heap.size 0 hz).trans a1
  have l1 : w.heap.size < w1.heap.size := Nat.lt_of_lt_of_le hz hb1.size
  have hs := hs.mono hb1
  clear a1 hz
  go_wp2_with fail
  refine (below_any _ _ _ _ s HN.out h4 hs hki).mono ?_
  rintro e w2 ⟨ao3, rfl, ho3, hb2⟩
  have c1 := ((bcell hb2).1 w.heap.size 0 l1).trans c1
  have l1 : w.heap.size < w2.heap.size := Nat.lt_of_lt_of_le l1 hb2.size
  have hs := hs.mono hb2
  go_wp2
  go_loopw [18] (fun i wr => ∃ k : Nat, k ≤ n ∧ i = .int .i64 k ∧ Own .i64 3 w1.heap.size wr (.slice ao3 n n) (outTo s k) ∧ Below w1.heap.size w1 wr) (fun i _ => n - (intOf i).toNat)
  case atStart => exact ⟨0, Nat.zero_le _, rfl, by rw [outTo_zero]; exact ho3, hb2⟩
  case round =>
    clear ho3 c1 l1
    obtain ⟨k, hkn, rfl, hown, hbel⟩ := hrel
    by_cases hlt : k < n
    · have hks : k < s.length := by have := HN.out; omega
      have hbl : k < (belowL s).length := by rw [belowL_length]; exact hks
      have hol := outTo_length s k (Nat.le_of_lt hks)
      have hs1 := ‹StoRow w1 ao s›
      obtain ⟨b, o, rfl, hq⟩ := (hs1.mono hbel).at k hks
      have hB := hq k hks
      have c0 := hB.refs
      have c1' := hB.level
      obtain ⟨v2, c2, kao, kcap, rfl, hrow, hcd⟩ := hB.kids
      obtain ⟨v3, c3, bao, bcap, rfl, hrow3, hcd3⟩ := hB.bytes
      have lb := hB.lt
      obtain ⟨g, gcap, hv, hg, hcg, hfg, hgl⟩ := hown.at k (by omega)
      rw [hol, HN.out] at hv
      simp only [Value.slice.injEq, true_and] at hv
      obtain ⟨rfl, rfl⟩ := hv
      rw [outTo_at s k hks _ hbl] at hcg
      have hset := (hown.set k (s[k].refs - (belowL s)[k])).mono (w' := (wr.setCell ⟨g, k, none⟩ (.int .i64 (s[k].refs - (belowL s)[k]))).alloc (.cells #[.int .i64 s[k].refs, .int .i64 s[k].level, .slice kao s[k].kids.length kcap, .slice bao s[k].bytes.length bcap] 50)) ((Below.refl _ _).alloc (Nat.le_refl _) _)
      rw [outTo_succ s k hks hbl] at hset
      have hbb := belowL_bd s hki (by have := HN.out; omega) k hbl
      have hrb := hri _ (List.getElem_mem hks)
      have hwr : IntKind.i64.wrap (s[k].refs - (belowL s)[k]) = s[k].refs - (belowL s)[k] := IntWalk.i64_in _ (by omega)
      have HSET := Lib.hid hset
      have hi1 : (0 : Int) ≤ k := by omega
      have hi2 : (k : Int) < n := by omega
      have hgw := hgl
      clear hq hB hrow hrow3 hcd hcd3 hset hbb hrb hol hs1 hown
      generalize (belowL s)[k] = bk at *
      go_wp2_with fail
      go_region
      go_wp2
      go_roundw
      case rel => exact ⟨k + 1, by omega, by go_num, HSET.out, ((hbel.setCell (p := ⟨g, k, none⟩) hg _).alloc (by have := hbel.size; simp; omega) _).drew⟩
      case measure => simp [intOf]; omega
    · obtain rfl : k = n := by omega
      have ht : outTo s k = outL s := by have := HN.out; rw [← this]; exact outTo_all s
      rw [ht] at hown
      clear ht
      go_wp2
      go_ret2
      exact ⟨_, rfl, hown.weaken (by have := hb0.size; have := hb1.size; omega), below_step hb0 (below_step hb1 hbel)⟩
end Go.Proofs.Ytpfopbkaddjjcaa
