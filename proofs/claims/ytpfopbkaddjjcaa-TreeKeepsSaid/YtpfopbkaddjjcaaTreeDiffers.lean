/- rookerylaw.TreeDiffers: the walk. -/
import Derived.Test.YtpfopbkaddjjcaaRooted
import Derived.Test.YtpfopbkaddjjcaaSetX
import Derived.Test.YtpfopbkaddjjcaaCrowd
import Derived.Test.YtpfopbkaddjjcaaLists
namespace Go.Proofs.Ytpfopbkaddjjcaa
open Go.RowKit
set_option linter.unusedVariables false

theorem Own.rowOf {k : IntKind} {e base n cap : Nat} {ao : Option Addr} {w : World} {xs : List Int} (h : Own k e base w (.slice ao n cap) xs) : Row k w ao xs := by
  obtain ⟨a, c, hv, _, _, hr, _⟩ := h.shape'
  simp only [Value.slice.injEq] at hv
  rw [hv.1]
  exact hr
theorem diffF_comm (m : Nat) (hm : m ≤ 3) (s : List Blk) (a b o : Int) : diffF m s a b o = diffF m s b a o := by
  rw [diffF_eq m s a b o hm, diffF_eq m s b a o hm, diffL_comm]
theorem diffF_self (m : Nat) (hm : m ≤ 3) (s : List Blk) (a o : Int) : diffF m s a a o = [] := by
  rw [diffF_eq m s a a o hm, diffL_self]; rfl
theorem diffF_sorted (m : Nat) (hm : m ≤ 3) (s : List Blk) (a b o : Int) : (diffF m s a b o).Pairwise (· < ·) := by
  rw [diffF_eq m s a b o hm, List.pairwise_map]
  refine List.Pairwise.imp (R := (· < ·)) (fun h => by omega) ?_
  exact List.Pairwise.filter _ List.pairwise_lt_range

set_option maxRecDepth 100000 in
set_option maxHeartbeats 4000000 in
theorem law_differs_crowd (w : World) (ao ba : Option Addr) (n cap nb bc : Nat) (s : List Blk) (root other l i : Int) (hn : s.length = n) (h41 : n ≤ 2199023255552) (hs : StoRow w ao s) (hcr : crowdB s = true) :
    Calls Try.prog 12 #[.agg #[.slice ao n cap], .int .i64 root, .int .i64 other, .int .i64 l, .int .i64 i, .slice ba nb bc] w fun e w' => e = .returned (.bool true) ∧ Below w.heap.size w w' := by
  have HN := Lib.hid hn
  have hb0 : Below w.heap.size w (w.alloc (.cells #[.slice ao n cap] 40)) := (Below.refl _ _).alloc (Nat.le_refl _) _
  clear hn
  go_enter Try.func12, Try.ntmps12
  go_wp2_with fail
  generalize w.alloc (Obj.cells #[Value.slice ao n cap] 40) = W0 at *
  refine (crowded_any W0 ao n cap s HN.out h41 (hs.mono hb0)).mono ?_
  rw [hcr]
  rintro e w1 ⟨rfl, hb1⟩
  have hbw := below_step hb0 hb1
  go_wp2
  go_ret
  exact ⟨rfl, hbw⟩

set_option maxRecDepth 100000 in
set_option maxHeartbeats 4000000 in
theorem law_differs_bad (w : World) (ao ba : Option Addr) (n cap nb bc : Nat) (s : List Blk) (root other l i : Int) (hn : s.length = n) (h41 : n ≤ 2199023255552) (hs : StoRow w ao s) (hwf : WfS s) (hcr : crowdB s = false) (hd : (differR s root other l).2 ≠ 0) :
    Calls Try.prog 12 #[.agg #[.slice ao n cap], .int .i64 root, .int .i64 other, .int .i64 l, .int .i64 i, .slice ba nb bc] w fun e w' => e = .returned (.bool true) ∧ Below w.heap.size w w' := by
  have HN := Lib.hid hn
  have hb0 : Below w.heap.size w (w.alloc (.cells #[.slice ao n cap] 40)) := (Below.refl _ _).alloc (Nat.le_refl _) _
  have p0 : (w.alloc (.cells #[.slice ao n cap] 40)).heap[w.heap.size]? = some (.cells #[.slice ao n cap] 40 (0, 0)) := heap_alloc_new _ _
  clear hn
  go_enter Try.func12, Try.ntmps12
  go_wp2_with fail
  generalize w.alloc (Obj.cells #[Value.slice ao n cap] 40) = W0 at *
  refine (crowded_any W0 ao n cap s HN.out h41 (hs.mono hb0)).mono ?_
  rw [hcr]
  rintro e w1 ⟨rfl, hb1⟩
  have hbw := below_step hb0 hb1
  replace p0 := (hb1.block _ (lt_heap p0)).trans p0
  have c0 := cell_of_one p0
  have l0 := lt_heap p0
  go_wp2_with fail
  have HD := differ_any w1 ao n cap s root other l HN.out (by omega) (hs.mono hbw) hwf
  generalize differR s root other l = D at *
  obtain ⟨D, de⟩ := D
  simp only at hd HD
  have hd0 : (de == 0) = false := by rw [beq_eq_false_iff_ne]; exact hd
  have hd1 : (de != 0) = true := by rw [bne_iff_ne]; exact hd
  refine HD.mono ?_
  rintro e w2 ⟨v2, rfl, hown2, hb2⟩
  obtain ⟨a2, c2, rfl, -, -, -, -⟩ := hown2.shape'
  have hbw2 := below_step hbw hb2
  clear HD hd hown2 c0 l0
  go_wp2_with fail
  refine (rooted_any _).mono ?_
  rintro e w3 ⟨rfl, hb3⟩
  have hbw3 := below_step hbw2 hb3
  go_wp2_with fail
  refine (rooted_any _).mono ?_
  rintro e w4 ⟨rfl, hb4⟩
  have hbw4 := below_step hbw3 hb4
  go_wp2
  go_ret
  exact ⟨rfl, hbw4⟩

theorem differR_ok {s : List Blk} {a b l : Int} (h : (differR s a b l).2 = 0) : checkT s a l 0 = 0 ∧ checkT s b l 0 = 0 ∧ differR s a b l = (diffF l.toNat s a b 0, 0) := by
  unfold differR at h ⊢
  by_cases h1 : checkT s a l 0 = 0
  · rw [if_neg (by simp [h1])] at h ⊢
    by_cases h2 : checkT s b l 0 = 0
    · rw [if_neg (by simp [h2])]
      exact ⟨h1, h2, rfl⟩
    · rw [if_pos h2] at h
      exact absurd h h2
  · rw [if_pos h1] at h
    exact absurd h h1
theorem differR_mk {s : List Blk} (hc : checkE s = 0) {m : Nat} (hm : m ≤ 3) {a b : Int} (ha : RootAt s m a) (hb : RootAt s m b) : differR s a b m = (diffF m s a b 0, 0) := by
  have h1 := checkT_mk hc hm ha (p4n_pos m)
  have h2 := checkT_mk hc hm hb (p4n_pos m)
  unfold differR
  rw [if_neg (by simpa using h1), if_neg (by simpa using h2)]
  rfl

/-- Put that went well -/
theorem tput_ok {s : List Blk} {root l i : Int} {b : List Int} (h : (tputR s root l i b).2.2 = 0) : checkT s root l i = 0 ∧ (b.length = 0 ∨ b.length = 4) ∧ (setF l.toNat s root i.toNat b).2.2 = 0 ∧ tputR s root l i b = setF l.toNat s root i.toNat b := by
  unfold tputR at h ⊢
  by_cases h1 : checkT s root l i = 0
  · rw [if_neg (by simp [h1])] at h ⊢
    by_cases h2 : b.length ≠ 0 ∧ b.length ≠ 4
    · rw [if_pos h2] at h
      simp at h
    · rw [if_neg h2] at h ⊢
      by_cases h3 : (setF l.toNat s root i.toNat b).2.2 = 0
      · rw [if_neg (by simp [h3])]
        exact ⟨h1, by omega, h3, rfl⟩
      · rw [if_pos h3] at h
        exact absurd h h3
  · rw [if_pos h1] at h
    exact absurd h h1

set_option maxRecDepth 100000 in
set_option maxHeartbeats 4000000 in
theorem law_differs_ok (w : World) (ao ba : Option Addr) (n cap nb bc : Nat) (s : List Blk) (root other l i : Int) (b : List Int) (hn : s.length = n) (h41 : n ≤ 2199023255552) (hs : StoRow w ao s) (hwf : WfS s) (hc : Capd ao n cap)
    (hnb : b.length = nb) (hbr : Row .u8 w ba b) (hbc : Capd ba nb bc) (hby : Byt b) (hb47 : nb ≤ 140737488351232) (hcr : crowdB s = false) (hd : (differR s root other l).2 = 0) :
    Calls Try.prog 12 #[.agg #[.slice ao n cap], .int .i64 root, .int .i64 other, .int .i64 l, .int .i64 i, .slice ba nb bc] w fun e w' => e = .returned (.bool true) ∧ Below w.heap.size w w' := by
  obtain ⟨hca, hcb, -⟩ := differR_ok hd
  obtain ⟨hce, m, rfl, hm, hra, -, -⟩ := checkT_ok hca
  obtain ⟨-, m', hmm, -, hrb, -, -⟩ := checkT_ok hcb
  obtain rfl : m = m' := by omega
  have hD1 := differR_mk hce hm hra hrb
  have hD2 := differR_mk hce hm hrb hra
  have hD3 := differR_mk hce hm hra hra
  rw [diffF_comm m hm s other root] at hD2
  rw [diffF_self m hm] at hD3
  have hsrt := diffF_sorted m hm s root other 0
  have hlen := diffF_len m hm s root other 0
  have hp64 : p4n m ≤ 64 := by unfold p4n; (repeat' split) <;> omega
  have hfew := crowdB_few hcr
  have HTP : Hid ((tputR s root m i b).2.2 = 0 → ∃ (j : Nat) (t : List Blk) (a : Int), i = j ∧ tputR s root m i b = (t, a, 0) ∧ checkE t = 0 ∧ WfS t ∧ (differR t root a m = ([], 0) ∨ differR t root a m = ([(j : Int)], 0))) := Lib.hid (fun h => by
    obtain ⟨h1, h2, h3, h4⟩ := tput_ok h
    obtain ⟨-, m2, e2, -, -, hi0, him⟩ := checkT_ok h1
    obtain rfl : m = m2 := by omega
    obtain ⟨j, rfl⟩ : ∃ j : Nat, i = j := ⟨i.toNat, by omega⟩
    have hjm : j < p4n m := by rw [p4n_int] at him; omega
    have hX := set_ok m s root j b hm hce hwf hfew hra hjm hby (by omega) h3
    have hDf := set_diff m s root j b 999000 hm (Good.few_of hce hwf hfew) (by omega) (by omega) hra hjm hby (by omega) h3
    refine ⟨j, (setF m s root j b).1, (setF m s root j b).2.1, rfl, ?_, hX.chk, hX.wf, ?_⟩
    · rw [h4]
      have h3' : (setF m s root j b).2.2 = 0 := h3
      exact Prod.ext rfl (Prod.ext rfl h3')
    · rw [differR_mk hX.chk hm hX.old hX.new, hDf]
      by_cases e : leafB m s root j = b
      · rw [if_pos e]; exact .inl rfl
      · rw [if_neg e]; exact .inr rfl)
  have HN := Lib.hid hn
  have HC := Lib.hid hc
  have HB := Lib.hid hnb
  have HBA := Lib.hid hbc
  have HD1 := Lib.hid hD1
  have HD2 := Lib.hid hD2
  have HD3 := Lib.hid hD3
  have HSR := Lib.hid hsrt
  have hb0 : Below w.heap.size w (w.alloc (.cells #[.slice ao n cap] 40)) := (Below.refl _ _).alloc (Nat.le_refl _) _
  have p0 : (w.alloc (.cells #[.slice ao n cap] 40)).heap[w.heap.size]? = some (.cells #[.slice ao n cap] 40 (0, 0)) := heap_alloc_new _ _
  clear hn hc hnb hbc hD1 hD2 hD3 hd hca hcb hmm hra hrb hce hfew hsrt
  generalize diffF m s root other 0 = D at *
  have hDl : D.length ≤ 64 := by omega
  clear hlen
  go_enter Try.func12, Try.ntmps12
  go_wp2_with fail
  generalize w.alloc (Obj.cells #[Value.slice ao n cap] 40) = W0 at *
  refine (crowded_any W0 ao n cap s HN.out h41 (hs.mono hb0)).mono ?_
  rw [hcr]
  rintro e w1 ⟨rfl, hb1⟩
  have hbw := below_step hb0 hb1
  replace p0 := (hb1.block _ (lt_heap p0)).trans p0
  have c0 := cell_of_one p0
  have l0 := lt_heap p0
  go_wp2_with fail
  have hR := differ_any w1 ao n cap s root other m HN.out (by omega) (hs.mono hbw) hwf
  rw [HD1.out] at hR
  refine hR.mono ?_
  rintro e w2 ⟨v2, rfl, hown2, hb2⟩
  obtain ⟨a2, c2, rfl, -, -, -, -⟩ := hown2.shape'
  obtain ⟨dn, hdn⟩ : ∃ dn, D.length = dn := ⟨_, rfl⟩
  rw [hdn] at hown2 hDl ⊢
  have HDN := Lib.hid hdn
  have hbw2 := below_step hbw hb2
  replace p0 := (hb2.block _ (lt_heap p0)).trans p0
  clear hR hdn c0 l0
  have c0 := cell_of_one p0
  have l0 := lt_heap p0
  go_wp2_with fail
  refine (rooted_any _).mono ?_
  rintro e w3 ⟨rfl, hb3⟩
  have hbw3 := below_step hbw2 hb3
  replace p0 := (hb3.block _ (lt_heap p0)).trans p0
  replace hown2 := hown2.mono hb3
  clear c0 l0
  have c0 := cell_of_one p0
  have l0 := lt_heap p0
  go_wp2_with fail
  have hR := differ_any w3 ao n cap s other root m HN.out (by omega) (hs.mono hbw3) hwf
  rw [HD2.out] at hR
  refine hR.mono ?_
  rintro e w4 ⟨v4, rfl, hown4, hb4⟩
  obtain ⟨a4, c4, rfl, -, -, -, -⟩ := hown4.shape'
  rw [HDN.out] at hown4 ⊢
  have hbw4 := below_step hbw3 hb4
  replace p0 := (hb4.block _ (lt_heap p0)).trans p0
  replace hown2 := hown2.mono hb4
  clear c0 l0 hR
  have c0 := cell_of_one p0
  have l0 := lt_heap p0
  go_wp2_with fail
  have hR := differ_any w4 ao n cap s root root m HN.out (by omega) (hs.mono hbw4) hwf
  rw [HD3.out] at hR
  refine hR.mono ?_
  rintro e w5 ⟨v5, rfl, hown5, hb5⟩
  obtain ⟨a5, c5, rfl, -, -, -, -⟩ := hown5.shape'
  simp only [List.length_nil] at hown5 ⊢
  have hbw5 := below_step hbw4 hb5
  replace p0 := (hb5.block _ (lt_heap p0)).trans p0
  replace hown2 := hown2.mono hb5
  replace hown4 := hown4.mono hb5
  clear c0 l0 hR
  have c0 := cell_of_one p0
  have l0 := lt_heap p0
  go_wp2_with fail
  have hr2 := hown2.rowOf
  have hr4 := hown4.rowOf
  refine (slices_equal_int a4 a2 dn dn c4 c2 D D _ HDN.out HDN.out hr4 hr2 (by omega)).mono ?_
  rw [beq_self_eq_true]
  rintro e w6 ⟨rfl, hb6⟩
  have hbw6 := below_step hbw5 hb6
  replace p0 := (hb6.block _ (lt_heap p0)).trans p0
  replace hown2 := hown2.mono hb6
  clear c0 l0 hr2 hr4 hown4 hown5
  have hr2 := hown2.rowOf
  go_wp2_with fail
  refine (sorted_int _ a2 dn c2 D HDN.out (by omega) hr2 HSR.out).mono ?_
  rintro e w7 ⟨rfl, hb7⟩
  have hbw7 := below_step hbw6 hb7
  replace p0 := (hb7.block _ (lt_heap p0)).trans p0
  have c0 := cell_of_one p0
  have l0 := lt_heap p0
  clear hr2 hown2
  go_wp2_with fail
  have hP := treePut_any w7 ao ba n cap nb bc s root m i b HN.out (by omega) (hs.mono hbw7) hwf HC.out HB.out (hbr.mono hbw7) HBA.out hby hb47
  by_cases hT : (tputR s root m i b).2.2 = 0
  rotate_left
  · generalize tputR s root m i b = T at *
    obtain ⟨t, a, te⟩ := T
    simp only at hT
    have ht1 : (te != 0) = true := by rw [bne_iff_ne]; exact hT
    refine hP.mono ?_
    rintro e w8 ⟨v8, rfl, ho8, hb8⟩
    obtain ⟨a8, c8, rfl, -, -⟩ := ho8.sto
    have hbw8 := (below_step hbw7 hb8).alloc (by have := (below_step hbw7 hb8).size; exact this) (.cells #[.slice a8 t.length c8] 40)
    clear HTP hT hP ho8 c0 l0
    go_wp2
    go_ret
    exact ⟨rfl, hbw8⟩
  · obtain ⟨j, t, a, rfl, hTe, hct, hwt, hdf⟩ := HTP.out hT
    rw [hTe] at hP
    obtain ⟨tn, htn⟩ : ∃ tn, t.length = tn := ⟨_, rfl⟩
    have h400 : tn ≤ 400 := by have := (checkE_zero t hct).1; omega
    have HTN := Lib.hid htn
    refine hP.mono ?_
    rintro e w8 ⟨v8, rfl, ho8, hb8⟩
    obtain ⟨a8, c8, rfl, hc8, hs8⟩ := ho8.sto
    simp only at hs8 ⊢
    rw [htn]
    have hbA : Below w8.heap.size w8 (w8.alloc (.cells #[.slice a8 tn c8] 40)) := (Below.refl _ _).alloc (Nat.le_refl _) _
    have hsA := hs8.mono hbA
    have hbw8 := below_step (below_step hbw7 hb8) hbA
    clear HTP hT hP ho8 c0 l0 htn hTe hc8 hct
    go_wp2_with fail
    generalize w8.alloc (Obj.cells #[Value.slice a8 tn c8] 40) = W8 at *
    have hR := differ_any W8 a8 tn c8 t root a m HTN.out (by omega) hsA hwt
    rcases hdf with hdf | hdf
    · rw [hdf] at hR
      refine hR.mono ?_
      rintro e w9 ⟨v9, rfl, hown9, hb9⟩
      obtain ⟨a9, c9, rfl, -, -, -, -⟩ := hown9.shape'
      simp only [List.length_nil]
      have hbw9 := below_step hbw8 hb9
      clear hR hown9 hdf
      go_wp2
      go_ret
      exact ⟨rfl, hbw9⟩
    · rw [hdf] at hR
      refine hR.mono ?_
      rintro e w9 ⟨v9, rfl, hown9, hb9⟩
      obtain ⟨g9, c9, rfl, -, hc9, -, hl9⟩ := hown9.at 0 (by simp)
      simp only [List.length_cons, List.length_nil, List.getElem_cons_zero] at hc9 ⊢
      have hbw9 := below_step hbw8 hb9
      clear hR hown9 hdf
      go_wp2
      go_ret
      exact ⟨rfl, hbw9⟩
end Go.Proofs.Ytpfopbkaddjjcaa
