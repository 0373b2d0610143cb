/- rookerylaw.TreeGets: the walk. -/
import Derived.Test.YtpfopbkaddjjcaaRooted
import Derived.Test.YtpfopbkaddjjcaaAll
import Derived.Test.YtpfopbkaddjjcaaSetX
namespace Go.Proofs.Ytpfopbkaddjjcaa
open Go.RowKit
set_option linter.unusedVariables false

theorem Own.rowIn {k : IntKind} {e base n cap : Nat} {ao : Option Addr} {w : World} {xs : List Int} (h : Own k e base w (.slice ao n cap) xs) : Row k w ao xs := by
  obtain ⟨a, c, hv, _, _, hr, _⟩ := h.shape'
  simp only [Value.slice.injEq] at hv
  rw [hv.1]
  exact hr
theorem checkT_same {s : List Blk} {root l : Int} (h : checkT s root l 0 ≠ 0) (i : Int) : checkT s root l i = checkT s root l 0 := by
  unfold checkT at h ⊢
  by_cases h1 : checkE s ≠ 0
  · simp only [if_pos h1]
  · simp only [if_neg h1] at h ⊢
    by_cases h2 : l < 0 ∨ 3 < l
    · simp only [if_pos h2]
    · simp only [if_neg h2] at h ⊢
      by_cases h3 : root ≠ 0 ∧ thereB s root = false
      · simp only [if_pos h3]
      · simp only [if_neg h3] at h ⊢
        by_cases h4 : root ≠ 0 ∧ (blk s root).level ≠ l
        · simp only [if_pos h4]
        · simp only [if_neg h4] at h
          exfalso
          apply h
          rw [if_neg]
          have := (p4_pos l.toNat).1
          omega

theorem lv_cases {l ln le : Int} (h : lvN l = (ln, le)) : (l < 0 ∧ ln = 0 ∧ le = 3) ∨ (¬ l < 0 ∧ 3 < l ∧ ln = 0 ∧ le = 3) ∨ (l = 0 ∧ ln = 1 ∧ le = 0) ∨ (l = 1 ∧ ln = 4 ∧ le = 0) ∨ (l = 2 ∧ ln = 16 ∧ le = 0) ∨ (l = 3 ∧ ln = 64 ∧ le = 0) := by
  rcases (show l < 0 ∨ 3 < l ∨ l = 0 ∨ l = 1 ∨ l = 2 ∨ l = 3 from by omega) with e | e | e | e | e | e
  · unfold lvN at h
    rw [if_pos (.inl e)] at h
    obtain ⟨rfl, rfl⟩ := Prod.mk.inj h
    exact .inl ⟨e, rfl, rfl⟩
  · unfold lvN at h
    rw [if_pos (.inr e)] at h
    obtain ⟨rfl, rfl⟩ := Prod.mk.inj h
    exact .inr (.inl ⟨by omega, e, rfl, rfl⟩)
  all_goals
    subst e
    obtain ⟨rfl, rfl⟩ := Prod.mk.inj h
    simp [p4]

set_option maxRecDepth 100000 in
set_option maxHeartbeats 8000000 in
theorem law_gets_bad (w : World) (ao : Option Addr) (n cap : Nat) (s : List Blk) (root other l i : Int) (hn : s.length = n) (h41 : n ≤ 2199023255552) (hs : StoRow w ao s) (hwf : WfS s) (hct : checkT s root l 0 ≠ 0) :
    Calls Try.prog 13 #[.agg #[.slice ao n cap], .int .i64 root, .int .i64 other, .int .i64 l, .int .i64 i] w fun e w' => e = .returned (.bool true) ∧ Below w.heap.size w w' := by
  have HN := Lib.hid hn
  have hci := checkT_same hct i
  have HG := Lib.hid (show getR s root l i = [] by unfold getR; rw [if_neg (by rw [hci]; exact hct)])
  have HA := Lib.hid (show allR s root l = ([], checkT s root l 0) by unfold allR; rw [if_pos hct])
  have HD := Lib.hid (show differR s root other l = ([], checkT s root l 0) by unfold differR; rw [if_pos hct])
  have HCI := Lib.hid hci
  have hb0 : Below w.heap.size w (w.alloc (.cells #[.slice ao n cap] 40)) := (Below.refl _ _).alloc (Nat.le_refl _) _
  have p0 : (w.alloc (.cells #[.slice ao n cap] 40)).heap[w.heap.size]? = some (.cells #[.slice ao n cap] 40 (0, 0)) := heap_alloc_new _ _
  have hct0 : (checkT s root l 0 == 0) = false := by rw [beq_eq_false_iff_ne]; exact hct
  have hct1 : (checkT s root l 0 != 0) = true := by rw [bne_iff_ne]; exact hct
  have HCR := Lib.hid (fun (u : World) (h : Below w.heap.size w u) (k : Int) => checkRoot_any u ao n cap s root l k HN.out (by omega) (hs.mono h) hwf)
  have HGT := Lib.hid (fun (u : World) (h : Below w.heap.size w u) => treeGet_any u ao n cap s root l i HN.out (by omega) (hs.mono h) hwf)
  have HAL := Lib.hid (fun (u : World) (h : Below w.heap.size w u) => all_any u ao n cap s root l HN.out (by omega) (hs.mono h) hwf)
  have HDF := Lib.hid (fun (u : World) (h : Below w.heap.size w u) => differ_any u ao n cap s root other l HN.out (by omega) (hs.mono h) hwf)
  clear hn hci hct
  go_enter Try.func13, Try.ntmps13
  go_wp2_with fail
  generalize w.alloc (Obj.cells #[Value.slice ao n cap] 40) = W0 at *
  refine (leaves_any W0 l).mono ?_
  rintro e w1 ⟨rfl, rfl⟩
  have c0 := cell_of_one p0
  have l0 := lt_heap p0
  generalize hlv : lvN l = lv at *
  obtain ⟨ln, le⟩ := lv
  replace hlv := Lib.hid hlv
  go_wp2_with fail
  have hG := HGT.out w1 hb0
  rw [HCI.out, HG.out] at hG
  refine hG.mono ?_
  rintro e w2 ⟨v2, rfl, hown2, hb2⟩
  obtain ⟨a2, c2, rfl, -, -, -, -⟩ := hown2.shape'
  simp only [List.length_nil]
  replace p0 := (hb2.block _ (lt_heap p0)).trans p0
  have hbw2 := below_step hb0 hb2
  clear c0 l0 hG hown2
  have c0 := cell_of_one p0
  have l0 := lt_heap p0
  go_wp2_with fail
  have hA := HAL.out w2 hbw2
  rw [HA.out] at hA
  refine hA.mono ?_
  rintro e w3 ⟨v3, vs3, rfl, ho3, hw3, hb3⟩
  have hl3 : vs3.length = 0 := hw3.len
  rw [hl3] at ho3
  obtain ⟨a3, c3, rfl, -⟩ := rows2_of ho3 hl3 hw3
  replace p0 := (hb3.block _ (lt_heap p0)).trans p0
  have hbw3 := below_step hbw2 hb3
  clear c0 l0 hA ho3 hw3 hl3
  have c0 := cell_of_one p0
  have l0 := lt_heap p0
  go_wp2_with fail
  have hD := HDF.out w3 hbw3
  rw [HD.out] at hD
  refine hD.mono ?_
  rintro e w4 ⟨v4, rfl, hown4, hb4⟩
  obtain ⟨a4, c4, rfl, -, -, -, -⟩ := hown4.shape'
  simp only [List.length_nil]
  replace p0 := (hb4.block _ (lt_heap p0)).trans p0
  have hbw4 := below_step hbw3 hb4
  clear c0 l0 hD hown4
  go_wp2_with fail
  refine (rooted_any _).mono ?_
  rintro e w5 ⟨rfl, hb5⟩
  replace p0 := (hb5.block _ (lt_heap p0)).trans p0
  have hbw5 := below_step hbw4 hb5
  have c0 := cell_of_one p0
  have l0 := lt_heap p0
  have hlc := lv_cases hlv.out
  clear hlv
  rcases hlc with ⟨h, rfl, rfl⟩ | ⟨h', h, rfl, rfl⟩ | ⟨rfl, rfl, rfl⟩ | ⟨rfl, rfl, rfl⟩ | ⟨rfl, rfl, rfl⟩ | ⟨rfl, rfl, rfl⟩
  all_goals
    go_wp2_with fail
    refine (HCR.out w5 hbw5 i).mono ?_
    rw [HCI.out]
    rintro e w6 ⟨rfl, hb6⟩
    have p06 := (hb6.block _ (lt_heap p0)).trans p0
    have hbw6 := below_step hbw5 hb6
    have c06 := cell_of_one p06
    have l06 := lt_heap p06
    clear c0 l0
    go_wp2_with fail
    refine (HCR.out w6 hbw6 0).mono ?_
    rintro e w7 ⟨rfl, hb7⟩
    have hbw7 := below_step hbw6 hb7
    go_wp2
    go_ret
    exact ⟨rfl, hbw7⟩

/-- where two rows differ, so far -/
def wantTo (L K : List (List Int)) (k : Nat) : List Int := ((List.range k).filter fun i => decide (L[i]?.getD [] ≠ K[i]?.getD [])).map fun i : Nat => (i : Int)
theorem wantTo_succ (L K : List (List Int)) (k : Nat) : wantTo L K (k + 1) = wantTo L K k ++ if L[k]?.getD [] ≠ K[k]?.getD [] then [(k : Int)] else [] := by
  unfold wantTo
  rw [List.range_succ, List.filter_append, List.map_append]
  by_cases h : L[k]?.getD [] ≠ K[k]?.getD []
  · rw [if_pos h]
    simp only [List.filter_cons, List.filter_nil]
    rw [if_pos (by simpa using h)]
    rfl
  · rw [if_neg h]
    simp only [List.filter_cons, List.filter_nil]
    rw [if_neg (by simpa using h)]
    rfl
theorem wantTo_len (L K : List (List Int)) (k : Nat) : (wantTo L K k).length ≤ k := by
  unfold wantTo
  rw [List.length_map]
  exact Nat.le_trans (List.length_filter_le _ _) (by rw [List.length_range]; exact Nat.le_refl _)
theorem wantTo_all (m : Nat) (hm : m ≤ 3) (s : List Blk) (a b : Int) : wantTo (leavesF m s a) (leavesF m s b) (p4n m) = diffF m s a b 0 := by
  rw [diffF_eq m s a b 0 hm]
  unfold wantTo diffL
  have e : ∀ i ∈ List.range (p4n m), decide ((leavesF m s a)[i]?.getD [] ≠ (leavesF m s b)[i]?.getD []) = decide (leafB m s a i ≠ leafB m s b i) := by
    intro i hi
    have hi := List.mem_range.1 hi
    rw [List.getElem?_eq_getElem (by rw [leavesF_len]; exact hi), List.getElem?_eq_getElem (by rw [leavesF_len]; exact hi), Option.getD_some, Option.getD_some, leavesF_get, leavesF_get]
  rw [List.filter_congr e]
  apply List.map_congr_left
  intro i _
  omega

theorem leaves_row (m : Nat) (hm : m ≤ 3) (u : World) (ao : Option Addr) (n cap : Nat) (s : List Blk) (root : Int) (hn : s.length = n) (h400 : n ≤ 400) (hs : StoRow u ao s) (hf : formsE s s = 0) (hr : RootAt s m root) :
    Calls Try.prog 58 #[.agg #[.slice ao n cap], .int .i64 root, .int .i64 (m : Int)] u fun e w' => ∃ ro rc, e = .returned (.slice ro (p4n m) rc) ∧ Rows2 w' ro (leavesF m s root) ∧ Below u.heap.size u w' := by
  refine (leavesOf_any m hm u u ao n cap s root (Below.refl _ _) hn h400 hs hf hr).mono ?_
  rintro e w' ⟨v, vs, rfl, ho, hL, hb⟩
  have hl := hL.len
  rw [leavesF_len] at hl
  obtain ⟨ro, rc, rfl, h2⟩ := rows2_of ho rfl (hL.lw.mono hb)
  exact ⟨ro, rc, by rw [hl], h2, hb⟩

theorem Rows2.at {w : World} {ao : Option Addr} {L : List (List Int)} (h : Rows2 w ao L) (i : Nat) (hi : i < L.length) : ∃ b o, ao = some ⟨b, o, none⟩ ∧ ∃ ba bc, w.cell? ⟨b, o + i, none⟩ = some (.slice ba L[i].length bc) ∧ Row .u8 w ba L[i] := by
  obtain ⟨b, o, rfl, hc⟩ := h.resolve_left (fun e => by rw [e] at hi; simp at hi)
  obtain ⟨u, x, ba, bc, rfl, hr, -⟩ := hc i hi
  exact ⟨b, o, rfl, ba, bc, x, hr⟩

set_option maxRecDepth 100000 in
set_option maxHeartbeats 16000000 in
theorem law_gets_ok (w : World) (ao : Option Addr) (n cap : Nat) (s : List Blk) (root other l i : Int) (hn : s.length = n) (h41 : n ≤ 2199023255552) (hs : StoRow w ao s) (hwf : WfS s) (hI : I64 i) (hct : checkT s root l 0 = 0) :
    Calls Try.prog 13 #[.agg #[.slice ao n cap], .int .i64 root, .int .i64 other, .int .i64 l, .int .i64 i] w fun e w' => e = .returned (.bool true) ∧ Below w.heap.size w w' := by
  have HN := Lib.hid hn
  obtain ⟨hce, m, hlm, hm, hra, -, -⟩ := checkT_ok hct
  have hf := (checkE_zero s hce).2.1
  have h400 : n ≤ 400 := by have := (checkE_zero s hce).1; omega
  have hpp := p4n_pos m
  have hp64 : p4n m ≤ 64 := by unfold p4n; (repeat' split) <;> omega
  have HA := Lib.hid (show allR s root l = (leavesF m s root, 0) by unfold allR; rw [if_neg (by simp [hct]), hlm]; rfl)
  have HBY := Lib.hid (leavesF_byt hwf m root)
  have HBY2 := Lib.hid (leavesF_byt hwf m other)
  have HLL := Lib.hid (leavesF_len m s root)
  have HKL := Lib.hid (leavesF_len m s other)
  have HW := Lib.hid (wantTo_all m hm s root other)
  -- the leaf at the place
  have HGI : Hid ((checkT s root l i ≠ 0 ∧ getR s root l i = []) ∨ ∃ j : Nat, ∃ hj : j < (leavesF m s root).length, i = j ∧ checkT s root l i = 0 ∧ getR s root l i = (leavesF m s root)[j]) := Lib.hid (by
    by_cases hci : checkT s root l i = 0
    · right
      obtain ⟨-, m2, e2, -, -, hi0, him⟩ := checkT_ok hci
      obtain rfl : m = m2 := by omega
      obtain ⟨j, rfl⟩ : ∃ j : Nat, i = j := ⟨i.toNat, by omega⟩
      have hjm : j < p4n m := by rw [p4n_int] at him; omega
      refine ⟨j, by rw [leavesF_len]; exact hjm, rfl, hci, ?_⟩
      rw [leavesF_get]
      unfold getR
      rw [if_pos hci, hlm]
      rfl
    · left
      exact ⟨hci, by unfold getR; rw [if_neg hci]⟩)
  -- where they differ
  have HDO : Hid ((checkT s other l 0 ≠ 0 ∧ differR s root other l = ([], checkT s other l 0)) ∨ (checkT s other l 0 = 0 ∧ differR s root other l = (diffF m s root other 0, 0))) := Lib.hid (by
    by_cases hco : checkT s other l 0 = 0
    · right
      refine ⟨hco, ?_⟩
      unfold differR
      rw [if_neg (by simp [hct]), if_neg (by simp [hco]), hlm]
      rfl
    · left
      refine ⟨hco, ?_⟩
      unfold differR
      rw [if_neg (by simp [hct]), if_pos hco])
  have HRO := Lib.hid (fun (h : checkT s other l 0 = 0) => by
    obtain ⟨-, m2, e2, -, h2, -, -⟩ := checkT_ok h
    obtain rfl : m = m2 := by omega
    exact (h2 : RootAt s m other))
  have HLO : Hid (∀ (u : World) (h : Below w.heap.size w u), Calls Try.prog 58 #[.agg #[.slice ao n cap], .int .i64 root, .int .i64 l] u fun e w' => ∃ ro rc, e = .returned (.slice ro (p4n m) rc) ∧ Rows2 w' ro (leavesF m s root) ∧ Below u.heap.size u w') := Lib.hid fun u h => by
    rw [hlm]; exact leaves_row m hm u ao n cap s root HN.out h400 (hs.mono h) hf hra
  have HLO2 : Hid (checkT s other l 0 = 0 → ∀ (u : World) (h : Below w.heap.size w u), Calls Try.prog 58 #[.agg #[.slice ao n cap], .int .i64 other, .int .i64 l] u fun e w' => ∃ ro rc, e = .returned (.slice ro (p4n m) rc) ∧ Rows2 w' ro (leavesF m s other) ∧ Below u.heap.size u w') := Lib.hid fun h0 u h => by
    rw [hlm]; exact leaves_row m hm u ao n cap s other HN.out h400 (hs.mono h) hf (HRO.out h0)
  have hb0 : Below w.heap.size w (w.alloc (.cells #[.slice ao n cap] 40)) := (Below.refl _ _).alloc (Nat.le_refl _) _
  have p0 : (w.alloc (.cells #[.slice ao n cap] 40)).heap[w.heap.size]? = some (.cells #[.slice ao n cap] 40 (0, 0)) := heap_alloc_new _ _
  have HCR := Lib.hid (fun (u : World) (h : Below w.heap.size w u) (k : Int) => checkRoot_any u ao n cap s root l k HN.out (by omega) (hs.mono h) hwf)
  have HCO := Lib.hid (fun (u : World) (h : Below w.heap.size w u) => checkRoot_any u ao n cap s other l 0 HN.out (by omega) (hs.mono h) hwf)
  have HGT := Lib.hid (fun (u : World) (h : Below w.heap.size w u) => treeGet_any u ao n cap s root l i HN.out (by omega) (hs.mono h) hwf)
  have HAL := Lib.hid (fun (u : World) (h : Below w.heap.size w u) => all_any u ao n cap s root l HN.out (by omega) (hs.mono h) hwf)
  have HDF := Lib.hid (fun (u : World) (h : Below w.heap.size w u) => differ_any u ao n cap s root other l HN.out (by omega) (hs.mono h) hwf)
  have HCT := Lib.hid hct
  have hl0 : ¬ l < 0 := by omega
  have hl3 : ¬ 3 < l := by omega
  have HDL := Lib.hid (diffF_len m hm s root other 0)
  clear hn hct hlm hce hf hra hwf
  generalize leavesF m s root = LL at *
  generalize leavesF m s other = KK at *
  generalize diffF m s root other 0 = DD at *
  generalize p4n m = q at *
  generalize hciq : checkT s root l i = ci at *
  replace hciq := Lib.hid hciq
  generalize getR s root l i = GG at *
  generalize checkT s other l 0 = co at *
  go_enter Try.func13, Try.ntmps13
  go_wp2_with fail
  generalize w.alloc (Obj.cells #[Value.slice ao n cap] 40) = W0 at *
  refine (leaves_any W0 l).mono ?_
  rintro e w1 ⟨rfl, rfl⟩
  have c0 := cell_of_one p0
  have l0 := lt_heap p0
  generalize hlv : lvN l = lv at *
  obtain ⟨ln, le⟩ := lv
  replace hlv := Lib.hid hlv
  go_wp2_with fail
  refine (HGT.out w1 hb0).mono ?_
  rintro e w2 ⟨v2, rfl, hown2, hb2⟩
  obtain ⟨a2, c2, rfl, -, -, -, -⟩ := hown2.shape'
  obtain ⟨gn, hgn⟩ : ∃ gn, GG.length = gn := ⟨_, rfl⟩
  rw [hgn] at hown2 ⊢
  have HGN := Lib.hid hgn
  replace p0 := (hb2.block _ (lt_heap p0)).trans p0
  have hbw2 := below_step hb0 hb2
  clear c0 l0 hgn
  have c0 := cell_of_one p0
  have l0 := lt_heap p0
  go_wp2_with fail
  have hA := HAL.out w2 hbw2
  rw [HA.out] at hA
  refine hA.mono ?_
  rintro e w3 ⟨v3, vs3, rfl, ho3, hw3, hb3⟩
  have hl3' : vs3.length = q := hw3.len.trans HLL.out
  rw [hl3'] at ho3
  obtain ⟨a3, c3, rfl, hr3⟩ := rows2_of ho3 hl3' hw3
  simp only at hr3
  replace p0 := (hb3.block _ (lt_heap p0)).trans p0
  replace hown2 := hown2.mono hb3
  have hbw3 := below_step hbw2 hb3
  clear c0 l0 hA ho3 hw3 hl3'
  have c0 := cell_of_one p0
  have l0 := lt_heap p0
  go_wp2_with fail
  refine (HDF.out w3 hbw3).mono ?_
  rintro e w4 ⟨v4, rfl, hown4, hb4⟩
  generalize differR s root other l = dr at *
  obtain ⟨dl, de⟩ := dr
  simp only at hown4 ⊢
  obtain ⟨a4, c4, rfl, -, -, -, -⟩ := hown4.shape'
  obtain ⟨dn, hdn⟩ : ∃ dn, dl.length = dn := ⟨_, rfl⟩
  rw [hdn] at hown4 ⊢
  have HDN := Lib.hid hdn
  replace p0 := (hb4.block _ (lt_heap p0)).trans p0
  replace hown2 := hown2.mono hb4
  replace hr3 := hr3.mono hb4
  have hbw4 := below_step hbw3 hb4
  clear c0 l0 hdn
  go_wp2_with fail
  refine (rooted_any _).mono ?_
  rintro e w5 ⟨rfl, hb5⟩
  replace p0 := (hb5.block _ (lt_heap p0)).trans p0
  replace hown2 := hown2.mono hb5
  replace hown4 := hown4.mono hb5
  replace hr3 := hr3.mono hb5
  have hbw5 := below_step hbw4 hb5
  have c0 := cell_of_one p0
  have l0 := lt_heap p0
  have hlc := lv_cases hlv.out
  have hrow2 := hown2.rowIn
  clear hlv hown2
  rcases hlc with ⟨h, _, _⟩ | ⟨h', h, _, _⟩ | ⟨rfl, rfl, rfl⟩ | ⟨rfl, rfl, rfl⟩ | ⟨rfl, rfl, rfl⟩ | ⟨rfl, rfl, rfl⟩
  · exact absurd h (by omega)
  · exact absurd h (by omega)
  all_goals
    clear hl0 hl3
    go_wp2_with fail
    refine (HCR.out w5 hbw5 i).mono ?_
    rw [hciq.out]
    rintro e w6 ⟨rfl, hb6⟩
    have p06 := (hb6.block _ (lt_heap p0)).trans p0
    have hbw6 := below_step hbw5 hb6
    have c06 := cell_of_one p06
    have l06 := lt_heap p06
    have hrow26 := hrow2.mono hb6
    have hr36 := hr3.mono hb6
    have hown46 := hown4.mono hb6
    have HRW := Lib.hid hrow26
    have HR3 := Lib.hid hr36
    have HO4 := Lib.hid hown46
    clear hrow26 hr36 hown46 hrow2 hown4 hr3
    go_upto_if 83 with fail
    go_cut [19] (fun _ wx => Below w6.heap.size w6 wx)
    case first =>
      rcases HGI.out with ⟨hci, hgg⟩ | ⟨j, hj, hij, hci, hgg⟩
      · have h1 : (ci != 0) = true := by rw [bne_iff_ne]; exact hci
        obtain rfl : gn = 0 := by rw [← HGN.out, hgg]; rfl
        clear hci hgg
        go_wp2_with fail
        go_meet
        exact Below.refl _ _
      · have h1 : (ci != 0) = false := by rw [hci]; rfl
        subst hij
        have hjq : (j : Int) < q := by have := HLL.out; omega
        have HGG := Lib.hid hgg
        have hby := HBY.out _ (List.getElem_mem hj)
        clear hci hgg
        go_wp2_with fail
        refine (HLO.out w6 hbw6).mono ?_
        rintro e w7 ⟨ro, rc, rfl, hR7, hb7⟩
        obtain ⟨b7, o7, rfl, ba7, bc7, x7, hr7⟩ := hR7.at j hj
        have l7 := World.block_lt_of_cell? _ _ x7
        have hrg := HRW.out.mono hb7
        rw [← HGG.out] at x7 hr7 hby
        rw [HGN.out] at x7
        clear hR7
        go_wp2_with fail
        refine (bytes_equal_n a2 ba7 gn gn c2 bc7 GG GG w7 HGN.out HGN.out hrg hr7 hby hby).mono ?_
        rw [beq_self_eq_true]
        rintro e w8 ⟨rfl, rfl⟩
        go_wp2_with fail
        go_meet
        exact hb7
    case rest =>
      have hbc := hcut
      clear hcut c06 l06
      have pc := (hbc.block _ (lt_heap p06)).trans p06
      have hbwc := below_step hbw6 hbc
      have cc := cell_of_one pc
      have lc := lt_heap pc
      go_wp2_with fail
      refine (HCR.out wc hbwc 0).mono ?_
      rw [HCT.out]
      rintro e w8 ⟨rfl, hb8⟩
      have p8 := (hb8.block _ (lt_heap pc)).trans pc
      have hbw8 := below_step hbwc hb8
      clear cc lc
      have c8 := cell_of_one p8
      have l8 := lt_heap p8
      go_wp2_with fail
      refine (HLO.out w8 hbw8).mono ?_
      rintro e w9 ⟨ro, rc, rfl, hR9, hb9⟩
      have p9 := (hb9.block _ (lt_heap p8)).trans p8
      have hbw9 := below_step hbw8 hb9
      have hr39 := ((HR3.out.mono hbc).mono hb8).mono hb9
      have HO9 := Lib.hid (((HO4.out.mono hbc).mono hb8).mono hb9)
      clear c8 l8
      have c9 := cell_of_one p9
      have l9 := lt_heap p9
      go_wp2_with fail
      refine (equalRows w9 a3 ro q c3 q rc LL LL HLL.out HLL.out (by omega) (by omega) hr39 hR9 HBY.out HBY.out).mono ?_
      rw [decide_eq_true (rfl : LL = LL)]
      rintro e w10 ⟨rfl, rfl⟩
      have HR9 := Lib.hid hR9
      clear hr39 hR9
      go_wp2_with fail
      refine (HCO.out w10 hbw9).mono ?_
      rintro e w11 ⟨rfl, hb11⟩
      have p11 := (hb11.block _ (lt_heap p9)).trans p9
      have hbw11 := below_step hbw9 hb11
      clear c9 l9
      rcases HDO.out with ⟨hco, hdr⟩ | ⟨hco, hdr⟩
      · obtain ⟨rfl, rfl⟩ := Prod.mk.inj hdr
        obtain rfl : dn = 0 := by rw [← HDN.out]; rfl
        have h1 : (de != 0) = true := by rw [bne_iff_ne]; exact hco
        clear hco hdr
        go_wp2
        go_ret
        exact ⟨rfl, hbw11⟩
      · obtain ⟨rfl, rfl⟩ := Prod.mk.inj hdr
        have h1 : (co != 0) = false := by rw [hco]; rfl
        have HLO3 := Lib.hid (HLO2.out hco)
        have c11 := cell_of_one p11
        have l11 := lt_heap p11
        have HR11 := Lib.hid (HR9.out.mono hb11)
        have HO11 := Lib.hid (HO9.out.mono hb11)
        clear hco hdr
        go_wp2_with fail
        refine (HLO3.out w11 hbw11).mono ?_
        rintro e w12 ⟨yo, yc, rfl, hRy, hb12⟩
        have hbw12 := below_step hbw11 hb12
        have HRX := Lib.hid (HR11.out.mono hb12)
        have HRY := Lib.hid hRy
        have HO12 := Lib.hid (HO11.out.mono hb12)
        clear hRy c11 l11
        generalize w12 = W12 at *
        go_wp2
        go_loopw [23, 159] (fun v x wr => ∃ k : Nat, k ≤ q ∧ x = .int .i64 k ∧ Own .i64 3 W12.heap.size wr v (wantTo LL KK k) ∧ Below W12.heap.size W12 wr) (fun _ x _ => q - (intOf x).toNat)
        case atStart => exact ⟨0, Nat.zero_le _, rfl, Own.nil _ _ _ _, Below.refl _ _⟩
        case round =>
          obtain ⟨k, hk, rfl, hown, hbel⟩ := hrel
          by_cases hlt : k < q
          · have hkL : k < LL.length := by have := HLL.out; omega
            have hkK : k < KK.length := by have := HKL.out; omega
            obtain ⟨bx, ox, rfl, bax, bcx, xx, hrx⟩ := (HRX.out.mono hbel).at k hkL
            obtain ⟨by', oy, rfl, bay, bcy, xy, hry⟩ := (HRY.out.mono hbel).at k hkK
            have lx := World.block_lt_of_cell? _ _ xx
            have ly := World.block_lt_of_cell? _ _ xy
            have hbx := HBY.out _ (List.getElem_mem hkL)
            have hby := HBY2.out _ (List.getElem_mem hkK)
            have hws := wantTo_succ LL KK k
            rw [List.getElem?_eq_getElem hkL, List.getElem?_eq_getElem hkK, Option.getD_some, Option.getD_some] at hws
            have HWS := Lib.hid hws
            have hwl := wantTo_len LL KK k
            have hkq : (k : Int) < q := by omega
            have hszr := hbel.size
            clear hws
            generalize LL[k] = xs at *
            generalize KK[k] = ys at *
            obtain ⟨xn, hxn⟩ : ∃ xn, xs.length = xn := ⟨_, rfl⟩
            obtain ⟨yn, hyn⟩ : ∃ yn, ys.length = yn := ⟨_, rfl⟩
            rw [hxn] at xx
            rw [hyn] at xy
            have HXN := Lib.hid hxn
            have HYN := Lib.hid hyn
            clear hxn hyn
            go_wp2_with fail
            have hE := bytes_equal_n bax bay xn yn bcx bcy xs ys wr HXN.out HYN.out hrx hry hbx hby
            obtain ⟨cb, hcb⟩ : ∃ cb, (xs == ys) = cb := ⟨_, rfl⟩
            rw [hcb] at hE
            have HCB := Lib.hid hcb
            clear hcb
            refine hE.mono ?_
            rintro e w13 ⟨rfl, rfl⟩
            cases cb with
            | true =>
              have he : xs = ys := by have := HCB.out; rwa [beq_iff_eq] at this
              have HW2 : Hid (wantTo LL KK (k + 1) = wantTo LL KK k) := Lib.hid (by rw [HWS.out, if_neg (fun h => h he), List.append_nil])
              clear he
              go_wp2
              go_roundw
              case rel => exact ⟨k + 1, by omega, by go_num, by rw [HW2.out]; exact hown, hbel⟩
              case measure => simp [intOf]; omega
            | false =>
              have he : ¬ xs = ys := by have := HCB.out; rwa [beq_eq_false_iff_ne] at this
              have HW2 : Hid (wantTo LL KK (k + 1) = wantTo LL KK k ++ [(k : Int)]) := Lib.hid (by rw [HWS.out, if_pos he])
              clear he
              go_wp2_with (first
                | (at_builtin; refine append_int rfl (.tmp 171) (.tmp 173) _ rfl .i64 3 8 W12.heap.size Try.underlying24 info_int _ _ _ rfl hown _ rfl (by simp) ?_ ?_ hszr ?_; rotate_right; intro v' w14 hown14 hbel14))
              · go_roundw
                case rel => exact ⟨k + 1, by omega, by go_num, by rw [HW2.out]; exact hown14, hbel.trans hbel14⟩
                case measure => simp [intOf]; omega
              · unfold maxLen; omega
              · omega
          · obtain rfl : k = q := by omega
            rw [HW.out] at hown
            obtain ⟨aw, cw, rfl, -, -, hroww, -⟩ := hown.shape'
            rw [HDN.out]
            have hrowd := (HO12.out.mono hbel).rowIn
            have hbz := below_step hbw12 hbel
            have hdn : dn ≤ 64 := by have := HDN.out; have := HDL.out; omega
            clear hown
            go_wp2_with fail
            refine (slices_equal_int a4 aw dn dn c4 cw dl dl _ HDN.out HDN.out hrowd hroww (by omega)).mono ?_
            rw [beq_self_eq_true]
            rintro e w15 ⟨rfl, hb15⟩
            have hbz2 := below_step hbz hb15
            go_wp2
            go_ret
            exact ⟨rfl, hbz2⟩
end Go.Proofs.Ytpfopbkaddjjcaa
