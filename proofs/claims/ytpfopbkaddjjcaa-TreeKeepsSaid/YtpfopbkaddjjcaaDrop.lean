/- store.Drop: a block is held once less. -/
import Derived.Test.YtpfopbkaddjjcaaLoose
namespace Go.Proofs.Ytpfopbkaddjjcaa
open Go.RowKit
set_option linter.unusedVariables false

def dropR (s : List Blk) (a : Int) : List Blk × Int :=
  if checkE s ≠ 0 then ([], checkE s) else if thereB s a = false then ([], 5) else if (outL s)[(a - 1).toNat]?.getD 0 = 0 then ([], 7) else (looseF 4 s a, 0)

theorem lv_of (s : List Blk) (h : formsE s s = 0) : Lv s ∧ ∀ x ∈ s, x.level ≤ 3 := by
  constructor
  · intro x hx
    have hki := kidsIn_of s h x hx
    rcases formB_zero s x (formsE_all s s h x hx) with ⟨_, h1, hk, _⟩ | ⟨_, _, h1, hk, _⟩ | ⟨_, _, h1, _, hk, _, ha, _⟩
    · rw [hk]; exact ⟨by omega, by simp, fun k h => by cases h⟩
    · rw [hk]; exact ⟨by omega, by simp, fun k h => by cases h⟩
    · refine ⟨by omega, by omega, fun k hkm => ?_⟩
      have := List.all_eq_true.1 ha k hkm
      unfold kidOk at this
      simp only [Bool.or_eq_true, decide_eq_true_eq, Bool.and_eq_true] at this
      rcases this with h0 | ⟨h1, h2⟩
      · exact .inl h0
      · obtain ⟨j, hj, rfl, _⟩ := there_in h1
        exact .inr ⟨by omega, by omega, by omega⟩
  · intro x hx
    rcases formB_zero s x (formsE_all s s h x hx) with ⟨_, h1, hk, _⟩ | ⟨_, _, h1, hk, _⟩ | ⟨_, _, h1, _, hk, _, ha, _⟩ <;> omega

theorem refsL_of (s : List Blk) (h : checkE s = 0) : RefsL s 0 := fun x hx => by
  have := (checkE_zero s h).2.2.2.1 x hx
  exact ⟨this.1, by omega⟩

set_option maxRecDepth 100000 in
set_option maxHeartbeats 2000000 in
theorem drop_any (w : World) (ao : Option Addr) (n cap : Nat) (s : List Blk) (a : Int) (hn : s.length = n) (hn63 : n ≤ 1152921504606846976) (hs : StoRow w ao s) (hwf : WfS s) (hc : Capd ao n cap) :
    Calls Try.prog 32 #[.agg #[.slice ao n cap], .int .i64 a] w fun e w' => ∃ v, e = .returned (.tuple #[.agg #[v], .int .i64 (dropR s a).2]) ∧ OwnSto w' w.heap.size v (dropR s a).1 ∧ Below w.heap.size w w' := by
  have HN := Lib.hid hn
  have HC := Lib.hid hc
  have hb0 : Below w.heap.size w ((w.alloc (.cells #[.slice ao n cap] 40)).alloc (.cells #[.slice none 0 0] 40)) := ((Below.refl _ _).alloc (Nat.le_refl _) _).alloc (by simp) _
  have h1 : ((w.alloc (.cells #[.slice ao n cap] 40)).alloc (.cells #[.slice none 0 0] 40)).heap[w.heap.size]? = some (.cells #[.slice ao n cap] 40 (0, 0)) := heap_alloc2_old _ _ _
  have h2 : ((w.alloc (.cells #[.slice ao n cap] 40)).alloc (.cells #[.slice none 0 0] 40)).heap[w.heap.size + 1]? = some (.cells #[.slice none 0 0] 40 (0, 0)) := heap_alloc2_new _ _ _
  have hz : ((w.alloc (.cells #[.slice ao n cap] 40)).alloc (.cells #[.slice none 0 0] 40)).heap.size = w.heap.size + 2 := by simp
  have HZ := Lib.hid hz
  clear hn hc hz
  go_enter Try.func32, Try.ntmps32
  go_wp2_with fail
  generalize (w.alloc (Obj.cells #[Value.slice ao n cap] 40)).alloc (Obj.cells #[Value.slice none 0 0] 40) = W0 at *
  have hs := hs.mono hb0
  by_cases hce : checkE s = 0
  · obtain ⟨h4, hfo, _, hri, hnn⟩ := checkE_zero s hce
    refine (outside_ok _ _ _ _ s HN.out hs hwf hce).mono ?_
    rintro e w1 ⟨oo, rfl, hown, hb1⟩
    have p1 : w1.heap[w.heap.size]? = some (.cells #[.slice ao n cap] 40 (0, 0)) := (hb1.block _ (lt_heap h1)).trans h1
    have p2 : w1.heap[w.heap.size + 1]? = some (.cells #[.slice none 0 0] 40 (0, 0)) := (hb1.block _ (lt_heap h2)).trans h2
    have hs := hs.mono hb1
    have hbw := below_step hb0 hb1
    have c1 := cell_of_one p1
    have l1 := lt_heap p1
    have HCE := Lib.hid hce
    have h400 : n ≤ 400 := by have := HN.out; omega
    have hlv := lv_of s hfo
    clear h4 hce hb1 h1 h2
    go_wp2_with fail
    cases ht : thereB s a with
    | false =>
      have HR := Lib.hid (show dropR s a = ([], 5) by unfold dropR; rw [if_neg (by simp [HCE.out]), ht, if_pos rfl])
      refine (there_any_is _ _ _ _ s _ _ ht HN.out hn63 hs).mono ?_
      rintro e w2 ⟨rfl, hb2⟩
      have p2 := (hb2.block _ (lt_heap p2)).trans p2
      have c6 := cell_of_one p2
      have f6 := free_of_one p2
      have hbw := below_step hbw hb2
      clear hs hri ht
      go_wp2
      refine bodyPost_ret (v := .tuple #[.agg #[.slice none 0 0], .int .i64 5]) (by simp [results, Try.results32, go_sem, c6]) rfl ⟨_, by rw [HR.out], ?_, ?_⟩
      · rw [HR.out]; exact OwnSto.none _ _
      · exact hbw.setCell (by simp) _
    | true =>
      obtain ⟨k, hk, rfl, _⟩ := there_in ht
      have hko : k < (outL s).length := by rw [outL_length]; exact hk
      have hget : (outL s)[((k : Int) + 1 - 1).toNat]?.getD 0 = (outL s)[k] := by
        rw [show ((k : Int) + 1 - 1).toNat = k from by omega, List.getElem?_eq_getElem hko]; rfl
      refine (there_any_is _ _ _ _ s _ _ ht HN.out hn63 hs).mono ?_
      rintro e w2 ⟨rfl, hb2⟩
      have p1 := (hb2.block _ (lt_heap p1)).trans p1
      have p2 := (hb2.block _ (lt_heap p2)).trans p2
      have hs := hs.mono hb2
      have hbw := below_step hbw hb2
      have hown := hown.mono hb2
      have hkn : k < n := by have := HN.out; omega
      have hkn' : (k : Int) < n := by omega
      have hck : ∃ b o, oo = some ⟨b, o, none⟩ ∧ w2.cell? ⟨b, o + k, none⟩ = some (.int .i64 (outL s)[k]) := by
        rcases hown.block with ⟨_, hx⟩ | ⟨b, cap', cur, hv, _⟩
        · rw [hx] at hko; simp at hko
        · simp only [Value.slice.injEq] at hv
          have hv1 := hv.1
          subst hv1
          have := hown
          rw [hv.2.1] at this
          exact ⟨b, 0, rfl, by rw [Nat.zero_add]; exact this.cell k hko⟩
      obtain ⟨ob, oj, rfl, hck⟩ := hck
      have lob := World.block_lt_of_cell? _ _ hck
      have hnnk := hnn _ (List.getElem_mem hko)
      have c1 := cell_of_one p1
      have l12 := lt_heap p1
      have l22 := lt_heap p2
      have c6 := cell_of_one p2
      have f6 := free_of_one p2
      by_cases hz0 : (outL s)[k] = 0
      · have HR := Lib.hid (show dropR s ((k : Int) + 1) = ([], 7) by unfold dropR; rw [if_neg (by simp [HCE.out]), ht, if_neg (by simp), if_pos (hget.trans hz0)])
        rw [hz0] at hck
        clear hb2 ht hown hs hri hlv hnn hnnk hget
        go_wp2
        refine bodyPost_ret (v := .tuple #[.agg #[.slice none 0 0], .int .i64 7]) (by simp [results, Try.results32, go_sem, c6]) rfl ⟨_, by rw [HR.out], ?_, ?_⟩
        · rw [HR.out]; exact OwnSto.none _ _
        · exact hbw.setCell (by simp) _
      · have HR := Lib.hid (show dropR s ((k : Int) + 1) = (looseF 4 s ((k : Int) + 1), 0) by unfold dropR; rw [if_neg (by simp [HCE.out]), ht, if_neg (by simp), if_neg (by rw [hget]; exact hz0)])
        have hz1 : ((outL s)[k] == 0) = false := by rw [beq_eq_false_iff_ne]; exact hz0
        clear hb2 ht hown hnn hnnk hget
        generalize (outL s)[k] = ok at *
        go_wp2_with fail
        refine (copy_any _ _ _ _ s HN.out hs hwf HC.out (by omega)).mono ?_
        rintro e w3 ⟨v, rfl, ho, hb3⟩
        have p1 := (hb3.block _ (lt_heap p1)).trans p1
        have p2 := (hb3.block _ (lt_heap p2)).trans p2
        have hbw := below_step hbw hb3
        have c1 := cell_of_one p1
        have f1 := free_of_one p1
        obtain ⟨g, cap', hv, hR⟩ := ho.at k hk
        rw [HN.out] at hv
        subst hv
        have hcap : n ≤ cap' := by
          obtain ⟨ao', cap2, e1, e2, _⟩ := ho
          rw [HN.out] at e1 e2
          simp only [Value.slice.injEq] at e1
          rw [e1.2.2]; exact e2.1
        have hle := hR.le
        have hpg : w.heap.size ≠ g := by omega
        have hR2 := hR.box p1 hpg (.slice (some ⟨g, 0, none⟩) n cap')
        have q1 := one_setCell (u := .slice (some ⟨g, 0, none⟩) n cap') p1
        have q2 : (w3.setCell ⟨w.heap.size, 0, none⟩ (.slice (some ⟨g, 0, none⟩) n cap')).heap[w.heap.size + 1]? = some (.cells #[.slice none 0 0] 40 (0, 0)) := heap_setCell_ne p2 (by simp)
        have hbw2 := hbw.setCell (p := ⟨w.heap.size, 0, none⟩) (Nat.le_refl _) (.slice (some ⟨g, 0, none⟩) n cap')
        have HL := Lib.hid (loose_any 4 _ w.heap.size _ g n cap' s ((k : Int) + 1) 0 (Nat.le_refl _) HN.out h400 q1 hR2 hpg hlv.1 (fun x hx => ⟨(hri x hx).1, by have := (hri x hx).2; omega⟩) (Int.le_refl _) (by decide) (.inr ⟨by omega, by omega, by rw [blk_at s k hk]; have := hlv.2 _ (List.getElem_mem hk); omega⟩))
        clear ho hs hri hlv hck
        go_wp2_with fail
        refine HL.out.mono ?_
        rintro e w4 ⟨rfl, hR4, hg4⟩
        have hb4 := grown_below (B := w.heap.size + 2) hg4 (by omega) (by have := lt_heap q2; omega)
        have q1 := (hb4.block _ (by omega)).trans q1
        have q2 := (hb4.block _ (by omega)).trans q2
        have hbw4 := hbw2.trans (hb4.mono (by omega))
        have d1 := cell_of_one q1
        have c6 := cell_of_one q2
        have f6 := free_of_one q2
        have m1 := lt_heap q1
        have m2 := lt_heap q2
        go_wp2
        refine bodyPost_ret (v := .tuple #[.agg #[.slice (some ⟨g, 0, none⟩) n cap'], .int .i64 0]) (by simp [results, Try.results32, go_sem, c6]) rfl ⟨_, by rw [HR.out], ?_, ?_⟩
        · rw [HR.out]
          have hll := (loosed 4 s ((k : Int) + 1) 0 (lv_of s (checkE_zero s HCE.out).2.1).1 (refsL_of s HCE.out) (Int.le_refl _)).len
          have hO := (hR4.own (n := n) (by rw [hll]; exact HN.out) hcap).box q2 (by omega) (.slice (some ⟨g, 0, none⟩) n cap')
          exact hO.weaken (by omega)
        · exact hbw4.setCell (by simp) _
  · refine (outside_bad _ _ _ _ s HN.out hn63 hs hwf hce).mono ?_
    rintro e w1 ⟨rfl, hb1⟩
    have p2 : w1.heap[w.heap.size + 1]? = some (.cells #[.slice none 0 0] 40 (0, 0)) := (hb1.block _ (lt_heap h2)).trans h2
    have hbw := below_step hb0 hb1
    have HR := Lib.hid (show dropR s a = ([], checkE s) by unfold dropR; rw [if_pos hce])
    have he1 : (checkE s != 0) = true := by rw [bne_iff_ne]; exact hce
    have he0 : (checkE s == 0) = false := by rw [beq_eq_false_iff_ne]; exact hce
    have c6 := cell_of_one p2
    have f6 := free_of_one p2
    clear hs hce hb1 h1 h2
    go_wp2
    refine bodyPost_ret (v := .tuple #[.agg #[.slice none 0 0], .int .i64 (checkE s)]) (by simp [results, Try.results32, go_sem, c6]) rfl ⟨_, by rw [HR.out], ?_, ?_⟩
    · rw [HR.out]; exact OwnSto.none _ _
    · exact hbw.setCell (by simp) _
end Go.Proofs.Ytpfopbkaddjjcaa
