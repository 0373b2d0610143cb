/- store.Keep: a block is held once more. -/
import Derived.Test.YtpfopbkaddjjcaaCopy2
import Derived.Test.YtpfopbkaddjjcaaOutside
namespace Go.Proofs.Ytpfopbkaddjjcaa
open Go.RowKit
set_option linter.unusedVariables false

/-- the block at an address held so many times more -/
def addRef (s : List Blk) (a d : Int) : List Blk := s.set (a - 1).toNat { blk s a with refs := (blk s a).refs + d }
theorem addRef_at (s : List Blk) (k : Nat) (h : k < s.length) (d : Int) : addRef s ((k : Int) + 1) d = s.set k { s[k] with refs := s[k].refs + d } := by
  unfold addRef
  rw [blk_at s k h, show ((k : Int) + 1 - 1).toNat = k from by omega]
theorem addRef_length (s : List Blk) (a d : Int) : (addRef s a d).length = s.length := by simp [addRef]

def keepR (s : List Blk) (a : Int) : List Blk × Int :=
  if checkE s ≠ 0 then ([], checkE s) else if thereB s a = false then ([], 5) else (addRef s a 1, 0)

theorem OwnSto.none (w : World) (base : Nat) : OwnSto w base (.slice Option.none 0 0) [] := ⟨Option.none, 0, rfl, ⟨Nat.le_refl _, fun _ => rfl⟩, .inl rfl⟩

theorem OwnSto.weaken {w : World} {base base' : Nat} {v : Value} {s : List Blk} (h : OwnSto w base v s) (hb : base' ≤ base) : OwnSto w base' v s := by
  obtain ⟨ao', cap', e1, e2, e3⟩ := h
  refine ⟨ao', cap', e1, e2, ?_⟩
  rcases e3 with e3 | ⟨g, e4, e5⟩
  · exact .inl e3
  · exact .inr ⟨g, e4, ⟨by have := e5.le; omega, e5.heap, e5.blks⟩⟩

set_option maxRecDepth 100000 in
set_option maxHeartbeats 1000000 in
theorem keep_any (w : World) (ao : Option Addr) (n cap : Nat) (s : List Blk) (a : Int) (hn : s.length = n) (hn63 : n ≤ 1152921504606846976) (hs : StoRow w ao s) (hwf : WfS s) (hc : Capd ao n cap) :
    Calls Try.prog 35 #[.agg #[.slice ao n cap], .int .i64 a] w fun e w' => ∃ v, e = .returned (.tuple #[.agg #[v], .int .i64 (keepR s a).2]) ∧ OwnSto w' w.heap.size v (keepR s a).1 ∧ Below w.heap.size w w' := by
  have HN := Lib.hid hn
  have HC := Lib.hid hc
  have hb0 : Below w.heap.size w ((w.alloc (.cells #[.slice ao n cap] 40)).alloc (.cells #[.slice none 0 0] 40)) := ((Below.refl _ _).alloc (Nat.le_refl _) _).alloc (by simp) _
  have h1 : ((w.alloc (.cells #[.slice ao n cap] 40)).alloc (.cells #[.slice none 0 0] 40)).heap[w.heap.size]? = some (.cells #[.slice ao n cap] 40 (0, 0)) := heap_alloc2_old _ _ _
  have h2 : ((w.alloc (.cells #[.slice ao n cap] 40)).alloc (.cells #[.slice none 0 0] 40)).heap[w.heap.size + 1]? = some (.cells #[.slice none 0 0] 40 (0, 0)) := heap_alloc2_new _ _ _
  have hz : ((w.alloc (.cells #[.slice ao n cap] 40)).alloc (.cells #[.slice none 0 0] 40)).heap.size = w.heap.size + 2 := by simp
  have HZ := Lib.hid hz
  clear hn hc hz
  go_enter Try.func35, Try.ntmps35
  go_wp2_with fail
  generalize (w.alloc (Obj.cells #[Value.slice ao n cap] 40)).alloc (Obj.cells #[Value.slice none 0 0] 40) = W0 at *
  have hs := hs.mono hb0
  refine (check_any _ _ _ _ s HN.out hn63 hs hwf).mono ?_
  rintro e w1 ⟨rfl, hb1⟩
  have p1 : w1.heap[w.heap.size]? = some (.cells #[.slice ao n cap] 40 (0, 0)) := (hb1.block _ (lt_heap h1)).trans h1
  have p2 : w1.heap[w.heap.size + 1]? = some (.cells #[.slice none 0 0] 40 (0, 0)) := (hb1.block _ (lt_heap h2)).trans h2
  have hs := hs.mono hb1
  have hbw := below_step hb0 hb1
  by_cases hce : checkE s = 0
  · have h4 := (checkE_zero s hce).1
    have hri := (checkE_zero s hce).2.2.2.1
    have c1 := cell_of_one p1
    have l1 := lt_heap p1
    have HCE := Lib.hid hce
    have h400 : n ≤ 400 := by have := HN.out; omega
    have he0 : (checkE s == 0) = true := by rw [hce]; rfl
    clear h4 hce hb1 h1 h2
    go_wp2_with fail
    cases ht : thereB s a with
    | false =>
      have HR := Lib.hid (show keepR s a = ([], 5) by unfold keepR; rw [if_neg (by simp [HCE.out]), ht, if_pos rfl])
      refine (there_any_is _ _ _ _ s _ _ ht HN.out hn63 hs).mono ?_
      rintro e w2 ⟨rfl, hb2⟩
      have p2 := (hb2.block _ (lt_heap p2)).trans p2
      have c6 := cell_of_one p2
      have f6 := free_of_one p2
      have hbw := below_step hbw hb2
      clear hs hri ht
      go_wp2
      refine bodyPost_ret (v := .tuple #[.agg #[.slice none 0 0], .int .i64 5]) (by simp [results, Try.results35, go_sem, c6]) rfl ⟨_, by rw [HR.out], ?_, ?_⟩
      · rw [HR.out]; exact OwnSto.none _ _
      · exact hbw.setCell (by simp) _
    | true =>
      obtain ⟨k, hk, rfl, _⟩ := there_in ht
      have HR := Lib.hid (show keepR s ((k : Int) + 1) = (s.set k { s[k] with refs := s[k].refs + 1 }, 0) by unfold keepR; rw [if_neg (by simp [HCE.out]), ht, if_neg (by simp), addRef_at s k hk])
      refine (there_any_is _ _ _ _ s _ _ ht HN.out hn63 hs).mono ?_
      rintro e w2 ⟨rfl, hb2⟩
      have p1 := (hb2.block _ (lt_heap p1)).trans p1
      have p2 := (hb2.block _ (lt_heap p2)).trans p2
      have hs := hs.mono hb2
      have hbw := below_step hbw hb2
      have c1 := cell_of_one p1
      have l12 := lt_heap p1
      have l22 := lt_heap p2
      clear hb2 ht
      go_wp2_with fail
      refine (copy_any _ _ _ _ s HN.out hs hwf HC.out (by omega)).mono ?_
      rintro e w3 ⟨v, rfl, ho, hb3⟩
      have p1 := (hb3.block _ (lt_heap p1)).trans p1
      have p2 := (hb3.block _ (lt_heap p2)).trans p2
      have hbw := below_step hbw hb3
      have c1 := cell_of_one p1
      have f1 := free_of_one p1
      obtain ⟨g, cap', hv, hR⟩ := ho.at k hk
      rw [HN.out] at hv
      subst hv
      have hcap : n ≤ cap' := by
        obtain ⟨ao', cap2, e1, e2, _⟩ := ho
        rw [HN.out] at e1 e2
        simp only [Value.slice.injEq] at e1
        rw [e1.2.2]; exact e2.1
      have hle := hR.le
      have hpg : w.heap.size ≠ g := by omega
      have hR2 := hR.box p1 hpg (.slice (some ⟨g, 0, none⟩) n cap')
      have c5 := (hR2.blks k hk).refs
      have f5 := hR2.free (k * 4)
      have q1 := one_setCell (u := .slice (some ⟨g, 0, none⟩) n cap') p1
      have q2 : (w3.setCell ⟨w.heap.size, 0, none⟩ (.slice (some ⟨g, 0, none⟩) n cap')).heap[w.heap.size + 1]? = some (.cells #[.slice none 0 0] 40 (0, 0)) := heap_setCell_ne p2 (by simp)
      have hbw2 := hbw.setCell (p := ⟨w.heap.size, 0, none⟩) (Nat.le_refl _) (.slice (some ⟨g, 0, none⟩) n cap')
      have d1 := cell_of_one q1
      have lg := hR2.lt
      have hrk := hri _ (List.getElem_mem hk)
      have hr1 := hrk.1
      have hr2 := hrk.2
      have hkn : k < n := by have := HN.out; omega
      have hR3 := hR2.setRefs k hk (s[k].refs + 1)
      have q3 : ((w3.setCell ⟨w.heap.size, 0, none⟩ (.slice (some ⟨g, 0, none⟩) n cap')).setCell ⟨g, k * 4, none⟩ (.int .i64 (s[k].refs + 1))).heap[w.heap.size]? = _ := heap_setCell_ne q1 hpg
      have q4 : ((w3.setCell ⟨w.heap.size, 0, none⟩ (.slice (some ⟨g, 0, none⟩) n cap')).setCell ⟨g, k * 4, none⟩ (.int .i64 (s[k].refs + 1))).heap[w.heap.size + 1]? = _ := heap_setCell_ne q2 (by show w.heap.size + 1 ≠ g; omega)
      have hbw3 := hbw2.setCell (p := ⟨g, k * 4, none⟩) (by show w.heap.size ≤ g; omega) (.int .i64 (s[k].refs + 1))
      have c6 := cell_of_one p2
      have f6 := free_of_one p2
      have d2 := cell_of_one q4
      clear ho hrk hs hri hR2 hbw hbw2
      go_wp2
      refine bodyPost_ret (v := .tuple #[.agg #[.slice (some ⟨g, 0, none⟩) n cap'], .int .i64 0]) (by simp [results, Try.results35, go_sem, c6]) rfl ⟨_, by rw [HR.out], ?_, ?_⟩
      · rw [HR.out]
        have hO := (hR3.own (n := n) (by have := HN.out; simpa using this) hcap).box q4 (by omega) (.slice (some ⟨g, 0, none⟩) n cap')
        exact hO.weaken (by omega)
      · exact hbw3.setCell (by simp) _
  · have HR := Lib.hid (show keepR s a = ([], checkE s) by unfold keepR; rw [if_pos hce])
    have he1 : (checkE s != 0) = true := by rw [bne_iff_ne]; exact hce
    have he0 : (checkE s == 0) = false := by rw [beq_eq_false_iff_ne]; exact hce
    have c1 := cell_of_one p1
    have c6 := cell_of_one p2
    have f6 := free_of_one p2
    clear hs hce hb1 h1 h2
    go_wp2
    refine bodyPost_ret (v := .tuple #[.agg #[.slice none 0 0], .int .i64 (checkE s)]) (by simp [results, Try.results35, go_sem, c6]) rfl ⟨_, by rw [HR.out], ?_, ?_⟩
    · rw [HR.out]; exact OwnSto.none _ _
    · exact hbw.setCell (by simp) _
end Go.Proofs.Ytpfopbkaddjjcaa
