/- store.Make: a block is made. -/
import Derived.Test.YtpfopbkaddjjcaaPut
namespace Go.Proofs.Ytpfopbkaddjjcaa
open Go.RowKit
set_option linter.unusedVariables false

def makeR (s : List Blk) (l : Int) (ks bs : List Int) : List Blk × Int × Int :=
  if checkE s ≠ 0 then ([], 0, checkE s) else if (putR s l ks bs).2.2 ≠ 0 then ([], 0, (putR s l ks bs).2.2) else putR s l ks bs

theorem putR_length (s : List Blk) (l : Int) (ks bs : List Int) : (putR s l ks bs).1.length = s.length := by
  unfold putR
  split
  · rfl
  · split
    · rfl
    · simp [bump_length]

set_option maxRecDepth 100000 in
set_option maxHeartbeats 2000000 in
theorem make_any (w : World) (ao ka ba : Option Addr) (n cap nk kc nb bc : Nat) (s : List Blk) (r0 l : Int) (ks bs : List Int) (hn : s.length = n) (hn63 : n ≤ 1152921504606846976) (hs : StoRow w ao s) (hwf : WfS s) (hc : Capd ao n cap)
    (hk : ks.length = nk) (hb : bs.length = nb) (hkr : Row .i64 w ka ks) (hbr : Row .u8 w ba bs) (hka : Capd ka nk kc) (hba : Capd ba nb bc) (hkw : ∀ k ∈ ks, I64 k) (hnk : nk ≤ 17592186044416) (hnb : nb ≤ 140737488351232) :
    Calls Try.prog 34 #[.agg #[.slice ao n cap], .agg #[.int .i64 r0, .int .i64 l, .slice ka nk kc, .slice ba nb bc]] w fun e w' =>
      ∃ v, e = .returned (.tuple #[.agg #[v], .int .i64 (makeR s l ks bs).2.1, .int .i64 (makeR s l ks bs).2.2]) ∧ OwnSto w' w.heap.size v (makeR s l ks bs).1 ∧ Below w.heap.size w w' := by
  have HN := Lib.hid hn
  have HC := Lib.hid hc
  have HK := Lib.hid hk
  have HB := Lib.hid hb
  have HNK := Lib.hid hnk
  have HNB := Lib.hid hnb
  have HKA := Lib.hid hka
  have HBA := Lib.hid hba
  clear hn hc hk hb hnk hnb hka hba
  have hb0 : Below w.heap.size w (((w.alloc (.cells #[.slice ao n cap] 40)).alloc (.cells #[.int .i64 r0, .int .i64 l, .slice ka nk kc, .slice ba nb bc] 50)).alloc (.cells #[.slice none 0 0] 40)) :=
    (((Below.refl _ _).alloc (Nat.le_refl _) _).alloc (by simp) _).alloc (by simp; omega) _
  have h1 : (((w.alloc (.cells #[.slice ao n cap] 40)).alloc (.cells #[.int .i64 r0, .int .i64 l, .slice ka nk kc, .slice ba nb bc] 50)).alloc (.cells #[.slice none 0 0] 40)).heap[w.heap.size]? = some (.cells #[.slice ao n cap] 40 (0, 0)) := by
    rw [Below.heap_alloc _ _ _ (by simp; omega)]; exact heap_alloc2_old _ _ _
  have h3 : (((w.alloc (.cells #[.slice ao n cap] 40)).alloc (.cells #[.int .i64 r0, .int .i64 l, .slice ka nk kc, .slice ba nb bc] 50)).alloc (.cells #[.slice none 0 0] 40)).heap[w.heap.size + 1]? = some (.cells #[.int .i64 r0, .int .i64 l, .slice ka nk kc, .slice ba nb bc] 50 (0, 0)) := by
    rw [Below.heap_alloc _ _ _ (by simp)]; exact heap_alloc2_new _ _ _
  have h2 : (((w.alloc (.cells #[.slice ao n cap] 40)).alloc (.cells #[.int .i64 r0, .int .i64 l, .slice ka nk kc, .slice ba nb bc] 50)).alloc (.cells #[.slice none 0 0] 40)).heap[w.heap.size + 2]? = some (.cells #[.slice none 0 0] 40 (0, 0)) := by
    have := heap_alloc_new ((w.alloc (.cells #[.slice ao n cap] 40)).alloc (.cells #[.int .i64 r0, .int .i64 l, .slice ka nk kc, .slice ba nb bc] 50)) (.cells #[.slice none 0 0] 40)
    simpa using this
  have HZ := Lib.hid (show (((w.alloc (.cells #[.slice ao n cap] 40)).alloc (.cells #[.int .i64 r0, .int .i64 l, .slice ka nk kc, .slice ba nb bc] 50)).alloc (.cells #[.slice none 0 0] 40)).heap.size = w.heap.size + 3 by simp)
  go_enter Try.func34, Try.ntmps34
  go_wp2_with fail
  generalize ((w.alloc (Obj.cells #[Value.slice ao n cap] 40)).alloc (Obj.cells #[Value.int .i64 r0, Value.int .i64 l, Value.slice ka nk kc, Value.slice ba nb bc] 50)).alloc (Obj.cells #[Value.slice none 0 0] 40) = W0 at *
  have hs := hs.mono hb0
  refine (check_any _ _ _ _ s HN.out hn63 hs hwf).mono ?_
  rintro e w1 ⟨rfl, hb1⟩
  have p1 := (hb1.block _ (lt_heap h1)).trans h1
  have p2 := (hb1.block _ (lt_heap h2)).trans h2
  have p3 := (hb1.block _ (lt_heap h3)).trans h3
  have hs := hs.mono hb1
  have hbw := below_step hb0 hb1
  have c1 := cell_of_one p1
  have c2 := cell_of_one p2
  have f2 := free_of_one p2
  by_cases hce : checkE s = 0
  · have h4 := (checkE_zero s hce).1
    have hri := (checkE_zero s hce).2.2.2.1
    have HCE := Lib.hid hce
    have h400 : n ≤ 400 := by have := HN.out; omega
    have he0 : (checkE s == 0) = true := by rw [hce]; rfl
    clear h4 hce hb1 h1 h2 h3
    go_wp2_with fail
    refine (copy_any _ _ _ _ s HN.out hs hwf HC.out (by omega)).mono ?_
    rintro e w3 ⟨v, rfl, ho, hb3⟩
    have l1 := lt_heap p1
    have l2 := lt_heap p2
    have p2x := p2
    have p1 := (hb3.block _ (lt_heap p1)).trans p1
    have p2 := (hb3.block _ (lt_heap p2)).trans p2
    have p3 := (hb3.block _ (lt_heap p3)).trans p3
    have hbw := below_step hbw hb3
    have ho := ho.box p1 (by omega) v
    obtain ⟨a1, cap1, hv1, hc1, hr1⟩ := ho.sto
    rw [HN.out] at hv1 hc1
    subst hv1
    have c1 := cell_of_one p1
    have f1 := free_of_one p1
    have q1 := one_setCell (u := .slice a1 n cap1) p1
    have q2 : (w3.setCell ⟨w.heap.size, 0, none⟩ (.slice a1 n cap1)).heap[w.heap.size + 2]? = _ := heap_setCell_ne p2 (by simp)
    have q3 : (w3.setCell ⟨w.heap.size, 0, none⟩ (.slice a1 n cap1)).heap[w.heap.size + 1]? = _ := heap_setCell_ne p3 (by simp)
    have d0 := cell_of_block q3 0
    have d1 := cell_of_block q3 1
    have d2 := cell_of_block q3 2
    have d3 := cell_of_block q3 3
    simp only [List.getElem?_toArray, List.getElem?_cons_succ, List.getElem?_cons_zero] at d0 d1 d2 d3
    have hbw2 := hbw.setCell (p := ⟨w.heap.size, 0, none⟩) (Nat.le_refl _) (.slice a1 n cap1)
    have hz0 : w.heap.size < w1.heap.size := l1
    have hz2 : w.heap.size + 2 < w1.heap.size := lt_heap p2x
    have hz1 : w1.heap.size ≤ (w3.setCell ⟨w.heap.size, 0, none⟩ (.slice a1 n cap1)).heap.size := by have := hb3.size; simpa using this
    have hrb : RefsB s 1000000000 := fun x hx => by have := hri x hx; omega
    go_wp2_with fail
    refine (put_any _ w.heap.size w1.heap.size a1 ka ba n cap1 nk kc nb bc s r0 l ks bs HN.out h400 q1 ho hz0 hz1 hwf hrb HK.out HB.out (hkr.mono hbw2) (hbr.mono hbw2) HKA.out HBA.out hkw HNK.out HNB.out).mono ?_
    rintro e w4 ⟨rfl, ho4, hb4⟩
    have hbw4 := hbw2.trans (hb4.mono (Nat.le_of_lt hz0))
    have q2 := (hb4.block _ hz2).trans q2
    have q1 := (hb4.block _ hz0).trans q1
    have e2 := cell_of_one q2
    have g2 := free_of_one q2
    have e1 := cell_of_one q1
    have l1' := lt_heap q1
    have l2' := lt_heap q2
    by_cases hpe : (putR s l ks bs).2.2 = 0
    · have HR := Lib.hid (show makeR s l ks bs = putR s l ks bs by unfold makeR; rw [if_neg (by simp [HCE.out]), if_neg (by simp [hpe])])
      have hp0 : ((putR s l ks bs).2.2 == 0) = true := by rw [hpe]; rfl
      have HPE := Lib.hid hpe
      clear hpe d0 d1 d2 d3 q3
      go_wp2
      refine bodyPost_ret (v := .tuple #[.agg #[.slice a1 n cap1], .int .i64 (putR s l ks bs).2.1, .int .i64 0]) (by simp [results, Try.results34, go_sem, e2]) rfl ⟨_, by rw [HR.out, HPE.out], ?_, ?_⟩
      · rw [HR.out]; exact (ho4.box q2 hz2 _).weaken (Nat.le_of_lt hz0)
      · exact hbw4.setCell (show w.heap.size ≤ w.heap.size + 2 by omega) _
    · have HR := Lib.hid (show makeR s l ks bs = ([], 0, (putR s l ks bs).2.2) by unfold makeR; rw [if_neg (by simp [HCE.out]), if_pos hpe])
      have hp0 : ((putR s l ks bs).2.2 == 0) = false := by rw [beq_eq_false_iff_ne]; exact hpe
      have hp1 : ((putR s l ks bs).2.2 != 0) = true := by rw [bne_iff_ne]; exact hpe
      clear hpe d0 d1 d2 d3 q3
      go_wp2
      refine bodyPost_ret (v := .tuple #[.agg #[.slice none 0 0], .int .i64 0, .int .i64 (putR s l ks bs).2.2]) (by simp [results, Try.results34, go_sem, e2]) rfl ⟨_, by rw [HR.out], ?_, ?_⟩
      · rw [HR.out]; exact OwnSto.none _ _
      · exact hbw4.setCell (show w.heap.size ≤ w.heap.size + 2 by omega) _
  · have HR := Lib.hid (show makeR s l ks bs = ([], 0, checkE s) by unfold makeR; rw [if_pos hce])
    have he1 : (checkE s != 0) = true := by rw [bne_iff_ne]; exact hce
    have he0 : (checkE s == 0) = false := by rw [beq_eq_false_iff_ne]; exact hce
    clear hs hce hb1 h1 h2 h3
    go_wp2
    refine bodyPost_ret (v := .tuple #[.agg #[.slice none 0 0], .int .i64 0, .int .i64 (checkE s)]) (by simp [results, Try.results34, go_sem, c2]) rfl ⟨_, by rw [HR.out], ?_, ?_⟩
    · rw [HR.out]; exact OwnSto.none _ _
    · exact hbw.setCell (show w.heap.size ≤ w.heap.size + 2 by omega) _
end Go.Proofs.Ytpfopbkaddjjcaa
