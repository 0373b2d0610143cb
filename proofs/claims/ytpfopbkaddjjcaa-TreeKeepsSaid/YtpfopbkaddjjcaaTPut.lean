/- tree.Set at any level; tree.Put: a leaf is put below a root. -/
import Derived.Test.YtpfopbkaddjjcaaSetS
namespace Go.Proofs.Ytpfopbkaddjjcaa
open Go.RowKit
set_option linter.unusedVariables false

theorem set_any : ∀ m : Nat, m ≤ 3 → SetAt m := by
  intro m
  induction m with
  | zero =>
    intro _ w pb base ao ba n cap nb bc s root i b M hn hbox ho hpn hbs hg hM1 hM hr hi hby hnb hb4 hbr hbc
    exact set_zero w pb base ao ba n cap nb bc s root i b M hn hbox ho hpn hbs hg (by omega) hnb hb4 hbr hbc
  | succ m ih => intro h; exact set_succ m (by omega) (ih (by omega))

def tputR (s : List Blk) (root l i : Int) (b : List Int) : List Blk × Int × Int :=
  if checkT s root l i ≠ 0 then ([], 0, checkT s root l i) else if b.length ≠ 0 ∧ b.length ≠ 4 then ([], 0, 2)
  else if (setF l.toNat s root i.toNat b).2.2 ≠ 0 then ([], 0, (setF l.toNat s root i.toNat b).2.2) else setF l.toNat s root i.toNat b

set_option maxRecDepth 100000 in
set_option maxHeartbeats 4000000 in
theorem treePut_any (w : World) (ao ba : Option Addr) (n cap nb bc : Nat) (s : List Blk) (root l i : Int) (b : List Int) (hn : s.length = n) (hn63 : n ≤ 1152921504606846976) (hs : StoRow w ao s) (hwf : WfS s) (hc : Capd ao n cap)
    (hnb : b.length = nb) (hbr : Row .u8 w ba b) (hbc : Capd ba nb bc) (hby : Byt b) (hb47 : nb ≤ 140737488351232) :
    Calls Try.prog 50 #[.agg #[.slice ao n cap], .int .i64 root, .int .i64 l, .int .i64 i, .slice ba nb bc] w fun e w' =>
      ∃ v, e = .returned (.tuple #[.agg #[v], .int .i64 (tputR s root l i b).2.1, .int .i64 (tputR s root l i b).2.2]) ∧ OwnSto w' w.heap.size v (tputR s root l i b).1 ∧ Below w.heap.size w w' := by
  have HN := Lib.hid hn
  have HC := Lib.hid hc
  have HB := Lib.hid hnb
  have HBA := Lib.hid hbc
  clear hn hc hnb hbc
  have hb0 : Below w.heap.size w ((w.alloc (.cells #[.slice ao n cap] 40)).alloc (.cells #[.slice none 0 0] 40)) :=
    ((Below.refl _ _).alloc (Nat.le_refl _) _).alloc (by simp) _
  have h1 : ((w.alloc (.cells #[.slice ao n cap] 40)).alloc (.cells #[.slice none 0 0] 40)).heap[w.heap.size]? = some (.cells #[.slice ao n cap] 40 (0, 0)) := heap_alloc2_old _ _ _
  have h2 : ((w.alloc (.cells #[.slice ao n cap] 40)).alloc (.cells #[.slice none 0 0] 40)).heap[w.heap.size + 1]? = some (.cells #[.slice none 0 0] 40 (0, 0)) := heap_alloc2_new _ _ _
  go_enter Try.func50, Try.ntmps50
  go_wp2_with fail
  generalize (w.alloc (Obj.cells #[Value.slice ao n cap] 40)).alloc (Obj.cells #[Value.slice none 0 0] 40) = W0 at *
  have hs := hs.mono hb0
  refine (treeCheck_any _ _ _ _ s root l i HN.out hn63 hs hwf).mono ?_
  rintro e w1 ⟨rfl, hb1⟩
  have p1 := (hb1.block _ (lt_heap h1)).trans h1
  have p2 := (hb1.block _ (lt_heap h2)).trans h2
  have hs := hs.mono hb1
  have hbw := below_step hb0 hb1
  have c1 := cell_of_one p1
  have c2 := cell_of_one p2
  have f2 := free_of_one p2
  by_cases hce : checkT s root l i = 0
  rotate_left
  · have HR := Lib.hid (show tputR s root l i b = ([], 0, checkT s root l i) by unfold tputR; rw [if_pos hce])
    have he1 : (checkT s root l i != 0) = true := by rw [bne_iff_ne]; exact hce
    generalize hcc : checkT s root l i = ce at *
    replace hcc := Lib.hid hcc
    clear hs hce hb1 h1 h2
    go_wp2
    refine bodyPost_ret (v := .tuple #[.agg #[.slice none 0 0], .int .i64 0, .int .i64 ce]) (by simp [results, Try.results50, go_sem, c2]) rfl ⟨_, by rw [HR.out], ?_, ?_⟩
    · rw [HR.out]; exact OwnSto.none _ _
    · exact hbw.setCell (show w.heap.size ≤ w.heap.size + 1 by omega) _
  have he1 : (checkT s root l i != 0) = false := by rw [hce]; rfl
  by_cases hmany : nb = 0 ∨ nb = 4
  rotate_left
  · have HR := Lib.hid (show tputR s root l i b = ([], 0, 2) by unfold tputR; rw [if_neg (by simp [hce]), if_pos (by have := HB.out; omega)])
    have hm1 : ((nb : Int) != 0) = true := by rw [bne_iff_ne]; omega
    have hm2 : ((nb : Int) != 4) = true := by rw [bne_iff_ne]; omega
    generalize hcc : checkT s root l i = ce at *
    replace hcc := Lib.hid hcc
    clear hs hce hb1 h1 h2 hmany
    go_wp2
    refine bodyPost_ret (v := .tuple #[.agg #[.slice none 0 0], .int .i64 0, .int .i64 2]) (by simp [results, Try.results50, go_sem, c2]) rfl ⟨_, by rw [HR.out], ?_, ?_⟩
    · rw [HR.out]; exact OwnSto.none _ _
    · exact hbw.setCell (show w.heap.size ≤ w.heap.size + 1 by omega) _
  obtain ⟨hce0, m, rfl, hm, hroot, hi0, him⟩ := checkT_ok hce
  obtain ⟨j, rfl⟩ : ∃ j : Nat, i = j := ⟨i.toNat, by omega⟩
  have hjm : j < p4n m := by rw [p4n_int] at him; omega
  have h400 : n ≤ 400 := by have := (checkE_zero s hce0).1; have := HN.out; omega
  have hG := Good.of_check hce0 hwf
  have HR0 : Hid (tputR s root m j b = if (setF m s root j b).2.2 ≠ 0 then ([], 0, (setF m s root j b).2.2) else setF m s root j b) := Lib.hid (by
    have hb0 := HB.out
    unfold tputR; rw [if_neg (by simp [hce]), if_neg (by omega)]; rfl)
  have hb4 : nb ≤ 4 := by omega
  have hmx : (((nb : Int) != 0) && ((nb : Int) != 4)) = false := by
    rcases hmany with e | e <;> subst e <;> rfl
  clear hce hce0 hi0 him hb1 h1 h2
  rcases hmany with e | e
  all_goals
    subst e
    go_wp2_with fail
    refine (copy_any _ _ _ _ s HN.out hs hwf HC.out (by omega)).mono ?_
    rintro e w3 ⟨v, rfl, ho, hb3⟩
    have l1 := lt_heap p1
    have l2 := lt_heap p2
    have p2x := p2
    have p1 := (hb3.block _ (lt_heap p1)).trans p1
    have p2 := (hb3.block _ (lt_heap p2)).trans p2
    have hbw := below_step hbw hb3
    have ho := ho.box p1 (by omega) v
    obtain ⟨a1, cap1, hv1, hc1, hr1⟩ := ho.sto
    rw [HN.out] at hv1 hc1
    subst hv1
    have c1 := cell_of_one p1
    have f1 := free_of_one p1
    have q1 := one_setCell (u := .slice a1 n cap1) p1
    have q2 : (w3.setCell ⟨w.heap.size, 0, none⟩ (.slice a1 n cap1)).heap[w.heap.size + 1]? = _ := heap_setCell_ne p2 (by simp)
    have hbw2 := hbw.setCell (p := ⟨w.heap.size, 0, none⟩) (Nat.le_refl _) (.slice a1 n cap1)
    have hz0 : w.heap.size < w1.heap.size := l1
    have hz2 : w.heap.size + 1 < w1.heap.size := lt_heap p2x
    have hz1 : w1.heap.size ≤ (w3.setCell ⟨w.heap.size, 0, none⟩ (.slice a1 n cap1)).heap.size := by have := hb3.size; simpa using this
    have hgb : ∀ g, s ≠ [] → a1 = some ⟨g, 0, none⟩ → w1.heap.size ≤ g := fun g h1 h2 => (ho.own_at h1 h2).le
    go_wp2_with fail
    refine (set_any m hm _ w.heap.size w1.heap.size a1 ba n cap1 _ bc s root j b 1000000 HN.out q1 ho (fun g h1 h2 => by have := hgb g h1 h2; omega) hz1 hG (by omega) (by omega) hroot hjm hby HB.out hb4 (hbr.mono hbw2) HBA.out).mono ?_
    rintro e w4 ⟨rfl, hb4w, hf4, hs4⟩
    have hbw4 := hbw2.trans (hb4w.mono (Nat.le_of_lt hz0))
    have q2 := (hf4 _ (lt_heap q2) fun g h1 h2 => by have := hgb g h1 h2; omega).trans q2
    have q1 := (hf4 _ (lt_heap q1) fun g h1 h2 => by have := hgb g h1 h2; omega).trans q1
    have e2 := cell_of_one q2
    have g2 := free_of_one q2
    have e1 := cell_of_one q1
    have l1' := lt_heap q1
    have l2' := lt_heap q2
    clear hf4 hgb hr1 ho hs
    generalize setF m s root j b = r at *
    obtain ⟨s1, k1, e1'⟩ := r
    simp only at HR0 hs4
    by_cases hpe : e1' = 0
    · subst hpe
      obtain ⟨ho4, -⟩ := hs4 rfl
      have HR := Lib.hid (show tputR s root m j b = (s1, k1, 0) by rw [HR0.out, if_neg (fun h => h rfl)])
      clear hs4 HR0
      go_wp2
      refine bodyPost_ret (v := .tuple #[.agg #[.slice a1 n cap1], .int .i64 k1, .int .i64 0]) (by simp [results, Try.results50, go_sem, e2]) rfl ⟨_, by rw [HR.out], ?_, ?_⟩
      · rw [HR.out]; exact (ho4.box q2 hz2 _).weaken (Nat.le_of_lt hz0)
      · exact hbw4.setCell (show w.heap.size ≤ w.heap.size + 1 by omega) _
    · have HR := Lib.hid (show tputR s root m j b = ([], 0, e1') by rw [HR0.out, if_pos hpe])
      have hp1 : (e1' != 0) = true := by rw [bne_iff_ne]; exact hpe
      clear hpe hs4 HR0
      go_wp2
      refine bodyPost_ret (v := .tuple #[.agg #[.slice none 0 0], .int .i64 0, .int .i64 e1']) (by simp [results, Try.results50, go_sem, e2]) rfl ⟨_, by rw [HR.out], ?_, ?_⟩
      · rw [HR.out]; exact OwnSto.none _ _
      · exact hbw4.setCell (show w.heap.size ≤ w.heap.size + 1 by omega) _
end Go.Proofs.Ytpfopbkaddjjcaa
