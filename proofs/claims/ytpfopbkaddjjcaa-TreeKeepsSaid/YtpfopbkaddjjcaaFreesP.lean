/- What is dropped leaves a right store; a store that nobody holds has nothing. -/
import Derived.Test.YtpfopbkaddjjcaaLooseQ
namespace Go.Proofs.Ytpfopbkaddjjcaa
open Go.RowKit
set_option linter.unusedVariables false

theorem formsE_of (s l : List Blk) (h : ∀ x ∈ l, formB s x = 0) : formsE s l = 0 := by
  induction l with
  | nil => rfl
  | cons x l ih =>
    simp only [formsE]
    rw [if_pos (h x (List.mem_cons_self ..))]
    exact ih fun y hy => h y (List.mem_cons_of_mem _ hy)

theorem checkE_of (s : List Blk) (h4 : s.length ≤ 400) (hf : ∀ x ∈ s, formB s x = 0) (ho : ∀ j, j < s.length → 0 ≤ outA s j) : checkE s = 0 := by
  have h1 := formsE_of s s hf
  rw [checkE_tail s (by omega) h1, if_neg]
  intro h
  rw [List.any_eq_true] at h
  obtain ⟨x, hx, h3⟩ := h
  obtain ⟨j, hj, rfl⟩ := List.getElem_of_mem hx
  have hj' : j < s.length := by rw [← outL_length]; exact hj
  have := ho j hj'
  rw [outA_eq s j hj' hj] at h3
  simp at h3
  omega

theorem formE_leaf (s : List Blk) (r : Int) (bs : List Int) (h1 : 0 < r) (h2 : r ≤ 1000000) (h3 : bs.length = 4) : formE s r 0 [] bs = 0 := by
  unfold formE
  rw [if_neg (by omega), if_neg (by omega), if_pos rfl, if_neg (by simp [h3])]
theorem formE_node (s : List Blk) (r l : Int) (ks : List Int) (h1 : 0 < r) (h2 : r ≤ 1000000) (h3 : 1 ≤ l) (h4 : l ≤ 3) (h5 : ks.length = 4) (h6 : ks.all (kidOk s l) = true) (h7 : ks.all (fun k => decide (k = 0)) = false) : formE s r l ks [] = 0 := by
  unfold formE
  rw [if_neg (by omega), if_neg (by omega), if_neg (by omega), if_neg (by simp [h5]), if_neg (by simp only [h6]; simp), if_neg (by simp only [h7]; simp)]

theorem live_of (s : List Blk) (h : formsE s s = 0) : Live s := by
  intro x hx
  rcases formB_zero s x (formsE_all s s h x hx) with ⟨h1, h2, h3, h4⟩ | ⟨h1, _⟩ | ⟨h1, _⟩
  · refine .inl ?_
    obtain ⟨r, l, ks, bs⟩ := x
    simp only at h1 h2 h3 h4
    subst h1 h2 h3 h4
    rfl
  · exact .inr h1
  · exact .inr h1

theorem mem_kidsOf {s : List Blk} {j : Nat} (h : j < s.length) {v : Int} (hv : v ∈ s[j].kids) : 0 < (kidsOf s).count v :=
  List.count_pos_iff.2 (List.mem_flatMap.2 ⟨s[j], List.getElem_mem h, hv⟩)

/-- parts of a right store that are held enough are right -/
theorem sub_check (s s' : List Blk) (hc : checkE s = 0) (hs : Sub s s') (ho : ∀ j, j < s.length → 0 ≤ outA s' j) : checkE s' = 0 := by
  obtain ⟨h4, hf, _, _, _⟩ := checkE_zero s hc
  have hl := hs.len
  refine checkE_of s' (by omega) (fun x hx => ?_) (fun j hj => ho j (by omega))
  obtain ⟨j, hj, rfl⟩ := List.getElem_of_mem hx
  have hjs : j < s.length := by omega
  rcases hs.each j hjs hj with h1 | ⟨h1, h2, h3⟩
  · rw [h1]; simp [formB, formE, noBlk]
  have hk : s'[j].kids = s[j].kids := by rw [h3]
  have hlv : s'[j].level = s[j].level := by rw [h3]
  have hby : s'[j].bytes = s[j].bytes := by rw [h3]
  unfold formB
  rcases formB_zero s s[j] (formsE_all s s hf _ (List.getElem_mem hjs)) with ⟨e1, _⟩ | ⟨_, e2, e3, e4, e5⟩ | ⟨_, e2, e3, e4, e5, e6, e7, e8⟩
  · omega
  · rw [hk, hlv, hby, e3, e4]
    exact formE_leaf _ _ _ h1 (by omega) e5
  · rw [hk, hlv, hby, e6]
    refine formE_node _ _ _ _ h1 (by omega) e3 e4 e5 ?_ e8
    rw [List.all_eq_true]
    intro v hv
    have hv0 := List.all_eq_true.1 e7 v hv
    unfold kidOk at hv0 ⊢
    simp only [Bool.or_eq_true, decide_eq_true_eq, Bool.and_eq_true] at hv0 ⊢
    rcases hv0 with h0 | ⟨g1, g2⟩
    · exact .inl h0
    · refine .inr ?_
      obtain ⟨i, hi, rfl, _⟩ := there_in g1
      have hi' : i < s'.length := by omega
      have hcnt := mem_kidsOf hj (v := (i : Int) + 1) (by rw [hk]; exact hv)
      have hoi := ho i hi
      unfold outA at hoi
      rw [blk_at s' i hi'] at hoi
      rw [there_at s' i hi', blk_at s' i hi']
      rw [blk_at s i hi] at g2
      have hr : 0 < s'[i].refs := by omega
      rcases hs.each i hi hi' with q1 | ⟨_, _, q3⟩
      · rw [q1] at hr; simp [noBlk] at hr
      · refine ⟨by simpa using hr, ?_⟩
        rw [q3]; exact g2

theorem drop_check (s : List Blk) (k : Nat) (hk : k < s.length) (hc : checkE s = 0) (ho : 0 < outA s k) : checkE (looseF 4 s ((k : Int) + 1)) = 0 := by
  obtain ⟨h4, hf, _, _, hnn⟩ := checkE_zero s hc
  have hlv := lv_of s hf
  have hnn' : ∀ j, j < s.length → 0 ≤ outA s j := fun j hj => by
    have hj' : j < (outL s).length := by rw [outL_length]; exact hj
    rw [← outA_eq s j hj hj']; exact hnn _ (List.getElem_mem hj')
  have q := looseOut 4 s ((k : Int) + 1) [] hlv.1 (live_of s hf) (.inr ⟨by omega, by omega, by rw [blk_at s k hk]; have := hlv.2 _ (List.getElem_mem hk); omega⟩) (fun j hj => by
    by_cases e : j = k
    · subst e; simp; omega
    · rw [List.count_cons_of_ne (by omega)]; simpa using hnn' j hj)
  refine sub_check s _ hc q.sub (fun j hj => ?_)
  rw [q.out j hj]
  by_cases e : j = k
  · subst e; simp; omega
  · rw [List.count_cons_of_ne (by omega)]; simpa using hnn' j hj

/-- a block that nobody outside holds has one above -/
theorem above (s : List Blk) (hc : checkE s = 0) (hz : ∀ n ∈ outL s, n = 0) (j : Nat) (hj : j < s.length) (hr : 0 < s[j].refs) : ∃ i, ∃ hi : i < s.length, 0 < s[i].refs ∧ s[i].level = s[j].level + 1 ∧ s[i].level ≤ 3 := by
  obtain ⟨h4, hf, _, _, _⟩ := checkE_zero s hc
  have hj' : j < (outL s).length := by rw [outL_length]; exact hj
  have h0 := hz _ (List.getElem_mem hj')
  rw [outA_eq s j hj hj'] at h0
  unfold outA at h0
  rw [blk_at s j hj] at h0
  have hc : 0 < (kidsOf s).count ((j : Int) + 1) := by omega
  obtain ⟨x, hx, hv⟩ := List.mem_flatMap.1 (List.count_pos_iff.1 hc)
  obtain ⟨i, hi, rfl⟩ := List.getElem_of_mem hx
  refine ⟨i, hi, ?_⟩
  rcases formB_zero s s[i] (formsE_all s s hf _ (List.getElem_mem hi)) with ⟨_, _, e, _⟩ | ⟨_, _, _, e, _⟩ | ⟨e1, e2, e3, e4, e5, e6, e7, e8⟩
  · rw [e] at hv; cases hv
  · rw [e] at hv; cases hv
  · have hv0 := List.all_eq_true.1 e7 _ hv
    unfold kidOk at hv0
    simp only [Bool.or_eq_true, decide_eq_true_eq, Bool.and_eq_true] at hv0
    rcases hv0 with g | ⟨_, g⟩
    · omega
    · rw [blk_at s j hj] at g
      exact ⟨e1, by omega, e4⟩

theorem nobody (s : List Blk) (hc : checkE s = 0) (hz : ∀ n ∈ outL s, n = 0) : usedN s = 0 := by
  obtain ⟨h4, hf, _, _, _⟩ := checkE_zero s hc
  have hno : ∀ x ∈ s, ¬ 0 < x.refs := by
    intro x hx hr
    obtain ⟨j, hj, rfl⟩ := List.getElem_of_mem hx
    have h0 := ((lv_of s hf).1 _ (List.getElem_mem hj)).1
    obtain ⟨i1, b1, r1, l1, _⟩ := above s hc hz j hj hr
    obtain ⟨i2, b2, r2, l2, _⟩ := above s hc hz i1 b1 r1
    obtain ⟨i3, b3, r3, l3, _⟩ := above s hc hz i2 b2 r2
    obtain ⟨i4, b4, r4, l4, m4⟩ := above s hc hz i3 b3 r3
    omega
  unfold usedN
  rw [List.filter_eq_nil_iff.2 (fun x hx => by simpa using hno x hx)]
  rfl
end Go.Proofs.Ytpfopbkaddjjcaa
