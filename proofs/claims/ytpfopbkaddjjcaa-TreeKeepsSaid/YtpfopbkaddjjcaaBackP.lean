/- What is made and let go, or held and let go, was never there: in plain words. -/
import Derived.Test.YtpfopbkaddjjcaaFreesP
namespace Go.Proofs.Ytpfopbkaddjjcaa
open Go.RowKit
set_option linter.unusedVariables false

theorem blk_in {s : List Blk} {a : Int} (h1 : 1 ≤ a) (h2 : a ≤ s.length) : blk s a = s[(a - 1).toNat]'(by omega) := by
  unfold blk
  rw [List.getElem?_eq_getElem (by omega)]; rfl

theorem addRef_get (s : List Blk) (a d : Int) (j : Nat) (h : j < s.length) (h' : j < (addRef s a d).length) (h1 : 1 ≤ a) : (addRef s a d)[j] = { s[j] with refs := s[j].refs + if a = (j : Int) + 1 then d else 0 } := by
  have e0 : (addRef s a d)[j] = (s.set (a - 1).toNat { blk s a with refs := (blk s a).refs + d })[j]'(by simpa using h) := rfl
  rw [e0, List.getElem_set]
  by_cases e : (a - 1).toNat = j
  · have ea : a = (j : Int) + 1 := by omega
    rw [if_pos e, if_pos ea]
    subst ea
    rw [blk_at s j h]
  · rw [if_neg e, if_neg (by omega)]
    simp

/-- these addresses are none, or within -/
def Adr (s : List Blk) (ks : List Int) : Prop := ∀ k ∈ ks, k = 0 ∨ (1 ≤ k ∧ k ≤ s.length)
theorem Adr.len {s t : List Blk} {ks : List Int} (h : Adr s ks) (e : t.length = s.length) : Adr t ks := fun k hk => by rw [e]; exact h k hk
theorem bump_cons (s : List Blk) (k : Int) (ks : List Int) : bump s (k :: ks) = bump (if 0 < k then addRef s k 1 else s) ks := rfl

theorem bump_get (ks : List Int) : ∀ (s : List Blk) (j : Nat) (h : j < s.length) (h' : j < (bump s ks).length), Adr s ks → (bump s ks)[j] = { s[j] with refs := s[j].refs + ((ks.count ((j : Int) + 1) : Nat) : Int) } := by
  induction ks with
  | nil => intro s j h h' _; simp [bump]
  | cons k ks ih =>
    intro s j h h' ha
    have hk := ha k (List.mem_cons_self ..)
    have ht : Adr s ks := fun x hx => ha x (List.mem_cons_of_mem _ hx)
    by_cases h0 : 0 < k
    · have e : bump s (k :: ks) = bump (addRef s k 1) ks := by rw [bump_cons, if_pos h0]
      have hl : (addRef s k 1).length = s.length := addRef_length _ _ _
      have h2 := ih (addRef s k 1) j (by omega) (by rw [bump_length]; omega) (ht.len hl)
      have h3 : (bump s (k :: ks))[j] = (bump (addRef s k 1) ks)[j]'(by rw [bump_length]; omega) := by simp only [e]
      rw [h3, h2, addRef_get s k 1 j h (by omega) (by omega), List.count_cons]
      simp only [Blk.mk.injEq, and_true]
      by_cases e2 : k = (j : Int) + 1
      · subst e2; simp; omega
      · have : (k == (j : Int) + 1) = false := by rw [beq_eq_false_iff_ne]; exact e2
        rw [if_neg e2, this]; simp
    · have e : bump s (k :: ks) = bump s ks := by rw [bump_cons, if_neg h0]
      have h2 := ih s j h (by rw [bump_length]; omega) ht
      have h3 : (bump s (k :: ks))[j] = (bump s ks)[j]'(by rw [bump_length]; omega) := by simp only [e]
      have : (k == (j : Int) + 1) = false := by rw [beq_eq_false_iff_ne]; omega
      rw [h3, h2, List.count_cons, this]
      simp

theorem kidsOf_addRef (s : List Blk) (a d : Int) : kidsOf (addRef s a d) = kidsOf s := by
  have h : (addRef s a d).map Blk.kids = s.map Blk.kids := by
    refine List.ext_getElem (by simp [addRef]) fun j h1 h2 => ?_
    have hj : j < s.length := by simpa using h2
    simp only [List.getElem_map, addRef, List.getElem_set]
    split
    · rename_i e
      subst e
      unfold blk
      rw [List.getElem?_eq_getElem hj]; rfl
    · rfl
  unfold kidsOf
  rw [List.flatMap_def, List.flatMap_def, h]
theorem kidsOf_bump (ks : List Int) : ∀ s : List Blk, kidsOf (bump s ks) = kidsOf s := by
  induction ks with
  | nil => intro s; rfl
  | cons k ks ih =>
    intro s
    rw [bump_cons, ih]
    split
    · exact kidsOf_addRef _ _ _
    · rfl

theorem usedN_set (s : List Blk) (k : Nat) (h : k < s.length) (x : Blk) : usedN (s.set k x) + (if 0 < s[k].refs then 1 else 0) = usedN s + if 0 < x.refs then 1 else 0 := by
  have e1 : s = s.take k ++ s[k] :: s.drop (k + 1) := by rw [← List.drop_eq_getElem_cons h, List.take_append_drop]
  have e2 : s.set k x = s.take k ++ x :: s.drop (k + 1) := by rw [List.set_eq_take_append_cons_drop, if_pos h]
  have f1 : usedN s = usedN (s.take k ++ s[k] :: s.drop (k + 1)) := by rw [← e1]
  have key : ∀ (a b : List Blk) (y : Blk), usedN (a ++ y :: b) = usedN a + usedN b + if 0 < y.refs then 1 else 0 := by
    intro a b y
    unfold usedN
    rw [List.filter_append, List.filter_cons]
    by_cases hy : 0 < y.refs
    · simp [hy]; omega
    · simp [hy]
  rw [e2, f1, key, key]
  omega

theorem usedN_bump (ks : List Int) : ∀ s : List Blk, (∀ k ∈ ks, k = 0 ∨ (1 ≤ k ∧ k ≤ s.length ∧ 0 < (blk s k).refs)) → usedN (bump s ks) = usedN s := by
  induction ks with
  | nil => intro s _; rfl
  | cons k ks ih =>
    intro s h
    rw [bump_cons]
    rcases h k (List.mem_cons_self ..) with h0 | ⟨h1, h2, h3⟩
    · rw [if_neg (by omega)]
      exact ih s fun x hx => h x (List.mem_cons_of_mem _ hx)
    · rw [if_pos (by omega), ih]
      · obtain ⟨j, rfl⟩ : ∃ j : Nat, k = j + 1 := ⟨(k - 1).toNat, by omega⟩
        have hj : j < s.length := by omega
        rw [addRef_at s j hj]
        have := usedN_set s j hj { s[j] with refs := s[j].refs + 1 }
        rw [blk_at s j hj] at h3
        rw [if_pos h3, if_pos (by simp only; omega)] at this
        omega
      · intro x hx
        rcases h x (List.mem_cons_of_mem _ hx) with g0 | ⟨g1, g2, g3⟩
        · exact .inl g0
        · refine .inr ⟨g1, by rw [addRef_length]; exact g2, ?_⟩
          rw [blk_in g1 (by rw [addRef_length]; exact g2), addRef_get s k 1 _ (by omega) (by rw [addRef_length]; omega) h1]
          rw [blk_in g1 g2] at g3
          simp only
          split <;> omega

/-- what is right by itself stays so where what is there stays -/
theorem form_more {s m : List Blk} {x : Blk} (hm : ∀ k, thereB s k = true → thereB m k = true ∧ (blk m k).level = (blk s k).level) (hf : formB s x = 0) (r : Int) (h0 : x.refs = 0 → r = 0) (h1 : 0 < x.refs → 0 < r ∧ r ≤ 1000000) : formB m { x with refs := r } = 0 := by
  unfold formB
  rcases formB_zero s x hf with ⟨e1, e2, e3, e4⟩ | ⟨e0, e2, e3, e4, e5⟩ | ⟨e0, e2, e3, e4, e5, e6, e7, e8⟩
  · simp only [h0 e1, e2, e3, e4]; simp [formE]
  · have := h1 e0
    simp only [e3, e4]
    exact formE_leaf _ _ _ this.1 this.2 e5
  · have := h1 e0
    simp only [e6]
    refine formE_node _ _ _ _ this.1 this.2 e3 e4 e5 ?_ e8
    rw [List.all_eq_true]
    intro v hv
    have hv0 := List.all_eq_true.1 e7 v hv
    unfold kidOk at hv0 ⊢
    simp only [Bool.or_eq_true, decide_eq_true_eq, Bool.and_eq_true] at hv0 ⊢
    rcases hv0 with h0 | ⟨g1, g2⟩
    · exact .inl h0
    · obtain ⟨q1, q2⟩ := hm v g1
      exact .inr ⟨q1, by omega⟩

/-- out of a right store -/
theorem out_nn {s : List Blk} (hc : checkE s = 0) (j : Nat) (hj : j < s.length) : 0 ≤ outA s j := by
  have hj' : j < (outL s).length := by rw [outL_length]; exact hj
  rw [← outA_eq s j hj hj']
  exact (checkE_zero s hc).2.2.2.2 _ (List.getElem_mem hj')
theorem outL_get {s : List Blk} (a : Int) (h1 : 1 ≤ a) (h2 : a ≤ s.length) : (outL s)[(a - 1).toNat]?.getD 0 = outA s (a - 1).toNat := by
  have h : (a - 1).toNat < s.length := by omega
  have h' : (a - 1).toNat < (outL s).length := by rw [outL_length]; exact h
  rw [List.getElem?_eq_getElem h', Option.getD_some, outA_eq s _ h h']

/-- what a list holds is let go again -/
theorem unbump (f : Nat) (ks : List Int) : ∀ s : List Blk, (∀ k ∈ ks, k = 0 ∨ (1 ≤ k ∧ k ≤ s.length ∧ 0 < (blk s k).refs)) → ks.foldl (looseF (f + 1)) (bump s ks) = s := by
  induction ks with
  | nil => intro s _; rfl
  | cons k ks ih =>
    intro s h
    have ht := fun x hx => h x (List.mem_cons_of_mem _ hx)
    have ha : Adr s (k :: ks) := fun x hx => (h x hx).imp id fun p => ⟨p.1, p.2.1⟩
    have ha' : Adr s ks := fun x hx => ha x (List.mem_cons_of_mem _ hx)
    rw [List.foldl_cons]
    have key : looseF (f + 1) (bump s (k :: ks)) k = bump s ks := by
      unfold looseF
      rcases h k (List.mem_cons_self ..) with h0 | ⟨h1, h2, h3⟩
      · rw [if_pos h0, bump_cons, if_neg (by omega)]
      · obtain ⟨j, rfl⟩ : ∃ j : Nat, k = j + 1 := ⟨(k - 1).toNat, by omega⟩
        have hj : j < s.length := by omega
        have hj' : j < (bump s (((j : Int) + 1) :: ks)).length := by rw [bump_length]; exact hj
        rw [blk_at s j hj] at h3
        rw [if_neg (by omega), blk_at _ j hj', bump_get _ s j hj hj' ha, if_pos (by simp only [List.count_cons_self]; omega)]
        refine List.ext_getElem (by rw [addRef_length, bump_length, bump_length]) fun i g1 g2 => ?_
        have hi : i < s.length := by rw [bump_length] at g2; exact g2
        have hi' : i < (bump s (((j : Int) + 1) :: ks)).length := by rw [bump_length]; exact hi
        rw [addRef_get _ _ _ i hi' g1 (by omega), bump_get _ s i hi hi' ha, bump_get _ s i hi g2 ha', List.count_cons]
        simp only [Blk.mk.injEq, and_true]
        by_cases e2 : (j : Int) + 1 = (i : Int) + 1
        · rw [if_pos e2, e2]; simp; omega
        · have : ((j : Int) + 1 == (i : Int) + 1) = false := by rw [beq_eq_false_iff_ne]; exact e2
          rw [if_neg e2, this]; simp
    rw [key]
    exact ih s ht

/-- one put into a right store -/
structure PutAt (s : List Blk) (l : Int) (ks bs : List Int) (f : Nat) : Prop where
  lt : f < s.length
  chk : checkE s = 0
  form : formE s 1 l ks bs = 0
  free : s[f] = noBlk
  few : ∀ x ∈ s, x.refs ≤ 999996

def putM (s : List Blk) (l : Int) (ks bs : List Int) (f : Nat) : List Blk := bump (s.set f ⟨1, l, ks, bs⟩) ks

theorem there_ref {s : List Blk} {k : Int} (h : thereB s k = true) : 1 ≤ k ∧ k ≤ s.length ∧ 0 < (blk s k).refs := by
  unfold thereB at h
  simpa using h
theorem there_mk {s : List Blk} {k : Int} (h1 : 1 ≤ k) (h2 : k ≤ s.length) (h3 : 0 < (blk s k).refs) : thereB s k = true := by
  unfold thereB
  simp [h1, h2, h3]

theorem PutAt.kid {s : List Blk} {l : Int} {ks bs : List Int} {f : Nat} (h : PutAt s l ks bs f) : ∀ k ∈ ks, k = 0 ∨ (1 ≤ k ∧ k ≤ s.length ∧ 0 < (blk s k).refs) := fun k hk =>
  ((form_kids s l ks bs h.form).2.2 k hk).imp id fun p => there_ref p.2.2
theorem PutAt.none {s : List Blk} {l : Int} {ks bs : List Int} {f : Nat} (h : PutAt s l ks bs f) (j : Nat) (hj : j < s.length) (hr : s[j].refs ≤ 0) : ks.count ((j : Int) + 1) = 0 := by
  rw [List.count_eq_zero]
  intro hm
  rcases h.kid _ hm with h0 | ⟨_, _, h1⟩
  · omega
  · rw [blk_at s j hj] at h1; omega
theorem PutAt.adr {s : List Blk} {l : Int} {ks bs : List Int} {f : Nat} (h : PutAt s l ks bs f) (x : Blk) : Adr (s.set f x) ks := fun k hk => by
  rw [List.length_set]; exact (h.kid k hk).imp id fun p => ⟨p.1, p.2.1⟩

theorem putM_length (s : List Blk) (l : Int) (ks bs : List Int) (f : Nat) : (putM s l ks bs f).length = s.length := by simp [putM, bump_length]

theorem PutAt.get {s : List Blk} {l : Int} {ks bs : List Int} {f : Nat} (h : PutAt s l ks bs f) (j : Nat) (hj : j < s.length) (hj' : j < (putM s l ks bs f).length) :
    (putM s l ks bs f)[j] = if j = f then ⟨1, l, ks, bs⟩ else { s[j] with refs := s[j].refs + ((ks.count ((j : Int) + 1) : Nat) : Int) } := by
  have e : (putM s l ks bs f)[j] = (bump (s.set f ⟨1, l, ks, bs⟩) ks)[j]'(by rw [bump_length, List.length_set]; exact hj) := rfl
  rw [e, bump_get ks _ j (by rw [List.length_set]; exact hj) _ (h.adr _), List.getElem_set]
  by_cases hf : j = f
  · subst hf
    have := h.none j hj (by rw [h.free]; simp [noBlk])
    rw [if_pos rfl, if_pos rfl, this]; simp
  · rw [if_neg (fun e => hf e.symm), if_neg hf]

theorem PutAt.out {s : List Blk} {l : Int} {ks bs : List Int} {f : Nat} (h : PutAt s l ks bs f) (j : Nat) (hj : j < s.length) : outA (putM s l ks bs f) j = outA s j + if j = f then 1 else 0 := by
  have hj' : j < (putM s l ks bs f).length := by rw [putM_length]; exact hj
  have hk := kids_set s f h.lt ⟨1, l, ks, bs⟩ ((j : Int) + 1)
  have e : kidsOf (putM s l ks bs f) = kidsOf (s.set f ⟨1, l, ks, bs⟩) := kidsOf_bump _ _
  rw [h.free] at hk
  simp only [noBlk, List.count_nil, Nat.add_zero] at hk
  unfold outA
  rw [blk_at _ j hj', blk_at s j hj, h.get j hj hj', e, hk]
  by_cases hf : j = f
  · subst hf
    have h1 := h.none j hj (by rw [h.free]; simp [noBlk])
    rw [if_pos rfl, if_pos rfl, h1, h.free]
    simp [noBlk]
    omega
  · rw [if_neg hf, if_neg hf]
    simp only
    omega

theorem PutAt.there {s : List Blk} {l : Int} {ks bs : List Int} {f : Nat} (h : PutAt s l ks bs f) (k : Int) (hk : thereB s k = true) : thereB (putM s l ks bs f) k = true ∧ (blk (putM s l ks bs f) k).level = (blk s k).level := by
  obtain ⟨h1, h2, h3⟩ := there_ref hk
  obtain ⟨j, rfl⟩ : ∃ j : Nat, k = j + 1 := ⟨(k - 1).toNat, by omega⟩
  have hj : j < s.length := by omega
  have hj' : j < (putM s l ks bs f).length := by rw [putM_length]; exact hj
  rw [blk_at s j hj] at h3
  have hf : j ≠ f := by
    intro e
    subst e
    rw [h.free] at h3
    simp [noBlk] at h3
  rw [there_at _ j hj', blk_at _ j hj', blk_at s j hj, h.get j hj hj', if_neg hf]
  simp only [decide_eq_true_eq, and_true]
  omega

theorem PutAt.check {s : List Blk} {l : Int} {ks bs : List Int} {f : Nat} (h : PutAt s l ks bs f) : checkE (putM s l ks bs f) = 0 := by
  obtain ⟨h4, hf, _, _, _⟩ := checkE_zero s h.chk
  have hk4 := (form_kids s l ks bs h.form).1
  refine checkE_of _ (by rw [putM_length]; exact h4) (fun x hx => ?_) (fun j hj => ?_)
  · obtain ⟨j, hj', rfl⟩ := List.getElem_of_mem hx
    have hj : j < s.length := by rw [putM_length] at hj'; exact hj'
    rw [h.get j hj hj']
    split
    · have h1 : formB s ⟨1, l, ks, bs⟩ = 0 := h.form
      exact form_more h.there h1 1 (fun e => by simp at e) (fun _ => ⟨by omega, by omega⟩)
    · have hfm := h.few _ (List.getElem_mem hj)
      have hcl : ks.count ((j : Int) + 1) ≤ 4 := Nat.le_trans List.count_le_length hk4
      refine form_more h.there (formsE_all s s hf _ (List.getElem_mem hj)) _ (fun e => ?_) (fun e => ⟨by omega, by omega⟩)
      rw [h.none j hj (by omega), e]; rfl
  · have hj2 : j < s.length := by rw [putM_length] at hj; exact hj
    have := out_nn h.chk j hj2
    rw [h.out j hj2]
    split <;> omega

theorem PutAt.used {s : List Blk} {l : Int} {ks bs : List Int} {f : Nat} (h : PutAt s l ks bs f) : usedN (putM s l ks bs f) = usedN s + 1 := by
  unfold putM
  rw [usedN_bump]
  · have := usedN_set s f h.lt ⟨1, l, ks, bs⟩
    rw [h.free] at this
    simp [noBlk] at this
    omega
  · intro k hk
    rcases h.kid k hk with h0 | ⟨h1, h2, h3⟩
    · exact .inl h0
    · refine .inr ⟨h1, by rw [List.length_set]; exact h2, ?_⟩
      rw [blk_set]
      split
      · simp
      · exact h3

theorem PutAt.free_again {s : List Blk} {l : Int} {ks bs : List Int} {f : Nat} (h : PutAt s l ks bs f) : (putM s l ks bs f).set f noBlk = bump s ks := by
  have ha : Adr s ks := fun k hk => (h.kid k hk).imp id fun p => ⟨p.1, p.2.1⟩
  refine List.ext_getElem (by rw [List.length_set, putM_length, bump_length]) fun j g1 g2 => ?_
  have hj : j < s.length := by rw [bump_length] at g2; exact g2
  have hj' : j < (putM s l ks bs f).length := by rw [putM_length]; exact hj
  rw [List.getElem_set, bump_get ks s j hj g2 ha, h.get j hj hj']
  by_cases hf : f = j
  · subst hf
    rw [if_pos rfl, h.none f hj (by rw [h.free]; simp [noBlk]), h.free]
    simp [noBlk]
  · rw [if_neg hf, if_neg (fun e => hf e.symm)]

theorem PutAt.loose {s : List Blk} {l : Int} {ks bs : List Int} {f : Nat} (h : PutAt s l ks bs f) (n : Nat) : looseF (n + 2) (putM s l ks bs f) ((f : Int) + 1) = s := by
  have hf' : f < (putM s l ks bs f).length := by rw [putM_length]; exact h.lt
  unfold looseF
  rw [if_neg (by omega), blk_at _ f hf', h.get f h.lt hf', if_pos rfl, if_neg (by simp), show ((f : Int) + 1 - 1).toNat = f from by omega, h.free_again]
  exact unbump n ks s h.kid

theorem PutAt.drop {s : List Blk} {l : Int} {ks bs : List Int} {f : Nat} (h : PutAt s l ks bs f) : dropR (putM s l ks bs f) ((f : Int) + 1) = (s, 0) := by
  have hf' : f < (putM s l ks bs f).length := by rw [putM_length]; exact h.lt
  have h1 := out_nn h.chk f h.lt
  have h2 := h.out f h.lt
  rw [if_pos rfl] at h2
  unfold dropR
  rw [if_neg (by simp [h.check]), there_at _ f hf', h.get f h.lt hf', if_pos rfl, if_neg (by simp), outL_get _ (by omega) (by omega), show ((f : Int) + 1 - 1).toNat = f from by omega, if_neg (by omega), h.loose 2]

/-- one held once more -/
theorem keep_out (s : List Blk) (k : Nat) (hk : k < s.length) (j : Nat) : outA (addRef s ((k : Int) + 1) 1) j = outA s j + if j = k then 1 else 0 := by
  rw [addRef_at s k hk, outA_set s k hk]
  simp only
  split <;> omega
theorem keep_check (s : List Blk) (k : Nat) (hk : k < s.length) (hc : checkE s = 0) (hr : 0 < s[k].refs) (hfew : s[k].refs ≤ 999999) : checkE (addRef s ((k : Int) + 1) 1) = 0 := by
  obtain ⟨h4, hf, _, _, _⟩ := checkE_zero s hc
  have hl : (addRef s ((k : Int) + 1) 1).length = s.length := addRef_length _ _ _
  refine checkE_of _ (by omega) (fun x hx => ?_) (fun j hj => ?_)
  · obtain ⟨j, hj', rfl⟩ := List.getElem_of_mem hx
    have hj : j < s.length := by omega
    have hb := formsE_all s s hf _ (List.getElem_mem hj)
    have hri := (checkE_zero s hc).2.2.2.1 _ (List.getElem_mem hj)
    rw [addRef_get s _ 1 j hj hj' (by omega)]
    refine form_more (fun v hv => ?_) hb _ (fun e => ?_) (fun e => ?_)
    · obtain ⟨h1, h2, h3⟩ := there_ref hv
      obtain ⟨i, rfl⟩ : ∃ i : Nat, v = i + 1 := ⟨(v - 1).toNat, by omega⟩
      have hi : i < s.length := by omega
      have hi' : i < (addRef s ((k : Int) + 1) 1).length := by omega
      rw [blk_at s i hi] at h3
      rw [there_at _ i hi', blk_at _ i hi', blk_at s i hi, addRef_get s _ 1 i hi hi' (by omega)]
      simp only [decide_eq_true_eq, and_true]
      split <;> omega
    · have : ¬ ((k : Int) + 1 = (j : Int) + 1) := by
        intro e2
        obtain rfl : k = j := by omega
        omega
      rw [if_neg this]; omega
    · by_cases e2 : k = j
      · subst e2; rw [if_pos rfl]; omega
      · rw [if_neg (by omega)]; omega
  · have hj2 : j < s.length := by omega
    have := out_nn hc j hj2
    rw [keep_out s k hk]
    split <;> omega
theorem keep_drop (s : List Blk) (k : Nat) (hk : k < s.length) (hc : checkE s = 0) (hr : 0 < s[k].refs) (hfew : s[k].refs ≤ 999999) : dropR (addRef s ((k : Int) + 1) 1) ((k : Int) + 1) = (s, 0) := by
  have hl : (addRef s ((k : Int) + 1) 1).length = s.length := addRef_length _ _ _
  have hk' : k < (addRef s ((k : Int) + 1) 1).length := by omega
  have h1 := out_nn hc k hk
  have h2 := keep_out s k hk k
  rw [if_pos rfl] at h2
  have hg := addRef_get s ((k : Int) + 1) 1 k hk hk' (by omega)
  rw [if_pos rfl] at hg
  have key : looseF 4 (addRef s ((k : Int) + 1) 1) ((k : Int) + 1) = s := by
    unfold looseF
    rw [if_neg (by omega), blk_at _ k hk', hg, if_pos (by simp only; omega)]
    refine List.ext_getElem (by rw [addRef_length, addRef_length]) fun j g1 g2 => ?_
    rw [addRef_get _ _ _ j (by omega) g1 (by omega), addRef_get s _ _ j g2 (by omega) (by omega)]
    split
    · have e : ∀ x : Int, x + 1 + -1 = x := fun x => by omega
      simp [e]
    · simp
  unfold dropR
  rw [if_neg (by simp [keep_check s k hk hc hr hfew]), there_at _ k hk', hg, if_neg (by simp; omega), outL_get _ (by omega) (by omega), show ((k : Int) + 1 - 1).toNat = k from by omega, if_neg (by omega), key]

/-- what Make makes -/
theorem makeR_ok (s : List Blk) (l : Int) (ks bs : List Int) (he : (makeR s l ks bs).2.2 = 0) (hfew : ∀ x ∈ s, x.refs ≤ 999000) : PutAt s l ks bs (freeIx s) ∧ makeR s l ks bs = (putM s l ks bs (freeIx s), (freeIx s : Int) + 1, 0) := by
  unfold makeR at he ⊢
  split at he
  · rename_i h; exact absurd he h
  · rename_i hc
    split at he
    · rename_i h; exact absurd he h
    · rename_i hp
      rw [if_neg hc, if_neg hp]
      have hc0 : checkE s = 0 := by simpa using hc
      have hfe : formE s 1 l ks bs = 0 := by
        apply Classical.byContradiction
        intro h
        rw [putR_bad s l ks bs h] at he
        exact h he
      have hle := freeIx_le s
      have hlt : freeIx s < s.length := by
        apply Classical.byContradiction
        intro h
        rw [putR_full s l ks bs hfe (by omega)] at he
        simp at he
      refine ⟨⟨hlt, hc0, hfe, ?_, fun x hx => by have := hfew x hx; omega⟩, putR_ok s l ks bs hfe hlt⟩
      rcases live_of s (checkE_zero s hc0).2.1 _ (List.getElem_mem hlt) with h | h
      · exact h
      · have := freeIx_refs s hlt; omega
theorem keepR_ok (s : List Blk) (a : Int) (he : (keepR s a).2 = 0) : checkE s = 0 ∧ ∃ k : Nat, k < s.length ∧ a = (k : Int) + 1 ∧ 0 < (blk s a).refs ∧ keepR s a = (addRef s a 1, 0) := by
  unfold keepR at he ⊢
  split at he
  · rename_i h; exact absurd he h
  · rename_i hc
    split at he
    · simp at he
    · rename_i ht
      have ht' : thereB s a = true := by simpa using ht
      obtain ⟨h1, h2, h3⟩ := there_ref ht'
      rw [if_neg hc, if_neg ht]
      exact ⟨by simpa using hc, (a - 1).toNat, by omega, by omega, h3, rfl⟩
theorem dropR_ok (s : List Blk) (a : Int) (he : (dropR s a).2 = 0) : checkE s = 0 ∧ ∃ k : Nat, k < s.length ∧ a = (k : Int) + 1 ∧ 0 < outA s k ∧ dropR s a = (looseF 4 s a, 0) := by
  unfold dropR at he ⊢
  split at he
  · rename_i h; exact absurd he h
  · rename_i hc
    split at he
    · simp at he
    · rename_i ht
      split at he
      · simp at he
      · rename_i ho
        have hc0 : checkE s = 0 := by simpa using hc
        have ht' : thereB s a = true := by simpa using ht
        obtain ⟨h1, h2, h3⟩ := there_ref ht'
        rw [if_neg hc, if_neg ht, if_neg ho]
        rw [outL_get a h1 h2] at ho
        have := out_nn hc0 (a - 1).toNat (by omega)
        exact ⟨hc0, (a - 1).toNat, by omega, by omega, by omega, rfl⟩
end Go.Proofs.Ytpfopbkaddjjcaa
