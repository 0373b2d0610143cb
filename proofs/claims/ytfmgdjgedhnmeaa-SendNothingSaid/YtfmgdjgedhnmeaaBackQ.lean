/- Loose: what is held from outside, and that the store stays right. · What is dropped leaves a right store; a store that nobody holds has nothing. · What is let go one by one, in whatever order, ends in the same store. · What is reached, in plain words. · What is made and let go, or held and let go, was never there: in plain words. · What stays where one is let go; what is reached from what is held: in plain words. -/
import Derived.Test.YtfmgdjgedhnmeaaLoose
namespace Go.Proofs.Ytfmgdjgedhnmeaa
open Go.RowKit
set_option linter.unusedVariables false

/-- how often a block is held from outside -/
def outA (s : List Blk) (j : Nat) : Int := (blk s ((j : Int) + 1)).refs - (((kidsOf s).count ((j : Int) + 1) : Nat) : Int)
theorem outA_eq (s : List Blk) (j : Nat) (h : j < s.length) (h' : j < (outL s).length) : (outL s)[j] = outA s j := by
  simp [outL, outA, belowN, blk_at s j h, h]

theorem kidsOf_mid (a b : List Blk) (x : Blk) (v : Int) : (kidsOf (a ++ x :: b)).count v = (kidsOf a).count v + (x.kids.count v + (kidsOf b).count v) := by
  simp [kidsOf, List.flatMap_append, List.count_append]

theorem kids_set (s : List Blk) (k : Nat) (h : k < s.length) (x : Blk) (v : Int) : (kidsOf (s.set k x)).count v + s[k].kids.count v = (kidsOf s).count v + x.kids.count v := by
  have e1 : s = s.take k ++ s[k] :: s.drop (k + 1) := by rw [← List.drop_eq_getElem_cons h, List.take_append_drop]
  have e2 : s.set k x = s.take k ++ x :: s.drop (k + 1) := by rw [List.set_eq_take_append_cons_drop, if_pos h]
  have f1 : (kidsOf s).count v = (kidsOf (s.take k)).count v + (s[k].kids.count v + (kidsOf (s.drop (k + 1))).count v) := by
    rw [← kidsOf_mid, ← e1]
  have f2 : (kidsOf (s.set k x)).count v = (kidsOf (s.take k)).count v + (x.kids.count v + (kidsOf (s.drop (k + 1))).count v) := by
    rw [e2, kidsOf_mid]
  omega

theorem outA_set (s : List Blk) (k : Nat) (h : k < s.length) (x : Blk) (j : Nat) : outA (s.set k x) j = outA s j + (((s[k].kids.count ((j : Int) + 1) : Nat) : Int) - ((x.kids.count ((j : Int) + 1) : Nat) : Int)) + if j = k then x.refs - s[k].refs else 0 := by
  have h1 := kids_set s k h x ((j : Int) + 1)
  unfold outA
  rw [blk_set]
  by_cases e : j = k
  · subst e
    rw [if_pos ⟨by omega, h⟩, if_pos rfl, blk_at s j h]
    omega
  · rw [if_neg (fun hh => e (by omega)), if_neg e]
    omega

theorem outA_less (s : List Blk) (k : Nat) (h : k < s.length) (j : Nat) : outA (addRef s ((k : Int) + 1) (-1)) j = outA s j - if j = k then 1 else 0 := by
  rw [addRef_at s k h, outA_set s k h]
  simp only
  split <;> omega

/-- free, or held -/
def Live (s : List Blk) : Prop := ∀ x ∈ s, x = noBlk ∨ 0 < x.refs
/-- some are free now, and some are held less -/
structure Sub (s s' : List Blk) : Prop where
  len : s'.length = s.length
  each : ∀ j (h : j < s.length) (h' : j < s'.length), s'[j] = noBlk ∨ (0 < s'[j].refs ∧ s'[j].refs ≤ s[j].refs ∧ s'[j] = { s[j] with refs := s'[j].refs })

theorem Sub.refl {s : List Blk} (h : Live s) : Sub s s := ⟨rfl, fun j hj _ => (h _ (List.getElem_mem hj)).imp id fun p => ⟨p, Int.le_refl _, rfl⟩⟩
theorem Sub.live {s s' : List Blk} (h : Sub s s') : Live s' := by
  intro x hx
  obtain ⟨j, hj, rfl⟩ := List.getElem_of_mem hx
  rcases h.each j (by have := h.len; omega) hj with h1 | ⟨h1, _⟩
  · exact .inl h1
  · exact .inr h1
theorem Sub.trans {a b c : List Blk} (h : Sub a b) (k : Sub b c) : Sub a c := by
  refine ⟨k.len.trans h.len, fun j hj hj' => ?_⟩
  have hb : j < b.length := by have := h.len; omega
  rcases k.each j hb hj' with h1 | ⟨h1, h2, h3⟩
  · exact .inl h1
  · rcases h.each j hj hb with g1 | ⟨g1, g2, g3⟩
    · rw [g1] at h2; simp [noBlk] at h2; omega
    · refine .inr ⟨h1, by omega, ?_⟩
      rw [h3, g3]
theorem Sub.less {s : List Blk} (h : Live s) (k : Nat) (hk : k < s.length) (h1 : 1 < s[k].refs) : Sub s (addRef s ((k : Int) + 1) (-1)) := by
  rw [addRef_at s k hk]
  refine ⟨by simp, fun j hj hj' => ?_⟩
  rw [List.getElem_set]
  split
  · rename_i e
    subst e
    exact .inr ⟨by simp; omega, by simp; omega, rfl⟩
  · exact (h _ (List.getElem_mem hj)).imp id fun p => ⟨p, Int.le_refl _, rfl⟩
theorem Sub.free {s : List Blk} (h : Live s) (k : Nat) : Sub s (s.set k noBlk) := by
  refine ⟨by simp, fun j hj hj' => ?_⟩
  rw [List.getElem_set]
  split
  · exact .inl rfl
  · exact (h _ (List.getElem_mem hj)).imp id fun p => ⟨p, Int.le_refl _, rfl⟩

/-- an address one may let go, of a level below f -/
def Low (s : List Blk) (f : Nat) (a : Int) : Prop := a = 0 ∨ (1 ≤ a ∧ a ≤ s.length ∧ (blk s a).level < f)

structure LooseOut (s s' : List Blk) (l : List Int) : Prop where
  sub : Sub s s'
  lv : Lv s'
  lev : ∀ b, (blk s' b).level ≤ (blk s b).level
  out : ∀ j, j < s.length → outA s' j = outA s j - ((l.count ((j : Int) + 1) : Nat) : Int)

theorem looseOut_fold (f : Nat) (ih : ∀ (s : List Blk) (a : Int) (P : List Int), Lv s → Live s → Low s f a → (∀ j, j < s.length → (((a :: P).count ((j : Int) + 1) : Nat) : Int) ≤ outA s j) → LooseOut s (looseF f s a) [a]) (ks : List Int) :
    ∀ (s : List Blk) (P : List Int), Lv s → Live s → (∀ k ∈ ks, Low s f k) → (∀ j, j < s.length → (((ks ++ P).count ((j : Int) + 1) : Nat) : Int) ≤ outA s j) → LooseOut s (ks.foldl (looseF f) s) ks := by
  induction ks with
  | nil => intro s P h1 h2 _ _; exact ⟨Sub.refl h2, h1, fun _ => Int.le_refl _, fun j _ => by simp⟩
  | cons a ks hi =>
    intro s P h1 h2 h3 h4
    have p := ih s a (ks ++ P) h1 h2 (h3 a (List.mem_cons_self ..)) (fun j hj => by simpa using h4 j hj)
    have q := hi (looseF f s a) P p.lv p.sub.live (fun k hk => by
      rcases h3 k (List.mem_cons_of_mem _ hk) with h0 | ⟨g1, g2, g3⟩
      · exact .inl h0
      · have := p.lev k
        exact .inr ⟨g1, by rw [p.sub.len]; exact g2, by omega⟩) (fun j hj => by
      have hj' : j < s.length := by rw [← p.sub.len]; exact hj
      have e1 := p.out j hj'
      have e2 := h4 j hj'
      simp only [List.cons_append, List.count_cons, List.count_nil] at e1 e2
      omega)
    refine ⟨p.sub.trans q.sub, q.lv, fun b => Int.le_trans (q.lev b) (p.lev b), fun j hj => ?_⟩
    have e1 := p.out j hj
    have e2 := q.out j (by rw [p.sub.len]; exact hj)
    simp only [List.foldl_cons]
    simp only [List.count_cons, List.count_nil] at *
    omega

theorem looseOut (f : Nat) : ∀ (s : List Blk) (a : Int) (P : List Int), Lv s → Live s → Low s f a → (∀ j, j < s.length → (((a :: P).count ((j : Int) + 1) : Nat) : Int) ≤ outA s j) → LooseOut s (looseF f s a) [a] := by
  induction f with
  | zero =>
    intro s a P h1 h2 h3 h4
    have hz : a = 0 := by
      rcases h3 with h | ⟨_, _, h⟩
      · exact h
      · have := h1.lev a; omega
    subst hz
    exact ⟨Sub.refl h2, h1, fun _ => Int.le_refl _, fun j _ => by rw [List.count_cons_of_ne (by omega)]; simp [looseF]⟩
  | succ f ih =>
    intro s a P h1 h2 h3 h4
    by_cases hz : a = 0
    · subst hz
      exact ⟨by simpa [looseF] using Sub.refl h2, by simpa [looseF] using h1, fun _ => by simp [looseF], fun j _ => by rw [List.count_cons_of_ne (by omega)]; simp [looseF]⟩
    obtain ⟨g1, g2, g3⟩ := h3.resolve_left hz
    obtain ⟨k, rfl⟩ : ∃ k : Nat, a = k + 1 := ⟨(a - 1).toNat, by omega⟩
    have hk : k < s.length := by omega
    have hu : looseF (f + 1) s ((k : Int) + 1) = if 1 < s[k].refs then addRef s ((k : Int) + 1) (-1) else s[k].kids.foldl (looseF f) (s.set k noBlk) := by
      conv => lhs; unfold looseF
      rw [if_neg hz, blk_at s k hk, show ((k : Int) + 1 - 1).toNat = k from by omega]
    have hcnt : ∀ j : Nat, (([(k : Int) + 1].count ((j : Int) + 1) : Nat) : Int) = if j = k then 1 else 0 := by
      intro j
      by_cases e : j = k
      · subst e; simp
      · rw [List.count_cons_of_ne (by omega), if_neg e]; simp
    rw [hu]
    split
    · rename_i hone
      exact ⟨Sub.less h2 k hk hone, h1.addRef _ _, fun b => by rw [lev_addRef]; exact Int.le_refl _, fun j hj => by rw [outA_less s k hk, hcnt]⟩
    · rename_i hone
      have ho := h4 k hk
      simp only [List.count_cons_self] at ho
      have hoA : outA s k = s[k].refs - (((kidsOf s).count ((k : Int) + 1) : Nat) : Int) := by unfold outA; rw [blk_at s k hk]
      have hr1 : s[k].refs = 1 := by omega
      have hlk := (h1 _ (List.getElem_mem hk))
      rw [blk_at s k hk] at g3
      have hset : ∀ j, outA (s.set k noBlk) j = outA s j + ((s[k].kids.count ((j : Int) + 1) : Nat) : Int) + if j = k then 0 - s[k].refs else 0 := fun j => by
        rw [outA_set s k hk noBlk j]
        show _ + (_ - ((([] : List Int).count _ : Nat) : Int)) + (if j = k then 0 - s[k].refs else 0) = _
        simp
      have hp := looseOut_fold f ih s[k].kids (s.set k noBlk) P (h1.free k) (Sub.free h2 k).live (fun x hx => by
        rcases hlk.2.2 x hx with h0 | ⟨e1, e2, e3⟩
        · exact .inl h0
        · have := lev_free h1 k x
          exact .inr ⟨e1, by simpa using e2, by omega⟩) (fun j hj => by
        have hj' : j < s.length := by simpa using hj
        have e1 := hset j
        have e2 := h4 j hj'
        have e3 := hcnt j
        simp only [List.count_nil, List.count_cons, List.count_append] at e2 e3 ⊢
        by_cases e : j = k
        · rw [if_pos e] at e1 e3; subst e; omega
        · rw [if_neg e] at e1 e3; omega)
      refine ⟨(Sub.free h2 k).trans hp.sub, hp.lv, fun b => Int.le_trans (hp.lev b) (lev_free h1 k b), fun j hj => ?_⟩
      have e1 := hset j
      have e2 := hp.out j (by simpa using hj)
      rw [hcnt]
      by_cases e : j = k
      · rw [if_pos e] at e1 ⊢; omega
      · rw [if_neg e] at e1 ⊢; omega
end Go.Proofs.Ytfmgdjgedhnmeaa

namespace Go.Proofs.Ytfmgdjgedhnmeaa
open Go.RowKit
set_option linter.unusedVariables false

theorem formsE_of (s l : List Blk) (h : ∀ x ∈ l, formB s x = 0) : formsE s l = 0 := by
  induction l with
  | nil => rfl
  | cons x l ih =>
    simp only [formsE]
    rw [if_pos (h x (List.mem_cons_self ..))]
    exact ih fun y hy => h y (List.mem_cons_of_mem _ hy)

theorem checkE_of (s : List Blk) (h4 : s.length ≤ 400) (hf : ∀ x ∈ s, formB s x = 0) (ho : ∀ j, j < s.length → 0 ≤ outA s j) : checkE s = 0 := by
  have h1 := formsE_of s s hf
  rw [checkE_tail s (by omega) h1, if_neg]
  intro h
  rw [List.any_eq_true] at h
  obtain ⟨x, hx, h3⟩ := h
  obtain ⟨j, hj, rfl⟩ := List.getElem_of_mem hx
  have hj' : j < s.length := by rw [← outL_length]; exact hj
  have := ho j hj'
  rw [outA_eq s j hj' hj] at h3
  simp at h3
  omega

theorem formE_leaf (s : List Blk) (r : Int) (bs : List Int) (h1 : 0 < r) (h2 : r ≤ 1000000) (h3 : bs.length = 4) : formE s r 0 [] bs = 0 := by
  unfold formE
  rw [if_neg (by omega), if_neg (by omega), if_pos rfl, if_neg (by simp [h3])]
theorem formE_node (s : List Blk) (r l : Int) (ks : List Int) (h1 : 0 < r) (h2 : r ≤ 1000000) (h3 : 1 ≤ l) (h4 : l ≤ 3) (h5 : ks.length = 4) (h6 : ks.all (kidOk s l) = true) (h7 : ks.all (fun k => decide (k = 0)) = false) : formE s r l ks [] = 0 := by
  unfold formE
  rw [if_neg (by omega), if_neg (by omega), if_neg (by omega), if_neg (by simp [h5]), if_neg (by simp only [h6]; simp), if_neg (by simp only [h7]; simp)]

theorem live_of (s : List Blk) (h : formsE s s = 0) : Live s := by
  intro x hx
  rcases formB_zero s x (formsE_all s s h x hx) with ⟨h1, h2, h3, h4⟩ | ⟨h1, _⟩ | ⟨h1, _⟩
  · refine .inl ?_
    obtain ⟨r, l, ks, bs⟩ := x
    simp only at h1 h2 h3 h4
    subst h1 h2 h3 h4
    rfl
  · exact .inr h1
  · exact .inr h1

theorem mem_kidsOf {s : List Blk} {j : Nat} (h : j < s.length) {v : Int} (hv : v ∈ s[j].kids) : 0 < (kidsOf s).count v :=
  List.count_pos_iff.2 (List.mem_flatMap.2 ⟨s[j], List.getElem_mem h, hv⟩)

/-- parts of a right store that are held enough are right -/
theorem sub_check (s s' : List Blk) (hc : checkE s = 0) (hs : Sub s s') (ho : ∀ j, j < s.length → 0 ≤ outA s' j) : checkE s' = 0 := by
  obtain ⟨h4, hf, _, _, _⟩ := checkE_zero s hc
  have hl := hs.len
  refine checkE_of s' (by omega) (fun x hx => ?_) (fun j hj => ho j (by omega))
  obtain ⟨j, hj, rfl⟩ := List.getElem_of_mem hx
  have hjs : j < s.length := by omega
  rcases hs.each j hjs hj with h1 | ⟨h1, h2, h3⟩
  · rw [h1]; simp [formB, formE, noBlk]
  have hk : s'[j].kids = s[j].kids := by rw [h3]
  have hlv : s'[j].level = s[j].level := by rw [h3]
  have hby : s'[j].bytes = s[j].bytes := by rw [h3]
  unfold formB
  rcases formB_zero s s[j] (formsE_all s s hf _ (List.getElem_mem hjs)) with ⟨e1, _⟩ | ⟨_, e2, e3, e4, e5⟩ | ⟨_, e2, e3, e4, e5, e6, e7, e8⟩
  · omega
  · rw [hk, hlv, hby, e3, e4]
    exact formE_leaf _ _ _ h1 (by omega) e5
  · rw [hk, hlv, hby, e6]
    refine formE_node _ _ _ _ h1 (by omega) e3 e4 e5 ?_ e8
    rw [List.all_eq_true]
    intro v hv
    have hv0 := List.all_eq_true.1 e7 v hv
    unfold kidOk at hv0 ⊢
    simp only [Bool.or_eq_true, decide_eq_true_eq, Bool.and_eq_true] at hv0 ⊢
    rcases hv0 with h0 | ⟨g1, g2⟩
    · exact .inl h0
    · refine .inr ?_
      obtain ⟨i, hi, rfl, _⟩ := there_in g1
      have hi' : i < s'.length := by omega
      have hcnt := mem_kidsOf hj (v := (i : Int) + 1) (by rw [hk]; exact hv)
      have hoi := ho i hi
      unfold outA at hoi
      rw [blk_at s' i hi'] at hoi
      rw [there_at s' i hi', blk_at s' i hi']
      rw [blk_at s i hi] at g2
      have hr : 0 < s'[i].refs := by omega
      rcases hs.each i hi hi' with q1 | ⟨_, _, q3⟩
      · rw [q1] at hr; simp [noBlk] at hr
      · refine ⟨by simpa using hr, ?_⟩
        rw [q3]; exact g2

/-- a block that nobody outside holds has one above -/
theorem above (s : List Blk) (hc : checkE s = 0) (hz : ∀ n ∈ outL s, n = 0) (j : Nat) (hj : j < s.length) (hr : 0 < s[j].refs) : ∃ i, ∃ hi : i < s.length, 0 < s[i].refs ∧ s[i].level = s[j].level + 1 ∧ s[i].level ≤ 3 := by
  obtain ⟨h4, hf, _, _, _⟩ := checkE_zero s hc
  have hj' : j < (outL s).length := by rw [outL_length]; exact hj
  have h0 := hz _ (List.getElem_mem hj')
  rw [outA_eq s j hj hj'] at h0
  unfold outA at h0
  rw [blk_at s j hj] at h0
  have hc : 0 < (kidsOf s).count ((j : Int) + 1) := by omega
  obtain ⟨x, hx, hv⟩ := List.mem_flatMap.1 (List.count_pos_iff.1 hc)
  obtain ⟨i, hi, rfl⟩ := List.getElem_of_mem hx
  refine ⟨i, hi, ?_⟩
  rcases formB_zero s s[i] (formsE_all s s hf _ (List.getElem_mem hi)) with ⟨_, _, e, _⟩ | ⟨_, _, _, e, _⟩ | ⟨e1, e2, e3, e4, e5, e6, e7, e8⟩
  · rw [e] at hv; cases hv
  · rw [e] at hv; cases hv
  · have hv0 := List.all_eq_true.1 e7 _ hv
    unfold kidOk at hv0
    simp only [Bool.or_eq_true, decide_eq_true_eq, Bool.and_eq_true] at hv0
    rcases hv0 with g | ⟨_, g⟩
    · omega
    · rw [blk_at s j hj] at g
      exact ⟨e1, by omega, e4⟩

end Go.Proofs.Ytfmgdjgedhnmeaa

namespace Go.Proofs.Ytfmgdjgedhnmeaa
open Go.RowKit
set_option linter.unusedVariables false

theorem Sub.lv {s t : List Blk} (h : Sub s t) (hl : Lv s) : Lv t := by
  have hlev : ∀ b, (blk t b).level ≤ (blk s b).level := by
    intro b
    by_cases hb : (b - 1).toNat < s.length
    · have hb' : (b - 1).toNat < t.length := by have := h.len; omega
      have e1 : blk t b = t[(b - 1).toNat] := by unfold blk; rw [List.getElem?_eq_getElem hb']; rfl
      have e2 : blk s b = s[(b - 1).toNat] := by unfold blk; rw [List.getElem?_eq_getElem hb]; rfl
      rw [e1, e2]
      rcases h.each _ hb hb' with h1 | ⟨_, _, h3⟩
      · rw [h1]; exact (hl _ (List.getElem_mem hb)).1
      · rw [h3]; exact Int.le_refl _
    · have hb' : ¬ (b - 1).toNat < t.length := by have := h.len; omega
      have e1 : blk t b = noBlk := by unfold blk; rw [List.getElem?_eq_none (by omega)]; rfl
      have e2 : blk s b = noBlk := by unfold blk; rw [List.getElem?_eq_none (by omega)]; rfl
      rw [e1, e2]; exact Int.le_refl _
  intro x hx
  obtain ⟨j, hj, rfl⟩ := List.getElem_of_mem hx
  have hjs : j < s.length := by have := h.len; omega
  rcases h.each j hjs hj with h1 | ⟨_, _, h3⟩
  · rw [h1]; exact ⟨by simp [noBlk], by simp [noBlk], fun k hk => by simp [noBlk] at hk⟩
  · obtain ⟨p1, p2, p3⟩ := hl _ (List.getElem_mem hjs)
    rw [h3]
    refine ⟨p1, p2, fun k hk => ?_⟩
    rcases p3 k hk with h0 | ⟨q1, q2, q3⟩
    · exact .inl h0
    · have := hlev k
      exact .inr ⟨q1, by rw [h.len]; exact q2, by simp only; omega⟩

theorem Sub.kids {s t : List Blk} (h : Sub s t) (i : Nat) (hs : i < s.length) (ht : i < t.length) (v : Int) (hv : v ∈ t[i].kids) : v ∈ s[i].kids ∧ t[i].kids = s[i].kids := by
  rcases h.each i hs ht with h1 | ⟨_, _, h3⟩
  · rw [h1] at hv; simp [noBlk] at hv
  · rw [h3] at hv ⊢; exact ⟨hv, rfl⟩

theorem count_kids_congr {t u : List Blk} (hl : t.length = u.length) (v : Int) (h : ∀ i (ht : i < t.length) (hu : i < u.length), t[i].kids.count v = u[i].kids.count v) : (kidsOf t).count v = (kidsOf u).count v := by
  unfold kidsOf
  rw [List.count_flatMap, List.count_flatMap]
  congr 1
  apply List.ext_getElem
  · simpa using hl
  · intro i h1 h2
    simp only [List.getElem_map, Function.comp]
    exact h i (by simpa using h1) (by simpa using h2)

/-- of a store and what is let go of it at each place there is one outcome -/
theorem sub_unique (s t u : List Blk) (hlv : Lv s) (h3 : ∀ x ∈ s, x.level ≤ 3) (ht : Sub s t) (hu : Sub s u) (ho : ∀ j, j < s.length → outA t j = outA u j) : t = u := by
  have lt := ht.len
  have lu := hu.len
  have key : ∀ n : Nat, ∀ j (hs : j < s.length) (hjt : j < t.length) (hju : j < u.length), 3 - s[j].level < n → t[j] = u[j] := by
    intro n
    induction n with
    | zero => intro j hs _ _ h; have := h3 _ (List.getElem_mem hs); omega
    | succ n ih =>
      intro j hs hjt hju hn
      have hc : (kidsOf t).count ((j : Int) + 1) = (kidsOf u).count ((j : Int) + 1) := by
        refine count_kids_congr (by omega) _ fun i hit hiu => ?_
        have his : i < s.length := by omega
        by_cases hm : ((j : Int) + 1) ∈ s[i].kids
        · obtain ⟨_, _, p3⟩ := hlv _ (List.getElem_mem his)
          rcases p3 _ hm with h0 | ⟨_, _, q3⟩
          · omega
          · rw [blk_at s j hs] at q3
            rw [ih i his hit hiu (by omega)]
        · rw [List.count_eq_zero_of_not_mem (fun hv => hm (ht.kids i his hit _ hv).1), List.count_eq_zero_of_not_mem (fun hv => hm (hu.kids i his hiu _ hv).1)]
      have h1 := ho j hs
      unfold outA at h1
      rw [hc, blk_at t j hjt, blk_at u j hju] at h1
      have hr : t[j].refs = u[j].refs := by omega
      rcases ht.each j hs hjt with e1 | ⟨e1, _, e3⟩
      · rcases hu.each j hs hju with g1 | ⟨g1, _, g3⟩
        · rw [e1, g1]
        · rw [e1] at hr; simp [noBlk] at hr; omega
      · rcases hu.each j hs hju with g1 | ⟨g1, _, g3⟩
        · rw [g1] at hr; simp [noBlk] at hr; omega
        · rw [e3, g3, hr]
  apply List.ext_getElem (by omega)
  intro j h1 h2
  exact key ((3 - (s[j]'(by omega)).level).toNat + 1) j (by omega) h1 h2 (by omega)

/-- some are let go already; these are to come -/
structure Going (s : List Blk) (a : Int) (t : List Blk) (q : List Int) : Prop where
  sub : Sub s t
  adr : ∀ k ∈ q, k = 0 ∨ (1 ≤ k ∧ k ≤ s.length)
  out : ∀ j, j < s.length → outA t j = outA s j - (([a].count ((j : Int) + 1) : Nat) : Int) + ((q.count ((j : Int) + 1) : Nat) : Int)

/-- one may be let go at a -/
def Letting (s : List Blk) (a : Int) : Prop := ∀ j, j < s.length → (([a].count ((j : Int) + 1) : Nat) : Int) ≤ outA s j

theorem Going.done {s : List Blk} {a : Int} {t : List Blk} (h : Going s a t []) (hlv : Lv s) (h3 : ∀ x ∈ s, x.level ≤ 3) (hl : Live s) (ha : a = 0 ∨ (1 ≤ a ∧ a ≤ s.length)) (hp : Letting s a) : t = looseF 4 s a := by
  have q := looseOut 4 s a [] hlv hl (by
    rcases ha with h0 | ⟨h1, h2⟩
    · exact .inl h0
    · refine .inr ⟨h1, h2, ?_⟩
      unfold blk
      cases e : s[(a - 1).toNat]? with
      | none => simp [noBlk]
      | some y => have := h3 _ (List.mem_of_getElem? e); simp only [Option.getD_some]; omega) hp
  refine sub_unique s t _ hlv h3 h.sub q.sub fun j hj => ?_
  rw [h.out j hj, q.out j hj]
  simp

theorem Going.zero {s : List Blk} {a : Int} {t : List Blk} {q : List Int} (h : Going s a t (0 :: q)) : Going s a t q :=
  ⟨h.sub, fun k hk => h.adr k (List.mem_cons_of_mem _ hk), fun j hj => by
    have h1 := h.out j hj
    have h2 : (0 :: q).count ((j : Int) + 1) = q.count ((j : Int) + 1) := List.count_cons_of_ne (by omega)
    rw [h2] at h1
    exact h1⟩

theorem count_cons_at (k j : Nat) (q : List Int) : (((((k : Int) + 1) :: q).count ((j : Int) + 1) : Nat) : Int) = (q.count ((j : Int) + 1) : Nat) + if j = k then 1 else 0 := by
  by_cases e : j = k
  · subst e; simp
  · rw [List.count_cons_of_ne (by omega), if_neg e]; omega

/-- the next one is there -/
theorem Going.refs {s : List Blk} {a : Int} {t : List Blk} {q : List Int} {k : Nat} (h : Going s a t (((k : Int) + 1) :: q)) (hp : Letting s a) (hk : k < t.length) : 0 < t[k].refs := by
  have hks : k < s.length := by have := h.sub.len; omega
  have h1 := h.out k hks
  have h2 := hp k hks
  rw [count_cons_at, if_pos rfl] at h1
  unfold outA at h1 h2
  rw [blk_at t k hk] at h1
  omega

theorem Going.less {s : List Blk} {a : Int} {t : List Blk} {q : List Int} {k : Nat} (h : Going s a t (((k : Int) + 1) :: q)) (hk : k < t.length) (h1 : 1 < t[k].refs) : Going s a (t.set k { t[k] with refs := t[k].refs - 1 }) q := by
  have e : t.set k { t[k] with refs := t[k].refs - 1 } = addRef t ((k : Int) + 1) (-1) := by rw [addRef_at t k hk]; rfl
  rw [e]
  refine ⟨h.sub.trans (Sub.less h.sub.live k hk h1), fun x hx => h.adr x (List.mem_cons_of_mem _ hx), fun j hj => ?_⟩
  have h2 := h.out j hj
  rw [count_cons_at] at h2
  rw [outA_less t k hk]
  omega

theorem Going.free {s : List Blk} {a : Int} {t : List Blk} {q : List Int} {k : Nat} (h : Going s a t (((k : Int) + 1) :: q)) (hlv : Lv s) (hp : Letting s a) (hk : k < t.length) (h1 : ¬ 1 < t[k].refs) : Going s a (t.set k noBlk) (q ++ t[k].kids) := by
  have hr := h.refs hp hk
  have hks : k < s.length := by have := h.sub.len; omega
  have hset : ∀ j, outA (t.set k noBlk) j = outA t j + ((t[k].kids.count ((j : Int) + 1) : Nat) : Int) + if j = k then 0 - t[k].refs else 0 := fun j => by
    rw [outA_set t k hk noBlk j]
    show _ + (_ - ((([] : List Int).count _ : Nat) : Int)) + (if j = k then 0 - t[k].refs else 0) = _
    simp
  refine ⟨h.sub.trans (Sub.free h.sub.live k), fun x hx => ?_, fun j hj => ?_⟩
  · rcases List.mem_append.1 hx with h2 | h2
    · exact h.adr x (List.mem_cons_of_mem _ h2)
    · obtain ⟨_, _, p3⟩ := (h.sub.lv hlv) _ (List.getElem_mem hk)
      rcases p3 x h2 with h0 | ⟨g1, g2, _⟩
      · exact .inl h0
      · exact .inr ⟨g1, by rw [← h.sub.len]; exact g2⟩
  · have h2 := h.out j hj
    have e1 := hset j
    rw [count_cons_at] at h2
    rw [e1, List.count_append]
    by_cases e : j = k
    · rw [if_pos e] at h2 ⊢; omega
    · rw [if_neg e] at h2 ⊢; omega

/-- how long it may take -/
def liveN (t : List Blk) : Nat := (t.filter fun x => decide (0 < x.refs)).length
theorem liveN_le (t : List Blk) : liveN t ≤ t.length := List.length_filter_le _ _
end Go.Proofs.Ytfmgdjgedhnmeaa

namespace Go.Proofs.Ytfmgdjgedhnmeaa
open Go.RowKit
set_option linter.unusedVariables false

/-- a block, and all that is below it -/
def reachF : Nat → List Blk → Int → List Int
  | 0, _, _ => []
  | f + 1, s, a => if a = 0 then [] else a :: (blk s a).kids.flatMap (reachF f s)

def allF (s : List Blk) (roots : List Int) : List Int := roots.flatMap (reachF 4 s)
def addrs (s : List Blk) : List Int := (List.range s.length).map fun (i : Nat) => (i : Int) + 1
def reachL (s : List Blk) (roots : List Int) : List Int := (addrs s).filter fun x => decide (x ∈ allF s roots)
def rootsOk (s : List Blk) (roots : List Int) : Bool := roots.all fun a => decide (a = 0) || thereB s a
def reachR (s : List Blk) (roots : List Int) : List Int × Int :=
  if checkE s ≠ 0 then ([], checkE s) else if rootsOk s roots = false then ([], 5) else (reachL s roots, 0)

/-- what one has below is there, and one lower; nothing stands above the top -/
structure Tiers (s : List Blk) : Prop where
  kid : ∀ a, thereB s a = true → ∀ k ∈ (blk s a).kids, k = 0 ∨ (thereB s k = true ∧ (blk s k).level = (blk s a).level - 1)
  lev : ∀ a, thereB s a = true → 0 ≤ (blk s a).level ∧ (blk s a).level ≤ 3
  leaf : ∀ a, thereB s a = true → (blk s a).level = 0 → (blk s a).kids = []

theorem tiers_of (s : List Blk) (h : formsE s s = 0) : Tiers s := by
  have key : ∀ a, thereB s a = true → formB s (blk s a) = 0 ∧ 0 < (blk s a).refs := by
    intro a ha
    obtain ⟨k, hk, rfl, hr⟩ := there_in ha
    rw [blk_at s k hk]
    rw [List.getElem?_eq_getElem hk] at hr
    exact ⟨formsE_all s s h _ (List.getElem_mem hk), hr⟩
  refine ⟨fun a ha k hk => ?_, fun a ha => ?_, fun a ha hl => ?_⟩ <;> obtain ⟨h1, h2⟩ := key a ha <;> rcases formB_zero s _ h1 with ⟨e, _⟩ | ⟨_, _, e1, e2, _⟩ | ⟨_, _, e1, e2, e3, e4, e5, _⟩
  · omega
  · rw [e2] at hk; cases hk
  · have := List.all_eq_true.1 e5 k hk
    unfold kidOk at this
    simpa using this
  · omega
  · omega
  · omega
  · omega
  · exact e2
  · omega

theorem flatMap_congr' {α β : Type} (l : List α) (f g : α → List β) (h : ∀ x ∈ l, f x = g x) : l.flatMap f = l.flatMap g := by
  induction l with
  | nil => rfl
  | cons x l ih => rw [List.flatMap_cons, List.flatMap_cons, h x (by simp), ih fun y hy => h y (by simp [hy])]

/-- more fuel than levels changes nothing -/
theorem reach_fuel {s : List Blk} (h : Tiers s) : ∀ (f : Nat) (a : Int), thereB s a = true → (blk s a).level < f → ∀ g : Nat, (blk s a).level < g → reachF f s a = reachF g s a := by
  intro f
  induction f with
  | zero => intro a ha hf; have := (h.lev a ha).1; omega
  | succ f ih =>
    intro a ha hf g hg
    cases g with
    | zero => have := (h.lev a ha).1; omega
    | succ g =>
      unfold reachF
      split
      · rfl
      · congr 1
        have hm : ∀ k ∈ (blk s a).kids, reachF f s k = reachF g s k := by
          intro k hk
          rcases h.kid a ha k hk with h0 | ⟨h1, h2⟩
          · subst h0
            cases f <;> cases g <;> simp [reachF]
          · exact ih k h1 (by omega) g (by omega)
        exact flatMap_congr' _ _ _ hm

theorem there_ne {s : List Blk} {a : Int} (h : thereB s a = true) : a ≠ 0 := by
  intro e; subst e; rw [there_low s 0 (by omega)] at h; cases h

/-- a block is reached from itself, and what its kids reach -/
theorem reach_mem {s : List Blk} (h : Tiers s) (a : Int) (ha : thereB s a = true) (x : Int) : x ∈ reachF 4 s a ↔ x = a ∨ ∃ k ∈ (blk s a).kids, x ∈ reachF 4 s k := by
  have hl := h.lev a ha
  conv => lhs; unfold reachF
  rw [if_neg (there_ne ha), List.mem_cons, List.mem_flatMap]
  refine or_congr Iff.rfl (exists_congr fun k => ?_)
  refine and_congr_right fun hk => ?_
  rcases h.kid a ha k hk with h0 | ⟨h1, h2⟩
  · subst h0; simp [reachF]
  · rw [reach_fuel h 3 k h1 (by omega) 4 (by omega)]

theorem reach_zero (s : List Blk) (f : Nat) : reachF f s 0 = [] := by cases f <;> simp [reachF]

theorem reach_self {s : List Blk} (h : Tiers s) {a : Int} (ha : thereB s a = true) : a ∈ reachF 4 s a := (reach_mem h a ha a).2 (.inl rfl)

/-- an induction from below -/
theorem tier_ind {s : List Blk} (h : Tiers s) (P : Int → Prop) (hp : ∀ a, thereB s a = true → (∀ k ∈ (blk s a).kids, thereB s k = true → P k) → P a) : ∀ a, thereB s a = true → P a := by
  have key : ∀ (n : Nat) (a : Int), thereB s a = true → (blk s a).level < n → P a := by
    intro n
    induction n with
    | zero => intro a ha hl; have := (h.lev a ha).1; omega
    | succ n ih =>
      intro a ha hl
      refine hp a ha fun k hk hkt => ?_
      rcases h.kid a ha k hk with h0 | ⟨h1, h2⟩
      · exact absurd h0 (there_ne hkt)
      · exact ih k h1 (by omega)
  intro a ha
  have := h.lev a ha
  exact key 4 a ha (by omega)

theorem reach_there {s : List Blk} (h : Tiers s) (a : Int) (ha : thereB s a = true) : ∀ x ∈ reachF 4 s a, thereB s x = true := by
  refine tier_ind h (fun a => ∀ x ∈ reachF 4 s a, thereB s x = true) (fun a ha ih x hx => ?_) a ha
  rcases (reach_mem h a ha x).1 hx with h1 | ⟨k, hk, hx⟩
  · rw [h1]; exact ha
  · rcases h.kid a ha k hk with h0 | ⟨h1, _⟩
    · rw [h0, reach_zero] at hx; cases hx
    · exact ih k hk h1 x hx

theorem reach_trans {s : List Blk} (h : Tiers s) (a : Int) (ha : thereB s a = true) : ∀ x ∈ reachF 4 s a, ∀ y ∈ reachF 4 s x, y ∈ reachF 4 s a := by
  refine tier_ind h (fun a => ∀ x ∈ reachF 4 s a, ∀ y ∈ reachF 4 s x, y ∈ reachF 4 s a) (fun a ha ih x hx y hy => ?_) a ha
  rcases (reach_mem h a ha x).1 hx with h1 | ⟨k, hk, hx⟩
  · rw [← h1]; exact hy
  · rcases h.kid a ha k hk with h0 | ⟨h1, _⟩
    · rw [h0, reach_zero] at hx; cases hx
    · exact (reach_mem h a ha y).2 (.inr ⟨k, hk, ih k hk h1 x hx y hy⟩)

theorem reach_kid {s : List Blk} (h : Tiers s) {a : Int} (ha : thereB s a = true) {k : Int} (hk : k ∈ (blk s a).kids) (hkt : thereB s k = true) : k ∈ reachF 4 s a := (reach_mem h a ha k).2 (.inr ⟨k, hk, reach_self h hkt⟩)

/-- what holds of a and goes down to the kids holds of all that is reached -/
theorem reach_ind {s : List Blk} (h : Tiers s) (P : Int → Prop) (hs : ∀ a, thereB s a = true → P a → ∀ k ∈ (blk s a).kids, thereB s k = true → P k) : ∀ a, thereB s a = true → P a → ∀ x ∈ reachF 4 s a, P x := by
  refine tier_ind h (fun a => P a → ∀ x ∈ reachF 4 s a, P x) (fun a ha ih hp x hx => ?_)
  rcases (reach_mem h a ha x).1 hx with h1 | ⟨k, hk, hx⟩
  · rw [h1]; exact hp
  · rcases h.kid a ha k hk with h0 | ⟨h1, _⟩
    · rw [h0, reach_zero] at hx; cases hx
    · exact ih k hk h1 (hs a ha hp k hk h1) x hx

/-- closed: of each seen one of a level below f all is seen -/
def Clos (s : List Blk) (f : Int) (S : List Int) : Prop := ∀ x ∈ S, thereB s x = true ∧ ((blk s x).level < f → ∀ y ∈ reachF 4 s x, y ∈ S)

theorem Clos.lower {s : List Blk} {f g : Int} {S : List Int} (h : Clos s f S) (hg : g ≤ f) : Clos s g S := fun x hx => ⟨(h x hx).1, fun hl => (h x hx).2 (by omega)⟩
theorem Clos.add {s : List Blk} {f : Int} {S : List Int} (h : Clos s (f + 1) S) {a : Int} (ha : thereB s a = true) (hl : (blk s a).level = f) : Clos s f (S ++ [a]) := by
  intro x hx
  rcases List.mem_append.1 hx with h1 | h1
  · exact ⟨(h x h1).1, fun hx => fun y hy => List.mem_append.2 (.inl ((h x h1).2 (by omega) y hy))⟩
  · simp at h1; subst h1; exact ⟨ha, fun hx => by omega⟩
/-- S' is S and what a reaches -/
def Seen (s : List Blk) (S : List Int) (a : Int) (S' : List Int) : Prop := ∀ x, x ∈ S' ↔ x ∈ S ∨ x ∈ reachF 4 s a
theorem Seen.clos {s : List Blk} (ht : Tiers s) {f : Int} {S S' : List Int} {a : Int} (h : Seen s S a S') (hc : Clos s f S) (ha : a = 0 ∨ thereB s a = true) : Clos s f S' := by
  intro x hx
  rcases (h x).1 hx with h1 | h1
  · exact ⟨(hc x h1).1, fun hl y hy => (h y).2 (.inl ((hc x h1).2 hl y hy))⟩
  · rcases ha with h0 | h0
    · rw [h0, reach_zero] at h1; cases h1
    · exact ⟨reach_there ht a h0 x h1, fun _ y hy => (h y).2 (.inr (reach_trans ht a h0 x h1 y hy))⟩
theorem Seen.zero (s : List Blk) (S : List Int) : Seen s S 0 S := fun x => by rw [reach_zero]; simp
theorem Seen.old {s : List Blk} {f : Int} {S : List Int} {a : Int} (hc : Clos s f S) (ha : a ∈ S) (hl : (blk s a).level < f) : Seen s S a S := fun x => ⟨.inl, fun h => h.elim id fun h => (hc a ha).2 hl x h⟩

/-- how many are seen at most -/
theorem nodup_len : ∀ (n : Nat) (S : List Int), S.Nodup → (∀ x ∈ S, 1 ≤ x ∧ x ≤ n) → S.length ≤ n := by
  intro n
  induction n with
  | zero =>
    intro S _ h
    cases S with
    | nil => simp
    | cons x S => have := h x (by simp); omega
  | succ n ih =>
    intro S hn h
    have h1 := ih (S.erase ((n : Int) + 1)) (hn.erase _) (fun x hx => by
      have := (hn.mem_erase_iff).1 hx
      have h2 := h x this.2
      omega)
    have h3 := List.le_length_erase (a := ((n : Int) + 1)) (l := S)
    omega
theorem seen_len {s : List Blk} {S : List Int} (hn : S.Nodup) (h : ∀ x ∈ S, thereB s x = true) : S.length ≤ s.length := by
  refine nodup_len _ S hn fun x hx => ?_
  obtain ⟨k, hk, rfl, _⟩ := there_in (h x hx)
  omega

/-- the walk over the roots -/
def RootsSeen (s : List Blk) (roots : List Int) (S : List Int) : Prop := ∀ x, x ∈ S ↔ x ∈ allF s roots
theorem allF_snoc (s : List Blk) (l : List Int) (a : Int) (x : Int) : x ∈ allF s (l ++ [a]) ↔ x ∈ allF s l ∨ x ∈ reachF 4 s a := by simp [allF, List.flatMap_append]
theorem rootsOk_snoc (s : List Blk) (l : List Int) (a : Int) : rootsOk s (l ++ [a]) = (rootsOk s l && (decide (a = 0) || thereB s a)) := by simp [rootsOk, List.all_append]

/-- the list that is told: those seen up to k -/
def toldTo (s : List Blk) (S : List Int) (k : Nat) : List Int := ((List.range k).map fun (i : Nat) => (i : Int) + 1).filter fun x => decide (x ∈ S)
theorem toldTo_succ (s : List Blk) (S : List Int) (k : Nat) : toldTo s S (k + 1) = toldTo s S k ++ if (k : Int) + 1 ∈ S then [(k : Int) + 1] else [] := by
  unfold toldTo
  rw [List.range_succ, List.map_append, List.filter_append]
  congr 1
  by_cases h : (k : Int) + 1 ∈ S <;> simp [h]
theorem toldTo_len (s : List Blk) (S : List Int) (k : Nat) : (toldTo s S k).length ≤ k := by
  unfold toldTo
  refine Nat.le_trans (List.length_filter_le _ _) (by simp)
theorem told_all (s : List Blk) (roots S : List Int) (h : RootsSeen s roots S) : toldTo s S s.length = reachL s roots := by
  unfold toldTo reachL addrs
  congr 1
  funext x
  rw [decide_eq_decide]
  exact h x
end Go.Proofs.Ytfmgdjgedhnmeaa

namespace Go.Proofs.Ytfmgdjgedhnmeaa
open Go.RowKit
set_option linter.unusedVariables false

theorem blk_in {s : List Blk} {a : Int} (h1 : 1 ≤ a) (h2 : a ≤ s.length) : blk s a = s[(a - 1).toNat]'(by omega) := by
  unfold blk
  rw [List.getElem?_eq_getElem (by omega)]; rfl

theorem addRef_get (s : List Blk) (a d : Int) (j : Nat) (h : j < s.length) (h' : j < (addRef s a d).length) (h1 : 1 ≤ a) : (addRef s a d)[j] = { s[j] with refs := s[j].refs + if a = (j : Int) + 1 then d else 0 } := by
  have e0 : (addRef s a d)[j] = (s.set (a - 1).toNat { blk s a with refs := (blk s a).refs + d })[j]'(by simpa using h) := rfl
  rw [e0, List.getElem_set]
  by_cases e : (a - 1).toNat = j
  · have ea : a = (j : Int) + 1 := by omega
    rw [if_pos e, if_pos ea]
    subst ea
    rw [blk_at s j h]
  · rw [if_neg e, if_neg (by omega)]
    simp

/-- these addresses are none, or within -/
def Adr (s : List Blk) (ks : List Int) : Prop := ∀ k ∈ ks, k = 0 ∨ (1 ≤ k ∧ k ≤ s.length)
theorem Adr.len {s t : List Blk} {ks : List Int} (h : Adr s ks) (e : t.length = s.length) : Adr t ks := fun k hk => by rw [e]; exact h k hk
theorem bump_cons (s : List Blk) (k : Int) (ks : List Int) : bump s (k :: ks) = bump (if 0 < k then addRef s k 1 else s) ks := rfl

theorem bump_get (ks : List Int) : ∀ (s : List Blk) (j : Nat) (h : j < s.length) (h' : j < (bump s ks).length), Adr s ks → (bump s ks)[j] = { s[j] with refs := s[j].refs + ((ks.count ((j : Int) + 1) : Nat) : Int) } := by
  induction ks with
  | nil => intro s j h h' _; simp [bump]
  | cons k ks ih =>
    intro s j h h' ha
    have hk := ha k (List.mem_cons_self ..)
    have ht : Adr s ks := fun x hx => ha x (List.mem_cons_of_mem _ hx)
    by_cases h0 : 0 < k
    · have e : bump s (k :: ks) = bump (addRef s k 1) ks := by rw [bump_cons, if_pos h0]
      have hl : (addRef s k 1).length = s.length := addRef_length _ _ _
      have h2 := ih (addRef s k 1) j (by omega) (by rw [bump_length]; omega) (ht.len hl)
      have h3 : (bump s (k :: ks))[j] = (bump (addRef s k 1) ks)[j]'(by rw [bump_length]; omega) := by simp only [e]
      rw [h3, h2, addRef_get s k 1 j h (by omega) (by omega), List.count_cons]
      simp only [Blk.mk.injEq, and_true]
      by_cases e2 : k = (j : Int) + 1
      · subst e2; simp; omega
      · have : (k == (j : Int) + 1) = false := by rw [beq_eq_false_iff_ne]; exact e2
        rw [if_neg e2, this]; simp
    · have e : bump s (k :: ks) = bump s ks := by rw [bump_cons, if_neg h0]
      have h2 := ih s j h (by rw [bump_length]; omega) ht
      have h3 : (bump s (k :: ks))[j] = (bump s ks)[j]'(by rw [bump_length]; omega) := by simp only [e]
      have : (k == (j : Int) + 1) = false := by rw [beq_eq_false_iff_ne]; omega
      rw [h3, h2, List.count_cons, this]
      simp

theorem kidsOf_addRef (s : List Blk) (a d : Int) : kidsOf (addRef s a d) = kidsOf s := by
  have h : (addRef s a d).map Blk.kids = s.map Blk.kids := by
    refine List.ext_getElem (by simp [addRef]) fun j h1 h2 => ?_
    have hj : j < s.length := by simpa using h2
    simp only [List.getElem_map, addRef, List.getElem_set]
    split
    · rename_i e
      subst e
      unfold blk
      rw [List.getElem?_eq_getElem hj]; rfl
    · rfl
  unfold kidsOf
  rw [List.flatMap_def, List.flatMap_def, h]
theorem kidsOf_bump (ks : List Int) : ∀ s : List Blk, kidsOf (bump s ks) = kidsOf s := by
  induction ks with
  | nil => intro s; rfl
  | cons k ks ih =>
    intro s
    rw [bump_cons, ih]
    split
    · exact kidsOf_addRef _ _ _
    · rfl

theorem usedN_set (s : List Blk) (k : Nat) (h : k < s.length) (x : Blk) : usedN (s.set k x) + (if 0 < s[k].refs then 1 else 0) = usedN s + if 0 < x.refs then 1 else 0 := by
  have e1 : s = s.take k ++ s[k] :: s.drop (k + 1) := by rw [← List.drop_eq_getElem_cons h, List.take_append_drop]
  have e2 : s.set k x = s.take k ++ x :: s.drop (k + 1) := by rw [List.set_eq_take_append_cons_drop, if_pos h]
  have f1 : usedN s = usedN (s.take k ++ s[k] :: s.drop (k + 1)) := by rw [← e1]
  have key : ∀ (a b : List Blk) (y : Blk), usedN (a ++ y :: b) = usedN a + usedN b + if 0 < y.refs then 1 else 0 := by
    intro a b y
    unfold usedN
    rw [List.filter_append, List.filter_cons]
    by_cases hy : 0 < y.refs
    · simp [hy]; omega
    · simp [hy]
  rw [e2, f1, key, key]
  omega

theorem usedN_bump (ks : List Int) : ∀ s : List Blk, (∀ k ∈ ks, k = 0 ∨ (1 ≤ k ∧ k ≤ s.length ∧ 0 < (blk s k).refs)) → usedN (bump s ks) = usedN s := by
  induction ks with
  | nil => intro s _; rfl
  | cons k ks ih =>
    intro s h
    rw [bump_cons]
    rcases h k (List.mem_cons_self ..) with h0 | ⟨h1, h2, h3⟩
    · rw [if_neg (by omega)]
      exact ih s fun x hx => h x (List.mem_cons_of_mem _ hx)
    · rw [if_pos (by omega), ih]
      · obtain ⟨j, rfl⟩ : ∃ j : Nat, k = j + 1 := ⟨(k - 1).toNat, by omega⟩
        have hj : j < s.length := by omega
        rw [addRef_at s j hj]
        have := usedN_set s j hj { s[j] with refs := s[j].refs + 1 }
        rw [blk_at s j hj] at h3
        rw [if_pos h3, if_pos (by simp only; omega)] at this
        omega
      · intro x hx
        rcases h x (List.mem_cons_of_mem _ hx) with g0 | ⟨g1, g2, g3⟩
        · exact .inl g0
        · refine .inr ⟨g1, by rw [addRef_length]; exact g2, ?_⟩
          rw [blk_in g1 (by rw [addRef_length]; exact g2), addRef_get s k 1 _ (by omega) (by rw [addRef_length]; omega) h1]
          rw [blk_in g1 g2] at g3
          simp only
          split <;> omega

/-- what is right by itself stays so where what is there stays -/
theorem form_more {s m : List Blk} {x : Blk} (hm : ∀ k, thereB s k = true → thereB m k = true ∧ (blk m k).level = (blk s k).level) (hf : formB s x = 0) (r : Int) (h0 : x.refs = 0 → r = 0) (h1 : 0 < x.refs → 0 < r ∧ r ≤ 1000000) : formB m { x with refs := r } = 0 := by
  unfold formB
  rcases formB_zero s x hf with ⟨e1, e2, e3, e4⟩ | ⟨e0, e2, e3, e4, e5⟩ | ⟨e0, e2, e3, e4, e5, e6, e7, e8⟩
  · simp only [h0 e1, e2, e3, e4]; simp [formE]
  · have := h1 e0
    simp only [e3, e4]
    exact formE_leaf _ _ _ this.1 this.2 e5
  · have := h1 e0
    simp only [e6]
    refine formE_node _ _ _ _ this.1 this.2 e3 e4 e5 ?_ e8
    rw [List.all_eq_true]
    intro v hv
    have hv0 := List.all_eq_true.1 e7 v hv
    unfold kidOk at hv0 ⊢
    simp only [Bool.or_eq_true, decide_eq_true_eq, Bool.and_eq_true] at hv0 ⊢
    rcases hv0 with h0 | ⟨g1, g2⟩
    · exact .inl h0
    · obtain ⟨q1, q2⟩ := hm v g1
      exact .inr ⟨q1, by omega⟩

/-- out of a right store -/
theorem out_nn {s : List Blk} (hc : checkE s = 0) (j : Nat) (hj : j < s.length) : 0 ≤ outA s j := by
  have hj' : j < (outL s).length := by rw [outL_length]; exact hj
  rw [← outA_eq s j hj hj']
  exact (checkE_zero s hc).2.2.2.2 _ (List.getElem_mem hj')
theorem outL_get {s : List Blk} (a : Int) (h1 : 1 ≤ a) (h2 : a ≤ s.length) : (outL s)[(a - 1).toNat]?.getD 0 = outA s (a - 1).toNat := by
  have h : (a - 1).toNat < s.length := by omega
  have h' : (a - 1).toNat < (outL s).length := by rw [outL_length]; exact h
  rw [List.getElem?_eq_getElem h', Option.getD_some, outA_eq s _ h h']

/-- what a list holds is let go again -/
theorem unbump (f : Nat) (ks : List Int) : ∀ s : List Blk, (∀ k ∈ ks, k = 0 ∨ (1 ≤ k ∧ k ≤ s.length ∧ 0 < (blk s k).refs)) → ks.foldl (looseF (f + 1)) (bump s ks) = s := by
  induction ks with
  | nil => intro s _; rfl
  | cons k ks ih =>
    intro s h
    have ht := fun x hx => h x (List.mem_cons_of_mem _ hx)
    have ha : Adr s (k :: ks) := fun x hx => (h x hx).imp id fun p => ⟨p.1, p.2.1⟩
    have ha' : Adr s ks := fun x hx => ha x (List.mem_cons_of_mem _ hx)
    rw [List.foldl_cons]
    have key : looseF (f + 1) (bump s (k :: ks)) k = bump s ks := by
      unfold looseF
      rcases h k (List.mem_cons_self ..) with h0 | ⟨h1, h2, h3⟩
      · rw [if_pos h0, bump_cons, if_neg (by omega)]
      · obtain ⟨j, rfl⟩ : ∃ j : Nat, k = j + 1 := ⟨(k - 1).toNat, by omega⟩
        have hj : j < s.length := by omega
        have hj' : j < (bump s (((j : Int) + 1) :: ks)).length := by rw [bump_length]; exact hj
        rw [blk_at s j hj] at h3
        rw [if_neg (by omega), blk_at _ j hj', bump_get _ s j hj hj' ha, if_pos (by simp only [List.count_cons_self]; omega)]
        refine List.ext_getElem (by rw [addRef_length, bump_length, bump_length]) fun i g1 g2 => ?_
        have hi : i < s.length := by rw [bump_length] at g2; exact g2
        have hi' : i < (bump s (((j : Int) + 1) :: ks)).length := by rw [bump_length]; exact hi
        rw [addRef_get _ _ _ i hi' g1 (by omega), bump_get _ s i hi hi' ha, bump_get _ s i hi g2 ha', List.count_cons]
        simp only [Blk.mk.injEq, and_true]
        by_cases e2 : (j : Int) + 1 = (i : Int) + 1
        · rw [if_pos e2, e2]; simp; omega
        · have : ((j : Int) + 1 == (i : Int) + 1) = false := by rw [beq_eq_false_iff_ne]; exact e2
          rw [if_neg e2, this]; simp
    rw [key]
    exact ih s ht

/-- one put into a right store -/
structure PutAt (s : List Blk) (l : Int) (ks bs : List Int) (f : Nat) : Prop where
  lt : f < s.length
  chk : checkE s = 0
  form : formE s 1 l ks bs = 0
  free : s[f] = noBlk
  few : ∀ x ∈ s, x.refs ≤ 999996

def putM (s : List Blk) (l : Int) (ks bs : List Int) (f : Nat) : List Blk := bump (s.set f ⟨1, l, ks, bs⟩) ks

theorem there_ref {s : List Blk} {k : Int} (h : thereB s k = true) : 1 ≤ k ∧ k ≤ s.length ∧ 0 < (blk s k).refs := by
  unfold thereB at h
  simpa using h
theorem there_mk {s : List Blk} {k : Int} (h1 : 1 ≤ k) (h2 : k ≤ s.length) (h3 : 0 < (blk s k).refs) : thereB s k = true := by
  unfold thereB
  simp [h1, h2, h3]

theorem PutAt.kid {s : List Blk} {l : Int} {ks bs : List Int} {f : Nat} (h : PutAt s l ks bs f) : ∀ k ∈ ks, k = 0 ∨ (1 ≤ k ∧ k ≤ s.length ∧ 0 < (blk s k).refs) := fun k hk =>
  ((form_kids s l ks bs h.form).2.2 k hk).imp id fun p => there_ref p.2.2
theorem PutAt.none {s : List Blk} {l : Int} {ks bs : List Int} {f : Nat} (h : PutAt s l ks bs f) (j : Nat) (hj : j < s.length) (hr : s[j].refs ≤ 0) : ks.count ((j : Int) + 1) = 0 := by
  rw [List.count_eq_zero]
  intro hm
  rcases h.kid _ hm with h0 | ⟨_, _, h1⟩
  · omega
  · rw [blk_at s j hj] at h1; omega
theorem PutAt.adr {s : List Blk} {l : Int} {ks bs : List Int} {f : Nat} (h : PutAt s l ks bs f) (x : Blk) : Adr (s.set f x) ks := fun k hk => by
  rw [List.length_set]; exact (h.kid k hk).imp id fun p => ⟨p.1, p.2.1⟩

theorem putM_length (s : List Blk) (l : Int) (ks bs : List Int) (f : Nat) : (putM s l ks bs f).length = s.length := by simp [putM, bump_length]

theorem PutAt.get {s : List Blk} {l : Int} {ks bs : List Int} {f : Nat} (h : PutAt s l ks bs f) (j : Nat) (hj : j < s.length) (hj' : j < (putM s l ks bs f).length) :
    (putM s l ks bs f)[j] = if j = f then ⟨1, l, ks, bs⟩ else { s[j] with refs := s[j].refs + ((ks.count ((j : Int) + 1) : Nat) : Int) } := by
  have e : (putM s l ks bs f)[j] = (bump (s.set f ⟨1, l, ks, bs⟩) ks)[j]'(by rw [bump_length, List.length_set]; exact hj) := rfl
  rw [e, bump_get ks _ j (by rw [List.length_set]; exact hj) _ (h.adr _), List.getElem_set]
  by_cases hf : j = f
  · subst hf
    have := h.none j hj (by rw [h.free]; simp [noBlk])
    rw [if_pos rfl, if_pos rfl, this]; simp
  · rw [if_neg (fun e => hf e.symm), if_neg hf]

theorem PutAt.out {s : List Blk} {l : Int} {ks bs : List Int} {f : Nat} (h : PutAt s l ks bs f) (j : Nat) (hj : j < s.length) : outA (putM s l ks bs f) j = outA s j + if j = f then 1 else 0 := by
  have hj' : j < (putM s l ks bs f).length := by rw [putM_length]; exact hj
  have hk := kids_set s f h.lt ⟨1, l, ks, bs⟩ ((j : Int) + 1)
  have e : kidsOf (putM s l ks bs f) = kidsOf (s.set f ⟨1, l, ks, bs⟩) := kidsOf_bump _ _
  rw [h.free] at hk
  simp only [noBlk, List.count_nil, Nat.add_zero] at hk
  unfold outA
  rw [blk_at _ j hj', blk_at s j hj, h.get j hj hj', e, hk]
  by_cases hf : j = f
  · subst hf
    have h1 := h.none j hj (by rw [h.free]; simp [noBlk])
    rw [if_pos rfl, if_pos rfl, h1, h.free]
    simp [noBlk]
    omega
  · rw [if_neg hf, if_neg hf]
    simp only
    omega

theorem PutAt.there {s : List Blk} {l : Int} {ks bs : List Int} {f : Nat} (h : PutAt s l ks bs f) (k : Int) (hk : thereB s k = true) : thereB (putM s l ks bs f) k = true ∧ (blk (putM s l ks bs f) k).level = (blk s k).level := by
  obtain ⟨h1, h2, h3⟩ := there_ref hk
  obtain ⟨j, rfl⟩ : ∃ j : Nat, k = j + 1 := ⟨(k - 1).toNat, by omega⟩
  have hj : j < s.length := by omega
  have hj' : j < (putM s l ks bs f).length := by rw [putM_length]; exact hj
  rw [blk_at s j hj] at h3
  have hf : j ≠ f := by
    intro e
    subst e
    rw [h.free] at h3
    simp [noBlk] at h3
  rw [there_at _ j hj', blk_at _ j hj', blk_at s j hj, h.get j hj hj', if_neg hf]
  simp only [decide_eq_true_eq, and_true]
  omega

theorem PutAt.check {s : List Blk} {l : Int} {ks bs : List Int} {f : Nat} (h : PutAt s l ks bs f) : checkE (putM s l ks bs f) = 0 := by
  obtain ⟨h4, hf, _, _, _⟩ := checkE_zero s h.chk
  have hk4 := (form_kids s l ks bs h.form).1
  refine checkE_of _ (by rw [putM_length]; exact h4) (fun x hx => ?_) (fun j hj => ?_)
  · obtain ⟨j, hj', rfl⟩ := List.getElem_of_mem hx
    have hj : j < s.length := by rw [putM_length] at hj'; exact hj'
    rw [h.get j hj hj']
    split
    · have h1 : formB s ⟨1, l, ks, bs⟩ = 0 := h.form
      exact form_more h.there h1 1 (fun e => by simp at e) (fun _ => ⟨by omega, by omega⟩)
    · have hfm := h.few _ (List.getElem_mem hj)
      have hcl : ks.count ((j : Int) + 1) ≤ 4 := Nat.le_trans List.count_le_length hk4
      refine form_more h.there (formsE_all s s hf _ (List.getElem_mem hj)) _ (fun e => ?_) (fun e => ⟨by omega, by omega⟩)
      rw [h.none j hj (by omega), e]; rfl
  · have hj2 : j < s.length := by rw [putM_length] at hj; exact hj
    have := out_nn h.chk j hj2
    rw [h.out j hj2]
    split <;> omega

theorem PutAt.used {s : List Blk} {l : Int} {ks bs : List Int} {f : Nat} (h : PutAt s l ks bs f) : usedN (putM s l ks bs f) = usedN s + 1 := by
  unfold putM
  rw [usedN_bump]
  · have := usedN_set s f h.lt ⟨1, l, ks, bs⟩
    rw [h.free] at this
    simp [noBlk] at this
    omega
  · intro k hk
    rcases h.kid k hk with h0 | ⟨h1, h2, h3⟩
    · exact .inl h0
    · refine .inr ⟨h1, by rw [List.length_set]; exact h2, ?_⟩
      rw [blk_set]
      split
      · simp
      · exact h3

theorem PutAt.free_again {s : List Blk} {l : Int} {ks bs : List Int} {f : Nat} (h : PutAt s l ks bs f) : (putM s l ks bs f).set f noBlk = bump s ks := by
  have ha : Adr s ks := fun k hk => (h.kid k hk).imp id fun p => ⟨p.1, p.2.1⟩
  refine List.ext_getElem (by rw [List.length_set, putM_length, bump_length]) fun j g1 g2 => ?_
  have hj : j < s.length := by rw [bump_length] at g2; exact g2
  have hj' : j < (putM s l ks bs f).length := by rw [putM_length]; exact hj
  rw [List.getElem_set, bump_get ks s j hj g2 ha, h.get j hj hj']
  by_cases hf : f = j
  · subst hf
    rw [if_pos rfl, h.none f hj (by rw [h.free]; simp [noBlk]), h.free]
    simp [noBlk]
  · rw [if_neg hf, if_neg (fun e => hf e.symm)]

theorem PutAt.loose {s : List Blk} {l : Int} {ks bs : List Int} {f : Nat} (h : PutAt s l ks bs f) (n : Nat) : looseF (n + 2) (putM s l ks bs f) ((f : Int) + 1) = s := by
  have hf' : f < (putM s l ks bs f).length := by rw [putM_length]; exact h.lt
  unfold looseF
  rw [if_neg (by omega), blk_at _ f hf', h.get f h.lt hf', if_pos rfl, if_neg (by simp), show ((f : Int) + 1 - 1).toNat = f from by omega, h.free_again]
  exact unbump n ks s h.kid

theorem PutAt.drop {s : List Blk} {l : Int} {ks bs : List Int} {f : Nat} (h : PutAt s l ks bs f) : dropR (putM s l ks bs f) ((f : Int) + 1) = (s, 0) := by
  have hf' : f < (putM s l ks bs f).length := by rw [putM_length]; exact h.lt
  have h1 := out_nn h.chk f h.lt
  have h2 := h.out f h.lt
  rw [if_pos rfl] at h2
  unfold dropR
  rw [if_neg (by simp [h.check]), there_at _ f hf', h.get f h.lt hf', if_pos rfl, if_neg (by simp), outL_get _ (by omega) (by omega), show ((f : Int) + 1 - 1).toNat = f from by omega, if_neg (by omega), h.loose 2]

/-- one held once more -/
theorem keep_out (s : List Blk) (k : Nat) (hk : k < s.length) (j : Nat) : outA (addRef s ((k : Int) + 1) 1) j = outA s j + if j = k then 1 else 0 := by
  rw [addRef_at s k hk, outA_set s k hk]
  simp only
  split <;> omega
end Go.Proofs.Ytfmgdjgedhnmeaa

namespace Go.Proofs.Ytfmgdjgedhnmeaa
open Go.RowKit
set_option linter.unusedVariables false

theorem drop_out (s : List Blk) (k : Nat) (hk : k < s.length) (hc : checkE s = 0) (ho : 0 < outA s k) : LooseOut s (looseF 4 s ((k : Int) + 1)) [(k : Int) + 1] := by
  obtain ⟨h4, hf, _, _, hnn⟩ := checkE_zero s hc
  have hlv := lv_of s hf
  refine looseOut 4 s ((k : Int) + 1) [] hlv.1 (live_of s hf) (.inr ⟨by omega, by omega, by rw [blk_at s k hk]; have := hlv.2 _ (List.getElem_mem hk); omega⟩) (fun j hj => ?_)
  have := out_nn hc j hj
  by_cases e : j = k
  · subst e; simp; omega
  · rw [List.count_cons_of_ne (by omega)]; simpa using this
theorem drop_outA (s : List Blk) (k : Nat) (hk : k < s.length) (hc : checkE s = 0) (ho : 0 < outA s k) (j : Nat) (hj : j < s.length) : outA (looseF 4 s ((k : Int) + 1)) j = outA s j - if j = k then 1 else 0 := by
  rw [(drop_out s k hk hc ho).out j hj]
  by_cases e : j = k
  · subst e; simp
  · rw [if_neg e, List.count_cons_of_ne (by omega)]; simp

/-- addresses that are chosen, rising -/
def selTo (p : Nat → Bool) (k : Nat) : List Int := ((List.range k).filter p).map fun (i : Nat) => (i : Int) + 1
theorem selTo_succ (p : Nat → Bool) (k : Nat) : selTo p (k + 1) = selTo p k ++ if p k then [(k : Int) + 1] else [] := by
  unfold selTo
  rw [List.range_succ, List.filter_append, List.map_append]
  congr 1
  cases h : p k <;> simp [h]
theorem selTo_len (p : Nat → Bool) (k : Nat) : (selTo p k).length ≤ k := by
  unfold selTo
  rw [List.length_map]
  exact Nat.le_trans (List.length_filter_le _ _) (by simp)
theorem selTo_mem (p : Nat → Bool) (k : Nat) (x : Int) : x ∈ selTo p k ↔ ∃ i, i < k ∧ p i = true ∧ x = (i : Int) + 1 := by
  unfold selTo
  simp only [List.mem_map, List.mem_filter, List.mem_range]
  exact ⟨fun ⟨i, ⟨h1, h2⟩, h3⟩ => ⟨i, h1, h2, h3.symm⟩, fun ⟨i, h1, h2, h3⟩ => ⟨i, ⟨h1, h2⟩, h3.symm⟩⟩
theorem selTo_congr (p q : Nat → Bool) (k : Nat) (h : ∀ i, i < k → p i = q i) : selTo p k = selTo q k := by
  unfold selTo
  congr 1
  refine List.filter_congr fun i hi => h i (List.mem_range.1 hi)
theorem reachL_sel (s : List Blk) (roots : List Int) : reachL s roots = selTo (fun i => decide ((i : Int) + 1 ∈ allF s roots)) s.length := by
  unfold reachL addrs selTo
  rw [List.filter_map]
  rfl

theorem sel_sorted (p : Nat → Bool) (k : Nat) : (selTo p k).Pairwise (· < ·) := by
  unfold selTo
  rw [List.pairwise_map]
  exact ((List.pairwise_lt_range (n := k)).filter p).imp fun h => by omega

theorem tiers_chk {s : List Blk} (h : checkE s = 0) : Tiers s := tiers_of s (checkE_zero s h).2.1

theorem held_there {s : List Blk} (hc : checkE s = 0) (i : Nat) (hi : i < s.length) (h : 0 < outA s i) : thereB s ((i : Int) + 1) = true := by
  rw [there_at s i hi]
  unfold outA at h
  rw [blk_at s i hi] at h
  simp only [decide_eq_true_eq]
  omega

/-- what is held from outside -/
def heldL (s : List Blk) : List Int := selTo (fun i => decide (0 < outA s i)) s.length
theorem held_ok {s : List Blk} (hc : checkE s = 0) : rootsOk s (heldL s) = true := by
  unfold rootsOk
  rw [List.all_eq_true]
  intro a ha
  obtain ⟨i, hi, hp, rfl⟩ := (selTo_mem _ _ _).1 ha
  rw [held_there hc i hi (by simpa using hp)]
  simp

theorem held_all {s : List Blk} (hc : checkE s = 0) (j : Nat) (hj : j < s.length) (hr : 0 < s[j].refs) : (j : Int) + 1 ∈ allF s (heldL s) := by
  have ht := tiers_chk hc
  have hf := (checkE_zero s hc).2.1
  have key : ∀ (n : Nat) (j : Nat) (hj : j < s.length), 0 < s[j].refs → (3 : Int) - n < s[j].level → (j : Int) + 1 ∈ allF s (heldL s) := by
    intro n
    induction n with
    | zero =>
      intro j hj hr hl
      have := (lv_of s hf).2 _ (List.getElem_mem hj)
      omega
    | succ n ih =>
      intro j hj hr hl
      have hth : thereB s ((j : Int) + 1) = true := by rw [there_at s j hj]; simpa using hr
      by_cases ho : 0 < outA s j
      · refine List.mem_flatMap.2 ⟨_, (selTo_mem _ _ _).2 ⟨j, hj, by simpa using ho, rfl⟩, reach_self ht hth⟩
      · have h0 := ho
        unfold outA at h0
        rw [blk_at s j hj] at h0
        have hcn : 0 < (kidsOf s).count ((j : Int) + 1) := by omega
        obtain ⟨x, hx, hv⟩ := List.mem_flatMap.1 (List.count_pos_iff.1 hcn)
        obtain ⟨i, hi, rfl⟩ := List.getElem_of_mem hx
        have hri : 0 < s[i].refs := by
          rcases formB_zero s s[i] (formsE_all s s hf _ (List.getElem_mem hi)) with ⟨_, _, e, _⟩ | ⟨_, _, _, e, _⟩ | ⟨e1, _⟩
          · rw [e] at hv; cases hv
          · rw [e] at hv; cases hv
          · exact e1
        have hti : thereB s ((i : Int) + 1) = true := by rw [there_at s i hi]; simpa using hri
        have hv' : (j : Int) + 1 ∈ (blk s ((i : Int) + 1)).kids := by rw [blk_at s i hi]; exact hv
        rcases ht.kid _ hti _ hv' with e | ⟨_, e⟩
        · omega
        · rw [blk_at s i hi, blk_at s j hj] at e
          have hm := ih i hi hri (by omega)
          obtain ⟨r, hr1, hr2⟩ := List.mem_flatMap.1 hm
          refine List.mem_flatMap.2 ⟨r, hr1, ?_⟩
          have hrt : thereB s r = true := by
            obtain ⟨q, hq, hp, rfl⟩ := (selTo_mem _ _ _).1 hr1
            exact held_there hc q hq (by simpa using hp)
          exact reach_trans ht r hrt _ hr2 _ (reach_kid ht hti hv' hth)
  exact key 4 j hj hr (by have := ((lv_of s hf).1 _ (List.getElem_mem hj)).1; omega)

theorem root_there {s : List Blk} {roots : List Int} (h : rootsOk s roots = true) {a : Int} (ha : a ∈ roots) : a = 0 ∨ thereB s a = true := by
  have := List.all_eq_true.1 h a ha
  simpa using this
theorem allF_there {s : List Blk} (hc : checkE s = 0) {roots : List Int} (h : rootsOk s roots = true) {x : Int} (hx : x ∈ allF s roots) : thereB s x = true := by
  obtain ⟨r, hr, hx⟩ := List.mem_flatMap.1 hx
  rcases root_there h hr with h0 | h0
  · rw [h0, reach_zero] at hx; cases hx
  · exact reach_there (tiers_chk hc) r h0 x hx
theorem reachL_mem {s : List Blk} (hc : checkE s = 0) {roots : List Int} (h : rootsOk s roots = true) (x : Int) : x ∈ reachL s roots ↔ x ∈ allF s roots := by
  rw [reachL_sel, selTo_mem]
  constructor
  · rintro ⟨i, _, h1, rfl⟩; simpa using h1
  · intro hx
    obtain ⟨k, hk, rfl, _⟩ := there_in (allF_there hc h hx)
    exact ⟨k, hk, by simpa using hx, rfl⟩

theorem sel_used (s : List Blk) (k : Nat) (hk : k ≤ s.length) : ((selTo (fun i => decide (0 < (blk s ((i : Int) + 1)).refs)) k).length : Int) = usedN (s.take k) := by
  induction k with
  | zero => rfl
  | succ k ih =>
    have hlt : k < s.length := by omega
    rw [selTo_succ, List.length_append, List.take_succ_eq_append_getElem hlt, usedN_snoc, Int.natCast_add, ih (by omega), blk_at s k hlt]
    by_cases h : 0 < s[k].refs <;> simp [h]

/-- all that is there is reached from what is held -/
theorem held_used {s : List Blk} (hc : checkE s = 0) : ((reachL s (heldL s)).length : Int) = usedN s := by
  have h := sel_used s s.length (Nat.le_refl _)
  rw [List.take_length] at h
  rw [← h, reachL_sel]
  congr 2
  refine selTo_congr _ _ _ fun i hi => ?_
  rw [decide_eq_decide, blk_at s i hi]
  constructor
  · intro hx
    have := there_ref (allF_there hc (held_ok hc) hx)
    rw [blk_at s i hi] at this
    exact this.2.2
  · exact fun hr => held_all hc i hi hr

theorem reach_again {s : List Blk} (hc : checkE s = 0) {roots : List Int} (h : rootsOk s roots = true) : rootsOk s (reachL s roots) = true ∧ reachL s (reachL s roots) = reachL s roots := by
  have ht := tiers_chk hc
  have hall : ∀ x ∈ reachL s roots, thereB s x = true := fun x hx => allF_there hc h ((reachL_mem hc h x).1 hx)
  have hok : rootsOk s (reachL s roots) = true := by
    unfold rootsOk
    rw [List.all_eq_true]
    intro a ha
    rw [hall a ha]; simp
  refine ⟨hok, ?_⟩
  rw [reachL_sel s (reachL s roots), reachL_sel s roots]
  refine selTo_congr _ _ _ fun i hi => ?_
  rw [decide_eq_decide, ← reachL_sel s roots]
  constructor
  · intro hx
    obtain ⟨y, hy, hx⟩ := List.mem_flatMap.1 hx
    obtain ⟨r, hr, hy2⟩ := List.mem_flatMap.1 ((reachL_mem hc h y).1 hy)
    refine List.mem_flatMap.2 ⟨r, hr, ?_⟩
    rcases root_there h hr with h0 | h0
    · rw [h0, reach_zero] at hy2; cases hy2
    · exact reach_trans ht r h0 y hy2 _ hx
  · intro hx
    exact List.mem_flatMap.2 ⟨_, (reachL_mem hc h _).2 hx, reach_self ht (allF_there hc h hx)⟩

theorem reach_more {s : List Blk} (hc : checkE s = 0) {roots more : List Int} (h : rootsOk s (roots ++ more) = true) : ∀ x ∈ reachL s roots, x ∈ reachL s (roots ++ more) := by
  have h1 : rootsOk s roots = true := by
    unfold rootsOk at h ⊢
    rw [List.all_append, Bool.and_eq_true] at h
    exact h.1
  intro x hx
  rw [reachL_mem hc h]
  have := (reachL_mem hc h1 x).1 hx
  unfold allF at *
  rw [List.flatMap_append]
  exact List.mem_append.2 (.inl this)

/-- where some are let go, and what is held stays -/
theorem sub_there {s d : List Blk} (h : Sub s d) {a : Int} (ha : thereB d a = true) : thereB s a = true ∧ (blk s a).kids = (blk d a).kids ∧ (blk s a).level = (blk d a).level ∧ (blk s a).bytes = (blk d a).bytes := by
  obtain ⟨h1, h2, h3⟩ := there_ref ha
  have hl := h.len
  obtain ⟨j, rfl⟩ : ∃ j : Nat, a = j + 1 := ⟨(a - 1).toNat, by omega⟩
  have hj : j < s.length := by omega
  have hj' : j < d.length := by omega
  rw [blk_at d j hj'] at h3
  rw [there_at s j hj, blk_at s j hj, blk_at d j hj']
  rcases h.each j hj hj' with e | ⟨e1, e2, e3⟩
  · rw [e] at h3; simp [noBlk] at h3
  · rw [e3]
    simp only [decide_eq_true_eq, and_self, and_true]
    omega

theorem reach_sub {s d : List Blk} (hs : Tiers s) (hd : Tiers d) (h : Sub s d) : ∀ a, thereB d a = true → ∀ x, x ∈ reachF 4 d a ↔ x ∈ reachF 4 s a := by
  refine tier_ind hd (fun a => ∀ x, x ∈ reachF 4 d a ↔ x ∈ reachF 4 s a) (fun a ha ih x => ?_)
  obtain ⟨h1, h2, _⟩ := sub_there h ha
  rw [reach_mem hd a ha, reach_mem hs a h1, h2]
  refine or_congr Iff.rfl (exists_congr fun k => and_congr_right fun hk => ?_)
  rcases hd.kid a ha k hk with h0 | ⟨h0, _⟩
  · rw [h0, reach_zero, reach_zero]
  · exact ih k hk h0 x

end Go.Proofs.Ytfmgdjgedhnmeaa
