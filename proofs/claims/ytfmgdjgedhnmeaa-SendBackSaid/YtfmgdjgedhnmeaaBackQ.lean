/- Loose: what is held from outside, and that the store stays right. · What is dropped leaves a right store; a store that nobody holds has nothing. · What is let go one by one, in whatever order, ends in the same store. · What is reached, in plain words. · What is made and let go, or held and let go, was never there: in plain words. · What stays where one is let go; what is reached from what is held: in plain words. -/
import Derived.Test.YtfmgdjgedhnmeaaLoose
namespace Go.Proofs.Ytfmgdjgedhnmeaa
open Go.RowKit
set_option linter.unusedVariables false

/-- how often a block is held from outside -/
def outA (s : List Blk) (j : Nat) : Int := (blk s ((j : Int) + 1)).refs - (((kidsOf s).count ((j : Int) + 1) : Nat) : Int)
theorem outA_eq (s : List Blk) (j : Nat) (h : j < s.length) (h' : j < (outL s).length) : (outL s)[j] = outA s j := by
  simp [outL, outA, belowN, blk_at s j h, h]

theorem kidsOf_mid (a b : List Blk) (x : Blk) (v : Int) : (kidsOf (a ++ x :: b)).count v = (kidsOf a).count v + (x.kids.count v + (kidsOf b).count v) := by
  simp [kidsOf, List.flatMap_append, List.count_append]

theorem kids_set (s : List Blk) (k : Nat) (h : k < s.length) (x : Blk) (v : Int) : (kidsOf (s.set k x)).count v + s[k].kids.count v = (kidsOf s).count v + x.kids.count v := by
  have e1 : s = s.take k ++ s[k] :: s.drop (k + 1) := by rw [← List.drop_eq_getElem_cons h, List.take_append_drop]
  have e2 : s.set k x = s.take k ++ x :: s.drop (k + 1) := by rw [List.set_eq_take_append_cons_drop, if_pos h]
  have f1 : (kidsOf s).count v = (kidsOf (s.take k)).count v + (s[k].kids.count v + (kidsOf (s.drop (k + 1))).count v) := by
    rw [← kidsOf_mid, ← e1]
  have f2 : (kidsOf (s.set k x)).count v = (kidsOf (s.take k)).count v + (x.kids.count v + (kidsOf (s.drop (k + 1))).count v) := by
    rw [e2, kidsOf_mid]
  omega

theorem outA_set (s : List Blk) (k : Nat) (h : k < s.length) (x : Blk) (j : Nat) : outA (s.set k x) j = outA s j + (((s[k].kids.count ((j : Int) + 1) : Nat) : Int) - ((x.kids.count ((j : Int) + 1) : Nat) : Int)) + if j = k then x.refs - s[k].refs else 0 := by
  have h1 := kids_set s k h x ((j : Int) + 1)
  unfold outA
  rw [blk_set]
  by_cases e : j = k
  · subst e
    rw [if_pos ⟨by omega, h⟩, if_pos rfl, blk_at s j h]
    omega
  · rw [if_neg (fun hh => e (by omega)), if_neg e]
    omega

theorem outA_less (s : List Blk) (k : Nat) (h : k < s.length) (j : Nat) : outA (addRef s ((k : Int) + 1) (-1)) j = outA s j - if j = k then 1 else 0 := by
  rw [addRef_at s k h, outA_set s k h]
  simp only
  split <;> omega

/-- free, or held -/
def Live (s : List Blk) : Prop := ∀ x ∈ s, x = noBlk ∨ 0 < x.refs
/-- some are free now, and some are held less -/
structure Sub (s s' : List Blk) : Prop where
  len : s'.length = s.length
  each : ∀ j (h : j < s.length) (h' : j < s'.length), s'[j] = noBlk ∨ (0 < s'[j].refs ∧ s'[j].refs ≤ s[j].refs ∧ s'[j] = { s[j] with refs := s'[j].refs })

theorem Sub.refl {s : List Blk} (h : Live s) : Sub s s := ⟨rfl, fun j hj _ => (h _ (List.getElem_mem hj)).imp id fun p => ⟨p, Int.le_refl _, rfl⟩⟩
theorem Sub.live {s s' : List Blk} (h : Sub s s') : Live s' := by
  intro x hx
  obtain ⟨j, hj, rfl⟩ := List.getElem_of_mem hx
  rcases h.each j (by have := h.len; omega) hj with h1 | ⟨h1, _⟩
  · exact .inl h1
  · exact .inr h1
theorem Sub.trans {a b c : List Blk} (h : Sub a b) (k : Sub b c) : Sub a c := by
  refine ⟨k.len.trans h.len, fun j hj hj' => ?_⟩
  have hb : j < b.length := by have := h.len; omega
  rcases k.each j hb hj' with h1 | ⟨h1, h2, h3⟩
  · exact .inl h1
  · rcases h.each j hj hb with g1 | ⟨g1, g2, g3⟩
    · rw [g1] at h2; simp [noBlk] at h2; omega
    · refine .inr ⟨h1, by omega, ?_⟩
      rw [h3, g3]
theorem Sub.less {s : List Blk} (h : Live s) (k : Nat) (hk : k < s.length) (h1 : 1 < s[k].refs) : Sub s (addRef s ((k : Int) + 1) (-1)) := by
  rw [addRef_at s k hk]
  refine ⟨by simp, fun j hj hj' => ?_⟩
  rw [List.getElem_set]
  split
  · rename_i e
    subst e
    exact .inr ⟨by simp; omega, by simp; omega, rfl⟩
  · exact (h _ (List.getElem_mem hj)).imp id fun p => ⟨p, Int.le_refl _, rfl⟩
theorem Sub.free {s : List Blk} (h : Live s) (k : Nat) : Sub s (s.set k noBlk) := by
  refine ⟨by simp, fun j hj hj' => ?_⟩
  rw [List.getElem_set]
  split
  · exact .inl rfl
  · exact (h _ (List.getElem_mem hj)).imp id fun p => ⟨p, Int.le_refl _, rfl⟩

/-- an address one may let go, of a level below f -/
def Low (s : List Blk) (f : Nat) (a : Int) : Prop := a = 0 ∨ (1 ≤ a ∧ a ≤ s.length ∧ (blk s a).level < f)

structure LooseOut (s s' : List Blk) (l : List Int) : Prop where
  sub : Sub s s'
  lv : Lv s'
  lev : ∀ b, (blk s' b).level ≤ (blk s b).level
  out : ∀ j, j < s.length → outA s' j = outA s j - ((l.count ((j : Int) + 1) : Nat) : Int)

theorem looseOut_fold (f : Nat) (ih : ∀ (s : List Blk) (a : Int) (P : List Int), Lv s → Live s → Low s f a → (∀ j, j < s.length → (((a :: P).count ((j : Int) + 1) : Nat) : Int) ≤ outA s j) → LooseOut s (looseF f s a) [a]) (ks : List Int) :
    ∀ (s : List Blk) (P : List Int), Lv s → Live s → (∀ k ∈ ks, Low s f k) → (∀ j, j < s.length → (((ks ++ P).count ((j : Int) + 1) : Nat) : Int) ≤ outA s j) → LooseOut s (ks.foldl (looseF f) s) ks := by
  induction ks with
  | nil => intro s P h1 h2 _ _; exact ⟨Sub.refl h2, h1, fun _ => Int.le_refl _, fun j _ => by simp⟩
  | cons a ks hi =>
    intro s P h1 h2 h3 h4
    have p := ih s a (ks ++ P) h1 h2 (h3 a (List.mem_cons_self ..)) (fun j hj => by simpa using h4 j hj)
    have q := hi (looseF f s a) P p.lv p.sub.live (fun k hk => by
      rcases h3 k (List.mem_cons_of_mem _ hk) with h0 | ⟨g1, g2, g3⟩
      · exact .inl h0
      · have := p.lev k
        exact .inr ⟨g1, by rw [p.sub.len]; exact g2, by omega⟩) (fun j hj => by
      have hj' : j < s.length := by rw [← p.sub.len]; exact hj
      have e1 := p.out j hj'
      have e2 := h4 j hj'
      simp only [List.cons_append, List.count_cons, List.count_nil] at e1 e2
      omega)
    refine ⟨p.sub.trans q.sub, q.lv, fun b => Int.le_trans (q.lev b) (p.lev b), fun j hj => ?_⟩
    have e1 := p.out j hj
    have e2 := q.out j (by rw [p.sub.len]; exact hj)
    simp only [List.foldl_cons]
    simp only [List.count_cons, List.count_nil] at *
    omega

theorem looseOut (f : Nat) : ∀ (s : List Blk) (a : Int) (P : List Int), Lv s → Live s → Low s f a → (∀ j, j < s.length → (((a :: P).count ((j : Int) + 1) : Nat) : Int) ≤ outA s j) → LooseOut s (looseF f s a) [a] := by
  induction f with
  | zero =>
    intro s a P h1 h2 h3 h4
    have hz : a = 0 := by
      rcases h3 with h | ⟨_, _, h⟩
      · exact h
      · have := h1.lev a; omega
    subst hz
    exact ⟨Sub.refl h2, h1, fun _ => Int.le_refl _, fun j _ => by rw [List.count_cons_of_ne (by omega)]; simp [looseF]⟩
  | succ f ih =>
    intro s a P h1 h2 h3 h4
    by_cases hz : a = 0
    · subst hz
      exact ⟨by simpa [looseF] using Sub.refl h2, by simpa [looseF] using h1, fun _ => by simp [looseF], fun j _ => by rw [List.count_cons_of_ne (by omega)]; simp [looseF]⟩
    obtain ⟨g1, g2, g3⟩ := h3.resolve_left hz
    obtain ⟨k, rfl⟩ : ∃ k : Nat, a = k + 1 := ⟨(a - 1).toNat, by omega⟩
    have hk : k < s.length := by omega
    have hu : looseF (f + 1) s ((k : Int) + 1) = if 1 < s[k].refs then addRef s ((k : Int) + 1) (-1) else s[k].kids.foldl (looseF f) (s.set k noBlk) := by
      conv => lhs; unfold looseF
      rw [if_neg hz, blk_at s k hk, show ((k : Int) + 1 - 1).toNat = k from by omega]
    have hcnt : ∀ j : Nat, (([(k : Int) + 1].count ((j : Int) + 1) : Nat) : Int) = if j = k then 1 else 0 := by
      intro j
      by_cases e : j = k
      · subst e; simp
      · rw [List.count_cons_of_ne (by omega), if_neg e]; simp
    rw [hu]
    split
    · rename_i hone
      exact ⟨Sub.less h2 k hk hone, h1.addRef _ _, fun b => by rw [lev_addRef]; exact Int.le_refl _, fun j hj => by rw [outA_less s k hk, hcnt]⟩
    · rename_i hone
      have ho := h4 k hk
      simp only [List.count_cons_self] at ho
      have hoA : outA s k = s[k].refs - (((kidsOf s).count ((k : Int) + 1) : Nat) : Int) := by unfold outA; rw [blk_at s k hk]
      have hr1 : s[k].refs = 1 := by omega
      have hlk := (h1 _ (List.getElem_mem hk))
      rw [blk_at s k hk] at g3
      have hset : ∀ j, outA (s.set k noBlk) j = outA s j + ((s[k].kids.count ((j : Int) + 1) : Nat) : Int) + if j = k then 0 - s[k].refs else 0 := fun j => by
        rw [outA_set s k hk noBlk j]
        show _ + (_ - ((([] : List Int).count _ : Nat) : Int)) + (if j = k then 0 - s[k].refs else 0) = _
        simp
      have hp := looseOut_fold f ih s[k].kids (s.set k noBlk) P (h1.free k) (Sub.free h2 k).live (fun x hx => by
        rcases hlk.2.2 x hx with h0 | ⟨e1, e2, e3⟩
        · exact .inl h0
        · have := lev_free h1 k x
          exact .inr ⟨e1, by simpa using e2, by omega⟩) (fun j hj => by
        have hj' : j < s.length := by simpa using hj
        have e1 := hset j
        have e2 := h4 j hj'
        have e3 := hcnt j
        simp only [List.count_nil, List.count_cons, List.count_append] at e2 e3 ⊢
        by_cases e : j = k
        · rw [if_pos e] at e1 e3; subst e; omega
        · rw [if_neg e] at e1 e3; omega)
      refine ⟨(Sub.free h2 k).trans hp.sub, hp.lv, fun b => Int.le_trans (hp.lev b) (lev_free h1 k b), fun j hj => ?_⟩
      have e1 := hset j
      have e2 := hp.out j (by simpa using hj)
      rw [hcnt]
      by_cases e : j = k
      · rw [if_pos e] at e1 ⊢; omega
      · rw [if_neg e] at e1 ⊢; omega
end Go.Proofs.Ytfmgdjgedhnmeaa

namespace Go.Proofs.Ytfmgdjgedhnmeaa
open Go.RowKit
set_option linter.unusedVariables false

theorem formsE_of (s l : List Blk) (h : ∀ x ∈ l, formB s x = 0) : formsE s l = 0 := by
  induction l with
  | nil => rfl
  | cons x l ih =>
    simp only [formsE]
    rw [if_pos (h x (List.mem_cons_self ..))]
    exact ih fun y hy => h y (List.mem_cons_of_mem _ hy)

theorem checkE_of (s : List Blk) (h4 : s.length ≤ 400) (hf : ∀ x ∈ s, formB s x = 0) (ho : ∀ j, j < s.length → 0 ≤ outA s j) : checkE s = 0 := by
  have h1 := formsE_of s s hf
  rw [checkE_tail s (by omega) h1, if_neg]
  intro h
  rw [List.any_eq_true] at h
  obtain ⟨x, hx, h3⟩ := h
  obtain ⟨j, hj, rfl⟩ := List.getElem_of_mem hx
  have hj' : j < s.length := by rw [← outL_length]; exact hj
  have := ho j hj'
  rw [outA_eq s j hj' hj] at h3
  simp at h3
  omega

theorem formE_leaf (s : List Blk) (r : Int) (bs : List Int) (h1 : 0 < r) (h2 : r ≤ 1000000) (h3 : bs.length = 4) : formE s r 0 [] bs = 0 := by
  unfold formE
  rw [if_neg (by omega), if_neg (by omega), if_pos rfl, if_neg (by simp [h3])]
theorem formE_node (s : List Blk) (r l : Int) (ks : List Int) (h1 : 0 < r) (h2 : r ≤ 1000000) (h3 : 1 ≤ l) (h4 : l ≤ 3) (h5 : ks.length = 4) (h6 : ks.all (kidOk s l) = true) (h7 : ks.all (fun k => decide (k = 0)) = false) : formE s r l ks [] = 0 := by
  unfold formE
  rw [if_neg (by omega), if_neg (by omega), if_neg (by omega), if_neg (by simp [h5]), if_neg (by simp only [h6]; simp), if_neg (by simp only [h7]; simp)]

theorem mem_kidsOf {s : List Blk} {j : Nat} (h : j < s.length) {v : Int} (hv : v ∈ s[j].kids) : 0 < (kidsOf s).count v :=
  List.count_pos_iff.2 (List.mem_flatMap.2 ⟨s[j], List.getElem_mem h, hv⟩)

/-- parts of a right store that are held enough are right -/
theorem sub_check (s s' : List Blk) (hc : checkE s = 0) (hs : Sub s s') (ho : ∀ j, j < s.length → 0 ≤ outA s' j) : checkE s' = 0 := by
  obtain ⟨h4, hf, _, _, _⟩ := checkE_zero s hc
  have hl := hs.len
  refine checkE_of s' (by omega) (fun x hx => ?_) (fun j hj => ho j (by omega))
  obtain ⟨j, hj, rfl⟩ := List.getElem_of_mem hx
  have hjs : j < s.length := by omega
  rcases hs.each j hjs hj with h1 | ⟨h1, h2, h3⟩
  · rw [h1]; simp [formB, formE, noBlk]
  have hk : s'[j].kids = s[j].kids := by rw [h3]
  have hlv : s'[j].level = s[j].level := by rw [h3]
  have hby : s'[j].bytes = s[j].bytes := by rw [h3]
  unfold formB
  rcases formB_zero s s[j] (formsE_all s s hf _ (List.getElem_mem hjs)) with ⟨e1, _⟩ | ⟨_, e2, e3, e4, e5⟩ | ⟨_, e2, e3, e4, e5, e6, e7, e8⟩
  · omega
  · rw [hk, hlv, hby, e3, e4]
    exact formE_leaf _ _ _ h1 (by omega) e5
  · rw [hk, hlv, hby, e6]
    refine formE_node _ _ _ _ h1 (by omega) e3 e4 e5 ?_ e8
    rw [List.all_eq_true]
    intro v hv
    have hv0 := List.all_eq_true.1 e7 v hv
    unfold kidOk at hv0 ⊢
    simp only [Bool.or_eq_true, decide_eq_true_eq, Bool.and_eq_true] at hv0 ⊢
    rcases hv0 with h0 | ⟨g1, g2⟩
    · exact .inl h0
    · refine .inr ?_
      obtain ⟨i, hi, rfl, _⟩ := there_in g1
      have hi' : i < s'.length := by omega
      have hcnt := mem_kidsOf hj (v := (i : Int) + 1) (by rw [hk]; exact hv)
      have hoi := ho i hi
      unfold outA at hoi
      rw [blk_at s' i hi'] at hoi
      rw [there_at s' i hi', blk_at s' i hi']
      rw [blk_at s i hi] at g2
      have hr : 0 < s'[i].refs := by omega
      rcases hs.each i hi hi' with q1 | ⟨_, _, q3⟩
      · rw [q1] at hr; simp [noBlk] at hr
      · refine ⟨by simpa using hr, ?_⟩
        rw [q3]; exact g2

end Go.Proofs.Ytfmgdjgedhnmeaa

namespace Go.Proofs.Ytfmgdjgedhnmeaa
open Go.RowKit
set_option linter.unusedVariables false

/-- one may be let go at a -/
def Letting (s : List Blk) (a : Int) : Prop := ∀ j, j < s.length → (([a].count ((j : Int) + 1) : Nat) : Int) ≤ outA s j

end Go.Proofs.Ytfmgdjgedhnmeaa

namespace Go.Proofs.Ytfmgdjgedhnmeaa
open Go.RowKit
set_option linter.unusedVariables false

/-- what one has below is there, and one lower; nothing stands above the top -/
structure Tiers (s : List Blk) : Prop where
  kid : ∀ a, thereB s a = true → ∀ k ∈ (blk s a).kids, k = 0 ∨ (thereB s k = true ∧ (blk s k).level = (blk s a).level - 1)
  lev : ∀ a, thereB s a = true → 0 ≤ (blk s a).level ∧ (blk s a).level ≤ 3
  leaf : ∀ a, thereB s a = true → (blk s a).level = 0 → (blk s a).kids = []

theorem tiers_of (s : List Blk) (h : formsE s s = 0) : Tiers s := by
  have key : ∀ a, thereB s a = true → formB s (blk s a) = 0 ∧ 0 < (blk s a).refs := by
    intro a ha
    obtain ⟨k, hk, rfl, hr⟩ := there_in ha
    rw [blk_at s k hk]
    rw [List.getElem?_eq_getElem hk] at hr
    exact ⟨formsE_all s s h _ (List.getElem_mem hk), hr⟩
  refine ⟨fun a ha k hk => ?_, fun a ha => ?_, fun a ha hl => ?_⟩ <;> obtain ⟨h1, h2⟩ := key a ha <;> rcases formB_zero s _ h1 with ⟨e, _⟩ | ⟨_, _, e1, e2, _⟩ | ⟨_, _, e1, e2, e3, e4, e5, _⟩
  · omega
  · rw [e2] at hk; cases hk
  · have := List.all_eq_true.1 e5 k hk
    unfold kidOk at this
    simpa using this
  · omega
  · omega
  · omega
  · omega
  · exact e2
  · omega

end Go.Proofs.Ytfmgdjgedhnmeaa

namespace Go.Proofs.Ytfmgdjgedhnmeaa
open Go.RowKit
set_option linter.unusedVariables false

theorem blk_in {s : List Blk} {a : Int} (h1 : 1 ≤ a) (h2 : a ≤ s.length) : blk s a = s[(a - 1).toNat]'(by omega) := by
  unfold blk
  rw [List.getElem?_eq_getElem (by omega)]; rfl

theorem addRef_get (s : List Blk) (a d : Int) (j : Nat) (h : j < s.length) (h' : j < (addRef s a d).length) (h1 : 1 ≤ a) : (addRef s a d)[j] = { s[j] with refs := s[j].refs + if a = (j : Int) + 1 then d else 0 } := by
  have e0 : (addRef s a d)[j] = (s.set (a - 1).toNat { blk s a with refs := (blk s a).refs + d })[j]'(by simpa using h) := rfl
  rw [e0, List.getElem_set]
  by_cases e : (a - 1).toNat = j
  · have ea : a = (j : Int) + 1 := by omega
    rw [if_pos e, if_pos ea]
    subst ea
    rw [blk_at s j h]
  · rw [if_neg e, if_neg (by omega)]
    simp

/-- these addresses are none, or within -/
def Adr (s : List Blk) (ks : List Int) : Prop := ∀ k ∈ ks, k = 0 ∨ (1 ≤ k ∧ k ≤ s.length)
theorem Adr.len {s t : List Blk} {ks : List Int} (h : Adr s ks) (e : t.length = s.length) : Adr t ks := fun k hk => by rw [e]; exact h k hk
theorem bump_cons (s : List Blk) (k : Int) (ks : List Int) : bump s (k :: ks) = bump (if 0 < k then addRef s k 1 else s) ks := rfl

theorem bump_get (ks : List Int) : ∀ (s : List Blk) (j : Nat) (h : j < s.length) (h' : j < (bump s ks).length), Adr s ks → (bump s ks)[j] = { s[j] with refs := s[j].refs + ((ks.count ((j : Int) + 1) : Nat) : Int) } := by
  induction ks with
  | nil => intro s j h h' _; simp [bump]
  | cons k ks ih =>
    intro s j h h' ha
    have hk := ha k (List.mem_cons_self ..)
    have ht : Adr s ks := fun x hx => ha x (List.mem_cons_of_mem _ hx)
    by_cases h0 : 0 < k
    · have e : bump s (k :: ks) = bump (addRef s k 1) ks := by rw [bump_cons, if_pos h0]
      have hl : (addRef s k 1).length = s.length := addRef_length _ _ _
      have h2 := ih (addRef s k 1) j (by omega) (by rw [bump_length]; omega) (ht.len hl)
      have h3 : (bump s (k :: ks))[j] = (bump (addRef s k 1) ks)[j]'(by rw [bump_length]; omega) := by simp only [e]
      rw [h3, h2, addRef_get s k 1 j h (by omega) (by omega), List.count_cons]
      simp only [Blk.mk.injEq, and_true]
      by_cases e2 : k = (j : Int) + 1
      · subst e2; simp; omega
      · have : (k == (j : Int) + 1) = false := by rw [beq_eq_false_iff_ne]; exact e2
        rw [if_neg e2, this]; simp
    · have e : bump s (k :: ks) = bump s ks := by rw [bump_cons, if_neg h0]
      have h2 := ih s j h (by rw [bump_length]; omega) ht
      have h3 : (bump s (k :: ks))[j] = (bump s ks)[j]'(by rw [bump_length]; omega) := by simp only [e]
      have : (k == (j : Int) + 1) = false := by rw [beq_eq_false_iff_ne]; omega
      rw [h3, h2, List.count_cons, this]
      simp

theorem kidsOf_addRef (s : List Blk) (a d : Int) : kidsOf (addRef s a d) = kidsOf s := by
  have h : (addRef s a d).map Blk.kids = s.map Blk.kids := by
    refine List.ext_getElem (by simp [addRef]) fun j h1 h2 => ?_
    have hj : j < s.length := by simpa using h2
    simp only [List.getElem_map, addRef, List.getElem_set]
    split
    · rename_i e
      subst e
      unfold blk
      rw [List.getElem?_eq_getElem hj]; rfl
    · rfl
  unfold kidsOf
  rw [List.flatMap_def, List.flatMap_def, h]
theorem kidsOf_bump (ks : List Int) : ∀ s : List Blk, kidsOf (bump s ks) = kidsOf s := by
  induction ks with
  | nil => intro s; rfl
  | cons k ks ih =>
    intro s
    rw [bump_cons, ih]
    split
    · exact kidsOf_addRef _ _ _
    · rfl

/-- out of a right store -/
theorem out_nn {s : List Blk} (hc : checkE s = 0) (j : Nat) (hj : j < s.length) : 0 ≤ outA s j := by
  have hj' : j < (outL s).length := by rw [outL_length]; exact hj
  rw [← outA_eq s j hj hj']
  exact (checkE_zero s hc).2.2.2.2 _ (List.getElem_mem hj')
def putM (s : List Blk) (l : Int) (ks bs : List Int) (f : Nat) : List Blk := bump (s.set f ⟨1, l, ks, bs⟩) ks

theorem there_ref {s : List Blk} {k : Int} (h : thereB s k = true) : 1 ≤ k ∧ k ≤ s.length ∧ 0 < (blk s k).refs := by
  unfold thereB at h
  simpa using h
theorem putM_length (s : List Blk) (l : Int) (ks bs : List Int) (f : Nat) : (putM s l ks bs f).length = s.length := by simp [putM, bump_length]

/-- one held once more -/
theorem keep_out (s : List Blk) (k : Nat) (hk : k < s.length) (j : Nat) : outA (addRef s ((k : Int) + 1) 1) j = outA s j + if j = k then 1 else 0 := by
  rw [addRef_at s k hk, outA_set s k hk]
  simp only
  split <;> omega
end Go.Proofs.Ytfmgdjgedhnmeaa

namespace Go.Proofs.Ytfmgdjgedhnmeaa
open Go.RowKit
set_option linter.unusedVariables false

theorem held_there {s : List Blk} (hc : checkE s = 0) (i : Nat) (hi : i < s.length) (h : 0 < outA s i) : thereB s ((i : Int) + 1) = true := by
  rw [there_at s i hi]
  unfold outA at h
  rw [blk_at s i hi] at h
  simp only [decide_eq_true_eq]
  omega

end Go.Proofs.Ytfmgdjgedhnmeaa
