/- Loose: what is held from outside, and that the store stays right. -/
import Derived.Test.YtpfopbkaddjjcaaStored
namespace Go.Proofs.Ytpfopbkaddjjcaa
open Go.RowKit
set_option linter.unusedVariables false

/-- how often a block is held from outside -/
def outA (s : List Blk) (j : Nat) : Int := (blk s ((j : Int) + 1)).refs - (((kidsOf s).count ((j : Int) + 1) : Nat) : Int)
theorem outA_eq (s : List Blk) (j : Nat) (h : j < s.length) (h' : j < (outL s).length) : (outL s)[j] = outA s j := by
  simp [outL, outA, belowN, blk_at s j h, h]

theorem kidsOf_mid (a b : List Blk) (x : Blk) (v : Int) : (kidsOf (a ++ x :: b)).count v = (kidsOf a).count v + (x.kids.count v + (kidsOf b).count v) := by
  simp [kidsOf, List.flatMap_append, List.count_append]

theorem kids_set (s : List Blk) (k : Nat) (h : k < s.length) (x : Blk) (v : Int) : (kidsOf (s.set k x)).count v + s[k].kids.count v = (kidsOf s).count v + x.kids.count v := by
  have e1 : s = s.take k ++ s[k] :: s.drop (k + 1) := by rw [← List.drop_eq_getElem_cons h, List.take_append_drop]
  have e2 : s.set k x = s.take k ++ x :: s.drop (k + 1) := by rw [List.set_eq_take_append_cons_drop, if_pos h]
  have f1 : (kidsOf s).count v = (kidsOf (s.take k)).count v + (s[k].kids.count v + (kidsOf (s.drop (k + 1))).count v) := by
    rw [← kidsOf_mid, ← e1]
  have f2 : (kidsOf (s.set k x)).count v = (kidsOf (s.take k)).count v + (x.kids.count v + (kidsOf (s.drop (k + 1))).count v) := by
    rw [e2, kidsOf_mid]
  omega

theorem outA_set (s : List Blk) (k : Nat) (h : k < s.length) (x : Blk) (j : Nat) : outA (s.set k x) j = outA s j + (((s[k].kids.count ((j : Int) + 1) : Nat) : Int) - ((x.kids.count ((j : Int) + 1) : Nat) : Int)) + if j = k then x.refs - s[k].refs else 0 := by
  have h1 := kids_set s k h x ((j : Int) + 1)
  unfold outA
  rw [blk_set]
  by_cases e : j = k
  · subst e
    rw [if_pos ⟨by omega, h⟩, if_pos rfl, blk_at s j h]
    omega
  · rw [if_neg (fun hh => e (by omega)), if_neg e]
    omega

theorem outA_less (s : List Blk) (k : Nat) (h : k < s.length) (j : Nat) : outA (addRef s ((k : Int) + 1) (-1)) j = outA s j - if j = k then 1 else 0 := by
  rw [addRef_at s k h, outA_set s k h]
  simp only
  split <;> omega

/-- free, or held -/
def Live (s : List Blk) : Prop := ∀ x ∈ s, x = noBlk ∨ 0 < x.refs
/-- some are free now, and some are held less -/
structure Sub (s s' : List Blk) : Prop where
  len : s'.length = s.length
  each : ∀ j (h : j < s.length) (h' : j < s'.length), s'[j] = noBlk ∨ (0 < s'[j].refs ∧ s'[j].refs ≤ s[j].refs ∧ s'[j] = { s[j] with refs := s'[j].refs })

theorem Sub.refl {s : List Blk} (h : Live s) : Sub s s := ⟨rfl, fun j hj _ => (h _ (List.getElem_mem hj)).imp id fun p => ⟨p, Int.le_refl _, rfl⟩⟩
theorem Sub.live {s s' : List Blk} (h : Sub s s') : Live s' := by
  intro x hx
  obtain ⟨j, hj, rfl⟩ := List.getElem_of_mem hx
  rcases h.each j (by have := h.len; omega) hj with h1 | ⟨h1, _⟩
  · exact .inl h1
  · exact .inr h1
theorem Sub.trans {a b c : List Blk} (h : Sub a b) (k : Sub b c) : Sub a c := by
  refine ⟨k.len.trans h.len, fun j hj hj' => ?_⟩
  have hb : j < b.length := by have := h.len; omega
  rcases k.each j hb hj' with h1 | ⟨h1, h2, h3⟩
  · exact .inl h1
  · rcases h.each j hj hb with g1 | ⟨g1, g2, g3⟩
    · rw [g1] at h2; simp [noBlk] at h2; omega
    · refine .inr ⟨h1, by omega, ?_⟩
      rw [h3, g3]
theorem Sub.less {s : List Blk} (h : Live s) (k : Nat) (hk : k < s.length) (h1 : 1 < s[k].refs) : Sub s (addRef s ((k : Int) + 1) (-1)) := by
  rw [addRef_at s k hk]
  refine ⟨by simp, fun j hj hj' => ?_⟩
  rw [List.getElem_set]
  split
  · rename_i e
    subst e
    exact .inr ⟨by simp; omega, by simp; omega, rfl⟩
  · exact (h _ (List.getElem_mem hj)).imp id fun p => ⟨p, Int.le_refl _, rfl⟩
theorem Sub.free {s : List Blk} (h : Live s) (k : Nat) : Sub s (s.set k noBlk) := by
  refine ⟨by simp, fun j hj hj' => ?_⟩
  rw [List.getElem_set]
  split
  · exact .inl rfl
  · exact (h _ (List.getElem_mem hj)).imp id fun p => ⟨p, Int.le_refl _, rfl⟩

/-- an address one may let go, of a level below f -/
def Low (s : List Blk) (f : Nat) (a : Int) : Prop := a = 0 ∨ (1 ≤ a ∧ a ≤ s.length ∧ (blk s a).level < f)

structure LooseOut (s s' : List Blk) (l : List Int) : Prop where
  sub : Sub s s'
  lv : Lv s'
  lev : ∀ b, (blk s' b).level ≤ (blk s b).level
  out : ∀ j, j < s.length → outA s' j = outA s j - ((l.count ((j : Int) + 1) : Nat) : Int)

theorem looseOut_fold (f : Nat) (ih : ∀ (s : List Blk) (a : Int) (P : List Int), Lv s → Live s → Low s f a → (∀ j, j < s.length → (((a :: P).count ((j : Int) + 1) : Nat) : Int) ≤ outA s j) → LooseOut s (looseF f s a) [a]) (ks : List Int) :
    ∀ (s : List Blk) (P : List Int), Lv s → Live s → (∀ k ∈ ks, Low s f k) → (∀ j, j < s.length → (((ks ++ P).count ((j : Int) + 1) : Nat) : Int) ≤ outA s j) → LooseOut s (ks.foldl (looseF f) s) ks := by
  induction ks with
  | nil => intro s P h1 h2 _ _; exact ⟨Sub.refl h2, h1, fun _ => Int.le_refl _, fun j _ => by simp⟩
  | cons a ks hi =>
    intro s P h1 h2 h3 h4
    have p := ih s a (ks ++ P) h1 h2 (h3 a (List.mem_cons_self ..)) (fun j hj => by simpa using h4 j hj)
    have q := hi (looseF f s a) P p.lv p.sub.live (fun k hk => by
      rcases h3 k (List.mem_cons_of_mem _ hk) with h0 | ⟨g1, g2, g3⟩
      · exact .inl h0
      · have := p.lev k
        exact .inr ⟨g1, by rw [p.sub.len]; exact g2, by omega⟩) (fun j hj => by
      have hj' : j < s.length := by rw [← p.sub.len]; exact hj
      have e1 := p.out j hj'
      have e2 := h4 j hj'
      simp only [List.cons_append, List.count_cons, List.count_nil] at e1 e2
      omega)
    refine ⟨p.sub.trans q.sub, q.lv, fun b => Int.le_trans (q.lev b) (p.lev b), fun j hj => ?_⟩
    have e1 := p.out j hj
    have e2 := q.out j (by rw [p.sub.len]; exact hj)
    simp only [List.foldl_cons]
    simp only [List.count_cons, List.count_nil] at *
    omega

theorem looseOut (f : Nat) : ∀ (s : List Blk) (a : Int) (P : List Int), Lv s → Live s → Low s f a → (∀ j, j < s.length → (((a :: P).count ((j : Int) + 1) : Nat) : Int) ≤ outA s j) → LooseOut s (looseF f s a) [a] := by
  induction f with
  | zero =>
    intro s a P h1 h2 h3 h4
    have hz : a = 0 := by
      rcases h3 with h | ⟨_, _, h⟩
      · exact h
      · have := h1.lev a; omega
    subst hz
    exact ⟨Sub.refl h2, h1, fun _ => Int.le_refl _, fun j _ => by rw [List.count_cons_of_ne (by omega)]; simp [looseF]⟩
  | succ f ih =>
    intro s a P h1 h2 h3 h4
    by_cases hz : a = 0
    · subst hz
      exact ⟨by simpa [looseF] using Sub.refl h2, by simpa [looseF] using h1, fun _ => by simp [looseF], fun j _ => by rw [List.count_cons_of_ne (by omega)]; simp [looseF]⟩
    obtain ⟨g1, g2, g3⟩ := h3.resolve_left hz
    obtain ⟨k, rfl⟩ : ∃ k : Nat, a = k + 1 := ⟨(a - 1).toNat, by omega⟩
    have hk : k < s.length := by omega
    have hu : looseF (f + 1) s ((k : Int) + 1) = if 1 < s[k].refs then addRef s ((k : Int) + 1) (-1) else s[k].kids.foldl (looseF f) (s.set k noBlk) := by
      conv => lhs; unfold looseF
      rw [if_neg hz, blk_at s k hk, show ((k : Int) + 1 - 1).toNat = k from by omega]
    have hcnt : ∀ j : Nat, (([(k : Int) + 1].count ((j : Int) + 1) : Nat) : Int) = if j = k then 1 else 0 := by
      intro j
      by_cases e : j = k
      · subst e; simp
      · rw [List.count_cons_of_ne (by omega), if_neg e]; simp
    rw [hu]
    split
    · rename_i hone
      exact ⟨Sub.less h2 k hk hone, h1.addRef _ _, fun b => by rw [lev_addRef]; exact Int.le_refl _, fun j hj => by rw [outA_less s k hk, hcnt]⟩
    · rename_i hone
      have ho := h4 k hk
      simp only [List.count_cons_self] at ho
      have hoA : outA s k = s[k].refs - (((kidsOf s).count ((k : Int) + 1) : Nat) : Int) := by unfold outA; rw [blk_at s k hk]
      have hr1 : s[k].refs = 1 := by omega
      have hlk := (h1 _ (List.getElem_mem hk))
      rw [blk_at s k hk] at g3
      have hset : ∀ j, outA (s.set k noBlk) j = outA s j + ((s[k].kids.count ((j : Int) + 1) : Nat) : Int) + if j = k then 0 - s[k].refs else 0 := fun j => by
        rw [outA_set s k hk noBlk j]
        show _ + (_ - ((([] : List Int).count _ : Nat) : Int)) + (if j = k then 0 - s[k].refs else 0) = _
        simp
      have hp := looseOut_fold f ih s[k].kids (s.set k noBlk) P (h1.free k) (Sub.free h2 k).live (fun x hx => by
        rcases hlk.2.2 x hx with h0 | ⟨e1, e2, e3⟩
        · exact .inl h0
        · have := lev_free h1 k x
          exact .inr ⟨e1, by simpa using e2, by omega⟩) (fun j hj => by
        have hj' : j < s.length := by simpa using hj
        have e1 := hset j
        have e2 := h4 j hj'
        have e3 := hcnt j
        simp only [List.count_nil, List.count_cons, List.count_append] at e2 e3 ⊢
        by_cases e : j = k
        · rw [if_pos e] at e1 e3; subst e; omega
        · rw [if_neg e] at e1 e3; omega)
      refine ⟨(Sub.free h2 k).trans hp.sub, hp.lv, fun b => Int.le_trans (hp.lev b) (lev_free h1 k b), fun j hj => ?_⟩
      have e1 := hset j
      have e2 := hp.out j (by simpa using hj)
      rw [hcnt]
      by_cases e : j = k
      · rw [if_pos e] at e1 ⊢; omega
      · rw [if_neg e] at e1 ⊢; omega
end Go.Proofs.Ytpfopbkaddjjcaa
