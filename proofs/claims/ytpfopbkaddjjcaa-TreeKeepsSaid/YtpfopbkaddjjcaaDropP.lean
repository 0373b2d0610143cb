/- What is let go one by one, in whatever order, ends in the same store. -/
import Derived.Test.YtpfopbkaddjjcaaFreesP
namespace Go.Proofs.Ytpfopbkaddjjcaa
open Go.RowKit
set_option linter.unusedVariables false

theorem Sub.lv {s t : List Blk} (h : Sub s t) (hl : Lv s) : Lv t := by
  have hlev : ∀ b, (blk t b).level ≤ (blk s b).level := by
    intro b
    by_cases hb : (b - 1).toNat < s.length
    · have hb' : (b - 1).toNat < t.length := by have := h.len; omega
      have e1 : blk t b = t[(b - 1).toNat] := by unfold blk; rw [List.getElem?_eq_getElem hb']; rfl
      have e2 : blk s b = s[(b - 1).toNat] := by unfold blk; rw [List.getElem?_eq_getElem hb]; rfl
      rw [e1, e2]
      rcases h.each _ hb hb' with h1 | ⟨_, _, h3⟩
      · rw [h1]; exact (hl _ (List.getElem_mem hb)).1
      · rw [h3]; exact Int.le_refl _
    · have hb' : ¬ (b - 1).toNat < t.length := by have := h.len; omega
      have e1 : blk t b = noBlk := by unfold blk; rw [List.getElem?_eq_none (by omega)]; rfl
      have e2 : blk s b = noBlk := by unfold blk; rw [List.getElem?_eq_none (by omega)]; rfl
      rw [e1, e2]; exact Int.le_refl _
  intro x hx
  obtain ⟨j, hj, rfl⟩ := List.getElem_of_mem hx
  have hjs : j < s.length := by have := h.len; omega
  rcases h.each j hjs hj with h1 | ⟨_, _, h3⟩
  · rw [h1]; exact ⟨by simp [noBlk], by simp [noBlk], fun k hk => by simp [noBlk] at hk⟩
  · obtain ⟨p1, p2, p3⟩ := hl _ (List.getElem_mem hjs)
    rw [h3]
    refine ⟨p1, p2, fun k hk => ?_⟩
    rcases p3 k hk with h0 | ⟨q1, q2, q3⟩
    · exact .inl h0
    · have := hlev k
      exact .inr ⟨q1, by rw [h.len]; exact q2, by simp only; omega⟩

theorem Sub.kids {s t : List Blk} (h : Sub s t) (i : Nat) (hs : i < s.length) (ht : i < t.length) (v : Int) (hv : v ∈ t[i].kids) : v ∈ s[i].kids ∧ t[i].kids = s[i].kids := by
  rcases h.each i hs ht with h1 | ⟨_, _, h3⟩
  · rw [h1] at hv; simp [noBlk] at hv
  · rw [h3] at hv ⊢; exact ⟨hv, rfl⟩

theorem count_kids_congr {t u : List Blk} (hl : t.length = u.length) (v : Int) (h : ∀ i (ht : i < t.length) (hu : i < u.length), t[i].kids.count v = u[i].kids.count v) : (kidsOf t).count v = (kidsOf u).count v := by
  unfold kidsOf
  rw [List.count_flatMap, List.count_flatMap]
  congr 1
  apply List.ext_getElem
  · simpa using hl
  · intro i h1 h2
    simp only [List.getElem_map, Function.comp]
    exact h i (by simpa using h1) (by simpa using h2)

/-- of a store and what is let go of it at each place there is one outcome -/
theorem sub_unique (s t u : List Blk) (hlv : Lv s) (h3 : ∀ x ∈ s, x.level ≤ 3) (ht : Sub s t) (hu : Sub s u) (ho : ∀ j, j < s.length → outA t j = outA u j) : t = u := by
  have lt := ht.len
  have lu := hu.len
  have key : ∀ n : Nat, ∀ j (hs : j < s.length) (hjt : j < t.length) (hju : j < u.length), 3 - s[j].level < n → t[j] = u[j] := by
    intro n
    induction n with
    | zero => intro j hs _ _ h; have := h3 _ (List.getElem_mem hs); omega
    | succ n ih =>
      intro j hs hjt hju hn
      have hc : (kidsOf t).count ((j : Int) + 1) = (kidsOf u).count ((j : Int) + 1) := by
        refine count_kids_congr (by omega) _ fun i hit hiu => ?_
        have his : i < s.length := by omega
        by_cases hm : ((j : Int) + 1) ∈ s[i].kids
        · obtain ⟨_, _, p3⟩ := hlv _ (List.getElem_mem his)
          rcases p3 _ hm with h0 | ⟨_, _, q3⟩
          · omega
          · rw [blk_at s j hs] at q3
            rw [ih i his hit hiu (by omega)]
        · rw [List.count_eq_zero_of_not_mem (fun hv => hm (ht.kids i his hit _ hv).1), List.count_eq_zero_of_not_mem (fun hv => hm (hu.kids i his hiu _ hv).1)]
      have h1 := ho j hs
      unfold outA at h1
      rw [hc, blk_at t j hjt, blk_at u j hju] at h1
      have hr : t[j].refs = u[j].refs := by omega
      rcases ht.each j hs hjt with e1 | ⟨e1, _, e3⟩
      · rcases hu.each j hs hju with g1 | ⟨g1, _, g3⟩
        · rw [e1, g1]
        · rw [e1] at hr; simp [noBlk] at hr; omega
      · rcases hu.each j hs hju with g1 | ⟨g1, _, g3⟩
        · rw [g1] at hr; simp [noBlk] at hr; omega
        · rw [e3, g3, hr]
  apply List.ext_getElem (by omega)
  intro j h1 h2
  exact key ((3 - (s[j]'(by omega)).level).toNat + 1) j (by omega) h1 h2 (by omega)

/-- some are let go already; these are to come -/
structure Going (s : List Blk) (a : Int) (t : List Blk) (q : List Int) : Prop where
  sub : Sub s t
  adr : ∀ k ∈ q, k = 0 ∨ (1 ≤ k ∧ k ≤ s.length)
  out : ∀ j, j < s.length → outA t j = outA s j - (([a].count ((j : Int) + 1) : Nat) : Int) + ((q.count ((j : Int) + 1) : Nat) : Int)

/-- one may be let go at a -/
def Letting (s : List Blk) (a : Int) : Prop := ∀ j, j < s.length → (([a].count ((j : Int) + 1) : Nat) : Int) ≤ outA s j

theorem Going.start {s : List Blk} {a : Int} (hl : Live s) (ha : a = 0 ∨ (1 ≤ a ∧ a ≤ s.length)) : Going s a s [a] := ⟨Sub.refl hl, fun k hk => by simp at hk; subst hk; exact ha, fun j _ => by omega⟩

theorem Going.done {s : List Blk} {a : Int} {t : List Blk} (h : Going s a t []) (hlv : Lv s) (h3 : ∀ x ∈ s, x.level ≤ 3) (hl : Live s) (ha : a = 0 ∨ (1 ≤ a ∧ a ≤ s.length)) (hp : Letting s a) : t = looseF 4 s a := by
  have q := looseOut 4 s a [] hlv hl (by
    rcases ha with h0 | ⟨h1, h2⟩
    · exact .inl h0
    · refine .inr ⟨h1, h2, ?_⟩
      unfold blk
      cases e : s[(a - 1).toNat]? with
      | none => simp [noBlk]
      | some y => have := h3 _ (List.mem_of_getElem? e); simp only [Option.getD_some]; omega) hp
  refine sub_unique s t _ hlv h3 h.sub q.sub fun j hj => ?_
  rw [h.out j hj, q.out j hj]
  simp

theorem Going.zero {s : List Blk} {a : Int} {t : List Blk} {q : List Int} (h : Going s a t (0 :: q)) : Going s a t q :=
  ⟨h.sub, fun k hk => h.adr k (List.mem_cons_of_mem _ hk), fun j hj => by
    have h1 := h.out j hj
    have h2 : (0 :: q).count ((j : Int) + 1) = q.count ((j : Int) + 1) := List.count_cons_of_ne (by omega)
    rw [h2] at h1
    exact h1⟩

theorem count_one (k j : Nat) : (([(k : Int) + 1].count ((j : Int) + 1) : Nat) : Int) = if j = k then 1 else 0 := by
  by_cases e : j = k
  · subst e; simp
  · rw [List.count_cons_of_ne (by omega), if_neg e]; simp

theorem count_cons_at (k j : Nat) (q : List Int) : (((((k : Int) + 1) :: q).count ((j : Int) + 1) : Nat) : Int) = (q.count ((j : Int) + 1) : Nat) + if j = k then 1 else 0 := by
  by_cases e : j = k
  · subst e; simp
  · rw [List.count_cons_of_ne (by omega), if_neg e]; omega

/-- the next one is there -/
theorem Going.refs {s : List Blk} {a : Int} {t : List Blk} {q : List Int} {k : Nat} (h : Going s a t (((k : Int) + 1) :: q)) (hp : Letting s a) (hk : k < t.length) : 0 < t[k].refs := by
  have hks : k < s.length := by have := h.sub.len; omega
  have h1 := h.out k hks
  have h2 := hp k hks
  rw [count_cons_at, if_pos rfl] at h1
  unfold outA at h1 h2
  rw [blk_at t k hk] at h1
  omega

theorem Going.less {s : List Blk} {a : Int} {t : List Blk} {q : List Int} {k : Nat} (h : Going s a t (((k : Int) + 1) :: q)) (hk : k < t.length) (h1 : 1 < t[k].refs) : Going s a (t.set k { t[k] with refs := t[k].refs - 1 }) q := by
  have e : t.set k { t[k] with refs := t[k].refs - 1 } = addRef t ((k : Int) + 1) (-1) := by rw [addRef_at t k hk]; rfl
  rw [e]
  refine ⟨h.sub.trans (Sub.less h.sub.live k hk h1), fun x hx => h.adr x (List.mem_cons_of_mem _ hx), fun j hj => ?_⟩
  have h2 := h.out j hj
  rw [count_cons_at] at h2
  rw [outA_less t k hk]
  omega

theorem Going.free {s : List Blk} {a : Int} {t : List Blk} {q : List Int} {k : Nat} (h : Going s a t (((k : Int) + 1) :: q)) (hlv : Lv s) (hp : Letting s a) (hk : k < t.length) (h1 : ¬ 1 < t[k].refs) : Going s a (t.set k noBlk) (q ++ t[k].kids) := by
  have hr := h.refs hp hk
  have hks : k < s.length := by have := h.sub.len; omega
  have hset : ∀ j, outA (t.set k noBlk) j = outA t j + ((t[k].kids.count ((j : Int) + 1) : Nat) : Int) + if j = k then 0 - t[k].refs else 0 := fun j => by
    rw [outA_set t k hk noBlk j]
    show _ + (_ - ((([] : List Int).count _ : Nat) : Int)) + (if j = k then 0 - t[k].refs else 0) = _
    simp
  refine ⟨h.sub.trans (Sub.free h.sub.live k), fun x hx => ?_, fun j hj => ?_⟩
  · rcases List.mem_append.1 hx with h2 | h2
    · exact h.adr x (List.mem_cons_of_mem _ h2)
    · obtain ⟨_, _, p3⟩ := (h.sub.lv hlv) _ (List.getElem_mem hk)
      rcases p3 x h2 with h0 | ⟨g1, g2, _⟩
      · exact .inl h0
      · exact .inr ⟨g1, by rw [← h.sub.len]; exact g2⟩
  · have h2 := h.out j hj
    have e1 := hset j
    rw [count_cons_at] at h2
    rw [e1, List.count_append]
    by_cases e : j = k
    · rw [if_pos e] at h2 ⊢; omega
    · rw [if_neg e] at h2 ⊢; omega

/-- how long it may take -/
def liveN (t : List Blk) : Nat := (t.filter fun x => decide (0 < x.refs)).length
theorem liveN_le (t : List Blk) : liveN t ≤ t.length := List.length_filter_le _ _
theorem liveN_free (t : List Blk) (k : Nat) (hk : k < t.length) (h : 0 < t[k].refs) : liveN (t.set k noBlk) + 1 = liveN t := by
  have e : t = t.take k ++ t[k] :: t.drop (k + 1) := by rw [List.getElem_cons_drop, List.take_append_drop]
  have e2 : t.set k noBlk = t.take k ++ noBlk :: t.drop (k + 1) := by rw [List.set_eq_take_append_cons_drop, if_pos hk]
  unfold liveN
  rw [e2]
  conv => rhs; rw [e]
  simp only [List.filter_append, List.filter_cons, List.length_append]
  rw [if_neg (by simp [noBlk]), if_pos (by simpa using h)]
  simp only [List.length_cons]
  omega
theorem liveN_less (t : List Blk) (k : Nat) (hk : k < t.length) (h : 1 < t[k].refs) : liveN (t.set k { t[k] with refs := t[k].refs - 1 }) = liveN t := by
  have e : t = t.take k ++ t[k] :: t.drop (k + 1) := by rw [List.getElem_cons_drop, List.take_append_drop]
  have e2 : t.set k { t[k] with refs := t[k].refs - 1 } = t.take k ++ { t[k] with refs := t[k].refs - 1 } :: t.drop (k + 1) := by rw [List.set_eq_take_append_cons_drop, if_pos hk]
  unfold liveN
  rw [e2]
  conv => rhs; rw [e]
  simp only [List.filter_append, List.filter_cons, List.length_append]
  rw [if_pos (by simp; omega), if_pos (by simp; omega)]
  simp only [List.length_cons]
end Go.Proofs.Ytpfopbkaddjjcaa
