/- What is reached, in plain words. -/
import Derived.Test.YtpfopbkaddjjcaaDropP
namespace Go.Proofs.Ytpfopbkaddjjcaa
open Go.RowKit
set_option linter.unusedVariables false

/-- a block, and all that is below it -/
def reachF : Nat → List Blk → Int → List Int
  | 0, _, _ => []
  | f + 1, s, a => if a = 0 then [] else a :: (blk s a).kids.flatMap (reachF f s)

def allF (s : List Blk) (roots : List Int) : List Int := roots.flatMap (reachF 4 s)
def addrs (s : List Blk) : List Int := (List.range s.length).map fun (i : Nat) => (i : Int) + 1
def reachL (s : List Blk) (roots : List Int) : List Int := (addrs s).filter fun x => decide (x ∈ allF s roots)
def rootsOk (s : List Blk) (roots : List Int) : Bool := roots.all fun a => decide (a = 0) || thereB s a
def reachR (s : List Blk) (roots : List Int) : List Int × Int :=
  if checkE s ≠ 0 then ([], checkE s) else if rootsOk s roots = false then ([], 5) else (reachL s roots, 0)

/-- what one has below is there, and one lower; nothing stands above the top -/
structure Tiers (s : List Blk) : Prop where
  kid : ∀ a, thereB s a = true → ∀ k ∈ (blk s a).kids, k = 0 ∨ (thereB s k = true ∧ (blk s k).level = (blk s a).level - 1)
  lev : ∀ a, thereB s a = true → 0 ≤ (blk s a).level ∧ (blk s a).level ≤ 3
  leaf : ∀ a, thereB s a = true → (blk s a).level = 0 → (blk s a).kids = []

theorem tiers_of (s : List Blk) (h : formsE s s = 0) : Tiers s := by
  have key : ∀ a, thereB s a = true → formB s (blk s a) = 0 ∧ 0 < (blk s a).refs := by
    intro a ha
    obtain ⟨k, hk, rfl, hr⟩ := there_in ha
    rw [blk_at s k hk]
    rw [List.getElem?_eq_getElem hk] at hr
    exact ⟨formsE_all s s h _ (List.getElem_mem hk), hr⟩
  refine ⟨fun a ha k hk => ?_, fun a ha => ?_, fun a ha hl => ?_⟩ <;> obtain ⟨h1, h2⟩ := key a ha <;> rcases formB_zero s _ h1 with ⟨e, _⟩ | ⟨_, _, e1, e2, _⟩ | ⟨_, _, e1, e2, e3, e4, e5, _⟩
  · omega
  · rw [e2] at hk; cases hk
  · have := List.all_eq_true.1 e5 k hk
    unfold kidOk at this
    simpa using this
  · omega
  · omega
  · omega
  · omega
  · exact e2
  · omega

theorem flatMap_congr' {α β : Type} (l : List α) (f g : α → List β) (h : ∀ x ∈ l, f x = g x) : l.flatMap f = l.flatMap g := by
  induction l with
  | nil => rfl
  | cons x l ih => rw [List.flatMap_cons, List.flatMap_cons, h x (by simp), ih fun y hy => h y (by simp [hy])]

/-- more fuel than levels changes nothing -/
theorem reach_fuel {s : List Blk} (h : Tiers s) : ∀ (f : Nat) (a : Int), thereB s a = true → (blk s a).level < f → ∀ g : Nat, (blk s a).level < g → reachF f s a = reachF g s a := by
  intro f
  induction f with
  | zero => intro a ha hf; have := (h.lev a ha).1; omega
  | succ f ih =>
    intro a ha hf g hg
    cases g with
    | zero => have := (h.lev a ha).1; omega
    | succ g =>
      unfold reachF
      split
      · rfl
      · congr 1
        have hm : ∀ k ∈ (blk s a).kids, reachF f s k = reachF g s k := by
          intro k hk
          rcases h.kid a ha k hk with h0 | ⟨h1, h2⟩
          · subst h0
            cases f <;> cases g <;> simp [reachF]
          · exact ih k h1 (by omega) g (by omega)
        exact flatMap_congr' _ _ _ hm

theorem there_ne {s : List Blk} {a : Int} (h : thereB s a = true) : a ≠ 0 := by
  intro e; subst e; rw [there_low s 0 (by omega)] at h; cases h

/-- a block is reached from itself, and what its kids reach -/
theorem reach_mem {s : List Blk} (h : Tiers s) (a : Int) (ha : thereB s a = true) (x : Int) : x ∈ reachF 4 s a ↔ x = a ∨ ∃ k ∈ (blk s a).kids, x ∈ reachF 4 s k := by
  have hl := h.lev a ha
  conv => lhs; unfold reachF
  rw [if_neg (there_ne ha), List.mem_cons, List.mem_flatMap]
  refine or_congr Iff.rfl (exists_congr fun k => ?_)
  refine and_congr_right fun hk => ?_
  rcases h.kid a ha k hk with h0 | ⟨h1, h2⟩
  · subst h0; simp [reachF]
  · rw [reach_fuel h 3 k h1 (by omega) 4 (by omega)]

theorem reach_zero (s : List Blk) (f : Nat) : reachF f s 0 = [] := by cases f <;> simp [reachF]

theorem reach_self {s : List Blk} (h : Tiers s) {a : Int} (ha : thereB s a = true) : a ∈ reachF 4 s a := (reach_mem h a ha a).2 (.inl rfl)

/-- an induction from below -/
theorem tier_ind {s : List Blk} (h : Tiers s) (P : Int → Prop) (hp : ∀ a, thereB s a = true → (∀ k ∈ (blk s a).kids, thereB s k = true → P k) → P a) : ∀ a, thereB s a = true → P a := by
  have key : ∀ (n : Nat) (a : Int), thereB s a = true → (blk s a).level < n → P a := by
    intro n
    induction n with
    | zero => intro a ha hl; have := (h.lev a ha).1; omega
    | succ n ih =>
      intro a ha hl
      refine hp a ha fun k hk hkt => ?_
      rcases h.kid a ha k hk with h0 | ⟨h1, h2⟩
      · exact absurd h0 (there_ne hkt)
      · exact ih k h1 (by omega)
  intro a ha
  have := h.lev a ha
  exact key 4 a ha (by omega)

theorem reach_there {s : List Blk} (h : Tiers s) (a : Int) (ha : thereB s a = true) : ∀ x ∈ reachF 4 s a, thereB s x = true := by
  refine tier_ind h (fun a => ∀ x ∈ reachF 4 s a, thereB s x = true) (fun a ha ih x hx => ?_) a ha
  rcases (reach_mem h a ha x).1 hx with h1 | ⟨k, hk, hx⟩
  · rw [h1]; exact ha
  · rcases h.kid a ha k hk with h0 | ⟨h1, _⟩
    · rw [h0, reach_zero] at hx; cases hx
    · exact ih k hk h1 x hx

theorem reach_trans {s : List Blk} (h : Tiers s) (a : Int) (ha : thereB s a = true) : ∀ x ∈ reachF 4 s a, ∀ y ∈ reachF 4 s x, y ∈ reachF 4 s a := by
  refine tier_ind h (fun a => ∀ x ∈ reachF 4 s a, ∀ y ∈ reachF 4 s x, y ∈ reachF 4 s a) (fun a ha ih x hx y hy => ?_) a ha
  rcases (reach_mem h a ha x).1 hx with h1 | ⟨k, hk, hx⟩
  · rw [← h1]; exact hy
  · rcases h.kid a ha k hk with h0 | ⟨h1, _⟩
    · rw [h0, reach_zero] at hx; cases hx
    · exact (reach_mem h a ha y).2 (.inr ⟨k, hk, ih k hk h1 x hx y hy⟩)

theorem reach_kid {s : List Blk} (h : Tiers s) {a : Int} (ha : thereB s a = true) {k : Int} (hk : k ∈ (blk s a).kids) (hkt : thereB s k = true) : k ∈ reachF 4 s a := (reach_mem h a ha k).2 (.inr ⟨k, hk, reach_self h hkt⟩)

/-- what holds of a and goes down to the kids holds of all that is reached -/
theorem reach_ind {s : List Blk} (h : Tiers s) (P : Int → Prop) (hs : ∀ a, thereB s a = true → P a → ∀ k ∈ (blk s a).kids, thereB s k = true → P k) : ∀ a, thereB s a = true → P a → ∀ x ∈ reachF 4 s a, P x := by
  refine tier_ind h (fun a => P a → ∀ x ∈ reachF 4 s a, P x) (fun a ha ih hp x hx => ?_)
  rcases (reach_mem h a ha x).1 hx with h1 | ⟨k, hk, hx⟩
  · rw [h1]; exact hp
  · rcases h.kid a ha k hk with h0 | ⟨h1, _⟩
    · rw [h0, reach_zero] at hx; cases hx
    · exact ih k hk h1 (hs a ha hp k hk h1) x hx

/-- closed: of each seen one of a level below f all is seen -/
def Clos (s : List Blk) (f : Int) (S : List Int) : Prop := ∀ x ∈ S, thereB s x = true ∧ ((blk s x).level < f → ∀ y ∈ reachF 4 s x, y ∈ S)

theorem Clos.lower {s : List Blk} {f g : Int} {S : List Int} (h : Clos s f S) (hg : g ≤ f) : Clos s g S := fun x hx => ⟨(h x hx).1, fun hl => (h x hx).2 (by omega)⟩
theorem Clos.add {s : List Blk} {f : Int} {S : List Int} (h : Clos s (f + 1) S) {a : Int} (ha : thereB s a = true) (hl : (blk s a).level = f) : Clos s f (S ++ [a]) := by
  intro x hx
  rcases List.mem_append.1 hx with h1 | h1
  · exact ⟨(h x h1).1, fun hx => fun y hy => List.mem_append.2 (.inl ((h x h1).2 (by omega) y hy))⟩
  · simp at h1; subst h1; exact ⟨ha, fun hx => by omega⟩
/-- S' is S and what a reaches -/
def Seen (s : List Blk) (S : List Int) (a : Int) (S' : List Int) : Prop := ∀ x, x ∈ S' ↔ x ∈ S ∨ x ∈ reachF 4 s a
theorem Seen.clos {s : List Blk} (ht : Tiers s) {f : Int} {S S' : List Int} {a : Int} (h : Seen s S a S') (hc : Clos s f S) (ha : a = 0 ∨ thereB s a = true) : Clos s f S' := by
  intro x hx
  rcases (h x).1 hx with h1 | h1
  · exact ⟨(hc x h1).1, fun hl y hy => (h y).2 (.inl ((hc x h1).2 hl y hy))⟩
  · rcases ha with h0 | h0
    · rw [h0, reach_zero] at h1; cases h1
    · exact ⟨reach_there ht a h0 x h1, fun _ y hy => (h y).2 (.inr (reach_trans ht a h0 x h1 y hy))⟩
theorem Seen.zero (s : List Blk) (S : List Int) : Seen s S 0 S := fun x => by rw [reach_zero]; simp
theorem Seen.old {s : List Blk} {f : Int} {S : List Int} {a : Int} (hc : Clos s f S) (ha : a ∈ S) (hl : (blk s a).level < f) : Seen s S a S := fun x => ⟨.inl, fun h => h.elim id fun h => (hc a ha).2 hl x h⟩

/-- how many are seen at most -/
theorem nodup_len : ∀ (n : Nat) (S : List Int), S.Nodup → (∀ x ∈ S, 1 ≤ x ∧ x ≤ n) → S.length ≤ n := by
  intro n
  induction n with
  | zero =>
    intro S _ h
    cases S with
    | nil => simp
    | cons x S => have := h x (by simp); omega
  | succ n ih =>
    intro S hn h
    have h1 := ih (S.erase ((n : Int) + 1)) (hn.erase _) (fun x hx => by
      have := (hn.mem_erase_iff).1 hx
      have h2 := h x this.2
      omega)
    have h3 := List.le_length_erase (a := ((n : Int) + 1)) (l := S)
    omega
theorem seen_len {s : List Blk} {S : List Int} (hn : S.Nodup) (h : ∀ x ∈ S, thereB s x = true) : S.length ≤ s.length := by
  refine nodup_len _ S hn fun x hx => ?_
  obtain ⟨k, hk, rfl, _⟩ := there_in (h x hx)
  omega

/-- the walk over the roots -/
def RootsSeen (s : List Blk) (roots : List Int) (S : List Int) : Prop := ∀ x, x ∈ S ↔ x ∈ allF s roots
theorem allF_snoc (s : List Blk) (l : List Int) (a : Int) (x : Int) : x ∈ allF s (l ++ [a]) ↔ x ∈ allF s l ∨ x ∈ reachF 4 s a := by simp [allF, List.flatMap_append]
theorem rootsOk_snoc (s : List Blk) (l : List Int) (a : Int) : rootsOk s (l ++ [a]) = (rootsOk s l && (decide (a = 0) || thereB s a)) := by simp [rootsOk, List.all_append]

/-- the list that is told: those seen up to k -/
def toldTo (s : List Blk) (S : List Int) (k : Nat) : List Int := ((List.range k).map fun (i : Nat) => (i : Int) + 1).filter fun x => decide (x ∈ S)
theorem toldTo_succ (s : List Blk) (S : List Int) (k : Nat) : toldTo s S (k + 1) = toldTo s S k ++ if (k : Int) + 1 ∈ S then [(k : Int) + 1] else [] := by
  unfold toldTo
  rw [List.range_succ, List.map_append, List.filter_append]
  congr 1
  by_cases h : (k : Int) + 1 ∈ S <;> simp [h]
theorem toldTo_len (s : List Blk) (S : List Int) (k : Nat) : (toldTo s S k).length ≤ k := by
  unfold toldTo
  refine Nat.le_trans (List.length_filter_le _ _) (by simp)
theorem told_all (s : List Blk) (roots S : List Int) (h : RootsSeen s roots S) : toldTo s S s.length = reachL s roots := by
  unfold toldTo reachL addrs
  congr 1
  funext x
  rw [decide_eq_decide]
  exact h x
end Go.Proofs.Ytpfopbkaddjjcaa
