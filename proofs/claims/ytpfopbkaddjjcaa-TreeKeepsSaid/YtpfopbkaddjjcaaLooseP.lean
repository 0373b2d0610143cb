/- Loose, in plain words. -/
import Derived.Test.YtpfopbkaddjjcaaMake
namespace Go.Proofs.Ytpfopbkaddjjcaa
open Go.RowKit
set_option linter.unusedVariables false

/-- a block let go: held once less, or free -/
def looseF : Nat → List Blk → Int → List Blk
  | 0, s, _ => s
  | f + 1, s, a => if a = 0 then s else if 1 < (blk s a).refs then addRef s a (-1) else (blk s a).kids.foldl (looseF f) (s.set (a - 1).toNat noBlk)

def cost : Nat → Int
  | 0 => 0
  | f + 1 => 1 + 4 * cost f
theorem cost_nn (f : Nat) : 0 ≤ cost f := by
  induction f with
  | zero => simp [cost]
  | succ f ih => simp [cost]; omega

/-- what a block has below stands lower -/
def Lv (s : List Blk) : Prop := ∀ x ∈ s, 0 ≤ x.level ∧ x.kids.length ≤ 4 ∧ ∀ k ∈ x.kids, k = 0 ∨ (1 ≤ k ∧ k ≤ s.length ∧ (blk s k).level < x.level)
def RefsL (s : List Blk) (L : Int) : Prop := ∀ x ∈ s, L ≤ x.refs ∧ x.refs ≤ 1000000000

theorem blk_set (s : List Blk) (k : Nat) (x : Blk) (b : Int) : blk (s.set k x) b = if k = (b - 1).toNat ∧ k < s.length then x else blk s b := by
  unfold blk
  rw [List.getElem?_set]
  by_cases h : k = (b - 1).toNat
  · by_cases h2 : k < s.length
    · rw [if_pos h, if_pos (h ▸ h2), if_pos ⟨h, h2⟩]; rfl
    · rw [if_pos h, if_neg (h ▸ h2), if_neg (fun e => h2 e.2)]
      rw [List.getElem?_eq_none (by omega)]
  · rw [if_neg h, if_neg (fun e => h e.1)]

theorem Lv.lev {s : List Blk} (h : Lv s) (b : Int) : 0 ≤ (blk s b).level := by
  unfold blk
  cases e : s[(b - 1).toNat]? with
  | none => simp [noBlk]
  | some y => exact (h y (List.mem_of_getElem? e)).1

theorem lev_addRef (s : List Blk) (a d b : Int) : (blk (addRef s a d) b).level = (blk s b).level := by
  unfold addRef
  rw [blk_set]
  split
  · rename_i h
    show (blk s a).level = _
    unfold blk
    rw [h.1]
  · rfl
theorem lev_free {s : List Blk} (h : Lv s) (k : Nat) (b : Int) : (blk (s.set k noBlk) b).level ≤ (blk s b).level := by
  rw [blk_set]
  split
  · exact h.lev b
  · exact Int.le_refl _

theorem Lv.addRef {s : List Blk} (h : Lv s) (a d : Int) : Lv (addRef s a d) := by
  intro x hx
  have key : (∃ y ∈ s, x.level = y.level ∧ x.kids = y.kids) ∨ (x.level = 0 ∧ x.kids = []) := by
    unfold Go.Proofs.Ytpfopbkaddjjcaa.addRef at hx
    rcases List.mem_or_eq_of_mem_set hx with h1 | h1
    · exact .inl ⟨x, h1, rfl, rfl⟩
    · cases e : s[(a - 1).toNat]? with
      | none => exact .inr ⟨by rw [h1]; unfold blk; rw [e]; rfl, by rw [h1]; unfold blk; rw [e]; rfl⟩
      | some y => exact .inl ⟨y, List.mem_of_getElem? e, by rw [h1]; unfold blk; rw [e]; rfl, by rw [h1]; unfold blk; rw [e]; rfl⟩
  obtain ⟨y, hy, h1, h2⟩ | ⟨h1, h2⟩ := key
  · rw [h1, h2]
    obtain ⟨p1, p2, p3⟩ := h y hy
    refine ⟨p1, p2, fun k hk => ?_⟩
    rw [lev_addRef, addRef_length]
    exact p3 k hk
  · rw [h1, h2]
    exact ⟨by omega, by simp, fun k hk => by cases hk⟩

theorem Lv.free {s : List Blk} (h : Lv s) (k : Nat) : Lv (s.set k noBlk) := by
  intro x hx
  rcases List.mem_or_eq_of_mem_set hx with h1 | h1
  · obtain ⟨p1, p2, p3⟩ := h x h1
    refine ⟨p1, p2, fun j hj => ?_⟩
    rcases p3 j hj with h0 | ⟨q1, q2, q3⟩
    · exact .inl h0
    · have := lev_free h k j
      rw [List.length_set]
      exact .inr ⟨q1, q2, by omega⟩
  · rw [h1]
    exact ⟨by simp [noBlk], by simp [noBlk], fun j hj => by simp [noBlk] at hj⟩

theorem RefsL.weaken {s : List Blk} {L L' : Int} (h : RefsL s L) (hl : L' ≤ L) : RefsL s L' := fun x hx => by have := h x hx; omega
theorem RefsL.less {s : List Blk} {L : Int} (h : RefsL s L) (hl : L ≤ 0) (a : Int) : RefsL (Go.Proofs.Ytpfopbkaddjjcaa.addRef s a (-1)) (L - 1) := by
  intro x hx
  unfold Go.Proofs.Ytpfopbkaddjjcaa.addRef at hx
  rcases List.mem_or_eq_of_mem_set hx with h1 | h1
  · have := h x h1; omega
  · rw [h1]
    show L - 1 ≤ (blk s a).refs + -1 ∧ (blk s a).refs + -1 ≤ 1000000000
    unfold blk
    cases e : s[(a - 1).toNat]? with
    | none => simp [noBlk]; omega
    | some y => have := h y (List.mem_of_getElem? e); simp only [Option.getD_some]; omega
theorem RefsL.free {s : List Blk} {L : Int} (h : RefsL s L) (hl : L ≤ 0) (k : Nat) : RefsL (s.set k noBlk) L := by
  intro x hx
  rcases List.mem_or_eq_of_mem_set hx with h1 | h1
  · exact h x h1
  · rw [h1]; simp [noBlk]; omega

structure Loosed (s s' : List Blk) (L : Int) : Prop where
  lv : Lv s'
  refs : RefsL s' L
  lev : ∀ b, (blk s' b).level ≤ (blk s b).level
  len : s'.length = s.length

theorem loosed_fold (f : Nat) (ih : ∀ (s : List Blk) (a L : Int), Lv s → RefsL s L → L ≤ 0 → Loosed s (looseF f s a) (L - cost f)) (ks : List Int) :
    ∀ (s : List Blk) (L : Int), Lv s → RefsL s L → L ≤ 0 → Loosed s (ks.foldl (looseF f) s) (L - ks.length * cost f) := by
  induction ks with
  | nil => intro s L h1 h2 h3; exact ⟨h1, by simpa using h2, fun _ => Int.le_refl _, rfl⟩
  | cons a ks hi =>
    intro s L h1 h2 h3
    have hc := cost_nn f
    have p := ih s a L h1 h2 h3
    have q := hi (looseF f s a) (L - cost f) p.lv p.refs (by omega)
    refine ⟨q.lv, ?_, fun b => Int.le_trans (q.lev b) (p.lev b), q.len.trans p.len⟩
    have e : L - ((a :: ks).length : Int) * cost f = L - cost f - (ks.length : Int) * cost f := by
      simp only [List.length_cons, Int.natCast_add, Int.add_mul]
      omega
    rw [e]
    exact q.refs

theorem kids4 {s : List Blk} (h : Lv s) (a : Int) : (blk s a).kids.length ≤ 4 := by
  unfold blk
  cases e : s[(a - 1).toNat]? with
  | none => simp [noBlk]
  | some y => exact (h y (List.mem_of_getElem? e)).2.1

theorem loosed (f : Nat) : ∀ (s : List Blk) (a L : Int), Lv s → RefsL s L → L ≤ 0 → Loosed s (looseF f s a) (L - cost f) := by
  induction f with
  | zero => intro s a L h1 h2 h3; exact ⟨h1, h2.weaken (by simp [cost]), fun _ => Int.le_refl _, rfl⟩
  | succ f ih =>
    intro s a L h1 h2 h3
    have hc := cost_nn f
    have hce : cost (f + 1) = 1 + 4 * cost f := rfl
    unfold looseF
    split
    · exact ⟨h1, h2.weaken (by omega), fun _ => Int.le_refl _, rfl⟩
    · split
      · exact ⟨h1.addRef a _, (h2.less h3 a).weaken (by omega), fun b => by rw [lev_addRef]; exact Int.le_refl _, addRef_length _ _ _⟩
      · have q := loosed_fold f ih (blk s a).kids (s.set (a - 1).toNat noBlk) L (h1.free _) (h2.free h3 _) h3
        have h4 := kids4 h1 a
        refine ⟨q.lv, q.refs.weaken ?_, fun b => Int.le_trans (q.lev b) (lev_free h1 _ b), q.len.trans (by simp)⟩
        have : ((blk s a).kids.length : Int) * cost f ≤ 4 * cost f := Int.mul_le_mul_of_nonneg_right (by omega) hc
        omega
end Go.Proofs.Ytpfopbkaddjjcaa
