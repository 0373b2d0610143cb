/- tree.Set in plain words: a leaf is put below a root. · tree.Set: the walk. -/
import Derived.Laws.CopyOwn
import Derived.Deep.DeepCutAuto
import Derived.Deep.RegionWith
import Derived.Test.YtfmgdjgedhnmeaaTreeGet
import Derived.Test.YtfmgdjgedhnmeaaBackQ
import Derived.Test.YtfmgdjgedhnmeaaCopy
namespace Go.Proofs.Ytfmgdjgedhnmeaa
open Go.RowKit
set_option linter.unusedVariables false

/-- right by itself, but for how often it is held -/
def FormG (s : List Blk) (x : Blk) : Prop := (x.level = 0 ∧ x.kids = [] ∧ x.bytes.length = 4) ∨ (1 ≤ x.level ∧ x.level ≤ 3 ∧ x.kids.length = 4 ∧ x.bytes = [] ∧ x.kids.all (kidOk s x.level) = true ∧ x.kids.all (fun k => decide (k = 0)) = false)
structure Good (s : List Blk) (M : Int) : Prop where
  few : s.length ≤ 400
  refs : RefsB s M
  forms : ∀ x ∈ s, x = noBlk ∨ (0 < x.refs ∧ FormG s x)
  wf : WfS s

theorem Good.of_check {s : List Blk} (h : checkE s = 0) (hw : WfS s) : Good s 1000000 := by
  obtain ⟨h4, hf, _, hri, _⟩ := checkE_zero s h
  refine ⟨h4, fun x hx => by have := hri x hx; omega, fun x hx => ?_, hw⟩
  rcases formB_zero s x (formsE_all s s hf x hx) with ⟨h1, h2, h3, h5⟩ | ⟨h1, _, h2, h3, h5⟩ | ⟨h1, _, h2⟩
  · refine .inl ?_
    obtain ⟨r, l, ks, bs⟩ := x
    simp only at h1 h2 h3 h5
    subst h1 h2 h3 h5
    rfl
  · exact .inr ⟨h1, .inl ⟨h2, h3, h5⟩⟩
  · exact .inr ⟨h1, .inr h2⟩

theorem kid_of {s : List Blk} {l k : Int} (h : kidOk s l k = true) : k = 0 ∨ (thereB s k = true ∧ (blk s k).level = l - 1) := by
  unfold kidOk at h
  simpa using h

theorem Good.lv {s : List Blk} {M : Int} (h : Good s M) : Lv s ∧ ∀ x ∈ s, x.level ≤ 3 := by
  constructor
  · intro x hx
    rcases h.forms x hx with e | ⟨_, ⟨e1, e2, _⟩ | ⟨e1, e2, e3, _, e5, _⟩⟩
    · rw [e]; exact ⟨by simp [noBlk], by simp [noBlk], fun k hk => by simp [noBlk] at hk⟩
    · rw [e2]; exact ⟨by omega, by simp, fun k hk => by cases hk⟩
    · refine ⟨by omega, by omega, fun k hk => ?_⟩
      rcases kid_of (List.all_eq_true.1 e5 k hk) with h0 | ⟨h1, h2⟩
      · exact .inl h0
      · have := there_ref h1
        exact .inr ⟨this.1, this.2.1, by omega⟩
  · intro x hx
    rcases h.forms x hx with e | ⟨_, ⟨e1, _⟩ | ⟨_, e2, _⟩⟩
    · rw [e]; simp [noBlk]
    · omega
    · exact e2
theorem Good.refsL {s : List Blk} {M : Int} (h : Good s M) (hM : M ≤ 1000000000) : RefsL s 0 := fun x hx => by have := h.refs x hx; omega

/-- an inner root's four -/
theorem Good.four {s : List Blk} {M : Int} (h : Good s M) {a : Int} (ha : thereB s a = true) (hl : 1 ≤ (blk s a).level) : (blk s a).kids.length = 4 ∧ ∀ k ∈ (blk s a).kids, k = 0 ∨ (thereB s k = true ∧ (blk s k).level = (blk s a).level - 1) := by
  obtain ⟨j, hj, rfl, hr⟩ := there_in ha
  rw [blk_at s j hj] at hl ⊢
  rcases h.forms _ (List.getElem_mem hj) with e | ⟨_, ⟨e1, _⟩ | ⟨_, _, e3, _, e5, _⟩⟩
  · rw [e] at hl; simp [noBlk] at hl
  · omega
  · exact ⟨e3, fun k hk => kid_of (List.all_eq_true.1 e5 k hk)⟩

/-- what was there is there -/
def Keeps (s t : List Blk) : Prop := ∀ a, thereB s a = true → thereB t a = true ∧ (blk t a).level = (blk s a).level ∧ (blk t a).kids = (blk s a).kids ∧ (blk t a).bytes = (blk s a).bytes ∧ (blk s a).refs ≤ (blk t a).refs
theorem Keeps.refl (s : List Blk) : Keeps s s := fun a h => ⟨h, rfl, rfl, rfl, Int.le_refl _⟩
theorem Keeps.trans {s t u : List Blk} (h : Keeps s t) (k : Keeps t u) : Keeps s u := fun a ha => by
  obtain ⟨h1, h2, h3, h4, h5⟩ := h a ha
  obtain ⟨k1, k2, k3, k4, k5⟩ := k a h1
  exact ⟨k1, k2.trans h2, k3.trans h3, k4.trans h4, by omega⟩
theorem Keeps.root {s t : List Blk} (h : Keeps s t) {m : Nat} {a : Int} (hr : RootAt s m a) : RootAt t m a := by
  rcases hr with h0 | ⟨h1, h2⟩
  · exact .inl h0
  · obtain ⟨k1, k2, _⟩ := h a h1
    exact .inr ⟨k1, by omega⟩
theorem Keeps.form {s t : List Blk} (h : Keeps s t) {x : Blk} (hx : FormG s x) (r : Int) : FormG t { x with refs := r } := by
  rcases hx with e | ⟨e1, e2, e3, e4, e5, e6⟩
  · exact .inl e
  · refine .inr ⟨e1, e2, e3, e4, ?_, e6⟩
    rw [List.all_eq_true]
    intro k hk
    rcases kid_of (List.all_eq_true.1 e5 k hk) with h0 | ⟨h1, h2⟩
    · simp [kidOk, h0]
    · obtain ⟨k1, k2, _⟩ := h k h1
      simp only [kidOk, k1, Bool.true_and, Bool.or_eq_true, decide_eq_true_eq]
      exact .inr (by omega)

/-- put into a store that is right but for how often blocks are held -/
structure PutG (s : List Blk) (l : Int) (ks bs : List Int) (f : Nat) : Prop where
  lt : f < s.length
  form : formE s 1 l ks bs = 0
  free : s[f] = noBlk

theorem PutG.kid {s : List Blk} {l : Int} {ks bs : List Int} {f : Nat} (h : PutG s l ks bs f) : ∀ k ∈ ks, k = 0 ∨ (1 ≤ k ∧ k ≤ s.length ∧ 0 < (blk s k).refs) := fun k hk =>
  ((form_kids s l ks bs h.form).2.2 k hk).imp id fun p => there_ref p.2.2
theorem PutG.none {s : List Blk} {l : Int} {ks bs : List Int} {f : Nat} (h : PutG s l ks bs f) (j : Nat) (hj : j < s.length) (hr : s[j].refs ≤ 0) : ks.count ((j : Int) + 1) = 0 := by
  rw [List.count_eq_zero]
  intro hm
  rcases h.kid _ hm with h0 | ⟨_, _, h1⟩
  · omega
  · rw [blk_at s j hj] at h1; omega
theorem PutG.adr {s : List Blk} {l : Int} {ks bs : List Int} {f : Nat} (h : PutG s l ks bs f) (x : Blk) : Adr (s.set f x) ks := fun k hk => by
  rw [List.length_set]; exact (h.kid k hk).imp id fun p => ⟨p.1, p.2.1⟩
theorem PutG.get {s : List Blk} {l : Int} {ks bs : List Int} {f : Nat} (h : PutG s l ks bs f) (j : Nat) (hj : j < s.length) (hj' : j < (putM s l ks bs f).length) :
    (putM s l ks bs f)[j] = if j = f then ⟨1, l, ks, bs⟩ else { s[j] with refs := s[j].refs + ((ks.count ((j : Int) + 1) : Nat) : Int) } := by
  have e : (putM s l ks bs f)[j] = (bump (s.set f ⟨1, l, ks, bs⟩) ks)[j]'(by rw [bump_length, List.length_set]; exact hj) := rfl
  rw [e, bump_get ks _ j (by rw [List.length_set]; exact hj) _ (h.adr _), List.getElem_set]
  by_cases hf : j = f
  · subst hf
    have := h.none j hj (by rw [h.free]; simp [noBlk])
    rw [if_pos rfl, if_pos rfl, this]; simp
  · rw [if_neg (fun e => hf e.symm), if_neg hf]

theorem PutG.keeps {s : List Blk} {l : Int} {ks bs : List Int} {f : Nat} (h : PutG s l ks bs f) : Keeps s (putM s l ks bs f) := by
  intro a ha
  obtain ⟨h1, h2, h3⟩ := there_ref ha
  obtain ⟨j, rfl⟩ : ∃ j : Nat, a = j + 1 := ⟨(a - 1).toNat, by omega⟩
  have hj : j < s.length := by omega
  have hj' : j < (putM s l ks bs f).length := by rw [putM_length]; exact hj
  rw [blk_at s j hj] at h3
  have hf : j ≠ f := by
    intro e
    subst e
    rw [h.free] at h3
    simp [noBlk] at h3
  rw [there_at _ j hj', blk_at _ j hj', blk_at s j hj, h.get j hj hj', if_neg hf]
  simp only [decide_eq_true_eq, true_and]
  omega

theorem formG_of {s : List Blk} {l : Int} {ks bs : List Int} (h : formE s 1 l ks bs = 0) : FormG s ⟨1, l, ks, bs⟩ := by
  have h1 : formB s ⟨1, l, ks, bs⟩ = 0 := h
  rcases formB_zero s _ h1 with ⟨e, _⟩ | ⟨_, _, e⟩ | ⟨_, _, e⟩
  · simp at e
  · exact .inl e
  · exact .inr e

theorem PutG.good {s : List Blk} {l : Int} {ks bs : List Int} {f : Nat} {M : Int} (h : PutG s l ks bs f) (hg : Good s M) (hM : 1 ≤ M) (hM2 : M ≤ 900000000) (hx : WfB ⟨1, l, ks, bs⟩) : Good (putM s l ks bs f) (M + 4) := by
  have hk4 := (form_kids s l ks bs h.form).1
  have hcl : ∀ j : Nat, ks.count ((j : Int) + 1) ≤ 4 := fun j => Nat.le_trans List.count_le_length hk4
  have hlen := putM_length s l ks bs f
  refine ⟨by rw [hlen]; exact hg.few, fun x hx2 => ?_, fun x hx2 => ?_, fun x hx2 => ?_⟩
  all_goals
    obtain ⟨j, hj', rfl⟩ := List.getElem_of_mem hx2
    have hj : j < s.length := by omega
    have hr := hg.refs _ (List.getElem_mem hj)
    have hc := hcl j
    rw [h.get j hj hj']
  · split
    · simp only; omega
    · simp only; omega
  · split
    · exact .inr ⟨by simp, h.keeps.form (formG_of h.form) 1⟩
    · rcases hg.forms _ (List.getElem_mem hj) with e | ⟨e1, e2⟩
      · left
        rw [h.none j hj (by rw [e]; simp [noBlk]), e]
        simp [noBlk]
      · exact .inr ⟨by simp only; omega, h.keeps.form e2 _⟩
  · split
    · exact hx
    · have hy := hg.wf _ (List.getElem_mem hj)
      exact ⟨by unfold I64; simp only; omega, hy.level, hy.kids, hy.bytes, hy.klen, hy.blen⟩

/-- one held once less, and still -/
theorem less_good {s : List Blk} {M : Int} (hg : Good s M) (k : Nat) (hk : k < s.length) (h2 : 1 < s[k].refs) : looseF 4 s ((k : Int) + 1) = addRef s ((k : Int) + 1) (-1) ∧ Good (addRef s ((k : Int) + 1) (-1)) M := by
  constructor
  · show looseF (3 + 1) s _ = _
    unfold looseF
    rw [if_neg (by omega), blk_at s k hk, if_pos h2]
  · have hl : (addRef s ((k : Int) + 1) (-1)).length = s.length := addRef_length _ _ _
    have hkp : ∀ a, thereB s a = true → thereB (addRef s ((k : Int) + 1) (-1)) a = true ∧ (blk (addRef s ((k : Int) + 1) (-1)) a).level = (blk s a).level := by
      intro a ha
      obtain ⟨h1, h3, h4⟩ := there_ref ha
      obtain ⟨i, rfl⟩ : ∃ i : Nat, a = i + 1 := ⟨(a - 1).toNat, by omega⟩
      have hi : i < s.length := by omega
      have hi' : i < (addRef s ((k : Int) + 1) (-1)).length := by omega
      rw [blk_at s i hi] at h4
      rw [there_at _ i hi', blk_at _ i hi', blk_at s i hi, addRef_get s _ _ i hi hi' (by omega)]
      simp only [decide_eq_true_eq, and_true]
      split
      · rename_i e
        obtain rfl : k = i := by omega
        omega
      · omega
    refine ⟨by rw [hl]; exact hg.few, fun x hx => ?_, fun x hx => ?_, fun x hx => ?_⟩
    all_goals
      obtain ⟨j, hj', rfl⟩ := List.getElem_of_mem hx
      have hj : j < s.length := by omega
      have hr := hg.refs _ (List.getElem_mem hj)
      rw [addRef_get s _ _ j hj hj' (by omega)]
    · by_cases e : (k : Int) + 1 = (j : Int) + 1
      · obtain rfl : k = j := by omega
        rw [if_pos rfl]; simp only; omega
      · rw [if_neg e]; simp only; omega
    · rcases hg.forms _ (List.getElem_mem hj) with e | ⟨e1, e2⟩
      · left
        have : ¬ ((k : Int) + 1 = (j : Int) + 1) := fun e3 => by
          obtain rfl : k = j := by omega
          rw [e] at h2; simp [noBlk] at h2
        rw [if_neg this, e]
        simp [noBlk]
      · right
        refine ⟨?_, ?_⟩
        · by_cases e : (k : Int) + 1 = (j : Int) + 1
          · obtain rfl : k = j := by omega
            rw [if_pos rfl]; simp only; omega
          · rw [if_neg e]; simp only; omega
        · rcases e2 with e | ⟨q1, q2, q3, q4, q5, q6⟩
          · exact .inl e
          · refine .inr ⟨q1, q2, q3, q4, ?_, q6⟩
            rw [List.all_eq_true]
            intro v hv
            rcases kid_of (List.all_eq_true.1 q5 v hv) with h0 | ⟨h1, h3⟩
            · simp [kidOk, h0]
            · obtain ⟨k1, k2⟩ := hkp v h1
              simp only [kidOk, k1, Bool.true_and, Bool.or_eq_true, decide_eq_true_eq]
              exact .inr (by omega)
    · have hy := hg.wf _ (List.getElem_mem hj)
      by_cases e : (k : Int) + 1 = (j : Int) + 1
      · obtain rfl : k = j := by omega
        rw [if_pos rfl]
        have := hy.refs
        exact ⟨by unfold I64 at *; simp only; omega, hy.level, hy.kids, hy.bytes, hy.klen, hy.blen⟩
      · rw [if_neg e]
        simpa using hy

/-- a root's four, or none -/
def kids0 (s : List Blk) (root : Int) : List Int := if root = 0 then [0, 0, 0, 0] else (blk s root).kids
/-- Set: the store, the new root, what is wrong -/
def setF : Nat → List Blk → Int → Nat → List Int → List Blk × Int × Int
  | 0, s, _, _, b => if b = [] then (s, 0, 0) else putR s 0 [] b
  | m + 1, s, root, i, b =>
    if (setF m s ((kids0 s root)[i / p4n m]?.getD 0) (i % p4n m) b).2.2 ≠ 0 then ((setF m s ((kids0 s root)[i / p4n m]?.getD 0) (i % p4n m) b).1, 0, (setF m s ((kids0 s root)[i / p4n m]?.getD 0) (i % p4n m) b).2.2)
    else if ((kids0 s root).set (i / p4n m) (setF m s ((kids0 s root)[i / p4n m]?.getD 0) (i % p4n m) b).2.1).all (fun k => decide (k = 0)) = true then ((setF m s ((kids0 s root)[i / p4n m]?.getD 0) (i % p4n m) b).1, 0, 0)
    else (looseF 4 (putR (setF m s ((kids0 s root)[i / p4n m]?.getD 0) (i % p4n m) b).1 ((m : Int) + 1) ((kids0 s root).set (i / p4n m) (setF m s ((kids0 s root)[i / p4n m]?.getD 0) (i % p4n m) b).2.1) []).1 (setF m s ((kids0 s root)[i / p4n m]?.getD 0) (i % p4n m) b).2.1,
      (putR (setF m s ((kids0 s root)[i / p4n m]?.getD 0) (i % p4n m) b).1 ((m : Int) + 1) ((kids0 s root).set (i / p4n m) (setF m s ((kids0 s root)[i / p4n m]?.getD 0) (i % p4n m) b).2.1) []).2.1,
      (putR (setF m s ((kids0 s root)[i / p4n m]?.getD 0) (i % p4n m) b).1 ((m : Int) + 1) ((kids0 s root).set (i / p4n m) (setF m s ((kids0 s root)[i / p4n m]?.getD 0) (i % p4n m) b).2.1) []).2.2)

theorem Good.weaken {s : List Blk} {M M' : Int} (h : Good s M) (hm : M ≤ M') : Good s M' := ⟨h.few, fun x hx => by have := h.refs x hx; omega, h.forms, h.wf⟩

theorem Good.free {s : List Blk} {M : Int} (h : Good s M) (hf : freeIx s < s.length) : s[freeIx s] = noBlk := by
  rcases h.forms _ (List.getElem_mem hf) with e | ⟨e, _⟩
  · exact e
  · have := freeIx_refs s hf; omega

/-- Put that went well -/
theorem put_well {s : List Blk} {M : Int} (hg : Good s M) {l : Int} {ks bs : List Int} (he : (putR s l ks bs).2.2 = 0) : PutG s l ks bs (freeIx s) ∧ putR s l ks bs = (putM s l ks bs (freeIx s), (freeIx s : Int) + 1, 0) := by
  have hfe : formE s 1 l ks bs = 0 := by
    apply Classical.byContradiction
    intro h
    rw [putR_bad s l ks bs h] at he
    exact h he
  have hle := freeIx_le s
  have hlt : freeIx s < s.length := by
    apply Classical.byContradiction
    intro h
    rw [putR_full s l ks bs hfe (by omega)] at he
    simp at he
  exact ⟨⟨hlt, hfe, hg.free hlt⟩, putR_ok s l ks bs hfe hlt⟩

theorem put_good {s : List Blk} {M : Int} (hg : Good s M) (hM : 1 ≤ M) (hM2 : M ≤ 900000000) {l : Int} {ks bs : List Int} (hx : WfB ⟨1, l, ks, bs⟩) : Good (putR s l ks bs).1 (M + 4) := by
  by_cases he : (putR s l ks bs).2.2 = 0
  · obtain ⟨h1, h2⟩ := put_well hg he
    rw [h2]
    exact h1.good hg hM hM2 hx
  · have : (putR s l ks bs).1 = s := by
      unfold putR at he ⊢
      split
      · rfl
      · split
        · rfl
        · rename_i h1 h2
          rw [if_neg h1, if_neg h2] at he
          simp at he
    rw [this]
    exact hg.weaken (by omega)

/-- the new one -/
theorem PutG.new {s : List Blk} {l : Int} {ks bs : List Int} {f : Nat} (h : PutG s l ks bs f) : thereB (putM s l ks bs f) ((f : Int) + 1) = true ∧ blk (putM s l ks bs f) ((f : Int) + 1) = ⟨1, l, ks, bs⟩ := by
  have hf' : f < (putM s l ks bs f).length := by rw [putM_length]; exact h.lt
  have hg := h.get f h.lt hf'
  rw [if_pos rfl] at hg
  rw [there_at _ f hf', blk_at _ f hf', hg]
  simp

theorem node_step {s : List Blk} {M : Int} (hg : Good s M) (hM : 1 ≤ M) (hM2 : M ≤ 900000000) {m : Nat} (hm : m ≤ 2) {ks : List Int} {k1 : Int} (h4 : ks.length = 4) (hk1 : k1 ∈ ks) (hk1r : RootAt s m k1) (hI : ∀ k ∈ ks, I64 k) (he : (putR s ((m : Int) + 1) ks []).2.2 = 0) :
    Good (looseF 4 (putR s ((m : Int) + 1) ks []).1 k1) (M + 4) ∧ RootAt (looseF 4 (putR s ((m : Int) + 1) ks []).1 k1) (m + 1) (putR s ((m : Int) + 1) ks []).2.1 ∧ Keeps s (looseF 4 (putR s ((m : Int) + 1) ks []).1 k1) := by
  obtain ⟨hp, e⟩ := put_well hg he
  rw [e]
  simp only
  have hwx : WfB ⟨1, (m : Int) + 1, ks, []⟩ := ⟨by unfold I64; simp only; omega, by unfold I64; simp only; omega, hI, (by intro x hx; cases hx), by simp only; omega, by simp⟩
  have hG := hp.good hg hM hM2 hwx
  have hK := hp.keeps
  obtain ⟨hn1, hn2⟩ := hp.new
  rcases hk1r with h0 | ⟨h1, h2⟩
  · rw [h0]
    have : looseF 4 (putM s ((m : Int) + 1) ks [] (freeIx s)) 0 = putM s ((m : Int) + 1) ks [] (freeIx s) := by simp [looseF]
    rw [this]
    exact ⟨hG, .inr ⟨hn1, by rw [hn2]; simp⟩, hK⟩
  · obtain ⟨a1, a2, a3⟩ := there_ref h1
    obtain ⟨j, rfl⟩ : ∃ j : Nat, k1 = j + 1 := ⟨(k1 - 1).toNat, by omega⟩
    have hj : j < s.length := by omega
    have hj' : j < (putM s ((m : Int) + 1) ks [] (freeIx s)).length := by rw [putM_length]; exact hj
    rw [blk_at s j hj] at a3
    have hjf : j ≠ freeIx s := by
      intro e2
      have h3 := hp.free
      simp only [← e2] at h3
      rw [h3] at a3
      simp [noBlk] at a3
    have hgt := hp.get j hj hj'
    rw [if_neg hjf] at hgt
    have hc : 0 < ks.count ((j : Int) + 1) := List.count_pos_iff.2 hk1
    have h2r : 1 < (putM s ((m : Int) + 1) ks [] (freeIx s))[j].refs := by rw [hgt]; simp only; omega
    obtain ⟨e3, hG2⟩ := less_good hG j hj' h2r
    rw [e3]
    have hl2 : (addRef (putM s ((m : Int) + 1) ks [] (freeIx s)) ((j : Int) + 1) (-1)).length = s.length := by rw [addRef_length, putM_length]
    refine ⟨hG2, .inr ?_, ?_⟩
    · have hf1 : freeIx s < (putM s ((m : Int) + 1) ks [] (freeIx s)).length := by rw [putM_length]; exact hp.lt
      have hf2 : freeIx s < (addRef (putM s ((m : Int) + 1) ks [] (freeIx s)) ((j : Int) + 1) (-1)).length := by rw [hl2]; exact hp.lt
      have hg3 := addRef_get (putM s ((m : Int) + 1) ks [] (freeIx s)) ((j : Int) + 1) (-1) (freeIx s) hf1 hf2 (by omega)
      rw [if_neg (by omega)] at hg3
      rw [blk_at _ _ hf1] at hn2
      rw [there_at _ _ hf2, blk_at _ _ hf2, hg3, hn2]
      simp
    · intro a ha
      obtain ⟨k2, k3, k4, k5, k6⟩ := hK a ha
      obtain ⟨b1, b2, b3⟩ := there_ref ha
      obtain ⟨i, rfl⟩ : ∃ i : Nat, a = i + 1 := ⟨(a - 1).toNat, by omega⟩
      have hi : i < s.length := by omega
      have hi1 : i < (putM s ((m : Int) + 1) ks [] (freeIx s)).length := by rw [putM_length]; exact hi
      have hi2 : i < (addRef (putM s ((m : Int) + 1) ks [] (freeIx s)) ((j : Int) + 1) (-1)).length := by rw [hl2]; exact hi
      rw [blk_at s i hi] at b3 k3 k4 k5 k6 ⊢
      rw [blk_at _ i hi1] at k3 k4 k5 k6
      rw [there_at _ i hi2, blk_at _ i hi2, addRef_get _ _ _ i hi1 hi2 (by omega)]
      by_cases e4 : (j : Int) + 1 = (i : Int) + 1
      · obtain rfl : j = i := by omega
        rw [if_pos rfl]
        rw [hgt] at k3 k4 k5 h2r ⊢
        simp only [decide_eq_true_eq] at *
        exact ⟨by omega, trivial, trivial, trivial, by omega⟩
      · rw [if_neg e4]
        simp only [decide_eq_true_eq, Int.add_zero]
        exact ⟨by omega, k3, k4, k5, k6⟩

/-- the four below a root, and one of them new -/
theorem kids0_ok {s : List Blk} {M : Int} (hg : Good s M) {m : Nat} {root : Int} (hr : RootAt s (m + 1) root) : (kids0 s root).length = 4 ∧ ∀ k ∈ kids0 s root, RootAt s m k := by
  unfold kids0
  split
  · refine ⟨rfl, fun k hk => ?_⟩
    simp at hk
    exact .inl hk
  · rename_i h0
    obtain ⟨h1, h2⟩ := hr.resolve_left h0
    obtain ⟨h3, h4⟩ := hg.four h1 (by omega)
    refine ⟨h3, fun k hk => ?_⟩
    rcases h4 k hk with e | ⟨e1, e2⟩
    · exact .inl e
    · exact .inr ⟨e1, by omega⟩

theorem root_I64 {s : List Blk} {M : Int} (hg : Good s M) {m : Nat} {k : Int} (h : RootAt s m k) : I64 k := by
  unfold I64
  rcases h with h0 | ⟨h1, _⟩
  · omega
  · have := there_ref h1; have := hg.few; omega

theorem set_good : ∀ (m : Nat) (s : List Blk) (root : Int) (i : Nat) (b : List Int) (M : Int), m ≤ 3 → Good s M → 1 ≤ M → M + 4 * m ≤ 800000000 → RootAt s m root → i < p4n m → Byt b → b.length ≤ 4 → (setF m s root i b).2.2 = 0 →
    Good (setF m s root i b).1 (M + 4 * (m + 1)) ∧ RootAt (setF m s root i b).1 m (setF m s root i b).2.1 ∧ Keeps s (setF m s root i b).1 := by
  intro m
  induction m with
  | zero =>
    intro s root i b M _ hg hM hM2 _ _ hb hb4 he
    unfold setF at he ⊢
    split
    · exact ⟨hg.weaken (by omega), .inl rfl, Keeps.refl s⟩
    · rename_i hne
      rw [if_neg hne] at he
      obtain ⟨hp, e⟩ := put_well hg he
      rw [e]
      obtain ⟨hn1, hn2⟩ := hp.new
      refine ⟨?_, .inr ⟨hn1, by rw [hn2]; rfl⟩, hp.keeps⟩
      exact (hp.good hg hM (by omega) ⟨by unfold I64; simp only; omega, by unfold I64; simp only; omega, by simp, hb, by simp, by simp only; omega⟩).weaken (by omega)
  | succ m ih =>
    intro s root i b M hm hg hM hM2 hr hi hb hb4 he
    obtain ⟨h4, hkr⟩ := kids0_ok hg hr
    have hps := p4n_succ m (by omega)
    have hpp := p4n_pos m
    have hd4 : i / p4n m < 4 := div_lt4 hpp (by omega)
    have hge : (kids0 s root)[i / p4n m]?.getD 0 = (kids0 s root)[i / p4n m]'(by omega) := by rw [List.getElem?_eq_getElem (by omega)]; rfl
    unfold setF at he ⊢
    split
    · rename_i h; rw [if_pos h] at he; exact absurd he h
    · rename_i h
      rw [if_neg h] at he
      have h0 : (setF m s ((kids0 s root)[i / p4n m]?.getD 0) (i % p4n m) b).2.2 = 0 := by simpa using h
      obtain ⟨g1, g2, g3⟩ := ih s _ (i % p4n m) b M (by omega) hg hM (by omega) (by rw [hge]; exact hkr _ (List.getElem_mem _)) (Nat.mod_lt _ hpp) hb hb4 h0
      generalize setF m s ((kids0 s root)[i / p4n m]?.getD 0) (i % p4n m) b = r at *
      split
      · exact ⟨g1.weaken (by omega), .inl rfl, g3⟩
      · rename_i hz
        rw [if_neg hz] at he
        have hk1 : r.2.1 ∈ (kids0 s root).set (i / p4n m) r.2.1 := List.mem_set (by omega) _
        have hall : ∀ k ∈ (kids0 s root).set (i / p4n m) r.2.1, RootAt r.1 m k := by
          intro k hk
          rcases List.mem_or_eq_of_mem_set hk with e | e
          · exact g3.root (hkr k e)
          · rw [e]; exact g2
        obtain ⟨q1, q2, q3⟩ := node_step g1 (by omega) (by omega) (by omega) (by rw [List.length_set]; exact h4) hk1 g2 (fun k hk => root_I64 g1 (hall k hk)) he
        exact ⟨q1.weaken (by omega), q2, g3.trans q3⟩
end Go.Proofs.Ytfmgdjgedhnmeaa

namespace Go.Proofs.Ytfmgdjgedhnmeaa
open Go.RowKit
set_option linter.unusedVariables false

/-- no slice in the store's row that holds something points to kb -/
def RowOff (w : World) (g n kb : Nat) : Prop := ∀ j, j < n → ∀ b o l c, 0 < l →
  (w.cell? ⟨g, j * 4 + 2, none⟩ = some (.slice (some ⟨b, o, none⟩) l c) → b ≠ kb) ∧ (w.cell? ⟨g, j * 4 + 3, none⟩ = some (.slice (some ⟨b, o, none⟩) l c) → b ≠ kb)

theorem SlX.cellAt {g : Nat} {k : IntKind} {w : World} {v : Value} {xs : List Int} (h : SlX g k w v xs) : xs = [] ∨ ∃ b o cap, v = .slice (some ⟨b, o, none⟩) xs.length cap ∧ 0 < xs.length ∧ b < w.heap.size := by
  obtain ⟨ao, cap, rfl, h2, _⟩ := h
  rcases h2 with h2 | ⟨b, o, rfl, _, hc⟩
  · exact .inl h2
  · rcases Nat.eq_zero_or_pos xs.length with h0 | h0
    · exact .inl (List.eq_nil_of_length_eq_zero h0)
    · exact .inr ⟨b, o, cap, rfl, h0, World.block_lt_of_cell? _ _ (hc 0 h0)⟩

/-- a block made now: no row points there -/
theorem OwnR.off {w : World} {base g : Nat} {s : List Blk} (h : OwnR w base g s) {kb : Nat} (hk : w.heap.size ≤ kb) : RowOff w g s.length kb := by
  intro j hj b o l c hl
  have hB := h.blks j hj
  obtain ⟨v, h1, h2⟩ := hB.kids
  obtain ⟨u, h3, h4⟩ := hB.bytes
  refine ⟨fun e => ?_, fun e => ?_⟩
  · rw [h1] at e
    simp only [Option.some.injEq] at e
    rcases h2.cellAt with h5 | ⟨b', o', cap', h5, _, h7⟩
    · obtain ⟨ao, cap, h6, _, _⟩ := h2
      rw [e, h5] at h6
      simp only [Value.slice.injEq, List.length_nil] at h6
      omega
    · rw [e] at h5
      simp only [Value.slice.injEq, Option.some.injEq, Addr.mk.injEq] at h5
      omega
  · rw [h3] at e
    simp only [Option.some.injEq] at e
    rcases h4.cellAt with h5 | ⟨b', o', cap', h5, _, h7⟩
    · obtain ⟨ao, cap, h6, _, _⟩ := h4
      rw [e, h5] at h6
      simp only [Value.slice.injEq, List.length_nil] at h6
      omega
    · rw [e] at h5
      simp only [Value.slice.injEq, Option.some.injEq, Addr.mk.injEq] at h5
      omega

theorem RowOff.from {w w' : World} {g n B kb : Nat} (h : RowOff w g n kb) (hf : RowFrom w w' g n B) (hk : kb < B) : RowOff w' g n kb := by
  intro j hj b o l c hl
  by_cases e : b = kb
  · have hf2 := hf j hj b o l c hl (by omega)
    exact ⟨fun h1 => (h j hj b o l c hl).1 (hf2.1 h1), fun h1 => (h j hj b o l c hl).2 (hf2.2 h1)⟩
  · exact ⟨fun _ => e, fun _ => e⟩

/-- a cell of such a block is written: the store's row stays -/
theorem OwnR.setFar {w : World} {base g : Nat} {s : List Blk} (h : OwnR w base g s) {kb : Nat} (ho : RowOff w g s.length kb) (hkg : kb ≠ g) (i : Nat) (v : Value) : OwnR (w.setCell ⟨kb, i, none⟩ v) base g s := by
  have hk : ∀ b, b ≠ kb → (w.setCell ⟨kb, i, none⟩ v).heap[b]? = w.heap[b]? := fun b hb => Below.heap_setCell _ _ _ _ hb
  have hc : ∀ j, (w.setCell ⟨kb, i, none⟩ v).cell? ⟨g, j, none⟩ = w.cell? ⟨g, j, none⟩ := fun j => World.cell?_of_block (w := w) (hk g (Ne.symm hkg))
  have sl : ∀ {k : IntKind} {u : Value} {xs : List Int}, SlX g k w u xs → (∀ b o c, u = .slice (some ⟨b, o, none⟩) xs.length c → 0 < xs.length → b ≠ kb) → SlX g k (w.setCell ⟨kb, i, none⟩ v) u xs := by
    rintro k u xs ⟨ao, cap, rfl, h2, h3⟩ hb
    refine ⟨ao, cap, rfl, ?_, h3⟩
    rcases h2 with h2 | ⟨b, o, rfl, hg, hcc⟩
    · exact .inl h2
    · rcases Nat.eq_zero_or_pos xs.length with h0 | h0
      · exact .inl (List.eq_nil_of_length_eq_zero h0)
      · refine .inr ⟨b, o, rfl, hg, fun q hq => ?_⟩
        rw [World.cell?_of_block (a := ⟨b, o + q, none⟩) (hk b (hb b o cap rfl h0))]
        exact hcc q hq
  refine ⟨h.le, ?_, fun j hj => ?_⟩
  · obtain ⟨cur, hcur⟩ := h.heap
    exact ⟨cur, by rw [hk g (Ne.symm hkg)]; exact hcur⟩
  · have hB := h.blks j hj
    obtain ⟨v1, h1, h2⟩ := hB.kids
    obtain ⟨u1, h3, h4⟩ := hB.bytes
    refine ⟨(hc _).trans hB.refs, (hc _).trans hB.level, ⟨v1, (hc _).trans h1, sl h2 fun b o c e hl => ?_⟩, ⟨u1, (hc _).trans h3, sl h4 fun b o c e hl => ?_⟩⟩
    · exact (ho j hj b o _ c hl).1 (by rw [h1, e])
    · exact (ho j hj b o _ c hl).2 (by rw [h3, e])

set_option maxHeartbeats 1000000 in
theorem loose_less (w : World) (pb base g n cap : Nat) (s : List Blk) (j : Nat) (hn : s.length = n) (h400 : n ≤ 400) (hbox : w.heap[pb]? = some (.cells #[.slice (some ⟨g, 0, none⟩) n cap] 24 (0, 0))) (hR : OwnR w base g s) (hpg : pb ≠ g)
    (hj : j < s.length) (h2 : 1 < s[j].refs) (hb : s[j].refs ≤ 1000000000) :
    Calls Try.prog 117 #[.pointer (some ⟨pb, 0, none⟩), .int .i64 ((j : Int) + 1)] w fun e w' => e = .returned (.tuple #[]) ∧ w' = w.setCell ⟨g, j * 4, none⟩ (.int .i64 (s[j].refs - 1)) := by
  have hjn : (j : Int) < n := by omega
  have hB := hR.blks j hj
  have e0 := hB.refs
  have e1 := hB.level
  have fr := hR.free
  have lg := hR.lt
  have c1 := cell_of_one hbox
  have lp := lt_heap hbox
  have hx : decide (0 < s[j].refs - 1) = true := by simp; omega
  have hz : ¬ ((j : Int) + 1 = 0) := by omega
  have HN := Lib.hid hn
  have hbox1 : (w.setCell ⟨g, j * 4, none⟩ (.int .i64 (s[j].refs - 1))).heap[pb]? = _ := heap_setCell_ne hbox hpg
  have hR1 := hR.setRefs j hj (s[j].refs - 1)
  clear hn hB
  generalize s[j].refs = r at *
  go_enter Try.func117, Try.ntmps117
  go_wp2
  refine bodyPost_ret (v := .tuple #[]) (by simp [results, Try.results117, go_sem]) rfl ⟨rfl, rfl⟩

/-- what Set leaves -/
def SetDone (w w' : World) (base : Nat) (ao : Option Addr) (n cap : Nat) (s : List Blk) (r : List Blk × Int × Int) : Prop :=
  Below base w w' ∧ (∀ b, b < w.heap.size → (∀ g, s ≠ [] → ao = some ⟨g, 0, none⟩ → b ≠ g) → w'.heap[b]? = w.heap[b]?) ∧
  (r.2.2 = 0 → OwnSto w' base (.slice ao n cap) r.1 ∧ ∀ g, s ≠ [] → ao = some ⟨g, 0, none⟩ → RowFrom w w' g n w.heap.size)

set_option maxRecDepth 100000 in
set_option maxHeartbeats 2000000 in
theorem set_zero (w : World) (pb base : Nat) (ao ba : Option Addr) (n cap nb bc : Nat) (s : List Blk) (root : Int) (i : Int) (b : List Int) (M : Int) (hn : s.length = n) (hbox : w.heap[pb]? = some (.cells #[.slice ao n cap] 24 (0, 0))) (ho : OwnSto w base (.slice ao n cap) s)
    (hpn : ∀ g, s ≠ [] → ao = some ⟨g, 0, none⟩ → pb ≠ g) (hbs : base ≤ w.heap.size) (hg : Good s M) (hM : M ≤ 900000000) (hnb : b.length = nb) (hb4 : nb ≤ 4) (hbr : Row .u8 w ba b) (hbc : Capd ba nb bc) :
    Calls Try.prog 136 #[.pointer (some ⟨pb, 0, none⟩), .int .i64 root, .int .i64 0, .int .i64 i, .slice ba nb bc] w fun e w' =>
      e = .returned (.tuple #[.int .i64 (setF 0 s root 0 b).2.1, .int .i64 (setF 0 s root 0 b).2.2]) ∧ SetDone w w' base ao n cap s (setF 0 s root 0 b) := by
  have HN := Lib.hid hn
  have HB := Lib.hid hnb
  have h400 : n ≤ 400 := by have := hg.few; omega
  rcases Nat.eq_zero_or_pos nb with h0 | h0
  · have hb0 : b = [] := List.eq_nil_of_length_eq_zero (by omega)
    have HR := Lib.hid (show setF 0 s root 0 b = (s, 0, 0) by unfold setF; rw [if_pos hb0])
    subst h0
    clear hn hnb hb0
    go_enter Try.func136, Try.ntmps136
    go_wp2
    go_ret2
    exact ⟨by rw [HR.out]; rfl, Below.refl _ _, fun _ _ _ => rfl, fun _ => ⟨by rw [HR.out]; exact ho, fun g _ _ => .same fun _ => rfl⟩⟩
  · have hb0 : b ≠ [] := fun e => by rw [e] at hnb; simp at hnb; omega
    have HR := Lib.hid (show setF 0 s root 0 b = putR s 0 [] b by unfold setF; rw [if_neg hb0])
    have hz : ((nb : Int) == 0) = false := by rw [beq_eq_false_iff_ne]; omega
    clear hn hnb hb0
    go_enter Try.func136, Try.ntmps136
    go_wp2_with fail
    refine (put_frame w pb base ao none ba n cap 0 0 nb bc s 0 0 [] b HN.out h400 hbox ho hpn hbs hg.wf (fun x hx => by have := hg.refs x hx; omega) rfl HB.out (.inl rfl) hbr ⟨Nat.le_refl _, fun _ => rfl⟩ hbc (by simp) (by omega) (by omega)).mono ?_
    rintro e w1 ⟨rfl, ho1, hb1, hf1, hr1⟩
    go_wp2
    go_ret2
    exact ⟨by rw [HR.out]; rfl, hb1, hf1, fun _ => ⟨by rw [HR.out]; exact ho1, hr1⟩⟩
end Go.Proofs.Ytfmgdjgedhnmeaa
