/- tree.Set once more: what may go wrong; a second leaf. -/
import Derived.Test.YtpfopbkaddjjcaaSetX
import Derived.Test.YtpfopbkaddjjcaaAll
namespace Go.Proofs.Ytpfopbkaddjjcaa
open Go.RowKit
set_option linter.unusedVariables false

theorem put_err {s : List Blk} {l : Int} {ks bs : List Int} (h : formE s 1 l ks bs = 0) : (putR s l ks bs).2.2 = 0 ∨ (putR s l ks bs).2.2 = 8 := by
  unfold putR
  rw [if_neg (by simp [h])]
  split
  · exact .inr rfl
  · exact .inl rfl

/-- there is no room, at worst -/
theorem set_err : ∀ (m : Nat) (s : List Blk) (root : Int) (i : Nat) (b : List Int) (M : Int), m ≤ 3 → Good s M → 1 ≤ M → M + 4 * m ≤ 800000000 → RootAt s m root → i < p4n m → Byt b → (b.length = 0 ∨ b.length = 4) →
    (setF m s root i b).2.2 = 0 ∨ (setF m s root i b).2.2 = 8 := by
  intro m
  induction m with
  | zero =>
    intro s root i b M _ hg hM hM2 hr hi hb hb4
    unfold setF
    split
    · exact .inl rfl
    · rename_i hne
      have h4 : b.length = 4 := by
        rcases hb4 with h | h
        · exact absurd (List.eq_nil_of_length_eq_zero h) hne
        · exact h
      exact put_err (formE_leaf s 1 b (by omega) (by omega) h4)
  | succ m ih =>
    intro s root i b M hm hg hM hM2 hr hi hb hb4
    obtain ⟨h4, hkr⟩ := kids0_ok hg hr
    have hps := p4n_succ m (by omega)
    have hpp := p4n_pos m
    have hd4 : i / p4n m < 4 := div_lt4 hpp (by omega)
    have hge : (kids0 s root)[i / p4n m]?.getD 0 = (kids0 s root)[i / p4n m]'(by omega) := by rw [List.getElem?_eq_getElem (by omega)]; rfl
    have hky := hkr _ (List.getElem_mem (show i / p4n m < (kids0 s root).length by omega))
    have hih := ih s ((kids0 s root)[i / p4n m]?.getD 0) (i % p4n m) b M (by omega) hg hM (by omega) (by rw [hge]; exact hky) (Nat.mod_lt _ hpp) hb hb4
    unfold setF
    split
    · rename_i h
      rcases hih with e | e
      · exact absurd e h
      · exact .inr e
    · rename_i h
      have h0 : (setF m s ((kids0 s root)[i / p4n m]?.getD 0) (i % p4n m) b).2.2 = 0 := by simpa using h
      obtain ⟨g1, g2, g3⟩ := set_good m s _ (i % p4n m) b M (by omega) hg hM (by omega) (by rw [hge]; exact hky) (Nat.mod_lt _ hpp) hb (by omega) h0
      clear hih
      generalize setF m s ((kids0 s root)[i / p4n m]?.getD 0) (i % p4n m) b = r at *
      split
      · exact .inl rfl
      · rename_i hz
        refine put_err (formE_node r.1 1 ((m : Int) + 1) _ (by omega) (by omega) (by omega) (by omega) (by rw [List.length_set]; exact h4) ?_ ?_)
        · rw [List.all_eq_true]
          intro k hk
          have hrk : RootAt r.1 m k := by
            rcases List.mem_or_eq_of_mem_set hk with e | e
            · exact g3.root (hkr k e)
            · rw [e]; exact g2
          rcases hrk with e | ⟨e1, e2⟩
          · simp [kidOk, e]
          · simp only [kidOk, e1, Bool.true_and, Bool.or_eq_true, decide_eq_true_eq]
            exact .inr (by omega)
        · simpa using hz

theorem Good.few_ofM {s : List Blk} {M : Int} (h : checkE s = 0) (hw : WfS s) (hc : ∀ x ∈ s, x.refs ≤ M) : Good s M := by
  obtain ⟨h1, h2, h3, h4⟩ := Good.of_check h hw
  exact ⟨h1, fun x hx => ⟨(h2 x hx).1, hc x hx⟩, h3, h4⟩

theorem set_okM (M : Int) (hM1 : 1 ≤ M) (hM2 : M ≤ 999900) (m : Nat) (s : List Blk) (root : Int) (i : Nat) (b : List Int) (hm : m ≤ 3) (hc : checkE s = 0) (hw : WfS s) (hfew : ∀ x ∈ s, x.refs ≤ M) (hr : RootAt s m root) (hi : i < p4n m) (hb : Byt b) (hb4 : b.length ≤ 4) (he : (setF m s root i b).2.2 = 0) :
    checkE (setF m s root i b).1 = 0 ∧ WfS (setF m s root i b).1 ∧ (∀ x ∈ (setF m s root i b).1, x.refs ≤ M + 16) ∧ RootAt (setF m s root i b).1 m (setF m s root i b).2.1 ∧ RootAt (setF m s root i b).1 m root ∧
      (∀ j, j < p4n m → leafB m (setF m s root i b).1 (setF m s root i b).2.1 j = if j = i then b else leafB m s root j) ∧ (∀ j, j < p4n m → leafB m (setF m s root i b).1 root j = leafB m s root j) := by
  have hg := Good.few_ofM hc hw hfew
  obtain ⟨g1, g2, g3⟩ := set_good m s root i b M hm hg hM1 (by omega) hr hi hb hb4 he
  obtain ⟨hl, ho, hz⟩ := set_out m s root i b M hm hg hM1 (by omega) hr hi hb hb4 he
  have hlf := set_leaf m s root i b M hm hg hM1 (by omega) hr hi hb hb4 he
  refine ⟨?_, g1.wf, fun x hx => by have := g1.refs x hx; omega, g2, g3.root hr, hlf, fun j hj => leaf_keeps hg g3 m root j hm hr hj⟩
  exact checkE_of _ g1.few (g1.form_ok (by omega)) fun j hj => by
    have := out_nn hc j (by omega)
    rw [ho j (by omega)]
    split <;> omega

/-- two leaves, in either order -/
theorem set_two (m : Nat) (s : List Blk) (root : Int) (i j : Nat) (b c : List Int) (hm : m ≤ 3) (hc : checkE s = 0) (hw : WfS s) (hfew : ∀ x ∈ s, x.refs ≤ 999000) (hr : RootAt s m root) (hi : i < p4n m) (hj : j < p4n m) (hij : i ≠ j) (hb : Byt b) (hb4 : b.length = 0 ∨ b.length = 4) (hcb : Byt c) (hc4 : c.length = 0 ∨ c.length = 4)
    (h1 : (setF m s root i b).2.2 = 0) (t : List Blk) (x : Int) (ht : (setF m s root i b).1 = t) (hx : (setF m s root i b).2.1 = x) :
    checkE t = 0 ∧ WfS t ∧ RootAt t m x ∧ ((setF m t x j c).2.2 = 0 ∨ (setF m t x j c).2.2 = 8) ∧
      ((setF m t x j c).2.2 = 0 → checkE (setF m t x j c).1 = 0 ∧ WfS (setF m t x j c).1 ∧ RootAt (setF m t x j c).1 m (setF m t x j c).2.1 ∧
        leavesF m (setF m t x j c).1 (setF m t x j c).2.1 = (List.range (p4n m)).map fun k => if k = j then c else if k = i then b else leafB m s root k) := by
  obtain ⟨a1, a2, a3, a4, a5, a6, a7⟩ := set_okM 999000 (by omega) (by omega) m s root i b hm hc hw hfew hr hi hb (by omega) h1
  rw [ht] at a1 a2 a3 a4 a5 a6 a7
  rw [hx] at a4 a6
  have hg := Good.few_ofM a1 a2 a3
  refine ⟨a1, a2, a4, set_err m t x j c _ hm hg (by omega) (by omega) a4 hj hcb hc4, fun h2 => ?_⟩
  obtain ⟨b1, b2, b3, b4, b5, b6, b7⟩ := set_okM (999000 + 16) (by omega) (by omega) m t x j c hm a1 a2 a3 a4 hj hcb (by omega) h2
  refine ⟨b1, b2, b4, ?_⟩
  unfold leavesF
  apply List.map_congr_left
  intro k hk
  have hk := List.mem_range.1 hk
  rw [b6 k hk, a6 k hk]
end Go.Proofs.Ytpfopbkaddjjcaa
