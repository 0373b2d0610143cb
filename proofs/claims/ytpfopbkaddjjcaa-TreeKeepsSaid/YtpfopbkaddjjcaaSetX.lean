/- tree.Set in plain words: the store stays right; the new root is held once, the others as they were; let go, it was never there. -/
import Derived.Test.YtpfopbkaddjjcaaSetQ
import Derived.Test.YtpfopbkaddjjcaaBackQ
namespace Go.Proofs.Ytpfopbkaddjjcaa
open Go.RowKit
set_option linter.unusedVariables false

theorem PutG.out {s : List Blk} {l : Int} {ks bs : List Int} {f : Nat} (h : PutG s l ks bs f) (j : Nat) (hj : j < s.length) : outA (putM s l ks bs f) j = outA s j + if j = f then 1 else 0 := by
  have hj' : j < (putM s l ks bs f).length := by rw [putM_length]; exact hj
  have hk := kids_set s f h.lt ⟨1, l, ks, bs⟩ ((j : Int) + 1)
  have e : kidsOf (putM s l ks bs f) = kidsOf (s.set f ⟨1, l, ks, bs⟩) := kidsOf_bump _ _
  rw [h.free] at hk
  simp only [noBlk, List.count_nil, Nat.add_zero] at hk
  unfold outA
  rw [blk_at _ j hj', blk_at s j hj, h.get j hj hj', e, hk]
  by_cases hf : j = f
  · subst hf
    have h1 := h.none j hj (by rw [h.free]; simp [noBlk])
    rw [if_pos rfl, if_pos rfl, h1, h.free]
    simp [noBlk]
    omega
  · rw [if_neg hf, if_neg hf]
    simp only
    omega

/-- how often what is there is held from outside -/
theorem set_out : ∀ (m : Nat) (s : List Blk) (root : Int) (i : Nat) (b : List Int) (M : Int), m ≤ 3 → Good s M → 1 ≤ M → M + 4 * m ≤ 800000000 → RootAt s m root → i < p4n m → Byt b → b.length ≤ 4 → (setF m s root i b).2.2 = 0 →
    (setF m s root i b).1.length = s.length ∧ (∀ j, j < s.length → outA (setF m s root i b).1 j = outA s j + if (setF m s root i b).2.1 = (j : Int) + 1 then 1 else 0) ∧ ((setF m s root i b).2.1 = 0 → (setF m s root i b).1 = s) := by
  intro m
  induction m with
  | zero =>
    intro s root i b M _ hg hM hM2 hr hi hb hb4 he
    unfold setF at he ⊢
    split
    · exact ⟨rfl, fun j _ => by rw [if_neg (by simp only; omega), Int.add_zero], fun _ => rfl⟩
    · rename_i hne
      rw [if_neg hne] at he
      obtain ⟨hp, e⟩ := put_well hg he
      rw [e]
      refine ⟨putM_length _ _ _ _ _, fun j hj => ?_, fun h => by simp only at h; omega⟩
      simp only
      rw [hp.out j hj]
      by_cases h : j = freeIx s
      · rw [if_pos h, if_pos (by omega)]
      · rw [if_neg h, if_neg (by omega)]
  | succ m ih =>
    intro s root i b M hm hg hM hM2 hr hi hb hb4 he
    obtain ⟨h4, hkr⟩ := kids0_ok hg hr
    have hps := p4n_succ m (by omega)
    have hpp := p4n_pos m
    have hd4 : i / p4n m < 4 := div_lt4 hpp (by omega)
    have hge : (kids0 s root)[i / p4n m]?.getD 0 = (kids0 s root)[i / p4n m]'(by omega) := by rw [List.getElem?_eq_getElem (by omega)]; rfl
    have hky := hkr _ (List.getElem_mem (show i / p4n m < (kids0 s root).length by omega))
    unfold setF at he ⊢
    split
    · rename_i h; rw [if_pos h] at he; exact absurd he h
    · rename_i h
      rw [if_neg h] at he
      have h0 : (setF m s ((kids0 s root)[i / p4n m]?.getD 0) (i % p4n m) b).2.2 = 0 := by simpa using h
      obtain ⟨g1, g2, g3⟩ := set_good m s _ (i % p4n m) b M (by omega) hg hM (by omega) (by rw [hge]; exact hky) (Nat.mod_lt _ hpp) hb hb4 h0
      obtain ⟨hl, ho, hz⟩ := ih s _ (i % p4n m) b M (by omega) hg hM (by omega) (by rw [hge]; exact hky) (Nat.mod_lt _ hpp) hb hb4 h0
      generalize setF m s ((kids0 s root)[i / p4n m]?.getD 0) (i % p4n m) b = r at *
      have hk1 : r.2.1 ∈ (kids0 s root).set (i / p4n m) r.2.1 := List.mem_set (by omega) _
      split
      · rename_i hall
        have hk0 : r.2.1 = 0 := of_decide_eq_true (List.all_eq_true.1 hall _ hk1)
        refine ⟨hl, fun j hj => ?_, fun _ => hz hk0⟩
        have := ho j hj
        rw [hk0, if_neg (by omega), Int.add_zero] at this
        simp only
        rw [this, if_neg (by omega), Int.add_zero]
      · rename_i hall
        rw [if_neg hall] at he
        have hl4 : ((kids0 s root).set (i / p4n m) r.2.1).length = 4 := by rw [List.length_set]; exact h4
        have hmem : ∀ k ∈ (kids0 s root).set (i / p4n m) r.2.1, RootAt r.1 m k := by
          intro k hk
          rcases List.mem_or_eq_of_mem_set hk with e | e
          · exact g3.root (hkr k e)
          · rw [e]; exact g2
        have hnl := node_less g1 (by omega) (by omega) (by omega) hl4 hk1 g2 (fun k hk => root_I64 g1 (hmem k hk)) he
        obtain ⟨hp, e⟩ := put_well g1 he
        simp only
        rw [hnl, e]
        simp only
        have hlen : (putM r.1 ((m : Int) + 1) ((kids0 s root).set (i / p4n m) r.2.1) [] (freeIx r.1)).length = s.length := by rw [putM_length]; exact hl
        refine ⟨?_, fun j hj => ?_, fun h => by omega⟩
        · split
          · exact hlen
          · rw [addRef_length]; exact hlen
        · have hpo := hp.out j (by omega)
          have hoj := ho j hj
          have hif : (if ((freeIx r.1 : Int) + 1 = (j : Int) + 1) then (1 : Int) else 0) = if j = freeIx r.1 then 1 else 0 := by
            by_cases h : j = freeIx r.1
            · rw [if_pos h, if_pos (by omega)]
            · rw [if_neg h, if_neg (by omega)]
          refine Eq.trans ?_ (congrArg (outA s j + ·) hif.symm)
          split
          · rename_i hk0
            rw [hpo, hoj, hk0, if_neg (by omega), Int.add_zero]
          · rename_i hk0
            obtain ⟨ht, -⟩ := g2.resolve_left hk0
            obtain ⟨q, hq, hqe, -⟩ := there_in ht
            rw [hqe] at hoj hpo ⊢
            rw [outA_less _ q (by rw [putM_length]; exact hq), hpo, hoj]
            by_cases e1 : j = q
            · rw [if_pos (by omega), if_pos e1]; omega
            · rw [if_neg (by omega), if_neg e1]; omega

theorem Good.form_ok {s : List Blk} {M : Int} (hg : Good s M) (hM : M ≤ 1000000) : ∀ x ∈ s, formB s x = 0 := by
  intro x hx
  have hr := hg.refs x hx
  rcases hg.forms x hx with e | ⟨h0, ⟨e1, e2, e3⟩ | ⟨e1, e2, e3, e4, e5, e6⟩⟩
  · rw [e]; simp [formB, noBlk, formE]
  · obtain ⟨r, l, ks, bs⟩ := x
    simp only at *
    subst e1 e2
    exact formE_leaf s r bs h0 (by omega) e3
  · obtain ⟨r, l, ks, bs⟩ := x
    simp only at *
    subst e4
    exact formE_node s r l ks h0 (by omega) e1 e2 e3 e5 e6

theorem Good.few_of {s : List Blk} (h : checkE s = 0) (hw : WfS s) (hc : ∀ x ∈ s, x.refs ≤ 999000) : Good s 999000 := by
  obtain ⟨h1, h2, h3, h4⟩ := Good.of_check h hw
  exact ⟨h1, fun x hx => ⟨(h2 x hx).1, hc x hx⟩, h3, h4⟩

theorem keeps_sub {s t : List Blk} {M : Int} (hg : Good s M) (hl : t.length = s.length) (hk : Keeps s t) : Sub t s := by
  refine ⟨hl.symm, fun j hj hj' => ?_⟩
  rcases hg.forms _ (List.getElem_mem hj') with e | ⟨h0, _⟩
  · exact .inl e
  · right
    have ht : thereB s ((j : Int) + 1) = true := by rw [there_at s j hj']; simpa using h0
    obtain ⟨k1, k2, k3, k4, k5⟩ := hk _ ht
    rw [blk_at s j hj', blk_at t j hj] at k2 k3 k4 k5
    refine ⟨h0, k5, ?_⟩
    generalize s[j] = x at *
    generalize t[j] = y at *
    obtain ⟨r, l, ks, bs⟩ := x
    obtain ⟨r', l', ks', bs'⟩ := y
    simp only at *
    rw [k2, k3, k4]

/-- a leaf put into a right store -/
structure SetOk (s t : List Blk) (m : Nat) (root a : Int) : Prop where
  chk : checkE t = 0
  wf : WfS t
  len : t.length = s.length
  keeps : Keeps s t
  new : RootAt t m a
  old : RootAt t m root
  drop : a ≠ 0 → dropR t a = (s, 0)
  none : a = 0 → t = s
  few : ∀ x ∈ t, x.refs ≤ 999020

theorem set_ok (m : Nat) (s : List Blk) (root : Int) (i : Nat) (b : List Int) (hm : m ≤ 3) (hc : checkE s = 0) (hw : WfS s) (hfew : ∀ x ∈ s, x.refs ≤ 999000) (hr : RootAt s m root) (hi : i < p4n m) (hb : Byt b) (hb4 : b.length ≤ 4) (he : (setF m s root i b).2.2 = 0) :
    SetOk s (setF m s root i b).1 m root (setF m s root i b).2.1 := by
  have hg := Good.few_of hc hw hfew
  obtain ⟨g1, g2, g3⟩ := set_good m s root i b 999000 hm hg (by omega) (by omega) hr hi hb hb4 he
  obtain ⟨hl, ho, hz⟩ := set_out m s root i b 999000 hm hg (by omega) (by omega) hr hi hb hb4 he
  generalize setF m s root i b = r at *
  have hchk : checkE r.1 = 0 := checkE_of r.1 g1.few (g1.form_ok (by omega)) fun j hj => by
    have := out_nn hc j (by omega)
    rw [ho j (by omega)]
    split <;> omega
  refine ⟨hchk, g1.wf, hl, g3, g2, g3.root hr, fun h0 => ?_, hz, fun x hx => by have := g1.refs x hx; omega⟩
  obtain ⟨ht, -⟩ := g2.resolve_left h0
  obtain ⟨k, hk, hke, -⟩ := there_in ht
  have hks : k < s.length := by omega
  have hok := ho k hks
  have hnn := out_nn hc k hks
  rw [hke, if_pos rfl] at hok
  have hpos : 0 < outA r.1 k := by omega
  have hlo := drop_out r.1 k hk hchk hpos
  have hlv := lv_of r.1 (checkE_zero r.1 hchk).2.1
  have hu : looseF 4 r.1 ((k : Int) + 1) = s := by
    refine sub_unique r.1 _ s hlv.1 hlv.2 hlo.sub (keeps_sub hg hl g3) fun j hj => ?_
    rw [drop_outA r.1 k hk hchk hpos j hj, ho j (by omega), hke]
    by_cases e : j = k
    · rw [if_pos (by omega), if_pos e]; omega
    · rw [if_neg (by omega), if_neg e]; omega
  rw [hke]
  unfold dropR
  rw [if_neg (by simp [hchk]), ← hke, ht, if_neg (by simp), hke, outL_get _ (by omega) (by omega), show ((k : Int) + 1 - 1).toNat = k from by omega, if_neg (by omega), hu]

theorem checkT_mk {s : List Blk} (hc : checkE s = 0) {m : Nat} (hm : m ≤ 3) {root : Int} (hr : RootAt s m root) {i : Nat} (hi : i < p4n m) : checkT s root m i = 0 := by
  unfold checkT
  rw [if_neg (by simp [hc]), if_neg (by omega)]
  have h1 : ¬ (root ≠ 0 ∧ thereB s root = false) := by
    rintro ⟨h0, h1⟩
    have := (hr.resolve_left h0).1
    rw [h1] at this; cases this
  have h2 : ¬ (root ≠ 0 ∧ (blk s root).level ≠ m) := fun ⟨h0, h2⟩ => h2 (hr.resolve_left h0).2
  rw [if_neg h1, if_neg h2, if_neg]
  rw [Int.toNat_natCast, p4n_int]
  omega

theorem filter_one (n i : Nat) (hi : i < n) (P : Bool) : (List.range n).filter (fun j => decide (j = i) && P) = if P then [i] else [] := by
  cases P with
  | false => simp
  | true =>
    simp only [Bool.and_true, if_true]
    induction n with
    | zero => omega
    | succ n ih =>
      rw [List.range_succ, List.filter_append]
      by_cases e : i = n
      · subst e
        have : (List.range i).filter (fun j => decide (j = i)) = [] := by
          rw [List.filter_eq_nil_iff]
          intro j hj
          have := List.mem_range.1 hj
          simp; omega
        rw [this]
        simp
      · rw [ih (by omega)]
        have : ¬ n = i := fun h => e h.symm
        simp [this]

/-- behind a Put the roots differ at that place at most -/
theorem set_diff (m : Nat) (s : List Blk) (root : Int) (i : Nat) (b : List Int) (M : Int) (hm : m ≤ 3) (hg : Good s M) (hM : 1 ≤ M) (hM2 : M + 4 * m ≤ 800000000) (hr : RootAt s m root) (hi : i < p4n m) (hb : Byt b) (hb4 : b.length ≤ 4) (he : (setF m s root i b).2.2 = 0) :
    diffF m (setF m s root i b).1 root (setF m s root i b).2.1 0 = if leafB m s root i = b then [] else [(i : Int)] := by
  obtain ⟨-, -, g3⟩ := set_good m s root i b M hm hg hM hM2 hr hi hb hb4 he
  have hsl := set_leaf m s root i b M hm hg hM hM2 hr hi hb hb4 he
  rw [diffF_eq _ _ _ _ _ hm]
  have : diffL m (setF m s root i b).1 root (setF m s root i b).2.1 = if leafB m s root i = b then [] else [i] := by
    unfold diffL
    have e : ∀ j ∈ List.range (p4n m), decide (leafB m (setF m s root i b).1 root j ≠ leafB m (setF m s root i b).1 (setF m s root i b).2.1 j) = (decide (j = i) && decide (leafB m s root i ≠ b)) := by
      intro j hj
      have hj := List.mem_range.1 hj
      rw [hsl j hj, leaf_keeps hg g3 m root j hm hr hj]
      by_cases e : j = i
      · subst e; simp
      · simp [e]
    rw [List.filter_congr e, filter_one _ _ hi]
    by_cases h : leafB m s root i = b
    · simp [h]
    · simp [h]
  rw [this]
  split <;> simp
end Go.Proofs.Ytpfopbkaddjjcaa
