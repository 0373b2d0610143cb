/- tree.Set in plain words: the store stays right; the new root is held once, the others as they were; let go, it was never there. · tree.Set once more: what may go wrong; a second leaf. · One root in the place of another, in plain words: a leaf is set, the old root let go. · Files in plain words. · file.Turn in plain words: leaf by leaf, where they differ. -/
import Derived.Test.YtfmgdjgedhnmeaaAll
import Derived.Test.YtfmgdjgedhnmeaaBackQ
import Derived.Test.YtfmgdjgedhnmeaaSeal
namespace Go.Proofs.Ytfmgdjgedhnmeaa
open Go.RowKit
set_option linter.unusedVariables false

theorem PutG.out {s : List Blk} {l : Int} {ks bs : List Int} {f : Nat} (h : PutG s l ks bs f) (j : Nat) (hj : j < s.length) : outA (putM s l ks bs f) j = outA s j + if j = f then 1 else 0 := by
  have hj' : j < (putM s l ks bs f).length := by rw [putM_length]; exact hj
  have hk := kids_set s f h.lt ⟨1, l, ks, bs⟩ ((j : Int) + 1)
  have e : kidsOf (putM s l ks bs f) = kidsOf (s.set f ⟨1, l, ks, bs⟩) := kidsOf_bump _ _
  rw [h.free] at hk
  simp only [noBlk, List.count_nil, Nat.add_zero] at hk
  unfold outA
  rw [blk_at _ j hj', blk_at s j hj, h.get j hj hj', e, hk]
  by_cases hf : j = f
  · subst hf
    have h1 := h.none j hj (by rw [h.free]; simp [noBlk])
    rw [if_pos rfl, if_pos rfl, h1, h.free]
    simp [noBlk]
    omega
  · rw [if_neg hf, if_neg hf]
    simp only
    omega

/-- how often what is there is held from outside -/
theorem set_out : ∀ (m : Nat) (s : List Blk) (root : Int) (i : Nat) (b : List Int) (M : Int), m ≤ 3 → Good s M → 1 ≤ M → M + 4 * m ≤ 800000000 → RootAt s m root → i < p4n m → Byt b → b.length ≤ 4 → (setF m s root i b).2.2 = 0 →
    (setF m s root i b).1.length = s.length ∧ (∀ j, j < s.length → outA (setF m s root i b).1 j = outA s j + if (setF m s root i b).2.1 = (j : Int) + 1 then 1 else 0) ∧ ((setF m s root i b).2.1 = 0 → (setF m s root i b).1 = s) := by
  intro m
  induction m with
  | zero =>
    intro s root i b M _ hg hM hM2 hr hi hb hb4 he
    unfold setF at he ⊢
    split
    · exact ⟨rfl, fun j _ => by rw [if_neg (by simp only; omega), Int.add_zero], fun _ => rfl⟩
    · rename_i hne
      rw [if_neg hne] at he
      obtain ⟨hp, e⟩ := put_well hg he
      rw [e]
      refine ⟨putM_length _ _ _ _ _, fun j hj => ?_, fun h => by simp only at h; omega⟩
      simp only
      rw [hp.out j hj]
      by_cases h : j = freeIx s
      · rw [if_pos h, if_pos (by omega)]
      · rw [if_neg h, if_neg (by omega)]
  | succ m ih =>
    intro s root i b M hm hg hM hM2 hr hi hb hb4 he
    obtain ⟨h4, hkr⟩ := kids0_ok hg hr
    have hps := p4n_succ m (by omega)
    have hpp := p4n_pos m
    have hd4 : i / p4n m < 4 := div_lt4 hpp (by omega)
    have hge : (kids0 s root)[i / p4n m]?.getD 0 = (kids0 s root)[i / p4n m]'(by omega) := by rw [List.getElem?_eq_getElem (by omega)]; rfl
    have hky := hkr _ (List.getElem_mem (show i / p4n m < (kids0 s root).length by omega))
    unfold setF at he ⊢
    split
    · rename_i h; rw [if_pos h] at he; exact absurd he h
    · rename_i h
      rw [if_neg h] at he
      have h0 : (setF m s ((kids0 s root)[i / p4n m]?.getD 0) (i % p4n m) b).2.2 = 0 := by simpa using h
      obtain ⟨g1, g2, g3⟩ := set_good m s _ (i % p4n m) b M (by omega) hg hM (by omega) (by rw [hge]; exact hky) (Nat.mod_lt _ hpp) hb hb4 h0
      obtain ⟨hl, ho, hz⟩ := ih s _ (i % p4n m) b M (by omega) hg hM (by omega) (by rw [hge]; exact hky) (Nat.mod_lt _ hpp) hb hb4 h0
      generalize setF m s ((kids0 s root)[i / p4n m]?.getD 0) (i % p4n m) b = r at *
      have hk1 : r.2.1 ∈ (kids0 s root).set (i / p4n m) r.2.1 := List.mem_set (by omega) _
      split
      · rename_i hall
        have hk0 : r.2.1 = 0 := of_decide_eq_true (List.all_eq_true.1 hall _ hk1)
        refine ⟨hl, fun j hj => ?_, fun _ => hz hk0⟩
        have := ho j hj
        rw [hk0, if_neg (by omega), Int.add_zero] at this
        simp only
        rw [this, if_neg (by omega), Int.add_zero]
      · rename_i hall
        rw [if_neg hall] at he
        have hl4 : ((kids0 s root).set (i / p4n m) r.2.1).length = 4 := by rw [List.length_set]; exact h4
        have hmem : ∀ k ∈ (kids0 s root).set (i / p4n m) r.2.1, RootAt r.1 m k := by
          intro k hk
          rcases List.mem_or_eq_of_mem_set hk with e | e
          · exact g3.root (hkr k e)
          · rw [e]; exact g2
        have hnl := node_less g1 (by omega) (by omega) (by omega) hl4 hk1 g2 (fun k hk => root_I64 g1 (hmem k hk)) he
        obtain ⟨hp, e⟩ := put_well g1 he
        simp only
        rw [hnl, e]
        simp only
        have hlen : (putM r.1 ((m : Int) + 1) ((kids0 s root).set (i / p4n m) r.2.1) [] (freeIx r.1)).length = s.length := by rw [putM_length]; exact hl
        refine ⟨?_, fun j hj => ?_, fun h => by omega⟩
        · split
          · exact hlen
          · rw [addRef_length]; exact hlen
        · have hpo := hp.out j (by omega)
          have hoj := ho j hj
          have hif : (if ((freeIx r.1 : Int) + 1 = (j : Int) + 1) then (1 : Int) else 0) = if j = freeIx r.1 then 1 else 0 := by
            by_cases h : j = freeIx r.1
            · rw [if_pos h, if_pos (by omega)]
            · rw [if_neg h, if_neg (by omega)]
          refine Eq.trans ?_ (congrArg (outA s j + ·) hif.symm)
          split
          · rename_i hk0
            rw [hpo, hoj, hk0, if_neg (by omega), Int.add_zero]
          · rename_i hk0
            obtain ⟨ht, -⟩ := g2.resolve_left hk0
            obtain ⟨q, hq, hqe, -⟩ := there_in ht
            rw [hqe] at hoj hpo ⊢
            rw [outA_less _ q (by rw [putM_length]; exact hq), hpo, hoj]
            by_cases e1 : j = q
            · rw [if_pos (by omega), if_pos e1]; omega
            · rw [if_neg (by omega), if_neg e1]; omega

theorem Good.form_ok {s : List Blk} {M : Int} (hg : Good s M) (hM : M ≤ 1000000) : ∀ x ∈ s, formB s x = 0 := by
  intro x hx
  have hr := hg.refs x hx
  rcases hg.forms x hx with e | ⟨h0, ⟨e1, e2, e3⟩ | ⟨e1, e2, e3, e4, e5, e6⟩⟩
  · rw [e]; simp [formB, noBlk, formE]
  · obtain ⟨r, l, ks, bs⟩ := x
    simp only at *
    subst e1 e2
    exact formE_leaf s r bs h0 (by omega) e3
  · obtain ⟨r, l, ks, bs⟩ := x
    simp only at *
    subst e4
    exact formE_node s r l ks h0 (by omega) e1 e2 e3 e5 e6

theorem checkT_mk {s : List Blk} (hc : checkE s = 0) {m : Nat} (hm : m ≤ 3) {root : Int} (hr : RootAt s m root) {i : Nat} (hi : i < p4n m) : checkT s root m i = 0 := by
  unfold checkT
  rw [if_neg (by simp [hc]), if_neg (by omega)]
  have h1 : ¬ (root ≠ 0 ∧ thereB s root = false) := by
    rintro ⟨h0, h1⟩
    have := (hr.resolve_left h0).1
    rw [h1] at this; cases this
  have h2 : ¬ (root ≠ 0 ∧ (blk s root).level ≠ m) := fun ⟨h0, h2⟩ => h2 (hr.resolve_left h0).2
  rw [if_neg h1, if_neg h2, if_neg]
  rw [Int.toNat_natCast, p4n_int]
  omega

end Go.Proofs.Ytfmgdjgedhnmeaa

namespace Go.Proofs.Ytfmgdjgedhnmeaa
open Go.RowKit
set_option linter.unusedVariables false

theorem Good.few_ofM {s : List Blk} {M : Int} (h : checkE s = 0) (hw : WfS s) (hc : ∀ x ∈ s, x.refs ≤ M) : Good s M := by
  obtain ⟨h1, h2, h3, h4⟩ := Good.of_check h hw
  exact ⟨h1, fun x hx => ⟨(h2 x hx).1, hc x hx⟩, h3, h4⟩

end Go.Proofs.Ytfmgdjgedhnmeaa

namespace Go.Proofs.Ytfmgdjgedhnmeaa
open Go.RowKit
set_option linter.unusedVariables false

/-- how often a block is held behind a Set, closely -/
theorem set_tight : ∀ (m : Nat) (s : List Blk) (root : Int) (i : Nat) (b : List Int) (M : Int), m ≤ 3 → Good s M → 1 ≤ M → M + 4 * m ≤ 800000000 → RootAt s m root → i < p4n m → Byt b → b.length ≤ 4 → (setF m s root i b).2.2 = 0 →
    Good (setF m s root i b).1 (M + 4 * m + 1) := by
  intro m
  induction m with
  | zero =>
    intro s root i b M hm hg hM hM2 hr hi hb hb4 he
    obtain ⟨g1, -, -⟩ := set_good 0 s root i b M hm hg hM hM2 hr hi hb hb4 he
    refine ⟨g1.few, fun x hx => ⟨(g1.refs x hx).1, ?_⟩, g1.forms, g1.wf⟩
    unfold setF at he hx
    split at hx
    · have := (hg.refs x hx).2; omega
    · rename_i hne
      rw [if_neg hne] at he
      obtain ⟨hp, e⟩ := put_well hg he
      rw [e] at hx
      obtain ⟨j, hj', rfl⟩ := List.getElem_of_mem hx
      have hj : j < s.length := by rw [putM_length] at hj'; exact hj'
      have hr := (hg.refs _ (List.getElem_mem hj)).2
      rw [hp.get j hj hj']
      split
      · simp only; omega
      · simp only [List.count_nil]; omega
  | succ m ih =>
    intro s root i b M hm hg hM hM2 hr hi hb hb4 he
    obtain ⟨h4, hkr⟩ := kids0_ok hg hr
    have hps := p4n_succ m (by omega)
    have hpp := p4n_pos m
    have hd4 : i / p4n m < 4 := div_lt4 hpp (by omega)
    have hge : (kids0 s root)[i / p4n m]?.getD 0 = (kids0 s root)[i / p4n m]'(by omega) := by rw [List.getElem?_eq_getElem (by omega)]; rfl
    unfold setF at he ⊢
    split
    · rename_i h; rw [if_pos h] at he; exact absurd he h
    · rename_i h
      rw [if_neg h] at he
      have h0 : (setF m s ((kids0 s root)[i / p4n m]?.getD 0) (i % p4n m) b).2.2 = 0 := by simpa using h
      obtain ⟨-, g2, g3⟩ := set_good m s _ (i % p4n m) b M (by omega) hg hM (by omega) (by rw [hge]; exact hkr _ (List.getElem_mem _)) (Nat.mod_lt _ hpp) hb hb4 h0
      have g1 := ih s _ (i % p4n m) b M (by omega) hg hM (by omega) (by rw [hge]; exact hkr _ (List.getElem_mem _)) (Nat.mod_lt _ hpp) hb hb4 h0
      generalize setF m s ((kids0 s root)[i / p4n m]?.getD 0) (i % p4n m) b = r at *
      split
      · exact g1.weaken (by omega)
      · rename_i hz
        rw [if_neg hz] at he
        have hk1 : r.2.1 ∈ (kids0 s root).set (i / p4n m) r.2.1 := List.mem_set (by omega) _
        have hall : ∀ k ∈ (kids0 s root).set (i / p4n m) r.2.1, RootAt r.1 m k := by
          intro k hk
          rcases List.mem_or_eq_of_mem_set hk with e | e
          · exact g3.root (hkr k e)
          · rw [e]; exact g2
        obtain ⟨q1, q2, q3⟩ := node_step g1 (by omega) (by omega) (by omega) (by rw [List.length_set]; exact h4) hk1 g2 (fun k hk => root_I64 g1 (hall k hk)) he
        exact q1.weaken (by omega)

/-- parts of a good store that are held enough are good -/
theorem good_sub {s s' : List Blk} {M : Int} (hg : Good s M) (hs : Sub s s') (ho : ∀ j, j < s.length → 0 ≤ outA s' j) : Good s' M := by
  have hl := hs.len
  refine ⟨by rw [hl]; exact hg.few, fun x hx => ?_, fun x hx => ?_, fun x hx => ?_⟩
  all_goals
    obtain ⟨j, hj, rfl⟩ := List.getElem_of_mem hx
    have hjs : j < s.length := by omega
    have hr := hg.refs _ (List.getElem_mem hjs)
  · rcases hs.each j hjs hj with h1 | ⟨h1, h2, h3⟩
    · rw [h1]; simp only [noBlk]; omega
    · omega
  · rcases hs.each j hjs hj with h1 | ⟨h1, h2, h3⟩
    · exact .inl h1
    right
    refine ⟨h1, ?_⟩
    have hk : s'[j].kids = s[j].kids := by rw [h3]
    have hlv : s'[j].level = s[j].level := by rw [h3]
    have hby : s'[j].bytes = s[j].bytes := by rw [h3]
    rcases hg.forms _ (List.getElem_mem hjs) with e | ⟨_, e | ⟨e1, e2, e3, e4, e5, e6⟩⟩
    · rw [e] at h2; simp [noBlk] at h2; omega
    · exact .inl (by rw [hk, hlv, hby]; exact e)
    · refine .inr ⟨by rw [hlv]; exact e1, by rw [hlv]; exact e2, by rw [hk]; exact e3, by rw [hby]; exact e4, ?_, by rw [hk]; exact e6⟩
      rw [hk, hlv, List.all_eq_true]
      intro v hv
      rcases kid_of (List.all_eq_true.1 e5 v hv) with h0 | ⟨g1, g2⟩
      · simp [kidOk, h0]
      · obtain ⟨i, hi, rfl, _⟩ := there_in g1
        have hi' : i < s'.length := by omega
        have hcnt := mem_kidsOf hj (v := (i : Int) + 1) (by rw [hk]; exact hv)
        have hoi := ho i hi
        unfold outA at hoi
        rw [blk_at s' i hi'] at hoi
        rw [blk_at s i hi] at g2
        have hr2 : 0 < s'[i].refs := by omega
        rcases hs.each i hi hi' with q1 | ⟨_, _, q3⟩
        · rw [q1] at hr2; simp [noBlk] at hr2
        · have : (blk s' ((i : Int) + 1)).level = s[j].level - 1 := by rw [blk_at s' i hi', q3]; exact g2
          simp [kidOk, there_at s' i hi', this, hr2]
  · rcases hs.each j hjs hj with h1 | ⟨h1, h2, h3⟩
    · rw [h1]
      exact ⟨by unfold I64; simp only [noBlk]; omega, by unfold I64; simp only [noBlk]; omega, by simp [noBlk], by intro x hx; simp [noBlk] at hx, by simp [noBlk], by simp [noBlk]⟩
    · have hy := hg.wf _ (List.getElem_mem hjs)
      have hyr := hy.refs
      rw [h3]
      exact ⟨by unfold I64 at *; simp only; omega, hy.level, hy.kids, hy.bytes, hy.klen, hy.blen⟩

theorem Good.live {s : List Blk} {M : Int} (hg : Good s M) : Live s := fun x hx => (hg.forms x hx).imp id fun h => h.1

theorem count_kids_le (v : Int) : ∀ (s u : List Blk), s.length = u.length → (∀ i (h : i < s.length) (h' : i < u.length), s[i].kids.count v ≤ u[i].kids.count v) → (kidsOf s).count v ≤ (kidsOf u).count v := by
  intro s
  induction s with
  | nil => intro u _ _; simp [kidsOf]
  | cons x s ih =>
    intro u hl h
    cases u with
    | nil => simp at hl
    | cons y u =>
      have h1 := h 0 (by simp) (by simp)
      have h2 := ih u (by simpa using hl) fun i hi hi' => by
        have := h (i + 1) (by simp; omega) (by simp; omega)
        simpa using this
      simp only [List.getElem_cons_zero] at h1
      simp only [kidsOf, List.flatMap_cons, List.count_append] at *
      omega

/-- what is there and held from outside, or by what is there, is there still -/
theorem keeps_less {s t u : List Blk} {M : Int} (hs : Good s M) (hk : Keeps s t) (hlt : t.length = s.length) (hsub : Sub t u) (h0 : ∀ j, j < s.length → 0 ≤ outA u j) (ho : ∀ j, j < s.length → outA s j ≤ outA u j) : Keeps s u := by
  have hlu := hsub.len
  -- a block of s whose refs in u are positive is kept
  have one : ∀ (j : Nat) (hj : j < s.length), thereB s ((j : Int) + 1) = true → 0 < (blk u ((j : Int) + 1)).refs →
      thereB u ((j : Int) + 1) = true ∧ (blk u ((j : Int) + 1)).level = (blk s ((j : Int) + 1)).level ∧ (blk u ((j : Int) + 1)).kids = (blk s ((j : Int) + 1)).kids ∧ (blk u ((j : Int) + 1)).bytes = (blk s ((j : Int) + 1)).bytes := by
    intro j hj ht hr
    have hju : j < u.length := by omega
    have hjt : j < t.length := by omega
    obtain ⟨_, k2, k3, k4, _⟩ := hk _ ht
    rw [blk_at u j hju] at hr ⊢
    rw [blk_at t j hjt] at k2 k3 k4
    rcases hsub.each j hjt hju with q | ⟨_, _, q⟩
    · rw [q] at hr; simp [noBlk] at hr
    · refine ⟨by rw [there_at u j hju]; simpa using hr, ?_, ?_, ?_⟩
      · rw [← k2, q]
      · rw [← k3, q]
      · rw [← k4, q]
  -- from above down
  have key : ∀ (d j : Nat) (hj : j < s.length), thereB s ((j : Int) + 1) = true → (blk s ((j : Int) + 1)).level + d = 3 → 0 < (blk u ((j : Int) + 1)).refs := by
    intro d
    induction d with
    | zero =>
      intro j hj ht hl
      by_cases hc : 0 < (kidsOf s).count ((j : Int) + 1)
      · exfalso
        obtain ⟨x, hx, hv⟩ := List.mem_flatMap.1 (List.count_pos_iff.1 hc)
        rcases hs.forms x hx with e | ⟨_, ⟨_, e, _⟩ | ⟨e1, e2, _, _, e5, _⟩⟩
        · rw [e] at hv; simp [noBlk] at hv
        · rw [e] at hv; cases hv
        · rcases kid_of (List.all_eq_true.1 e5 _ hv) with h | ⟨_, h⟩ <;> omega
      · have h1 := ho j hj
        have h2 : 0 < outA s j := by
          unfold outA
          have := (there_ref ht).2.2
          omega
        have h3 : 0 < outA u j := by omega
        unfold outA at h3
        omega
    | succ d ih =>
      intro j hj ht hl
      by_cases hc : 0 < (kidsOf s).count ((j : Int) + 1)
      · obtain ⟨x, hx, hv⟩ := List.mem_flatMap.1 (List.count_pos_iff.1 hc)
        obtain ⟨i, hi, rfl⟩ := List.getElem_of_mem hx
        rcases hs.forms _ hx with e | ⟨e0, ⟨_, e, _⟩ | ⟨e1, e2, _, _, e5, _⟩⟩
        · rw [e] at hv; simp [noBlk] at hv
        · rw [e] at hv; cases hv
        · rcases kid_of (List.all_eq_true.1 e5 _ hv) with h | ⟨_, h⟩
          · omega
          · have hti : thereB s ((i : Int) + 1) = true := by rw [there_at s i hi]; simpa using e0
            have hiu : i < u.length := by omega
            have hri := ih i hi hti (by rw [blk_at s i hi]; omega)
            obtain ⟨_, _, hki, _⟩ := one i hi hti hri
            rw [blk_at u i hiu, blk_at s i hi] at hki
            have hcu := mem_kidsOf hiu (v := (j : Int) + 1) (by rw [hki]; exact hv)
            have hou := h0 j hj
            unfold outA at hou
            omega
      · have h1 := ho j hj
        have h2 : 0 < outA s j := by
          unfold outA
          have := (there_ref ht).2.2
          omega
        have h3 : 0 < outA u j := by omega
        unfold outA at h3
        omega
  intro a ha
  obtain ⟨j, hj, rfl, -⟩ := there_in ha
  have hl3 := hs.lv.2 _ (List.getElem_mem hj)
  have hl0 := (hs.lv.1 _ (List.getElem_mem hj)).1
  have hr := key (3 - s[j].level).toNat j hj ha (by rw [blk_at s j hj]; omega)
  obtain ⟨o1, o2, o3, o4⟩ := one j hj ha hr
  refine ⟨o1, o2, o3, o4, ?_⟩
  have hc := count_kids_le ((j : Int) + 1) s u (by omega) fun i hi hi' => by
    rcases hs.forms _ (List.getElem_mem hi) with e | ⟨e, _⟩
    · rw [e]; simp [noBlk]
    · have hti : thereB s ((i : Int) + 1) = true := by rw [there_at s i hi]; simpa using e
      have hli := hs.lv.2 _ (List.getElem_mem hi)
      have hli0 := (hs.lv.1 _ (List.getElem_mem hi)).1
      have hri := key (3 - s[i].level).toNat i hi hti (by rw [blk_at s i hi]; omega)
      obtain ⟨_, _, hki, _⟩ := one i hi hti hri
      rw [blk_at u i hi', blk_at s i hi] at hki
      rw [hki]
      exact Nat.le_refl _
  have h1 := ho j hj
  unfold outA at h1
  omega

theorem sub_keeps {r u : List Blk} {M : Int} (hs : Sub r u) (hg : Good u M) : Keeps u r := by
  intro a ha
  obtain ⟨j, hj, rfl, -⟩ := there_in ha
  have hl := hs.len
  have hjr : j < r.length := by omega
  obtain ⟨h1, h2, h3⟩ := there_ref ha
  rw [blk_at u j hj] at h3 ⊢
  rcases hs.each j hjr hj with q | ⟨_, q2, q⟩
  · rw [q] at h3; simp [noBlk] at h3
  · rw [there_at r j hjr, blk_at r j hjr]
    refine ⟨by simp; omega, ?_, ?_, ?_, q2⟩
    · rw [q]
    · rw [q]
    · rw [q]

/-- a store in which one root stands in the place of another -/
structure TurnAt (s t : List Blk) (root M : Int) : Prop where
  good : Good t M
  len : t.length = s.length
  keeps : Keeps s t
  rt : RootAt t 3 root
  out : ∀ j, j < s.length → outA t j = outA s j + if root = (j : Int) + 1 then 1 else 0

/-- the root is held once more -/
theorem turn_start {s : List Blk} (hc : checkE s = 0) (hw : WfS s) {root M0 : Int} (hr : RootAt s 3 root) (hfew : ∀ x ∈ s, x.refs ≤ M0) (hM : 1 ≤ M0) (hM2 : M0 ≤ 1000000) : TurnAt s (if root = 0 then s else addRef s root 1) root (M0 + 1) := by
  have hg := Good.few_ofM hc hw hfew
  by_cases h0 : root = 0
  · rw [if_pos h0]
    exact ⟨hg.weaken (by omega), rfl, Keeps.refl s, hr, fun j _ => by rw [h0, if_neg (by omega), Int.add_zero]⟩
  · rw [if_neg h0]
    obtain ⟨ht, hl⟩ := hr.resolve_left h0
    obtain ⟨k, hk, rfl, -⟩ := there_in ht
    have hlen : (addRef s ((k : Int) + 1) 1).length = s.length := addRef_length _ _ _
    have hget : ∀ j (hj : j < s.length) (hj' : j < (addRef s ((k : Int) + 1) 1).length), (addRef s ((k : Int) + 1) 1)[j] = { s[j] with refs := s[j].refs + if (k : Int) + 1 = (j : Int) + 1 then 1 else 0 } := fun j hj hj' => addRef_get s _ _ j hj hj' (by omega)
    have hkr := (there_ref ht).2.2
    rw [blk_at s k hk] at hkr
    have hkeeps : Keeps s (addRef s ((k : Int) + 1) 1) := by
      intro a ha
      obtain ⟨j, hj, rfl, -⟩ := there_in ha
      have hj' : j < (addRef s ((k : Int) + 1) 1).length := by omega
      have h3 := (there_ref ha).2.2
      rw [blk_at s j hj] at h3 ⊢
      rw [there_at _ j hj', blk_at _ j hj', hget j hj hj']
      simp only [decide_eq_true_eq, true_and]
      constructor
      · split <;> omega
      · split <;> omega
    refine ⟨⟨by rw [hlen]; exact hg.few, fun x hx => ?_, fun x hx => ?_, fun x hx => ?_⟩, hlen, hkeeps, hkeeps.root hr, fun j hj => ?_⟩
    · obtain ⟨j, hj', rfl⟩ := List.getElem_of_mem hx
      have hj : j < s.length := by omega
      have h1 := hg.refs _ (List.getElem_mem hj)
      rw [hget j hj hj']
      simp only
      split <;> omega
    · obtain ⟨j, hj', rfl⟩ := List.getElem_of_mem hx
      have hj : j < s.length := by omega
      rw [hget j hj hj']
      rcases hg.forms _ (List.getElem_mem hj) with e | ⟨e1, e2⟩
      · left
        have : ¬ ((k : Int) + 1 = (j : Int) + 1) := fun e3 => by
          obtain rfl : k = j := by omega
          rw [e] at hkr; simp [noBlk] at hkr
        rw [if_neg this, e]
        simp [noBlk]
      · refine .inr ⟨by simp only; split <;> omega, hkeeps.form e2 _⟩
    · obtain ⟨j, hj', rfl⟩ := List.getElem_of_mem hx
      have hj : j < s.length := by omega
      have hy := hg.wf _ (List.getElem_mem hj)
      have h1 := hg.refs _ (List.getElem_mem hj)
      rw [hget j hj hj']
      exact ⟨by unfold I64; simp only; split <;> omega, hy.level, hy.kids, hy.bytes, hy.klen, hy.blen⟩
    · rw [keep_out s k hk j]
      by_cases e : j = k
      · rw [if_pos e, if_pos (by omega)]
      · rw [if_neg e, if_neg (by omega)]

/-- a leaf set, the old root let go -/
theorem turn_step {s t : List Blk} {root M : Int} (hc : checkE s = 0) (hw : WfS s) (h : TurnAt s t root M) (hM : 1 ≤ M) (hM2 : M ≤ 700000000) {i : Nat} {b : List Int} (hi : i < 64) (hb : Byt b) (hb4 : b.length ≤ 4) (he : (setF 3 t root i b).2.2 = 0) :
    TurnAt s (looseF 4 (setF 3 t root i b).1 root) (setF 3 t root i b).2.1 (M + 13) ∧ Letting (setF 3 t root i b).1 root ∧
      ∀ j, j < 64 → leafB 3 (looseF 4 (setF 3 t root i b).1 root) (setF 3 t root i b).2.1 j = if j = i then b else leafB 3 t root j := by
  have h64 : p4n 3 = 64 := rfl
  obtain ⟨-, g2, g3⟩ := set_good 3 t root i b M (by omega) h.good hM (by omega) h.rt (by omega) hb hb4 he
  have g1 := set_tight 3 t root i b M (by omega) h.good hM (by omega) h.rt (by omega) hb hb4 he
  obtain ⟨hl, ho, -⟩ := set_out 3 t root i b M (by omega) h.good hM (by omega) h.rt (by omega) hb hb4 he
  have hlf := set_leaf 3 t root i b M (by omega) h.good hM (by omega) h.rt (by omega) hb hb4 he
  have hlen := h.len
  have hnn := fun j (hj : j < s.length) => out_nn hc j hj
  have hout := h.out
  generalize setF 3 t root i b = r at *
  have hor : ∀ j, j < s.length → outA r.1 j = outA s j + (if root = (j : Int) + 1 then 1 else 0) + (if r.2.1 = (j : Int) + 1 then 1 else 0) := fun j hj => by
    rw [ho j (by omega), hout j hj]
  have hcount : ∀ j : Nat, (([root].count ((j : Int) + 1) : Nat) : Int) = if root = (j : Int) + 1 then 1 else 0 := by
    intro j
    by_cases e : root = (j : Int) + 1
    · rw [if_pos e, e]; simp
    · rw [if_neg e, List.count_cons_of_ne e]; simp
  have hlet : Letting r.1 root := fun j hj => by
    have h1 := hor j (by omega)
    have h2 := hnn j (by omega)
    rw [hcount, h1]
    (repeat' split) <;> omega
  have hlow : Low r.1 4 root := by
    rcases g3.root h.rt with h0 | ⟨h1, h2⟩
    · exact .inl h0
    · have := there_ref h1
      exact .inr ⟨this.1, this.2.1, by omega⟩
  have q := looseOut 4 r.1 root [] g1.lv.1 g1.live hlow hlet
  have hou : ∀ j, j < s.length → outA (looseF 4 r.1 root) j = outA s j + if r.2.1 = (j : Int) + 1 then 1 else 0 := fun j hj => by
    rw [q.out j (by omega), hor j hj, hcount]
    omega
  have hou0 : ∀ j, j < r.1.length → 0 ≤ outA (looseF 4 r.1 root) j := fun j hj => by
    have h2 := hnn j (by omega)
    rw [hou j (by omega)]
    split <;> omega
  have hgu := good_sub g1 q.sub hou0
  have hku := sub_keeps q.sub hgu
  have hlu := q.sub.len
  have hroot : RootAt (looseF 4 r.1 root) 3 r.2.1 := by
    rcases g2 with h0 | ⟨h1, h2⟩
    · exact .inl h0
    · obtain ⟨k, hk, hke, -⟩ := there_in h1
      have hk1 := hou k (by omega)
      have hk2 := hnn k (by omega)
      rw [if_pos hke] at hk1
      have hku' : k < (looseF 4 r.1 root).length := by omega
      have hr : 0 < (blk (looseF 4 r.1 root) ((k : Int) + 1)).refs := by unfold outA at hk1 hk2; omega
      rw [blk_at _ k hku'] at hr
      refine .inr ⟨by rw [hke, there_at _ k hku']; simpa using hr, ?_⟩
      rcases q.sub.each k hk hku' with e | ⟨_, _, e⟩
      · rw [e] at hr; simp [noBlk] at hr
      · rw [hke, blk_at r.1 k hk] at h2
        rw [hke, blk_at _ k hku', e]
        exact h2
  refine ⟨⟨hgu.weaken (by omega), by omega, ?_, hroot, hou⟩, hlet, fun j hj => ?_⟩
  · have hgs := Good.of_check hc hw
    refine keeps_less hgs (h.keeps.trans g3) (by omega) q.sub (fun j hj => hou0 j (by omega)) fun j hj => ?_
    rw [hou j hj]
    split <;> omega
  · rw [← hlf j (by omega)]
    exact (leaf_keeps hgu hku 3 r.2.1 j (by omega) hroot (by omega)).symm
end Go.Proofs.Ytfmgdjgedhnmeaa

namespace Go.Proofs.Ytfmgdjgedhnmeaa
open Go.RowKit
set_option linter.unusedVariables false

def openL (key : Int) (i : Nat) (xs : List Int) : List Int := sealed (-1) key i xs
def sealL (key : Int) (i : Nat) (xs : List Int) : List Int := sealed 1 key i xs
def zeroB (xs : List Int) : Bool := xs.all fun x => decide (x = 0)
theorem zeroB_iff (xs : List Int) : zeroB xs = true ↔ ∀ x ∈ xs, x = 0 := by simp [zeroB]

/-- is a leaf not as it may be: all nothing, or something behind the size? -/
def behindB (size : Int) (i : Nat) (ys : List Int) (k : Nat) : Bool := (List.range k).any fun q => decide (size ≤ (i : Int) * 4 + q) && decide (ys.getD q 0 ≠ 0)
def leafBad (key size : Int) (i : Nat) (xs : List Int) : Bool := decide (xs ≠ []) && (zeroB (openL key i xs) || behindB size i (openL key i xs) xs.length)
def filesBad (key size : Int) (L : List (List Int)) (k : Nat) : Bool := (List.range k).any fun i => leafBad key size i (L.getD i [])

theorem behindB_succ (size : Int) (i : Nat) (ys : List Int) (k : Nat) : behindB size i ys (k + 1) = (behindB size i ys k || (decide (size ≤ (i : Int) * 4 + k) && decide (ys.getD k 0 ≠ 0))) := by
  simp [behindB, List.range_succ]
theorem filesBad_succ (key size : Int) (L : List (List Int)) (k : Nat) : filesBad key size L (k + 1) = (filesBad key size L k || leafBad key size k (L.getD k [])) := by
  simp [filesBad, List.range_succ]
theorem filesBad_at {key size : Int} {L : List (List Int)} {k n : Nat} (h : k < n) (hb : leafBad key size k (L.getD k []) = true) : filesBad key size L n = true := by
  unfold filesBad
  rw [List.any_eq_true]
  exact ⟨k, List.mem_range.2 h, hb⟩
theorem behindB_at {size : Int} {i : Nat} {ys : List Int} {k n : Nat} (h : k < n) (h1 : size ≤ (i : Int) * 4 + k) (h2 : ys.getD k 0 ≠ 0) : behindB size i ys n = true := by
  unfold behindB
  rw [List.any_eq_true]
  exact ⟨k, List.mem_range.2 h, by simp only [Bool.and_eq_true, decide_eq_true_eq]; exact ⟨h1, h2⟩⟩

/-- Check -/
def fileE (s : List Blk) (key root size : Int) : Int :=
  if keyE key 0 ≠ 0 then keyE key 0 else if size < 0 ∨ 256 < size then 3 else if checkT s root 3 0 ≠ 0 then checkT s root 3 0 else if filesBad key size (leavesF 3 s root) 64 = true then 4 else 0

theorem fileE_ok {s : List Blk} {key root size : Int} (h : fileE s key root size = 0) : keyE key 0 = 0 ∧ 0 ≤ size ∧ size ≤ 256 ∧ checkT s root 3 0 = 0 ∧ filesBad key size (leavesF 3 s root) 64 = false := by
  unfold fileE at h
  by_cases h1 : keyE key 0 = 0
  · rw [if_neg (by simpa using h1)] at h
    by_cases h2 : size < 0 ∨ 256 < size
    · rw [if_pos h2] at h; omega
    · rw [if_neg h2] at h
      by_cases h3 : checkT s root 3 0 = 0
      · rw [if_neg (by simpa using h3)] at h
        by_cases h4 : filesBad key size (leavesF 3 s root) 64 = true
        · rw [if_pos h4] at h; omega
        · exact ⟨h1, by omega, by omega, h3, by simpa using h4⟩
      · rw [if_pos h3] at h; exact absurd h h3
  · rw [if_pos h1] at h; exact absurd h h1

/-- the bytes of a leaf; of all -/
def leafBytes (key : Int) (i : Nat) (xs : List Int) : List Int := if xs = [] then [0, 0, 0, 0] else openL key i xs
def bytesTo (key : Int) (L : List (List Int)) (k : Nat) : List Int := (List.range k).flatMap fun i => leafBytes key i (L.getD i [])
theorem bytesTo_succ (key : Int) (L : List (List Int)) (k : Nat) : bytesTo key L (k + 1) = bytesTo key L k ++ leafBytes key k (L.getD k []) := by
  unfold bytesTo
  rw [List.range_succ, List.flatMap_append]
  simp
theorem leafBytes_len {key : Int} {i : Nat} {xs : List Int} (h : xs = [] ∨ xs.length = 4) : (leafBytes key i xs).length = 4 := by
  unfold leafBytes openL
  split
  · rfl
  · rename_i h0
    rw [sealed_length]
    exact h.resolve_left h0
theorem bytesTo_len {key : Int} {L : List (List Int)} (h : ∀ x ∈ L, x = [] ∨ x.length = 4) : ∀ k, (bytesTo key L k).length = 4 * k := by
  intro k
  induction k with
  | zero => rfl
  | succ k ih =>
    rw [bytesTo_succ, List.length_append, ih, leafBytes_len]
    · omega
    · by_cases hk : k < L.length
      · rw [List.getD_eq_getElem?_getD, List.getElem?_eq_getElem hk, Option.getD_some]
        exact h _ (List.getElem_mem hk)
      · rw [List.getD_eq_getElem?_getD, List.getElem?_eq_none (by omega)]
        exact .inl rfl
def fileB (s : List Blk) (key root size : Int) : List Int := (bytesTo key (leavesF 3 s root) 64).take size.toNat

/-- leaves have four bytes, or none -/
theorem leaf_four {s : List Blk} (hf : formsE s s = 0) {m : Nat} (hm : m ≤ 3) {a : Int} (hr : RootAt s m a) : ∀ x ∈ leavesF m s a, x = [] ∨ x.length = 4 := by
  intro x hx
  obtain ⟨i, hi, rfl⟩ := List.mem_map.1 hx
  have hi := List.mem_range.1 hi
  obtain ⟨-, h0⟩ := leafB_len hf m a i hm hr hi
  unfold leafB
  split
  · exact .inl rfl
  · rename_i hne
    obtain ⟨h1, h2⟩ := h0.resolve_left hne
    exact .inr (four_bytes hf h1 (by omega))
end Go.Proofs.Ytfmgdjgedhnmeaa

namespace Go.Proofs.Ytfmgdjgedhnmeaa
open Go.RowKit
set_option linter.unusedVariables false

/-- four bytes at a place -/
def fourAt (b : List Int) (i : Nat) : List Int := (b.drop (i * 4)).take 4
/-- 256 bytes: these, noughts behind -/
def pad (b : List Int) : List Int := b ++ zeros (256 - b.length)
theorem pad_len (b : List Int) (h : b.length ≤ 256) : (pad b).length = 256 := by simp [pad, zeros]; omega
theorem fourAt_len (b : List Int) (h : b.length = 256) (i : Nat) (hi : i < 64) : (fourAt b i).length = 4 := by simp [fourAt, h]; omega
theorem fourAt_byt {b : List Int} (h : Byt b) (i : Nat) : Byt (fourAt b i) := fun x hx => h x (List.mem_of_mem_drop (List.mem_of_mem_take hx))
theorem pad_byt {b : List Int} (h : Byt b) : Byt (pad b) := by
  intro x hx
  rcases List.mem_append.1 hx with h1 | h1
  · exact h x h1
  · have := (List.mem_replicate.1 h1).2
    omega
theorem fourAt_get (b : List Int) (h : b.length = 256) (i : Nat) (hi : i < 64) (k : Nat) (hk : k < (fourAt b i).length) : (fourAt b i)[k] = b[i * 4 + k]'(by rw [fourAt_len b h i hi] at hk; omega) := by simp [fourAt]

/-- the leaf that is put for four bytes -/
def leafOf (key : Int) (i : Nat) (ys : List Int) : List Int := if zeroB ys = true then [] else sealL key i ys
theorem leafOf_len {key : Int} {i : Nat} {ys : List Int} (h : ys.length = 4) : (leafOf key i ys).length = 0 ∨ (leafOf key i ys).length = 4 := by
  unfold leafOf
  split
  · exact .inl rfl
  · exact .inr ((sealed_length _ _ _ _).trans h)
theorem leafOf_byt (key : Int) (i : Nat) (ys : List Int) : Byt (leafOf key i ys) := by
  unfold leafOf
  split
  · intro x hx; cases hx
  · exact sealed_byt _ _ _ _

/-- one place; so many places -/
def turnOne (key : Int) (was now : List Int) (i : Nat) (r : List Blk × Int × Int) : List Blk × Int × Int :=
  if r.2.2 ≠ 0 then r else if fourAt was i = fourAt now i then r
  else if (setF 3 r.1 r.2.1 i (leafOf key i (fourAt now i))).2.2 ≠ 0 then ((setF 3 r.1 r.2.1 i (leafOf key i (fourAt now i))).1, 0, (setF 3 r.1 r.2.1 i (leafOf key i (fourAt now i))).2.2)
  else (looseF 4 (setF 3 r.1 r.2.1 i (leafOf key i (fourAt now i))).1 r.2.1, (setF 3 r.1 r.2.1 i (leafOf key i (fourAt now i))).2.1, 0)
def turnTo (key : Int) (was now : List Int) (r : List Blk × Int × Int) : Nat → List Blk × Int × Int
  | 0 => r
  | i + 1 => turnOne key was now i (turnTo key was now r i)
def startR (s : List Blk) (root : Int) : List Blk × Int × Int := (if root = 0 then s else addRef s root 1, root, 0)

theorem turnTo_bad {key : Int} {was now : List Int} {r : List Blk × Int × Int} {i : Nat} (h : (turnTo key was now r i).2.2 ≠ 0) : ∀ k, i ≤ k → turnTo key was now r k = turnTo key was now r i := by
  intro k hk
  induction k with
  | zero =>
    obtain rfl : i = 0 := by omega
    rfl
  | succ k ih =>
    by_cases e : i = k + 1
    · rw [e]
    · have h1 := ih (by omega)
      show turnOne key was now k (turnTo key was now r k) = _
      rw [h1]
      unfold turnOne
      rw [if_pos h]

/-- so far: right, and these leaves -/
structure Turned (M0 : Int) (s : List Blk) (key : Int) (was now : List Int) (L : List (List Int)) (i : Nat) (r : List Blk × Int × Int) : Prop where
  at_ : TurnAt s r.1 r.2.1 (M0 + 1 + 13 * i)
  leaf : ∀ j, j < 64 → leafB 3 r.1 r.2.1 j = if j < i ∧ fourAt was j ≠ fourAt now j then leafOf key j (fourAt now j) else L.getD j []

theorem turned_start {s : List Blk} (hc : checkE s = 0) (hw : WfS s) {root M0 : Int} (hr : RootAt s 3 root) (hfew : ∀ x ∈ s, x.refs ≤ M0) (hM : 1 ≤ M0) (hM2 : M0 ≤ 1000000) (key : Int) (was now : List Int) : Turned M0 s key was now (leavesF 3 s root) 0 (startR s root) := by
  have h := turn_start hc hw hr hfew hM hM2
  have hg := Good.of_check hc hw
  refine ⟨⟨h.good.weaken (by omega), h.len, h.keeps, h.rt, h.out⟩, fun j hj => ?_⟩
  rw [if_neg (by omega), List.getD_eq_getElem?_getD, List.getElem?_eq_getElem (by rw [leavesF_len]; exact hj), Option.getD_some, leavesF_get]
  exact leaf_keeps hg h.keeps 3 root j (by omega) hr hj

theorem turned_step {s : List Blk} (hc : checkE s = 0) (hw : WfS s) {key : Int} {was now : List Int} (hnow : now.length = 256) (hby : Byt now) {L : List (List Int)} {i : Nat} (hi : i < 64) {r : List Blk × Int × Int} {M0 : Int} (hM : 1 ≤ M0) (hM2 : M0 ≤ 1000000) (h : Turned M0 s key was now L i r) (he : r.2.2 = 0) (he2 : (turnOne key was now i r).2.2 = 0) : Turned M0 s key was now L (i + 1) (turnOne key was now i r) := by
  unfold turnOne at he2 ⊢
  rw [if_neg (by simpa using he)] at he2 ⊢
  by_cases hx : fourAt was i = fourAt now i
  · rw [if_pos hx]
    refine ⟨⟨h.at_.good.weaken (by omega), h.at_.len, h.at_.keeps, h.at_.rt, h.at_.out⟩, fun j hj => ?_⟩
    rw [h.leaf j hj]
    by_cases e : j = i
    · subst e
      rw [if_neg (by omega), if_neg (fun h => h.2 hx)]
    · by_cases e2 : j < i
      · simp only [show j < i + 1 from by omega, e2]
      · simp only [show ¬ j < i + 1 from by omega, e2]
  · rw [if_neg hx] at he2 ⊢
    have hl := leafOf_len (key := key) (i := i) (fourAt_len now hnow i hi)
    by_cases hs : (setF 3 r.1 r.2.1 i (leafOf key i (fourAt now i))).2.2 = 0
    · rw [if_neg (by simpa using hs)]
      obtain ⟨h1, -, h3⟩ := turn_step hc hw h.at_ (by omega) (by omega) hi (leafOf_byt key i (fourAt now i)) (by omega) hs
      refine ⟨⟨h1.good.weaken (by omega), h1.len, h1.keeps, h1.rt, h1.out⟩, fun j hj => ?_⟩
      simp only
      rw [h3 j hj]
      by_cases e : j = i
      · subst e
        rw [if_pos rfl, if_pos ⟨by omega, hx⟩]
      · rw [if_neg e, h.leaf j hj]
        by_cases e2 : j < i
        · simp only [show j < i + 1 from by omega, e2]
        · simp only [show ¬ j < i + 1 from by omega, e2]
    · rw [if_pos hs] at he2
      exact absurd he2 hs
end Go.Proofs.Ytfmgdjgedhnmeaa
