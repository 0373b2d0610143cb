/- What stays where one is let go; what is reached from what is held: in plain words. -/
import Derived.Test.YtpfopbkaddjjcaaBackP
import Derived.Test.YtpfopbkaddjjcaaReachP
namespace Go.Proofs.Ytpfopbkaddjjcaa
open Go.RowKit
set_option linter.unusedVariables false

theorem drop_out (s : List Blk) (k : Nat) (hk : k < s.length) (hc : checkE s = 0) (ho : 0 < outA s k) : LooseOut s (looseF 4 s ((k : Int) + 1)) [(k : Int) + 1] := by
  obtain ⟨h4, hf, _, _, hnn⟩ := checkE_zero s hc
  have hlv := lv_of s hf
  refine looseOut 4 s ((k : Int) + 1) [] hlv.1 (live_of s hf) (.inr ⟨by omega, by omega, by rw [blk_at s k hk]; have := hlv.2 _ (List.getElem_mem hk); omega⟩) (fun j hj => ?_)
  have := out_nn hc j hj
  by_cases e : j = k
  · subst e; simp; omega
  · rw [List.count_cons_of_ne (by omega)]; simpa using this
theorem drop_outA (s : List Blk) (k : Nat) (hk : k < s.length) (hc : checkE s = 0) (ho : 0 < outA s k) (j : Nat) (hj : j < s.length) : outA (looseF 4 s ((k : Int) + 1)) j = outA s j - if j = k then 1 else 0 := by
  rw [(drop_out s k hk hc ho).out j hj]
  by_cases e : j = k
  · subst e; simp
  · rw [if_neg e, List.count_cons_of_ne (by omega)]; simp

/-- addresses that are chosen, rising -/
def selTo (p : Nat → Bool) (k : Nat) : List Int := ((List.range k).filter p).map fun (i : Nat) => (i : Int) + 1
theorem selTo_zero (p : Nat → Bool) : selTo p 0 = [] := rfl
theorem selTo_succ (p : Nat → Bool) (k : Nat) : selTo p (k + 1) = selTo p k ++ if p k then [(k : Int) + 1] else [] := by
  unfold selTo
  rw [List.range_succ, List.filter_append, List.map_append]
  congr 1
  cases h : p k <;> simp [h]
theorem selTo_len (p : Nat → Bool) (k : Nat) : (selTo p k).length ≤ k := by
  unfold selTo
  rw [List.length_map]
  exact Nat.le_trans (List.length_filter_le _ _) (by simp)
theorem selTo_mem (p : Nat → Bool) (k : Nat) (x : Int) : x ∈ selTo p k ↔ ∃ i, i < k ∧ p i = true ∧ x = (i : Int) + 1 := by
  unfold selTo
  simp only [List.mem_map, List.mem_filter, List.mem_range]
  exact ⟨fun ⟨i, ⟨h1, h2⟩, h3⟩ => ⟨i, h1, h2, h3.symm⟩, fun ⟨i, h1, h2, h3⟩ => ⟨i, ⟨h1, h2⟩, h3.symm⟩⟩
theorem selTo_congr (p q : Nat → Bool) (k : Nat) (h : ∀ i, i < k → p i = q i) : selTo p k = selTo q k := by
  unfold selTo
  congr 1
  refine List.filter_congr fun i hi => h i (List.mem_range.1 hi)
theorem reachL_sel (s : List Blk) (roots : List Int) : reachL s roots = selTo (fun i => decide ((i : Int) + 1 ∈ allF s roots)) s.length := by
  unfold reachL addrs selTo
  rw [List.filter_map]
  rfl

theorem sel_sorted (p : Nat → Bool) (k : Nat) : (selTo p k).Pairwise (· < ·) := by
  unfold selTo
  rw [List.pairwise_map]
  exact ((List.pairwise_lt_range (n := k)).filter p).imp fun h => by omega

theorem tiers_chk {s : List Blk} (h : checkE s = 0) : Tiers s := tiers_of s (checkE_zero s h).2.1

theorem held_there {s : List Blk} (hc : checkE s = 0) (i : Nat) (hi : i < s.length) (h : 0 < outA s i) : thereB s ((i : Int) + 1) = true := by
  rw [there_at s i hi]
  unfold outA at h
  rw [blk_at s i hi] at h
  simp only [decide_eq_true_eq]
  omega

/-- what is held from outside -/
def heldL (s : List Blk) : List Int := selTo (fun i => decide (0 < outA s i)) s.length
theorem held_ok {s : List Blk} (hc : checkE s = 0) : rootsOk s (heldL s) = true := by
  unfold rootsOk
  rw [List.all_eq_true]
  intro a ha
  obtain ⟨i, hi, hp, rfl⟩ := (selTo_mem _ _ _).1 ha
  rw [held_there hc i hi (by simpa using hp)]
  simp

theorem held_all {s : List Blk} (hc : checkE s = 0) (j : Nat) (hj : j < s.length) (hr : 0 < s[j].refs) : (j : Int) + 1 ∈ allF s (heldL s) := by
  have ht := tiers_chk hc
  have hf := (checkE_zero s hc).2.1
  have key : ∀ (n : Nat) (j : Nat) (hj : j < s.length), 0 < s[j].refs → (3 : Int) - n < s[j].level → (j : Int) + 1 ∈ allF s (heldL s) := by
    intro n
    induction n with
    | zero =>
      intro j hj hr hl
      have := (lv_of s hf).2 _ (List.getElem_mem hj)
      omega
    | succ n ih =>
      intro j hj hr hl
      have hth : thereB s ((j : Int) + 1) = true := by rw [there_at s j hj]; simpa using hr
      by_cases ho : 0 < outA s j
      · refine List.mem_flatMap.2 ⟨_, (selTo_mem _ _ _).2 ⟨j, hj, by simpa using ho, rfl⟩, reach_self ht hth⟩
      · have h0 := ho
        unfold outA at h0
        rw [blk_at s j hj] at h0
        have hcn : 0 < (kidsOf s).count ((j : Int) + 1) := by omega
        obtain ⟨x, hx, hv⟩ := List.mem_flatMap.1 (List.count_pos_iff.1 hcn)
        obtain ⟨i, hi, rfl⟩ := List.getElem_of_mem hx
        have hri : 0 < s[i].refs := by
          rcases formB_zero s s[i] (formsE_all s s hf _ (List.getElem_mem hi)) with ⟨_, _, e, _⟩ | ⟨_, _, _, e, _⟩ | ⟨e1, _⟩
          · rw [e] at hv; cases hv
          · rw [e] at hv; cases hv
          · exact e1
        have hti : thereB s ((i : Int) + 1) = true := by rw [there_at s i hi]; simpa using hri
        have hv' : (j : Int) + 1 ∈ (blk s ((i : Int) + 1)).kids := by rw [blk_at s i hi]; exact hv
        rcases ht.kid _ hti _ hv' with e | ⟨_, e⟩
        · omega
        · rw [blk_at s i hi, blk_at s j hj] at e
          have hm := ih i hi hri (by omega)
          obtain ⟨r, hr1, hr2⟩ := List.mem_flatMap.1 hm
          refine List.mem_flatMap.2 ⟨r, hr1, ?_⟩
          have hrt : thereB s r = true := by
            obtain ⟨q, hq, hp, rfl⟩ := (selTo_mem _ _ _).1 hr1
            exact held_there hc q hq (by simpa using hp)
          exact reach_trans ht r hrt _ hr2 _ (reach_kid ht hti hv' hth)
  exact key 4 j hj hr (by have := ((lv_of s hf).1 _ (List.getElem_mem hj)).1; omega)

theorem root_there {s : List Blk} {roots : List Int} (h : rootsOk s roots = true) {a : Int} (ha : a ∈ roots) : a = 0 ∨ thereB s a = true := by
  have := List.all_eq_true.1 h a ha
  simpa using this
theorem allF_there {s : List Blk} (hc : checkE s = 0) {roots : List Int} (h : rootsOk s roots = true) {x : Int} (hx : x ∈ allF s roots) : thereB s x = true := by
  obtain ⟨r, hr, hx⟩ := List.mem_flatMap.1 hx
  rcases root_there h hr with h0 | h0
  · rw [h0, reach_zero] at hx; cases hx
  · exact reach_there (tiers_chk hc) r h0 x hx
theorem reachL_mem {s : List Blk} (hc : checkE s = 0) {roots : List Int} (h : rootsOk s roots = true) (x : Int) : x ∈ reachL s roots ↔ x ∈ allF s roots := by
  rw [reachL_sel, selTo_mem]
  constructor
  · rintro ⟨i, _, h1, rfl⟩; simpa using h1
  · intro hx
    obtain ⟨k, hk, rfl, _⟩ := there_in (allF_there hc h hx)
    exact ⟨k, hk, by simpa using hx, rfl⟩

theorem sel_used (s : List Blk) (k : Nat) (hk : k ≤ s.length) : ((selTo (fun i => decide (0 < (blk s ((i : Int) + 1)).refs)) k).length : Int) = usedN (s.take k) := by
  induction k with
  | zero => rfl
  | succ k ih =>
    have hlt : k < s.length := by omega
    rw [selTo_succ, List.length_append, List.take_succ_eq_append_getElem hlt, usedN_snoc, Int.natCast_add, ih (by omega), blk_at s k hlt]
    by_cases h : 0 < s[k].refs <;> simp [h]

/-- all that is there is reached from what is held -/
theorem held_used {s : List Blk} (hc : checkE s = 0) : ((reachL s (heldL s)).length : Int) = usedN s := by
  have h := sel_used s s.length (Nat.le_refl _)
  rw [List.take_length] at h
  rw [← h, reachL_sel]
  congr 2
  refine selTo_congr _ _ _ fun i hi => ?_
  rw [decide_eq_decide, blk_at s i hi]
  constructor
  · intro hx
    have := there_ref (allF_there hc (held_ok hc) hx)
    rw [blk_at s i hi] at this
    exact this.2.2
  · exact fun hr => held_all hc i hi hr

theorem reach_again {s : List Blk} (hc : checkE s = 0) {roots : List Int} (h : rootsOk s roots = true) : rootsOk s (reachL s roots) = true ∧ reachL s (reachL s roots) = reachL s roots := by
  have ht := tiers_chk hc
  have hall : ∀ x ∈ reachL s roots, thereB s x = true := fun x hx => allF_there hc h ((reachL_mem hc h x).1 hx)
  have hok : rootsOk s (reachL s roots) = true := by
    unfold rootsOk
    rw [List.all_eq_true]
    intro a ha
    rw [hall a ha]; simp
  refine ⟨hok, ?_⟩
  rw [reachL_sel s (reachL s roots), reachL_sel s roots]
  refine selTo_congr _ _ _ fun i hi => ?_
  rw [decide_eq_decide, ← reachL_sel s roots]
  constructor
  · intro hx
    obtain ⟨y, hy, hx⟩ := List.mem_flatMap.1 hx
    obtain ⟨r, hr, hy2⟩ := List.mem_flatMap.1 ((reachL_mem hc h y).1 hy)
    refine List.mem_flatMap.2 ⟨r, hr, ?_⟩
    rcases root_there h hr with h0 | h0
    · rw [h0, reach_zero] at hy2; cases hy2
    · exact reach_trans ht r h0 y hy2 _ hx
  · intro hx
    exact List.mem_flatMap.2 ⟨_, (reachL_mem hc h _).2 hx, reach_self ht (allF_there hc h hx)⟩

theorem reach_more {s : List Blk} (hc : checkE s = 0) {roots more : List Int} (h : rootsOk s (roots ++ more) = true) : ∀ x ∈ reachL s roots, x ∈ reachL s (roots ++ more) := by
  have h1 : rootsOk s roots = true := by
    unfold rootsOk at h ⊢
    rw [List.all_append, Bool.and_eq_true] at h
    exact h.1
  intro x hx
  rw [reachL_mem hc h]
  have := (reachL_mem hc h1 x).1 hx
  unfold allF at *
  rw [List.flatMap_append]
  exact List.mem_append.2 (.inl this)

/-- where some are let go, and what is held stays -/
theorem sub_there {s d : List Blk} (h : Sub s d) {a : Int} (ha : thereB d a = true) : thereB s a = true ∧ (blk s a).kids = (blk d a).kids ∧ (blk s a).level = (blk d a).level ∧ (blk s a).bytes = (blk d a).bytes := by
  obtain ⟨h1, h2, h3⟩ := there_ref ha
  have hl := h.len
  obtain ⟨j, rfl⟩ : ∃ j : Nat, a = j + 1 := ⟨(a - 1).toNat, by omega⟩
  have hj : j < s.length := by omega
  have hj' : j < d.length := by omega
  rw [blk_at d j hj'] at h3
  rw [there_at s j hj, blk_at s j hj, blk_at d j hj']
  rcases h.each j hj hj' with e | ⟨e1, e2, e3⟩
  · rw [e] at h3; simp [noBlk] at h3
  · rw [e3]
    simp only [decide_eq_true_eq, and_self, and_true]
    omega

theorem reach_sub {s d : List Blk} (hs : Tiers s) (hd : Tiers d) (h : Sub s d) : ∀ a, thereB d a = true → ∀ x, x ∈ reachF 4 d a ↔ x ∈ reachF 4 s a := by
  refine tier_ind hd (fun a => ∀ x, x ∈ reachF 4 d a ↔ x ∈ reachF 4 s a) (fun a ha ih x => ?_)
  obtain ⟨h1, h2, _⟩ := sub_there h ha
  rw [reach_mem hd a ha, reach_mem hs a h1, h2]
  refine or_congr Iff.rfl (exists_congr fun k => and_congr_right fun hk => ?_)
  rcases hd.kid a ha k hk with h0 | ⟨h0, _⟩
  · rw [h0, reach_zero, reach_zero]
  · exact ih k hk h0 x

/-- the roots that somebody holds still -/
def stillL (s : List Blk) (k : Nat) : List Int := selTo (fun i => decide (1 < outA s i) || (decide (outA s i = 1) && decide (i ≠ k))) s.length

structure Still (s d : List Blk) (H : List Int) : Prop where
  ok : rootsOk s H = true
  ok' : rootsOk d H = true
  same : reachL d H = reachL s H
  chk : checkE d = 0
  each : ∀ x ∈ reachL s H, thereB d x = true ∧ (blk s x).level = (blk d x).level ∧ (blk s x).kids = (blk d x).kids ∧ (blk s x).bytes = (blk d x).bytes

theorem still_of (s : List Blk) (k : Nat) (hk : k < s.length) (hc : checkE s = 0) (ho : 0 < outA s k) : Still s (looseF 4 s ((k : Int) + 1)) (stillL s k) := by
  have hd := drop_check s k hk hc ho
  have hq := drop_out s k hk hc ho
  have hsub := hq.sub
  have hroot : ∀ a ∈ stillL s k, thereB (looseF 4 s ((k : Int) + 1)) a = true := by
    intro a ha
    obtain ⟨i, hi, hp, rfl⟩ := (selTo_mem _ _ _).1 ha
    have hi' : i < (looseF 4 s ((k : Int) + 1)).length := by have := hsub.len; omega
    refine held_there hd i hi' ?_
    rw [drop_outA s k hk hc ho i hi]
    simp only [Bool.or_eq_true, Bool.and_eq_true, decide_eq_true_eq] at hp
    split
    · rename_i e; rcases hp with h | h
      · omega
      · exact absurd e h.2
    · omega
  have ok' : rootsOk (looseF 4 s ((k : Int) + 1)) (stillL s k) = true := by
    unfold rootsOk; rw [List.all_eq_true]; intro a ha; rw [hroot a ha]; simp
  have ok : rootsOk s (stillL s k) = true := by
    unfold rootsOk; rw [List.all_eq_true]; intro a ha; rw [(sub_there hsub (hroot a ha)).1]; simp
  have hmem : ∀ x, x ∈ allF (looseF 4 s ((k : Int) + 1)) (stillL s k) ↔ x ∈ allF s (stillL s k) := by
    intro x
    unfold allF
    rw [List.mem_flatMap, List.mem_flatMap]
    exact exists_congr fun a => and_congr_right fun ha => reach_sub (tiers_chk hc) (tiers_chk hd) hsub a (hroot a ha) x
  refine ⟨ok, ok', ?_, hd, fun x hx => ?_⟩
  · rw [reachL_sel, reachL_sel, hsub.len]
    refine selTo_congr _ _ _ fun i hi => ?_
    rw [decide_eq_decide]; exact hmem _
  · have h1 := (hmem x).2 ((reachL_mem hc ok x).1 hx)
    have h2 := allF_there hd ok' h1
    obtain ⟨_, q1, q2, q3⟩ := sub_there hsub h2
    exact ⟨h2, q2, q1, q3⟩
end Go.Proofs.Ytpfopbkaddjjcaa
