/- rookeryref.PutIn in plain words: what Set does, from below on. · The leaves below a root, and where two roots differ, in plain words. -/
import Derived.Test.YtgeacpfenhaioaaSetS
namespace Go.Proofs.Ytgeacpfenhaioaa
open Go.RowKit
set_option linter.unusedVariables false

theorem p4n_dvd {l m : Nat} (h : l + 1 ≤ m) (hm : m ≤ 3) : p4n l * 4 ∣ p4n m := by
  rcases (show m = 1 ∨ m = 2 ∨ m = 3 from by omega) with rfl | rfl | rfl
  · obtain rfl : l = 0 := by omega
    decide
  · rcases (show l = 0 ∨ l = 1 from by omega) with rfl | rfl <;> decide
  · rcases (show l = 0 ∨ l = 1 ∨ l = 2 from by omega) with rfl | rfl | rfl <;> decide

theorem digit_eq {i a c : Nat} (h : a * 4 ∣ c) : i % c / a % 4 = i / a % 4 := by
  obtain ⟨k, rfl⟩ := h
  rw [Nat.mul_assoc, Nat.mod_mul_right_div_self, Nat.mod_mod_of_dvd _ (Nat.dvd_mul_right 4 k)]

/-- the block of a level on the way to a leaf -/
def nodeF (l : Nat) : Nat → List Blk → Int → Nat → Int
  | 0, _, root, _ => root
  | m + 1, s, root, i => if l = m + 1 then root else nodeF l m s ((kids0 s root)[i / p4n m]?.getD 0) (i % p4n m)
theorem nodeF_top (m : Nat) (s : List Blk) (root : Int) (i : Nat) : nodeF m m s root i = root := by
  cases m with
  | zero => rfl
  | succ m => unfold nodeF; rw [if_pos rfl]

theorem nodeF_step (l : Nat) : ∀ (m : Nat) (s : List Blk) (root : Int) (i : Nat), l + 1 ≤ m → m ≤ 3 → i < p4n m → nodeF l m s root i = (kids0 s (nodeF (l + 1) m s root i))[i / p4n l % 4]?.getD 0 := by
  intro m
  induction m with
  | zero => intro s root i h; omega
  | succ m ih =>
    intro s root i h h3 hi
    have hps := p4n_succ m (by omega)
    have hpp := p4n_pos m
    by_cases e : l = m
    · subst e
      have h1 : nodeF (l + 1) (l + 1) s root i = root := nodeF_top _ _ _ _
      have h2 : nodeF l (l + 1) s root i = (kids0 s root)[i / p4n l]?.getD 0 := by
        show (if l = l + 1 then root else nodeF l l s ((kids0 s root)[i / p4n l]?.getD 0) (i % p4n l)) = _
        rw [if_neg (by omega), nodeF_top]
      rw [h1, h2, Nat.mod_eq_of_lt (div_lt4 hpp (by omega))]
    · have h1 : nodeF (l + 1) (m + 1) s root i = nodeF (l + 1) m s ((kids0 s root)[i / p4n m]?.getD 0) (i % p4n m) := by
        show (if l + 1 = m + 1 then root else _) = _
        rw [if_neg (by omega)]
      have h2 : nodeF l (m + 1) s root i = nodeF l m s ((kids0 s root)[i / p4n m]?.getD 0) (i % p4n m) := by
        show (if l = m + 1 then root else _) = _
        rw [if_neg (by omega)]
      rw [h1, h2, ih _ _ _ (by omega) (by omega) (Nat.mod_lt _ hpp), digit_eq (p4n_dvd (by omega) (by omega))]

/-- what is made from below on, up to a level -/
def upF (m : Nat) (s : List Blk) (root : Int) (i : Nat) (b : List Int) (l : Nat) : List Blk × Int × Int := setF l s (nodeF l m s root i) (i % p4n l) b
theorem upF_succ (m : Nat) (s : List Blk) (root : Int) (i : Nat) (b : List Int) (l : Nat) (h : l + 1 ≤ m) (hm : m ≤ 3) (hi : i < p4n m) :
    upF m s root i b (l + 1) = setN l (kids0 s (nodeF (l + 1) m s root i)) (i / p4n l % 4) (upF m s root i b l) := by
  have hps := p4n_succ l (by omega)
  have hpp := p4n_pos l
  unfold upF
  rw [setF_succ]
  have e1 : i % p4n (l + 1) / p4n l = i / p4n l % 4 := by
    rw [hps, Nat.mul_comm 4, Nat.mod_mul_right_div_self]
  have e2 : i % p4n (l + 1) % p4n l = i % p4n l := by
    rw [Nat.mod_mod_of_dvd]
    exact ⟨4, by rw [hps, Nat.mul_comm]⟩
  rw [e1, e2, ← nodeF_step l m s root i h hm hi]
theorem upF_top (m : Nat) (s : List Blk) (root : Int) (i : Nat) (b : List Int) (hi : i < p4n m) : upF m s root i b m = setF m s root i b := by
  unfold upF
  rw [nodeF_top, Nat.mod_eq_of_lt hi]

theorem kids0_at {s : List Blk} {M : Int} (hg : Good s M) {m : Nat} {root : Int} (hr : RootAt s (m + 1) root) (q : Nat) (hq : q < 4) : RootAt s m ((kids0 s root)[q]?.getD 0) := by
  obtain ⟨h1, h2⟩ := kids0_ok hg hr
  rw [List.getElem?_eq_getElem (by omega)]
  exact h2 _ (List.getElem_mem _)

theorem nodeF_root {s : List Blk} {M : Int} (hg : Good s M) : ∀ (m : Nat) (root : Int) (i l : Nat), m ≤ 3 → RootAt s m root → i < p4n m → l ≤ m → RootAt s l (nodeF l m s root i) := by
  intro m
  induction m with
  | zero =>
    intro root i l _ hr _ hl
    obtain rfl : l = 0 := by omega
    exact hr
  | succ m ih =>
    intro root i l h3 hr hi hl
    have hps := p4n_succ m (by omega)
    have hpp := p4n_pos m
    by_cases e : l = m + 1
    · subst e
      rw [nodeF_top]
      exact hr
    · have h2 : nodeF l (m + 1) s root i = nodeF l m s ((kids0 s root)[i / p4n m]?.getD 0) (i % p4n m) := by
        show (if l = m + 1 then root else _) = _
        rw [if_neg e]
      rw [h2]
      exact ih _ _ _ (by omega) (kids0_at hg hr _ (div_lt4 hpp (by omega))) (Nat.mod_lt _ hpp) (by omega)

/-- a level made: the store is right but for how often blocks are held, and has what was there -/
theorem upF_good {s : List Blk} {M : Int} (hg : Good s M) {m : Nat} {root : Int} {i : Nat} {b : List Int} (hm : m ≤ 3) (hM : 1 ≤ M) (hM2 : M + 4 * m ≤ 800000000) (hr : RootAt s m root) (hi : i < p4n m) (hb : Byt b) (h4 : b.length ≤ 4) (l : Nat) (hl : l ≤ m) (he : (upF m s root i b l).2.2 = 0) :
    Good (upF m s root i b l).1 (M + 4 * (l + 1)) ∧ RootAt (upF m s root i b l).1 l (upF m s root i b l).2.1 ∧ Keeps s (upF m s root i b l).1 :=
  set_good l s _ _ b M (by omega) hg hM (by omega) (nodeF_root hg m root i l hm hr hi hl) (Nat.mod_lt _ (p4n_pos l)) hb h4 he

/-- who goes wrong below goes wrong above -/
theorem upF_bad {m : Nat} {s : List Blk} {root : Int} {i : Nat} {b : List Int} (hm : m ≤ 3) (hi : i < p4n m) {l : Nat} (he : (upF m s root i b l).2.2 ≠ 0) : ∀ k, l ≤ k → k ≤ m → (upF m s root i b k).2.2 = (upF m s root i b l).2.2 := by
  intro k hl
  induction k with
  | zero =>
    intro _
    obtain rfl : l = 0 := by omega
    rfl
  | succ k ih =>
    intro hk
    by_cases e : l = k + 1
    · rw [e]
    · have h1 := ih (by omega) (by omega)
      rw [upF_succ m s root i b k hk hm hi]
      unfold setN
      rw [if_pos (by rw [h1]; exact he)]
      exact h1

/-- MakeIn, and the one below held once less -/
theorem node_less {s : List Blk} {M : Int} (hg : Good s M) (hM : 1 ≤ M) (hM2 : M ≤ 900000000) {m : Nat} (hm : m ≤ 2) {ks : List Int} {k1 : Int} (h4 : ks.length = 4) (hk1 : k1 ∈ ks) (hk1r : RootAt s m k1) (hI : ∀ k ∈ ks, I64 k) (he : (putR s ((m : Int) + 1) ks []).2.2 = 0) :
    looseF 4 (putR s ((m : Int) + 1) ks []).1 k1 = if k1 = 0 then (putR s ((m : Int) + 1) ks []).1 else addRef (putR s ((m : Int) + 1) ks []).1 k1 (-1) := by
  obtain ⟨hp, e⟩ := put_well hg he
  rw [e]
  simp only
  split
  · rename_i h0
    rw [h0]
    simp [looseF]
  · rename_i h0
    obtain ⟨ht, -⟩ := hk1r.resolve_left h0
    obtain ⟨j, hj, rfl, -⟩ := there_in ht
    have hwx : WfB ⟨1, (m : Int) + 1, ks, []⟩ := ⟨by unfold I64; simp only; omega, by unfold I64; simp only; omega, hI, (by intro x hx; cases hx), by simp only; omega, by simp⟩
    have hG := hp.good hg hM hM2 hwx
    have hj' : j < (putM s ((m : Int) + 1) ks [] (freeIx s)).length := by rw [putM_length]; exact hj
    exact (less_good hG j hj' (put_twice hp j hj hk1 ht hj')).1
end Go.Proofs.Ytgeacpfenhaioaa

namespace Go.Proofs.Ytgeacpfenhaioaa
open Go.RowKit
set_option linter.unusedVariables false

def kidF (s : List Blk) (a : Int) (k : Nat) : Int := (kids0 s a)[k]?.getD 0
theorem kidF_zero (s : List Blk) (k : Nat) : kidF s 0 k = 0 := by
  unfold kidF kids0
  rw [if_pos rfl]
  rcases k with _ | _ | _ | _ | k <;> rfl
theorem kidF_ne (s : List Blk) (a : Int) (k : Nat) (h : a ≠ 0) : kidF s a k = (blk s a).kids[k]?.getD 0 := by
  unfold kidF kids0
  rw [if_neg h]
theorem leafA_succ (m : Nat) (s : List Blk) (a : Int) (i : Nat) : leafA (m + 1) s a i = leafA m s (kidF s a (i / p4n m)) (i % p4n m) := by
  by_cases h : a = 0
  · rw [h, leafA_zero, kidF_zero, leafA_zero]
  · show (if a = 0 then 0 else _) = _
    rw [if_neg h]
    unfold kidF kids0
    rw [if_neg h]
theorem leafB_succ (m : Nat) (s : List Blk) (a : Int) (i : Nat) : leafB (m + 1) s a i = leafB m s (kidF s a (i / p4n m)) (i % p4n m) := by
  unfold leafB
  rw [leafA_succ]
theorem leafB_zero (m : Nat) (s : List Blk) (i : Nat) : leafB m s 0 i = [] := by
  unfold leafB
  rw [leafA_zero, if_pos rfl]

/-- all leaves below a root -/
def leavesF (m : Nat) (s : List Blk) (a : Int) : List (List Int) := (List.range (p4n m)).map (leafB m s a)
theorem range_four (p : Nat) : List.range (4 * p) = (List.range 4).flatMap fun k => (List.range p).map (k * p + ·) := by
  have h4 : List.range 4 = [0, 1, 2, 3] := rfl
  rw [h4, show 4 * p = p + (p + (p + p)) from by omega]
  simp only [List.range_add, List.flatMap_cons, List.flatMap_nil, List.map_append, List.map_map, List.append_nil]
  congr 1
  · simp
  · congr 1
    · apply List.map_congr_left
      intro x _
      simp
    · congr 1 <;>
      · apply List.map_congr_left
        intro x _
        simp only [Function.comp]
        omega

/-- the places at which two roots differ -/
def diffL (m : Nat) (s : List Blk) (a b : Int) : List Nat := (List.range (p4n m)).filter fun i => decide (leafB m s a i ≠ leafB m s b i)
def diffF : Nat → List Blk → Int → Int → Int → List Int
  | 0, s, a, b, o => if a = b then [] else if leafB 0 s a 0 = leafB 0 s b 0 then [] else [o]
  | m + 1, s, a, b, o => if a = b then [] else (List.range 4).flatMap fun k => diffF m s (kidF s a k) (kidF s b k) (o + (k : Int) * (p4n m : Nat))

theorem diffL_self (m : Nat) (s : List Blk) (a : Int) : diffL m s a a = [] := by
  unfold diffL
  rw [List.filter_eq_nil_iff]
  intro i _
  simp
theorem diffL_comm (m : Nat) (s : List Blk) (a b : Int) : diffL m s a b = diffL m s b a := by
  unfold diffL
  congr 1
  funext i
  exact decide_eq_decide.2 ⟨Ne.symm, Ne.symm⟩

theorem diffL_succ (m : Nat) (hm : m < 3) (s : List Blk) (a b : Int) : diffL (m + 1) s a b = (List.range 4).flatMap fun k => (diffL m s (kidF s a k) (kidF s b k)).map (k * p4n m + ·) := by
  have hpp := p4n_pos m
  unfold diffL
  rw [p4n_succ m hm, range_four, List.filter_flatMap]
  congr 1
  funext k
  rw [List.filter_map]
  congr 1
  apply List.filter_congr
  intro i hi
  have hi := List.mem_range.1 hi
  simp only [Function.comp]
  have e1 : (k * p4n m + i) / p4n m = k := by
    rw [Nat.mul_comm, Nat.mul_add_div hpp, Nat.div_eq_of_lt hi]; omega
  have e2 : (k * p4n m + i) % p4n m = i := by
    rw [Nat.mul_comm, Nat.mul_add_mod, Nat.mod_eq_of_lt hi]
  rw [leafB_succ, leafB_succ, e1, e2]

theorem diffF_eq : ∀ (m : Nat) (s : List Blk) (a b o : Int), m ≤ 3 → diffF m s a b o = (diffL m s a b).map fun i : Nat => o + (i : Int) := by
  intro m
  induction m with
  | zero =>
    intro s a b o _
    unfold diffF
    by_cases h : a = b
    · subst h
      rw [if_pos rfl, diffL_self]; rfl
    · rw [if_neg h]
      unfold diffL
      have : List.range (p4n 0) = [0] := rfl
      rw [this]
      by_cases h2 : leafB 0 s a 0 = leafB 0 s b 0
      · rw [if_pos h2, List.filter_cons, if_neg (by simp [h2])]; rfl
      · rw [if_neg h2, List.filter_cons, if_pos (by simp [h2])]; simp
  | succ m ih =>
    intro s a b o hm
    unfold diffF
    by_cases h : a = b
    · subst h
      rw [if_pos rfl, diffL_self]; rfl
    · rw [if_neg h, diffL_succ m (by omega), List.map_flatMap]
      congr 1
      funext k
      rw [ih _ _ _ _ (by omega), List.map_map]
      congr 1
      funext i
      simp only [Function.comp]
      omega

/-- what was there has the leaves that it had -/
theorem leaf_keeps {s t : List Blk} {M : Int} (hg : Good s M) (hk : Keeps s t) : ∀ (m : Nat) (a : Int) (i : Nat), m ≤ 3 → RootAt s m a → i < p4n m → leafB m t a i = leafB m s a i := by
  intro m
  induction m with
  | zero =>
    intro a i _ hr _
    unfold leafB leafA
    split
    · rfl
    · rename_i h0
      exact (hk a (hr.resolve_left h0).1).2.2.2.1
  | succ m ih =>
    intro a i hm hr hi
    have hps := p4n_succ m (by omega)
    have hpp := p4n_pos m
    have hd4 : i / p4n m < 4 := div_lt4 hpp (by omega)
    rw [leafB_succ, leafB_succ]
    have e : kidF t a (i / p4n m) = kidF s a (i / p4n m) := by
      unfold kidF kids0
      split
      · rfl
      · rename_i h0
        rw [(hk a (hr.resolve_left h0).1).2.2.1]
    rw [e]
    obtain ⟨h4, hkr⟩ := kids0_ok hg hr
    refine ih _ _ (by omega) ?_ (Nat.mod_lt _ hpp)
    unfold kidF
    rw [List.getElem?_eq_getElem (by omega)]
    exact hkr _ (List.getElem_mem _)

theorem kids_addRef (s : List Blk) (a d b : Int) : (blk (addRef s a d) b).kids = (blk s b).kids := by
  unfold addRef
  rw [blk_set]
  split
  · rename_i h
    have : blk s a = blk s b := by unfold blk; rw [h.1]
    rw [this]
  · rfl

/-- Set: the leaf is there, the others are as they were -/
theorem set_leaf : ∀ (m : Nat) (s : List Blk) (root : Int) (i : Nat) (b : List Int) (M : Int), m ≤ 3 → Good s M → 1 ≤ M → M + 4 * m ≤ 800000000 → RootAt s m root → i < p4n m → Byt b → b.length ≤ 4 → (setF m s root i b).2.2 = 0 →
    ∀ j, j < p4n m → leafB m (setF m s root i b).1 (setF m s root i b).2.1 j = if j = i then b else leafB m s root j := by
  intro m
  induction m with
  | zero =>
    intro s root i b M _ hg hM hM2 hr hi hb hb4 he j hj
    have hp0 : p4n 0 = 1 := rfl
    obtain rfl : j = i := by omega
    rw [if_pos rfl]
    unfold setF at he ⊢
    split
    · rename_i h
      rw [h, leafB_zero]
    · rename_i hne
      rw [if_neg hne] at he
      obtain ⟨hp, e⟩ := put_well hg he
      rw [e]
      obtain ⟨hn1, hn2⟩ := hp.new
      unfold leafB leafA
      simp only
      rw [if_neg (by omega), hn2]
  | succ m ih =>
    intro s root i b M hm hg hM hM2 hr hi hb hb4 he j hj
    obtain ⟨h4, hkr⟩ := kids0_ok hg hr
    have hps := p4n_succ m (by omega)
    have hpp := p4n_pos m
    have hd4 : i / p4n m < 4 := div_lt4 hpp (by omega)
    have hj4 : j / p4n m < 4 := div_lt4 hpp (by omega)
    have hge : (kids0 s root)[i / p4n m]?.getD 0 = (kids0 s root)[i / p4n m]'(by omega) := by rw [List.getElem?_eq_getElem (by omega)]; rfl
    have hij : j = i ↔ j / p4n m = i / p4n m ∧ j % p4n m = i % p4n m := by
      constructor
      · rintro rfl; exact ⟨rfl, rfl⟩
      · rintro ⟨h1, h2⟩
        rw [← Nat.div_add_mod j (p4n m), ← Nat.div_add_mod i (p4n m), h1, h2]
    have hky := hkr _ (List.getElem_mem (show i / p4n m < (kids0 s root).length by omega))
    unfold setF at he ⊢
    split
    · rename_i h; rw [if_pos h] at he; exact absurd he h
    · rename_i h
      rw [if_neg h] at he
      have h0 : (setF m s ((kids0 s root)[i / p4n m]?.getD 0) (i % p4n m) b).2.2 = 0 := by simpa using h
      obtain ⟨g1, g2, g3⟩ := set_good m s _ (i % p4n m) b M (by omega) hg hM (by omega) (by rw [hge]; exact hky) (Nat.mod_lt _ hpp) hb hb4 h0
      have hih := ih s _ (i % p4n m) b M (by omega) hg hM (by omega) (by rw [hge]; exact hky) (Nat.mod_lt _ hpp) hb hb4 h0
      generalize setF m s ((kids0 s root)[i / p4n m]?.getD 0) (i % p4n m) b = r at *
      rw [leafB_succ m s root j]
      -- the leaves of what the four are now, in the inner store
      have hall : ∀ k ∈ (kids0 s root).set (i / p4n m) r.2.1, RootAt r.1 m k := by
        intro k hk
        rcases List.mem_or_eq_of_mem_set hk with e | e
        · exact g3.root (hkr k e)
        · rw [e]; exact g2
      have hleaf : leafB m r.1 (((kids0 s root).set (i / p4n m) r.2.1)[j / p4n m]?.getD 0) (j % p4n m) = if j = i then b else leafB m s (kidF s root (j / p4n m)) (j % p4n m) := by
        have hgj : ((kids0 s root).set (i / p4n m) r.2.1)[j / p4n m]?.getD 0 = if i / p4n m = j / p4n m then r.2.1 else kidF s root (j / p4n m) := by
          rw [List.getElem?_set]
          by_cases e : i / p4n m = j / p4n m
          · rw [if_pos e, if_pos (by omega), if_pos e]; rfl
          · rw [if_neg e, if_neg e]; rfl
        rw [hgj]
        by_cases e : i / p4n m = j / p4n m
        · rw [if_pos e, hih _ (Nat.mod_lt _ hpp)]
          by_cases e2 : j % p4n m = i % p4n m
          · rw [if_pos e2, if_pos (hij.2 ⟨e.symm, e2⟩)]
          · rw [if_neg e2, if_neg (fun h => e2 (hij.1 h).2), ← e]; rfl
        · rw [if_neg e, if_neg (fun h => e (hij.1 h).1.symm)]
          refine leaf_keeps hg g3 m _ _ (by omega) ?_ (Nat.mod_lt _ hpp)
          unfold kidF
          rw [List.getElem?_eq_getElem (by omega)]
          exact hkr _ (List.getElem_mem _)
      split
      · rename_i hz
        rw [leafB_zero]
        have hz0 : ((kids0 s root).set (i / p4n m) r.2.1)[j / p4n m]?.getD 0 = 0 := by
          rw [List.getElem?_eq_getElem (by rw [List.length_set]; omega)]
          exact of_decide_eq_true (List.all_eq_true.1 hz _ (List.getElem_mem _))
        rw [hz0, leafB_zero] at hleaf
        exact hleaf
      · rename_i hz
        rw [if_neg hz] at he
        have hk1 : r.2.1 ∈ (kids0 s root).set (i / p4n m) r.2.1 := List.mem_set (by omega) _
        have hl4 : ((kids0 s root).set (i / p4n m) r.2.1).length = 4 := by rw [List.length_set]; exact h4
        obtain ⟨q1, q2, q3⟩ := node_step g1 (by omega) (by omega) (by omega) hl4 hk1 g2 (fun k hk => root_I64 g1 (hall k hk)) he
        obtain ⟨hp, e⟩ := put_well g1 he
        rw [leafB_succ]
        -- the new one's four
        have hkn : kidF (looseF 4 (putR r.1 ((m : Int) + 1) ((kids0 s root).set (i / p4n m) r.2.1) []).1 r.2.1) (putR r.1 ((m : Int) + 1) ((kids0 s root).set (i / p4n m) r.2.1) []).2.1 (j / p4n m) = ((kids0 s root).set (i / p4n m) r.2.1)[j / p4n m]?.getD 0 := by
          have hkk : (blk (looseF 4 (putR r.1 ((m : Int) + 1) ((kids0 s root).set (i / p4n m) r.2.1) []).1 r.2.1) (putR r.1 ((m : Int) + 1) ((kids0 s root).set (i / p4n m) r.2.1) []).2.1).kids = (kids0 s root).set (i / p4n m) r.2.1 := by
            rw [node_less g1 (by omega) (by omega) (by omega) hl4 hk1 g2 (fun k hk => root_I64 g1 (hall k hk)) he]
            have hn2 := hp.new.2
            rw [e]
            simp only
            split
            · rw [hn2]
            · rw [kids_addRef, hn2]
          rw [kidF_ne _ _ _ (by rw [e]; simp only; omega), hkk]
        simp only
        rw [hkn]
        rw [leaf_keeps g1 q3 m _ _ (by omega) ?_ (Nat.mod_lt _ hpp)]
        · exact hleaf
        · rw [List.getElem?_eq_getElem (by rw [hl4]; exact hj4)]
          exact hall _ (List.getElem_mem _)
end Go.Proofs.Ytgeacpfenhaioaa
