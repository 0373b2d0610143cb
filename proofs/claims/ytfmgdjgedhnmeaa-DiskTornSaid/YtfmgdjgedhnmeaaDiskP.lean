/- A disk, in plain words. No program in sight. -/
import Derived.Test.YtfmgdjgedhnmeaaImageP
namespace Go.Proofs.Ytfmgdjgedhnmeaa
open Go.RowKit
set_option linter.unusedVariables false
set_option linter.unusedSimpArgs false

/-- a disk: its slots' bytes -/
structure DiskV where
  a : List Int
  b : List Int
def sumS (z : Int × Int) (c : Int) : Int × Int := ((z.1 + c) % 65521, (z.2 + (z.1 + c) % 65521) % 65521)
def sumD (b : List Int) : Int := let z := b.foldl sumS (1, 0); ((z.1.toNat ^^^ z.2.toNat : Nat) : Int)
theorem sumS_low {z : Int × Int} {c : Int} : 0 ≤ (sumS z c).1 ∧ (sumS z c).1 < 65521 ∧ 0 ≤ (sumS z c).2 ∧ (sumS z c).2 < 65521 := by
  refine ⟨Int.emod_nonneg _ (by decide), Int.emod_lt_of_pos _ (by decide), Int.emod_nonneg _ (by decide), Int.emod_lt_of_pos _ (by decide)⟩
def headD (n : Int) (l : Nat) : List Int := [n / 16777216 % 256, n / 65536 % 256, n / 256 % 256, n % 256, (l : Int) / 65536 % 256, (l : Int) / 256 % 256, (l : Int) % 256]
/-- a slot -/
def slotD (n : Int) (b : List Int) : List Int := headD n b.length ++ nb (sumD (headD n b.length ++ b)) ++ b
def numD (b : List Int) : Int := b.foldl (fun n c => n * 256 + c) 0
/-- a slot is read -/
def openD (b : List Int) : Option (Int × PoolV) :=
  if b.length < 9 then none else
  let n := numD (b.take 4)
  let l := (numD ((b.drop 4).take 3)).toNat
  if b.length - 9 < l then none else
  let x := (b.drop 9).take l
  if slotD n x ≠ b.take (9 + l) then none else
  if (readI x).2 = 0 then some (n, (readI x).1) else none
theorem headD_len (n : Int) (l : Nat) : (headD n l).length = 7 := rfl
theorem slotD_len (n : Int) (b : List Int) : (slotD n b).length = 9 + b.length := by
  simp only [slotD, List.length_append, headD_len, nb_len]
theorem headD_num {n : Int} (h0 : 0 ≤ n) (h1 : n < 2147483648) (l : Nat) : numD ((headD n l).take 4) = n := by
  simp only [headD, List.take_succ_cons, List.take_zero, numD, List.foldl_cons, List.foldl_nil]
  omega
theorem headD_long (n : Int) {l : Nat} (h : l < 16777216) : (numD (((headD n l).drop 4).take 3)).toNat = l := by
  simp only [headD, List.drop_succ_cons, List.drop_zero, List.take_succ_cons, List.take_zero, numD, List.foldl_cons, List.foldl_nil]
  omega
theorem slotD_take4 (n : Int) (b r : List Int) : (slotD n b ++ r).take 4 = (headD n b.length).take 4 := by simp [slotD, headD]
theorem slotD_take7 (n : Int) (b r : List Int) : ((slotD n b ++ r).drop 4).take 3 = ((headD n b.length).drop 4).take 3 := by simp [slotD, headD]
theorem slotD_drop (n : Int) (b : List Int) : (slotD n b).drop 9 = b := by simp [slotD, headD, nb]
/-- what was laid is read -/
theorem open_slot {n : Int} {p : PoolV} (h0 : 0 ≤ n) (h1 : n < 2147483648) (hw : WfS p.s) (hp : poolE p = 0) : openD (slotD n (imageL p)) = some (n, p) := by
  have hl : (imageL p).length < 16777216 := by have := (poolE_ok hp).small; omega
  have e4 := slotD_take4 n (imageL p) []
  have e7 := slotD_take7 n (imageL p) []
  rw [List.append_nil] at e4 e7
  unfold openD
  simp only [e4, e7, headD_num h0 h1, headD_long n hl, slotD_drop, slotD_len, List.take_length]
  rw [if_neg (by omega), if_neg (by omega), if_neg, write_back hw hp]
  · simp
  · rw [show 9 + (imageL p).length = (slotD n (imageL p)).length from (slotD_len _ _).symm, List.take_length]
    simp
/-- a beginning of a slot is none -/
theorem open_torn {n : Int} {b : List Int} (hl : b.length < 16777216) (k : Nat) (hk : k < 9 + b.length) : openD ((slotD n b).take k) = none := by
  unfold openD
  by_cases h9 : k < 9
  · rw [if_pos (by rw [List.length_take]; omega)]
  · have e7 : ((((slotD n b).take k).drop 4).take 3) = ((headD n b.length).drop 4).take 3 := by
      rw [List.drop_take, List.take_take, Nat.min_eq_left (by omega)]
      have := slotD_take7 n b []
      rw [List.append_nil] at this
      exact this
    rw [if_neg (by rw [List.length_take, slotD_len]; omega)]
    simp only [e7, headD_long n hl]
    rw [if_pos (by rw [List.length_take, slotD_len]; omega)]
/-- what a slot's number is worth: -1: none -/
def slotN (b : List Int) : Int := match openD b with | none => -1 | some z => z.1
/-- the newest slot is B -/
def lastB (d : DiskV) : Bool := decide (slotN d.a < slotN d.b)
def newD (d : DiskV) : Option (Int × PoolV) := if lastB d then openD d.b else openD d.a
theorem numD_four {l : List Int} (h : ∀ x ∈ l, 0 ≤ x) : 0 ≤ numD l := by
  have : ∀ (l : List Int) (n : Int), 0 ≤ n → (∀ x ∈ l, 0 ≤ x) → 0 ≤ l.foldl (fun n c => n * 256 + c) n := by
    intro l
    induction l with
    | nil => intro n hn _; exact hn
    | cons c l ih =>
      intro n hn h
      rw [List.foldl_cons]
      exact ih _ (by have := h c (by simp); omega) fun x hx => h x (by simp [hx])
  exact this l 0 (by decide) h
theorem open_num {b : List Int} (hb : Byt b) {z : Int × PoolV} (h : openD b = some z) : 0 ≤ z.1 ∧ poolE z.2 = 0 := by
  unfold openD at h
  split at h
  · cases h
  · simp only at h
    split at h
    · cases h
    · split at h
      · cases h
      · split at h
        · rename_i hr
          simp only [Option.some.injEq] at h
          subst h
          refine ⟨numD_four fun x hx => (hb x (List.mem_of_mem_take hx)).1, ?_⟩
          exact (read_of (p := (readI _).1) (by rw [← hr])).1
        · cases h
def diskE (d : DiskV) : Int := if 20009 < d.a.length ∨ 20009 < d.b.length then 2 else 0
def recoverD (d : DiskV) : PoolV × Int × Int := if diskE d ≠ 0 then (noPool, 0, 2) else match newD d with | none => (noPool, 0, 9) | some z => (z.2, z.1, 0)
/-- the next slot, which one, an error -/
def nextD (d : DiskV) (p : PoolV) : List Int × Bool × Int :=
  if diskE d ≠ 0 then ([], false, 2) else if poolE p ≠ 0 then ([], false, poolE p) else
  match newD d with
  | none => (slotD 1 (imageL p), false, 0)
  | some z => if 2147483647 ≤ z.1 then ([], false, 8) else (slotD (z.1 + 1) (imageL p), !lastB d, 0)
def withD (d : DiskV) (b : Bool) (s : List Int) : DiskV := if b then ⟨d.a, s⟩ else ⟨s, d.b⟩
def commitD (d : DiskV) (p : PoolV) : DiskV × Int := if (nextD d p).2.2 ≠ 0 then (⟨[], []⟩, (nextD d p).2.2) else (withD d (nextD d p).2.1 (nextD d p).1, 0)
def tornD (d : DiskV) (p : PoolV) (n : Int) : DiskV × Int := if (nextD d p).2.2 ≠ 0 then (⟨[], []⟩, (nextD d p).2.2) else if n < 0 ∨ (nextD d p).1.length < n then (⟨[], []⟩, 3) else (withD d (nextD d p).2.1 ((nextD d p).1.take n.toNat), 0)
theorem slotN_some {b : List Int} {z : Int × PoolV} (h : openD b = some z) : slotN b = z.1 := by unfold slotN; rw [h]
theorem slotN_none {b : List Int} (h : openD b = none) : slotN b = -1 := by unfold slotN; rw [h]
theorem slotN_low {b : List Int} (hb : Byt b) : -1 ≤ slotN b := by
  cases h : openD b with
  | none => rw [slotN_none h]; decide
  | some z => rw [slotN_some h]; have := (open_num hb h).1; omega
/-- the newest's number is the greatest -/
theorem newD_num (d : DiskV) (ha : Byt d.a) (hb : Byt d.b) : slotN d.a ≤ (match newD d with | none => -1 | some z => z.1) ∧ slotN d.b ≤ (match newD d with | none => -1 | some z => z.1) := by
  unfold newD
  by_cases h : slotN d.a < slotN d.b
  · have hl : lastB d = true := by simp [lastB, h]
    rw [hl, if_pos rfl]
    exact ⟨Int.le_of_lt h, Int.le_refl _⟩
  · have hl : lastB d = false := by simp [lastB, h]
    rw [hl]
    exact ⟨Int.le_refl _, (show slotN d.b ≤ slotN d.a by omega)⟩
def nextN (d : DiskV) : Int := match newD d with | none => 1 | some z => z.1 + 1
def nextB (d : DiskV) : Bool := match newD d with | none => false | some _ => !lastB d
/-- what a commit leaves -/
theorem commit_is {d d' : DiskV} {p : PoolV} (h : commitD d p = (d', 0)) : diskE d = 0 ∧ poolE p = 0 ∧ nextN d ≤ 2147483647 ∧ d' = withD d (nextB d) (slotD (nextN d) (imageL p)) := by
  unfold commitD at h
  split at h
  · rename_i hn
    simp only [Prod.mk.injEq] at h
    exact absurd h.2 hn
  · rename_i hn
    simp only [Prod.mk.injEq, and_true] at h
    unfold nextD at hn h
    unfold nextN nextB
    by_cases h1 : diskE d = 0
    · by_cases h2 : poolE p = 0
      · simp only [h1, h2, ne_eq, not_true_eq_false, if_false] at hn h
        cases h3 : newD d with
        | none =>
          simp only [h3] at hn h
          exact ⟨h1, h2, by decide, h.symm⟩
        | some z =>
          simp only [h3] at hn h
          by_cases h4 : 2147483647 ≤ z.1
          · simp [h4] at hn
          · simp only [h4, if_false] at hn h
            exact ⟨h1, h2, by simp only; omega, h.symm⟩
      · simp [h1, h2] at hn
    · simp [h1] at hn
theorem next_above (d : DiskV) (ha : Byt d.a) (hb : Byt d.b) : slotN d.a < nextN d ∧ slotN d.b < nextN d ∧ 1 ≤ nextN d := by
  have h := newD_num d ha hb
  have h2 := slotN_low ha
  unfold nextN
  cases h3 : newD d with
  | none =>
    rw [h3] at h
    simp only at h ⊢
    omega
  | some z =>
    rw [h3] at h
    simp only at h ⊢
    have h4 : 0 ≤ z.1 := by
      unfold newD at h3
      split at h3
      · exact (open_num hb h3).1
      · exact (open_num ha h3).1
    omega
theorem recover_commit {d d' : DiskV} {p : PoolV} (ha : Byt d.a) (hb : Byt d.b) (hw : WfS p.s) (h : commitD d p = (d', 0)) : recoverD d' = (p, nextN d, 0) := by
  obtain ⟨h1, h2, h3, rfl⟩ := commit_is h
  obtain ⟨n1, n2, n3⟩ := next_above d ha hb
  have ho := open_slot (n := nextN d) (p := p) (by omega) (by omega) hw h2
  have hl : (slotD (nextN d) (imageL p)).length ≤ 20009 := by rw [slotD_len]; have := (poolE_ok h2).small; omega
  have hd : ¬ (20009 < d.a.length ∨ 20009 < d.b.length) := fun e => by unfold diskE at h1; rw [if_pos e] at h1; cases h1
  have hn := slotN_some ho
  have hE : diskE (withD d (nextB d) (slotD (nextN d) (imageL p))) = 0 := by
    unfold diskE withD
    cases nextB d
    · simp only [Bool.false_eq_true, if_false]
      rw [if_neg (by omega)]
    · simp only [if_true]
      rw [if_neg (by omega)]
  have hN : newD (withD d (nextB d) (slotD (nextN d) (imageL p))) = some (nextN d, p) := by
    unfold newD lastB withD
    cases nextB d
    · simp only [Bool.false_eq_true, if_false]
      rw [hn]
      rw [decide_eq_false (by omega)]
      exact ho
    · simp only [if_true]
      rw [hn]
      rw [decide_eq_true n1]
      exact ho
  unfold recoverD
  rw [hE, hN]
  simp
theorem sum_low (b : List Int) : 0 ≤ sumD b ∧ sumD b < 65536 := by
  have h : ∀ (l : List Int) (z : Int × Int), 0 ≤ z.1 ∧ z.1 < 65521 ∧ 0 ≤ z.2 ∧ z.2 < 65521 → 0 ≤ (l.foldl sumS z).1 ∧ (l.foldl sumS z).1 < 65521 ∧ 0 ≤ (l.foldl sumS z).2 ∧ (l.foldl sumS z).2 < 65521 := by
    intro l
    induction l with
    | nil => intro z hz; exact hz
    | cons c l ih => intro z _; rw [List.foldl_cons]; exact ih _ sumS_low
  have h1 := h b (1, 0) ⟨by decide, by decide, by decide, by decide⟩
  unfold sumD
  simp only
  have h2 := Nat.xor_lt_two_pow (n := 16) (x := ((b.foldl sumS (1, 0)).1.toNat)) (y := ((b.foldl sumS (1, 0)).2.toNat)) (by omega) (by omega)
  omega
def noD : DiskV := ⟨[], []⟩
theorem open_nil : openD [] = none := by unfold openD; rw [if_pos (by decide)]
theorem commit_ok {d : DiskV} {p : PoolV} (h1 : diskE d = 0) (h2 : poolE p = 0) (h3 : nextN d ≤ 2147483647) : nextD d p = (slotD (nextN d) (imageL p), nextB d, 0) := by
  unfold nextD
  rw [if_neg (by rw [h1]; decide), if_neg (by rw [h2]; decide)]
  unfold nextN at h3
  unfold nextN nextB
  cases h : newD d with
  | none => rfl
  | some z =>
    rw [h] at h3
    simp only at h3 ⊢
    rw [if_neg (by omega)]
theorem slot_byt {n : Int} {b : List Int} (hb : Byt b) : Byt (slotD n b) := by
  have hs := sum_low (headD n b.length ++ b)
  intro x hx
  unfold slotD at hx
  rw [List.mem_append, List.mem_append] at hx
  rcases hx with (hx | hx) | hx
  · simp only [headD, List.mem_cons, List.not_mem_nil, or_false] at hx
    omega
  · simp only [nb, List.mem_cons, List.not_mem_nil, or_false] at hx
    omega
  · exact hb x hx
theorem with_byt {d : DiskV} {b : Bool} {s : List Int} (ha : Byt d.a) (hb : Byt d.b) (hs : Byt s) : Byt (withD d b s).a ∧ Byt (withD d b s).b := by
  unfold withD
  cases b
  · exact ⟨hs, hb⟩
  · exact ⟨ha, hs⟩
theorem commit_byt {d d' : DiskV} {p : PoolV} (ha : Byt d.a) (hb : Byt d.b) (hp : Byt (imageL p)) (h : commitD d p = (d', 0)) : Byt d'.a ∧ Byt d'.b := by
  obtain ⟨-, -, -, rfl⟩ := commit_is h
  exact with_byt ha hb (slot_byt hp)
theorem torn_err {d : DiskV} {p : PoolV} (h : (nextD d p).2.2 = 0) (n : Int) : (tornD d p n).2 = 3 ∨ 0 ≤ n ∧ n ≤ (nextD d p).1.length ∧ tornD d p n = (withD d (nextD d p).2.1 ((nextD d p).1.take n.toNat), 0) := by
  unfold tornD
  rw [if_neg (by rw [h]; decide)]
  by_cases hn : n < 0 ∨ ((nextD d p).1.length : Int) < n
  · rw [if_pos hn]; exact .inl rfl
  · rw [if_neg hn]; exact .inr ⟨by omega, by omega, rfl⟩
theorem commit_next {d d' : DiskV} {p : PoolV} (h : commitD d p = (d', 0)) : nextD d p = (slotD (nextN d) (imageL p), nextB d, 0) := by
  obtain ⟨h1, h2, h3, -⟩ := commit_is h
  exact commit_ok h1 h2 h3
theorem commit_mk {d : DiskV} {p : PoolV} (h1 : diskE d = 0) (h2 : poolE p = 0) (h3 : nextN d ≤ 2147483647) : commitD d p = (withD d (nextB d) (slotD (nextN d) (imageL p)), 0) := by
  unfold commitD
  rw [commit_ok h1 h2 h3]
  rfl
theorem commit_short {d d' : DiskV} {p : PoolV} (h : commitD d p = (d', 0)) : diskE d' = 0 := by
  obtain ⟨h1, h2, h3, rfl⟩ := commit_is h
  have hl : (slotD (nextN d) (imageL p)).length ≤ 20009 := by rw [slotD_len]; have := (poolE_ok h2).small; omega
  have hd : ¬ (20009 < d.a.length ∨ 20009 < d.b.length) := fun e => by unfold diskE at h1; rw [if_pos e] at h1; cases h1
  unfold diskE withD
  cases nextB d
  · simp only [Bool.false_eq_true, if_false]
    rw [if_neg (by omega)]
  · simp only [if_true]
    rw [if_neg (by omega)]
/-- the slot that was written last is the newest -/
theorem commit_last {d d' : DiskV} {p : PoolV} (ha : Byt d.a) (hb : Byt d.b) (hw : WfS p.s) (h : commitD d p = (d', 0)) : lastB d' = nextB d ∧ newD d' = some (nextN d, p) := by
  obtain ⟨h1, h2, h3, rfl⟩ := commit_is h
  obtain ⟨n1, n2, n3⟩ := next_above d ha hb
  have ho := open_slot (n := nextN d) (p := p) (by omega) (by omega) hw h2
  have hn := slotN_some ho
  unfold newD lastB withD
  cases nextB d
  · simp only [Bool.false_eq_true, if_false]
    rw [hn]
    rw [decide_eq_false (by omega)]
    exact ⟨rfl, ho⟩
  · simp only [if_true]
    rw [hn]
    rw [decide_eq_true n1]
    exact ⟨rfl, ho⟩
theorem next_of_new {d : DiskV} {z : Int × PoolV} (h : newD d = some z) : nextN d = z.1 + 1 ∧ nextB d = !lastB d := by
  unfold nextN nextB
  rw [h]
  exact ⟨rfl, rfl⟩
theorem noD_new : newD noD = none := by
  have h : lastB noD = false := by
    unfold lastB noD
    rw [decide_eq_false (by simp)]
  unfold newD
  rw [h]
  exact open_nil
theorem noD_next : nextN noD = 1 ∧ nextB noD = false := by
  unfold nextN nextB
  rw [noD_new]
  exact ⟨rfl, rfl⟩
/-- two commits -/
theorem two_commits {p q : PoolV} {d1 d2 : DiskV} (hwp : WfS p.s) (hwq : WfS q.s) (hbp : Byt (imageL p)) (hbq : Byt (imageL q)) (h1 : commitD noD p = (d1, 0)) (h2 : commitD d1 q = (d2, 0)) :
    d1 = ⟨slotD 1 (imageL p), []⟩ ∧ d2 = ⟨slotD 1 (imageL p), slotD 2 (imageL q)⟩ ∧ lastB d2 = true ∧ newD d2 = some (2, q) ∧ recoverD d2 = (q, 2, 0) := by
  have hn : Byt noD.a := fun x hx => by cases hx
  have c1 := commit_is h1
  have l1 := commit_last hn hn hwp h1
  have b1 := commit_byt hn hn hbp h1
  have c2 := commit_is h2
  have l2 := commit_last b1.1 b1.2 hwq h2
  have r2 := recover_commit b1.1 b1.2 hwq h2
  have m1 := next_of_new l1.2
  rw [noD_next.1, noD_next.2] at c1
  rw [noD_next.2] at l1
  rw [noD_next.1] at m1
  rw [l1.1] at m1
  rw [m1.1, m1.2] at c2
  rw [m1.1, m1.2] at l2
  rw [m1.1] at r2
  have e1 : d1 = ⟨slotD 1 (imageL p), []⟩ := c1.2.2.2
  refine ⟨e1, ?_, l2.1, l2.2, r2⟩
  rw [c2.2.2.2, e1]
  rfl
theorem diskE_low {d : DiskV} (ha : d.a.length ≤ 20009) (hb : d.b.length ≤ 20009) : diskE d = 0 := by
  unfold diskE
  rw [if_neg (by omega)]
theorem slot_small {n : Int} {p : PoolV} (h : poolE p = 0) : (slotD n (imageL p)).length ≤ 20009 := by
  rw [slotD_len]
  have := (poolE_ok h).small
  omega
/-- DiskTorn in plain words -/
theorem torn_law {p q r : PoolV} {d1 d2 d3 t : DiskV} {n : Int} (hwp : WfS p.s) (hwq : WfS q.s) (hwr : WfS r.s) (hbp : Byt (imageL p)) (hbq : Byt (imageL q)) (hbr : Byt (imageL r))
    (h1 : commitD noD p = (d1, 0)) (h2 : commitD d1 q = (d2, 0)) (h3 : commitD d2 r = (d3, 0)) (h4 : tornD d2 r n = (t, 0)) :
    ∃ y k t', recoverD t = (y, k, 0) ∧ (k = 2 ∧ y = q ∨ k = 3 ∧ y = r) ∧ commitD t p = (t', 0) ∧ recoverD t' = (p, k + 1, 0) ∧ Byt t.a ∧ Byt t.b ∧ Byt t'.a ∧ Byt t'.b := by
  obtain ⟨e1, e2, l2, n2, r2⟩ := two_commits hwp hwq hbp hbq h1 h2
  have m2 := next_of_new n2
  rw [l2] at m2
  have hp0 := (commit_is h1).2.1
  have hq0 := (commit_is h2).2.1
  have hr0 := (commit_is h3).2.1
  have nx := commit_next h3
  rw [m2.1, m2.2] at nx
  have hne : (nextD d2 r).2.2 = 0 := by rw [nx]
  rcases torn_err hne n with h | ⟨hn0, hn1, h⟩
  · rw [h4] at h; cases h
  · rw [h4] at h
    simp only [Prod.mk.injEq, and_true] at h
    rw [nx] at h hn1
    simp only at h hn1
    have et : t = ⟨(slotD 3 (imageL r)).take n.toNat, slotD 2 (imageL q)⟩ := by rw [h, e2]; rfl
    have hta : Byt t.a := by rw [et]; exact (slot_byt hbr).take _
    have htb : Byt t.b := by rw [et]; exact slot_byt hbq
    have htE : diskE t = 0 := by
      rw [et]
      refine diskE_low ?_ (slot_small hq0)
      rw [List.length_take]
      have := slot_small (n := 3) hr0
      exact Nat.le_trans (Nat.min_le_right _ _) this
    have ob := open_slot (n := 2) (p := q) (by decide) (by decide) hwq hq0
    have hnew : (newD t = some (2, q)) ∨ (newD t = some (3, r)) := by
      by_cases hk : n.toNat < 9 + (imageL r).length
      · left
        have ho := open_torn (n := 3) (b := imageL r) (by have := (poolE_ok hr0).small; omega) n.toNat hk
        unfold newD lastB
        rw [et]
        simp only
        rw [slotN_none ho, slotN_some ob]
        rw [decide_eq_true (show (-1 : Int) < 2 by decide)]
        exact ob
      · right
        have hk2 : (slotD 3 (imageL r)).take n.toNat = slotD 3 (imageL r) := List.take_of_length_le (by rw [slotD_len]; omega)
        have oa := open_slot (n := 3) (p := r) (by decide) (by decide) hwr hr0
        unfold newD lastB
        rw [et]
        simp only
        rw [hk2, slotN_some oa, slotN_some ob]
        rw [decide_eq_false (show ¬ (3 : Int) < 2 by decide)]
        exact oa
    have fin : ∀ k y, newD t = some (k, y) → k ≤ 3 → recoverD t = (y, k, 0) ∧ ∃ t', commitD t p = (t', 0) ∧ recoverD t' = (p, k + 1, 0) ∧ Byt t'.a ∧ Byt t'.b := by
      intro k y hky hk3
      have m := next_of_new hky
      have hc := commit_mk (d := t) (p := p) htE hp0 (by rw [m.1]; simp only; omega)
      refine ⟨?_, _, hc, ?_, ?_⟩
      · unfold recoverD
        rw [htE, hky]
        simp
      · have hr := recover_commit hta htb hwp hc
        rw [hr, m.1]
      · exact commit_byt hta htb hbp hc
    rcases hnew with hN | hN
    · obtain ⟨f1, t', f2, f3, f4⟩ := fin 2 q hN (by decide)
      exact ⟨q, 2, t', f1, .inl ⟨rfl, rfl⟩, f2, f3, hta, htb, f4⟩
    · obtain ⟨f1, t', f2, f3, f4⟩ := fin 3 r hN (by decide)
      exact ⟨r, 3, t', f1, .inr ⟨rfl, rfl⟩, f2, f3, hta, htb, f4⟩
/-- DiskTwice in plain words: the slots take turns -/
theorem twice_law {d a b : DiskV} {p q : PoolV} (ha : Byt d.a) (hb : Byt d.b) (hwp : WfS p.s) (hwq : WfS q.s) (hbp : Byt (imageL p)) (h1 : commitD d p = (a, 0)) (h2 : commitD a q = (b, 0)) :
    recoverD b = (q, nextN d + 1, 0) ∧ (a.a = d.a ∨ a.b = d.b) ∧ (a.b ≠ d.b → b.b = a.b) ∧ (a.a ≠ d.a → b.a = a.a) := by
  have b1 := commit_byt ha hb hbp h1
  have l1 := commit_last ha hb hwp h1
  have m1 := next_of_new l1.2
  have r2 := recover_commit b1.1 b1.2 hwq h2
  rw [m1.1] at r2
  have c1 := (commit_is h1).2.2.2
  have c2 := (commit_is h2).2.2.2
  rw [m1.2, l1.1] at c2
  refine ⟨r2, ?_⟩
  cases hB : nextB d
  · rw [hB] at c1 c2
    have e1 : a.b = d.b := by rw [c1]; rfl
    have e2 : b.a = a.a := by rw [c2]; rfl
    exact ⟨.inr e1, fun h => absurd e1 h, fun _ => e2⟩
  · rw [hB] at c1 c2
    have e1 : a.a = d.a := by rw [c1]; rfl
    have e2 : b.b = a.b := by rw [c2]; rfl
    exact ⟨.inl e1, fun _ => e2, fun h => absurd e1 h⟩
/-- the number that Recover tells ahead of a commit -/
theorem recover_num {d a : DiskV} {p : PoolV} (h1 : commitD d p = (a, 0)) : ((recoverD d).2.2 = 0 → nextN d = (recoverD d).2.1 + 1) ∧ ((recoverD d).2.2 ≠ 0 → nextN d = 1) := by
  have hE := (commit_is h1).1
  unfold recoverD nextN
  rw [if_neg (by rw [hE]; decide)]
  cases h : newD d with
  | none => exact ⟨fun h => absurd (show (9 : Int) = 0 from h) (by decide), fun _ => rfl⟩
  | some z => exact ⟨fun _ => rfl, fun h => absurd rfl h⟩
end Go.Proofs.Ytfmgdjgedhnmeaa
