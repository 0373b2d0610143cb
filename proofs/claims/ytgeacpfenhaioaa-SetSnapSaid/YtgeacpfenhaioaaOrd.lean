/- The order of names; right entries are rising. No program in sight. -/
import Derived.Test.YtgeacpfenhaioaaSetCheck
namespace Go.Proofs.Ytgeacpfenhaioaa
open Go.RowKit
set_option linter.unusedVariables false

theorem bl_eq : ∀ (x y : List UInt8), Op.bytesLess x y = decide (x < y)
  | [], [] => by simp [Op.bytesLess]
  | _ :: _, [] => by simp [Op.bytesLess]
  | [], _ :: _ => by simp [Op.bytesLess]
  | a :: x, b :: y => by
    rw [Op.bytesLess, bl_eq x y]
    simp only [List.cons_lt_cons_iff]
    by_cases h1 : a < b <;> by_cases h2 : a = b <;> by_cases h3 : x < y <;> simp [h1, h2, h3]

/-- a name is ahead of another -/
def ltN (a b : ByteArray) : Prop := Op.bytesLess a.toList b.toList = true
theorem ltN_lt {a b : ByteArray} : ltN a b ↔ a.toList < b.toList := by unfold ltN; rw [bl_eq, decide_eq_true_eq]
theorem ltN_irrefl (a : ByteArray) : ¬ ltN a a := by rw [ltN_lt]; exact List.lt_irrefl _
theorem ltN_trans {a b c : ByteArray} (h : ltN a b) (k : ltN b c) : ltN a c := by rw [ltN_lt] at *; exact List.lt_trans h k
theorem toList_inj {a b : ByteArray} (h : a.toList = b.toList) : a = b := by
  rw [ByteArray.toList_eq, ByteArray.toList_eq] at h
  cases a; cases b
  simp only [ByteArray.mk.injEq]
  exact Array.ext' h
theorem ltN_conn {a b : ByteArray} (h : ¬ ltN a b) (k : ¬ ltN b a) : a = b := by
  rw [ltN_lt] at *
  exact toList_inj (List.le_antisymm (List.not_lt.1 k) (List.not_lt.1 h))

def Rising (l : List ByteArray) : Prop := l.Pairwise ltN

theorem befB_none (nm : ByteArray) : befB none nm = false := rfl
theorem befB_some {q nm : ByteArray} (h : befB (some q) nm = false) : ltN q nm := by
  unfold befB at h
  simp only [Bool.not_eq_eq_eq_not, Bool.not_false] at h
  exact h

theorem entL_ok {s : List Blk} {key : Int} : ∀ (l : List Ent) (p : Option ByteArray), entL s key p l = 0 → (∀ x ∈ l, nameB x.nm = true ∧ fileE s key x.root x.size = 0) ∧ Rising (l.map Ent.nm) ∧ ∀ q, p = some q → ∀ x ∈ l, ltN q x.nm
  | [], p, _ => ⟨by simp, .nil, by simp⟩
  | x :: l, p, h => by
    unfold entL at h
    split at h
    · omega
    · rename_i h1
      split at h
      · omega
      · rename_i h2
        split at h
        · rename_i h3; exact absurd h h3
        · rename_i h3
          obtain ⟨a1, a2, a3⟩ := entL_ok l _ h
          have hx := a3 _ rfl
          refine ⟨?_, ?_, ?_⟩
          · intro y hy
            rcases List.mem_cons.1 hy with rfl | hy
            · exact ⟨by simpa using h1, by simpa using h3⟩
            · exact a1 y hy
          · refine List.Pairwise.cons ?_ a2
            intro z hz
            obtain ⟨y, hy, rfl⟩ := List.mem_map.1 hz
            exact hx y hy
          · rintro q rfl y hy
            have hq : ltN q x.nm := befB_some (by simpa using h2)
            rcases List.mem_cons.1 hy with rfl | hy
            · exact hq
            · exact ltN_trans hq (hx y hy)

/-- right entries -/
structure EntsOk (s : List Blk) (key : Int) (l : List Ent) : Prop where
  len : l.length ≤ 6
  each : ∀ x ∈ l, nameB x.nm = true ∧ fileE s key x.root x.size = 0
  rise : Rising (l.map Ent.nm)
theorem entE_ok {s : List Blk} {key : Int} {l : List Ent} (h : entE s key l = 0) : EntsOk s key l := by
  unfold entE at h
  split at h
  · omega
  · obtain ⟨a, b, _⟩ := entL_ok l none h
    exact ⟨by omega, a, b⟩
theorem entL_mk {s : List Blk} {key : Int} : ∀ (l : List Ent) (p : Option ByteArray), (∀ x ∈ l, nameB x.nm = true ∧ fileE s key x.root x.size = 0) → Rising (l.map Ent.nm) → (∀ q, p = some q → ∀ x ∈ l, ltN q x.nm) → entL s key p l = 0
  | [], p, _, _, _ => rfl
  | x :: l, p, h1, h2, h3 => by
    unfold entL
    have hx := h1 x (by simp)
    rw [if_neg (by rw [hx.1]; simp), if_neg, if_neg (by rw [hx.2]; simp)]
    · rw [List.map_cons] at h2
      obtain ⟨h4, h5⟩ := List.pairwise_cons.1 h2
      exact entL_mk l _ (fun y hy => h1 y (by simp [hy])) h5 (fun q hq y hy => by cases hq; exact h4 _ (List.mem_map.2 ⟨y, hy, rfl⟩))
    · cases p with
      | none => simp [befB]
      | some q =>
        have := h3 q rfl x (by simp)
        unfold ltN at this
        simp [befB, this]
theorem EntsOk.zero {s : List Blk} {key : Int} {l : List Ent} (h : EntsOk s key l) : entE s key l = 0 := by
  unfold entE
  rw [if_neg (by have := h.len; omega)]
  exact entL_mk l none h.each h.rise (fun q hq => by cases hq)

theorem snpL_ok {s : List Blk} {key : Int} : ∀ (l : List Snp) (p : Option ByteArray), snpL s key p l = 0 → (∀ y ∈ l, nameB y.nm = true ∧ EntsOk s key y.files) ∧ Rising (l.map Snp.nm) ∧ ∀ q, p = some q → ∀ y ∈ l, ltN q y.nm
  | [], p, _ => ⟨by simp, .nil, by simp⟩
  | x :: l, p, h => by
    unfold snpL at h
    split at h
    · omega
    · rename_i h1
      split at h
      · omega
      · rename_i h2
        split at h
        · rename_i h3; exact absurd h h3
        · rename_i h3
          obtain ⟨a1, a2, a3⟩ := snpL_ok l _ h
          have hx := a3 _ rfl
          refine ⟨?_, ?_, ?_⟩
          · intro y hy
            rcases List.mem_cons.1 hy with rfl | hy
            · exact ⟨by simpa using h1, entE_ok (by simpa using h3)⟩
            · exact a1 y hy
          · refine List.Pairwise.cons ?_ a2
            intro z hz
            obtain ⟨y, hy, rfl⟩ := List.mem_map.1 hz
            exact hx y hy
          · rintro q rfl y hy
            have hq : ltN q x.nm := befB_some (by simpa using h2)
            rcases List.mem_cons.1 hy with rfl | hy
            · exact hq
            · exact ltN_trans hq (hx y hy)
theorem snpL_mk {s : List Blk} {key : Int} : ∀ (l : List Snp) (p : Option ByteArray), (∀ y ∈ l, nameB y.nm = true ∧ EntsOk s key y.files) → Rising (l.map Snp.nm) → (∀ q, p = some q → ∀ y ∈ l, ltN q y.nm) → snpL s key p l = 0
  | [], p, _, _, _ => rfl
  | x :: l, p, h1, h2, h3 => by
    unfold snpL
    have hx := h1 x (by simp)
    rw [if_neg (by rw [hx.1]; simp), if_neg, if_neg (by rw [hx.2.zero]; simp)]
    · rw [List.map_cons] at h2
      obtain ⟨h4, h5⟩ := List.pairwise_cons.1 h2
      exact snpL_mk l _ (fun y hy => h1 y (by simp [hy])) h5 (fun q hq y hy => by cases hq; exact h4 _ (List.mem_map.2 ⟨y, hy, rfl⟩))
    · cases p with
      | none => simp [befB]
      | some q =>
        have := h3 q rfl x (by simp)
        unfold ltN at this
        simp [befB, this]

/-- a right set -/
structure RightX (s : List Blk) (key : Int) (x : SetV) : Prop where
  kok : keyE key 0 = 0
  chk : checkE s = 0
  nm : nameB x.nm = true
  files : EntsOk s key x.files
  slen : x.snaps.length ≤ 3
  snaps : ∀ y ∈ x.snaps, nameB y.nm = true ∧ EntsOk s key y.files
  rise : Rising (x.snaps.map Snp.nm)
theorem setE_ok {s : List Blk} {key : Int} {x : SetV} (h : setE s key x = 0) : RightX s key x := by
  unfold setE at h
  split at h
  · rename_i h1; exact absurd h h1
  · rename_i h1
    split at h
    · rename_i h2; exact absurd h h2
    · rename_i h2
      split at h
      · omega
      · rename_i h3
        split at h
        · rename_i h4; exact absurd h h4
        · rename_i h4
          split at h
          · omega
          · rename_i h5
            obtain ⟨a, b, _⟩ := snpL_ok _ none h
            exact ⟨by simpa using h1, by simpa using h2, by simpa using h3, entE_ok (by simpa using h4), by omega, a, b⟩
theorem RightX.zero {s : List Blk} {key : Int} {x : SetV} (h : RightX s key x) : setE s key x = 0 := by
  unfold setE
  rw [if_neg (fun k => k h.kok), if_neg (fun k => k h.chk), if_neg (by rw [h.nm]; simp), if_neg (fun k => k h.files.zero), if_neg (by have := h.slen; omega)]
  exact snpL_mk _ none h.snaps h.rise (fun q hq => by cases hq)

/-- the place of a name -/
def placeN (l : List ByteArray) (nm : ByteArray) : Nat := (l.takeWhile fun x => Op.bytesLess x.toList nm.toList).length
def placeB (l : List ByteArray) (nm : ByteArray) : Bool := match l[placeN l nm]? with | some y => y.toList == nm.toList | none => false
theorem placeN_le (l : List ByteArray) (nm : ByteArray) : placeN l nm ≤ l.length := by unfold placeN; exact List.Sublist.length_le (List.takeWhile_sublist _)
theorem placeN_lt {l : List ByteArray} {nm : ByteArray} (i : Nat) (hi : i < l.length) (h : i < placeN l nm) : ltN l[i] nm := by
  induction l generalizing i with
  | nil => simp at hi
  | cons x l ih =>
    unfold placeN at h
    rw [List.takeWhile_cons] at h
    split at h
    · rename_i hx
      cases i with
      | zero => exact hx
      | succ i => exact ih i (by simpa using hi) (by simpa [placeN] using h)
    · simp at h
theorem placeN_ge {l : List ByteArray} {nm : ByteArray} (hr : Rising l) (i : Nat) (hi : i < l.length) (h : placeN l nm ≤ i) : ¬ ltN l[i] nm := by
  induction l generalizing i with
  | nil => simp at hi
  | cons x l ih =>
    obtain ⟨h1, h2⟩ := List.pairwise_cons.1 hr
    unfold placeN at h
    rw [List.takeWhile_cons] at h
    split at h
    · rename_i hx
      cases i with
      | zero => simp at h
      | succ i => exact ih h2 i (by simpa using hi) (by simpa [placeN] using h)
    · rename_i hx
      cases i with
      | zero => exact hx
      | succ i =>
        intro hl
        have := h1 _ (List.getElem_mem (by simpa using hi : i < l.length))
        exact hx (ltN_trans this hl)
/-- a place between those ahead and those behind is the place -/
theorem placeN_is {l : List ByteArray} {nm : ByteArray} (hr : Rising l) (k : Nat) (hk : k ≤ l.length) (h1 : ∀ i (h : i < l.length), i < k → ltN l[i] nm) (h2 : ∀ i (h : i < l.length), k ≤ i → ¬ ltN l[i] nm) : placeN l nm = k := by
  rcases Nat.lt_trichotomy (placeN l nm) k with h | h | h
  · exact absurd (h1 (placeN l nm) (by omega) h) (placeN_ge hr _ (by omega) (Nat.le_refl _))
  · exact h
  · have hl := placeN_le l nm
    exact absurd (placeN_lt k (by omega) h) (h2 k (by omega) (Nat.le_refl _))
end Go.Proofs.Ytgeacpfenhaioaa
