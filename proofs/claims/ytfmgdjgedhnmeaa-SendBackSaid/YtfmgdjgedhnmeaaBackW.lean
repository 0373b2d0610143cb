/- SendBack in plain words, whole: what Apply makes of what Diff says. No program in sight. -/
import Derived.Test.YtfmgdjgedhnmeaaBackL
namespace Go.Proofs.Ytfmgdjgedhnmeaa
open Go.RowKit
set_option linter.unusedVariables false
set_option linter.unusedSimpArgs false

section
variable {s : List Blk} {key : Int} {a b : SetV} {p : List Blk × SetV}
/-- what has done well leaves all right -/
theorem Mid.keep (hA : Ahead s key a) (h : Mid s key a p) {q : AskV} (hk : q.kind = 3 ∨ q.kind = 4 ∨ q.kind = 5) (hb : Byt q.bytes) (he : (askS key p q).2 = 0) : Mid s key a (askS key p q).1 := by
  have hR := h.right hA
  have hS := h.hold
  have hwm := hS.hold.good.wf
  rw [h.ask hA] at he ⊢
  have e : (askR writeW p.1 key p.2 q).2.2 = 0 := by
    by_cases e : (askR writeW p.1 key p.2 q).2.2 = 0
    · exact e
    · rw [if_neg e] at he; exact absurd he e
  rw [if_pos e]
  unfold askR at e ⊢
  by_cases h34 : q.kind = 3 ∨ q.kind = 4
  · rw [if_pos h34] at e ⊢
    simp only at e ⊢
    obtain ⟨r1, r2⟩ := step_write hA.base hS (by omega) (by omega) (by omega) (by omega) hb (fun O root sz b _ _ hf hby hl he => few_four (turnR_good hf hwm hby hl he)) e
    exact ⟨h.nm, h.snaps, r1.trim⟩
  · have h5 : q.kind = 5 ∨ q.kind = 6 := by omega
    rw [if_neg h34, if_pos h5] at e ⊢
    simp only at e ⊢
    obtain ⟨r1, r2⟩ := step_move hA.base hS (by omega) (by omega) (by omega) (by omega) (a := q) e
    exact ⟨h.nm, h.snaps, r1⟩
theorem Mid.fine (hA : Ahead s key a) (h : Mid s key a p) : WfS p.1 ∧ WfX p.2 ∧ p.1.length = s.length ∧ SmallX p.2 :=
  ⟨h.hold.hold.good.wf, (h.right hA).wf, h.hold.hold.len.trans (by have := hA.base.len; omega), (h.right hA).small⟩
theorem chgs_silent : goneC a b ++ b.files.flatMap (eachC s key a) = [] ↔ Silent s a b := by
  simp only [List.append_eq_nil_iff, List.flatMap_eq_nil_iff]
  have hg : goneC a b = [] ↔ ∀ x ∈ a.files, placeB (b.files.map Ent.nm) x.nm = true := by
    unfold goneC
    rw [List.map_eq_nil_iff, List.filter_eq_nil_iff]
    simp
  have he : ∀ y, eachC s key a y = [] ↔ (placeB (a.files.map Ent.nm) y.nm = true ∧ (entAt a.files (placeN (a.files.map Ent.nm) y.nm)).size = y.size ∧ farD s (entAt a.files (placeN (a.files.map Ent.nm) y.nm)).root y.root y.size = []) := fun y => by
    unfold eachC
    rw [List.append_eq_nil_iff, bytesC_nil]
    cases hp : placeB (a.files.map Ent.nm) y.nm with
    | false => simp
    | true =>
      have ho : oldE a y.nm = ((entAt a.files (placeN (a.files.map Ent.nm) y.nm)).root, (entAt a.files (placeN (a.files.map Ent.nm) y.nm)).size) := by unfold oldE; rw [if_pos hp]
      rw [ho]
      simp
  rw [hg]
  constructor
  · rintro ⟨k1, k2⟩
    exact ⟨k1, fun y hy => (he y).1 (k2 y hy)⟩
  · rintro ⟨k1, k2⟩
    exact ⟨k1, fun y hy => (he y).2 (k2 y hy)⟩
/-- nothing differs from itself -/
theorem diff_self (hw : WfS s) (h : setE s key a = 0) : diffR s key a a = ([], 0) := by
  have hR := setE_ok h
  have e := (chgs_silent (s := s) (key := key)).2 ((silent_iff hw hR hR).2 ⟨rfl, fun k _ _ => ⟨rfl, rfl⟩⟩)
  unfold diffR
  rw [if_neg (fun k => k h), if_neg (fun k => k h), e]
  rfl
theorem diff_ok (h : (diffR s key a b).2 = 0) : setE s key a = 0 ∧ setE s key b = 0 ∧ (diffR s key a b).1 = goneC a b ++ b.files.flatMap (eachC s key a) ∧ (diffR s key a b).1.length ≤ 40 := by
  unfold diffR at h ⊢
  by_cases h1 : setE s key a = 0
  · rw [if_neg (fun k => k h1)] at h ⊢
    by_cases h2 : setE s key b = 0
    · rw [if_neg (fun k => k h2)] at h ⊢
      by_cases h3 : 40 < (goneC a b ++ b.files.flatMap (eachC s key a)).length
      · rw [if_pos h3] at h; simp at h
      · rw [if_neg h3]
        exact ⟨h1, h2, rfl, by simp only; omega⟩
    · rw [if_pos h2] at h; exact absurd h h2
  · rw [if_pos h1] at h; exact absurd h h1
theorem readR_fit (s : List Blk) (key root z p q : Int) : Byt (readR s key root z p q).1 ∧ (readR s key root z p q).1.length ≤ 512 := by
  unfold readR
  split
  · exact ⟨fun x hx => (by cases hx), by simp⟩
  · split
    · exact ⟨fun x hx => (by cases hx), by simp⟩
    · refine ⟨fun y hy => fileB_byt s key root z y (List.mem_of_mem_take (List.mem_of_mem_drop hy)), ?_⟩
      simp only [List.length_drop, List.length_take]
      omega
theorem diff_fit : ∀ c ∈ (diffR s key a b).1, Byt c.bytes ∧ c.bytes.length ≤ 140737488351232 := by
  have key0 : ∀ c ∈ goneC a b ++ b.files.flatMap (eachC s key a), Byt c.bytes ∧ c.bytes.length ≤ 140737488351232 := fun c hc => by
    rcases List.mem_append.1 hc with h | h
    · obtain ⟨x, -, rfl⟩ := List.mem_map.1 h
      exact ⟨fun x hx => (by cases hx), by simp⟩
    · obtain ⟨y, -, h⟩ := List.mem_flatMap.1 h
      unfold eachC at h
      rcases List.mem_append.1 h with h | h
      · split at h
        · obtain rfl := List.mem_singleton.1 h
          exact ⟨fun x hx => (by cases hx), by simp⟩
        · cases h
      · obtain ⟨q, -, rfl⟩ := List.mem_map.1 h
        obtain ⟨g1, g2⟩ := readR_fit s key y.root y.size (q.1 * 4) ((q.2 : Int) * 4)
        exact ⟨g1, Nat.le_trans g2 (by decide)⟩
  unfold diffR
  split
  · exact fun c hc => by cases hc
  · split
    · exact fun c hc => by cases hc
    · split
      · exact fun c hc => by cases hc
      · exact key0
/-- what Apply makes of what Diff says -/
theorem back_all (hw : WfS s) (hf : ∀ y ∈ s, y.refs ≤ 999000) (hd : (diffR s key a b).2 = 0) :
    ((applyR s key a (diffR s key a b).1).2.2 = 8 ∨ (applyR s key a (diffR s key a b).1).2.2 = 7) ∨ ((applyR s key a (diffR s key a b).1).2.2 = 0 ∧ RightX (applyR s key a (diffR s key a b).1).1 key (applyR s key a (diffR s key a b).1).2.1 ∧
      WfS (applyR s key a (diffR s key a b).1).1 ∧ (applyR s key a (diffR s key a b).1).2.1.files.length = b.files.length ∧
      ∀ k (h1 : k < (applyR s key a (diffR s key a b).1).2.1.files.length) (h2 : k < b.files.length), (applyR s key a (diffR s key a b).1).2.1.files[k].nm = b.files[k].nm ∧
        (applyR s key a (diffR s key a b).1).2.1.files[k].size = b.files[k].size ∧
        fileB (applyR s key a (diffR s key a b).1).1 key (applyR s key a (diffR s key a b).1).2.1.files[k].root b.files[k].size = fileB s key b.files[k].root b.files[k].size) := by
  obtain ⟨g1, g2, g3, g4⟩ := diff_ok hd
  rw [g3] at g4 ⊢
  have hRa := setE_ok g1
  have hRb := setE_ok g2
  unfold applyR
  rw [if_neg (fun k => k g1)]
  by_cases hh : heldE s a = 0
  · rw [if_neg (fun k => k hh), if_neg (by omega)]
    rcases back_law hw hf hRa hh hRb with e | ⟨e, r1, r2, r3, r4⟩
    · rw [if_pos (by rw [e]; decide)]
      exact .inl (.inl e)
    · rw [if_neg (by rw [e]; simp)]
      exact .inr ⟨rfl, r1, r2, r3, r4⟩
  · rw [if_pos hh]
    refine .inl (.inr ?_)
    unfold heldE at hh ⊢
    split
    · rename_i h; rw [if_pos h] at hh; exact absurd rfl hh
    · rfl
theorem few_of_crowd (h : crowdB s = false) : ∀ y ∈ s, y.refs ≤ 999000 := fun y hy => by
  unfold crowdB at h
  have h1 := List.any_eq_false.1 h y hy
  simp at h1
  exact h1
end
end Go.Proofs.Ytfmgdjgedhnmeaa
