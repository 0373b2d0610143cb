/- Names that rise: what is laid in and taken out again; a file that has another name, a snap that is made and goes. No program in sight. · What set.Do answers when it is right; there and back. No program in sight. · SetAround: a file that has another name, and then its own again, is as it was; a snap that is made and forgotten never was. -/
import Derived.Test.YtgeacpfenhaioaaDo
import Derived.Test.YtgeacpfenhaioaaGather
import Derived.Test.YtgeacpfenhaioaaFiled
import Derived.Test.YtgeacpfenhaioaaOpenX
import Derived.Deep.DeepCutAuto
namespace Go.Proofs.Ytgeacpfenhaioaa
open Go.RowKit
set_option linter.unusedVariables false

section
variable {α β : Type}
theorem insL_map (f : α → β) (l : List α) (k : Nat) (x : α) : (insL l k x).map f = insL (l.map f) k (f x) := by simp [insL, List.map_take, List.map_drop]
theorem erase_map (f : α → β) (l : List α) (k : Nat) : (l.eraseIdx k).map f = (l.map f).eraseIdx k := by simp [List.eraseIdx_eq_take_drop_succ, List.map_take, List.map_drop]
theorem insL_perm (l : List α) (k : Nat) (x : α) : (insL l k x).Perm (x :: l) := by
  have h := List.perm_middle (a := x) (l₁ := l.take k) (l₂ := l.drop k)
  rw [List.take_append_drop] at h
  exact h
theorem erase_insL (l : List α) (k : Nat) (x : α) (h : k ≤ l.length) : (insL l k x).eraseIdx k = l := by
  have e : (l.take k).length = k := by rw [List.length_take]; omega
  unfold insL
  rw [List.eraseIdx_append_of_length_le (by omega), e, Nat.sub_self, List.eraseIdx_cons_zero, List.take_append_drop]
theorem insL_get (l : List α) (k : Nat) (x : α) (h : k ≤ l.length) : (insL l k x)[k]? = some x := by
  have e : (l.take k).length = k := by rw [List.length_take]; omega
  unfold insL
  rw [List.getElem?_append_right (by omega), e, Nat.sub_self]
  rfl
theorem insL_self (l : List α) (k : Nat) (h : k < l.length) : insL (l.eraseIdx k) k l[k] = l := by
  have e : (l.take k).length = k := by rw [List.length_take]; omega
  rw [List.eraseIdx_eq_take_drop_succ]
  unfold insL
  rw [List.take_append_of_le_length (by omega), List.take_of_length_le (by omega), List.drop_append_of_le_length (by omega), List.drop_of_length_le (by omega), List.nil_append, List.getElem_cons_drop, List.take_append_drop]
theorem erase_perm (l : List α) (k : Nat) (h : k < l.length) : (l[k] :: l.eraseIdx k).Perm l := by
  have h1 := insL_perm (l.eraseIdx k) k l[k]
  rw [insL_self l k h] at h1
  exact h1.symm
end

theorem place_at {l : List ByteArray} (hr : Rising l) (i : Nat) (h : i < l.length) : placeN l l[i] = i := by
  have hp := List.pairwise_iff_getElem.1 hr
  refine placeN_is hr i (by omega) (fun j hj hji => hp j i hj h hji) fun j hj hij => ?_
  rcases Nat.lt_or_eq_of_le hij with h1 | h1
  · exact fun h2 => ltN_irrefl _ (ltN_trans h2 (hp i j h hj h1))
  · subst h1; exact ltN_irrefl _
theorem placeB_of {l : List ByteArray} {k : Nat} {nm : ByteArray} (h1 : placeN l nm = k) (h2 : l[k]? = some nm) : placeB l nm = true := by
  unfold placeB
  rw [h1, h2]
  simp
theorem place_mem {l : List ByteArray} (hr : Rising l) {nm : ByteArray} : placeB l nm = true ↔ nm ∈ l := by
  constructor
  · intro h
    obtain ⟨-, hl, e⟩ := placeB_lt h
    rw [← e]
    exact List.getElem_mem hl
  · intro h
    obtain ⟨i, hi, rfl⟩ := List.getElem_of_mem h
    exact placeB_of (place_at hr i hi) (List.getElem?_eq_getElem hi)
theorem place_not {l : List ByteArray} (hr : Rising l) {nm : ByteArray} : placeB l nm = false ↔ nm ∉ l := by
  rw [← place_mem hr]
  simp
theorem rising_ins {l : List ByteArray} {nm : ByteArray} (hr : Rising l) (hb : placeB l nm = false) : Rising (insL l (placeN l nm) nm) := by
  have hnot := (place_not hr).1 hb
  have hlo : ∀ a ∈ l.take (placeN l nm), ltN a nm := fun a ha => by
    obtain ⟨i, hi, rfl⟩ := List.getElem_of_mem ha
    rw [List.length_take] at hi
    rw [List.getElem_take]
    exact placeN_lt i (by omega) (by omega)
  have hhi : ∀ b ∈ l.drop (placeN l nm), ltN nm b := fun b hb => by
    obtain ⟨i, hi, rfl⟩ := List.getElem_of_mem hb
    rw [List.length_drop] at hi
    rw [List.getElem_drop]
    have h1 := placeN_ge (nm := nm) hr (placeN l nm + i) (by omega) (by omega)
    refine Classical.byContradiction fun h2 => hnot ?_
    rw [← ltN_conn h1 h2]
    exact List.getElem_mem _
  unfold insL Rising
  rw [List.pairwise_append]
  refine ⟨hr.sublist (List.take_sublist _ _), List.pairwise_cons.2 ⟨fun b hb => hhi b hb, hr.sublist (List.drop_sublist _ _)⟩, fun a ha b hb => ?_⟩
  rcases List.mem_cons.1 hb with rfl | hb
  · exact hlo a ha
  · exact ltN_trans (hlo a ha) (hhi b hb)
theorem place_ins {l : List ByteArray} {nm : ByteArray} (hr : Rising l) (hb : placeB l nm = false) : placeN (insL l (placeN l nm) nm) nm = placeN l nm ∧ placeB (insL l (placeN l nm) nm) nm = true := by
  have hk := placeN_le l nm
  have hg := insL_get l (placeN l nm) nm hk
  have hlt : placeN l nm < (insL l (placeN l nm) nm).length := by rw [insL_len _ _ _ hk]; omega
  have hn := place_at (rising_ins hr hb) _ hlt
  rw [List.getElem?_eq_getElem hlt, Option.some.injEq] at hg
  rw [hg] at hn
  exact ⟨hn, placeB_of hn (by rw [List.getElem?_eq_getElem hlt, hg])⟩
theorem place_erase {l : List ByteArray} (hr : Rising l) (k : Nat) (h : k < l.length) : placeN (l.eraseIdx k) l[k] = k ∧ placeB (l.eraseIdx k) l[k] = false := by
  have hp := List.pairwise_iff_getElem.1 hr
  have hre : Rising (l.eraseIdx k) := hr.erase k
  have hle : (l.eraseIdx k).length = l.length - 1 := by rw [List.length_eraseIdx, if_pos h]
  have hn : placeN (l.eraseIdx k) l[k] = k := by
    refine placeN_is hre k (by omega) (fun i hi hik => ?_) fun i hi hik => ?_
    · rw [List.getElem_eraseIdx, dif_pos hik]
      exact hp i k (by omega) h hik
    · rw [List.getElem_eraseIdx, dif_neg (by omega)]
      exact fun h2 => ltN_irrefl _ (ltN_trans h2 (hp k (i + 1) h (by omega) (by omega)))
  refine ⟨hn, (place_not hre).2 fun hm => ?_⟩
  obtain ⟨i, hi, e⟩ := List.getElem_of_mem hm
  rw [List.getElem_eraseIdx] at e
  split at e
  · rename_i h1
    have := hp i k (by omega) h h1
    rw [e] at this
    exact ltN_irrefl _ this
  · rename_i h1
    have := hp k (i + 1) h (by omega) (by omega)
    rw [e] at this
    exact ltN_irrefl _ this

/-- files stay as they are where blocks stay -/
theorem file_keeps {s t : List Blk} {M : Int} (hg : Good s M) (hkp : Keeps s t) (hchk : checkE t = 0) {key old z : Int} (hok : fileE s key old z = 0) : fileE t key old z = 0 ∧ fileB t key old z = fileB s key old z := by
  obtain ⟨hk, h1, hz, hct, hfb⟩ := fileE_ok hok
  obtain ⟨-, m, hm3, hm, hroot, -, -⟩ := checkT_ok hct
  obtain rfl : m = 3 := by omega
  have hlv : leavesF 3 t old = leavesF 3 s old := by
    unfold leavesF
    apply List.map_congr_left
    intro i hi
    exact leaf_keeps hg hkp 3 old i (by omega) hroot (List.mem_range.1 hi)
  have hct2 : checkT t old (3 : Nat) ((0 : Nat) : Int) = 0 := checkT_mk hchk (by omega) (hkp.root hroot) (show 0 < p4n 3 by decide)
  have hct2 : checkT t old 3 0 = 0 := hct2
  constructor
  · unfold fileE
    rw [if_neg (by simp [hk]), if_neg (by omega), if_neg (by simp [hct2]), hlv, hfb, if_neg (by simp)]
  · unfold fileB
    rw [hlv]
theorem EntsOk.keeps {s t : List Blk} {M : Int} (hg : Good s M) (hkp : Keeps s t) (hchk : checkE t = 0) {key : Int} {l : List Ent} (h : EntsOk s key l) : EntsOk t key l :=
  ⟨h.len, fun x hx => ⟨(h.each x hx).1, (file_keeps hg hkp hchk (h.each x hx).2).1⟩, h.rise⟩
theorem RightX.keeps {s t : List Blk} {M : Int} (hg : Good s M) (hkp : Keeps s t) (hchk : checkE t = 0) {key : Int} {x : SetV} (h : RightX s key x) : RightX t key x :=
  ⟨h.kok, hchk, h.nm, h.files.keeps hg hkp hchk, h.slen, fun y hy => ⟨(h.snaps y hy).1, (h.snaps y hy).2.keeps hg hkp hchk⟩, h.rise⟩

/-- the roots of a right set are blocks -/
theorem entsOk_live {s : List Blk} {key : Int} {l : List Ent} (h : EntsOk s key l) : ∀ a ∈ rootsF l, a = 0 ∨ (1 ≤ a ∧ a ≤ s.length ∧ 0 < (blk s a).refs) := fun a ha => by
  obtain ⟨x, hx, rfl⟩ := List.mem_map.1 ha
  obtain ⟨-, -, -, hc, -⟩ := fileE_ok (h.each x hx).2
  obtain ⟨-, m, hm3, hm, hroot, -, -⟩ := checkT_ok hc
  rcases hroot with h | ⟨h, _⟩
  · exact .inl h
  · obtain ⟨k, hk, e, hr⟩ := there_in h
    refine .inr ⟨by omega, by omega, ?_⟩
    rw [e, blk_at s k hk]
    rwa [List.getElem?_eq_getElem hk] at hr
theorem live_adr {s : List Blk} {ks : List Int} (h : ∀ a ∈ ks, a = 0 ∨ (1 ≤ a ∧ a ≤ s.length ∧ 0 < (blk s a).refs)) : Adr s ks := fun a ha => (h a ha).imp id fun p => ⟨p.1, p.2.1⟩

theorem bump_keeps {s : List Blk} {ks : List Int} (ha : Adr s ks) : Keeps s (bump s ks) := fun a h => by
  obtain ⟨j, hj, rfl, hr⟩ := there_in h
  have hj' : j < (bump s ks).length := by rw [bump_length]; exact hj
  rw [List.getElem?_eq_getElem hj] at hr
  have hr : 0 < s[j].refs := hr
  rw [there_at _ j hj', blk_at _ j hj', blk_at s j hj, bump_get ks s j hj hj' ha]
  exact ⟨by simp only [decide_eq_true_eq]; omega, rfl, rfl, rfl, by simp only; omega⟩
theorem bump_out {s : List Blk} {ks : List Int} (ha : Adr s ks) (j : Nat) (hj : j < s.length) : outA (bump s ks) j = outA s j + ((ks.count ((j : Int) + 1) : Nat) : Int) := by
  have hj' : j < (bump s ks).length := by rw [bump_length]; exact hj
  unfold outA
  rw [kidsOf_bump, blk_at _ j hj', blk_at s j hj, bump_get ks s j hj hj' ha]
  simp only
  omega
theorem bump_check {s : List Blk} {ks : List Int} (hc : checkE s = 0) (hl : ∀ a ∈ ks, a = 0 ∨ (1 ≤ a ∧ a ≤ s.length ∧ 0 < (blk s a).refs)) (hr : ∀ j (h : j < s.length), s[j].refs + ((ks.count ((j : Int) + 1) : Nat) : Int) ≤ 1000000) : checkE (bump s ks) = 0 := by
  obtain ⟨h4, hf, -, hri, -⟩ := checkE_zero s hc
  have ha := live_adr hl
  refine checkE_of _ (by rw [bump_length]; exact h4) (fun x hx => ?_) fun j hj => ?_
  · obtain ⟨j, hj, rfl⟩ := List.getElem_of_mem hx
    have hj2 : j < s.length := by rw [bump_length] at hj; exact hj
    rw [bump_get ks s j hj2 hj ha]
    have hz : s[j].refs = 0 → ks.count ((j : Int) + 1) = 0 := fun h0 => List.count_eq_zero.2 fun hm => by
      rcases hl _ hm with h | ⟨-, -, h⟩
      · omega
      · rw [blk_at s j hj2] at h; omega
    have h0 := (hri _ (List.getElem_mem hj2)).1
    refine form_more (s := s) (fun k hk => ⟨(bump_keeps ha k hk).1, (bump_keeps ha k hk).2.1⟩) (formsE_all s s hf _ (List.getElem_mem hj2)) _ (fun h => ?_) fun h => ⟨?_, hr j hj2⟩
    · have := hz h; omega
    · omega
  · rw [bump_length] at hj
    rw [bump_out ha j hj]
    have := out_nn hc j hj
    omega
theorem bump_wf {s : List Blk} {ks : List Int} (hw : WfS s) (ha : Adr s ks) (hr : ∀ j (h : j < s.length), I64 (s[j].refs + ((ks.count ((j : Int) + 1) : Nat) : Int))) : WfS (bump s ks) := fun x hx => by
  obtain ⟨j, hj, rfl⟩ := List.getElem_of_mem hx
  have hj2 : j < s.length := by rw [bump_length] at hj; exact hj
  rw [bump_get ks s j hj2 hj ha]
  have h := hw _ (List.getElem_mem hj2)
  exact { h with refs := hr j hj2 }

/-- held, by counts -/
theorem held_iff {s : List Blk} {key : Int} {x : SetV} (hR : RightX s key x) : heldE s x = 0 ↔ ∀ j, j < s.length → (((rootsL x).count ((j : Int) + 1) : Nat) : Int) ≤ outA s j := by
  have hin := hR.roots
  have hgd : ∀ j, j < s.length → (outL s).getD j 0 = outA s j := fun j hj => by rw [outM_getD s j hj]; unfold outA; rw [blk_at s j hj]
  unfold heldE
  constructor
  · intro h j hj
    have hok : heldOk s (rootsL x) = true := by
      cases e : heldOk s (rootsL x) with
      | true => rfl
      | false => rw [e] at h; simp at h
    by_cases hm : ((j : Int) + 1) ∈ rootsL x
    · have h1 := List.all_eq_true.1 hok _ hm
      rw [show ((j : Int) + 1 - 1).toNat = j from by omega, hgd j hj] at h1
      simp only [Bool.or_eq_true, decide_eq_true_eq] at h1
      omega
    · rw [List.count_eq_zero.2 hm]
      have := out_nn hR.chk j hj
      omega
  · intro h
    rw [if_pos]
    unfold heldOk
    refine List.all_eq_true.2 fun a ha => ?_
    simp only [Bool.or_eq_true, decide_eq_true_eq]
    rcases hin a ha with h0 | ⟨h1, h2⟩
    · exact .inl h0
    · refine .inr ?_
      obtain ⟨j, rfl⟩ : ∃ j : Nat, a = j + 1 := ⟨(a - 1).toNat, by omega⟩
      rw [show ((j : Int) + 1 - 1).toNat = j from by omega, hgd j (by omega)]
      exact h j (by omega)
theorem heldE_perm {s : List Blk} {x y : SetV} (h : (rootsL x).Perm (rootsL y)) : heldE s x = heldE s y := by
  have e : heldOk s (rootsL x) = heldOk s (rootsL y) := by
    unfold heldOk
    rw [Bool.eq_iff_iff, List.all_eq_true, List.all_eq_true]
    constructor
    · intro h1 a ha
      have := h1 a (h.mem_iff.2 ha)
      rwa [h.count_eq] at this
    · intro h1 a ha
      have := h1 a (h.mem_iff.1 ha)
      rwa [h.count_eq]
  unfold heldE
  rw [e]

/-- a file that has another name, and then its own again -/
theorem move_back {s : List Blk} {key : Int} {l : List Ent} (hl : EntsOk s key l) {nm dest : ByteArray} {sn sn' : ByteArray} {p q p' q' : Int} {bs bs' : List Int} (he : (moveR s l ⟨6, sn, nm, dest, p, q, bs⟩).2.2 = 0) :
    (moveR s l ⟨6, sn, nm, dest, p, q, bs⟩).1 = s ∧ ∃ l1, (moveR s l ⟨6, sn, nm, dest, p, q, bs⟩).2.1 = l1 ∧ l1.length = l.length ∧ EntsOk s key l1 ∧ (rootsF l1).Perm (rootsF l) ∧ moveR s l1 ⟨6, sn', dest, nm, p', q', bs'⟩ = (s, l, 0) := by
  have hr := hl.rise
  unfold moveR at he ⊢
  simp only at he ⊢
  cases hb : placeB (l.map Ent.nm) nm with
  | false => rw [if_pos hb] at he; simp at he
  | true =>
  rw [if_neg (by simp [hb]), if_pos trivial] at he ⊢
  obtain ⟨-, hk, hke⟩ := placeB_lt hb
  generalize placeN (l.map Ent.nm) nm = k at hk hke he ⊢
  have hkl : k < l.length := by rwa [List.length_map] at hk
  rw [List.getElem_map] at hke
  have hea : entAt l k = l[k] := by unfold entAt; rw [List.getElem?_eq_getElem hkl]; rfl
  cases hd : nameB dest with
  | false => rw [if_pos hd] at he; simp at he
  | true =>
  rw [if_neg (by simp [hd])] at he ⊢
  cases hc : placeB (l.map Ent.nm) dest with
  | true => rw [if_pos hc] at he; simp at he
  | false =>
  rw [if_neg (by simp [hc])] at he ⊢
  have hnd := (place_not hr).1 hc
  have hre : Rising ((l.eraseIdx k).map Ent.nm) := by rw [erase_map]; exact hr.erase k
  have hde : placeB ((l.eraseIdx k).map Ent.nm) dest = false := (place_not hre).2 fun hm => hnd (by
    rw [erase_map] at hm
    exact (List.eraseIdx_sublist _ _).mem hm)
  have hle : (l.eraseIdx k).length = l.length - 1 := by rw [List.length_eraseIdx, if_pos hkl]
  have h6 := hl.len
  unfold layR at he ⊢
  rw [if_neg (by rw [hde]; simp), if_neg (by omega)] at he ⊢
  rw [hea]
  have hple : placeN ((l.eraseIdx k).map Ent.nm) dest ≤ (l.eraseIdx k).length := by have := placeN_le ((l.eraseIdx k).map Ent.nm) dest; rwa [List.length_map] at this
  have hins := place_ins hre hde
  have hri := rising_ins hre hde
  generalize hP : placeN ((l.eraseIdx k).map Ent.nm) dest = P at hple hins hri ⊢
  have hmap : (insL (l.eraseIdx k) P ⟨dest, l[k].root, l[k].size⟩).map Ent.nm = insL ((l.eraseIdx k).map Ent.nm) P dest := insL_map _ _ _ _
  refine ⟨rfl, _, rfl, by rw [insL_len _ _ _ hple, hle]; omega, ⟨by rw [insL_len _ _ _ hple, hle]; omega, fun x hx => ?_, by rw [hmap]; exact hri⟩, ?_, ?_⟩
  · rcases List.mem_cons.1 ((insL_perm _ _ _).mem_iff.1 hx) with rfl | hx
    · exact ⟨hd, (hl.each _ (List.getElem_mem hkl)).2⟩
    · exact hl.each x ((List.eraseIdx_sublist _ _).mem hx)
  · have h1 : (rootsF (insL (l.eraseIdx k) P ⟨dest, l[k].root, l[k].size⟩)).Perm (l[k].root :: rootsF (l.eraseIdx k)) := (insL_perm _ _ _).map Ent.root
    have h2 : (l[k].root :: rootsF (l.eraseIdx k)).Perm (rootsF l) := (erase_perm l k hkl).map Ent.root
    exact h1.trans h2
  · dsimp only
    have hnn : nm ∉ insL ((l.eraseIdx k).map Ent.nm) P dest := fun hm => by
      rcases List.mem_cons.1 ((insL_perm _ _ _).mem_iff.1 hm) with e | hm
      · exact hnd (by rw [← e, ← hke]; exact List.mem_map.2 ⟨_, List.getElem_mem hkl, rfl⟩)
      · have := place_erase hr k hk
        rw [List.getElem_map, hke, ← erase_map] at this
        exact (place_not hre).1 this.2 hm
    have hpe := place_erase hr k hk
    rw [List.getElem_map, hke, ← erase_map] at hpe
    have hent : entAt (insL (l.eraseIdx k) P ⟨dest, l[k].root, l[k].size⟩) P = ⟨dest, l[k].root, l[k].size⟩ := by unfold entAt; rw [insL_get _ _ _ hple]; rfl
    rw [hmap, hins.1, if_neg (by rw [hins.2]; simp), if_pos trivial, if_neg (by rw [← hke, (hl.each _ (List.getElem_mem hkl)).1]; simp), if_neg (by rw [(place_not hri).2 hnn]; simp), hent, erase_insL _ _ _ hple, if_neg (by rw [hpe.2]; simp), if_neg (by omega), hpe.1]
    simp only [Prod.mk.injEq, true_and, and_true]
    rw [← hke]
    exact insL_self l k hkl

/-- a snap that is made, and goes -/
theorem snaps_back {s : List Blk} {key : Int} {x : SetV} (hx : RightX s key x) (hw : WfS s) (hheld : heldE s x = 0) (hfew : ∀ y ∈ s, y.refs ≤ 999000) {dest : ByteArray} {sn fn sn' fn' : ByteArray} {p q p' q' : Int} {bs bs' : List Int} (he : (snapsR s x ⟨7, sn, fn, dest, p, q, bs⟩).2.2 = 0) :
    ∃ s1 x1, snapsR s x ⟨7, sn, fn, dest, p, q, bs⟩ = (s1, x1, 0) ∧ s1 = bump s (rootsF x.files) ∧ x1.nm = x.nm ∧ x1.files = x.files ∧ RightX s1 key x1 ∧ WfS s1 ∧ heldE s1 x1 = 0 ∧ snapsR s1 x1 ⟨8, sn', fn', dest, p', q', bs'⟩ = (s, x, 0) := by
  have hg := Good.of_check hx.chk hw
  have hlive := entsOk_live hx.files
  have hadr := live_adr hlive
  have hlen : (rootsF x.files).length ≤ 6 := by rw [rootsF_len]; exact hx.files.len
  have hcnt : ∀ j (h : j < s.length), 0 ≤ s[j].refs ∧ s[j].refs + (((rootsF x.files).count ((j : Int) + 1) : Nat) : Int) ≤ 1000000 := fun j h => by
    have h1 := hfew _ (List.getElem_mem h)
    have h2 := List.count_le_length (a := ((j : Int) + 1)) (l := rootsF x.files)
    have h3 := ((checkE_zero s hx.chk).2.2.2.1 _ (List.getElem_mem h)).1
    omega
  have hchk := bump_check hx.chk hlive fun j h => (hcnt j h).2
  have hr := hx.rise
  unfold snapsR at he ⊢
  simp only at he ⊢
  cases hd : nameB dest with
  | false => rw [if_pos hd] at he; simp at he
  | true =>
  rw [if_neg (by simp [hd]), if_pos trivial] at he ⊢
  cases hb : placeB (x.snaps.map Snp.nm) dest with
  | true => rw [if_pos hb] at he; simp at he
  | false =>
  rw [if_neg (by simp [hb])] at he ⊢
  by_cases h3 : x.snaps.length = 3
  · rw [if_pos h3] at he; simp at he
  rw [if_neg h3] at he ⊢
  have hple : placeN (x.snaps.map Snp.nm) dest ≤ x.snaps.length := by have := placeN_le (x.snaps.map Snp.nm) dest; rwa [List.length_map] at this
  have hins := place_ins hr hb
  have hri := rising_ins hr hb
  generalize hP : placeN (x.snaps.map Snp.nm) dest = P at hple hins hri ⊢
  have hmap : (insL x.snaps P ⟨dest, x.files⟩).map Snp.nm = insL (x.snaps.map Snp.nm) P dest := insL_map _ _ _ _
  have hs3 := hx.slen
  have hR0 := hx.keeps hg (bump_keeps hadr) hchk
  have hR1 : RightX (bump s (rootsF x.files)) key { x with snaps := insL x.snaps P ⟨dest, x.files⟩ } := by
    refine ⟨hx.kok, hchk, hx.nm, hR0.files, by show (insL x.snaps P ⟨dest, x.files⟩).length ≤ 3; rw [insL_len _ _ _ hple]; omega, fun y hy => ?_, by show Rising ((insL x.snaps P ⟨dest, x.files⟩).map Snp.nm); rw [hmap]; exact hri⟩
    rcases List.mem_cons.1 ((insL_perm _ _ _).mem_iff.1 hy) with rfl | hy
    · exact ⟨hd, hR0.files⟩
    · exact hR0.snaps y hy
  have hperm : (rootsL { x with snaps := insL x.snaps P ⟨dest, x.files⟩ }).Perm (rootsF x.files ++ rootsL x) := by
    unfold rootsL
    refine List.Perm.append_left _ ?_
    have h1 : (rootsS (insL x.snaps P ⟨dest, x.files⟩)).Perm (rootsS (⟨dest, x.files⟩ :: x.snaps)) := (insL_perm _ _ _).flatMap_right _
    exact h1
  refine ⟨_, _, rfl, rfl, rfl, rfl, hR1, bump_wf hw hadr (fun j h => by have := hcnt j h; unfold I64; omega), (held_iff hR1).2 fun j hj => ?_, ?_⟩
  · rw [bump_length] at hj
    rw [hperm.count_eq, List.count_append, bump_out hadr j hj]
    have := (held_iff hx).1 hheld j hj
    omega
  · have hsnp : snpAt (insL x.snaps P ⟨dest, x.files⟩) P = ⟨dest, x.files⟩ := by unfold snpAt; rw [insL_get _ _ _ hple]; rfl
    have hub : lessL (bump s (rootsF x.files)) (rootsF x.files) = s := unbump 3 (rootsF x.files) s hlive
    rw [hmap, hins.1, if_neg (by simp), if_neg (by decide), if_neg (by rw [hins.2]; simp), if_pos trivial, hsnp, erase_insL _ _ _ hple]
    simp only
    rw [hub]
end Go.Proofs.Ytgeacpfenhaioaa

namespace Go.Proofs.Ytgeacpfenhaioaa
open Go.RowKit
set_option linter.unusedVariables false

section
variable {wr : List Blk → Int → List Ent → AskV → List Blk × List Ent × Int} {s : List Blk} {key : Int} {x : SetV} {a : AskV}
theorem doR_ok (h : (doR wr s key x a).2.2 = 0) : setE s key x = 0 ∧ heldE s x = 0 ∧ (askR wr s key x a).2.2 = 0 ∧ doR wr s key x a = askR wr s key x a := by
  unfold doR at h ⊢
  by_cases h1 : setE s key x = 0
  · rw [if_neg (fun k => k h1)] at h ⊢
    by_cases h2 : heldE s x = 0
    · rw [if_neg (fun k => k h2)] at h ⊢
      by_cases h3 : (askR wr s key x a).2.2 = 0
      · rw [if_neg (fun k => k h3)]
        exact ⟨h1, h2, h3, rfl⟩
      · rw [if_pos h3] at h
        exact absurd h h3
    · rw [if_pos h2] at h
      exact absurd h h2
  · rw [if_pos h1] at h
    exact absurd h h1
theorem doR_mk (h1 : setE s key x = 0) (h2 : heldE s x = 0) (h3 : (askR wr s key x a).2.2 = 0) : doR wr s key x a = askR wr s key x a := by
  unfold doR
  rw [if_neg (fun k => k h1), if_neg (fun k => k h2), if_neg (fun k => k h3)]
end

theorem EntsOk.wf {s : List Blk} {key : Int} {l : List Ent} (h : EntsOk s key l) : WfL l := fun x hx => by
  obtain ⟨-, h0, h1, hc, -⟩ := fileE_ok (h.each x hx).2
  obtain ⟨hce, m, hm3, hm, hroot, -, -⟩ := checkT_ok hc
  have h4 := (checkE_zero s hce).1
  refine ⟨?_, by unfold I64; omega⟩
  rcases hroot with h | ⟨h, _⟩
  · rw [h]; unfold I64; omega
  · obtain ⟨k, hk, e, _⟩ := there_in h
    unfold I64; omega
theorem RightX.wf {s : List Blk} {key : Int} {x : SetV} (h : RightX s key x) : WfX x := ⟨h.files.wf, fun y hy => (h.snaps y hy).2.wf⟩

def renA (frm dest : ByteArray) : AskV := ⟨6, ⟨#[]⟩, frm, dest, 0, 0, []⟩
def snpA (k : Int) (dest : ByteArray) : AskV := ⟨k, ⟨#[]⟩, ⟨#[]⟩, dest, 0, 0, []⟩

theorem do_ren {wr : List Blk → Int → List Ent → AskV → List Blk × List Ent × Int} {s : List Blk} {key : Int} {x : SetV} {frm dest : ByteArray} (h : (doR wr s key x (renA frm dest)).2.2 = 0) :
    ∃ x1, doR wr s key x (renA frm dest) = (s, x1, 0) ∧ x1.files.length = x.files.length ∧ WfX x1 ∧ doR wr s key x1 (renA dest frm) = (s, x, 0) := by
  obtain ⟨h1, h2, h3, h4⟩ := doR_ok h
  have hR := setE_ok h1
  have e6 : ∀ (y : SetV) (f d : ByteArray), askR wr s key y (renA f d) = ((moveR s y.files (renA f d)).1, { y with files := (moveR s y.files (renA f d)).2.1 }, (moveR s y.files (renA f d)).2.2) := fun y f d => by
    unfold askR
    rw [if_neg (by simp [renA]), if_pos (by simp [renA])]
  rw [e6] at h3
  obtain ⟨g1, l1, g2, g3, g4, g5, g6⟩ := move_back (sn := ⟨#[]⟩) (sn' := ⟨#[]⟩) (p := 0) (q := 0) (p' := 0) (q' := 0) (bs := []) (bs' := []) hR.files h3
  have hR1 : RightX s key { x with files := l1 } := ⟨hR.kok, hR.chk, hR.nm, g4, hR.slen, hR.snaps, hR.rise⟩
  have hH1 : heldE s { x with files := l1 } = 0 := by
    rw [heldE_perm (y := x)]
    · exact h2
    · exact g5.append_right _
  have h30 : (moveR s x.files (renA frm dest)).2.2 = 0 := h3
  refine ⟨{ x with files := l1 }, ?_, g3, hR1.wf, ?_⟩
  · rw [h4, e6, h30]
    have g1' : (moveR s x.files (renA frm dest)).1 = s := g1
    have g2' : (moveR s x.files (renA frm dest)).2.1 = l1 := g2
    rw [g1', g2']
  · have g6' : moveR s l1 (renA dest frm) = (s, x.files, 0) := g6
    rw [doR_mk hR1.zero hH1 (by rw [e6]; show (moveR s l1 (renA dest frm)).2.2 = 0; rw [g6']), e6]
    show ((moveR s l1 (renA dest frm)).1, _, (moveR s l1 (renA dest frm)).2.2) = _
    rw [g6']

theorem do_snp {wr : List Blk → Int → List Ent → AskV → List Blk × List Ent × Int} {s : List Blk} {key : Int} {x : SetV} {dest : ByteArray} (hw : WfS s) (hfew : ∀ y ∈ s, y.refs ≤ 999000) (h : (doR wr s key x (snpA 7 dest)).2.2 = 0) :
    ∃ s1 x1, doR wr s key x (snpA 7 dest) = (s1, x1, 0) ∧ s1.length = s.length ∧ WfS s1 ∧ WfX x1 ∧ doR wr s1 key x1 (snpA 8 dest) = (s, x, 0) := by
  obtain ⟨h1, h2, h3, h4⟩ := doR_ok h
  have hR := setE_ok h1
  have e7 : askR wr s key x (snpA 7 dest) = snapsR s x (snpA 7 dest) := by
    unfold askR
    rw [if_neg (by simp [snpA]), if_neg (by simp [snpA]), if_pos (by simp [snpA])]
  have e8 : ∀ t y, askR wr t key y (snpA 8 dest) = snapsR t y (snpA 8 dest) := fun t y => by
    unfold askR
    rw [if_neg (by simp [snpA]), if_neg (by simp [snpA]), if_pos (by simp [snpA])]
  rw [e7] at h3 h4
  obtain ⟨s1, x1, g1, g2, g3, g4, g5, g6, g7, g8⟩ := snaps_back (sn := ⟨#[]⟩) (fn := ⟨#[]⟩) (sn' := ⟨#[]⟩) (fn' := ⟨#[]⟩) (p := 0) (q := 0) (p' := 0) (q' := 0) (bs := []) (bs' := []) hR hw h2 hfew h3
  have g8' : snapsR s1 x1 (snpA 8 dest) = (s, x, 0) := g8
  refine ⟨s1, x1, h4.trans g1, by rw [g2, bump_length], g6, g5.wf, ?_⟩
  rw [doR_mk g5.zero g7 (by rw [e8, g8']), e8, g8']
end Go.Proofs.Ytgeacpfenhaioaa

namespace Go.Proofs.Ytgeacpfenhaioaa
open Go.RowKit
set_option linter.unusedVariables false

theorem RightX.fit {s : List Blk} {key : Int} {x : SetV} (h : RightX s key x) : FitX x := by
  have h1 := h.small
  exact ⟨by have := h1.files; omega, by have := h1.snaps; omega, fun y hy => by have := h1.each y hy; omega⟩

set_option maxRecDepth 100000 in
set_option maxHeartbeats 16000000 in
theorem law_around (w : World) (ao fo so : Option Addr) (n cap fn fc sn sc : Nat) (s : List Blk) (key : Int) (x : SetV) (name dest : ByteArray) (hn : s.length = n) (h41 : n ≤ 2199023255552) (hs : StoRow w ao s) (hwf : WfS s) (hc : Capd ao n cap) (hx : SetIn w fo fn fc so sn sc x) (hwx : WfX x) (hfx : FitX x) :
    Calls Try.prog 3 #[.agg #[.slice ao n cap], .int .i64 key, .agg #[.string x.nm, .slice fo fn fc, .slice so sn sc], .string name, .string dest] w fun e w' => e = .returned (.bool true) ∧ Below w.heap.size w w' := by
  have HN := Lib.hid hn
  have HC := Lib.hid hc
  have HWX := Lib.hid hwx
  have HFX := Lib.hid hfx
  have hb0 : Below w.heap.size w ((w.alloc (.cells #[.slice ao n cap] 24)).alloc (.cells #[.string x.nm, .slice fo fn fc, .slice so sn sc] 28)) := ((Below.refl _ _).alloc (Nat.le_refl _) _).alloc (by simp) _
  have pS := heap_alloc2_old w (.cells #[.slice ao n cap] 24) (.cells #[.string x.nm, .slice fo fn fc, .slice so sn sc] 28)
  have pX := heap_alloc2_new w (.cells #[.slice ao n cap] 24) (.cells #[.string x.nm, .slice fo fn fc, .slice so sn sc] 28)
  have HS0 := Lib.hid (hs.mono hb0)
  have HX0 := Lib.hid (hx.mono hb0)
  have HNX := Lib.hid (show x.files.length = fn from hx.flen)
  clear hn hc hwx hfx hs hx
  go_enter Try.func3, Try.ntmps3
  go_wp2_with fail
  generalize (w.alloc (Obj.cells #[Value.slice ao n cap] 24)).alloc (Obj.cells #[Value.string x.nm, Value.slice fo fn fc, Value.slice so sn sc] 28) = W0 at *
  refine (crowded_any _ _ _ _ s HN.out h41 HS0.out).mono ?_
  rintro e w1 ⟨rfl, hb1⟩
  have hbw1 := below_step hb0 hb1
  cases hcr : crowdB s with
  | true =>
    clear HS0 HX0
    go_wp2_with fail
    go_ret
    exact ⟨rfl, hbw1⟩
  | false =>
    have HFEW := Lib.hid (crowdB_few hcr)
    have HS1 := Lib.hid (HS0.out.mono hb1)
    have HX1 := Lib.hid (HX0.out.mono hb1)
    replace pS := (hb1.block _ (lt_heap pS)).trans pS
    replace pX := (hb1.block _ (lt_heap pX)).trans pX
    have HPS := Lib.hid pS
    have HPX := Lib.hid pX
    have HBW1 := Lib.hid hbw1
    have cS := cell_of_one pS
    have cX0 := cell_of_block pX 0
    have cX1 := cell_of_block pX 1
    have cX2 := cell_of_block pX 2
    simp only [List.getElem?_toArray, List.getElem?_cons_succ, List.getElem?_cons_zero] at cX0 cX1 cX2
    have lS := lt_heap pS
    have lX := lt_heap pX
    have HREN := Lib.hid (fun h => do_ren (wr := writeW) (s := s) (key := key) (x := x) (frm := name) (dest := dest) h)
    have HD1 := Lib.hid (do_any w1 ao fo so none n cap fn fc sn sc 0 0 s key x (renA name dest) HN.out h41 HS1.out hwf HC.out HX1.out HWX.out rfl (.inl rfl) ⟨Nat.le_refl _, fun _ => rfl⟩ (by simp [renA, Byt]) (by omega))
    obtain ⟨D1, hD1⟩ : ∃ D, doR writeW s key x (renA name dest) = D := ⟨_, rfl⟩
    rw [hD1] at HD1 HREN
    clear hD1 hcr HS0 HX0 hb0 hb1 hbw1
    go_wp2_with fail
    refine HD1.out.mono ?_
    rintro e w2 ⟨ao1, n1, c1, fo1, fn1, fc1, so1, sn1, sc1, rfl, hb2, hn1, hs1, hc1, hx1⟩
    have hb3 : Below w2.heap.size w2 ((w2.alloc (.cells #[.slice ao1 n1 c1] 24)).alloc (.cells #[.string D1.2.1.nm, .slice fo1 fn1 fc1, .slice so1 sn1 sc1] 28)) := ((Below.refl _ _).alloc (Nat.le_refl _) _).alloc (by simp) _
    have qS := heap_alloc2_old w2 (.cells #[.slice ao1 n1 c1] 24) (.cells #[.string D1.2.1.nm, .slice fo1 fn1 fc1, .slice so1 sn1 sc1] 28)
    have qX := heap_alloc2_new w2 (.cells #[.slice ao1 n1 c1] 24) (.cells #[.string D1.2.1.nm, .slice fo1 fn1 fc1, .slice so1 sn1 sc1] 28)
    have HS2 := Lib.hid (hs1.mono hb3)
    have HX2 := Lib.hid (hx1.mono hb3).1
    have HN1 := Lib.hid hn1
    have HC1 := Lib.hid hc1
    have hb13 := below_step hb2 hb3
    have HB3 := Lib.hid hb13
    clear hs1 hx1 hn1 hc1 hb2 hb3 HD1 cS cX0 cX1 cX2 lS lX pS pX
    go_upto_if 36 with fail
    generalize (w2.alloc (Obj.cells #[Value.slice ao1 n1 c1] 24)).alloc (Obj.cells #[Value.string D1.2.1.nm, Value.slice fo1 fn1 fc1, Value.slice so1 sn1 sc1] 28) = W2 at *
    obtain ⟨t1, y1, e1⟩ := D1
    go_cut [13] (fun u wx => Hid (Below w1.heap.size w1 wx))
    case first =>
      by_cases he : e1 = 0
      · subst he
        obtain ⟨x1, g1, g2, g3, g4⟩ := HREN.out rfl
        simp only [Prod.mk.injEq, and_true] at g1
        obtain ⟨rfl, rfl⟩ := g1
        have HD2 := Lib.hid (do_any W2 ao1 fo1 so1 none n1 c1 fn1 fc1 sn1 sc1 0 0 t1 key y1 (renA dest name) HN1.out (by have := HN1.out; have := HN.out; simp only at *; omega) HS2.out hwf HC1.out HX2.out g3 rfl (.inl rfl) ⟨Nat.le_refl _, fun _ => rfl⟩ (by simp [renA, Byt]) (by omega))
        rw [g4] at HD2
        have hfn1 : fn1 = fn := by have h1 := HX2.out.flen; have h2 := HNX.out; simp only at h1; omega
        have hlen : ((fn1 : Int) != (fn : Int)) = false := by rw [hfn1]; simp
        have hn1 : n1 = n := by have h1 := HN1.out; have h2 := HN.out; simp only at h1; omega
        have cS := cell_of_one qS
        have cX0 := cell_of_block qX 0
        have cX1 := cell_of_block qX 1
        have cX2 := cell_of_block qX 2
        simp only [List.getElem?_toArray, List.getElem?_cons_succ, List.getElem?_cons_zero] at cX0 cX1 cX2
        have lS := lt_heap qS
        have lX := lt_heap qX
        clear g2 g3 g4 HREN hfn1 hn1
        go_wp2_with fail
        refine HD2.out.mono ?_
        rintro e w3 ⟨ao2, n2, c2, fo2, fn2, fc2, so2, sn2, sc2, rfl, hb4, hn2, hs2, hc2, hx2⟩
        have hb5 : Below w3.heap.size w3 ((w3.alloc (.cells #[.slice ao2 n2 c2] 24)).alloc (.cells #[.string x.nm, .slice fo2 fn2 fc2, .slice so2 sn2 sc2] 28)) := ((Below.refl _ _).alloc (Nat.le_refl _) _).alloc (by simp) _
        have rS := heap_alloc2_old w3 (.cells #[.slice ao2 n2 c2] 24) (.cells #[.string x.nm, .slice fo2 fn2 fc2, .slice so2 sn2 sc2] 28)
        have rX := heap_alloc2_new w3 (.cells #[.slice ao2 n2 c2] 24) (.cells #[.string x.nm, .slice fo2 fn2 fc2, .slice so2 sn2 sc2] 28)
        have hb45 := below_step hb4 hb5
        have hB : Below w1.heap.size w1 _ := below_step HB3.out hb45
        have HS3 := Lib.hid (hs2.mono hb5)
        have HX3 := Lib.hid (hx2.mono hb5).1
        have HN2 := Lib.hid hn2
        have HQS := Lib.hid ((hb45.block _ lS).trans qS)
        have HQX := Lib.hid ((hb45.block _ lX).trans qX)
        have HBB := Lib.hid hB
        have HPS3 := Lib.hid ((hB.block _ (lt_heap HPS.out)).trans HPS.out)
        have HPX3 := Lib.hid ((hB.block _ (lt_heap HPX.out)).trans HPX.out)
        have HS4 := Lib.hid (HS1.out.mono hB)
        have HX4 := Lib.hid (HX1.out.mono hB)
        clear hs2 hx2 hn2 hc2 hb4 hb5 hb45 hB HD2 cS cX0 cX1 cX2 lS lX qS qX
        go_upto_region 6 with fail
        generalize (w3.alloc (Obj.cells #[Value.slice ao2 n2 c2] 24)).alloc (Obj.cells #[Value.string x.nm, Value.slice fo2 fn2 fc2, Value.slice so2 sn2 sc2] 28) = W3 at *
        have c0 := cell_of_block rX 0
        have c1' := cell_of_block rX 1
        have c2' := cell_of_block rX 2
        have d0 := cell_of_block HPX3.out 0
        have d1 := cell_of_block HPX3.out 1
        have d2 := cell_of_block HPX3.out 2
        simp only [List.getElem?_toArray, List.getElem?_cons_succ, List.getElem?_cons_zero] at c0 c1' c2' d0 d1 d2
        have l0 := lt_heap rX
        have l1 := lt_heap HPX3.out
        go_wp2_with fail
        refine (sameSet_any _ _ _ _ _ _ _ _ _ _ _ _ _ x x HX3.out HX4.out HFX.out HFX.out).mono ?_
        rw [isB_self]
        rintro e w4 ⟨rfl, hb6⟩
        have HS5 := Lib.hid (HS3.out.mono hb6)
        have HS6 := Lib.hid (HS4.out.mono hb6)
        have rS4 := (hb6.block _ (lt_heap rS)).trans rS
        have HPS4 := Lib.hid ((hb6.block _ (lt_heap HPS3.out)).trans HPS3.out)
        have HPX4 := Lib.hid ((hb6.block _ l1).trans HPX3.out)
        have HQX4 := Lib.hid ((hb6.block _ (lt_heap HQX.out)).trans HQX.out)
        have HBB4 := Lib.hid (below_step HBB.out hb6)
        clear c0 c1' c2' d0 d1 d2 l0 l1 rX rS hb6
        have c0 := cell_of_one rS4
        have d0 := cell_of_one HPS4.out
        have l0 := lt_heap rS4
        have l1 := lt_heap HPS4.out
        go_wp2_with fail
        refine (same_any _ _ _ _ _ _ _ t1 t1 HN2.out HN.out (by have := HN2.out; have := HN.out; omega) (by omega) HS5.out HS6.out hwf hwf).mono ?_
        rw [show sameS t1 t1 = true from by unfold sameS; simp]
        rintro e w5 ⟨rfl, hb7⟩
        have HPX5 := Lib.hid ((hb7.block _ (lt_heap HPX4.out)).trans HPX4.out)
        have HQX5 := Lib.hid ((hb7.block _ (lt_heap HQX4.out)).trans HQX4.out)
        have HBB5 := Lib.hid (below_step HBB4.out hb7)
        clear c0 d0 l0 l1 hb7
        have c1' := cell_of_block HQX5.out 1
        have d1 := cell_of_block HPX5.out 1
        simp only [List.getElem?_toArray, List.getElem?_cons_succ, List.getElem?_cons_zero] at c1' d1
        have l0 := lt_heap HQX5.out
        have l1 := lt_heap HPX5.out
        go_wp2_with fail
        go_meet
        exact HBB5
      · have he1 : (e1 == 0) = false := by rw [beq_eq_false_iff_ne]; exact he
        clear he HREN
        go_wp2_with fail
        go_meet
        exact HB3
    case rest =>
      have hB := hcut.out
      have HBC := Lib.hid hB
      have HS3 := Lib.hid (HS1.out.mono hB)
      have HX3 := Lib.hid (HX1.out.mono hB)
      have pS := (hB.block _ (lt_heap HPS.out)).trans HPS.out
      have pX := (hB.block _ (lt_heap HPX.out)).trans HPX.out
      have hbw := below_step HBW1.out hB
      have HBW := Lib.hid hbw
      clear hB hcut HREN HS2 HX2 HN1 HC1 HB3 qS qX hb13 hbw
      have HPS2 := Lib.hid pS
      have HPX2 := Lib.hid pX
      have cS := cell_of_one pS
      have cX0 := cell_of_block pX 0
      have cX1 := cell_of_block pX 1
      have cX2 := cell_of_block pX 2
      simp only [List.getElem?_toArray, List.getElem?_cons_succ, List.getElem?_cons_zero] at cX0 cX1 cX2
      have lS := lt_heap pS
      have lX := lt_heap pX
      have HSNP := Lib.hid (fun h => do_snp (wr := writeW) (s := s) (key := key) (x := x) (dest := dest) hwf HFEW.out h)
      have HD3 := Lib.hid (do_any wc ao fo so none n cap fn fc sn sc 0 0 s key x (snpA 7 dest) HN.out h41 HS3.out hwf HC.out HX3.out HWX.out rfl (.inl rfl) ⟨Nat.le_refl _, fun _ => rfl⟩ (by simp [snpA, Byt]) (by omega))
      obtain ⟨D3, hD3⟩ : ∃ D, doR writeW s key x (snpA 7 dest) = D := ⟨_, rfl⟩
      rw [hD3] at HD3 HSNP
      clear hD3 pS pX
      go_wp2_with fail
      refine HD3.out.mono ?_
      rintro e w4 ⟨ao3, n3, c3, fo3, fn3, fc3, so3, sn3, sc3, rfl, hb4, hn3, hs3, hc3, hx3⟩
      have hb5 : Below w4.heap.size w4 ((w4.alloc (.cells #[.slice ao3 n3 c3] 24)).alloc (.cells #[.string D3.2.1.nm, .slice fo3 fn3 fc3, .slice so3 sn3 sc3] 28)) := ((Below.refl _ _).alloc (Nat.le_refl _) _).alloc (by simp) _
      have rS := heap_alloc2_old w4 (.cells #[.slice ao3 n3 c3] 24) (.cells #[.string D3.2.1.nm, .slice fo3 fn3 fc3, .slice so3 sn3 sc3] 28)
      have rX := heap_alloc2_new w4 (.cells #[.slice ao3 n3 c3] 24) (.cells #[.string D3.2.1.nm, .slice fo3 fn3 fc3, .slice so3 sn3 sc3] 28)
      have hb45 := below_step hb4 hb5
      have HS4 := Lib.hid (hs3.mono hb5)
      have HX4 := Lib.hid (hx3.mono hb5).1
      have HN3 := Lib.hid hn3
      have HC3 := Lib.hid hc3
      have HB45 := Lib.hid hb45
      clear hs3 hx3 hn3 hc3 hb4 hb5 hb45 HD3 cS cX0 cX1 cX2 lS lX
      go_upto_region 9 with fail
      generalize (w4.alloc (Obj.cells #[Value.slice ao3 n3 c3] 24)).alloc (Obj.cells #[Value.string D3.2.1.nm, Value.slice fo3 fn3 fc3, Value.slice so3 sn3 sc3] 28) = W4 at *
      obtain ⟨t3, y3, e3⟩ := D3
      simp only at *
      go_wp2_with fail
      refine (gathered_any _).mono ?_
      rintro e w5 ⟨rfl, hb6⟩
      have HB5 := Lib.hid (below_step HB45.out hb6)
      by_cases he : e3 = 0
      · subst he
        obtain ⟨s1, x1, g1, g2, g3, g4, g5⟩ := HSNP.out rfl
        simp only [Prod.mk.injEq, and_true] at g1
        obtain ⟨rfl, rfl⟩ := g1
        have HS5 := Lib.hid (HS4.out.mono hb6)
        have HX5 := Lib.hid (HX4.out.mono hb6)
        have rS5 := (hb6.block _ (lt_heap rS)).trans rS
        have rX5 := (hb6.block _ (lt_heap rX)).trans rX
        have HD5 := Lib.hid (do_any w5 ao3 fo3 so3 none n3 c3 fn3 fc3 sn3 sc3 0 0 t3 key y3 (snpA 8 dest) HN3.out (by have := HN3.out; have := HN.out; omega) HS5.out g3 HC3.out HX5.out g4 rfl (.inl rfl) ⟨Nat.le_refl _, fun _ => rfl⟩ (by simp [snpA, Byt]) (by omega))
        rw [g5] at HD5
        have cS := cell_of_one rS5
        have cX0 := cell_of_block rX5 0
        have cX1 := cell_of_block rX5 1
        have cX2 := cell_of_block rX5 2
        simp only [List.getElem?_toArray, List.getElem?_cons_succ, List.getElem?_cons_zero] at cX0 cX1 cX2
        have lS := lt_heap rS5
        have lX := lt_heap rX5
        clear g2 g3 g4 g5 HSNP rS rX hb6
        go_wp2_with fail
        refine HD5.out.mono ?_
        rintro e w6 ⟨ao2, n2, c2, fo2, fn2, fc2, so2, sn2, sc2, rfl, hb4, hn2, hs2, hc2, hx2⟩
        have hb5 : Below w6.heap.size w6 ((w6.alloc (.cells #[.slice ao2 n2 c2] 24)).alloc (.cells #[.string x.nm, .slice fo2 fn2 fc2, .slice so2 sn2 sc2] 28)) := ((Below.refl _ _).alloc (Nat.le_refl _) _).alloc (by simp) _
        have zS := heap_alloc2_old w6 (.cells #[.slice ao2 n2 c2] 24) (.cells #[.string x.nm, .slice fo2 fn2 fc2, .slice so2 sn2 sc2] 28)
        have zX := heap_alloc2_new w6 (.cells #[.slice ao2 n2 c2] 24) (.cells #[.string x.nm, .slice fo2 fn2 fc2, .slice so2 sn2 sc2] 28)
        have hB := below_step HB5.out (below_step hb4 hb5)
        have HS6 := Lib.hid (hs2.mono hb5)
        have HX6 := Lib.hid (hx2.mono hb5).1
        have HN2 := Lib.hid hn2
        have HBB := Lib.hid hB
        have HPS3 := Lib.hid ((hB.block _ (lt_heap HPS2.out)).trans HPS2.out)
        have HPX3 := Lib.hid ((hB.block _ (lt_heap HPX2.out)).trans HPX2.out)
        have HS7 := Lib.hid (HS3.out.mono hB)
        have HX7 := Lib.hid (HX3.out.mono hB)
        clear hs2 hx2 hn2 hc2 hb4 hb5 hB HD5 cS cX0 cX1 cX2 lS lX rS5 rX5
        go_upto_region 12 with fail
        generalize (w6.alloc (Obj.cells #[Value.slice ao2 n2 c2] 24)).alloc (Obj.cells #[Value.string x.nm, Value.slice fo2 fn2 fc2, Value.slice so2 sn2 sc2] 28) = W6 at *
        have c0 := cell_of_block zX 0
        have c1' := cell_of_block zX 1
        have c2' := cell_of_block zX 2
        have d0 := cell_of_block HPX3.out 0
        have d1 := cell_of_block HPX3.out 1
        have d2 := cell_of_block HPX3.out 2
        simp only [List.getElem?_toArray, List.getElem?_cons_succ, List.getElem?_cons_zero] at c0 c1' c2' d0 d1 d2
        have l0 := lt_heap zX
        have l1 := lt_heap HPX3.out
        go_wp2_with fail
        refine (sameSet_any _ _ _ _ _ _ _ _ _ _ _ _ _ x x HX6.out HX7.out HFX.out HFX.out).mono ?_
        rw [isB_self]
        rintro e w7 ⟨rfl, hb6⟩
        have HS8 := Lib.hid (HS6.out.mono hb6)
        have HS9 := Lib.hid (HS7.out.mono hb6)
        have zS7 := (hb6.block _ (lt_heap zS)).trans zS
        have HPS4 := Lib.hid ((hb6.block _ (lt_heap HPS3.out)).trans HPS3.out)
        have HBB4 := Lib.hid (below_step HBB.out hb6)
        clear c0 c1' c2' d0 d1 d2 l0 l1 zX zS hb6
        have c0 := cell_of_one zS7
        have d0 := cell_of_one HPS4.out
        have l0 := lt_heap zS7
        have l1 := lt_heap HPS4.out
        go_wp2_with fail
        refine (same_any _ _ _ _ _ _ _ s s HN2.out HN.out (by have := HN2.out; have := HN.out; omega) (by omega) HS8.out HS9.out hwf hwf).mono ?_
        rw [show sameS s s = true from by unfold sameS; simp]
        rintro e w8 ⟨rfl, hb7⟩
        have hbF := below_step HBW.out (below_step HBB4.out hb7)
        clear c0 d0 l0 l1 hb7
        go_wp2_with fail
        go_ret
        exact ⟨rfl, hbF⟩
      · have he1 : (e3 != 0) = true := by rw [bne_iff_ne]; exact he
        clear he HSNP hb6
        go_wp2_with fail
        refine (gathered_any _).mono ?_
        rintro e w6 ⟨rfl, hb7⟩
        have hbF := below_step HBW.out (below_step HB5.out hb7)
        go_wp2_with fail
        go_ret
        exact ⟨rfl, hbF⟩
end Go.Proofs.Ytgeacpfenhaioaa
