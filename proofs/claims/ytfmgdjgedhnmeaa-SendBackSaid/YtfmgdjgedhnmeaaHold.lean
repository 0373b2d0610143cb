/- Names that rise: what is laid in and taken out again; a file that has another name, a snap that is made and goes. No program in sight. · What set.Do answers when it is right; there and back. No program in sight. · SetAround: a file that has another name, and then its own again, is as it was; a snap that is made and forgotten never was. · set.Clone makes a set of a snap; set.Destroy lets all go. · A store that holds another one's blocks and some roots more: how often a block can be held. No program in sight. · What is done to a set's store: held more, held less, turned; files that stay. No program in sight. · A set of one's own stays held, whatever is done to it. No program in sight. · A clone, and whatever is done to it. No program in sight. -/
import Derived.Deep.DeepCutAuto
import Derived.Test.YtfmgdjgedhnmeaaHeld
import Derived.Test.YtfmgdjgedhnmeaaGather
import Derived.Test.YtfmgdjgedhnmeaaFiled
import Derived.Test.YtfmgdjgedhnmeaaOpenX
namespace Go.Proofs.Ytfmgdjgedhnmeaa
open Go.RowKit
set_option linter.unusedVariables false

section
variable {α β : Type}
theorem insL_map (f : α → β) (l : List α) (k : Nat) (x : α) : (insL l k x).map f = insL (l.map f) k (f x) := by simp [insL, List.map_take, List.map_drop]
theorem erase_map (f : α → β) (l : List α) (k : Nat) : (l.eraseIdx k).map f = (l.map f).eraseIdx k := by simp [List.eraseIdx_eq_take_drop_succ, List.map_take, List.map_drop]
theorem insL_perm (l : List α) (k : Nat) (x : α) : (insL l k x).Perm (x :: l) := by
  have h := List.perm_middle (a := x) (l₁ := l.take k) (l₂ := l.drop k)
  rw [List.take_append_drop] at h
  exact h
theorem erase_insL (l : List α) (k : Nat) (x : α) (h : k ≤ l.length) : (insL l k x).eraseIdx k = l := by
  have e : (l.take k).length = k := by rw [List.length_take]; omega
  unfold insL
  rw [List.eraseIdx_append_of_length_le (by omega), e, Nat.sub_self, List.eraseIdx_cons_zero, List.take_append_drop]
theorem insL_get (l : List α) (k : Nat) (x : α) (h : k ≤ l.length) : (insL l k x)[k]? = some x := by
  have e : (l.take k).length = k := by rw [List.length_take]; omega
  unfold insL
  rw [List.getElem?_append_right (by omega), e, Nat.sub_self]
  rfl
theorem insL_self (l : List α) (k : Nat) (h : k < l.length) : insL (l.eraseIdx k) k l[k] = l := by
  have e : (l.take k).length = k := by rw [List.length_take]; omega
  rw [List.eraseIdx_eq_take_drop_succ]
  unfold insL
  rw [List.take_append_of_le_length (by omega), List.take_of_length_le (by omega), List.drop_append_of_le_length (by omega), List.drop_of_length_le (by omega), List.nil_append, List.getElem_cons_drop, List.take_append_drop]
theorem erase_perm (l : List α) (k : Nat) (h : k < l.length) : (l[k] :: l.eraseIdx k).Perm l := by
  have h1 := insL_perm (l.eraseIdx k) k l[k]
  rw [insL_self l k h] at h1
  exact h1.symm
end

theorem place_at {l : List ByteArray} (hr : Rising l) (i : Nat) (h : i < l.length) : placeN l l[i] = i := by
  have hp := List.pairwise_iff_getElem.1 hr
  refine placeN_is hr i (by omega) (fun j hj hji => hp j i hj h hji) fun j hj hij => ?_
  rcases Nat.lt_or_eq_of_le hij with h1 | h1
  · exact fun h2 => ltN_irrefl _ (ltN_trans h2 (hp i j h hj h1))
  · subst h1; exact ltN_irrefl _
theorem placeB_of {l : List ByteArray} {k : Nat} {nm : ByteArray} (h1 : placeN l nm = k) (h2 : l[k]? = some nm) : placeB l nm = true := by
  unfold placeB
  rw [h1, h2]
  simp
theorem place_mem {l : List ByteArray} (hr : Rising l) {nm : ByteArray} : placeB l nm = true ↔ nm ∈ l := by
  constructor
  · intro h
    obtain ⟨-, hl, e⟩ := placeB_lt h
    rw [← e]
    exact List.getElem_mem hl
  · intro h
    obtain ⟨i, hi, rfl⟩ := List.getElem_of_mem h
    exact placeB_of (place_at hr i hi) (List.getElem?_eq_getElem hi)
theorem place_not {l : List ByteArray} (hr : Rising l) {nm : ByteArray} : placeB l nm = false ↔ nm ∉ l := by
  rw [← place_mem hr]
  simp
theorem rising_ins {l : List ByteArray} {nm : ByteArray} (hr : Rising l) (hb : placeB l nm = false) : Rising (insL l (placeN l nm) nm) := by
  have hnot := (place_not hr).1 hb
  have hlo : ∀ a ∈ l.take (placeN l nm), ltN a nm := fun a ha => by
    obtain ⟨i, hi, rfl⟩ := List.getElem_of_mem ha
    rw [List.length_take] at hi
    rw [List.getElem_take]
    exact placeN_lt i (by omega) (by omega)
  have hhi : ∀ b ∈ l.drop (placeN l nm), ltN nm b := fun b hb => by
    obtain ⟨i, hi, rfl⟩ := List.getElem_of_mem hb
    rw [List.length_drop] at hi
    rw [List.getElem_drop]
    have h1 := placeN_ge (nm := nm) hr (placeN l nm + i) (by omega) (by omega)
    refine Classical.byContradiction fun h2 => hnot ?_
    rw [← ltN_conn h1 h2]
    exact List.getElem_mem _
  unfold insL Rising
  rw [List.pairwise_append]
  refine ⟨hr.sublist (List.take_sublist _ _), List.pairwise_cons.2 ⟨fun b hb => hhi b hb, hr.sublist (List.drop_sublist _ _)⟩, fun a ha b hb => ?_⟩
  rcases List.mem_cons.1 hb with rfl | hb
  · exact hlo a ha
  · exact ltN_trans (hlo a ha) (hhi b hb)
theorem place_ins {l : List ByteArray} {nm : ByteArray} (hr : Rising l) (hb : placeB l nm = false) : placeN (insL l (placeN l nm) nm) nm = placeN l nm ∧ placeB (insL l (placeN l nm) nm) nm = true := by
  have hk := placeN_le l nm
  have hg := insL_get l (placeN l nm) nm hk
  have hlt : placeN l nm < (insL l (placeN l nm) nm).length := by rw [insL_len _ _ _ hk]; omega
  have hn := place_at (rising_ins hr hb) _ hlt
  rw [List.getElem?_eq_getElem hlt, Option.some.injEq] at hg
  rw [hg] at hn
  exact ⟨hn, placeB_of hn (by rw [List.getElem?_eq_getElem hlt, hg])⟩
theorem place_erase {l : List ByteArray} (hr : Rising l) (k : Nat) (h : k < l.length) : placeN (l.eraseIdx k) l[k] = k ∧ placeB (l.eraseIdx k) l[k] = false := by
  have hp := List.pairwise_iff_getElem.1 hr
  have hre : Rising (l.eraseIdx k) := hr.erase k
  have hle : (l.eraseIdx k).length = l.length - 1 := by rw [List.length_eraseIdx, if_pos h]
  have hn : placeN (l.eraseIdx k) l[k] = k := by
    refine placeN_is hre k (by omega) (fun i hi hik => ?_) fun i hi hik => ?_
    · rw [List.getElem_eraseIdx, dif_pos hik]
      exact hp i k (by omega) h hik
    · rw [List.getElem_eraseIdx, dif_neg (by omega)]
      exact fun h2 => ltN_irrefl _ (ltN_trans h2 (hp k (i + 1) h (by omega) (by omega)))
  refine ⟨hn, (place_not hre).2 fun hm => ?_⟩
  obtain ⟨i, hi, e⟩ := List.getElem_of_mem hm
  rw [List.getElem_eraseIdx] at e
  split at e
  · rename_i h1
    have := hp i k (by omega) h h1
    rw [e] at this
    exact ltN_irrefl _ this
  · rename_i h1
    have := hp k (i + 1) h (by omega) (by omega)
    rw [e] at this
    exact ltN_irrefl _ this

/-- files stay as they are where blocks stay -/
theorem file_keeps {s t : List Blk} {M : Int} (hg : Good s M) (hkp : Keeps s t) (hchk : checkE t = 0) {key old z : Int} (hok : fileE s key old z = 0) : fileE t key old z = 0 ∧ fileB t key old z = fileB s key old z := by
  obtain ⟨hk, h1, hz, hct, hfb⟩ := fileE_ok hok
  obtain ⟨-, m, hm3, hm, hroot, -, -⟩ := checkT_ok hct
  obtain rfl : m = 3 := by omega
  have hlv : leavesF 3 t old = leavesF 3 s old := by
    unfold leavesF
    apply List.map_congr_left
    intro i hi
    exact leaf_keeps hg hkp 3 old i (by omega) hroot (List.mem_range.1 hi)
  have hct2 : checkT t old (3 : Nat) ((0 : Nat) : Int) = 0 := checkT_mk hchk (by omega) (hkp.root hroot) (show 0 < p4n 3 by decide)
  have hct2 : checkT t old 3 0 = 0 := hct2
  constructor
  · unfold fileE
    rw [if_neg (by simp [hk]), if_neg (by omega), if_neg (by simp [hct2]), hlv, hfb, if_neg (by simp)]
  · unfold fileB
    rw [hlv]
theorem EntsOk.keeps {s t : List Blk} {M : Int} (hg : Good s M) (hkp : Keeps s t) (hchk : checkE t = 0) {key : Int} {l : List Ent} (h : EntsOk s key l) : EntsOk t key l :=
  ⟨h.len, fun x hx => ⟨(h.each x hx).1, (file_keeps hg hkp hchk (h.each x hx).2).1⟩, h.rise⟩
/-- held, by counts -/
theorem held_iff {s : List Blk} {key : Int} {x : SetV} (hR : RightX s key x) : heldE s x = 0 ↔ ∀ j, j < s.length → (((rootsL x).count ((j : Int) + 1) : Nat) : Int) ≤ outA s j := by
  have hin := hR.roots
  have hgd : ∀ j, j < s.length → (outL s).getD j 0 = outA s j := fun j hj => by rw [outM_getD s j hj]; unfold outA; rw [blk_at s j hj]
  unfold heldE
  constructor
  · intro h j hj
    have hok : heldOk s (rootsL x) = true := by
      cases e : heldOk s (rootsL x) with
      | true => rfl
      | false => rw [e] at h; simp at h
    by_cases hm : ((j : Int) + 1) ∈ rootsL x
    · have h1 := List.all_eq_true.1 hok _ hm
      rw [show ((j : Int) + 1 - 1).toNat = j from by omega, hgd j hj] at h1
      simp only [Bool.or_eq_true, decide_eq_true_eq] at h1
      omega
    · rw [List.count_eq_zero.2 hm]
      have := out_nn hR.chk j hj
      omega
  · intro h
    rw [if_pos]
    unfold heldOk
    refine List.all_eq_true.2 fun a ha => ?_
    simp only [Bool.or_eq_true, decide_eq_true_eq]
    rcases hin a ha with h0 | ⟨h1, h2⟩
    · exact .inl h0
    · refine .inr ?_
      obtain ⟨j, rfl⟩ : ∃ j : Nat, a = j + 1 := ⟨(a - 1).toNat, by omega⟩
      rw [show ((j : Int) + 1 - 1).toNat = j from by omega, hgd j (by omega)]
      exact h j (by omega)
/-- a file that has another name, and then its own again -/
theorem move_back {s : List Blk} {key : Int} {l : List Ent} (hl : EntsOk s key l) {nm dest : ByteArray} {sn sn' : ByteArray} {p q p' q' : Int} {bs bs' : List Int} (he : (moveR s l ⟨6, sn, nm, dest, p, q, bs⟩).2.2 = 0) :
    (moveR s l ⟨6, sn, nm, dest, p, q, bs⟩).1 = s ∧ ∃ l1, (moveR s l ⟨6, sn, nm, dest, p, q, bs⟩).2.1 = l1 ∧ l1.length = l.length ∧ EntsOk s key l1 ∧ (rootsF l1).Perm (rootsF l) ∧ moveR s l1 ⟨6, sn', dest, nm, p', q', bs'⟩ = (s, l, 0) := by
  have hr := hl.rise
  unfold moveR at he ⊢
  simp only at he ⊢
  cases hb : placeB (l.map Ent.nm) nm with
  | false => rw [if_pos hb] at he; simp at he
  | true =>
  rw [if_neg (by simp [hb]), if_pos trivial] at he ⊢
  obtain ⟨-, hk, hke⟩ := placeB_lt hb
  generalize placeN (l.map Ent.nm) nm = k at hk hke he ⊢
  have hkl : k < l.length := by rwa [List.length_map] at hk
  rw [List.getElem_map] at hke
  have hea : entAt l k = l[k] := by unfold entAt; rw [List.getElem?_eq_getElem hkl]; rfl
  cases hd : nameB dest with
  | false => rw [if_pos hd] at he; simp at he
  | true =>
  rw [if_neg (by simp [hd])] at he ⊢
  cases hc : placeB (l.map Ent.nm) dest with
  | true => rw [if_pos hc] at he; simp at he
  | false =>
  rw [if_neg (by simp [hc])] at he ⊢
  have hnd := (place_not hr).1 hc
  have hre : Rising ((l.eraseIdx k).map Ent.nm) := by rw [erase_map]; exact hr.erase k
  have hde : placeB ((l.eraseIdx k).map Ent.nm) dest = false := (place_not hre).2 fun hm => hnd (by
    rw [erase_map] at hm
    exact (List.eraseIdx_sublist _ _).mem hm)
  have hle : (l.eraseIdx k).length = l.length - 1 := by rw [List.length_eraseIdx, if_pos hkl]
  have h6 := hl.len
  unfold layR at he ⊢
  rw [if_neg (by rw [hde]; simp), if_neg (by omega)] at he ⊢
  rw [hea]
  have hple : placeN ((l.eraseIdx k).map Ent.nm) dest ≤ (l.eraseIdx k).length := by have := placeN_le ((l.eraseIdx k).map Ent.nm) dest; rwa [List.length_map] at this
  have hins := place_ins hre hde
  have hri := rising_ins hre hde
  generalize hP : placeN ((l.eraseIdx k).map Ent.nm) dest = P at hple hins hri ⊢
  have hmap : (insL (l.eraseIdx k) P ⟨dest, l[k].root, l[k].size⟩).map Ent.nm = insL ((l.eraseIdx k).map Ent.nm) P dest := insL_map _ _ _ _
  refine ⟨rfl, _, rfl, by rw [insL_len _ _ _ hple, hle]; omega, ⟨by rw [insL_len _ _ _ hple, hle]; omega, fun x hx => ?_, by rw [hmap]; exact hri⟩, ?_, ?_⟩
  · rcases List.mem_cons.1 ((insL_perm _ _ _).mem_iff.1 hx) with rfl | hx
    · exact ⟨hd, (hl.each _ (List.getElem_mem hkl)).2⟩
    · exact hl.each x ((List.eraseIdx_sublist _ _).mem hx)
  · have h1 : (rootsF (insL (l.eraseIdx k) P ⟨dest, l[k].root, l[k].size⟩)).Perm (l[k].root :: rootsF (l.eraseIdx k)) := (insL_perm _ _ _).map Ent.root
    have h2 : (l[k].root :: rootsF (l.eraseIdx k)).Perm (rootsF l) := (erase_perm l k hkl).map Ent.root
    exact h1.trans h2
  · dsimp only
    have hnn : nm ∉ insL ((l.eraseIdx k).map Ent.nm) P dest := fun hm => by
      rcases List.mem_cons.1 ((insL_perm _ _ _).mem_iff.1 hm) with e | hm
      · exact hnd (by rw [← e, ← hke]; exact List.mem_map.2 ⟨_, List.getElem_mem hkl, rfl⟩)
      · have := place_erase hr k hk
        rw [List.getElem_map, hke, ← erase_map] at this
        exact (place_not hre).1 this.2 hm
    have hpe := place_erase hr k hk
    rw [List.getElem_map, hke, ← erase_map] at hpe
    have hent : entAt (insL (l.eraseIdx k) P ⟨dest, l[k].root, l[k].size⟩) P = ⟨dest, l[k].root, l[k].size⟩ := by unfold entAt; rw [insL_get _ _ _ hple]; rfl
    rw [hmap, hins.1, if_neg (by rw [hins.2]; simp), if_pos trivial, if_neg (by rw [← hke, (hl.each _ (List.getElem_mem hkl)).1]; simp), if_neg (by rw [(place_not hri).2 hnn]; simp), hent, erase_insL _ _ _ hple, if_neg (by rw [hpe.2]; simp), if_neg (by omega), hpe.1]
    simp only [Prod.mk.injEq, true_and, and_true]
    rw [← hke]
    exact insL_self l k hkl

end Go.Proofs.Ytfmgdjgedhnmeaa

namespace Go.Proofs.Ytfmgdjgedhnmeaa
open Go.RowKit
set_option linter.unusedVariables false

section
variable {wr : List Blk → Int → List Ent → AskV → List Blk × List Ent × Int} {s : List Blk} {key : Int} {x : SetV} {a : AskV}
end

theorem EntsOk.wf {s : List Blk} {key : Int} {l : List Ent} (h : EntsOk s key l) : WfL l := fun x hx => by
  obtain ⟨-, h0, h1, hc, -⟩ := fileE_ok (h.each x hx).2
  obtain ⟨hce, m, hm3, hm, hroot, -, -⟩ := checkT_ok hc
  have h4 := (checkE_zero s hce).1
  refine ⟨?_, by unfold I64; omega⟩
  rcases hroot with h | ⟨h, _⟩
  · rw [h]; unfold I64; omega
  · obtain ⟨k, hk, e, _⟩ := there_in h
    unfold I64; omega
theorem RightX.wf {s : List Blk} {key : Int} {x : SetV} (h : RightX s key x) : WfX x := ⟨h.files.wf, fun y hy => (h.snaps y hy).2.wf⟩

end Go.Proofs.Ytfmgdjgedhnmeaa

namespace Go.Proofs.Ytfmgdjgedhnmeaa
open Go.RowKit
set_option linter.unusedVariables false

end Go.Proofs.Ytfmgdjgedhnmeaa

namespace Go.Proofs.Ytfmgdjgedhnmeaa
open Go.RowKit
set_option linter.unusedVariables false

set_option maxRecDepth 100000 in
set_option maxHeartbeats 16000000 in
theorem clone_any (w : World) (ao fo so : Option Addr) (n cap fn fc sn sc : Nat) (s : List Blk) (key : Int) (x : SetV) (frm name : ByteArray) (hn : s.length = n) (h41 : n ≤ 2199023255552) (hs : StoRow w ao s) (hwf : WfS s) (hc : Capd ao n cap) (hx : SetIn w fo fn fc so sn sc x) (hwx : WfX x) :
    Calls Try.prog 33 #[.agg #[.slice ao n cap], .int .i64 key, .agg #[.string x.nm, .slice fo fn fc, .slice so sn sc], .string frm, .string name] w fun e w' => DoEnd e w w' (cloneR s key x frm name) := by
  have HN := Lib.hid hn
  have HC := Lib.hid hc
  have HX0 := Lib.hid hx
  have HWX := Lib.hid hwx
  obtain ⟨RD, hRD⟩ : ∃ RD, cloneR s key x frm name = RD := ⟨_, rfl⟩
  rw [hRD]
  have HRD := Lib.hid hRD
  obtain ⟨hb0, p0, p1, p3, p4, hz4⟩ := four_allocs w (.cells #[.slice ao n cap] 24) (.cells #[.string x.nm, .slice fo fn fc, .slice so sn sc] 28) (.cells #[.slice none 0 0] 24) (.cells #[.string ⟨#[]⟩, .slice none 0 0, .slice none 0 0] 28)
  have HZ4 := Lib.hid hz4
  clear hn hc hx hwx hRD hz4
  go_enter Try.func33, Try.ntmps33
  go_wp2_with fail
  have hs := hs.mono hb0
  have HX := Lib.hid (HX0.out.mono hb0)
  generalize (((w.alloc (Obj.cells #[Value.slice ao n cap] 24)).alloc (Obj.cells #[Value.string x.nm, Value.slice fo fn fc, Value.slice so sn sc] 28)).alloc (Obj.cells #[Value.slice none 0 0] 24)).alloc (Obj.cells #[Value.string ⟨#[]⟩, Value.slice none 0 0, Value.slice none 0 0] 28) = W0 at *
  refine (setCheck_any _ _ _ _ _ _ _ _ _ _ s key x HN.out (by omega) hs hwf HX.out HWX.out).mono ?_
  rintro e w1 ⟨rfl, hb1⟩
  have p0 := (hb1.block _ (lt_heap p0)).trans p0
  have p1 := (hb1.block _ (lt_heap p1)).trans p1
  have p3 := (hb1.block _ (lt_heap p3)).trans p3
  have p4 := (hb1.block _ (lt_heap p4)).trans p4
  have hs := hs.mono hb1
  have HX := Lib.hid (HX.out.mono hb1)
  have hbw := below_step hb0 hb1
  have c0 := cell_of_one p0
  have c10 := cell_of_block p1 0
  have c11 := cell_of_block p1 1
  have c12 := cell_of_block p1 2
  simp at c10 c11 c12
  have l0 := lt_heap p0
  have l1 := lt_heap p1
  have c3 := cell_of_one p3
  have f3 := free_of_one p3
  have c40 := cell_of_block p4 0
  have c41 := cell_of_block p4 1
  have c42 := cell_of_block p4 2
  simp at c40 c41 c42
  have f40 := free_of_block p4 0
  have f41 := free_of_block p4 1
  have f42 := free_of_block p4 2
  by_cases hce : setE s key x = 0
  rotate_left
  · have HR : Hid (RD = ([], noSet, setE s key x)) := Lib.hid (by rw [← HRD.out]; unfold cloneR; rw [if_pos hce])
    have he1 : (setE s key x != 0) = true := by rw [bne_iff_ne]; exact hce
    generalize setE s key x = ce at *
    clear hce hs HX HX0 HWX hb1 hwf HRD
    obtain ⟨z3, z4, zb, -⟩ := put_set p3 p4 (by omega) (.slice none 0 0) (.string ⟨#[]⟩) (.slice none 0 0) (.slice none 0 0)
    have hbz := zb _ _ hbw (by omega) (by omega)
    unfold putW at z3 z4 hbz
    have v3 := cell_of_one z3
    have v40 := cell_of_block z4 0
    have v41 := cell_of_block z4 1
    have v42 := cell_of_block z4 2
    simp at v40 v41 v42
    go_wp2_with fail
    refine bodyPost_ret (v := .tuple #[.agg #[.slice none 0 0], .agg #[.string ⟨#[]⟩, .slice none 0 0, .slice none 0 0], .int .i64 ce]) (by simp [results, Try.results33, go_sem, v3, v40, v41, v42]) rfl ?_
    rw [HR.out]
    exact doEnd_bad hbz
  rw [hce]
  have HCE := Lib.hid hce
  go_wp2_with fail
  refine (held_any _ _ _ _ _ _ _ _ _ _ s key x HN.out hs hwf HX.out hce).mono ?_
  rintro e w2 ⟨rfl, hb2⟩
  clear c0 c10 c11 c12 l0 l1 c3 f3 c40 c41 c42 f40 f41 f42
  have p0 := (hb2.block _ (lt_heap p0)).trans p0
  have p1 := (hb2.block _ (lt_heap p1)).trans p1
  have p3 := (hb2.block _ (lt_heap p3)).trans p3
  have p4 := (hb2.block _ (lt_heap p4)).trans p4
  have hs := hs.mono hb2
  have hbw := below_step hbw hb2
  have c0 := cell_of_one p0
  have c10 := cell_of_block p1 0
  have c11 := cell_of_block p1 1
  have c12 := cell_of_block p1 2
  simp at c10 c11 c12
  have l0 := lt_heap p0
  have l1 := lt_heap p1
  have c3 := cell_of_one p3
  have f3 := free_of_one p3
  have c40 := cell_of_block p4 0
  have c41 := cell_of_block p4 1
  have c42 := cell_of_block p4 2
  simp at c40 c41 c42
  have f40 := free_of_block p4 0
  have f41 := free_of_block p4 1
  have f42 := free_of_block p4 2
  by_cases hhe : heldE s x = 0
  rotate_left
  · have HR : Hid (RD = ([], noSet, heldE s x)) := Lib.hid (by rw [← HRD.out]; unfold cloneR; rw [if_neg (fun h => h HCE.out), if_pos hhe])
    have he1 : (heldE s x != 0) = true := by rw [bne_iff_ne]; exact hhe
    generalize heldE s x = ce at *
    clear hce hhe hs HX HX0 HWX hb1 hb2 hwf HRD
    obtain ⟨z3, z4, zb, -⟩ := put_set p3 p4 (by omega) (.slice none 0 0) (.string ⟨#[]⟩) (.slice none 0 0) (.slice none 0 0)
    have hbz := zb _ _ hbw (by omega) (by omega)
    unfold putW at z3 z4 hbz
    have v3 := cell_of_one z3
    have v40 := cell_of_block z4 0
    have v41 := cell_of_block z4 1
    have v42 := cell_of_block z4 2
    simp at v40 v41 v42
    go_wp2_with fail
    refine bodyPost_ret (v := .tuple #[.agg #[.slice none 0 0], .agg #[.string ⟨#[]⟩, .slice none 0 0, .slice none 0 0], .int .i64 ce]) (by simp [results, Try.results33, go_sem, v3, v40, v41, v42]) rfl ?_
    rw [HR.out]
    exact doEnd_bad hbz
  rw [hhe]
  have hAR : RD = if nameB name = false then ([], noSet, 1) else if placeB (x.snaps.map Snp.nm) frm = false then ([], noSet, 5) else (bump s (rootsF (snpAt x.snaps (placeN (x.snaps.map Snp.nm) frm)).files), ⟨name, (snpAt x.snaps (placeN (x.snaps.map Snp.nm) frm)).files, []⟩, 0) := by rw [← HRD.out]; unfold cloneR; rw [if_neg (fun h => h hce), if_neg (fun h => h hhe)]
  have HAR := Lib.hid hAR
  have HRX := Lib.hid (setE_ok hce)
  have HX2 := Lib.hid (HX0.out.mono hbw)
  have hz2 : w.heap.size + 4 ≤ w2.heap.size := by have h1 := hb1.size; have h2 := hb2.size; have h3 := HZ4.out; omega
  clear hce hhe hAR HRD hb1 hb2 HX
  go_wp2_with fail
  refine (name_any _ _).mono ?_
  rintro e w' ⟨rfl, rfl⟩
  cases hnb : nameB name with
  | false =>
    have HR : Hid (RD = ([], noSet, 1)) := Lib.hid (by rw [HAR.out, if_pos hnb])
    clear HAR hs HX0 HX2 hwf hnb
    obtain ⟨z3, z4, zb, -⟩ := put_set p3 p4 (by omega) (.slice none 0 0) (.string ⟨#[]⟩) (.slice none 0 0) (.slice none 0 0)
    have hbz := zb _ _ hbw (by omega) (by omega)
    unfold putW at z3 z4 hbz
    have v3 := cell_of_one z3
    have v40 := cell_of_block z4 0
    have v41 := cell_of_block z4 1
    have v42 := cell_of_block z4 2
    simp at v40 v41 v42
    go_wp2_with fail
    refine bodyPost_ret (v := .tuple #[.agg #[.slice none 0 0], .agg #[.string ⟨#[]⟩, .slice none 0 0, .slice none 0 0], .int .i64 1]) (by simp [results, Try.results33, go_sem, v3, v40, v41, v42]) rfl ?_
    rw [HR.out]
    exact doEnd_bad hbz
  | true =>
    have hAR := HAR.out
    rw [if_neg (by rw [hnb]; simp)] at hAR
    obtain ⟨PN, hPN⟩ : ∃ PN, placeN (x.snaps.map Snp.nm) frm = PN := ⟨_, rfl⟩
    obtain ⟨PB, hPB⟩ : ∃ PB, placeB (x.snaps.map Snp.nm) frm = PB := ⟨_, rfl⟩
    have HPLT : Hid (PB = true → PN < sn) := Lib.hid fun h => by rw [← hPN, ← HX2.out.slen]; have := (placeB_lt (hPB.trans h)).1; rwa [List.length_map] at this
    obtain ⟨vs, hvl, hvr, hvi⟩ := HX2.out.srow
    have hvn : vs.map Snv.nm = x.snaps.map Snp.nm := by
      apply List.ext_getElem
      · rw [List.length_map, List.length_map, hvl]
      · intro i h1 h2
        rw [List.getElem_map, List.getElem_map]
        exact (hvi i (by simpa using h1) (by simpa using h2)).1
    have HPL := Lib.hid (snap_any w' x.nm fo so fn fc sn sc vs frm (by rw [hvl]; exact HX2.out.slen) (by have := HRX.out.slen; have := HX2.out.slen; omega) hvr (by rw [hvn]; exact HRX.out.rise))
    rw [hvn, hPN, hPB] at HPL
    rw [hPN, hPB] at hAR
    have HAR2 := Lib.hid hAR
    clear HAR hAR hPN hPB hvn hnb
    go_wp2_with fail
    refine HPL.out.mono ?_
    rintro e w3 ⟨rfl, hb3⟩
    clear c0 c10 c11 c12 l0 l1 c3 f3 c40 c41 c42 f40 f41 f42
    have p0 := (hb3.block _ (lt_heap p0)).trans p0
    have p1 := (hb3.block _ (lt_heap p1)).trans p1
    have p3 := (hb3.block _ (lt_heap p3)).trans p3
    have p4 := (hb3.block _ (lt_heap p4)).trans p4
    have hbw0 := hbw
    have hbw := below_step hbw hb3
    have hs := hs.mono hb3
    have hz3 := hb3.size
    have c0 := cell_of_one p0
    have c10 := cell_of_block p1 0
    have c11 := cell_of_block p1 1
    have c12 := cell_of_block p1 2
    simp at c10 c11 c12
    have l0 := lt_heap p0
    have l1 := lt_heap p1
    have c3 := cell_of_one p3
    have f3 := free_of_one p3
    have c40 := cell_of_block p4 0
    have c41 := cell_of_block p4 1
    have c42 := cell_of_block p4 2
    simp at c40 c41 c42
    have f40 := free_of_block p4 0
    have f41 := free_of_block p4 1
    have f42 := free_of_block p4 2
    cases PB with
    | false =>
      have HR : Hid (RD = ([], noSet, 5)) := Lib.hid (by rw [HAR2.out, if_pos rfl])
      clear HAR2 hs HX0 HX2 hwf HPL hvl hvr hvi hbw0 hb3
      obtain ⟨z3, z4, zb, -⟩ := put_set p3 p4 (by omega) (.slice none 0 0) (.string ⟨#[]⟩) (.slice none 0 0) (.slice none 0 0)
      have hbz := zb _ _ hbw (by omega) (by omega)
      unfold putW at z3 z4 hbz
      have v3 := cell_of_one z3
      have v40 := cell_of_block z4 0
      have v41 := cell_of_block z4 1
      have v42 := cell_of_block z4 2
      simp at v40 v41 v42
      go_wp2_with fail
      refine bodyPost_ret (v := .tuple #[.agg #[.slice none 0 0], .agg #[.string ⟨#[]⟩, .slice none 0 0, .slice none 0 0], .int .i64 5]) (by simp [results, Try.results33, go_sem, v3, v40, v41, v42]) rfl ?_
      rw [HR.out]
      exact doEnd_bad hbz
    | true =>
      have hlt := HPLT.out rfl
      have hkl : PN < x.snaps.length := by have := HX2.out.slen; omega
      have hkv : PN < vs.length := by omega
      have hlt' : (PN : Int) < sn := by omega
      have hea : snpAt x.snaps PN = x.snaps[PN] := by unfold snpAt; rw [List.getElem?_eq_getElem hkl]; rfl
      have hR := HAR2.out
      rw [if_neg (by simp), hea] at hR
      obtain ⟨bq, oq, rfl, hq⟩ := SnvRow.at hvr PN hkv
      have hE := (hq PN hkv).mono hb3
      have hI := (hvi PN hkv hkl).mono hb3
      have HEO := Lib.hid (HRX.out.snaps _ (List.getElem_mem hkl)).2
      generalize x.snaps[PN] = y at *
      generalize vs[PN] = u at *
      obtain ⟨ynm, yl⟩ := y
      obtain ⟨unm, ua, um, uc⟩ := u
      obtain ⟨i1, i2, i3, i4⟩ := hI
      simp only at i1 i2 i3 i4 hR HEO
      subst i1
      have HR3 := Lib.hid hR
      have hb3w := hb3
      clear hvl hvr hvi hq hea hR HAR2 HPLT HPL
      go_wp2_with fail
      refine (copy_any _ _ _ _ s HN.out hs hwf HC.out (by omega)).mono ?_
      rintro e w4 ⟨v, rfl, ho, hb4⟩
      clear c0 c10 c11 c12 l0 l1 c3 f3 c40 c41 c42 f40 f41 f42
      have p0 := (hb4.block _ (lt_heap p0)).trans p0
      have p1 := (hb4.block _ (lt_heap p1)).trans p1
      have p3 := (hb4.block _ (lt_heap p3)).trans p3
      have p4 := (hb4.block _ (lt_heap p4)).trans p4
      have hbw4 := below_step hbw hb4
      have ho := ho.box p0 (by omega) v
      obtain ⟨a1, cap1, hv1, hc1, hr1⟩ := ho.sto
      rw [HN.out] at hv1 hc1
      subst hv1
      have c0 := cell_of_one p0
      have f0 := free_of_one p0
      have l0 := lt_heap p0
      have q0 := one_setCell (u := .slice a1 n cap1) p0
      have q1 : (w4.setCell ⟨w.heap.size, 0, none⟩ (.slice a1 n cap1)).heap[w.heap.size + 1]? = _ := heap_setCell_ne p1 (by simp)
      have q3 : (w4.setCell ⟨w.heap.size, 0, none⟩ (.slice a1 n cap1)).heap[w.heap.size + 1 + 1]? = _ := heap_setCell_ne p3 (by simp; omega)
      have q4 : (w4.setCell ⟨w.heap.size, 0, none⟩ (.slice a1 n cap1)).heap[w.heap.size + 1 + 1 + 1]? = _ := heap_setCell_ne p4 (by simp; omega)
      have hbw5 := hbw4.setCell (p := ⟨w.heap.size, 0, none⟩) (Nat.le_refl _) (.slice a1 n cap1)
      have hz5 : w3.heap.size ≤ (w4.setCell ⟨w.heap.size, 0, none⟩ (.slice a1 n cap1)).heap.size := by have := hb4.size; simpa using this
      have HSB := Lib.hid (HX2.out.srow)
      have d2 := cell_of_block q1 2
      simp at d2
      have m1 := lt_heap q1
      have hE5 : SnvAt (w4.setCell ⟨w.heap.size, 0, none⟩ (.slice a1 n cap1)) bq (oq + PN * 2) ⟨unm, ua, um, uc⟩ := by
        have hne : bq ≠ w.heap.size := by
          rintro rfl
          have h1 := (hE.mono hb4).sl
          have h2 := (hE.mono hb4).nm
          rw [cell_of_block p0] at h1 h2
          rcases (show oq + PN * 2 = 0 ∨ 1 ≤ oq + PN * 2 from by omega) with e | e
          · rw [e] at h2; simp at h2
          · rw [Array.getElem?_eq_none (by simp; omega)] at h2; cases h2
        have hk : ∀ j, (w4.setCell ⟨w.heap.size, 0, none⟩ (.slice a1 n cap1)).cell? ⟨bq, j, none⟩ = w4.cell? ⟨bq, j, none⟩ := fun j => World.cell?_of_block (a := ⟨bq, j, none⟩) (Below.heap_setCell _ _ _ _ hne)
        exact ⟨(hk _).trans (hE.mono hb4).nm, (hk _).trans (hE.mono hb4).sl⟩
      have e0 := hE5.nm
      have e1 := hE5.sl
      have le := hE5.lt
      have i3w : EntRow (w4.setCell ⟨w.heap.size, 0, none⟩ (.slice a1 n cap1)) ua yl := by
        rcases Nat.eq_zero_or_pos yl.length with h0 | h0
        · exact .inl (List.eq_nil_of_length_eq_zero h0)
        · have i4 := i3.mono hb4
          obtain ⟨b2, o2, h2, hl2, hc2⟩ := Kind.Row.at i4 h0
          have hne : b2 ≠ w.heap.size := by
            rintro rfl
            have hE2 := ent_cells hc2 0 h0
            have h1 := hE2.root
            rw [cell_of_block p0, Array.getElem?_eq_none (by simp)] at h1
            cases h1
          exact .inr ⟨b2, o2, h2, fun j v hj => (World.cell?_of_block (a := ⟨b2, o2 + j, none⟩) (Below.heap_setCell _ _ _ _ hne)).trans (hc2 j v hj)⟩
      have H6 := Lib.hid (show um ≤ 6 by have := HEO.out.len; omega)
      have HU2 := Lib.hid i2
      have HU4 := Lib.hid i4
      have HRW := Lib.hid i3w
      clear hr1 hb4 p0 p1 p3 p4 hs hc1 hE hE5 i2 i3 i4 i3w hbw0 hb3 hb3w
      go_wp2_with fail
      generalize w4.setCell ⟨w.heap.size, 0, none⟩ (.slice a1 n cap1) = W5 at *
      refine (clone_ents W5 ua um uc yl HU2.out.symm HRW.out HU4.out (by have := H6.out; omega)).mono ?_
      rintro e w6 ⟨vl, rfl, hown, hb6⟩
      obtain ⟨la, lc, hv, -, hlc, hl0⟩ := hown.row
      rw [← HU2.out] at hv hlc
      subst hv
      have HLC : Hid (Capd la um lc) := Lib.hid ⟨hlc, hl0⟩
      have q0 := (hb6.block _ (lt_heap q0)).trans q0
      have q3 := (hb6.block _ (lt_heap q3)).trans q3
      have q4 := (hb6.block _ (lt_heap q4)).trans q4
      have ho6 := ho.mono hb6
      have hbw6 := below_step hbw5 hb6
      have hz6 := hb6.size
      have hn4 : n ≤ 400 := by have := (checkE_zero s HRX.out.chk).1; have := HN.out; omega
      have hrow : ∀ g, s ≠ [] → a1 = some ⟨g, 0, none⟩ → w3.heap.size ≤ g ∧ g < W5.heap.size := fun g h1 h2 => ⟨(ho.own_at h1 h2).le, (ho.own_at h1 h2).lt⟩
      have hfar : EntFar (fun b => s ≠ [] ∧ a1 = some ⟨b, 0, none⟩) w6 la yl := by
        rcases Nat.eq_zero_or_pos yl.length with h0 | h0
        · exact .inl (List.eq_nil_of_length_eq_zero h0)
        · obtain ⟨g, hg, hgb, hgl, -, hgc⟩ := hown.blk h0
          exact .inr ⟨g, 0, hg, fun ⟨h1, h2⟩ => by have := hrow g h1 h2; omega, hgl, fun j v hj => by rw [Nat.zero_add]; exact hgc j v hj⟩
      have HKM := Lib.hid (keep_more w6 w.heap.size w3.heap.size a1 la n cap1 um lc s yl HN.out hn4 q0 ho6 (by omega) (fun g h1 h2 => by have := hrow g h1 h2; omega) (fun x hx => by have := (checkE_zero s HRX.out.chk).2.2.2.1 x hx; omega) HU2.out.symm H6.out hfar (by rw [← HN.out]; exact entsOk_roots HEO.out))
      have HOW := Lib.hid hown
      have HROW := Lib.hid hrow
      have HHB := Lib.hid hbw6
      clear c0 f0 l0 d2 m1 e0 e1 le hown hlc hl0 hfar hrow ho ho6 hb6 HRW hbw hbw4 hbw5
      have b0 := lt_heap q0
      go_wp2_with fail
      refine HKM.out.mono ?_
      rintro e w7 ⟨rfl, hI⟩
      have hlow : ∀ c, c < w3.heap.size → w7.heap[c]? = w6.heap[c]? := fun c hc => hI.below.block c hc
      have p0 := (hlow _ (by omega)).trans q0
      have p3 := (hlow _ (by omega)).trans q3
      have p4 := (hlow _ (by omega)).trans q4
      have hbw : Below w.heap.size w w7 := HHB.out.trans (hI.below.mono (by omega))
      have c0 := cell_of_one p0
      have l0 := lt_heap p0
      have c3 := cell_of_one p3
      have f3 := free_of_one p3
      have c40 := cell_of_block p4 0
      have c41 := cell_of_block p4 1
      have c42 := cell_of_block p4 2
      simp at c40 c41 c42
      have f40 := free_of_block p4 0
      have f41 := free_of_block p4 1
      have f42 := free_of_block p4 2
      obtain ⟨z3, z4, zb, -⟩ := put_set p3 p4 (by omega) (.slice a1 n cap1) (.string name) (.slice la um lc) (.slice none 0 0)
      have hbz := zb _ _ hbw (by omega) (by omega)
      obtain ⟨j1, j2, j3⟩ := hI.own.read
      have hsz := put_sto p3 p4 (by omega) (.slice a1 n cap1) (.string name) (.slice la um lc) (.slice none 0 0) j2
      have HSG := Lib.hid (fun g o e h => Nat.le_trans (show w.heap.size ≤ w3.heap.size by omega) (hI.own.from_ g o e h))
      have hown7 : entK.Own w7 W5.heap.size (.slice la um lc) yl := HOW.out.other fun g hg hl => hI.frame g hl fun g' h1 h2 => by have h3 := HROW.out g' h1 h2; have h5 := HOW.out; rw [hg] at h5; have h4 := h5.ge; omega
      have hox : OwnX w7 W5.heap.size la um lc none 0 0 ⟨name, yl, []⟩ [] := ⟨rfl, hown7, .inl ⟨rfl, rfl⟩, fun g _ h => (by cases h), fun i h => absurd h (by simp)⟩
      have hsf : SetFrom w.heap.size w7 la um lc none 0 0 ⟨name, yl, []⟩ := OwnX.from_ hox (by omega)
      have hsf2 : SetFrom w.heap.size (putW w7 (w.heap.size + 1 + 1) (w.heap.size + 1 + 1 + 1) (.slice a1 n cap1) (.string name) (.slice la um lc) (.slice none 0 0)) la um lc none 0 0 ⟨name, yl, []⟩ :=
        (OwnX.from_ hox (K := w3.heap.size) hz5).go (by rw [put_size]; exact Nat.le_refl _) (fun b hb _ => put_other b (by omega) (by omega)) |>.weaken (by omega)
      unfold putW at z3 z4 hbz hsz hsf2
      have v3 := cell_of_one z3
      have v40 := cell_of_block z4 0
      have v41 := cell_of_block z4 1
      have v42 := cell_of_block z4 2
      simp at v40 v41 v42
      have HSZ := Lib.hid hsz
      have HSF := Lib.hid hsf2
      have HJ1 := Lib.hid j1
      have HJ3 := Lib.hid j3
      clear zb hsz hsf hsf2 hox hown7 hI j1 j2 j3 HKM HOW hlow
      go_wp2_with fail
      refine bodyPost_ret (v := .tuple #[.agg #[.slice a1 n cap1], .agg #[.string name, .slice la um lc, .slice none 0 0], .int .i64 0]) (by simp [results, Try.results33, go_sem, v3, v40, v41, v42]) rfl ?_
      rw [HR3.out]
      exact ⟨a1, n, cap1, la, um, lc, none, 0, 0, rfl, hbz, HJ1.out, ⟨HSZ.out, HSG.out⟩, HJ3.out, HSF.out⟩

end Go.Proofs.Ytfmgdjgedhnmeaa

namespace Go.Proofs.Ytfmgdjgedhnmeaa
open Go.RowKit
set_option linter.unusedVariables false

theorem nodup_sub {α : Type} [DecidableEq α] : ∀ (A L : List α), A.Nodup → (∀ x ∈ A, x ∈ L) → A.length ≤ L.length
  | [], L, _, _ => Nat.zero_le _
  | a :: A, L, hn, hs => by
    obtain ⟨h1, h2⟩ := List.nodup_cons.1 hn
    have ha := hs a (List.mem_cons_self ..)
    have h3 := nodup_sub A (L.erase a) h2 fun x hx => (List.mem_erase_of_ne (fun e => h1 (by rw [← e]; exact hx))).2 (hs x (List.mem_cons_of_mem _ hx))
    rw [List.length_erase_of_mem ha] at h3
    have := List.length_pos_of_mem ha
    simp only [List.length_cons]
    omega

/-- the block at an index -/
def atB (s : List Blk) (i : Nat) : Blk := blk s ((i : Int) + 1)
theorem atB_get {s : List Blk} {i : Nat} (h : i < s.length) : atB s i = s[i] := blk_at s i h
theorem kids_sum (s : List Blk) (v : Int) : (kidsOf s).count v = ((List.range s.length).map fun i => (atB s i).kids.count v).sum := by
  have h : s = (List.range s.length).map fun i => atB s i := by
    apply List.ext_getElem
    · simp
    · intro i h1 h2
      rw [List.getElem_map, List.getElem_range, atB_get h1]
  unfold kidsOf
  conv => lhs; rw [h]
  rw [List.flatMap_map, List.count_flatMap]
  rfl
theorem sum_le (l : List Nat) (f g : Nat → Nat) (h : ∀ i ∈ l, f i ≤ g i) : (l.map f).sum ≤ (l.map g).sum := by
  induction l with
  | nil => simp
  | cons a l ih =>
    have h1 := h a (List.mem_cons_self ..)
    have h2 := ih fun i hi => h i (List.mem_cons_of_mem _ hi)
    simp only [List.map_cons, List.sum_cons]
    omega
theorem sum_add (l : List Nat) (f g : Nat → Nat) : (l.map fun i => f i + g i).sum = (l.map f).sum + (l.map g).sum := by
  induction l with
  | nil => simp
  | cons a l ih =>
    simp only [List.map_cons, List.sum_cons, ih]
    omega
theorem sum_few (l : List Nat) (g : Nat → Nat) (c : Nat) (h : ∀ i ∈ l, g i ≤ c) : (l.map g).sum ≤ c * (l.filter fun i => decide (0 < g i)).length := by
  induction l with
  | nil => simp
  | cons a l ih =>
    have h1 := h a (List.mem_cons_self ..)
    have h2 := ih fun i hi => h i (List.mem_cons_of_mem _ hi)
    simp only [List.map_cons, List.sum_cons, List.filter_cons]
    by_cases e : 0 < g a
    · rw [if_pos (by simpa using e), List.length_cons, Nat.mul_add]
      omega
    · rw [if_neg (by simpa using e)]
      omega

/-- blocks of m that are not old -/
def newB (O : Nat → Bool) (m : List Blk) (i : Nat) : Bool := decide (0 < (atB m i).refs) && !O i
def newL (O : Nat → Bool) (m : List Blk) (l : Int) : List Nat := (List.range m.length).filter fun i => newB O m i && decide ((atB m i).level = l)
/-- blocks that have been there since s, without a break -/
structure OldIn (c s m : List Blk) (O : Nat → Bool) : Prop where
  live : ∀ i, O i = true → i < m.length ∧ 0 < (atB m i).refs ∧ (atB m i).kids = (atB s i).kids
  base : ∀ i, i < m.length → 0 < (atB c i).refs → O i = true
  closed : ∀ i, O i = true → ∀ j : Nat, ((j : Int) + 1) ∈ (atB m i).kids → O j = true

/-- m holds s's blocks as s does, and the roots of R besides -/
structure Hold (s m : List Blk) (R : List Int) (M : Int) : Prop where
  good : Good m M
  len : m.length = s.length
  keeps : Keeps s m
  out : ∀ j, j < s.length → outA m j = outA s j + ((R.count ((j : Int) + 1) : Nat) : Int)
  rt : ∀ r ∈ R, RootAt m 3 r

section
variable {s m : List Blk} {R : List Int} {M : Int}

theorem atB_live {i : Nat} (hi : i < m.length) (h : 0 < (atB m i).refs) : thereB m ((i : Int) + 1) = true := by
  rw [there_at m i hi, ← atB_get hi]
  simpa using h
theorem there_pos {a : Int} (h : thereB m a = true) : ∃ i : Nat, i < m.length ∧ a = (i : Int) + 1 ∧ 0 < (atB m i).refs := by
  obtain ⟨k, hk, e, hr⟩ := there_in h
  refine ⟨k, hk, e, ?_⟩
  rw [atB_get hk]
  rwa [List.getElem?_eq_getElem hk] at hr
/-- kids of a block that is there -/
theorem Good.kid_there (hg : Good m M) {i : Nat} (hi : i < m.length) {v : Int} (hv : v ∈ (atB m i).kids) (h0 : v ≠ 0) : 0 < (atB m i).refs ∧ 1 ≤ (atB m i).level ∧ (atB m i).level ≤ 3 ∧ (atB m i).kids.length = 4 ∧ thereB m v = true ∧ (blk m v).level = (atB m i).level - 1 := by
  rw [atB_get hi] at *
  rcases hg.forms _ (List.getElem_mem hi) with e | ⟨hr, ⟨_, e, _⟩ | ⟨h1, h2, h3, _, h5, _⟩⟩
  · rw [e] at hv; simp [noBlk] at hv
  · rw [e] at hv; cases hv
  · have := kid_of (List.all_eq_true.1 h5 v hv)
    rcases this with h | ⟨h6, h7⟩
    · exact absurd h h0
    · exact ⟨hr, h1, h2, h3, h6, h7⟩
theorem Good.kids4 (hg : Good m M) {i : Nat} (hi : i < m.length) : (atB m i).kids.length ≤ 4 := by
  rw [atB_get hi]
  rcases hg.forms _ (List.getElem_mem hi) with e | ⟨hr, ⟨_, e, _⟩ | ⟨h1, h2, h3, _⟩⟩
  · rw [e]; simp [noBlk]
  · rw [e]; simp
  · omega
/-- a free block is nobody's kid -/
theorem Good.no_kid (hg : Good s M) {v : Int} (h0 : v ≠ 0) (h : thereB s v = false) : (kidsOf s).count v = 0 := by
  rw [kids_sum]
  have h1 : ∀ i ∈ List.range s.length, (atB s i).kids.count v ≤ 0 := fun i hi => by
    rw [Nat.le_zero, List.count_eq_zero]
    intro hv
    have := (hg.kid_there (List.mem_range.1 hi) hv h0).2.2.2.2.1
    rw [h] at this
    cases this
  have := sum_le _ _ (fun _ => 0) h1
  have h2 : ((List.range s.length).map fun _ => 0).sum = 0 := by
    have := sum_few (List.range s.length) (fun _ => 0) 0 (fun _ _ => Nat.le_refl _)
    omega
  omega
theorem Good.free_out (hg : Good s M) {i : Nat} (hi : i < s.length) (h : (atB s i).refs ≤ 0) : outA s i = 0 := by
  have hf : thereB s ((i : Int) + 1) = false := by rw [there_at s i hi, ← atB_get hi]; simpa using h
  have hr : (atB s i).refs = 0 := by
    rw [atB_get hi] at h ⊢
    rcases hg.forms _ (List.getElem_mem hi) with e | ⟨hr, _⟩
    · rw [e]; rfl
    · omega
  have h1 := hg.no_kid (v := (i : Int) + 1) (by omega) hf
  unfold outA
  rw [h1]
  unfold atB at hr
  omega
end

section
variable {s m : List Blk} {R : List Int} {M M0 : Int} {O : Nat → Bool} {z : List Blk}

theorem newL_mem {l : Int} {i : Nat} : i ∈ newL O m l ↔ i < m.length ∧ 0 < (atB m i).refs ∧ O i = false ∧ (atB m i).level = l := by
  unfold newL newB
  simp only [List.mem_filter, List.mem_range, Bool.and_eq_true, decide_eq_true_eq, and_assoc, Bool.not_eq_true']
theorem newL_nodup (l : Int) : (newL O m l).Nodup := List.Pairwise.filter _ List.nodup_range

/-- a new block that is no root has a new one above it -/
theorem Hold.above (hs : Good s M0) (h : Hold s m R M) (hO : OldIn s z m O) {l : Int} {i : Nat} (hi : i ∈ newL O m l) (hR : ((i : Int) + 1) ∉ R) : ∃ p ∈ newL O m (l + 1), ((i : Int) + 1) ∈ (atB m p).kids := by
  obtain ⟨hil, hr, hz, hlv⟩ := newL_mem.1 hi
  have hlen := h.len
  have ho := h.out i (by omega)
  have hfree : (atB s i).refs ≤ 0 := by
    refine Classical.byContradiction fun hn => ?_
    have := hO.base i hil (by omega)
    rw [hz] at this
    cases this
  rw [hs.free_out (by omega) hfree, List.count_eq_zero.2 hR] at ho
  have hpos : 0 < (kidsOf m).count ((i : Int) + 1) := by
    unfold outA at ho
    unfold atB at hr
    omega
  obtain ⟨x, hx, hxv⟩ := List.mem_flatMap.1 (List.count_pos_iff.1 hpos)
  obtain ⟨p, hp, rfl⟩ := List.getElem_of_mem hx
  rw [← atB_get hp] at hxv
  obtain ⟨k1, k2, k3, k4, k5, k6⟩ := h.good.kid_there hp hxv (by omega)
  refine ⟨p, newL_mem.2 ⟨hp, k1, ?_, ?_⟩, hxv⟩
  · cases hop : O p with
    | false => rfl
    | true =>
      have := hO.closed p hop i hxv
      rw [hz] at this
      cases this
  · have : (blk m ((i : Int) + 1)).level = l := hlv
    omega

theorem cover {A B : List Nat} (hA : A.Nodup) (hB : ∀ p ∈ B, (atB m p).kids.length ≤ 4) (h : ∀ i ∈ A, ∃ p ∈ B, ((i : Int) + 1) ∈ (atB m p).kids) : A.length ≤ 4 * B.length := by
  have h1 : (A.map fun (i : Nat) => (i : Int) + 1).length ≤ (B.flatMap fun p => (atB m p).kids).length := by
    refine nodup_sub _ _ ?_ fun x hx => ?_
    · refine List.Pairwise.map _ (fun a b hab e => hab ?_) hA
      have : (a : Int) = b := by omega
      omega
    · obtain ⟨i, hi, rfl⟩ := List.mem_map.1 hx
      obtain ⟨p, hp, hv⟩ := h i hi
      exact List.mem_flatMap.2 ⟨p, hp, hv⟩
  have h2 : (B.flatMap fun p => (atB m p).kids).length ≤ 4 * B.length := by
    clear h1 h hA
    induction B with
    | nil => simp
    | cons p B ih =>
      have := hB p (List.mem_cons_self ..)
      have h3 := ih fun q hq => hB q (List.mem_cons_of_mem _ hq)
      simp only [List.flatMap_cons, List.length_append, List.length_cons]
      omega
  rw [List.length_map] at h1
  omega

/-- a root is nothing, old, or one of N -/
def RootsOf (O : Nat → Bool) (N R : List Int) : Prop := ∀ r ∈ R, r = 0 ∨ (∃ i : Nat, r = (i : Int) + 1 ∧ O i = true) ∨ r ∈ N

/-- how many new blocks there are of each level -/
theorem Hold.few (hs : Good s M0) (h : Hold s m R M) (hO : OldIn s z m O) {N : List Int} {k : Nat} (hN : N.length ≤ k) (hRN : RootsOf O N R) :
    (newL O m 3).length ≤ k ∧ (newL O m 2).length ≤ 4 * k ∧ (newL O m 1).length ≤ 16 * k := by
  have hlen := h.len
  have h3 : (newL O m 3).length ≤ k := by
    have h1 : ((newL O m 3).map fun (i : Nat) => (i : Int) + 1).length ≤ N.length := by
      refine nodup_sub _ _ ?_ fun x hx => ?_
      · refine List.Pairwise.map _ (fun a b hab e => hab ?_) (newL_nodup 3)
        have : (a : Int) = b := by omega
        omega
      · obtain ⟨i, hi, rfl⟩ := List.mem_map.1 hx
        obtain ⟨hil, hr, hz, hlv⟩ := newL_mem.1 hi
        by_cases hR : ((i : Int) + 1) ∈ R
        · rcases hRN _ hR with h0 | ⟨q, h0, h00⟩ | h0
          · omega
          · obtain rfl : i = q := by omega
            rw [hz] at h00
            cases h00
          · exact h0
        · obtain ⟨p, hp, hv⟩ := h.above hs hO hi hR
          obtain ⟨hpl, -, -, hplv⟩ := newL_mem.1 hp
          have := (h.good.kid_there hpl hv (by omega)).2.2.1
          omega
    rw [List.length_map] at h1
    omega
  have hk4 : ∀ l, ∀ p ∈ newL O m l, (atB m p).kids.length ≤ 4 := fun l p hp => h.good.kids4 (newL_mem.1 hp).1
  have hnR : ∀ l, l ≠ 3 → ∀ i ∈ newL O m l, ((i : Int) + 1) ∉ R := fun l hl i hi hR => by
    obtain ⟨hil, hr, hz, hlv⟩ := newL_mem.1 hi
    rcases h.rt _ hR with h0 | ⟨-, h0⟩
    · omega
    · have : (blk m ((i : Int) + 1)).level = l := hlv
      omega
  have h2 := cover (newL_nodup 2) (hk4 3) (fun i hi => h.above hs hO hi (hnR 2 (by omega) i hi))
  have h1 := cover (newL_nodup 1) (hk4 2) (fun i hi => h.above hs hO hi (hnR 1 (by omega) i hi))
  exact ⟨h3, by omega, by omega⟩

/-- how often a block is held, against z: c: how often at most an old one lies in one new block of level 1 -/
theorem Hold.refs_le {Mz : Int} (hs : Good s M0) (h : Hold s m R M) (hz : Good z Mz) (hzl : z.length = s.length) (hzo : ∀ j, j < s.length → outA s j ≤ outA z j) (hO : OldIn s z m O) {N : List Int} {k c : Nat} (hN : N.length ≤ k) (hRN : RootsOf O N R) (hc1 : 1 ≤ c) (hc4 : c ≤ 4)
    (hc : ∀ i ∈ newL O m 1, ∀ q : Nat, O q = true → (atB m i).kids.count ((q : Int) + 1) ≤ c) (j : Nat) (hj : j < s.length) :
    (O j = true → (atB m j).refs ≤ (atB z j).refs + ((R.count ((j : Int) + 1) : Nat) : Int) + 16 * c * k) ∧ (O j = false → (atB m j).refs ≤ ((R.count ((j : Int) + 1) : Nat) : Int) + 64 * k) := by
  obtain ⟨n3, n2, n1⟩ := h.few hs hO hN hRN
  have hlen := h.len
  have ho := h.out j hj
  have hv0 : ((j : Int) + 1) ≠ 0 := by omega
  -- the new blocks that have it
  have hsplit : ∀ i ∈ List.range s.length, (atB m i).kids.count ((j : Int) + 1) ≤ (if O j then (atB z i).kids.count ((j : Int) + 1) else 0) + (if newB O m i then (atB m i).kids.count ((j : Int) + 1) else 0) := fun i hi => by
    have hil := List.mem_range.1 hi
    by_cases hn : newB O m i = true
    · rw [if_pos hn]; omega
    · rw [if_neg hn]
      by_cases hv : ((j : Int) + 1) ∈ (atB m i).kids
      · have hr := (h.good.kid_there (by omega) hv hv0).1
        have hold : O i = true := by
          unfold newB at hn
          simp only [Bool.and_eq_true, decide_eq_true_eq, Bool.not_eq_true', not_and] at hn
          have := hn hr
          simpa using this
        rw [(hO.live i hold).2.2, if_pos (hO.closed i hold j hv)]
        omega
      · rw [List.count_eq_zero.2 hv]
        omega
  have hsum : (kidsOf m).count ((j : Int) + 1) ≤ ((List.range s.length).map fun i => if O j then (atB z i).kids.count ((j : Int) + 1) else 0).sum + ((List.range s.length).map fun i => if newB O m i then (atB m i).kids.count ((j : Int) + 1) else 0).sum := by
    rw [kids_sum m, hlen]
    have := sum_le _ _ _ hsplit
    rw [sum_add] at this
    exact this
  have hin : ∀ i ∈ (List.range s.length).filter (fun i => decide (0 < (if newB O m i then (atB m i).kids.count ((j : Int) + 1) else 0))), i ∈ newL O m ((blk m ((j : Int) + 1)).level + 1) := fun i hi => by
    simp only [List.mem_filter, List.mem_range, decide_eq_true_eq] at hi
    obtain ⟨hil, hp⟩ := hi
    by_cases hn : newB O m i = true
    · rw [if_pos hn] at hp
      have hv := List.count_pos_iff.1 hp
      have hk := h.good.kid_there (by omega) hv hv0
      unfold newB at hn
      simp only [Bool.and_eq_true, decide_eq_true_eq, Bool.not_eq_true'] at hn
      exact newL_mem.2 ⟨by omega, hn.1, hn.2, by omega⟩
    · rw [if_neg hn] at hp
      omega
  have hnd : ((List.range s.length).filter (fun i => decide (0 < (if newB O m i then (atB m i).kids.count ((j : Int) + 1) else 0)))).Nodup := List.Pairwise.filter _ List.nodup_range
  have hcnt := nodup_sub _ _ hnd hin
  have h4 : ∀ i ∈ List.range s.length, (if newB O m i then (atB m i).kids.count ((j : Int) + 1) else 0) ≤ 4 := fun i hi => by
    split
    · exact Nat.le_trans List.count_le_length (h.good.kids4 (by have := List.mem_range.1 hi; omega))
    · omega
  -- levels
  have hlvl : (newL O m ((blk m ((j : Int) + 1)).level + 1)).length ≤ 16 * k ∧ ((blk m ((j : Int) + 1)).level ≠ 0 → (newL O m ((blk m ((j : Int) + 1)).level + 1)).length ≤ 4 * k) := by
    have hl := h.good.lv.2 (blk m ((j : Int) + 1)) (by rw [blk_at m j (by omega)]; exact List.getElem_mem _)
    have hl0 := (h.good.lv.1 (blk m ((j : Int) + 1)) (by rw [blk_at m j (by omega)]; exact List.getElem_mem _)).1
    rcases (show (blk m ((j : Int) + 1)).level = 0 ∨ (blk m ((j : Int) + 1)).level = 1 ∨ (blk m ((j : Int) + 1)).level = 2 ∨ (blk m ((j : Int) + 1)).level = 3 from by omega) with e | e | e | e
    · rw [e]; exact ⟨n1, fun h => absurd rfl h⟩
    · rw [e]; exact ⟨by show (newL O m 2).length ≤ 16 * k; omega, fun _ => n2⟩
    · rw [e]; exact ⟨by show (newL O m 3).length ≤ 16 * k; omega, fun _ => by show (newL O m 3).length ≤ 4 * k; omega⟩
    · rw [e]
      have hz : newL O m (3 + 1) = [] := by
        rw [List.eq_nil_iff_forall_not_mem]
        intro i hi
        obtain ⟨hil, hr, -, hlv⟩ := newL_mem.1 hi
        have := h.good.lv.2 (atB m i) (by rw [atB_get (by omega)]; exact List.getElem_mem _)
        omega
      rw [hz]
      exact ⟨by simp, fun _ => by simp⟩
  have hs4 := sum_few _ _ 4 h4
  unfold outA at ho
  have hm : (blk m ((j : Int) + 1)) = atB m j := rfl
  have hss : (blk s ((j : Int) + 1)) = atB s j := rfl
  rw [hm, hss] at ho
  have h8 : ((16 * c : Nat) : Int) * (k : Int) = 16 * (c : Int) * (k : Int) := by rw [Int.natCast_mul]; rfl
  constructor
  · intro ht
    have hzk : ((List.range s.length).map fun i => if O j then (atB z i).kids.count ((j : Int) + 1) else 0).sum = (kidsOf z).count ((j : Int) + 1) := by
      rw [kids_sum z, hzl]
      simp only [ht, if_true]
    have hzj := hzo j hj
    unfold outA at hzj
    have hzz : (blk z ((j : Int) + 1)) = atB z j := rfl
    rw [hzz, hss] at hzj
    by_cases hl : (blk m ((j : Int) + 1)).level = 0
    · have hcc : ∀ i ∈ List.range s.length, (if newB O m i then (atB m i).kids.count ((j : Int) + 1) else 0) ≤ c := fun i hi => by
        by_cases hp : 0 < (if newB O m i then (atB m i).kids.count ((j : Int) + 1) else 0)
        · have hmem := hin i (List.mem_filter.2 ⟨hi, by simpa using hp⟩)
          rw [hl] at hmem
          have := hc i hmem _ ht
          split <;> omega
        · omega
      have h5 := sum_few _ _ c hcc
      have h6 := Nat.mul_le_mul_left c (Nat.le_trans hcnt hlvl.1)
      have h7 : c * (16 * k) = 16 * c * k := by rw [Nat.mul_comm 16 c, Nat.mul_assoc]
      omega
    · have h6 := hlvl.2 hl
      have h7 : 16 * k ≤ 16 * c * k := Nat.mul_le_mul_right k (by omega)
      omega
  · intro hf
    have hzk : ((List.range s.length).map fun i => if O j then (atB z i).kids.count ((j : Int) + 1) else 0).sum = 0 := by
      simp only [hf]
      have := sum_few (List.range s.length) (fun _ => 0) 0 (fun _ _ => Nat.le_refl _)
      simpa using this
    have hr : (atB s j).refs ≤ 0 := by
      refine Classical.byContradiction fun hn => ?_
      have := hO.base j (by omega) (by omega)
      rw [hf] at this
      cases this
    have hoz := hs.free_out hj hr
    unfold outA at hoz
    rw [hss] at hoz
    have := hlvl.1
    omega

/-- old ones stay old where all stays -/
theorem OldIn.keeps {t : List Blk} (hO : OldIn s z m O) (hk : Keeps m t) (hl : t.length = m.length) : OldIn s z t O := by
  refine ⟨fun i hi => ?_, fun i h1 h2 => hO.base i (by omega) h2, fun i hi j hj => ?_⟩
  all_goals
    obtain ⟨h1, h2, h3⟩ := hO.live i hi
    obtain ⟨k1, k2, k3, k4, k5⟩ := hk _ (atB_live h1 h2)
  · refine ⟨by omega, ?_, ?_⟩
    · unfold atB at h2 ⊢; omega
    · unfold atB at h3 ⊢; rw [k3]; exact h3
  · unfold atB at hj
    rw [k3] at hj
    exact hO.closed i hi j hj
/-- those that still are there -/
def stillB (O : Nat → Bool) (m : List Blk) (i : Nat) : Bool := O i && decide (0 < (atB m i).refs)
theorem OldIn.sub {u : List Blk} {Mu : Int} (hO : OldIn s z m O) (hs : Sub m u) (hg : Good u Mu) (hk : Keeps s u) (hl : u.length = s.length) : OldIn s z u (stillB O u) := by
  have hul := hs.len
  have hkids : ∀ i, i < u.length → 0 < (atB u i).refs → (atB u i).kids = (atB m i).kids := fun i h1 h2 => by
    rcases hs.each i (by omega) h1 with e | ⟨-, -, e⟩
    · rw [atB_get h1, e] at h2; simp [noBlk] at h2
    · rw [atB_get h1, atB_get (by omega), e]
  refine ⟨fun i hi => ?_, fun i h1 h2 => ?_, fun i hi j hj => ?_⟩
  · unfold stillB at hi
    simp only [Bool.and_eq_true, decide_eq_true_eq] at hi
    obtain ⟨h1, h2, h3⟩ := hO.live i hi.1
    exact ⟨by omega, hi.2, by rw [hkids i (by omega) hi.2]; exact h3⟩
  · unfold stillB
    have h3 := hk _ (atB_live (m := s) (by omega) h2)
    have h4 : 0 < (atB u i).refs := by
      have := h3.2.2.2.2
      unfold atB at h2 ⊢
      omega
    simp only [Bool.and_eq_true, decide_eq_true_eq]
    exact ⟨hO.base i (by omega) h2, h4⟩
  · unfold stillB at hi ⊢
    simp only [Bool.and_eq_true, decide_eq_true_eq] at hi ⊢
    have hil : i < u.length := by have := (hO.live i hi.1).1; omega
    have h5 := (hg.kid_there hil hj (by omega)).2.2.2.2.1
    obtain ⟨q, hq, e, hpos⟩ := there_pos h5
    obtain rfl : q = j := by omega
    rw [hkids i hil hi.2] at hj
    exact ⟨hO.closed i hi.1 q hj, hpos⟩
end
end Go.Proofs.Ytfmgdjgedhnmeaa

namespace Go.Proofs.Ytfmgdjgedhnmeaa
open Go.RowKit
set_option linter.unusedVariables false

section
variable {s m t : List Blk} {R ks : List Int} {M : Int}
theorem Hold.perm {R' : List Int} (h : Hold s m R M) (hp : R.Perm R') : Hold s m R' M :=
  ⟨h.good, h.len, h.keeps, fun j hj => by rw [h.out j hj, hp.count_eq], fun r hr => h.rt r (hp.mem_iff.2 hr)⟩
theorem Hold.less {M0 : Int} (hs : Good s M0) (ho : ∀ j, j < s.length → 0 ≤ outA s j) (h : Hold s m (ks ++ R) M) : Hold s (lessL m ks) R M ∧ Sub m (lessL m ks) := by
  have hlen := h.len
  have hlow : ∀ a ∈ ks, Low m 4 a := fun a ha => by
    have hr := h.rt a (List.mem_append.2 (.inl ha))
    rcases hr with h0 | ⟨h1, h2⟩
    · exact .inl h0
    · obtain ⟨i, hi, e, -⟩ := there_in h1
      exact .inr ⟨by omega, by omega, by omega⟩
  have hL : LooseOut m (lessL m ks) ks := looseOut_fold 4 (looseOut 4) ks m R h.good.lv.1 h.good.live hlow fun j hj => by
    have h1 := h.out j (by omega)
    have h2 := ho j (by omega)
    omega
  have hout : ∀ j, j < s.length → outA (lessL m ks) j = outA s j + ((R.count ((j : Int) + 1) : Nat) : Int) := fun j hj => by
    rw [hL.out j (by omega), h.out j hj, List.count_append]
    omega
  have hnn : ∀ j, j < s.length → 0 ≤ outA (lessL m ks) j := fun j hj => by
    rw [hout j hj]
    have := ho j hj
    omega
  have hg2 := good_sub h.good hL.sub fun j hj => hnn j (by omega)
  have hkp : Keeps s (lessL m ks) := keeps_less hs h.keeps h.len hL.sub hnn fun j hj => by rw [hout j hj]; omega
  refine ⟨⟨hg2, by rw [hL.sub.len]; exact h.len, hkp, hout, fun r hr => ?_⟩, hL.sub⟩
  have hrm := h.rt r (List.mem_append.2 (.inr hr))
  rcases hrm with h0 | ⟨h1, h2⟩
  · exact .inl h0
  · obtain ⟨i, hi, e, hpos⟩ := there_pos h1
    have hi2 : i < (lessL m ks).length := by rw [hL.sub.len]; exact hi
    have h3 := hout i (by omega)
    have h4 := ho i (by omega)
    have h5 : 0 < R.count ((i : Int) + 1) := by rw [← e]; exact List.count_pos_iff.2 hr
    have h6 : 0 < (atB (lessL m ks) i).refs := by
      unfold outA at h3 h4
      unfold atB
      omega
    have h7 := atB_live hi2 h6
    rw [← e] at h7
    refine .inr ⟨h7, ?_⟩
    have h8 := (sub_keeps hL.sub hg2 r h7).2.1
    omega

theorem Hold.turn {rt Mt : Int} (h : Hold s m R M) (ht : TurnAt m t rt Mt) : Hold s t (rt :: R) Mt := by
  have hlen := h.len
  refine ⟨ht.good, by rw [ht.len]; exact h.len, h.keeps.trans ht.keeps, fun j hj => ?_, fun r hr => ?_⟩
  · rw [ht.out j (by omega), h.out j hj, List.count_cons]
    by_cases e : rt = (j : Int) + 1
    · rw [if_pos e, e]; simp; omega
    · have : (rt == (j : Int) + 1) = false := by rw [beq_eq_false_iff_ne]; exact e
      rw [if_neg e, this]; simp
  · rcases List.mem_cons.1 hr with rfl | hr
    · exact ht.rt
    · exact ht.keeps.root (h.rt r hr)
end

/-- from m to m': more first, then less -/
structure Via (m m' : List Blk) : Prop where
  t : ∃ t M1 M2 M3, Good m M1 ∧ Keeps m t ∧ Good t M2 ∧ Sub t m' ∧ Good m' M3
theorem Via.leaves {m m' : List Blk} (h : Via m m') {r : Int} (h1 : RootAt m 3 r) (h2 : RootAt m' 3 r) : leavesF 3 m' r = leavesF 3 m r := by
  obtain ⟨t, M1, M2, M3, g1, g2, g3, g4, g5⟩ := h.t
  unfold leavesF
  apply List.map_congr_left
  intro i hi
  have hi := List.mem_range.1 hi
  rw [← leaf_keeps g1 g2 3 r i (by omega) h1 hi, leaf_keeps g5 (sub_keeps g4 g5) 3 r i (by omega) h2 hi]
theorem file_root {m : List Blk} {key r z : Int} (h : fileE m key r z = 0) : RootAt m 3 r := by
  obtain ⟨hk, h1, hz, hct, hfb⟩ := fileE_ok h
  obtain ⟨-, k, hm3, hm, hroot, -, -⟩ := checkT_ok hct
  obtain rfl : k = 3 := by omega
  exact hroot
theorem file_same {m m' : List Blk} {key r z : Int} (hchk : checkE m' = 0) (hr : RootAt m' 3 r) (hlv : leavesF 3 m' r = leavesF 3 m r) (hok : fileE m key r z = 0) : fileE m' key r z = 0 ∧ fileB m' key r z = fileB m key r z := by
  obtain ⟨hk, h1, hz, hct, hfb⟩ := fileE_ok hok
  have hct2 : checkT m' r (3 : Nat) ((0 : Nat) : Int) = 0 := checkT_mk hchk (by omega) hr (show 0 < p4n 3 by decide)
  have hct2 : checkT m' r 3 0 = 0 := hct2
  constructor
  · unfold fileE
    rw [if_neg (by simp [hk]), if_neg (by omega), if_neg (by simp [hct2]), hlv, hfb, if_neg (by simp)]
  · unfold fileB
    rw [hlv]

/-- the form of entries, their files aside -/
structure Shape (l : List Ent) : Prop where
  len : l.length ≤ 6
  names : ∀ x ∈ l, nameB x.nm = true
  rise : Rising (l.map Ent.nm)
structure ShapeX (key : Int) (y : SetV) : Prop where
  kok : keyE key 0 = 0
  nm : nameB y.nm = true
  files : Shape y.files
  slen : y.snaps.length ≤ 3
  snaps : ∀ z ∈ y.snaps, nameB z.nm = true ∧ Shape z.files
  rise : Rising (y.snaps.map Snp.nm)
theorem EntsOk.shape {m : List Blk} {key : Int} {l : List Ent} (h : EntsOk m key l) : Shape l := ⟨h.len, fun x hx => (h.each x hx).1, h.rise⟩
theorem RightX.shape {m : List Blk} {key : Int} {y : SetV} (h : RightX m key y) : ShapeX key y := ⟨h.kok, h.nm, h.files.shape, h.slen, fun z hz => ⟨(h.snaps z hz).1, (h.snaps z hz).2.shape⟩, h.rise⟩
/-- all entries of a set -/
def allE (y : SetV) : List Ent := y.files ++ y.snaps.flatMap Snp.files
theorem ShapeX.right {m : List Blk} {key : Int} {y : SetV} (h : ShapeX key y) (hc : checkE m = 0) (hf : ∀ e ∈ allE y, fileE m key e.root e.size = 0) : RightX m key y :=
  ⟨h.kok, hc, h.nm, ⟨h.files.len, fun x hx => ⟨h.files.names x hx, hf x (List.mem_append.2 (.inl hx))⟩, h.files.rise⟩, h.slen,
    fun z hz => ⟨(h.snaps z hz).1, (h.snaps z hz).2.len, fun x hx => ⟨(h.snaps z hz).2.names x hx, hf x (List.mem_append.2 (.inr (List.mem_flatMap.2 ⟨z, hz, hx⟩)))⟩, (h.snaps z hz).2.rise⟩, h.rise⟩
theorem RightX.all {m : List Blk} {key : Int} {y : SetV} (h : RightX m key y) : ∀ e ∈ allE y, fileE m key e.root e.size = 0 := fun e he => by
  rcases List.mem_append.1 he with h1 | h1
  · exact (h.files.each e h1).2
  · obtain ⟨z, hz, h2⟩ := List.mem_flatMap.1 h1
    exact ((h.snaps z hz).2.each e h2).2
theorem roots_all {y : SetV} {e : Ent} (he : e ∈ allE y) : e.root ∈ rootsL y := by
  unfold rootsL rootsS rootsF
  rcases List.mem_append.1 he with h1 | h1
  · exact List.mem_append.2 (.inl (List.mem_map.2 ⟨e, h1, rfl⟩))
  · obtain ⟨z, hz, h2⟩ := List.mem_flatMap.1 h1
    exact List.mem_append.2 (.inr (List.mem_flatMap.2 ⟨z, hz, List.mem_map.2 ⟨e, h2, rfl⟩⟩))

/-- at most c times does one old block lie in one new block of level 1 -/
def FewC (O : Nat → Bool) (m : List Blk) (c : Nat) : Prop := ∀ i ∈ newL O m 1, ∀ q : Nat, O q = true → (atB m i).kids.count ((q : Int) + 1) ≤ c
theorem few_four {O : Nat → Bool} {m : List Blk} {M : Int} (hg : Good m M) : FewC O m 4 := fun i hi q _ => Nat.le_trans List.count_le_length (hg.kids4 (newL_mem.1 hi).1)

/-- a store s below, and one, z, that says how often a block may be held -/
structure BaseOk (s z : List Blk) : Prop where
  chk : checkE s = 0
  wf : WfS s
  gz : Good z 999000
  len : z.length = s.length
  out : ∀ j, j < s.length → outA s j ≤ outA z j
theorem BaseOk.nn {s z : List Blk} (h : BaseOk s z) : ∀ j, j < s.length → 0 ≤ outA s j := fun j hj => out_nn h.chk j hj

/-- a set that is held upon s -/
structure SHold (s z m : List Blk) (key : Int) (y : SetV) (k c : Nat) : Prop where
  hold : Hold s m (rootsL y) 1000000
  right : RightX m key y
  old : ∃ O N, OldIn s z m O ∧ N.length ≤ k ∧ RootsOf O N (rootsL y) ∧ FewC O m c

theorem finish {s z m m' : List Blk} {key M : Int} {y' : SetV} {k c : Nat} {O : Nat → Bool} (hB : BaseOk s z) (hvia : Via m m') (hH : Hold s m' (rootsL y') M) (hsh : ShapeX key y') (hO : OldIn s z m' O) {N : List Int} (hN : N.length ≤ k) (hRN : RootsOf O N (rootsL y'))
    (hc1 : 1 ≤ c) (hc4 : c ≤ 4) (hcN : 16 * c * k + 24 ≤ 1000) (hkN : k ≤ 1000) (hC : FewC O m' c) (hf : ∀ e ∈ allE y', fileE m key e.root e.size = 0 ∨ (checkE m' = 0 → fileE m' key e.root e.size = 0)) :
    SHold s z m' key y' k c ∧ ∀ e ∈ allE y', fileE m key e.root e.size = 0 → fileB m' key e.root e.size = fileB m key e.root e.size := by
  have hgs := Good.of_check hB.chk hB.wf
  have hlen := hH.len
  have hzl := hB.len
  have hroots : (rootsL y').length ≤ 24 := by
    have h1 := hsh.files.len
    have h2 := rootsS_len y'.snaps fun z hz => (hsh.snaps z hz).2.len
    have h3 := hsh.slen
    unfold rootsL
    rw [List.length_append, rootsF_len]
    omega
  have hg : Good m' 1000000 := by
    refine ⟨hH.good.few, fun x hx => ⟨(hH.good.refs x hx).1, ?_⟩, hH.good.forms, hH.good.wf⟩
    obtain ⟨j, hj, rfl⟩ := List.getElem_of_mem hx
    obtain ⟨r1, r2⟩ := hH.refs_le hgs hB.gz hB.len hB.out hO hN hRN hc1 hc4 hC j (by omega)
    have hcnt : (rootsL y').count ((j : Int) + 1) ≤ (rootsL y').length := List.count_le_length
    rw [atB_get hj] at r1 r2
    have h9 : ((16 * c * k : Nat) : Int) = 16 * (c : Int) * (k : Int) := by rw [Int.natCast_mul, Int.natCast_mul]; rfl
    cases ht : O j with
    | true =>
      have h1 := r1 ht
      have h2 : (atB z j).refs ≤ 999000 := by rw [atB_get (by omega)]; exact (hB.gz.refs _ (List.getElem_mem _)).2
      omega
    | false =>
      have h1 := r2 ht
      omega
  have hH' : Hold s m' (rootsL y') 1000000 := ⟨hg, hH.len, hH.keeps, hH.out, hH.rt⟩
  have hchk : checkE m' = 0 := checkE_of m' hg.few (hg.form_ok (by omega)) fun j hj => by
    rw [hH.out j (by omega)]
    have := hB.nn j (by omega)
    omega
  have hsame : ∀ e ∈ allE y', fileE m key e.root e.size = 0 → fileE m' key e.root e.size = 0 ∧ fileB m' key e.root e.size = fileB m key e.root e.size := fun e he h0 => by
    have hr' := hH.rt _ (roots_all he)
    exact file_same hchk hr' (hvia.leaves (file_root h0) hr') h0
  refine ⟨⟨hH', hsh.right hchk fun e he => ?_, ⟨O, N, hO, hN, hRN, hC⟩⟩, fun e he h0 => (hsame e he h0).2⟩
  rcases hf e he with h | h
  · exact (hsame e he h).1
  · exact h hchk
end Go.Proofs.Ytfmgdjgedhnmeaa

namespace Go.Proofs.Ytfmgdjgedhnmeaa
open Go.RowKit
set_option linter.unusedVariables false

theorem FewC.sub {O : Nat → Bool} {t u : List Blk} {c : Nat} (h : FewC O t c) (hs : Sub t u) : FewC (stillB O u) u c := fun i hi q hq => by
  obtain ⟨hil, hr, hz, hlv⟩ := newL_mem.1 hi
  have hlu := hs.len
  have h1 := hs.each i (by omega) hil
  have hzO : O i = false := by
    unfold stillB at hz
    cases e : O i with
    | false => rfl
    | true => rw [e] at hz; simp at hz; omega
  have hqO : O q = true := by
    unfold stillB at hq
    simp only [Bool.and_eq_true] at hq
    exact hq.1
  rw [atB_get hil] at hr hlv ⊢
  rcases h1 with e | ⟨h2, h3, h4⟩
  · rw [e] at hr; simp [noBlk] at hr
  · have e1 : (u[i]'hil).kids = (t[i]'(by omega)).kids := by rw [h4]
    have e2 : (u[i]'hil).level = (t[i]'(by omega)).level := by rw [h4]
    rw [e1]
    have := h i (newL_mem.2 ⟨by omega, by rw [atB_get (by omega)]; omega, hzO, by rw [atB_get (by omega), ← e2]; exact hlv⟩) q hqO
    rwa [atB_get (by omega)] at this
theorem RootsOf.sub {O : Nat → Bool} {N R R' : List Int} {u : List Blk} (h : RootsOf O N R) (hR : ∀ r ∈ R', r ∈ R) (hrt : ∀ r ∈ R', RootAt u 3 r) : RootsOf (stillB O u) N R' := fun r hr => by
  rcases h r (hR r hr) with h0 | ⟨i, h1, h2⟩ | h0
  · exact .inl h0
  · rcases hrt r hr with h3 | ⟨h3, -⟩
    · exact .inl h3
    · obtain ⟨q, hq, e, hpos⟩ := there_pos h3
      obtain rfl : q = i := by omega
      refine .inr (.inl ⟨q, h1, ?_⟩)
      unfold stillB
      simp only [Bool.and_eq_true, decide_eq_true_eq]
      exact ⟨h2, hpos⟩
  · exact .inr (.inr h0)
theorem RootsOf.mem {O : Nat → Bool} {N R R' : List Int} (h : RootsOf O N R) (hR : ∀ r ∈ R', r ∈ R) : RootsOf O N R' := fun r hr => h r (hR r hr)

theorem turnW_ok {m : List Blk} {key root z : Int} {l : List Ent} {nm : ByteArray} {b : List Int} (h : (turnW m key l nm root z b).2.2 = 0) : (turnR m key root z b).2.2 = 0 ∧ turnW m key l nm root z b = layR (turnR m key root z b).1 l nm (turnR m key root z b).2.1 b.length := by
  unfold turnW at h ⊢
  generalize turnR m key root z b = T at h ⊢
  by_cases e : T.2.2 = 0
  · rw [if_neg (fun k => k e)]
    exact ⟨e, rfl⟩
  · rw [if_pos e] at h
    exact absurd h e
theorem old_ok {m : List Blk} {key : Int} {l : List Ent} (hl : EntsOk m key l) (hc : checkE m = 0) (hk : keyE key 0 = 0) (nm : ByteArray) : ∃ z : Nat, (oldF l nm).2 = z ∧ fileE m key (oldF l nm).1 z = 0 := by
  unfold oldF
  by_cases h : placeB (l.map Ent.nm) nm = true
  · rw [if_pos h]
    obtain ⟨-, hk1, -⟩ := placeB_lt h
    have hkl : placeN (l.map Ent.nm) nm < l.length := by rwa [List.length_map] at hk1
    have e : entAt l (placeN (l.map Ent.nm) nm) = l[placeN (l.map Ent.nm) nm] := by unfold entAt; rw [List.getElem?_eq_getElem hkl]; rfl
    rw [e]
    have h1 := (hl.each _ (List.getElem_mem hkl)).2
    refine ⟨(l[placeN (l.map Ent.nm) nm]).size.toNat, by have := (fileE_ok h1).2.1; simp only; omega, ?_⟩
    have := (fileE_ok h1).2.1
    rw [show (((l[placeN (l.map Ent.nm) nm]).size.toNat : Nat) : Int) = (l[placeN (l.map Ent.nm) nm]).size from by omega]
    exact h1
  · rw [if_neg h]
    exact ⟨0, rfl, (file_empty hc hk).1⟩
theorem writeW_ok {m : List Blk} {key : Int} {l : List Ent} {a : AskV} (hl : EntsOk m key l) (hc : checkE m = 0) (hk : keyE key 0 = 0) (hb : Byt a.bytes) (h : (writeW m key l a).2.2 = 0) :
    nameB a.file = true ∧ ∃ (z : Nat) (b : List Int), fileE m key (oldF l a.file).1 z = 0 ∧ Byt b ∧ b.length ≤ 256 ∧ (turnR m key (oldF l a.file).1 z b).2.2 = 0 ∧ writeW m key l a = layR (turnR m key (oldF l a.file).1 z b).1 l a.file (turnR m key (oldF l a.file).1 z b).2.1 b.length := by
  obtain ⟨z, hz, hf⟩ := old_ok hl hc hk a.file
  have hfl : (fileB m key (oldF l a.file).1 z).length ≤ 256 := by rw [fileB_len hf]; have := (fileE_ok hf).2.2.1; omega
  have hfb := fileB_byt m key (oldF l a.file).1 z
  unfold writeW at h ⊢
  rw [hz] at h ⊢
  cases hn : nameB a.file with
  | false => rw [if_pos hn] at h; simp at h
  | true =>
  rw [if_neg (by simp [hn])] at h ⊢
  by_cases h4 : a.kind = 4
  · rw [if_pos h4] at h ⊢
    by_cases hp : placeB (l.map Ent.nm) a.file = false
    · rw [if_pos hp] at h; simp at h
    · rw [if_neg hp] at h ⊢
      by_cases hr : a.n < 0 ∨ 256 < a.n
      · rw [if_pos hr] at h; simp at h
      · rw [if_neg hr] at h ⊢
        obtain ⟨g1, g2⟩ := turnW_ok h
        exact ⟨rfl, z, _, hf, cutL_byt hfb _, by rw [cutL_len]; omega, g1, g2⟩
  · rw [if_neg h4] at h ⊢
    by_cases he : (overR (fileB m key (oldF l a.file).1 z) a.at_ a.bytes).2 = 0
    · rw [if_neg (fun k => k he)] at h ⊢
      obtain ⟨g1, g2⟩ := turnW_ok h
      exact ⟨rfl, z, _, hf, overR_byt hfb hb, overR_len he hfl, g1, g2⟩
    · rw [if_pos he] at h
      exact absurd h he

theorem set_perm {α : Type} (l : List α) (k : Nat) (h : k < l.length) (e : α) : (l.set k e).Perm (e :: l.eraseIdx k) := by
  have h1 := erase_perm (l.set k e) k (by rw [List.length_set]; exact h)
  rw [List.getElem_set_self] at h1
  have h2 : (l.set k e).eraseIdx k = l.eraseIdx k := by
    rw [List.eraseIdx_eq_take_drop_succ, List.eraseIdx_eq_take_drop_succ, List.take_set_of_le (Nat.le_refl _), List.drop_set_of_lt (Nat.lt_succ_self _)]
  rw [h2] at h1
  exact h1.symm

/-- what lay does to the entries -/
theorem lay_ok {t : List Blk} {l : List Ent} {nm : ByteArray} {rt z : Int} (hsh : Shape l) (hn : nameB nm = true) (h : (layR t l nm rt z).2.2 = 0) :
    Shape (layR t l nm rt z).2.1 ∧ ∃ x : Ent, x.root = rt ∧ x.size = z ∧ ((∃ o : Ent, o ∈ l ∧ (layR t l nm rt z).1 = looseF 4 t o.root ∧ (∀ e ∈ (layR t l nm rt z).2.1, e = x ∨ e ∈ l) ∧ (rt :: rootsF l).Perm (o.root :: rootsF (layR t l nm rt z).2.1)) ∨
      ((layR t l nm rt z).1 = t ∧ (∀ e ∈ (layR t l nm rt z).2.1, e = x ∨ e ∈ l) ∧ (rt :: rootsF l).Perm (rootsF (layR t l nm rt z).2.1))) := by
  unfold layR at h ⊢
  by_cases hb : placeB (l.map Ent.nm) nm = true
  · rw [if_pos hb]
    obtain ⟨-, hk, hke⟩ := placeB_lt hb
    generalize placeN (l.map Ent.nm) nm = k at hk hke ⊢
    have hkl : k < l.length := by rwa [List.length_map] at hk
    rw [List.getElem_map] at hke
    have hea : entAt l k = l[k] := by unfold entAt; rw [List.getElem?_eq_getElem hkl]; rfl
    rw [hea]
    have hmem : ∀ e ∈ l.set k ⟨l[k].nm, rt, z⟩, e = ⟨l[k].nm, rt, z⟩ ∨ e ∈ l := fun e he => (List.mem_or_eq_of_mem_set he).symm
    have hmap : (l.set k ⟨l[k].nm, rt, z⟩).map Ent.nm = l.map Ent.nm := by
      rw [List.map_set]
      apply List.ext_getElem
      · simp
      · intro i h1 h2
        rw [List.getElem_set]
        split
        · rename_i e; subst e; simp
        · rfl
    refine ⟨⟨by simp only [List.length_set]; exact hsh.len, fun e he => ?_, by simp only; rw [hmap]; exact hsh.rise⟩, ⟨l[k].nm, rt, z⟩, rfl, rfl, .inl ⟨l[k], List.getElem_mem hkl, rfl, hmem, ?_⟩⟩
    · rcases hmem e he with rfl | h1
      · show nameB l[k].nm = true
        exact hsh.names _ (List.getElem_mem hkl)
      · exact hsh.names e h1
    · have h1 : (rootsF (l.set k ⟨l[k].nm, rt, z⟩)).Perm (rt :: rootsF (l.eraseIdx k)) := (set_perm l k hkl _).map Ent.root
      have h2 : (l[k].root :: rootsF (l.eraseIdx k)).Perm (rootsF l) := (erase_perm l k hkl).map Ent.root
      have h3 : (rt :: l[k].root :: rootsF (l.eraseIdx k)).Perm (l[k].root :: rt :: rootsF (l.eraseIdx k)) := List.Perm.swap _ _ _
      exact ((h2.symm.cons rt).trans h3).trans (h1.symm.cons l[k].root)
  · rw [if_neg hb] at h ⊢
    have hb' : placeB (l.map Ent.nm) nm = false := by simpa using hb
    by_cases h6 : l.length = 6
    · rw [if_pos h6] at h; simp at h
    · rw [if_neg h6]
      have hple : placeN (l.map Ent.nm) nm ≤ l.length := by have := placeN_le (l.map Ent.nm) nm; rwa [List.length_map] at this
      have hri := rising_ins hsh.rise hb'
      generalize placeN (l.map Ent.nm) nm = P at hple hri ⊢
      have hp := insL_perm l P ⟨nm, rt, z⟩
      have hmem : ∀ e ∈ insL l P ⟨nm, rt, z⟩, e = ⟨nm, rt, z⟩ ∨ e ∈ l := fun e he => List.mem_cons.1 (hp.mem_iff.1 he)
      refine ⟨⟨by simp only; rw [insL_len _ _ _ hple]; have := hsh.len; omega, fun e he => ?_, by simp only; rw [insL_map]; exact hri⟩, ⟨nm, rt, z⟩, rfl, rfl, .inr ⟨rfl, hmem, ?_⟩⟩
      · rcases hmem e he with rfl | h1
        · exact hn
        · exact hsh.names e h1
      · have h1 : (rootsF (insL l P ⟨nm, rt, z⟩)).Perm (rt :: rootsF l) := hp.map Ent.root
        exact h1.symm

section
variable {s z m : List Blk} {key : Int} {y : SetV} {k c : Nat}
/-- bytes are written, or a file is cut -/
theorem step_write (hB : BaseOk s z) (h : SHold s z m key y k c) (hc1 : 1 ≤ c) (hc4 : c ≤ 4) (hcN : 16 * c * (k + 1) + 24 ≤ 1000) (hkN : k + 1 ≤ 1000) {a : AskV} (hb : Byt a.bytes)
    (hFT : ∀ O root (sz : Nat) b, OldIn s z m O → FewC O m c → fileE m key root sz = 0 → Byt b → b.length ≤ 256 → (turnR m key root sz b).2.2 = 0 → FewC O (turnR m key root sz b).1 c) (hd : (writeW m key y.files a).2.2 = 0) :
    SHold s z (writeW m key y.files a).1 key { y with files := (writeW m key y.files a).2.1 } (k + 1) c ∧ ∀ e ∈ allE { y with files := (writeW m key y.files a).2.1 }, fileE m key e.root e.size = 0 → fileB (writeW m key y.files a).1 key e.root e.size = fileB m key e.root e.size := by
  have hR := h.right
  have hgs := Good.of_check hB.chk hB.wf
  have hnn := hB.nn
  obtain ⟨O, N, hO, hN, hRN, hFC0⟩ := h.old
  obtain ⟨hn, sz, b, hf, hbb, hbl, hte, heq⟩ := writeW_ok hR.files hR.chk hR.kok hb hd
  have hFC := hFT O _ sz b hO hFC0 hf hbb hbl hte
  have hT := turnR_ok h.hold.good.wf hf (fun x hx => (h.hold.good.refs x hx).2) (by omega) (by omega) hbb hbl hte
  rw [heq] at hd ⊢
  generalize turnR m key (oldF y.files a.file).1 sz b = T at hT hFC hte hd heq ⊢
  obtain ⟨t, rt, te⟩ := T
  simp only at hT hFC hte hd ⊢
  obtain ⟨hsh, x, hx1, hx2, hcase⟩ := lay_ok hR.files.shape hn hd
  have hHt := h.hold.turn hT.at_
  have hOt := hO.keeps hT.at_.keeps hT.at_.len
  have hRN1 : RootsOf O (rt :: N) (rt :: rootsL y) := fun r hr => by
    rcases List.mem_cons.1 hr with rfl | hr
    · exact .inr (.inr (List.mem_cons_self ..))
    · rcases hRN r hr with h0 | h0 | h0
      · exact .inl h0
      · exact .inr (.inl h0)
      · exact .inr (.inr (List.mem_cons_of_mem _ h0))
  -- the new file
  have hleafs : ∀ {u : List Blk} {M' : Int}, Good u M' → Keeps u t → RootAt u 3 rt → checkE u = 0 → fileE u key rt b.length = 0 := fun {u M'} hgu hku hru hcu => by
    refine (file_made hcu hru hR.kok hbb hbl fun j hj => ?_).1
    rw [← leaf_keeps hgu hku 3 rt j (by omega) hru hj]
    exact hT.leaf j hj
  have hshX : ShapeX key { y with files := (layR t y.files a.file rt b.length).2.1 } := ⟨hR.kok, hR.nm, hsh, hR.slen, hR.shape.snaps, hR.rise⟩
  have hall := hR.all
  rcases hcase with ⟨o, ho, g1, g2, g3⟩ | ⟨g1, g2, g3⟩
  · -- what was there is let go
    have hp : (rt :: rootsL y).Perm ([o.root] ++ rootsL { y with files := (layR t y.files a.file rt b.length).2.1 }) := by
      unfold rootsL
      have := g3.append_right (rootsS y.snaps)
      simpa using this
    obtain ⟨hH2, hsub⟩ := Hold.less hgs hnn (hHt.perm hp)
    have e1 : lessL t [o.root] = looseF 4 t o.root := rfl
    rw [e1, ← g1] at hH2 hsub
    have hvia : Via m (layR t y.files a.file rt b.length).1 := ⟨t, _, _, _, h.hold.good, hT.at_.keeps, hT.at_.good, hsub, hH2.good⟩
    have hk2 := sub_keeps hsub hH2.good
    have hfin := finish (k := k + 1) (c := c) hB hvia hH2 hshX (hOt.sub hsub hH2.good hH2.keeps hH2.len) (N := rt :: N) (by simp only [List.length_cons]; omega) (hRN1.sub (fun r hr => hp.mem_iff.2 (List.mem_append.2 (.inr hr))) hH2.rt) hc1 hc4 hcN hkN (hFC.sub hsub) (fun e he => ?_)
    · exact hfin
    · rcases List.mem_append.1 he with h1 | h1
      · rcases g2 e h1 with rfl | h2
        · right
          intro hck
          rw [hx1, hx2]
          refine hleafs hH2.good hk2 (hH2.rt rt ?_) hck
          have := roots_all he
          rwa [hx1] at this
        · exact .inl (hall e (List.mem_append.2 (.inl h2)))
      · exact .inl (hall e (List.mem_append.2 (.inr h1)))
  · have hp : (rt :: rootsL y).Perm (rootsL { y with files := (layR t y.files a.file rt b.length).2.1 }) := by
      unfold rootsL
      have := g3.append_right (rootsS y.snaps)
      simpa using this
    have hH2 : Hold s (layR t y.files a.file rt b.length).1 (rootsL { y with files := (layR t y.files a.file rt b.length).2.1 }) (1000000 + 833) := by rw [g1]; exact hHt.perm hp
    have hvia : Via m (layR t y.files a.file rt b.length).1 := by rw [g1]; exact ⟨t, _, _, _, h.hold.good, hT.at_.keeps, hT.at_.good, Sub.refl hT.at_.good.live, hT.at_.good⟩
    have hfin := finish (k := k + 1) (c := c) hB hvia hH2 hshX (by rw [g1]; exact hOt) (N := rt :: N) (by simp only [List.length_cons]; omega) (hRN1.mem fun r hr => hp.mem_iff.2 hr) hc1 hc4 hcN hkN (by rw [g1]; exact hFC) (fun e he => ?_)
    · exact hfin
    · rcases List.mem_append.1 he with h1 | h1
      · rcases g2 e h1 with rfl | h2
        · right
          intro hck
          rw [hx1, hx2]
          refine hleafs hH2.good (by rw [g1]; exact Keeps.refl t) (hH2.rt rt ?_) hck
          have := roots_all he
          rwa [hx1] at this
        · exact .inl (hall e (List.mem_append.2 (.inl h2)))
      · exact .inl (hall e (List.mem_append.2 (.inr h1)))

theorem Sub.via {m m' : List Blk} {M M' : Int} (hg : Good m M) (hs : Sub m m') (hg' : Good m' M') : Via m m' := ⟨m, M, M, M', hg, Keeps.refl m, hg, hs, hg'⟩

/-- a file goes, or has another name -/
theorem step_move (hB : BaseOk s z) (h : SHold s z m key y k c) (hc1 : 1 ≤ c) (hc4 : c ≤ 4) (hcN : 16 * c * k + 24 ≤ 1000) (hkN : k ≤ 1000) {a : AskV} (hd : (moveR m y.files a).2.2 = 0) :
    SHold s z (moveR m y.files a).1 key { y with files := (moveR m y.files a).2.1 } k c ∧ ∀ e ∈ allE { y with files := (moveR m y.files a).2.1 }, fileE m key e.root e.size = 0 → fileB (moveR m y.files a).1 key e.root e.size = fileB m key e.root e.size := by
  have hR := h.right
  have hgs := Good.of_check hB.chk hB.wf
  have hnn := hB.nn
  obtain ⟨O, N, hO, hN, hRN, hFC⟩ := h.old
  by_cases h6 : a.kind = 6
  · obtain ⟨kind, sn, nm, dest, p, q, bs⟩ := a
    simp only at h6
    subst h6
    obtain ⟨g1, l1, g2, g3, g4, g5, -⟩ := move_back (sn' := sn) (p' := p) (q' := q) (bs' := bs) hR.files hd
    rw [g1, g2]
    have hp : (rootsL y).Perm (rootsL { y with files := l1 }) := by
      unfold rootsL
      exact g5.symm.append_right _
    refine ⟨⟨h.hold.perm hp, ⟨hR.kok, hR.chk, hR.nm, g4, hR.slen, hR.snaps, hR.rise⟩, ⟨O, N, hO, hN, hRN.mem fun r hr => hp.mem_iff.2 hr, hFC⟩⟩, fun e _ _ => rfl⟩
  · unfold moveR at hd ⊢
    by_cases hb : placeB (y.files.map Ent.nm) a.file = false
    · rw [if_pos hb] at hd; simp at hd
    · rw [if_neg hb, if_neg h6]
      have hb' : placeB (y.files.map Ent.nm) a.file = true := by simpa using hb
      obtain ⟨-, hk, hke⟩ := placeB_lt hb'
      generalize placeN (y.files.map Ent.nm) a.file = q at hk hke ⊢
      have hkl : q < y.files.length := by rwa [List.length_map] at hk
      have hea : entAt y.files q = y.files[q] := by unfold entAt; rw [List.getElem?_eq_getElem hkl]; rfl
      rw [hea]
      simp only
      have hp : (rootsL y).Perm ([(y.files[q]).root] ++ rootsL { y with files := y.files.eraseIdx q }) := by
        unfold rootsL
        have h2 : ((y.files[q]).root :: rootsF (y.files.eraseIdx q)).Perm (rootsF y.files) := (erase_perm y.files q hkl).map Ent.root
        have := h2.symm.append_right (rootsS y.snaps)
        simpa using this
      obtain ⟨hH2, hsub⟩ := Hold.less hgs hnn (h.hold.perm hp)
      have e1 : lessL m [(y.files[q]).root] = looseF 4 m (y.files[q]).root := rfl
      rw [e1] at hH2 hsub
      have hsh : Shape (y.files.eraseIdx q) := ⟨by rw [List.length_eraseIdx]; have := hR.files.len; split <;> omega, fun e he => (hR.files.each e ((List.eraseIdx_sublist _ _).mem he)).1, by rw [erase_map]; exact hR.files.rise.erase q⟩
      exact finish hB (hsub.via h.hold.good hH2.good) hH2 ⟨hR.kok, hR.nm, hsh, hR.slen, hR.shape.snaps, hR.rise⟩ (hO.sub hsub hH2.good hH2.keeps hH2.len) hN (hRN.sub (fun r hr => hp.mem_iff.2 (List.mem_append.2 (.inr hr))) hH2.rt) hc1 hc4 hcN hkN (hFC.sub hsub) (fun e he => .inl (hR.all e (by
        rcases List.mem_append.1 he with h1 | h1
        · exact List.mem_append.2 (.inl ((List.eraseIdx_sublist _ _).mem h1))
        · exact List.mem_append.2 (.inr h1))))

end
end Go.Proofs.Ytfmgdjgedhnmeaa

namespace Go.Proofs.Ytfmgdjgedhnmeaa
open Go.RowKit
set_option linter.unusedVariables false

def liveB (s : List Blk) (i : Nat) : Bool := decide (i < s.length) && decide (0 < (atB s i).refs)
theorem old_self {s : List Blk} {M : Int} (hg : Good s M) : OldIn s s s (liveB s) := by
  refine ⟨fun i hi => ?_, fun i h1 h2 => ?_, fun i hi j hj => ?_⟩
  · unfold liveB at hi
    simp only [Bool.and_eq_true, decide_eq_true_eq] at hi
    exact ⟨hi.1, hi.2, rfl⟩
  · unfold liveB
    simp only [Bool.and_eq_true, decide_eq_true_eq]
    exact ⟨h1, h2⟩
  · unfold liveB at hi ⊢
    simp only [Bool.and_eq_true, decide_eq_true_eq] at hi ⊢
    have h5 := (hg.kid_there hi.1 hj (by omega)).2.2.2.2.1
    obtain ⟨q, hq, e, hpos⟩ := there_pos h5
    obtain rfl : q = j := by omega
    exact ⟨hq, hpos⟩
theorem rootsOf_live {s : List Blk} {R N : List Int} (h : ∀ r ∈ R, RootAt s 3 r) : RootsOf (liveB s) N R := fun r hr => by
  rcases h r hr with h0 | ⟨h0, -⟩
  · exact .inl h0
  · obtain ⟨q, hq, e, hpos⟩ := there_pos h0
    refine .inr (.inl ⟨q, e, ?_⟩)
    unfold liveB
    simp only [Bool.and_eq_true, decide_eq_true_eq]
    exact ⟨hq, hpos⟩
end Go.Proofs.Ytfmgdjgedhnmeaa
