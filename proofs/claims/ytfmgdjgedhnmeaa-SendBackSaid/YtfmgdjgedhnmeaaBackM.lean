/- What Apply leaves of what Diff says: the other one's files. No program in sight. -/
import Derived.Test.YtfmgdjgedhnmeaaBackS
import Derived.Test.YtfmgdjgedhnmeaaPoolE
namespace Go.Proofs.Ytfmgdjgedhnmeaa
open Go.RowKit
set_option linter.unusedVariables false
set_option linter.unusedSimpArgs false

/-- there is no room, at worst -/
theorem turnTo_err {s : List Blk} (hc : checkE s = 0) (hw : WfS s) {root M0 : Int} (hr : RootAt s 3 root) (hfew : ∀ x ∈ s, x.refs ≤ M0) (hM : 1 ≤ M0) (hM2 : M0 ≤ 1000000) {key : Int} {was now : List Int} (hnow : now.length = 256) (hby : Byt now) :
    ∀ i, i ≤ 64 → (turnTo key was now (startR s root) i).2.2 = 0 ∨ (turnTo key was now (startR s root) i).2.2 = 8 := by
  intro i
  induction i with
  | zero => intro _; exact .inl rfl
  | succ i ih =>
    intro hi
    have hA := turned_all hc hw hr hfew hM hM2 (key := key) (was := was) hnow hby i (by omega)
    show (turnOne key was now i (turnTo key was now (startR s root) i)).2.2 = 0 ∨ _
    have hgo : (turnTo key was now (startR s root) (i + 1)) = turnOne key was now i (turnTo key was now (startR s root) i) := rfl
    rw [hgo]
    have ih := ih (by omega)
    clear hgo
    generalize turnTo key was now (startR s root) i = r at *
    unfold turnOne
    by_cases h0 : r.2.2 = 0
    · rw [if_neg (by simpa using h0)]
      have hT := hA h0
      by_cases e : fourAt was i = fourAt now i
      · rw [if_pos e]; exact .inl h0
      · rw [if_neg e]
        have hl := leafOf_len (key := key) (i := i) (fourAt_len now hnow i (by omega))
        have hse := set_err 3 r.1 r.2.1 i (leafOf key i (fourAt now i)) (M0 + 1 + 13 * i) (by omega) hT.at_.good (by omega) (by omega) hT.at_.rt (show i < 64 by omega) (leafOf_byt key i _) hl
        by_cases h1 : (setF 3 r.1 r.2.1 i (leafOf key i (fourAt now i))).2.2 = 0
        · rw [if_neg (by simpa using h1)]; exact .inl rfl
        · rw [if_pos h1]; exact hse
    · rw [if_pos h0]; exact ih

theorem turnR_err {s : List Blk} (hw : WfS s) {key root : Int} {z : Nat} (hok : fileE s key root z = 0) {b : List Int} (hb : Byt b) (hl : b.length ≤ 256) : (turnR s key root z b).2.2 = 0 ∨ (turnR s key root z b).2.2 = 8 := by
  obtain ⟨hk, -, hz, hct, -⟩ := fileE_ok hok
  obtain ⟨hce, m, hm3, hm, hroot, -, -⟩ := checkT_ok hct
  obtain rfl : m = 3 := by omega
  have h64 : (64 : Nat) ≤ 64 := Nat.le_refl _
  unfold turnR
  generalize hke : (64 : Nat) = k at h64 ⊢
  exact turnTo_err hce hw hroot (fun x hx => ((checkE_zero s hce).2.2.2.1 x hx).2) (by omega) (by omega) (pad_len b hl) (pad_byt hb) k (by omega)

def askOf (k : Int) (nm : ByteArray) (at_ n : Int) (b : List Int) : AskV := ⟨k, ⟨#[]⟩, nm, ⟨#[]⟩, at_, n, b⟩
/-- what a change asks for -/
def chgA (c : ChgV) : List AskV := if c.kind = 1 then [askOf 5 c.nm 0 0 []] else if c.kind = 2 then [askOf 3 c.nm 0 0 [], askOf 4 c.nm 0 c.n []] else [askOf 3 c.nm c.n 0 c.bytes]
def askS (key : Int) (p : List Blk × SetV) (a : AskV) : (List Blk × SetV) × Int := if (doR writeW p.1 key p.2 a).2.2 = 0 then (((doR writeW p.1 key p.2 a).1, (doR writeW p.1 key p.2 a).2.1), 0) else (p, (doR writeW p.1 key p.2 a).2.2)
def asksS (key : Int) : List Blk × SetV → List AskV → (List Blk × SetV) × Int
  | p, [] => (p, 0)
  | p, a :: l => if (askS key p a).2 = 0 then asksS key (askS key p a).1 l else askS key p a
def chgS (key : Int) (p : List Blk × SetV) (c : ChgV) : (List Blk × SetV) × Int := if c.kind = 1 ∨ c.kind = 2 ∨ c.kind = 3 then asksS key p (chgA c) else (p, 4)
def chgsS (key : Int) : List Blk × SetV → List ChgV → (List Blk × SetV) × Int
  | p, [] => (p, 0)
  | p, c :: l => if (chgS key p c).2 = 0 then chgsS key (chgS key p c).1 l else chgS key p c
def applyR (s : List Blk) (key : Int) (x : SetV) (l : List ChgV) : List Blk × SetV × Int :=
  if setE s key x ≠ 0 then ([], noSet, setE s key x) else if heldE s x ≠ 0 then ([], noSet, heldE s x) else if 40 < l.length then ([], noSet, 2)
  else if (chgsS key (s, x) l).2 ≠ 0 then ([], noSet, (chgsS key (s, x) l).2) else ((chgsS key (s, x) l).1.1, (chgsS key (s, x) l).1.2, 0)

/-- a file of that name has these bytes -/
def Cont (m : List Blk) (key : Int) (l : List Ent) (nm : ByteArray) (B : List Int) : Prop := ∃ e ∈ l, e.nm = nm ∧ e.size = (B.length : Int) ∧ fileB m key e.root e.size = B
/-- the new bytes that an ask has in mind -/
def newC (m : List Blk) (key : Int) (l : List Ent) (a : AskV) : List Int := if a.kind = 4 then cutL (fileB m key (oldF l a.file).1 (oldF l a.file).2) a.n.toNat else (overR (fileB m key (oldF l a.file).1 (oldF l a.file).2) a.at_ a.bytes).1
theorem one_ent {l : List Ent} (hr : Rising (l.map Ent.nm)) {e f : Ent} (he : e ∈ l) (hf : f ∈ l) (h : e.nm = f.nm) : e = f := by
  obtain ⟨i, hi, rfl⟩ := List.mem_iff_getElem.1 he
  obtain ⟨j, hj, rfl⟩ := List.mem_iff_getElem.1 hf
  have h1 := (rising_place hr hi).2
  have h2 := (rising_place hr hj).2
  rw [h] at h1
  exact h1.symm.trans h2
/-- what the old file is -/
theorem old_cont {m : List Blk} {key : Int} {l : List Ent} (hr : Rising (l.map Ent.nm)) {nm : ByteArray} {B : List Int} (h : Cont m key l nm B) : placeB (l.map Ent.nm) nm = true ∧ fileB m key (oldF l nm).1 (oldF l nm).2 = B := by
  obtain ⟨e, he, rfl, h1, h2⟩ := h
  have hb : placeB (l.map Ent.nm) e.nm = true := (place_mem hr).2 (List.mem_map.2 ⟨e, he, rfl⟩)
  obtain ⟨i, hi, rfl⟩ := List.mem_iff_getElem.1 he
  obtain ⟨-, h3⟩ := rising_place hr hi
  refine ⟨hb, ?_⟩
  unfold oldF
  rw [if_pos hb, h3]
  exact h2
theorem old_none {m : List Blk} {key : Int} {l : List Ent} (hc : checkE m = 0) (hk : keyE key 0 = 0) {nm : ByteArray} (h : placeB (l.map Ent.nm) nm = false) : fileB m key (oldF l nm).1 (oldF l nm).2 = [] := by
  unfold oldF
  rw [if_neg (by rw [h]; simp)]
  exact (file_empty hc hk).2
set_option maxRecDepth 10000 in
/-- there is no room at worst, or a right write -/
theorem write_err {m : List Blk} {key : Int} {l : List Ent} {a : AskV} (hw : WfS m) (hl : EntsOk m key l) (hc : checkE m = 0) (hk : keyE key 0 = 0) (hb : Byt a.bytes) (hn : nameB a.file = true) (h4 : a.kind = 4 → placeB (l.map Ent.nm) a.file = true ∧ 0 ≤ a.n ∧ a.n ≤ 256)
    (h3 : a.kind ≠ 4 → (overR (fileB m key (oldF l a.file).1 (oldF l a.file).2) a.at_ a.bytes).2 = 0) (h6 : placeB (l.map Ent.nm) a.file = true ∨ l.length < 6) : (writeW m key l a).2.2 = 8 ∨ (writeW m key l a).2.2 = 0 := by
  obtain ⟨z, hz, hf⟩ := old_ok hl hc hk a.file
  have hfl : (fileB m key (oldF l a.file).1 z).length ≤ 256 := by rw [fileB_len hf]; have := (fileE_ok hf).2.2.1; omega
  have hfb := fileB_byt m key (oldF l a.file).1 z
  have key1 : ∀ b, Byt b → b.length ≤ 256 → (turnW m key l a.file (oldF l a.file).1 z b).2.2 = 8 ∨ (turnW m key l a.file (oldF l a.file).1 z b).2.2 = 0 := fun b hbb hbl => by
    unfold turnW
    rcases turnR_err hw hf hbb hbl with e | e
    · rw [if_neg (not_not_intro e)]
      right
      unfold layR
      split
      · rfl
      · rename_i hp
        rw [if_neg (by rcases h6 with h6 | h6; exact absurd h6 hp; omega)]
    · rw [if_pos (by rw [e]; decide)]
      exact .inl e
  unfold writeW
  rw [hz] at h3 ⊢
  rw [if_neg (by rw [hn]; simp)]
  by_cases e4 : a.kind = 4
  · obtain ⟨g1, g2, g3⟩ := h4 e4
    rw [if_pos e4, if_neg (by rw [g1]; simp), if_neg (by omega)]
    exact key1 _ (cutL_byt hfb _) (by rw [cutL_len]; omega)
  · rw [if_neg e4, if_neg (not_not_intro (h3 e4))]
    exact key1 _ (overR_byt hfb hb) (overR_len (h3 e4) hfl)
set_option maxRecDepth 10000 in
theorem write_new {m : List Blk} {key : Int} {l : List Ent} {a : AskV} (hl : EntsOk m key l) (hc : checkE m = 0) (hk : keyE key 0 = 0) (hb : Byt a.bytes) (h : (writeW m key l a).2.2 = 0) :
    ∃ z : Nat, fileE m key (oldF l a.file).1 z = 0 ∧ (turnR m key (oldF l a.file).1 z (newC m key l a)).2.2 = 0 ∧ Byt (newC m key l a) ∧ (newC m key l a).length ≤ 256 ∧ writeW m key l a = layR (turnR m key (oldF l a.file).1 z (newC m key l a)).1 l a.file (turnR m key (oldF l a.file).1 z (newC m key l a)).2.1 (newC m key l a).length := by
  obtain ⟨z, hz, hf⟩ := old_ok hl hc hk a.file
  have hfl : (fileB m key (oldF l a.file).1 z).length ≤ 256 := by rw [fileB_len hf]; have := (fileE_ok hf).2.2.1; omega
  have hfb := fileB_byt m key (oldF l a.file).1 z
  refine ⟨z, hf, ?_⟩
  unfold writeW at h ⊢
  unfold newC
  rw [hz] at h ⊢
  by_cases hn : nameB a.file = false
  · rw [if_pos hn] at h
    exact absurd (show (1 : Int) = 0 from h) (by decide)
  rw [if_neg hn] at h ⊢
  by_cases e4 : a.kind = 4
  · simp only [if_pos e4] at h ⊢
    by_cases hp : placeB (l.map Ent.nm) a.file = false
    · rw [if_pos hp] at h
      exact absurd (show (5 : Int) = 0 from h) (by decide)
    rw [if_neg hp] at h ⊢
    by_cases hr : a.n < 0 ∨ 256 < a.n
    · rw [if_pos hr] at h
      exact absurd (show (3 : Int) = 0 from h) (by decide)
    rw [if_neg hr] at h ⊢
    obtain ⟨g1, g2⟩ := turnW_ok h
    exact ⟨g1, cutL_byt hfb _, by rw [cutL_len]; omega, g2⟩
  · simp only [if_neg e4] at h ⊢
    by_cases he : (overR (fileB m key (oldF l a.file).1 z) a.at_ a.bytes).2 = 0
    · rw [if_neg (not_not_intro he)] at h ⊢
      obtain ⟨g1, g2⟩ := turnW_ok h
      exact ⟨g1, overR_byt hfb hb, overR_len he hfl, g2⟩
    · rw [if_pos he] at h
      exact absurd h he
/-- what lay does to names, to others, to one -/
theorem lay_names {t : List Blk} {l : List Ent} (hr : Rising (l.map Ent.nm)) {nm : ByteArray} {rt z : Int} (h : (layR t l nm rt z).2.2 = 0) :
    (∃ e ∈ (layR t l nm rt z).2.1, e.nm = nm ∧ e.root = rt ∧ e.size = z) ∧ (∀ e ∈ l, e.nm ≠ nm → e ∈ (layR t l nm rt z).2.1) ∧ ∀ e ∈ (layR t l nm rt z).2.1, e.nm = nm ∨ e ∈ l := by
  unfold layR at h ⊢
  by_cases hb : placeB (l.map Ent.nm) nm = true
  · simp only [if_pos hb]
    obtain ⟨-, hk, hke⟩ := placeB_lt hb
    have hkl : placeN (l.map Ent.nm) nm < l.length := by rwa [List.length_map] at hk
    rw [List.getElem_map] at hke
    have hea : entAt l (placeN (l.map Ent.nm) nm) = l[placeN (l.map Ent.nm) nm] := by unfold entAt; rw [List.getElem?_eq_getElem hkl]; rfl
    rw [hea]
    refine ⟨⟨_, List.mem_iff_getElem.2 ⟨placeN (l.map Ent.nm) nm, by simpa using hkl, List.getElem_set_self ..⟩, hke, rfl, rfl⟩, fun e he hne => ?_, fun e he => ?_⟩
    · obtain ⟨i, hi, rfl⟩ := List.mem_iff_getElem.1 he
      refine List.mem_iff_getElem.2 ⟨i, by simpa using hi, ?_⟩
      rw [List.getElem_set, if_neg]
      rintro rfl
      exact hne hke
    · rcases List.mem_or_eq_of_mem_set he with h1 | rfl
      · exact .inr h1
      · exact .inl hke
  · simp only [if_neg hb] at h ⊢
    by_cases h6 : l.length = 6
    · rw [if_pos h6] at h
      exact absurd (show (2 : Int) = 0 from h) (by decide)
    · rw [if_neg h6]
      have hp := insL_perm l (placeN (l.map Ent.nm) nm) ⟨nm, rt, z⟩
      refine ⟨⟨_, hp.mem_iff.2 List.mem_cons_self, rfl, rfl, rfl⟩, fun e he _ => hp.mem_iff.2 (List.mem_cons_of_mem _ he), fun e he => ?_⟩
      rcases List.mem_cons.1 (hp.mem_iff.1 he) with rfl | h1
      · exact .inl rfl
      · exact .inr h1

/-- midway: a's snaps as they were, upon what is there without a's files -/
structure Mid (s : List Blk) (key : Int) (a : SetV) (p : List Blk × SetV) : Prop where
  nm : p.2.nm = a.nm
  snaps : p.2.snaps = a.snaps
  hold : SHold (lessL s (rootsF a.files)) s p.1 key ⟨a.nm, p.2.files, []⟩ 6 4
theorem SHold.trim {z s m : List Blk} {key : Int} {nm : ByteArray} {l : List Ent} {k c : Nat} (h : SHold z s m key ⟨nm, l, []⟩ k c) : SHold z s m key ⟨nm, l, []⟩ 6 c := by
  obtain ⟨O, N, h0, -, -, h3⟩ := h.old
  refine ⟨h.hold, h.right, O, rootsF l, h0, by rw [rootsF_len]; exact h.right.files.len, fun r hr => ?_, h3⟩
  have hr : r ∈ rootsF l ++ [] := hr
  rw [List.append_nil] at hr
  exact .inr (.inr hr)
/-- what holds ahead of all changes -/
structure Ahead (s : List Blk) (key : Int) (a : SetV) : Prop where
  right : RightX s key a
  base : BaseOk (lessL s (rootsF a.files)) s
  snaps : ∀ y ∈ a.snaps, EntsOk (lessL s (rootsF a.files)) key y.files
  out : ∀ j, j < s.length → (((rootsS a.snaps).count ((j : Int) + 1) : Nat) : Int) ≤ outA (lessL s (rootsF a.files)) j
theorem files_roots (nm : ByteArray) (l : List Ent) : rootsL ⟨nm, l, []⟩ = rootsF l := by unfold rootsL; exact List.append_nil _
theorem ahead_of {s : List Blk} {key : Int} {a : SetV} (hw : WfS s) (hf : ∀ y ∈ s, y.refs ≤ 999000) (hR : RightX s key a) (hh : heldE s a = 0) : Ahead s key a ∧ Mid s key a (s, a) := by
  have hR0 : RightX s key ⟨a.nm, a.files, []⟩ := ⟨hR.kok, hR.chk, hR.nm, hR.files, by simp, fun x hx => (by cases hx), List.Pairwise.nil⟩
  have hle := (held_iff hR).1 hh
  have hh0 : heldE s ⟨a.nm, a.files, []⟩ = 0 := (held_iff hR0).2 fun j hj => by
    rw [files_roots]
    have := hle j hj
    unfold rootsL at this
    rw [List.count_append] at this
    omega
  obtain ⟨hB, hS⟩ := under_base hw hf hR0 hh0
  rw [files_roots] at hB hS
  have hlen := hS.hold.len
  have hgz := Good.of_check hB.chk hB.wf
  have hout : ∀ j, j < s.length → (((rootsS a.snaps).count ((j : Int) + 1) : Nat) : Int) ≤ outA (lessL s (rootsF a.files)) j := fun j hj => by
    have h1 := hle j hj
    have h2 := hS.hold.out j (by omega)
    rw [files_roots] at h2
    unfold rootsL at h1
    rw [List.count_append] at h1
    omega
  refine ⟨⟨hR, hB, fun y hy => ⟨(hR.snaps y hy).2.len, fun e he => ⟨((hR.snaps y hy).2.each e he).1, ?_⟩, (hR.snaps y hy).2.rise⟩, hout⟩, rfl, rfl, ?_⟩
  · have hok := ((hR.snaps y hy).2.each e he).2
    have hrz : RootAt (lessL s (rootsF a.files)) 3 e.root := by
      rcases file_root hok with h0 | ⟨h1, h2⟩
      · exact .inl h0
      · obtain ⟨i, hi, e2, -⟩ := there_in h1
        have h3 := hout i hi
        have h4 : 0 < (rootsS a.snaps).count ((i : Int) + 1) := by
          rw [List.count_pos_iff, ← e2]
          exact List.mem_flatMap.2 ⟨y, hy, List.mem_map.2 ⟨e, he, rfl⟩⟩
        have h8 := held_there hB.chk i (by omega) (by omega)
        rw [e2]
        rw [e2] at h2
        exact .inr ⟨h8, by have := (hS.hold.keeps _ h8).2.1; omega⟩
    refine (file_same hB.chk hrz ?_ hok).1
    unfold leavesF
    refine List.map_congr_left fun j hj => ?_
    exact (leaf_keeps hgz hS.hold.keeps 3 e.root j (by omega) hrz (List.mem_range.1 hj)).symm
  · obtain ⟨O, N, o1, o2, o3, -⟩ := hS.old
    exact SHold.trim (k := 0) ⟨hS.hold, hS.right, O, N, o1, o2, o3, few_four hS.hold.good⟩
section
variable {s : List Blk} {key : Int} {a : SetV} {p : List Blk × SetV}
theorem Mid.right (hA : Ahead s key a) (h : Mid s key a p) : RightX p.1 key p.2 := by
  have hgz := Good.of_check hA.base.chk hA.base.wf
  refine ⟨hA.right.kok, h.hold.right.chk, by rw [h.nm]; exact hA.right.nm, h.hold.right.files, by rw [h.snaps]; exact hA.right.slen, fun y hy => ?_, by rw [h.snaps]; exact hA.right.rise⟩
  rw [h.snaps] at hy
  exact ⟨(hA.right.snaps y hy).1, (hA.snaps y hy).keeps hgz h.hold.hold.keeps h.hold.right.chk⟩
theorem Mid.held (hA : Ahead s key a) (h : Mid s key a p) : heldE p.1 p.2 = 0 := (held_iff (h.right hA)).2 fun j hj => by
  have hl := h.hold.hold.len
  have hbl := hA.base.len
  have h1 := h.hold.hold.out j (by omega)
  have h2 := hA.out j (by omega)
  rw [files_roots] at h1
  unfold rootsL
  rw [List.count_append, h.snaps]
  omega
theorem Mid.ask (hA : Ahead s key a) (h : Mid s key a p) (q : AskV) : askS key p q = if (askR writeW p.1 key p.2 q).2.2 = 0 then (((askR writeW p.1 key p.2 q).1, (askR writeW p.1 key p.2 q).2.1), 0) else (p, (askR writeW p.1 key p.2 q).2.2) := by
  unfold askS doR
  rw [if_neg (not_not_intro (h.right hA).zero), if_neg (not_not_intro (h.held hA))]
  by_cases e : (askR writeW p.1 key p.2 q).2.2 = 0
  · rw [if_neg (not_not_intro e)]
  · rw [if_pos e]
    simp only [if_neg e]
/-- what a thing done leaves of files -/
structure Left (key : Int) (p p' : List Blk × SetV) (nm : ByteArray) : Prop where
  other : ∀ n B, n ≠ nm → Cont p.1 key p.2.files n B → Cont p'.1 key p'.2.files n B
  names : ∀ n, n ≠ nm → (n ∈ p'.2.files.map Ent.nm ↔ n ∈ p.2.files.map Ent.nm)
theorem Left.refl (nm : ByteArray) : Left key p p nm := ⟨fun _ _ _ h => h, fun _ _ => Iff.rfl⟩
theorem Left.trans {p' p'' : List Blk × SetV} {nm : ByteArray} (h : Left key p p' nm) (k : Left key p' p'' nm) : Left key p p'' nm := ⟨fun n B e c => k.other n B e (h.other n B e c), fun n e => (k.names n e).trans (h.names n e)⟩
theorem Mid.write (hA : Ahead s key a) (h : Mid s key a p) {q : AskV} (hk : q.kind = 3 ∨ q.kind = 4) (hb : Byt q.bytes) (hn : nameB q.file = true) (h4 : q.kind = 4 → placeB (p.2.files.map Ent.nm) q.file = true ∧ 0 ≤ q.n ∧ q.n ≤ 256)
    (h3 : q.kind ≠ 4 → (overR (fileB p.1 key (oldF p.2.files q.file).1 (oldF p.2.files q.file).2) q.at_ q.bytes).2 = 0) (h6 : placeB (p.2.files.map Ent.nm) q.file = true ∨ p.2.files.length < 6) :
    (askS key p q).2 = 8 ∨ ((askS key p q).2 = 0 ∧ Mid s key a (askS key p q).1 ∧ Cont (askS key p q).1.1 key (askS key p q).1.2.files q.file (newC p.1 key p.2.files q) ∧ Left key p (askS key p q).1 q.file) := by
  have hR := h.right hA
  have hS := h.hold
  have hwm := hS.hold.good.wf
  rw [h.ask hA]
  unfold askR
  rw [if_pos hk]
  simp only
  rcases write_err hwm hR.files hR.chk hR.kok hb hn h4 h3 h6 with e | e
  · rw [if_neg (by rw [e]; decide)]
    exact .inl e
  rw [if_pos e]
  right
  refine ⟨rfl, ?_⟩
  obtain ⟨z, hf, hte, hbb, hbl, heq⟩ := write_new hR.files hR.chk hR.kok hb e
  obtain ⟨r1, r2⟩ := step_write hA.base hS (by omega) (by omega) (by omega) (by omega) hb (fun O root sz b _ _ hf hby hl he => few_four (turnR_good hf hwm hby hl he)) e
  have hT := turnR_ok hwm hf (fun x hx => (hS.hold.good.refs x hx).2) (by omega) (by omega) hbb hbl hte
  simp only at r1 r2
  have hkp : Keeps (writeW p.1 key p.2.files q).1 (turnR p.1 key (oldF p.2.files q.file).1 z (newC p.1 key p.2.files q)).1 := by
    have hHt := hS.hold.turn hT.at_
    rw [heq] at e ⊢
    obtain ⟨-, x, -, -, hcase⟩ := lay_ok hR.files.shape hn e
    rcases hcase with ⟨o, ho, g1, -, g3⟩ | ⟨g1, -, -⟩
    · rw [files_roots] at hHt
      obtain ⟨hH2, hsub⟩ := Hold.less (ks := [o.root]) (Good.of_check hA.base.chk hA.base.wf) hA.base.nn (hHt.perm g3)
      have e1 : ∀ t, lessL t [o.root] = looseF 4 t o.root := fun _ => rfl
      rw [e1, ← g1] at hH2 hsub
      exact sub_keeps hsub hH2.good
    · rw [g1]
      exact Keeps.refl _
  have hLN := lay_names hR.files.rise (nm := q.file) (t := (turnR p.1 key (oldF p.2.files q.file).1 z (newC p.1 key p.2.files q)).1) (rt := (turnR p.1 key (oldF p.2.files q.file).1 z (newC p.1 key p.2.files q)).2.1) (z := ((newC p.1 key p.2.files q).length : Int)) (by rw [← heq]; exact e)
  rw [← heq] at hLN
  obtain ⟨⟨x, hx, hx1, hx2, hx3⟩, hoth, hback⟩ := hLN
  refine ⟨⟨h.nm, h.snaps, r1.trim⟩, ⟨x, hx, hx1, hx3, ?_⟩, ⟨fun n B hne hC => ?_, fun n hne => ?_⟩⟩
  · have hxr := (r1.right.files.each x hx).2
    rw [hx2, hx3] at hxr ⊢
    refine (file_made r1.right.chk (file_root hxr) hR.kok hbb hbl fun j hj => ?_).2
    rw [← leaf_keeps r1.hold.good hkp 3 _ j (by omega) (file_root hxr) hj]
    exact hT.leaf j hj
  · obtain ⟨e1, he1, rfl, he2, he3⟩ := hC
    have hm := hoth e1 he1 hne
    refine ⟨e1, hm, rfl, he2, ?_⟩
    rw [r2 e1 (List.mem_append.2 (.inl hm)) (hR.files.each e1 he1).2]
    exact he3
  · constructor
    · intro hm
      obtain ⟨e1, he1, rfl⟩ := List.mem_map.1 hm
      rcases hback e1 he1 with h1 | h1
      · exact absurd h1 hne
      · exact List.mem_map.2 ⟨e1, h1, rfl⟩
    · intro hm
      obtain ⟨e1, he1, rfl⟩ := List.mem_map.1 hm
      exact List.mem_map.2 ⟨e1, hoth e1 he1 hne, rfl⟩
theorem Mid.remove (hA : Ahead s key a) (h : Mid s key a p) {nm : ByteArray} (hp : placeB (p.2.files.map Ent.nm) nm = true) :
    (askS key p (askOf 5 nm 0 0 [])).2 = 0 ∧ Mid s key a (askS key p (askOf 5 nm 0 0 [])).1 ∧ Left key p (askS key p (askOf 5 nm 0 0 [])).1 nm ∧ nm ∉ (askS key p (askOf 5 nm 0 0 [])).1.2.files.map Ent.nm := by
  have hR := h.right hA
  have hS := h.hold
  have hm0 : (moveR p.1 p.2.files (askOf 5 nm 0 0 [])).2.2 = 0 ∧ (moveR p.1 p.2.files (askOf 5 nm 0 0 [])).2.1 = p.2.files.eraseIdx (placeN (p.2.files.map Ent.nm) nm) := by
    unfold moveR
    rw [if_neg (by show ¬ placeB (p.2.files.map Ent.nm) nm = false; rw [hp]; simp), if_neg (by show ¬ (5 : Int) = 6; decide)]
    exact ⟨rfl, rfl⟩
  rw [h.ask hA]
  unfold askR
  rw [if_neg (show ¬ ((askOf 5 nm 0 0 []).kind = 3 ∨ (askOf 5 nm 0 0 []).kind = 4) by simp [askOf]), if_pos (show (askOf 5 nm 0 0 []).kind = 5 ∨ (askOf 5 nm 0 0 []).kind = 6 from .inl rfl)]
  simp only
  rw [if_pos hm0.1]
  obtain ⟨r1, r2⟩ := step_move hA.base hS (by omega) (by omega) (by omega) (by omega) (a := askOf 5 nm 0 0 []) hm0.1
  simp only at r1 r2
  obtain ⟨-, hk, hke⟩ := placeB_lt hp
  have hkl : placeN (p.2.files.map Ent.nm) nm < p.2.files.length := by rwa [List.length_map] at hk
  rw [List.getElem_map] at hke
  have hperm := erase_perm p.2.files _ hkl
  have hmem : ∀ e, e ∈ p.2.files → e.nm ≠ nm → e ∈ (moveR p.1 p.2.files (askOf 5 nm 0 0 [])).2.1 := fun e he hne => by
    rw [hm0.2]
    rcases List.mem_cons.1 (hperm.mem_iff.2 he) with e1 | e1
    · rw [e1, hke] at hne
      exact absurd rfl hne
    · exact e1
  have hback : ∀ e, e ∈ (moveR p.1 p.2.files (askOf 5 nm 0 0 [])).2.1 → e ∈ p.2.files := fun e he => by
    rw [hm0.2] at he
    exact hperm.mem_iff.1 (List.mem_cons_of_mem _ he)
  refine ⟨rfl, ⟨h.nm, h.snaps, r1⟩, ⟨fun n B hne hC => ?_, fun n hne => ?_⟩, ?_⟩
  · obtain ⟨e1, he1, rfl, he2, he3⟩ := hC
    have hm := hmem e1 he1 hne
    refine ⟨e1, hm, rfl, he2, ?_⟩
    rw [r2 e1 (List.mem_append.2 (.inl hm)) (hR.files.each e1 he1).2]
    exact he3
  · constructor
    · intro hm
      obtain ⟨e1, he1, rfl⟩ := List.mem_map.1 hm
      exact List.mem_map.2 ⟨e1, hback e1 he1, rfl⟩
    · intro hm
      obtain ⟨e1, he1, rfl⟩ := List.mem_map.1 hm
      exact List.mem_map.2 ⟨e1, hmem e1 he1 hne, rfl⟩
  · have h1 := (place_erase hR.files.rise _ hk).2
    rw [List.getElem_map, hke, ← erase_map, ← hm0.2] at h1
    have hri : Rising ((moveR p.1 p.2.files (askOf 5 nm 0 0 [])).2.1.map Ent.nm) := r1.right.files.rise
    exact (place_not hri).1 h1
end
end Go.Proofs.Ytfmgdjgedhnmeaa
