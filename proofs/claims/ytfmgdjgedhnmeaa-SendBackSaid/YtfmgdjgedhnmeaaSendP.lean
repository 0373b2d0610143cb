/- When nothing is said of two sets: just if their files are the same. No program in sight. -/
import Derived.Test.YtfmgdjgedhnmeaaHold
import Derived.Test.YtfmgdjgedhnmeaaSendK
import Derived.Test.YtfmgdjgedhnmeaaDiffer
namespace Go.Proofs.Ytfmgdjgedhnmeaa
open Go.RowKit
set_option linter.unusedVariables false
set_option linter.unusedSimpArgs false

/-- names that rise and are the same, whatever their order, are the same -/
theorem rising_same : ∀ (l l' : List ByteArray), Rising l → Rising l' → (∀ x ∈ l, x ∈ l') → (∀ x ∈ l', x ∈ l) → l = l' := by
  intro l
  induction l with
  | nil =>
    intro l' _ _ _ h2
    cases l' with
    | nil => rfl
    | cons b l' => exact absurd (h2 b (List.mem_cons_self ..)) (by simp)
  | cons a l ih =>
    intro l' hl hl' h1 h2
    cases l' with
    | nil => exact absurd (h1 a (List.mem_cons_self ..)) (by simp)
    | cons b l' =>
      obtain ⟨ha, hla⟩ := List.pairwise_cons.1 hl
      obtain ⟨hb, hlb⟩ := List.pairwise_cons.1 hl'
      have e : a = b := by
        rcases List.mem_cons.1 (h1 a (List.mem_cons_self ..)) with e | e
        · exact e
        · rcases List.mem_cons.1 (h2 b (List.mem_cons_self ..)) with e2 | e2
          · exact e2.symm
          · exact absurd (ltN_trans (hb a e) (ha b e2)) (ltN_irrefl _)
      subst e
      refine congrArg (a :: ·) (ih l' hla hlb (fun x hx => ?_) fun x hx => ?_)
      · rcases List.mem_cons.1 (h1 x (List.mem_cons_of_mem _ hx)) with e | e
        · subst e; exact absurd (ha x hx) (ltN_irrefl _)
        · exact e
      · rcases List.mem_cons.1 (h2 x (List.mem_cons_of_mem _ hx)) with e | e
        · subst e; exact absurd (hb x hx) (ltN_irrefl _)
        · exact e

/-- files whose bytes are the same have the same leaves -/
theorem leaves_of_bytes {s : List Blk} (hw : WfS s) {key r1 r2 : Int} {z1 z2 : Nat} (h1 : fileE s key r1 z1 = 0) (h2 : fileE s key r2 z2 = 0) (h : fileB s key r1 z1 = fileB s key r2 z2) : ∀ j, j < 64 → leafB 3 s r1 j = leafB 3 s r2 j := fun j hj => by
  rw [file_leaves h1 hw j hj, file_leaves h2 hw j hj, h]
theorem leaf_past {s : List Blk} (hw : WfS s) {key r : Int} {z : Nat} (h : fileE s key r z = 0) {j : Nat} (hj : j < 64) (hz : z ≤ j * 4) : leafB 3 s r j = [] := by
  rw [file_leaves h hw j hj]
  unfold leafOf
  rw [if_pos]
  rw [zeroB_iff]
  intro x hx
  have hl := fileB_len h
  unfold fourAt pad at hx
  have h3 : x ∈ (fileB s key r z ++ zeros (256 - (fileB s key r z).length)).drop (j * 4) := List.mem_of_mem_take hx
  rw [List.drop_append] at h3
  rcases List.mem_append.1 h3 with h4 | h4
  · rw [List.drop_eq_nil_of_le (by omega)] at h4; cases h4
  · have h5 := List.mem_of_mem_drop h4
    unfold zeros at h5
    exact (List.mem_replicate.1 h5).2
theorem bytes_of_leaves {s : List Blk} (hw : WfS s) {key r1 r2 : Int} {z : Nat} (h1 : fileE s key r1 z = 0) (h2 : fileE s key r2 z = 0) (h : ∀ j, j < 64 → j * 4 < z → leafB 3 s r1 j = leafB 3 s r2 j) : fileB s key r1 z = fileB s key r2 z := by
  have hall : ∀ j, j < 64 → leafB 3 s r1 j = leafB 3 s r2 j := fun j hj => by
    by_cases hz : j * 4 < z
    · exact h j hj hz
    · rw [leaf_past hw h1 hj (by omega), leaf_past hw h2 hj (by omega)]
  have e : leavesF 3 s r1 = leavesF 3 s r2 := by
    refine List.ext_getElem (by rw [leavesF_len, leavesF_len]) fun j g1 g2 => ?_
    rw [leavesF_get, leavesF_get]
    exact hall j (by rw [leavesF_len] at g1; exact g1)
  unfold fileB
  rw [e]

/-- the places, within the size, at which two files differ -/
def farD (s : List Blk) (r1 r2 z : Int) : List Int := (diffF 3 s r1 r2 0).filter fun i => !decide (z ≤ i * 4)
theorem farD_nil (s : List Blk) (r1 r2 : Int) (z : Nat) : farD s r1 r2 z = [] ↔ ∀ j, j < 64 → j * 4 < z → leafB 3 s r1 j = leafB 3 s r2 j := by
  unfold farD
  rw [diffF_eq 3 s r1 r2 0 (by omega), List.filter_eq_nil_iff]
  constructor
  · intro h j hj hz
    apply Classical.byContradiction
    intro g
    have hm : j ∈ diffL 3 s r1 r2 := by
      unfold diffL
      rw [List.mem_filter, List.mem_range]
      exact ⟨hj, by simpa using g⟩
    have := h (0 + (j : Int)) (List.mem_map.2 ⟨j, hm, rfl⟩)
    simp at this
    omega
  · intro h i hi
    obtain ⟨j, hj, rfl⟩ := List.mem_map.1 hi
    unfold diffL at hj
    rw [List.mem_filter, List.mem_range] at hj
    obtain ⟨hj1, hj2⟩ := hj
    simp only [decide_eq_true_eq] at hj2
    simp
    apply Classical.byContradiction
    intro g
    exact hj2 (h j hj1 (by omega))

/-- nothing is said -/
structure Silent (s : List Blk) (a b : SetV) : Prop where
  gone : ∀ x ∈ a.files, placeB (b.files.map Ent.nm) x.nm = true
  each : ∀ y ∈ b.files, placeB (a.files.map Ent.nm) y.nm = true ∧ (entAt a.files (placeN (a.files.map Ent.nm) y.nm)).size = y.size ∧ farD s (entAt a.files (placeN (a.files.map Ent.nm) y.nm)).root y.root y.size = []
/-- the files are the same -/
def AlikeF (s : List Blk) (key : Int) (l m : List Ent) : Prop := l.length = m.length ∧ ∀ k (h : k < l.length) (h' : k < m.length), l[k].nm = m[k].nm ∧ (readR s key l[k].root l[k].size 0 256).1 = (readR s key m[k].root m[k].size 0 256).1
theorem read_all {s : List Blk} {key r z : Int} (h : fileE s key r z = 0) : readR s key r z 0 256 = (fileB s key r z, 0) := by
  obtain ⟨-, h0, hz, -⟩ := fileE_ok h
  obtain ⟨n, rfl⟩ : ∃ n : Nat, z = n := ⟨z.toNat, by omega⟩
  have hl := fileB_len h
  unfold readR
  rw [if_neg (by simpa using h), if_neg (by omega)]
  simp only [List.drop_zero, show (0 : Int).toNat = 0 from rfl, show ((0 : Int) + 256).toNat = 256 from rfl]
  rw [List.take_of_length_le (by omega)]
theorem rising_place {l : List Ent} (hr : Rising (l.map Ent.nm)) {k : Nat} (hk : k < l.length) : placeB (l.map Ent.nm) l[k].nm = true ∧ entAt l (placeN (l.map Ent.nm) l[k].nm) = l[k] := by
  have hm : l[k].nm ∈ l.map Ent.nm := List.mem_map.2 ⟨_, List.getElem_mem hk, rfl⟩
  have hb := (place_mem hr).2 hm
  obtain ⟨-, h1, h2⟩ := placeB_lt hb
  refine ⟨hb, ?_⟩
  have hnd : (l.map Ent.nm).Nodup := hr.imp fun {a b} hab e => by subst e; exact ltN_irrefl _ hab
  have hk' : k < (l.map Ent.nm).length := by rwa [List.length_map]
  have e1 : (l.map Ent.nm)[k] = l[k].nm := by rw [List.getElem_map]
  have e2 : k = placeN (l.map Ent.nm) l[k].nm := (List.getElem_inj hnd).1 (e1.trans h2.symm)
  have e3 : entAt l k = l[k] := by unfold entAt; rw [List.getElem?_eq_getElem hk]; rfl
  rw [← e2]
  exact e3
theorem silent_iff {s : List Blk} {key : Int} {a b : SetV} (hw : WfS s) (ha : RightX s key a) (hb : RightX s key b) : Silent s a b ↔ AlikeF s key a.files b.files := by
  have hsz : ∀ e : Ent, fileE s key e.root e.size = 0 → ∃ n : Nat, e.size = n := fun e he => ⟨e.size.toNat, by have := (fileE_ok he).2.1; omega⟩
  constructor
  · intro h
    have hnames : a.files.map Ent.nm = b.files.map Ent.nm := rising_same _ _ ha.files.rise hb.files.rise (fun x hx => by
      obtain ⟨e, he, rfl⟩ := List.mem_map.1 hx
      exact (place_mem hb.files.rise).1 (h.gone e he)) (fun x hx => by
      obtain ⟨e, he, rfl⟩ := List.mem_map.1 hx
      exact (place_mem ha.files.rise).1 (h.each e he).1)
    have hlen : a.files.length = b.files.length := by have := congrArg List.length hnames; simpa using this
    refine ⟨hlen, fun k hk hk' => ?_⟩
    have hn : a.files[k].nm = b.files[k].nm := by
      have h1 : (a.files.map Ent.nm)[k]'(by rwa [List.length_map]) = (b.files.map Ent.nm)[k]'(by rwa [List.length_map]) := by simp only [hnames]
      simpa using h1
    obtain ⟨-, h2, h3⟩ := h.each _ (List.getElem_mem hk')
    rw [← hn, (rising_place ha.files.rise hk).2] at h2 h3
    have f1 := (ha.files.each _ (List.getElem_mem hk)).2
    have f2 := (hb.files.each _ (List.getElem_mem hk')).2
    obtain ⟨n, hz⟩ := hsz _ f2
    refine ⟨hn, ?_⟩
    rw [read_all f1, read_all f2]
    simp only
    rw [h2] at f1 ⊢
    rw [hz] at f1 f2 h3 ⊢
    exact bytes_of_leaves hw f1 f2 ((farD_nil _ _ _ _).1 h3)
  · rintro ⟨hlen, h⟩
    refine ⟨fun x hx => ?_, fun y hy => ?_⟩
    · obtain ⟨k, hk, rfl⟩ := List.getElem_of_mem hx
      rw [(h k hk (by omega)).1]
      exact (rising_place hb.files.rise (by omega)).1
    · obtain ⟨k, hk', rfl⟩ := List.getElem_of_mem hy
      have hk : k < a.files.length := by omega
      obtain ⟨h1, h2⟩ := h k hk hk'
      rw [← h1]
      obtain ⟨g1, g2⟩ := rising_place ha.files.rise hk
      rw [g2]
      have f1 := (ha.files.each _ (List.getElem_mem hk)).2
      have f2 := (hb.files.each _ (List.getElem_mem hk')).2
      rw [read_all f1, read_all f2] at h2
      simp only at h2
      obtain ⟨n1, e1⟩ := hsz _ f1
      obtain ⟨n2, e2⟩ := hsz _ f2
      rw [e1] at f1 h2 ⊢
      rw [e2] at f2 h2 ⊢
      have l1 := fileB_len f1
      have l2 := fileB_len f2
      have en : n1 = n2 := by rw [← l1, ← l2, h2]
      refine ⟨g1, by omega, ?_⟩
      exact (farD_nil _ _ _ _).2 fun j hj _ => leaves_of_bytes hw f1 f2 h2 j hj

/-- how many, one after the other -/
def runC (x : Int) : List Int → Nat
  | [] => 0
  | y :: l => if y = x then runC (x + 1) l + 1 else 0
/-- runs: where, how many -/
def runsL : Nat → List Int → List (Int × Nat)
  | 0, _ => []
  | _ + 1, [] => []
  | f + 1, x :: l => (x, 1 + runC (x + 1) l) :: runsL f (l.drop (runC (x + 1) l))
def bytesC (s : List Blk) (key : Int) (nm : ByteArray) (r1 r2 z : Int) : List ChgV := (runsL 64 (farD s r1 r2 z)).map fun p => ⟨3, nm, p.1 * 4, (readR s key r2 z (p.1 * 4) ((p.2 : Int) * 4)).1⟩
def goneC (a b : SetV) : List ChgV := (a.files.filter fun x => !placeB (b.files.map Ent.nm) x.nm).map fun x => ⟨1, x.nm, 0, []⟩
def oldE (a : SetV) (nm : ByteArray) : Int × Int := if placeB (a.files.map Ent.nm) nm = true then ((entAt a.files (placeN (a.files.map Ent.nm) nm)).root, (entAt a.files (placeN (a.files.map Ent.nm) nm)).size) else (0, 0)
def eachC (s : List Blk) (key : Int) (a : SetV) (y : Ent) : List ChgV :=
  (if placeB (a.files.map Ent.nm) y.nm = false ∨ (oldE a y.nm).2 ≠ y.size then [⟨2, y.nm, y.size, []⟩] else []) ++ bytesC s key y.nm (oldE a y.nm).1 y.root y.size
def diffR (s : List Blk) (key : Int) (a b : SetV) : List ChgV × Int :=
  if setE s key a ≠ 0 then ([], setE s key a) else if setE s key b ≠ 0 then ([], setE s key b)
  else if 40 < (goneC a b ++ b.files.flatMap (eachC s key a)).length then ([], 2) else (goneC a b ++ b.files.flatMap (eachC s key a), 0)
theorem bytesC_nil (s : List Blk) (key : Int) (nm : ByteArray) (r1 r2 z : Int) : bytesC s key nm r1 r2 z = [] ↔ farD s r1 r2 z = [] := by
  unfold bytesC
  cases farD s r1 r2 z with
  | nil => simp [runsL]
  | cons x l => simp [runsL]
end Go.Proofs.Ytfmgdjgedhnmeaa
