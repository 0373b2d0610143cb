/- The order of names; right entries are rising. No program in sight. · set.Roots, set.Held. · Roots of right entries are there. -/
import Derived.Test.YtfmgdjgedhnmeaaSetCheck
namespace Go.Proofs.Ytfmgdjgedhnmeaa
open Go.RowKit
set_option linter.unusedVariables false

theorem bl_eq : ∀ (x y : List UInt8), Op.bytesLess x y = decide (x < y)
  | [], [] => by simp [Op.bytesLess]
  | _ :: _, [] => by simp [Op.bytesLess]
  | [], _ :: _ => by simp [Op.bytesLess]
  | a :: x, b :: y => by
    rw [Op.bytesLess, bl_eq x y]
    simp only [List.cons_lt_cons_iff]
    by_cases h1 : a < b <;> by_cases h2 : a = b <;> by_cases h3 : x < y <;> simp [h1, h2, h3]

/-- a name is ahead of another -/
def ltN (a b : ByteArray) : Prop := Op.bytesLess a.toList b.toList = true
theorem ltN_lt {a b : ByteArray} : ltN a b ↔ a.toList < b.toList := by unfold ltN; rw [bl_eq, decide_eq_true_eq]
theorem ltN_irrefl (a : ByteArray) : ¬ ltN a a := by rw [ltN_lt]; exact List.lt_irrefl _
theorem ltN_trans {a b c : ByteArray} (h : ltN a b) (k : ltN b c) : ltN a c := by rw [ltN_lt] at *; exact List.lt_trans h k
theorem toList_inj {a b : ByteArray} (h : a.toList = b.toList) : a = b := by
  rw [ByteArray.toList_eq, ByteArray.toList_eq] at h
  cases a; cases b
  simp only [ByteArray.mk.injEq]
  exact Array.ext' h
theorem ltN_conn {a b : ByteArray} (h : ¬ ltN a b) (k : ¬ ltN b a) : a = b := by
  rw [ltN_lt] at *
  exact toList_inj (List.le_antisymm (List.not_lt.1 k) (List.not_lt.1 h))

def Rising (l : List ByteArray) : Prop := l.Pairwise ltN

theorem befB_some {q nm : ByteArray} (h : befB (some q) nm = false) : ltN q nm := by
  unfold befB at h
  simp only [Bool.not_eq_eq_eq_not, Bool.not_false] at h
  exact h

theorem entL_ok {s : List Blk} {key : Int} : ∀ (l : List Ent) (p : Option ByteArray), entL s key p l = 0 → (∀ x ∈ l, nameB x.nm = true ∧ fileE s key x.root x.size = 0) ∧ Rising (l.map Ent.nm) ∧ ∀ q, p = some q → ∀ x ∈ l, ltN q x.nm
  | [], p, _ => ⟨by simp, .nil, by simp⟩
  | x :: l, p, h => by
    unfold entL at h
    split at h
    · omega
    · rename_i h1
      split at h
      · omega
      · rename_i h2
        split at h
        · rename_i h3; exact absurd h h3
        · rename_i h3
          obtain ⟨a1, a2, a3⟩ := entL_ok l _ h
          have hx := a3 _ rfl
          refine ⟨?_, ?_, ?_⟩
          · intro y hy
            rcases List.mem_cons.1 hy with rfl | hy
            · exact ⟨by simpa using h1, by simpa using h3⟩
            · exact a1 y hy
          · refine List.Pairwise.cons ?_ a2
            intro z hz
            obtain ⟨y, hy, rfl⟩ := List.mem_map.1 hz
            exact hx y hy
          · rintro q rfl y hy
            have hq : ltN q x.nm := befB_some (by simpa using h2)
            rcases List.mem_cons.1 hy with rfl | hy
            · exact hq
            · exact ltN_trans hq (hx y hy)

/-- right entries -/
structure EntsOk (s : List Blk) (key : Int) (l : List Ent) : Prop where
  len : l.length ≤ 6
  each : ∀ x ∈ l, nameB x.nm = true ∧ fileE s key x.root x.size = 0
  rise : Rising (l.map Ent.nm)
theorem entE_ok {s : List Blk} {key : Int} {l : List Ent} (h : entE s key l = 0) : EntsOk s key l := by
  unfold entE at h
  split at h
  · omega
  · obtain ⟨a, b, _⟩ := entL_ok l none h
    exact ⟨by omega, a, b⟩
theorem entL_mk {s : List Blk} {key : Int} : ∀ (l : List Ent) (p : Option ByteArray), (∀ x ∈ l, nameB x.nm = true ∧ fileE s key x.root x.size = 0) → Rising (l.map Ent.nm) → (∀ q, p = some q → ∀ x ∈ l, ltN q x.nm) → entL s key p l = 0
  | [], p, _, _, _ => rfl
  | x :: l, p, h1, h2, h3 => by
    unfold entL
    have hx := h1 x (by simp)
    rw [if_neg (by rw [hx.1]; simp), if_neg, if_neg (by rw [hx.2]; simp)]
    · rw [List.map_cons] at h2
      obtain ⟨h4, h5⟩ := List.pairwise_cons.1 h2
      exact entL_mk l _ (fun y hy => h1 y (by simp [hy])) h5 (fun q hq y hy => by cases hq; exact h4 _ (List.mem_map.2 ⟨y, hy, rfl⟩))
    · cases p with
      | none => simp [befB]
      | some q =>
        have := h3 q rfl x (by simp)
        unfold ltN at this
        simp [befB, this]
theorem EntsOk.zero {s : List Blk} {key : Int} {l : List Ent} (h : EntsOk s key l) : entE s key l = 0 := by
  unfold entE
  rw [if_neg (by have := h.len; omega)]
  exact entL_mk l none h.each h.rise (fun q hq => by cases hq)

theorem snpL_ok {s : List Blk} {key : Int} : ∀ (l : List Snp) (p : Option ByteArray), snpL s key p l = 0 → (∀ y ∈ l, nameB y.nm = true ∧ EntsOk s key y.files) ∧ Rising (l.map Snp.nm) ∧ ∀ q, p = some q → ∀ y ∈ l, ltN q y.nm
  | [], p, _ => ⟨by simp, .nil, by simp⟩
  | x :: l, p, h => by
    unfold snpL at h
    split at h
    · omega
    · rename_i h1
      split at h
      · omega
      · rename_i h2
        split at h
        · rename_i h3; exact absurd h h3
        · rename_i h3
          obtain ⟨a1, a2, a3⟩ := snpL_ok l _ h
          have hx := a3 _ rfl
          refine ⟨?_, ?_, ?_⟩
          · intro y hy
            rcases List.mem_cons.1 hy with rfl | hy
            · exact ⟨by simpa using h1, entE_ok (by simpa using h3)⟩
            · exact a1 y hy
          · refine List.Pairwise.cons ?_ a2
            intro z hz
            obtain ⟨y, hy, rfl⟩ := List.mem_map.1 hz
            exact hx y hy
          · rintro q rfl y hy
            have hq : ltN q x.nm := befB_some (by simpa using h2)
            rcases List.mem_cons.1 hy with rfl | hy
            · exact hq
            · exact ltN_trans hq (hx y hy)
theorem snpL_mk {s : List Blk} {key : Int} : ∀ (l : List Snp) (p : Option ByteArray), (∀ y ∈ l, nameB y.nm = true ∧ EntsOk s key y.files) → Rising (l.map Snp.nm) → (∀ q, p = some q → ∀ y ∈ l, ltN q y.nm) → snpL s key p l = 0
  | [], p, _, _, _ => rfl
  | x :: l, p, h1, h2, h3 => by
    unfold snpL
    have hx := h1 x (by simp)
    rw [if_neg (by rw [hx.1]; simp), if_neg, if_neg (by rw [hx.2.zero]; simp)]
    · rw [List.map_cons] at h2
      obtain ⟨h4, h5⟩ := List.pairwise_cons.1 h2
      exact snpL_mk l _ (fun y hy => h1 y (by simp [hy])) h5 (fun q hq y hy => by cases hq; exact h4 _ (List.mem_map.2 ⟨y, hy, rfl⟩))
    · cases p with
      | none => simp [befB]
      | some q =>
        have := h3 q rfl x (by simp)
        unfold ltN at this
        simp [befB, this]

/-- a right set -/
structure RightX (s : List Blk) (key : Int) (x : SetV) : Prop where
  kok : keyE key 0 = 0
  chk : checkE s = 0
  nm : nameB x.nm = true
  files : EntsOk s key x.files
  slen : x.snaps.length ≤ 3
  snaps : ∀ y ∈ x.snaps, nameB y.nm = true ∧ EntsOk s key y.files
  rise : Rising (x.snaps.map Snp.nm)
theorem setE_ok {s : List Blk} {key : Int} {x : SetV} (h : setE s key x = 0) : RightX s key x := by
  unfold setE at h
  split at h
  · rename_i h1; exact absurd h h1
  · rename_i h1
    split at h
    · rename_i h2; exact absurd h h2
    · rename_i h2
      split at h
      · omega
      · rename_i h3
        split at h
        · rename_i h4; exact absurd h h4
        · rename_i h4
          split at h
          · omega
          · rename_i h5
            obtain ⟨a, b, _⟩ := snpL_ok _ none h
            exact ⟨by simpa using h1, by simpa using h2, by simpa using h3, entE_ok (by simpa using h4), by omega, a, b⟩
theorem RightX.zero {s : List Blk} {key : Int} {x : SetV} (h : RightX s key x) : setE s key x = 0 := by
  unfold setE
  rw [if_neg (fun k => k h.kok), if_neg (fun k => k h.chk), if_neg (by rw [h.nm]; simp), if_neg (fun k => k h.files.zero), if_neg (by have := h.slen; omega)]
  exact snpL_mk _ none h.snaps h.rise (fun q hq => by cases hq)

/-- the place of a name -/
def placeN (l : List ByteArray) (nm : ByteArray) : Nat := (l.takeWhile fun x => Op.bytesLess x.toList nm.toList).length
def placeB (l : List ByteArray) (nm : ByteArray) : Bool := match l[placeN l nm]? with | some y => y.toList == nm.toList | none => false
theorem placeN_le (l : List ByteArray) (nm : ByteArray) : placeN l nm ≤ l.length := by unfold placeN; exact List.Sublist.length_le (List.takeWhile_sublist _)
theorem placeN_lt {l : List ByteArray} {nm : ByteArray} (i : Nat) (hi : i < l.length) (h : i < placeN l nm) : ltN l[i] nm := by
  induction l generalizing i with
  | nil => simp at hi
  | cons x l ih =>
    unfold placeN at h
    rw [List.takeWhile_cons] at h
    split at h
    · rename_i hx
      cases i with
      | zero => exact hx
      | succ i => exact ih i (by simpa using hi) (by simpa [placeN] using h)
    · simp at h
theorem placeN_ge {l : List ByteArray} {nm : ByteArray} (hr : Rising l) (i : Nat) (hi : i < l.length) (h : placeN l nm ≤ i) : ¬ ltN l[i] nm := by
  induction l generalizing i with
  | nil => simp at hi
  | cons x l ih =>
    obtain ⟨h1, h2⟩ := List.pairwise_cons.1 hr
    unfold placeN at h
    rw [List.takeWhile_cons] at h
    split at h
    · rename_i hx
      cases i with
      | zero => simp at h
      | succ i => exact ih h2 i (by simpa using hi) (by simpa [placeN] using h)
    · rename_i hx
      cases i with
      | zero => exact hx
      | succ i =>
        intro hl
        have := h1 _ (List.getElem_mem (by simpa using hi : i < l.length))
        exact hx (ltN_trans this hl)
/-- a place between those ahead and those behind is the place -/
theorem placeN_is {l : List ByteArray} {nm : ByteArray} (hr : Rising l) (k : Nat) (hk : k ≤ l.length) (h1 : ∀ i (h : i < l.length), i < k → ltN l[i] nm) (h2 : ∀ i (h : i < l.length), k ≤ i → ¬ ltN l[i] nm) : placeN l nm = k := by
  rcases Nat.lt_trichotomy (placeN l nm) k with h | h | h
  · exact absurd (h1 (placeN l nm) (by omega) h) (placeN_ge hr _ (by omega) (Nat.le_refl _))
  · exact h
  · have hl := placeN_le l nm
    exact absurd (placeN_lt k (by omega) h) (h2 k (by omega) (Nat.le_refl _))
end Go.Proofs.Ytfmgdjgedhnmeaa

namespace Go.Proofs.Ytfmgdjgedhnmeaa
open Go.RowKit
set_option linter.unusedVariables false

def rootsF (l : List Ent) : List Int := l.map Ent.root
def rootsS (l : List Snp) : List Int := l.flatMap fun y => rootsF y.files
/-- all roots of a set -/
def rootsL (x : SetV) : List Int := rootsF x.files ++ rootsS x.snaps
theorem rootsF_take (l : List Ent) (k : Nat) (h : k < l.length) : rootsF (l.take (k + 1)) = rootsF (l.take k) ++ [l[k].root] := by
  unfold rootsF
  rw [List.take_succ_eq_append_getElem h, List.map_append]
  rfl
theorem rootsS_take (l : List Snp) (k : Nat) (h : k < l.length) : rootsS (l.take (k + 1)) = rootsS (l.take k) ++ rootsF l[k].files := by
  unfold rootsS
  rw [List.take_succ_eq_append_getElem h, List.flatMap_append]
  simp
theorem rootsF_len (l : List Ent) : (rootsF l).length = l.length := by simp [rootsF]
theorem rootsS_len (l : List Snp) (h : ∀ y ∈ l, y.files.length ≤ 6) : (rootsS l).length ≤ 6 * l.length := by
  induction l with
  | nil => simp [rootsS]
  | cons y l ih =>
    have h1 := h y (by simp)
    have h2 := ih fun z hz => h z (by simp [hz])
    simp only [rootsS, List.flatMap_cons, List.length_append, List.length_cons, rootsF_len] at *
    omega

/-- a set is small -/
structure SmallX (x : SetV) : Prop where
  files : x.files.length ≤ 6
  snaps : x.snaps.length ≤ 3
  each : ∀ y ∈ x.snaps, y.files.length ≤ 6
theorem RightX.small {s : List Blk} {key : Int} {x : SetV} (h : RightX s key x) : SmallX x := ⟨h.files.len, h.slen, fun y hy => (h.snaps y hy).2.len⟩
theorem SmallX.roots {x : SetV} (h : SmallX x) : (rootsL x).length ≤ 24 := by
  unfold rootsL
  rw [List.length_append, rootsF_len]
  have := rootsS_len x.snaps h.each
  have := h.files
  have := h.snaps
  omega

set_option maxRecDepth 100000 in
set_option maxHeartbeats 8000000 in
theorem roots_any (w : World) (fo so : Option Addr) (fn fc sn sc : Nat) (x : SetV) (hx : SetIn w fo fn fc so sn sc x) (hsm : SmallX x) :
    Calls Try.prog 82 #[.agg #[.string x.nm, .slice fo fn fc, .slice so sn sc]] w fun e w' => ∃ v, e = .returned v ∧ Own .i64 3 w.heap.size w' v (rootsL x) ∧ Below w.heap.size w w' := by
  have HX := Lib.hid hx
  have HSM := Lib.hid hsm
  have hb0 : Below w.heap.size w (w.alloc (.cells #[.string x.nm, .slice fo fn fc, .slice so sn sc] 28)) := (Below.refl _ _).alloc (Nat.le_refl _) _
  have p0 : (w.alloc (.cells #[.string x.nm, .slice fo fn fc, .slice so sn sc] 28)).heap[w.heap.size]? = some (.cells #[.string x.nm, .slice fo fn fc, .slice so sn sc] 28 (0, 0)) := heap_alloc_new _ _
  have hfn : (fn : Int) ≤ 6 := by have := hx.flen; have := hsm.files; omega
  have hsn : (sn : Int) ≤ 3 := by have := hx.slen; have := hsm.snaps; omega
  clear hx hsm
  go_enter Try.func82, Try.ntmps82
  go_wp2
  have HX := Lib.hid (HX.out.mono hb0)
  generalize w.alloc (Obj.cells #[Value.string x.nm, Value.slice fo fn fc, Value.slice so sn sc] 28) = W1 at *
  have l0 := lt_heap p0
  go_loopw [3, 13] (fun v i wr => ∃ k : Nat, k ≤ fn ∧ i = .int .i64 k ∧ Own .i64 3 W1.heap.size wr v (rootsF (x.files.take k)) ∧ Below W1.heap.size W1 wr) (fun _ i _ => fn - (intOf i).toNat)
  case atStart => exact ⟨0, Nat.zero_le _, rfl, Own.nil _ _ _ _, Below.refl _ _⟩
  case round =>
    obtain ⟨k, hkn, rfl, hown, hbel⟩ := hrel
    by_cases hlt : k < fn
    · have hkl : k < x.files.length := by have := HX.out.flen; omega
      have hlt' : (k : Int) < fn := by omega
      obtain ⟨b, o, rfl, hq⟩ := (HX.out.frow.mono hbel).at k hkl
      have hE := hq k hkl
      have c0 := hE.nm
      have c1 := hE.root
      have c2 := hE.size
      have lb := hE.lt
      have HKT := Lib.hid (rootsF_take x.files k hkl)
      have hlen : (rootsF (x.files.take k)).length ≤ 6 := by rw [rootsF_len, List.length_take]; have := HSM.out.files; omega
      have HLEN := Lib.hid hlen
      clear hq hE hlen
      generalize x.files[k] = y at *
      obtain ⟨nm, root, size⟩ := y
      simp only at c0 c1 c2
      have hsz := hbel.size
      have hb2 : Below wr.heap.size wr (wr.alloc (.cells #[.string nm, .int .i64 root, .int .i64 size] 37)) := (Below.refl _ _).alloc (Nat.le_refl _) _
      have hown2 := hown.mono hb2
      have hbel2 := below_step hbel hb2
      have hsz2 := hbel2.size
      have q2 : (wr.alloc (.cells #[.string nm, .int .i64 root, .int .i64 size] 37)).heap[wr.heap.size]? = some (.cells #[.string nm, .int .i64 root, .int .i64 size] 37 (0, 0)) := heap_alloc_new _ _
      have d1 := cell_of_block q2 1
      simp at d1
      clear hown hb2 q2
      go_wp2_with (first
        | (at_builtin; refine append_int rfl (.tmp 17) (.tmp 21) _ rfl .i64 3 8 W1.heap.size Try.underlying91 info_int _ _ _ rfl hown2 _ rfl (by simp) ?_ ?_ hsz2 ?_; rotate_right; intro v' w1 hown1 hbel1))
      · go_roundw
        case rel => exact ⟨k + 1, by omega, by go_num, by rw [HKT.out]; exact hown1, hbel2.trans hbel1⟩
        case measure => simp [intOf]; omega
      · have := HLEN.out; unfold maxLen; omega
      · have := HLEN.out; omega
    · obtain rfl : k = fn := by omega
      have ht : x.files.take k = x.files := List.take_of_length_le (by have := HX.out.flen; omega)
      rw [ht] at hown
      clear ht
      have p1 := (hbel.block _ l0).trans p0
      have c2 := cell_of_block p1 2
      simp at c2
      have l1 := lt_heap p1
      have hlt' : ¬ (k : Int) < k := by omega
      go_wp2
      go_loopw [3, 27] (fun v i wr => ∃ m : Nat, m ≤ sn ∧ i = .int .i64 m ∧ Own .i64 3 W1.heap.size wr v (rootsF x.files ++ rootsS (x.snaps.take m)) ∧ Below W1.heap.size W1 wr) (fun _ i _ => sn - (intOf i).toNat)
      case atStart => exact ⟨0, Nat.zero_le _, rfl, by simpa [rootsS] using hown, hbel⟩
      case round =>
        clear hown hbel c2 l1 p1 hlt'
        obtain ⟨m, hmn, rfl, hown, hbel⟩ := hrel
        by_cases hlt : m < sn
        · have hml : m < x.snaps.length := by have := HX.out.slen; omega
          have hlt' : (m : Int) < sn := by omega
          obtain ⟨vs, hvl, hvr, hvi⟩ := HX.out.srow
          have hmv : m < vs.length := by omega
          obtain ⟨b, o, rfl, hq⟩ := SnvRow.at hvr m hmv
          have hE := (hq m hmv).mono hbel
          have hI := hvi m hmv hml
          have c0 := hE.nm
          have c1 := hE.sl
          have lb := hE.lt
          have HKT := Lib.hid (rootsS_take x.snaps m hml)
          have h6 := HSM.out.each _ (List.getElem_mem hml)
          have hlen : (rootsF x.files ++ rootsS (x.snaps.take m)).length ≤ 24 := by
            have h1 := rootsS_len (x.snaps.take m) (fun y hy => HSM.out.each y (List.mem_of_mem_take hy))
            rw [List.length_take] at h1
            rw [List.length_append, rootsF_len]
            have := HSM.out.files
            have := HSM.out.snaps
            omega
          have HLEN := Lib.hid hlen
          clear hq hE hlen hvr hvi
          generalize x.snaps[m] = y at *
          generalize vs[m] = u at *
          obtain ⟨nm, fls⟩ := y
          obtain ⟨unm, uo, un, uc⟩ := u
          obtain ⟨h1, h2, h4, h5⟩ := hI
          simp only at c0 c1 h1 h2 h4 h5 h6
          subst h1
          have hun : (un : Int) ≤ 6 := by omega
          have HU := Lib.hid h2
          clear h2 h6
          have hb2 : Below wr.heap.size wr (wr.alloc (.cells #[.string unm, .slice uo un uc] 105)) := (Below.refl _ _).alloc (Nat.le_refl _) _
          have hown2 := hown.mono hb2
          have hbel2 := below_step hbel hb2
          have hsz2 := hbel2.size
          have q2 : (wr.alloc (.cells #[.string unm, .slice uo un uc] 105)).heap[wr.heap.size]? = some (.cells #[.string unm, .slice uo un uc] 105 (0, 0)) := heap_alloc_new _ _
          have d1 := cell_of_block q2 1
          simp at d1
          clear hown q2
          go_wp2
          generalize hwr : wr.alloc (.cells #[.string unm, .slice uo un uc] 105) = W2 at *
          clear hwr hb2 c0 c1 lb hbel
          go_loopw [3, 34] (fun v i wr => ∃ q : Nat, q ≤ un ∧ i = .int .i64 q ∧ Own .i64 3 W1.heap.size wr v (rootsF x.files ++ rootsS (x.snaps.take m) ++ rootsF (fls.take q)) ∧ Below W1.heap.size W1 wr) (fun _ i _ => un - (intOf i).toNat)
          case atStart => exact ⟨0, Nat.zero_le _, rfl, by simpa [rootsF] using hown2, hbel2⟩
          case round =>
            clear hown2
            obtain ⟨q, hqn, rfl, hown, hbel⟩ := hrel
            by_cases hlq : q < un
            · have hql : q < fls.length := by have := HU.out; omega
              have hlt2 : (q : Int) < un := by omega
              obtain ⟨b2, o2, rfl, hq2⟩ := (h4.mono hbel).at q hql
              have hE := hq2 q hql
              have c0 := hE.nm
              have c1 := hE.root
              have c2 := hE.size
              have lb := hE.lt
              have HKQ := Lib.hid (rootsF_take fls q hql)
              have hlen : (rootsF x.files ++ rootsS (x.snaps.take m) ++ rootsF (fls.take q)).length ≤ 30 := by rw [List.length_append, rootsF_len, List.length_take]; have := HLEN.out; omega
              have HL2 := Lib.hid hlen
              clear hq2 hE hlen
              generalize fls[q] = y at *
              obtain ⟨nm, root, size⟩ := y
              simp only at c0 c1 c2
              have hb3 : Below wr.heap.size wr (wr.alloc (.cells #[.string nm, .int .i64 root, .int .i64 size] 37)) := (Below.refl _ _).alloc (Nat.le_refl _) _
              have hown3 := hown.mono hb3
              have hbel3 := below_step hbel hb3
              have hsz3 := hbel3.size
              have q3 : (wr.alloc (.cells #[.string nm, .int .i64 root, .int .i64 size] 37)).heap[wr.heap.size]? = some (.cells #[.string nm, .int .i64 root, .int .i64 size] 37 (0, 0)) := heap_alloc_new _ _
              have d1 := cell_of_block q3 1
              simp at d1
              clear hown hb3 q3
              go_wp2_with (first
                | (at_builtin; refine append_int rfl (.tmp 38) (.tmp 42) _ rfl .i64 3 8 W1.heap.size Try.underlying91 info_int _ _ _ rfl hown3 _ rfl (by simp) ?_ ?_ hsz3 ?_; rotate_right; intro v' w1 hown1 hbel1))
              · go_roundw
                case rel => exact ⟨q + 1, by omega, by go_num, by rw [HKQ.out, ← List.append_assoc]; exact hown1, hbel3.trans hbel1⟩
                case measure => simp [intOf]; omega
              · have := HL2.out; simp only [List.length_append] at this ⊢; unfold maxLen; omega
              · have := HL2.out; simp only [List.length_append] at this ⊢; omega
            · obtain rfl : q = un := by omega
              have ht : fls.take q = fls := List.take_of_length_le (by have := HU.out; omega)
              rw [ht, List.append_assoc] at hown
              have HOW := Lib.hid hown
              have hlt2 : ¬ (q : Int) < q := by omega
              clear ht hown h4
              go_wp2
              go_roundw
              case rel => exact ⟨m + 1, by omega, by go_num, by rw [HKT.out]; exact HOW.out, hbel⟩
              case measure => simp [intOf]; omega
        · obtain rfl : m = sn := by omega
          have ht : x.snaps.take m = x.snaps := List.take_of_length_le (by have := HX.out.slen; omega)
          rw [ht] at hown
          have hbw := hb0.trans (hbel.mono hb0.size)
          have hown' : Own .i64 3 w.heap.size wr u3 (rootsL x) := hown.weaken hb0.size
          clear ht hown
          have hlt' : ¬ (m : Int) < m := by omega
          go_wp2
          go_ret
          exact ⟨_, rfl, hown', hbw⟩

/-- are roots held by nobody in the store, as often? -/
def heldOk (s : List Blk) (l : List Int) : Bool := l.all fun a => decide (a = 0) || decide (((l.count a : Nat) : Int) ≤ (outL s).getD (a - 1).toNat 0)
def heldE (s : List Blk) (x : SetV) : Int := if heldOk s (rootsL x) = true then 0 else 7

/-- roots are 0, or blocks -/
def RootsIn (n : Nat) (l : List Int) : Prop := ∀ a ∈ l, a = 0 ∨ (1 ≤ a ∧ a ≤ n)
theorem entsOk_roots {s : List Blk} {key : Int} {l : List Ent} (h : EntsOk s key l) : RootsIn s.length (rootsF l) := by
  intro a ha
  obtain ⟨x, hx, rfl⟩ := List.mem_map.1 ha
  obtain ⟨-, -, -, hc, -⟩ := fileE_ok (h.each x hx).2
  obtain ⟨-, m, hm3, hm, hroot, -, -⟩ := checkT_ok hc
  rcases hroot with h | ⟨h, _⟩
  · exact .inl h
  · obtain ⟨k, hk, e, _⟩ := there_in h
    exact .inr (by omega)
theorem RightX.roots {s : List Blk} {key : Int} {x : SetV} (h : RightX s key x) : RootsIn s.length (rootsL x) := by
  intro a ha
  rcases List.mem_append.1 ha with ha | ha
  · exact entsOk_roots h.files a ha
  · obtain ⟨y, hy, ha⟩ := List.mem_flatMap.1 ha
    exact entsOk_roots (h.snaps y hy).2 a ha

theorem outM_getD (s : List Blk) (j : Nat) (h : j < s.length) : (outL s).getD j 0 = s[j].refs - (((kidsOf s).count ((j : Int) + 1) : Nat) : Int) := by
  rw [outL_out, List.getD_eq_getElem?_getD, List.getElem?_eq_getElem (by rw [outM_length]; exact h), Option.getD_some, outM_at s _ j h]

/-- a step: what is left is below nought -/
theorem held_bad {s : List Blk} {l : List Int} {k j : Nat} (hj : j < s.length) (hk : k < l.length) (he : l[k] = (j : Int) + 1) (h : s[j].refs - ((List.count ((j : Int) + 1) (kidsOf s ++ l.take (k + 1)) : Nat) : Int) < 0) : heldOk s l = false := by
  unfold heldOk
  rw [List.all_eq_false]
  refine ⟨l[k], List.getElem_mem hk, ?_⟩
  rw [he, show ((j : Int) + 1 - 1).toNat = j from by omega, outM_getD s j hj]
  have h1 : List.count ((j : Int) + 1) (l.take (k + 1)) ≤ List.count ((j : Int) + 1) l := (List.take_sublist _ _).count_le _
  rw [List.count_append] at h
  simp only [Bool.or_eq_true, decide_eq_true_eq, not_or]
  omega
/-- all steps are right -/
theorem held_good {s : List Blk} {l : List Int} (hr : RootsIn s.length l) (h : ∀ k (hk : k < l.length) j (hj : j < s.length), l[k] = (j : Int) + 1 → 0 ≤ s[j].refs - ((List.count ((j : Int) + 1) (kidsOf s ++ l.take (k + 1)) : Nat) : Int)) : heldOk s l = true := by
  unfold heldOk
  rw [List.all_eq_true]
  intro a ha
  rcases hr a ha with rfl | ⟨h1, h2⟩
  · simp
  · obtain ⟨j, rfl⟩ : ∃ j : Nat, a = j + 1 := ⟨(a - 1).toNat, by omega⟩
    have hj : j < s.length := by omega
    rw [show ((j : Int) + 1 - 1).toNat = j from by omega, outM_getD s j hj]
    -- the last place of it
    have key : ∀ m, m ≤ l.length → ((List.count ((j : Int) + 1) (l.take m) : Nat) : Int) ≤ s[j].refs - (((kidsOf s).count ((j : Int) + 1) : Nat) : Int) ∨ List.count ((j : Int) + 1) (l.take m) = 0 := by
      intro m
      induction m with
      | zero => intro _; right; simp
      | succ m ih =>
        intro hm
        have hml : m < l.length := by omega
        by_cases e : l[m] = (j : Int) + 1
        · left
          have h3 := h m hml j hj e
          rw [List.count_append] at h3
          omega
        · have h4 : List.count ((j : Int) + 1) (l.take (m + 1)) = List.count ((j : Int) + 1) (l.take m) := by
            rw [List.take_succ_eq_append_getElem hml, List.count_append, List.count_cons_of_ne (by simpa using e)]
            simp
          rw [h4]
          exact ih (by omega)
    have h5 := key l.length (Nat.le_refl _)
    rw [List.take_length] at h5
    have h6 : 0 < List.count ((j : Int) + 1) l := List.count_pos_iff.2 ha
    simp only [Bool.or_eq_true, decide_eq_true_eq]
    right
    omega

set_option maxRecDepth 100000 in
set_option maxHeartbeats 8000000 in
theorem held_any (w : World) (ao fo so : Option Addr) (n cap fn fc sn sc : Nat) (s : List Blk) (key : Int) (x : SetV) (hn : s.length = n) (hs : StoRow w ao s) (hwf : WfS s) (hx : SetIn w fo fn fc so sn sc x) (hok : setE s key x = 0) :
    Calls Try.prog 40 #[.agg #[.slice ao n cap], .agg #[.string x.nm, .slice fo fn fc, .slice so sn sc]] w fun e w' => e = .returned (.int .i64 (heldE s x)) ∧ Below w.heap.size w w' := by
  have hR := setE_ok hok
  obtain ⟨h400, _, hki, hri, _⟩ := checkE_zero s hR.chk
  have HRI := Lib.hid hR.roots
  have HSM := Lib.hid hR.small
  have HN := Lib.hid hn
  have HX := Lib.hid hx
  have HCH := Lib.hid hR.chk
  have HK := Lib.hid hki
  have HRF := Lib.hid hri
  have hn4 : n ≤ 400 := by omega
  have hn4' : (n : Int) ≤ 400 := by omega
  have hb0 : Below w.heap.size w ((w.alloc (.cells #[.slice ao n cap] 24)).alloc (.cells #[.string x.nm, .slice fo fn fc, .slice so sn sc] 28)) := ((Below.refl _ _).alloc (Nat.le_refl _) _).alloc (by simp) _
  have p1 : ((w.alloc (.cells #[.slice ao n cap] 24)).alloc (.cells #[.string x.nm, .slice fo fn fc, .slice so sn sc] 28)).heap[w.heap.size + 1]? = some (.cells #[.string x.nm, .slice fo fn fc, .slice so sn sc] 28 (0, 0)) := heap_alloc2_new _ _ _
  have hcount : (kidsOf s).length ≤ 1600 := by
    have := kidsOf_len s (fun x hx => (hki x hx).1)
    omega
  have HCO := Lib.hid hcount
  clear hn hx hok hR hki hri h400 hcount
  go_enter Try.func40, Try.ntmps40
  go_wp2_with fail
  have hs := hs.mono hb0
  have HX := Lib.hid (HX.out.mono hb0)
  generalize (w.alloc (Obj.cells #[Value.slice ao n cap] 24)).alloc (Obj.cells #[Value.string x.nm, Value.slice fo fn fc, Value.slice so sn sc] 28) = W0 at *
  refine (outside_ok _ _ _ _ s HN.out hs hwf HCH.out).mono ?_
  rintro e w1 ⟨oo, rfl, hown, hb1⟩
  have p1 := (hb1.block _ (lt_heap p1)).trans p1
  have HX := Lib.hid (HX.out.mono hb1)
  have hbw := below_step hb0 hb1
  have c10 := cell_of_block p1 0
  have c11 := cell_of_block p1 1
  have c12 := cell_of_block p1 2
  simp at c10 c11 c12
  have l1 := lt_heap p1
  clear hs
  go_wp2_with fail
  refine (roots_any _ _ _ _ _ _ _ x HX.out HSM.out).mono ?_
  rintro e w2 ⟨v, rfl, hro, hb2⟩
  obtain ⟨ra, rc, rfl, hrc, -, hrr, -⟩ := hro.shape'
  obtain ⟨LR, hLR⟩ : ∃ LR, rootsL x = LR := ⟨_, rfl⟩
  rw [hLR] at hro hrr hrc HRI
  have HRE : Hid (heldE s x = if heldOk s LR = true then 0 else 7) := Lib.hid (by unfold heldE; rw [hLR])
  have hl24 : LR.length ≤ 24 := by rw [← hLR]; exact HSM.out.roots
  rw [hLR]
  obtain ⟨m, hm⟩ : ∃ m, LR.length = m := ⟨_, rfl⟩
  rw [hm] at hl24
  rw [hm]
  have HM := Lib.hid hm
  have hm24 : (m : Int) ≤ 24 := by omega
  have hbw2 := below_step hbw hb2
  have hb12 : Below W0.heap.size W0 w2 := below_step hb1 hb2
  have HFAR : Hid (∀ g, oo = some ⟨g, 0, none⟩ → FarRow g .i64 w2 ra LR) := Lib.hid fun g hg => by
    have hlt : g < w1.heap.size := by
      rcases hown.block with ⟨h, _⟩ | ⟨g', cap', cur, hv, _, hh, _⟩
      · simp only [Value.slice.injEq] at h
        rw [hg] at h
        cases h.1
      · simp only [Value.slice.injEq] at hv
        rw [hg] at hv
        obtain ⟨rfl⟩ : g = g' := by have := hv.1; simpa using this
        exact lt_heap hh
    obtain ⟨a2, c2, hv, hf, -⟩ := hro.slx hlt
    simp only [Value.slice.injEq] at hv
    rw [hv.1]
    exact hf
  have hown := hown.mono hb2
  rw [outL_out] at hown
  have hownk : Own .i64 3 W0.heap.size w2 (.slice oo n n) (outM s (kidsOf s ++ LR.take 0)) := by simpa using hown
  clear hro hrc hLR hm hown c10 c11 c12 l1 p1 HX hb1 hb2 hbw
  go_wp2
  go_loopw [20] (fun i wr => ∃ k : Nat, k ≤ m ∧ i = .int .i64 k ∧ Own .i64 3 W0.heap.size wr (.slice oo n n) (outM s (kidsOf s ++ LR.take k)) ∧ Hid (∀ g, oo = some ⟨g, 0, none⟩ → FarRow g .i64 wr ra LR) ∧ (Row .i64 wr ra LR) ∧ Below W0.heap.size W0 wr ∧
    Hid (∀ i (hi : i < LR.length), i < k → ∀ j (hj : j < s.length), LR[i] = (j : Int) + 1 → 0 ≤ s[j].refs - ((List.count ((j : Int) + 1) (kidsOf s ++ LR.take (i + 1)) : Nat) : Int))) (fun i _ => m - (intOf i).toNat)
  case atStart => exact ⟨0, Nat.zero_le _, rfl, hownk, HFAR, hrr, hb12, Lib.hid fun i _ h => absurd h (by omega)⟩
  case round =>
    clear hownk HFAR hrr hb12 hbw2
    obtain ⟨k, hkm, rfl, hown, HFAR, hrow, hbel, HG⟩ := hrel
    have hbw := below_step hb0 hbel
    by_cases hlt : k < m
    · have hkl : k < LR.length := by have := HM.out; omega
      have hlt' : (k : Int) < m := by omega
      obtain ⟨rb, ro, rfl, hq⟩ := hrow.at k hkl
      have ck := hq k hkl
      have lk := World.block_lt_of_cell? _ _ ck
      have hri := HRI.out _ (List.getElem_mem hkl)
      have HTK : Hid (LR.take (k + 1) = LR.take k ++ [LR[k]]) := Lib.hid (by rw [List.take_succ_eq_append_getElem hkl])
      have HB1 : Hid (∀ j (hj : j < s.length), LR[k] = (j : Int) + 1 → s[j].refs - ((List.count ((j : Int) + 1) (kidsOf s ++ LR.take (k + 1)) : Nat) : Int) < 0 → heldOk s LR = false) := Lib.hid fun j hj he h => held_bad hj hkl he h
      have HG2 : Hid ((∀ j (hj : j < s.length), LR[k] = (j : Int) + 1 → 0 ≤ s[j].refs - ((List.count ((j : Int) + 1) (kidsOf s ++ LR.take (k + 1)) : Nat) : Int)) → ∀ i (hi : i < LR.length), i < k + 1 → ∀ j (hj : j < s.length), LR[i] = (j : Int) + 1 → 0 ≤ s[j].refs - ((List.count ((j : Int) + 1) (kidsOf s ++ LR.take (i + 1)) : Nat) : Int)) := Lib.hid fun h i hi hik j hj he => by
        rcases Nat.lt_or_ge i k with h1 | h1
        · exact HG.out i hi h1 j hj he
        · obtain rfl : i = k := by omega
          exact h j hj he
      clear hq
      generalize LR[k] = a at *
      rcases hri with rfl | ⟨ha1, ha2⟩
      · have HG3 := Lib.hid (HG2.out (fun j hj he => by omega))
        have hown2 : Own .i64 3 W0.heap.size wr (.slice oo n n) (outM s (kidsOf s ++ LR.take (k + 1))) := by
          rw [HTK.out, ← List.append_assoc, outM_zero]; exact hown
        clear hown
        go_wp2
        go_roundw
        case rel => exact ⟨k + 1, by omega, by go_num, hown2, HFAR, hrow, hbel, HG3⟩
        case measure => simp [intOf]; omega
      · obtain ⟨j, rfl⟩ : ∃ j : Nat, a = j + 1 := ⟨(a - 1).toNat, by omega⟩
        have hjs : j < s.length := by omega
        have hjn : (j : Int) < n := by have := HN.out; omega
        have hol := outM_length s (kidsOf s ++ LR.take k)
        obtain ⟨g, gcap, hv, hgb, hcg, hfg, hgl⟩ := hown.at j (by omega)
        simp only [Value.slice.injEq] at hv
        obtain ⟨rfl, -, -⟩ := hv
        rw [outM_at s _ j hjs] at hcg
        have hset := hown.set j (s[j].refs - ((List.count ((j : Int) + 1) (kidsOf s ++ LR.take k) : Nat) : Int) - 1)
        rw [← outM_succ s _ j hjs, List.append_assoc, ← HTK.out] at hset
        have hne : s[j].refs - ((List.count ((j : Int) + 1) (kidsOf s ++ LR.take (k + 1)) : Nat) : Int) = s[j].refs - ((List.count ((j : Int) + 1) (kidsOf s ++ LR.take k) : Nat) : Int) - 1 := by
          rw [HTK.out, ← List.append_assoc]
          generalize kidsOf s ++ LR.take k = L0
          simp [List.count_append]
          omega
        have hrj := HRF.out _ (List.getElem_mem hjs)
        have hcc := List.count_le_length (a := ((j : Int) + 1)) (l := kidsOf s ++ LR.take k)
        rw [List.length_append, List.length_take] at hcc
        have hcn0 : -2000 ≤ s[j].refs - ((List.count ((j : Int) + 1) (kidsOf s ++ LR.take k) : Nat) : Int) ∧ s[j].refs - ((List.count ((j : Int) + 1) (kidsOf s ++ LR.take k) : Nat) : Int) ≤ 1000000 := by have := HCO.out; have := HM.out; omega
        obtain ⟨hcn1, hcn2⟩ := hcn0
        have hfar2 := (HFAR.out g rfl).keep (w' := wr.setCell ⟨g, j, none⟩ (.int .i64 (s[j].refs - ((List.count ((j : Int) + 1) (kidsOf s ++ LR.take k) : Nat) : Int) - 1))) (fun b hb _ => Below.heap_setCell _ _ _ _ hb)
        have HFAR2 : Hid (∀ g', (some ⟨g, 0, none⟩ : Option Addr) = some ⟨g', 0, none⟩ → FarRow g' .i64 (wr.setCell ⟨g, j, none⟩ (.int .i64 (s[j].refs - ((List.count ((j : Int) + 1) (kidsOf s ++ LR.take k) : Nat) : Int) - 1))) (some ⟨rb, ro, none⟩) LR) := Lib.hid fun g' hg' => by
          obtain rfl : g = g' := by simpa using hg'
          exact hfar2
        have hrow2 := hfar2.row
        have hbel2 : Below W0.heap.size W0 (wr.setCell ⟨g, j, none⟩ (.int .i64 (s[j].refs - ((List.count ((j : Int) + 1) (kidsOf s ++ LR.take k) : Nat) : Int) - 1))) := hbel.setCell hgb _
        have hbw2 := below_step hb0 hbel2
        have HSET := Lib.hid hset
        have HNE := Lib.hid hne
        clear hset hol hcc hown hrj hfar2 HFAR hne ha1 ha2
        have HJ := Lib.hid (HB1.out j hjs rfl)
        by_cases hneg : s[j].refs - ((List.count ((j : Int) + 1) (kidsOf s ++ LR.take k) : Nat) : Int) - 1 < 0
        · have HR : Hid (heldE s x = 7) := Lib.hid (by rw [HRE.out, HJ.out (by rw [HNE.out]; exact hneg)]; rfl)
          clear HB1 HG2 HJ HG HRI
          generalize s[j].refs - ((List.count ((j : Int) + 1) (kidsOf s ++ LR.take k) : Nat) : Int) = cn at *
          go_wp2
          go_ret
          exact ⟨ret_int HR.out.symm, hbw2⟩
        · have HG3 := Lib.hid (HG2.out (fun j' hj' he => by
            obtain rfl : j = j' := by omega
            rw [HNE.out]
            omega))
          clear HB1 HG2 HJ HG HRI HNE
          generalize s[j].refs - ((List.count ((j : Int) + 1) (kidsOf s ++ LR.take k) : Nat) : Int) = cn at *
          go_wp2
          go_roundw
          case rel => exact ⟨k + 1, by omega, by go_num, HSET.out, HFAR2, hrow2, hbel2, HG3⟩
          case measure => simp [intOf]; omega
    · obtain rfl : k = m := by omega
      have HR : Hid (heldE s x = 0) := Lib.hid (by
        rw [HRE.out, held_good HRI.out (fun i hi j hj he => HG.out i hi (by have := HM.out; omega) j hj he)]
        rfl)
      have hlt' : ¬ (k : Int) < k := by omega
      clear hown
      go_wp2
      go_ret
      exact ⟨ret_int HR.out.symm, hbw⟩
end Go.Proofs.Ytfmgdjgedhnmeaa

namespace Go.Proofs.Ytfmgdjgedhnmeaa
open Go.RowKit
set_option linter.unusedVariables false

end Go.Proofs.Ytfmgdjgedhnmeaa
