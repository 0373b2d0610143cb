/- slices.Clone at entries and at snaps. · set.Copy: a set in memory of its own. -/
import Derived.Lib.SliceRun
import Derived.Test.YtfmgdjgedhnmeaaEntsP
import Derived.Test.YtfmgdjgedhnmeaaHeld
namespace Go.Proofs.Ytfmgdjgedhnmeaa
open Go.RowKit
set_option linter.unusedVariables false

/-- append, at the operation, by what it does -/
theorem app_run {P : Program} {w w' : World} {ops : Array Oper} {rest : List Oper} {o : Oper} {a : Act} {Q : Exit → Act → World → Prop} (hgd : o.guard = none) (s x : Operand) (t u : TypeId) (ho : o.op = .call { callee := .builtin .append, args := #[s, x], argTypes := #[t, u] })
    {vs vx v : Value} (hs : a.eval s = vs) (hx : a.eval x = vx) (hrun : ∀ ty, (Builtin.append_ #[t, u] ty #[vs, vx]).run P w = .ok v w') (hK : wpList P ops Q rest (a.put o.dst v) w') : wpList P ops Q (o :: rest) a w := by
  refine wpList_plain hgd fun K' hK' => ?_
  unfold Oper.wp execOp
  simp only [ho, resolve, invoke, builtin, Sem.run_bind, Sem.run_pure, Result.andThen_ok, List.map_toArray, List.map_cons, List.map_nil, hs, hx, hrun]
  exact hK' _ _ hK

/-- append of nothing -/
theorem run_app_none {P : Program} (w : World) (t ty e : TypeId) (i : TypeInfo) (ht : P.underlying t = some (.slice e)) (hi : P.info? e = some i) (g c c' : Nat) (a : Addr) :
    (Builtin.append_ #[t, t] ty #[.slice (some ⟨g, 0, none⟩) 0 c, .slice (some a) 0 c']).run P w = .ok (.slice (some ⟨g, 0, none⟩) 0 c) w := by
  have h := run_append_room_src w t t ty e i ht hi g 0 0 c (.slice (some a) 0 c') 0 [] (Src.ofSlice w ht a 0 c' [] (by simp) (by simp) (by simp)) (Nat.zero_le _) (by simp) (by simp)
  simpa [World.setCells] using h

theorem info_ent : (Try.prog.info? 37).map (fun i => (i.zero, i.size, i.bytes)) = some (some (.agg #[.string ⟨#[]⟩, .int .i64 0, .int .i64 0]), 3, 32) := by kernel_rfl
theorem ents_zero : (.agg #[.string ⟨#[]⟩, .int .i64 0, .int .i64 0] : Value).cells = (entK.cells entK.zero).toArray := by simp [Value.cells, entK]

set_option maxRecDepth 100000 in
theorem clone_ents (w : World) (ao : Option Addr) (m c : Nat) (l : List Ent) (hm : l.length = m) (he : entK.Row w ao l) (hc : Capd ao m c) (hl : m ≤ 1000000) :
    Calls Try.prog 73 #[.slice ao m c] w fun e w' => ∃ v, e = .returned v ∧ entK.Own w' w.heap.size v l ∧ Below w.heap.size w w' := by
  have hn := fun w a n c => Lib.run_eql_slice_nil (P := Try.prog) w 25 37 a n c 0 0 Try.underlying25
  cases ao with
  | none =>
    obtain rfl := hc.2 rfl
    obtain rfl : m = 0 := by have := hc.1; omega
    obtain rfl : l = [] := List.eq_nil_of_length_eq_zero hm
    clear hc hl hm
    go_enter Try.func73, Try.ntmps73
    go_wp2
    go_ret
    exact ⟨_, rfl, .inl ⟨rfl, rfl⟩, Below.refl _ _⟩
  | some a =>
    have hb0 : Below w.heap.size w (w.alloc (.cells #[] 37)) := (Below.refl _ _).alloc (Nat.le_refl _) _
    have hz : (w.alloc (.cells #[] 37)).heap.size = w.heap.size + 1 := by simp
    obtain ⟨i0, hi, hz0, hz1, hz2⟩ := info_parts info_ent
    have HM := Lib.hid hm
    have HL := Lib.hid hl
    rcases Nat.eq_zero_or_pos m with h0 | h0
    · subst h0
      obtain rfl : l = [] := List.eq_nil_of_length_eq_zero hm
      have p0 : (w.alloc (.cells #[] 37)).heap[w.heap.size]? = some (.cells #[] 37 (0, 0)) := heap_alloc_new _ _
      have hrun := fun ty => run_app_none (P := Try.prog) (w.alloc (.cells #[] 37)) 25 ty 37 i0 Try.underlying25 hi w.heap.size 0 c a
      clear hl hm hz hz2 hz0 hz1 hi hc he
      obtain ⟨b, o, sp⟩ := a
      go_enter Try.func73, Try.ntmps73
      go_wp2_with (at_builtin; refine app_run rfl (.tmp 5) (.tmp 6) _ _ rfl rfl rfl hrun ?_)
      go_ret
      exact ⟨_, rfl, .inr ⟨_, 0, [], rfl, Nat.le_refl _, rfl, p0⟩, hb0⟩
    · obtain ⟨b, o, ha, -, hcl⟩ := Kind.Row.at (he.mono hb0) (by omega)
      obtain rfl : a = ⟨b, o, none⟩ := by simpa using ha
      have hrun : ∃ cap sp, (∀ ty, (Builtin.append_ #[25, 25] ty #[.slice (some ⟨w.heap.size, 0, none⟩) 0 0, .slice (some ⟨b, o, none⟩) m c]).run Try.prog (w.alloc (.cells #[] 37)) = .ok (.slice (some ⟨(w.alloc (.cells #[] 37)).heap.size, 0, none⟩) m cap) ((w.alloc (.cells #[] 37)).drew.alloc (.cells (entK.all (l ++ sp)).toArray 37))) ∧ cap = l.length + sp.length := by
        obtain ⟨cap, sp, h1, h2⟩ := Kind.run_clone (K := entK) (P := Try.prog) (w.alloc (.cells #[] 37)) 25 25 i0 _ 32 Try.underlying25 hi hz0 hz1 hz2 ents_zero w.heap.size b o c l (by omega) (by have := HL.out; have := HM.out; omega) (by have := HL.out; have := HM.out; omega) hcl
        rw [hm] at h1
        exact ⟨cap, sp, fun ty => h1, h2⟩
      obtain ⟨cap, sp, hrun, hcap⟩ := hrun
      have hq : ((w.alloc (.cells #[] 37)).drew.alloc (.cells (entK.all (l ++ sp)).toArray 37)).heap[w.heap.size + 1]? = some (.cells (entK.all (l ++ sp)).toArray 37 (0, 0)) := by
        have := heap_alloc_new ((w.alloc (.cells #[] 37)).drew) (.cells (entK.all (l ++ sp)).toArray 37)
        rw [show (w.alloc (.cells #[] 37)).drew.heap.size = w.heap.size + 1 from hz] at this
        exact this
      have hb : Below w.heap.size w ((w.alloc (.cells #[] 37)).drew.alloc (.cells (entK.all (l ++ sp)).toArray 37)) := hb0.drew.alloc (by show w.heap.size ≤ (w.alloc (.cells #[] 37)).heap.size; omega) _
      have HCAP := Lib.hid hcap
      rw [hz] at hrun
      clear hl hm hz hz2 hz0 hz1 hi hc he hcl hcap
      go_enter Try.func73, Try.ntmps73
      go_wp2_with (at_builtin; refine app_run rfl (.tmp 5) (.tmp 6) _ _ rfl rfl rfl hrun ?_)
      go_ret
      exact ⟨.slice (some ⟨w.heap.size + 1, 0, none⟩) m cap, rfl, .inr ⟨w.heap.size + 1, cap, sp, by rw [HM.out], Nat.le_add_right _ _, HCAP.out, hq⟩, hb⟩

theorem info_snv : (Try.prog.info? 105).map (fun i => (i.zero, i.size, i.bytes)) = some (some (.agg #[.string ⟨#[]⟩, .slice none 0 0]), 2, 40) := by kernel_rfl
theorem snvs_zero : (.agg #[.string ⟨#[]⟩, .slice none 0 0] : Value).cells = (snvK.cells snvK.zero).toArray := by simp [Value.cells, snvK]

set_option maxRecDepth 100000 in
theorem clone_snvs (w : World) (ao : Option Addr) (m c : Nat) (l : List Snv) (hm : l.length = m) (he : snvK.Row w ao l) (hc : Capd ao m c) (hl : m ≤ 1000000) :
    Calls Try.prog 85 #[.slice ao m c] w fun e w' => ∃ v, e = .returned v ∧ snvK.Own w' w.heap.size v l ∧ Below w.heap.size w w' := by
  have hn := fun w a n c => Lib.run_eql_slice_nil (P := Try.prog) w 26 105 a n c 0 0 Try.underlying26
  cases ao with
  | none =>
    obtain rfl := hc.2 rfl
    obtain rfl : m = 0 := by have := hc.1; omega
    obtain rfl : l = [] := List.eq_nil_of_length_eq_zero hm
    clear hc hl hm
    go_enter Try.func85, Try.ntmps85
    go_wp2
    go_ret
    exact ⟨_, rfl, .inl ⟨rfl, rfl⟩, Below.refl _ _⟩
  | some a =>
    have hb0 : Below w.heap.size w (w.alloc (.cells #[] 105)) := (Below.refl _ _).alloc (Nat.le_refl _) _
    have hz : (w.alloc (.cells #[] 105)).heap.size = w.heap.size + 1 := by simp
    obtain ⟨i0, hi, hz0, hz1, hz2⟩ := info_parts info_snv
    have HM := Lib.hid hm
    have HL := Lib.hid hl
    rcases Nat.eq_zero_or_pos m with h0 | h0
    · subst h0
      obtain rfl : l = [] := List.eq_nil_of_length_eq_zero hm
      have p0 : (w.alloc (.cells #[] 105)).heap[w.heap.size]? = some (.cells #[] 105 (0, 0)) := heap_alloc_new _ _
      have hrun := fun ty => run_app_none (P := Try.prog) (w.alloc (.cells #[] 105)) 26 ty 105 i0 Try.underlying26 hi w.heap.size 0 c a
      clear hl hm hz hz2 hz0 hz1 hi hc he
      obtain ⟨b, o, sp⟩ := a
      go_enter Try.func85, Try.ntmps85
      go_wp2_with (at_builtin; refine app_run rfl (.tmp 5) (.tmp 6) _ _ rfl rfl rfl hrun ?_)
      go_ret
      exact ⟨_, rfl, .inr ⟨_, 0, [], rfl, Nat.le_refl _, rfl, p0⟩, hb0⟩
    · obtain ⟨b, o, ha, -, hcl⟩ := Kind.Row.at (he.mono hb0) (by omega)
      obtain rfl : a = ⟨b, o, none⟩ := by simpa using ha
      have hrun : ∃ cap sp, (∀ ty, (Builtin.append_ #[26, 26] ty #[.slice (some ⟨w.heap.size, 0, none⟩) 0 0, .slice (some ⟨b, o, none⟩) m c]).run Try.prog (w.alloc (.cells #[] 105)) = .ok (.slice (some ⟨(w.alloc (.cells #[] 105)).heap.size, 0, none⟩) m cap) ((w.alloc (.cells #[] 105)).drew.alloc (.cells (snvK.all (l ++ sp)).toArray 105))) ∧ cap = l.length + sp.length := by
        obtain ⟨cap, sp, h1, h2⟩ := Kind.run_clone (K := snvK) (P := Try.prog) (w.alloc (.cells #[] 105)) 26 26 i0 _ 40 Try.underlying26 hi hz0 hz1 hz2 snvs_zero w.heap.size b o c l (by omega) (by have := HL.out; have := HM.out; omega) (by have := HL.out; have := HM.out; omega) hcl
        rw [hm] at h1
        exact ⟨cap, sp, fun ty => h1, h2⟩
      obtain ⟨cap, sp, hrun, hcap⟩ := hrun
      have hq : ((w.alloc (.cells #[] 105)).drew.alloc (.cells (snvK.all (l ++ sp)).toArray 105)).heap[w.heap.size + 1]? = some (.cells (snvK.all (l ++ sp)).toArray 105 (0, 0)) := by
        have := heap_alloc_new ((w.alloc (.cells #[] 105)).drew) (.cells (snvK.all (l ++ sp)).toArray 105)
        rw [show (w.alloc (.cells #[] 105)).drew.heap.size = w.heap.size + 1 from hz] at this
        exact this
      have hb : Below w.heap.size w ((w.alloc (.cells #[] 105)).drew.alloc (.cells (snvK.all (l ++ sp)).toArray 105)) := hb0.drew.alloc (by show w.heap.size ≤ (w.alloc (.cells #[] 105)).heap.size; omega) _
      have HCAP := Lib.hid hcap
      rw [hz] at hrun
      clear hl hm hz hz2 hz0 hz1 hi hc he hcl hcap
      go_enter Try.func85, Try.ntmps85
      go_wp2_with (at_builtin; refine app_run rfl (.tmp 5) (.tmp 6) _ _ rfl rfl rfl hrun ?_)
      go_ret
      exact ⟨.slice (some ⟨w.heap.size + 1, 0, none⟩) m cap, rfl, .inr ⟨w.heap.size + 1, cap, sp, by rw [HM.out], Nat.le_add_right _ _, HCAP.out, hq⟩, hb⟩
end Go.Proofs.Ytfmgdjgedhnmeaa

namespace Go.Proofs.Ytfmgdjgedhnmeaa
open Go.RowKit
set_option linter.unusedVariables false

/-- a cell of an element is written -/
theorem Kind.set_cell {α : Type} (K : Kind α) (l : List α) (i j : Nat) (v : Value) (x : α) (hi : i < l.length) (hj : j < K.k) (hx : K.cells x = (K.cells l[i]).set j v) : (K.all l).set (i * K.k + j) v = K.all (l.set i x) := by
  induction l generalizing i with
  | nil => simp at hi
  | cons y l ih =>
    rw [K.all_cons]
    cases i with
    | zero =>
      rw [List.set_append_left _ _ (by rw [K.len]; omega), List.set_cons_zero, K.all_cons, hx]
      simp
    | succ i =>
      rw [List.set_append_right _ _ (by rw [K.len, Nat.add_mul]; omega), K.len, show (i + 1) * K.k + j - K.k = i * K.k + j from by rw [Nat.add_mul]; omega, List.set_cons_succ, K.all_cons, ih i (by simpa using hi) hx]

theorem Kind.Own.setCell {α : Type} {K : Kind α} {w : World} {base g n cap : Nat} {l : List α} (h : K.Own w base (.slice (some ⟨g, 0, none⟩) n cap) l) (i j : Nat) (v : Value) (x : α) (hi : i < l.length) (hj : j < K.k) (hx : K.cells x = (K.cells l[i]).set j v) :
    K.Own (w.setCell ⟨g, i * K.k + j, none⟩ v) base (.slice (some ⟨g, 0, none⟩) n cap) (l.set i x) := by
  rcases h with ⟨_, h⟩ | ⟨g', cap', sp, h1, h2, h3, h4⟩
  · cases h
  · simp only [Value.slice.injEq, Option.some.injEq, Addr.mk.injEq, and_true] at h1
    obtain ⟨rfl, hn, rfl⟩ := h1
    refine .inr ⟨g, cap, sp, by rw [List.length_set, hn], h2, by rw [List.length_set]; exact h3, ?_⟩
    have h5 := heap_setCell_same' h4 (i * K.k + j) v
    rw [h5]
    congr 2
    have h6 := K.set_cell (l ++ sp) i j v x (by rw [List.length_append]; omega) hj (by rw [List.getElem_append_left hi]; exact hx)
    rw [List.set_append_left _ _ hi] at h6
    rw [← h6]
    simp
theorem Kind.Own.other {α : Type} {K : Kind α} {w : World} {base : Nat} {ao : Option Addr} {n cap : Nat} {l : List α} (h : K.Own w base (.slice ao n cap) l) {w' : World} (hk : ∀ g, ao = some ⟨g, 0, none⟩ → g < w.heap.size → w'.heap[g]? = w.heap[g]?) : K.Own w' base (.slice ao n cap) l := by
  rcases h with h | ⟨g, cap', sp, h1, h2, h3, h4⟩
  · exact .inl h
  · refine .inr ⟨g, cap', sp, h1, h2, h3, ?_⟩
    simp only [Value.slice.injEq] at h1
    rw [hk g h1.1 (lt_heap h4)]
    exact h4
theorem Kind.Own.ge {α : Type} {K : Kind α} {w : World} {base g n cap : Nat} {l : List α} (h : K.Own w base (.slice (some ⟨g, 0, none⟩) n cap) l) : base ≤ g ∧ g < w.heap.size := by
  rcases h with ⟨_, h⟩ | ⟨g', cap', sp, h1, h2, h3, h4⟩
  · cases h
  · simp only [Value.slice.injEq, Option.some.injEq, Addr.mk.injEq, and_true] at h1
    obtain ⟨rfl, -, -⟩ := h1
    exact ⟨h2, lt_heap h4⟩

/-- entries that lie in none of such blocks -/
def EntFar (bad : Nat → Prop) (w : World) (ao : Option Addr) (l : List Ent) : Prop := l = [] ∨ ∃ b o, ao = some ⟨b, o, none⟩ ∧ ¬ bad b ∧ b < w.heap.size ∧ ∀ j v, (entK.all l)[j]? = some v → w.cell? ⟨b, o + j, none⟩ = some v
theorem EntFar.row {bad : Nat → Prop} {w : World} {ao : Option Addr} {l : List Ent} (h : EntFar bad w ao l) : EntRow w ao l := by
  rcases h with h | ⟨b, o, h1, -, -, h⟩
  · exact .inl h
  · exact .inr ⟨b, o, h1, h⟩
theorem EntFar.keep {bad : Nat → Prop} {w w' : World} {ao : Option Addr} {l : List Ent} (h : EntFar bad w ao l) (hs : w.heap.size ≤ w'.heap.size) (hk : ∀ b, ¬ bad b → b < w.heap.size → w'.heap[b]? = w.heap[b]?) : EntFar bad w' ao l := by
  rcases h with h | ⟨b, o, h1, h2, h3, h⟩
  · exact .inl h
  · exact .inr ⟨b, o, h1, h2, by omega, fun j v hj => (World.cell?_of_block (a := ⟨b, o + j, none⟩) (hk b h2 h3)).trans (h j v hj)⟩
theorem EntRow.far {bad : Nat → Prop} {w : World} {ao : Option Addr} {l : List Ent} (h : EntRow w ao l) (hb : ∀ b, b < w.heap.size → ¬ bad b) : EntFar bad w ao l := by
  rcases Nat.eq_zero_or_pos l.length with h0 | h0
  · exact .inl (List.eq_nil_of_length_eq_zero h0)
  · obtain ⟨b, o, h1, h2, h3⟩ := Kind.Row.at h h0
    exact .inr ⟨b, o, h1, hb b h2, h2, h3⟩

theorem EntFar.weaken {bad bad' : Nat → Prop} {w : World} {ao : Option Addr} {l : List Ent} (h : EntFar bad w ao l) (hb : ∀ b, bad' b → bad b) : EntFar bad' w ao l := by
  rcases h with h | ⟨b, o, h1, h2, h3, h⟩
  · exact .inl h
  · exact .inr ⟨b, o, h1, fun h => h2 (hb b h), h3, h⟩
/-- no entry lies in a block -/
def NoEnt (w : World) (p : Nat) : Prop := ∀ j q x y, w.cell? ⟨p, j, none⟩ = some (.string q) → w.cell? ⟨p, j + 1, none⟩ = some (.int .i64 x) → w.cell? ⟨p, j + 2, none⟩ = some (.int .i64 y) → False
/-- a block without entries is written -/
theorem EntFar.off {bad : Nat → Prop} {w w' : World} {ao : Option Addr} {l : List Ent} {p : Nat} (h : EntFar bad w ao l) (hp : NoEnt w p ∨ bad p) (hs : w.heap.size ≤ w'.heap.size) (hk : ∀ b, b ≠ p → b < w.heap.size → w'.heap[b]? = w.heap[b]?) : EntFar bad w' ao l := by
  rcases Nat.eq_zero_or_pos l.length with h0 | h0
  · exact .inl (List.eq_nil_of_length_eq_zero h0)
  · rcases h with h | ⟨b, o, h1, h2, h3, h⟩
    · exact .inl h
    · have hne : b ≠ p := by
        rintro rfl
        rcases hp with hp | hp
        · have hE := ent_cells h 0 h0
          exact hp _ _ _ _ hE.nm hE.root hE.size
        · exact h2 hp
      exact .inr ⟨b, o, h1, h2, by omega, fun j v hj => (World.cell?_of_block (a := ⟨b, o + j, none⟩) (hk b hne h3)).trans (h j v hj)⟩

/-- blocks where no entries of snaps may lie -/
def badX (base : Nat) (fo so : Option Addr) (b : Nat) : Prop := b < base ∨ fo = some ⟨b, 0, none⟩ ∨ so = some ⟨b, 0, none⟩
/-- a set whose rows are the call's own -/
structure OwnXb (bad : Nat → Nat → Prop) (w : World) (base : Nat) (fo : Option Addr) (fn fc : Nat) (so : Option Addr) (sn sc : Nat) (x : SetV) (vs : List Snv) : Prop where
  vlen : vs.length = x.snaps.length
  files : entK.Own w base (.slice fo fn fc) x.files
  snaps : snvK.Own w base (.slice so sn sc) vs
  apart : ∀ g, fo = some ⟨g, 0, none⟩ → so ≠ some ⟨g, 0, none⟩
  each : ∀ i (h : i < vs.length) (h' : i < x.snaps.length), vs[i].nm = x.snaps[i].nm ∧ vs[i].n = x.snaps[i].files.length ∧ EntFar (bad i) w vs[i].ao x.snaps[i].files ∧ Capd vs[i].ao vs[i].n vs[i].cap
def OwnX (w : World) (base : Nat) (fo : Option Addr) (fn fc : Nat) (so : Option Addr) (sn sc : Nat) (x : SetV) (vs : List Snv) : Prop := OwnXb (fun _ => badX base fo so) w base fo fn fc so sn sc x vs
section
variable {bad : Nat → Nat → Prop} {w w' : World} {base : Nat} {fo : Option Addr} {fn fc : Nat} {so : Option Addr} {sn sc : Nat} {x : SetV} {vs : List Snv}
theorem OwnXb.keep (h : OwnXb bad w base fo fn fc so sn sc x vs) (hs : w.heap.size ≤ w'.heap.size) (hk : ∀ b, b < w.heap.size → w'.heap[b]? = w.heap[b]?) : OwnXb bad w' base fo fn fc so sn sc x vs :=
  ⟨h.vlen, h.files.other fun g _ hl => hk g hl, h.snaps.other fun g _ hl => hk g hl, h.apart, fun i h1 h2 => ⟨(h.each i h1 h2).1, (h.each i h1 h2).2.1, (h.each i h1 h2).2.2.1.keep hs (fun b _ hl => hk b hl), (h.each i h1 h2).2.2.2⟩⟩
theorem OwnXb.mono (h : OwnXb bad w base fo fn fc so sn sc x vs) (hb : Below w.heap.size w w') : OwnXb bad w' base fo fn fc so sn sc x vs := h.keep hb.size fun b hl => hb.block b hl
/-- another block is written -/
theorem OwnXb.off (h : OwnXb bad w base fo fn fc so sn sc x vs) {p : Nat} (hp : NoEnt w p ∨ ∀ i, bad i p) (hf : fo ≠ some ⟨p, 0, none⟩) (hso : so ≠ some ⟨p, 0, none⟩) (hs : w.heap.size ≤ w'.heap.size) (hk : ∀ b, b ≠ p → b < w.heap.size → w'.heap[b]? = w.heap[b]?) : OwnXb bad w' base fo fn fc so sn sc x vs :=
  ⟨h.vlen, h.files.other fun g hg hl => hk g (by rintro rfl; exact hf hg) hl, h.snaps.other fun g hg hl => hk g (by rintro rfl; exact hso hg) hl, h.apart, fun i h1 h2 => ⟨(h.each i h1 h2).1, (h.each i h1 h2).2.1, (h.each i h1 h2).2.2.1.off (hp.imp id (fun h => h i)) hs hk, (h.each i h1 h2).2.2.2⟩⟩
theorem OwnXb.len (h : OwnXb bad w base fo fn fc so sn sc x vs) : fn = x.files.length ∧ sn = x.snaps.length := by
  obtain ⟨_, _, h1, _⟩ := h.files.row
  obtain ⟨_, _, h2, _⟩ := h.snaps.row
  simp only [Value.slice.injEq] at h1 h2
  exact ⟨h1.2.1, by rw [h2.2.1, h.vlen]⟩
theorem OwnXb.is (h : OwnXb bad w base fo fn fc so sn sc x vs) : SetIn w fo fn fc so sn sc x := by
  obtain ⟨a1, c1, h1, r1, l1, n1⟩ := h.files.row
  obtain ⟨a2, c2, h2, r2, l2, n2⟩ := h.snaps.row
  simp only [Value.slice.injEq] at h1 h2
  obtain ⟨rfl, rfl, rfl⟩ := h1
  obtain ⟨rfl, rfl, rfl⟩ := h2
  exact ⟨rfl, h.vlen.symm, r1, ⟨vs, h.vlen, r2, fun i h1 h2 => ⟨(h.each i h1 h2).1, (h.each i h1 h2).2.1, (h.each i h1 h2).2.2.1.row, (h.each i h1 h2).2.2.2⟩⟩, ⟨l1, n1⟩, ⟨l2, n2⟩⟩
theorem Kind.Own.blk {α : Type} {K : Kind α} {w : World} {base n cap : Nat} {ao : Option Addr} {l : List α} (h : K.Own w base (.slice ao n cap) l) (hl : 0 < l.length) : ∃ g, ao = some ⟨g, 0, none⟩ ∧ base ≤ g ∧ g < w.heap.size ∧ (∀ j, w.frozen? ⟨g, j, none⟩ = false) ∧ ∀ j v, (K.all l)[j]? = some v → w.cell? ⟨g, j, none⟩ = some v := by
  rcases h with ⟨rfl, _⟩ | ⟨g, cap', sp, h1, h2, h3, h4⟩
  · simp at hl
  · simp only [Value.slice.injEq] at h1
    refine ⟨g, h1.1, h2, lt_heap h4, fun j => free_of_block h4 j, fun j v hj => ?_⟩
    rw [cell_of_block h4, List.getElem?_toArray, K.all_append, List.getElem?_append_left (List.getElem?_eq_some_iff.1 hj).1]
    exact hj
theorem OwnXb.snapAt (h : OwnXb bad w base fo fn fc so sn sc x vs) (k : Nat) (hk : k < vs.length) : ∃ g, so = some ⟨g, 0, none⟩ ∧ base ≤ g ∧ g < w.heap.size ∧ (∀ j, w.frozen? ⟨g, j, none⟩ = false) ∧ SnvAt w g (k * 2) vs[k] := by
  obtain ⟨g, h1, h2, h3, h4, h5⟩ := h.snaps.blk (by omega)
  refine ⟨g, h1, h2, h3, h4, ?_⟩
  have := snv_cells (b := g) (o := 0) (fun j v hj => by rw [Nat.zero_add]; exact h5 j v hj) k hk
  rwa [Nat.zero_add] at this
end

/-- a snap's files are cloned -/
theorem own_step {w4 : World} {base W k g n4 k4 B4 : Nat} {a4 fo : Option Addr} {fn fc sn sc : Nat} {x : SetV} {us : List Snv} (h : OwnXb (fun i b => (i < k ∧ badX base fo (some ⟨g, 0, none⟩) b) ∨ (k ≤ i ∧ W ≤ b)) w4 base fo fn fc (some ⟨g, 0, none⟩) sn sc x us) (hk : k < us.length) (hkx : k < x.snaps.length) (hWb : W ≤ base)
    (nm : ByteArray) (hnm : us[k].nm = nm) (ho4 : entK.Own w4 B4 (.slice a4 n4 k4) x.snaps[k].files) (hB : base ≤ B4) (hgB : g < B4) (hfB : ∀ q, fo = some ⟨q, 0, none⟩ → q < B4) :
    OwnXb (fun i b => (i < k + 1 ∧ badX base fo (some ⟨g, 0, none⟩) b) ∨ (k + 1 ≤ i ∧ W ≤ b)) (w4.setCell ⟨g, k * 2 + 1, none⟩ (.slice a4 n4 k4)) base fo fn fc (some ⟨g, 0, none⟩) sn sc x (us.set k ⟨nm, a4, n4, k4⟩) := by
  have hkeep : ∀ b, b ≠ g → (w4.setCell ⟨g, k * 2 + 1, none⟩ (.slice a4 n4 k4)).heap[b]? = w4.heap[b]? := fun b hb => Below.heap_setCell _ _ _ _ hb
  have hsz : (w4.setCell ⟨g, k * 2 + 1, none⟩ (.slice a4 n4 k4)).heap.size = w4.heap.size := by simp
  have hgW : base ≤ g := (Kind.Own.ge h.snaps).1
  refine ⟨by rw [List.length_set]; exact h.vlen, h.files.other fun q hq _ => hkeep q (by rintro rfl; exact h.apart _ hq rfl), ?_, h.apart, fun i h1 h2 => ?_⟩
  · exact Kind.Own.setCell (K := snvK) h.snaps k 1 (.slice a4 n4 k4) ⟨nm, a4, n4, k4⟩ hk (by decide) (by show [Value.string nm, Value.slice a4 n4 k4] = [Value.string us[k].nm, Value.slice us[k].ao us[k].n us[k].cap].set 1 (.slice a4 n4 k4); rw [hnm]; rfl)
  · have h1' : i < us.length := by rw [List.length_set] at h1; exact h1
    by_cases e : i = k
    · subst e
      obtain ⟨i1, -, -, -⟩ := h.each i h1' h2
      obtain ⟨a, c, hv, hr, hl, h0⟩ := ho4.row
      simp only [Value.slice.injEq] at hv
      obtain ⟨rfl, rfl, rfl⟩ := hv
      rw [List.getElem_set_self]
      refine ⟨by rw [← i1, hnm], rfl, ?_, ⟨hl, h0⟩⟩
      rcases Nat.eq_zero_or_pos x.snaps[i].files.length with hz | hz
      · exact .inl (List.eq_nil_of_length_eq_zero hz)
      · obtain ⟨q, hq, hqb, hql, -, hqc⟩ := ho4.blk hz
        refine .inr ⟨q, 0, hq, ?_, by rw [hsz]; exact hql, fun j v hj => ?_⟩
        · rintro (⟨_, h | h | h⟩ | ⟨h, _⟩)
          · omega
          · have := hfB q h; omega
          · simp only [Option.some.injEq, Addr.mk.injEq, and_true] at h; omega
          · omega
        · rw [Nat.zero_add]
          exact (World.cell?_of_block (a := ⟨q, j, none⟩) (hkeep q (by omega))).trans (hqc j v hj)
    · rw [List.getElem_set_ne (by omega)]
      obtain ⟨i1, i2, i3, i4⟩ := h.each i h1' h2
      refine ⟨i1, i2, ?_, i4⟩
      have h3 := i3.off (p := g) (w' := w4.setCell ⟨g, k * 2 + 1, none⟩ (.slice a4 n4 k4)) (.inr (by
        rcases Nat.lt_or_ge i k with h | h
        · exact .inl ⟨h, .inr (.inr rfl)⟩
        · exact .inr ⟨h, by omega⟩)) (by rw [hsz]; exact Nat.le_refl _) (fun b hb _ => hkeep b hb)
      refine h3.weaken fun b hb => ?_
      rcases hb with ⟨h5, h6⟩ | ⟨h5, h6⟩
      · exact .inl ⟨by omega, h6⟩
      · exact .inr ⟨by omega, h6⟩

/-- behind the two clones -/
def CopyMid (w W0 wx : World) (B : Nat) (x : SetV) (vs : List Snv) (fn sn : Nat) : Prop := ∃ fo fc so sc, wx.heap[B]? = some (.cells #[.string x.nm, .slice fo fn fc, .slice so sn sc] 28 (0, 0)) ∧
  wx.heap[B + 1]? = some (.cells #[.string ⟨#[]⟩, .slice none 0 0, .slice none 0 0] 28 (0, 0)) ∧ entK.Own wx W0.heap.size (.slice fo fn fc) x.files ∧ snvK.Own wx W0.heap.size (.slice so sn sc) vs ∧
  (∀ g, fo = some ⟨g, 0, none⟩ → so ≠ some ⟨g, 0, none⟩) ∧ Below w.heap.size w wx

set_option maxRecDepth 100000 in
set_option maxHeartbeats 8000000 in
theorem setCopy_any (w : World) (fo so : Option Addr) (fn fc sn sc : Nat) (x : SetV) (hx : SetIn w fo fn fc so sn sc x) (hsm : SmallX x) :
    Calls Try.prog 43 #[.agg #[.string x.nm, .slice fo fn fc, .slice so sn sc]] w fun e w' => ∃ fo' fc' so' sc' vs, e = .returned (.agg #[.string x.nm, .slice fo' fn fc', .slice so' sn sc']) ∧ OwnX w' w.heap.size fo' fn fc' so' sn sc' x vs ∧ Below w.heap.size w w' := by
  have HX := Lib.hid hx
  have HSM := Lib.hid hsm
  obtain ⟨vs, hvl, hvr, hvi⟩ := hx.srow
  have hb0 : Below w.heap.size w ((w.alloc (.cells #[.string x.nm, .slice fo fn fc, .slice so sn sc] 28)).alloc (.cells #[.string ⟨#[]⟩, .slice none 0 0, .slice none 0 0] 28)) := ((Below.refl _ _).alloc (Nat.le_refl _) _).alloc (by simp) _
  have p0 : ((w.alloc (.cells #[.string x.nm, .slice fo fn fc, .slice so sn sc] 28)).alloc (.cells #[.string ⟨#[]⟩, .slice none 0 0, .slice none 0 0] 28)).heap[w.heap.size]? = some (.cells #[.string x.nm, .slice fo fn fc, .slice so sn sc] 28 (0, 0)) := heap_alloc2_old _ _ _
  have p1 : ((w.alloc (.cells #[.string x.nm, .slice fo fn fc, .slice so sn sc] 28)).alloc (.cells #[.string ⟨#[]⟩, .slice none 0 0, .slice none 0 0] 28)).heap[w.heap.size + 1]? = some (.cells #[.string ⟨#[]⟩, .slice none 0 0, .slice none 0 0] 28 (0, 0)) := heap_alloc2_new _ _ _
  have hz : ((w.alloc (.cells #[.string x.nm, .slice fo fn fc, .slice so sn sc] 28)).alloc (.cells #[.string ⟨#[]⟩, .slice none 0 0, .slice none 0 0] 28)).heap.size = w.heap.size + 2 := by simp
  have HZ := Lib.hid hz
  have hfl := Lib.hid hx.flen
  have hsl : Hid (vs.length = sn) := Lib.hid (hvl.trans hx.slen)
  have hfc := Lib.hid hx.fcap
  have hsc := Lib.hid hx.scap
  have hfr := hx.frow.mono hb0
  have hsr := hvr.mono hb0
  have hf6 : fn ≤ 6 := by have := hx.flen; have := hsm.files; omega
  have hs3 : sn ≤ 3 := by have := hx.slen; have := hsm.snaps; omega
  have HVI := Lib.hid hvi
  have HVL := Lib.hid hvl
  clear hx hsm hvi hvl hvr hz
  go_enter Try.func43, Try.ntmps43
  go_upto_region 1 with fail
  generalize (w.alloc (Obj.cells #[Value.string x.nm, Value.slice fo fn fc, Value.slice so sn sc] 28)).alloc (Obj.cells #[Value.string ⟨#[]⟩, Value.slice none 0 0, Value.slice none 0 0] 28) = W0 at *
  go_cut [5] (fun _ wx => Hid (CopyMid w W0 wx w.heap.size x vs fn sn))
  case first =>
    have e1 := cell_of_block p0 1
    have e2 := cell_of_block p0 2
    simp at e1 e2
    have z0 := lt_heap p0
    have z1 := lt_heap p1
    have fz := fun j => free_of_block p0 j
    go_region_with (first
      | (go_at_call 73; refine (clone_ents _ _ _ _ x.files hfl.out (by exact hfr) hfc.out (by omega)).mono ?_; rintro e w4 ⟨v4, rfl, ho4, hb4⟩; obtain ⟨a4, k4, rfl, -, -, -⟩ := ho4.row; have u1 := ((bcell hb4).1 _ _ z0).trans e1; have u2 := ((bcell hb4).1 _ _ z0).trans e2; have z4 := hb4.size; have uf := fun j => ((bcell hb4).2 w.heap.size j z0).trans (fz j))
      | (go_at_call 85; refine (clone_snvs _ _ _ _ vs hsl.out (by exact Kind.Row.mono (w := W0.drew) hsr hb4) hsc.out (by omega)).mono ?_; rintro e w5 ⟨v5, rfl, ho5, hb5⟩; obtain ⟨a5, k5, rfl, -, -, -⟩ := ho5.row; have y1 := ((bcell hb5).1 _ _ (Nat.lt_of_lt_of_le z0 z4)).trans u1; have y2 := ((bcell hb5).1 _ _ (Nat.lt_of_lt_of_le z0 z4)).trans u2; have z5 := hb5.size; have yf := fun j => ((bcell hb5).2 w.heap.size j (Nat.lt_of_lt_of_le z0 z4)).trans (uf j)))
    all_goals
      have HZ2 : Hid (CopyMid w W0 ((w5.setCell ⟨w.heap.size, 1, none⟩ (.slice a4 x.files.length k4)).setCell ⟨w.heap.size, 2, none⟩ (.slice a5 vs.length k5)) w.heap.size x vs fn sn) := Lib.hid (by
        have hb34 : Below W0.heap.size W0 w4 := undrew hb4
        have z34 : W0.heap.size ≤ w4.heap.size := hb34.size
        have hb5' : Below w4.heap.size w4 w5 := hb5
        have r0 := (hb5'.block _ (Nat.lt_of_lt_of_le z0 z34)).trans ((hb34.block _ z0).trans p0)
        have r1 := heap_setCell_same' (heap_setCell_same' r0 1 (.slice a4 x.files.length k4)) 2 (.slice a5 vs.length k5)
        simp only [List.setIfInBounds_toArray, List.set_cons_zero, List.set_cons_succ] at r1
        have q0 := (hb5'.block _ (Nat.lt_of_lt_of_le z1 z34)).trans ((hb34.block _ z1).trans p1)
        have o4 := ho4.mono hb5'
        have hzz := HZ.out
        have keep : ∀ b, b ≠ w.heap.size → ((w5.setCell ⟨w.heap.size, 1, none⟩ (.slice a4 x.files.length k4)).setCell ⟨w.heap.size, 2, none⟩ (.slice a5 vs.length k5)).heap[b]? = w5.heap[b]? := fun b hb => (Below.heap_setCell _ _ _ _ hb).trans (Below.heap_setCell _ _ _ _ hb)
        have g4 : ∀ g, a4 = some ⟨g, 0, none⟩ → W0.heap.size ≤ g ∧ g < w4.heap.size := fun g hg => by
          subst hg
          exact ho4.ge
        have g5 : ∀ g, a5 = some ⟨g, 0, none⟩ → w4.heap.size ≤ g ∧ g < w5.heap.size := fun g hg => by
          subst hg
          exact ho5.ge
        rw [← hfl.out, ← hsl.out]
        refine ⟨a4, k4, a5, k5, r1, (keep _ (by omega)).trans q0, o4.other fun g hg _ => keep g (by have := g4 g hg; omega), (ho5.weaken z34).other fun g hg _ => keep g (by have := g5 g hg; omega), fun g hg hg2 => by have := g4 g hg; have := g5 g hg2; omega, ?_⟩
        exact ((hb0.trans ((hb34.mono hb0.size).trans (hb5'.mono (Nat.le_trans hb0.size z34)))).setCell (Nat.le_refl _) _).setCell (Nat.le_refl _) _)
      clear ho4 hb4 u1 u2 uf ho5 hb5 y1 y2 yf e1 e2 fz
      go_wp2_with fail
      go_meet
      exact HZ2
  case rest =>
    clear p0 p1
    obtain ⟨fo1, fc1, so1, sc1, p0, p1, hof, hos, hap, hbw⟩ := hcut.out
    have hzz := HZ.out
    have hg2 : ∀ g, so1 = some ⟨g, 0, none⟩ → W0.heap.size ≤ g := fun g hg => by subst hg; exact hos.ge.1
    have hg1 : ∀ g, fo1 = some ⟨g, 0, none⟩ → W0.heap.size ≤ g := fun g hg => by subst hg; exact hof.ge.1
    have hO : OwnXb (fun i b => (i < 0 ∧ badX W0.heap.size fo1 so1 b) ∨ (0 ≤ i ∧ w.heap.size ≤ b)) wc W0.heap.size fo1 fn fc1 so1 sn sc1 x vs := by
      refine ⟨HVL.out, hof, hos, hap, fun i h1 h2 => ?_⟩
      obtain ⟨a1, a2, a3, a4⟩ := HVI.out i h1 h2
      refine ⟨a1, a2, ?_, a4⟩
      refine (EntRow.far (bad := fun b => (i < 0 ∧ badX W0.heap.size fo1 so1 b) ∨ (0 ≤ i ∧ w.heap.size ≤ b)) a3 (fun b hb h => ?_)).keep hbw.size (fun b _ hl => hbw.block b hl)
      rcases h with ⟨h, _⟩ | ⟨_, h⟩ <;> omega
    have HG1 := Lib.hid hg1
    have HG2 := Lib.hid hg2
    have c2 := cell_of_block p0 2
    simp at c2
    have l0 := lt_heap p0
    have l1 := lt_heap p1
    clear hof hos hap hcut hg1 hg2
    go_wp2
    clear c2 l0 l1
    go_loopw [16] (fun i wr => ∃ k : Nat, k ≤ sn ∧ i = .int .i64 k ∧ (∃ us, OwnXb (fun i b => (i < k ∧ badX W0.heap.size fo1 so1 b) ∨ (k ≤ i ∧ w.heap.size ≤ b)) wr W0.heap.size fo1 fn fc1 so1 sn sc1 x us) ∧ wr.heap[w.heap.size]? = some (.cells #[.string x.nm, .slice fo1 fn fc1, .slice so1 sn sc1] 28 (0, 0)) ∧
      wr.heap[w.heap.size + 1]? = some (.cells #[.string ⟨#[]⟩, .slice none 0 0, .slice none 0 0] 28 (0, 0)) ∧ Below w.heap.size w wr) (fun i _ => sn - (intOf i).toNat)
    case atStart => exact ⟨0, Nat.zero_le _, rfl, ⟨vs, hO⟩, p0, p1, hbw⟩
    case round =>
      clear hO p0 p1 hbw
      obtain ⟨k, hkn, rfl, ⟨us, hO⟩, p0, p1, hbw⟩ := hrel
      have c1 := cell_of_block p0 1
      have c2 := cell_of_block p0 2
      have c3 := cell_of_block p0 0
      simp at c1 c2 c3
      have l0 := lt_heap p0
      have l1 := lt_heap p1
      by_cases hlt : k < sn
      · have hlt' : (k : Int) < sn := by omega
        have hku : k < us.length := by rw [hO.vlen, ← hO.len.2]; exact hlt
        have hkx : k < x.snaps.length := by rw [← hO.len.2]; exact hlt
        obtain ⟨g, hg, hgb, hgl, hgf, hE⟩ := hO.snapAt k hku
        obtain ⟨i1, i2, i3, i4⟩ := hO.each k hku hkx
        have d0 := hE.nm
        have d1 := hE.sl
        have h6 := HSM.out.each _ (List.getElem_mem hkx)
        obtain ⟨u, hu⟩ : ∃ u, us[k] = u := ⟨_, rfl⟩
        rw [hu] at d0 d1 i1 i2 i3 i4
        obtain ⟨unm, uo, un, uc⟩ := u
        simp only at d0 d1 i1 i2 i3 i4
        have HU := Lib.hid (show us[k].nm = unm by rw [hu])
        have HI2 := Lib.hid i2
        have hun : un ≤ 6 := by omega
        have HI4 := Lib.hid i4
        have HHG := Lib.hid hg
        have hHf : Hid (∀ q, fo1 = some ⟨q, 0, none⟩ → q < wr.heap.size) := Lib.hid fun q hq => by have h := hO.files; rw [hq] at h; exact h.ge.2
        have HO := Lib.hid hO
        subst hg
        have hba : Below wr.heap.size wr (wr.alloc (.cells #[.string unm, .slice uo un uc] 105)) := (Below.refl _ _).alloc (Nat.le_refl _) _
        have b0 : (wr.alloc (.cells #[.string unm, .slice uo un uc] 105)).cell? ⟨wr.heap.size, 0, none⟩ = some (.string unm) := by simp
        have b1 : (wr.alloc (.cells #[.string unm, .slice uo un uc] 105)).cell? ⟨wr.heap.size, 1, none⟩ = some (.slice uo un uc) := by simp
        have b3 := ((bcell hba).1 w.heap.size 2 l0).trans c2
        have bf : ∀ j, (wr.alloc (.cells #[.string unm, .slice uo un uc] 105)).frozen? ⟨g, j, none⟩ = false := fun j => ((bcell hba).2 _ _ hgl).trans (hgf j)
        have b5 := ((bcell hba).1 _ _ hgl).trans d0
        have b6 := ((bcell hba).1 _ _ hgl).trans d1
        have hrow := i3.row.mono hba
        have lz : wr.heap.size < (wr.alloc (.cells #[.string unm, .slice uo un uc] 105)).heap.size := by simp
        clear hu i1 i2 i3 i4 h6 hE hO
        go_wp2_with fail
        generalize wr.alloc (Obj.cells #[Value.string unm, Value.slice uo un uc] 105) = W3 at *
        have l13 : w.heap.size < W3.heap.size := by omega
        have lg3 : g < W3.heap.size := by omega
        have hne1 : w.heap.size ≠ g := by omega
        have hne2 : wr.heap.size ≠ g := by omega
        clear c1 c2 c3 d0 d1
        go_region_held3 (fun w' => w'.cell? ⟨w.heap.size, 2, none⟩ = some (.slice (some ⟨g, 0, none⟩) sn sc1) ∧ w'.cell? ⟨wr.heap.size, 1, none⟩ = some (.slice uo un uc) ∧ w'.cell? ⟨wr.heap.size, 0, none⟩ = some (.string unm)) (first
          | exact ⟨b3, b1, b0⟩
          | exact ⟨e1, e2, e3⟩
          | (refine ⟨?_, ?_, ?_⟩ <;> (rw [World.cell?_setCell_other _ _ _ _ (by intro h; simp only [Addr.mk.injEq] at h; omega)]; first | exact e1 | exact e2 | exact e3)))
          (first
          | (go_at_call 73; refine (clone_ents _ _ _ _ x.snaps[k].files HI2.out.symm (by exact hrow) HI4.out (by omega)).mono ?_; rintro e w4 ⟨v4, rfl, ho4, hb4⟩; obtain ⟨a4, k4, rfl, -, -, -⟩ := ho4.row; have e1 := ((bcell hb4).1 _ _ l13).trans b3; have e2 := ((bcell hb4).1 _ _ lz).trans b1; have e3 := ((bcell hb4).1 _ _ lz).trans b0; have z4 := hb4.size; have g1 := ((bcell hb4).1 _ _ lg3).trans b5; have g2 := ((bcell hb4).1 _ _ lg3).trans b6; have ef := fun j => ((bcell hb4).2 g j lg3).trans (bf j)))
        have hb34 : Below W3.heap.size W3 w4 := undrew hb4
        have hB4 : W3.drew.heap.size = W3.heap.size := rfl
        have hO5 := own_step (B4 := W3.drew.heap.size) ((HO.out.mono hba).mono hb34) hku hkx (by omega) unm HU.out ho4 (by rw [hB4]; omega) (by rw [hB4]; exact lg3) (fun q hq => by have := hHf.out q hq; rw [hB4]; omega)
        have hk5 : ∀ b, b ≠ g → b < wr.heap.size → (w4.setCell ⟨g, k * 2 + 1, none⟩ (.slice a4 x.snaps[k].files.length k4)).heap[b]? = wr.heap[b]? := fun b hb hl => by
          rw [Below.heap_setCell _ _ _ _ hb, hb34.block b (by omega), hba.block b hl]
        have p0' := (hk5 _ (by omega) l0).trans p0
        have p1' := (hk5 _ (by omega) l1).trans p1
        have hbw5 : Below w.heap.size w (w4.setCell ⟨g, k * 2 + 1, none⟩ (.slice a4 x.snaps[k].files.length k4)) :=
          (hbw.trans ((hba.mono hbw.size).trans (hb34.mono (by have := hbw.size; omega)))).setCell (by show w.heap.size ≤ g; omega) _
        have HREL := Lib.hid (And.intro hO5 (And.intro p0' (And.intro p1' hbw5)))
        clear b0 b1 b3 bf b5 b6 e1 e2 e3 ef g1 g2 ho4 hb4 hO5 p0' p1' hbw5 p0 p1 hrow hk5 hgf
        go_wp2
        go_roundw
        case rel => exact ⟨k + 1, by omega, by go_num, ⟨_, HREL.out.1⟩, HREL.out.2.1, HREL.out.2.2.1, HREL.out.2.2.2⟩
        case measure => simp [intOf]; omega
      · obtain rfl : k = sn := by omega
        have hlt' : ¬ (k : Int) < k := by omega
        have f1 := fun j => free_of_block p1 j
        have d0 := cell_of_block p1 0
        have d1 := cell_of_block p1 1
        have d2 := cell_of_block p1 2
        simp at d0 d1 d2
        have hxs := hO.len.2
        have hkp : ∀ b, b ≠ w.heap.size + 1 → (((wr.setCell ⟨w.heap.size + 1, 0, none⟩ (.string x.nm)).setCell ⟨w.heap.size + 1, 1, none⟩ (.slice fo1 fn fc1)).setCell ⟨w.heap.size + 1, 2, none⟩ (.slice so1 k sc1)).heap[b]? = wr.heap[b]? := fun b hb => by
          rw [Below.heap_setCell _ _ _ _ hb, Below.heap_setCell _ _ _ _ hb, Below.heap_setCell _ _ _ _ hb]
        have HF : Hid (OwnX (((wr.setCell ⟨w.heap.size + 1, 0, none⟩ (.string x.nm)).setCell ⟨w.heap.size + 1, 1, none⟩ (.slice fo1 fn fc1)).setCell ⟨w.heap.size + 1, 2, none⟩ (.slice so1 k sc1)) w.heap.size fo1 fn fc1 so1 k sc1 x us) := Lib.hid (by
          have h1 := hO.off (p := w.heap.size + 1) (w' := ((wr.setCell ⟨w.heap.size + 1, 0, none⟩ (.string x.nm)).setCell ⟨w.heap.size + 1, 1, none⟩ (.slice fo1 fn fc1)).setCell ⟨w.heap.size + 1, 2, none⟩ (.slice so1 k sc1))
            (.inr fun i => (Nat.lt_or_ge i k).elim (fun h => .inl ⟨h, .inl (by omega)⟩) (fun h => .inr ⟨h, by omega⟩)) (fun h => by have := HG1.out _ h; omega) (fun h => by have := HG2.out _ h; omega) (by simp) (fun b hb _ => hkp b hb)
          refine ⟨h1.vlen, h1.files.weaken (by omega), h1.snaps.weaken (by omega), h1.apart, fun i h2 h3 => ?_⟩
          obtain ⟨i1, i2, i3, i4⟩ := h1.each i h2 h3
          refine ⟨i1, i2, i3.weaken fun b hb => ?_, i4⟩
          refine .inl ⟨by omega, ?_⟩
          rcases hb with h | h | h
          · exact .inl (by omega)
          · exact .inr (.inl h)
          · exact .inr (.inr h))
        have HB : Hid (Below w.heap.size w (((wr.setCell ⟨w.heap.size + 1, 0, none⟩ (.string x.nm)).setCell ⟨w.heap.size + 1, 1, none⟩ (.slice fo1 fn fc1)).setCell ⟨w.heap.size + 1, 2, none⟩ (.slice so1 k sc1))) :=
          Lib.hid (((hbw.setCell (by show w.heap.size ≤ w.heap.size + 1; omega) _).setCell (by show w.heap.size ≤ w.heap.size + 1; omega) _).setCell (by show w.heap.size ≤ w.heap.size + 1; omega) _)
        have q1 := heap_setCell_same' (heap_setCell_same' (heap_setCell_same' p1 0 (.string x.nm)) 1 (.slice fo1 fn fc1)) 2 (.slice so1 k sc1)
        simp only [List.setIfInBounds_toArray, List.set_cons_zero, List.set_cons_succ] at q1
        have r0 := cell_of_block q1 0
        have r1 := cell_of_block q1 1
        have r2 := cell_of_block q1 2
        simp only [List.getElem?_toArray, List.getElem?_cons_succ, List.getElem?_cons_zero] at r0 r1 r2
        clear hO hkp q1 hxs
        go_wp2
        refine bodyPost_ret (v := .agg #[.string x.nm, .slice fo1 fn fc1, .slice so1 k sc1]) (by simp [results, Try.results43, go_sem, r0, r1, r2]) rfl ⟨_, _, _, _, rfl, ⟨us, HF.out⟩, HB.out⟩
end Go.Proofs.Ytfmgdjgedhnmeaa
