/- A store of the call's own: it may be written. No program in sight but one type's number. -/
import Derived.Test.YtpfopbkaddjjcaaStoW
namespace Go.Proofs.Ytpfopbkaddjjcaa
open Go.RowKit
set_option linter.unusedVariables false

/-- the integers lie in another block than g -/
def FarRow (g : Nat) (k : IntKind) (w : World) (ao : Option Addr) (xs : List Int) : Prop :=
  xs = [] ∨ ∃ b o, ao = some ⟨b, o, none⟩ ∧ b ≠ g ∧ ∀ i (h : i < xs.length), w.cell? ⟨b, o + i, none⟩ = some (.int k xs[i])
def SlX (g : Nat) (k : IntKind) (w : World) (v : Value) (xs : List Int) : Prop := ∃ ao cap, v = .slice ao xs.length cap ∧ FarRow g k w ao xs ∧ Capd ao xs.length cap

theorem FarRow.row {g : Nat} {k : IntKind} {w : World} {ao : Option Addr} {xs : List Int} (h : FarRow g k w ao xs) : Row k w ao xs := by
  rcases h with rfl | ⟨b, o, rfl, _, h⟩
  · exact .inl rfl
  · exact .inr ⟨b, o, rfl, h⟩
theorem SlX.sl {g : Nat} {k : IntKind} {w : World} {v : Value} {xs : List Int} (h : SlX g k w v xs) : Sl k w v xs := by
  obtain ⟨ao, cap, hv, hr, hc⟩ := h
  exact ⟨ao, cap, hv, hr.row, hc⟩
theorem FarRow.keep {g : Nat} {k : IntKind} {w w' : World} {ao : Option Addr} {xs : List Int} (h : FarRow g k w ao xs) (hk : ∀ b, b ≠ g → b < w.heap.size → w'.heap[b]? = w.heap[b]?) : FarRow g k w' ao xs := by
  rcases h with rfl | ⟨b, o, rfl, hb, h⟩
  · exact .inl rfl
  · refine .inr ⟨b, o, rfl, hb, fun i hi => ?_⟩
    have hc := h i hi
    rw [World.cell?_of_block (w := w) (hk b hb (World.block_lt_of_cell? _ _ hc))]
    exact hc
theorem SlX.keep {g : Nat} {k : IntKind} {w w' : World} {v : Value} {xs : List Int} (h : SlX g k w v xs) (hk : ∀ b, b ≠ g → b < w.heap.size → w'.heap[b]? = w.heap[b]?) : SlX g k w' v xs := by
  obtain ⟨ao, cap, hv, hr, hc⟩ := h
  exact ⟨ao, cap, hv, hr.keep hk, hc⟩
theorem Row.far {g : Nat} {k : IntKind} {w : World} {ao : Option Addr} {xs : List Int} (h : Row k w ao xs) (hg : w.heap.size ≤ g) : FarRow g k w ao xs := by
  rcases h with rfl | ⟨b, o, rfl, h⟩
  · exact .inl rfl
  · rcases Nat.eq_zero_or_pos xs.length with h0 | h0
    · exact .inl (List.eq_nil_of_length_eq_zero h0)
    · have := World.block_lt_of_cell? _ _ (h 0 h0)
      simp only at this
      exact .inr ⟨b, o, rfl, by omega, h⟩
theorem Sl.far {g : Nat} {k : IntKind} {w : World} {v : Value} {xs : List Int} (h : Sl k w v xs) (hg : w.heap.size ≤ g) : SlX g k w v xs := by
  obtain ⟨ao, cap, hv, hr, hc⟩ := h
  exact ⟨ao, cap, hv, hr.far hg, hc⟩
/-- a slice of the call's own, made after g -/
theorem Own.slx {k : IntKind} {e base g : Nat} {w : World} {v : Value} {xs : List Int} (h : Own k e base w v xs) (hg : g < base) : SlX g k w v xs := by
  rcases h.block with ⟨rfl, rfl⟩ | ⟨b, cap, cur, rfl, hb, hh, hn, hc, hs, ht⟩
  · exact ⟨none, 0, rfl, .inl rfl, Nat.le_refl _, fun _ => rfl⟩
  · exact ⟨_, cap, rfl, .inr ⟨b, 0, rfl, by omega, fun i hi => by rw [Nat.zero_add]; exact h.cell i hi⟩, hn, fun h => by cases h⟩

structure OwnB (w : World) (g o : Nat) (x : Blk) : Prop where
  refs : w.cell? ⟨g, o, none⟩ = some (.int .i64 x.refs)
  level : w.cell? ⟨g, o + 1, none⟩ = some (.int .i64 x.level)
  kids : ∃ v, w.cell? ⟨g, o + 2, none⟩ = some v ∧ SlX g .i64 w v x.kids
  bytes : ∃ v, w.cell? ⟨g, o + 3, none⟩ = some v ∧ SlX g .u8 w v x.bytes

theorem OwnB.blkAt {w : World} {g o : Nat} {x : Blk} (h : OwnB w g o x) : BlkAt w g o x := by
  obtain ⟨v, h1, h2⟩ := h.kids
  obtain ⟨u, h3, h4⟩ := h.bytes
  exact ⟨h.refs, h.level, ⟨v, h1, h2.sl⟩, ⟨u, h3, h4.sl⟩⟩

/-- the row of the store: block g, of the call's own from base on -/
structure OwnR (w : World) (base g : Nat) (s : List Blk) : Prop where
  le : base ≤ g
  heap : ∃ cur, w.heap[g]? = some (.cells cur 50 (0, 0))
  blks : ∀ i (h : i < s.length), OwnB w g (i * 4) s[i]

theorem OwnR.lt {w : World} {base g : Nat} {s : List Blk} (h : OwnR w base g s) : g < w.heap.size := by
  obtain ⟨cur, hc⟩ := h.heap
  exact lt_heap hc
theorem OwnR.free {w : World} {base g : Nat} {s : List Blk} (h : OwnR w base g s) (j : Nat) : w.frozen? ⟨g, j, none⟩ = false := by
  obtain ⟨cur, hc⟩ := h.heap
  exact free_of_block hc j
theorem OwnR.row {w : World} {base g : Nat} {s : List Blk} (h : OwnR w base g s) : StoRow w (some ⟨g, 0, none⟩) s :=
  .inr ⟨g, 0, rfl, fun i hi => by rw [Nat.zero_add]; exact (h.blks i hi).blkAt⟩

/-- what was written is block k alone -/
theorem OwnR.upd {w w' : World} {base g : Nat} {s : List Blk} (h : OwnR w base g s) (k : Nat) (x : Blk) (hk : ∀ b, b ≠ g → b < w.heap.size → w'.heap[b]? = w.heap[b]?)
    (hh : ∃ cur, w'.heap[g]? = some (.cells cur 50 (0, 0))) (hc : ∀ j, j < k * 4 ∨ k * 4 + 4 ≤ j → w'.cell? ⟨g, j, none⟩ = w.cell? ⟨g, j, none⟩) (hx : k < s.length → OwnB w' g (k * 4) x) : OwnR w' base g (s.set k x) := by
  refine ⟨h.le, hh, fun i hi => ?_⟩
  have his : i < s.length := by simpa using hi
  rw [List.getElem_set]
  by_cases e : k = i
  · subst e
    rw [if_pos rfl]
    exact hx his
  · rw [if_neg e]
    have hB := h.blks i his
    obtain ⟨v, h1, h2⟩ := hB.kids
    obtain ⟨u, h3, h4⟩ := hB.bytes
    exact ⟨(hc _ (by omega)).trans hB.refs, (hc _ (by omega)).trans hB.level, ⟨v, (hc _ (by omega)).trans h1, h2.keep hk⟩, ⟨u, (hc _ (by omega)).trans h3, h4.keep hk⟩⟩

theorem OwnR.keep {w w' : World} {base g : Nat} {s : List Blk} (h : OwnR w base g s) (hk : ∀ b, b < w.heap.size → w'.heap[b]? = w.heap[b]?) : OwnR w' base g s := by
  have hc : ∀ j, w'.cell? ⟨g, j, none⟩ = w.cell? ⟨g, j, none⟩ := fun j => World.cell?_of_block (w := w) (hk g h.lt)
  refine ⟨h.le, ?_, fun i hi => ?_⟩
  · obtain ⟨cur, hcur⟩ := h.heap
    exact ⟨cur, by rw [hk g h.lt]; exact hcur⟩
  · have hB := h.blks i hi
    obtain ⟨v, h1, h2⟩ := hB.kids
    obtain ⟨u, h3, h4⟩ := hB.bytes
    exact ⟨(hc _).trans hB.refs, (hc _).trans hB.level, ⟨v, (hc _).trans h1, h2.keep fun b _ => hk b⟩, ⟨u, (hc _).trans h3, h4.keep fun b _ => hk b⟩⟩

theorem OwnR.mono {w w' : World} {base g : Nat} {s : List Blk} (h : OwnR w base g s) (hb : Below w.heap.size w w') : OwnR w' base g s := h.keep fun b hlt => hb.block b hlt

theorem heap_setCell_cells {w : World} {g : Nat} {cs : Array Value} {t : TypeId} (h : w.heap[g]? = some (.cells cs t (0, 0))) (a : Addr) (v : Value) : ∃ cur, (w.setCell a v).heap[g]? = some (.cells cur t (0, 0)) := by
  by_cases e : g = a.block
  · subst e
    obtain ⟨b, o, sp⟩ := a
    simp only [World.setCell, Array.getElem?_modify, if_true]
    simp only at h
    rw [h]
    exact ⟨_, rfl⟩
  · exact ⟨cs, heap_setCell_ne h e⟩

theorem cell_setCell_ne {w : World} {g j i : Nat} {v : Value} (h : j ≠ i) : (w.setCell ⟨g, i, none⟩ v).cell? ⟨g, j, none⟩ = w.cell? ⟨g, j, none⟩ :=
  World.cell?_setCell_other _ _ _ _ (by intro e; simp only [Addr.mk.injEq] at e; omega)

/-- one cell of a block is written: Refs -/
theorem OwnR.setRefs {w : World} {base g : Nat} {s : List Blk} (h : OwnR w base g s) (k : Nat) (hk : k < s.length) (r : Int) :
    OwnR (w.setCell ⟨g, k * 4, none⟩ (.int .i64 r)) base g (s.set k { s[k] with refs := r }) := by
  obtain ⟨cur, hc⟩ := h.heap
  have hkeep : ∀ b, b ≠ g → b < w.heap.size → (w.setCell ⟨g, k * 4, none⟩ (.int .i64 r)).heap[b]? = w.heap[b]? := fun b hb _ => Below.heap_setCell _ _ _ _ hb
  refine h.upd k _ hkeep (heap_setCell_cells hc _ _) (fun j hj => cell_setCell_ne (by omega)) fun _ => ?_
  have hB := h.blks k hk
  obtain ⟨v, h1, h2⟩ := hB.kids
  obtain ⟨u, h3, h4⟩ := hB.bytes
  exact ⟨World.cell?_setCell_same _ _ _ hB.refs, (cell_setCell_ne (by omega)).trans hB.level, ⟨v, (cell_setCell_ne (by omega)).trans h1, h2.keep hkeep⟩, ⟨u, (cell_setCell_ne (by omega)).trans h3, h4.keep hkeep⟩⟩

theorem set_self (s : List Blk) (k : Nat) (hk : k < s.length) : s.set k s[k] = s := by simp

/-- the same kids, elsewhere -/
theorem OwnR.setKids {w : World} {base g : Nat} {s : List Blk} (h : OwnR w base g s) (k : Nat) (hk : k < s.length) (v : Value) (hv : SlX g .i64 w v s[k].kids) :
    OwnR (w.setCell ⟨g, k * 4 + 2, none⟩ v) base g s := by
  obtain ⟨cur, hc⟩ := h.heap
  have hkeep : ∀ b, b ≠ g → b < w.heap.size → (w.setCell ⟨g, k * 4 + 2, none⟩ v).heap[b]? = w.heap[b]? := fun b hb _ => Below.heap_setCell _ _ _ _ hb
  have := h.upd (w' := w.setCell ⟨g, k * 4 + 2, none⟩ v) k s[k] hkeep (heap_setCell_cells hc _ _) (fun j hj => cell_setCell_ne (by omega)) fun _ => by
    have hB := h.blks k hk
    obtain ⟨v0, h1, h2⟩ := hB.kids
    obtain ⟨u, h3, h4⟩ := hB.bytes
    exact ⟨(cell_setCell_ne (by omega)).trans hB.refs, (cell_setCell_ne (by omega)).trans hB.level, ⟨v, World.cell?_setCell_same _ _ _ h1, hv.keep hkeep⟩, ⟨u, (cell_setCell_ne (by omega)).trans h3, h4.keep hkeep⟩⟩
  rwa [set_self s k hk] at this

theorem OwnR.setBytes {w : World} {base g : Nat} {s : List Blk} (h : OwnR w base g s) (k : Nat) (hk : k < s.length) (v : Value) (hv : SlX g .u8 w v s[k].bytes) :
    OwnR (w.setCell ⟨g, k * 4 + 3, none⟩ v) base g s := by
  obtain ⟨cur, hc⟩ := h.heap
  have hkeep : ∀ b, b ≠ g → b < w.heap.size → (w.setCell ⟨g, k * 4 + 3, none⟩ v).heap[b]? = w.heap[b]? := fun b hb _ => Below.heap_setCell _ _ _ _ hb
  have := h.upd (w' := w.setCell ⟨g, k * 4 + 3, none⟩ v) k s[k] hkeep (heap_setCell_cells hc _ _) (fun j hj => cell_setCell_ne (by omega)) fun _ => by
    have hB := h.blks k hk
    obtain ⟨v0, h1, h2⟩ := hB.kids
    obtain ⟨u, h3, h4⟩ := hB.bytes
    exact ⟨(cell_setCell_ne (by omega)).trans hB.refs, (cell_setCell_ne (by omega)).trans hB.level, ⟨v0, (cell_setCell_ne (by omega)).trans h1, h2.keep hkeep⟩, ⟨v, World.cell?_setCell_same _ _ _ h3, hv.keep hkeep⟩⟩
  rwa [set_self s k hk] at this

/-- all four cells of a block are written -/
theorem OwnR.setBlk {w : World} {base g : Nat} {s : List Blk} (h : OwnR w base g s) (k : Nat) (hk : k < s.length) (x : Blk) (kv bv : Value) (hkv : SlX g .i64 w kv x.kids) (hbv : SlX g .u8 w bv x.bytes) :
    OwnR ((((w.setCell ⟨g, k * 4, none⟩ (.int .i64 x.refs)).setCell ⟨g, k * 4 + 1, none⟩ (.int .i64 x.level)).setCell ⟨g, k * 4 + 2, none⟩ kv).setCell ⟨g, k * 4 + 3, none⟩ bv) base g (s.set k x) := by
  obtain ⟨cur, hc⟩ := h.heap
  obtain ⟨c1, hc1⟩ := heap_setCell_cells hc ⟨g, k * 4, none⟩ (.int .i64 x.refs)
  obtain ⟨c2, hc2⟩ := heap_setCell_cells hc1 ⟨g, k * 4 + 1, none⟩ (.int .i64 x.level)
  obtain ⟨c3, hc3⟩ := heap_setCell_cells hc2 ⟨g, k * 4 + 2, none⟩ kv
  have hkeep : ∀ b, b ≠ g → b < w.heap.size → ((((w.setCell ⟨g, k * 4, none⟩ (.int .i64 x.refs)).setCell ⟨g, k * 4 + 1, none⟩ (.int .i64 x.level)).setCell ⟨g, k * 4 + 2, none⟩ kv).setCell ⟨g, k * 4 + 3, none⟩ bv).heap[b]? = w.heap[b]? :=
    fun b hb _ => (Below.heap_setCell _ _ _ _ hb).trans ((Below.heap_setCell _ _ _ _ hb).trans ((Below.heap_setCell _ _ _ _ hb).trans (Below.heap_setCell _ _ _ _ hb)))
  have hB := h.blks k hk
  obtain ⟨v0, h1, _⟩ := hB.kids
  obtain ⟨u0, h3, _⟩ := hB.bytes
  refine h.upd k x hkeep (heap_setCell_cells hc3 _ _) (fun j hj => ?_) fun _ => ⟨?_, ?_, ⟨kv, ?_, hkv.keep hkeep⟩, ⟨bv, ?_, hbv.keep hkeep⟩⟩
  · rw [cell_setCell_ne (by omega), cell_setCell_ne (by omega), cell_setCell_ne (by omega), cell_setCell_ne (by omega)]
  · rw [cell_setCell_ne (by omega), cell_setCell_ne (by omega), cell_setCell_ne (by omega)]
    exact World.cell?_setCell_same _ _ _ hB.refs
  · rw [cell_setCell_ne (by omega), cell_setCell_ne (by omega)]
    exact World.cell?_setCell_same _ _ _ ((cell_setCell_ne (by omega)).trans hB.level)
  · rw [cell_setCell_ne (by omega)]
    exact World.cell?_setCell_same _ _ _ ((cell_setCell_ne (by omega)).trans ((cell_setCell_ne (by omega)).trans h1))
  · exact World.cell?_setCell_same _ _ _ ((cell_setCell_ne (by omega)).trans ((cell_setCell_ne (by omega)).trans ((cell_setCell_ne (by omega)).trans h3)))

/-- a store of the call's own, as a value -/
def OwnSto (w : World) (base : Nat) (v : Value) (s : List Blk) : Prop :=
  ∃ ao cap, v = .slice ao s.length cap ∧ Capd ao s.length cap ∧ (s = [] ∨ ∃ g, ao = some ⟨g, 0, none⟩ ∧ OwnR w base g s)

theorem OwnSto.mono {w w' : World} {base : Nat} {v : Value} {s : List Blk} (h : OwnSto w base v s) (hb : Below w.heap.size w w') : OwnSto w' base v s := by
  obtain ⟨ao, cap, hv, hc, h | ⟨g, hg, hr⟩⟩ := h
  · exact ⟨ao, cap, hv, hc, .inl h⟩
  · exact ⟨ao, cap, hv, hc, .inr ⟨g, hg, hr.mono hb⟩⟩

theorem OwnSto.sto {w : World} {base : Nat} {v : Value} {s : List Blk} (h : OwnSto w base v s) : ∃ ao cap, v = .slice ao s.length cap ∧ Capd ao s.length cap ∧ StoRow w ao s := by
  obtain ⟨ao, cap, hv, hc, h | ⟨g, hg, hr⟩⟩ := h
  · exact ⟨ao, cap, hv, hc, .inl h⟩
  · subst hg
    exact ⟨_, cap, hv, hc, hr.row⟩

theorem OwnSto.at {w : World} {base : Nat} {v : Value} {s : List Blk} (h : OwnSto w base v s) (k : Nat) (hk : k < s.length) : ∃ g cap, v = .slice (some ⟨g, 0, none⟩) s.length cap ∧ OwnR w base g s := by
  obtain ⟨ao, cap, hv, hc, h | ⟨g, hg, hr⟩⟩ := h
  · subst h; simp at hk
  · subst hg
    exact ⟨g, cap, hv, hr⟩

theorem OwnR.own {w : World} {base g n cap : Nat} {s : List Blk} (h : OwnR w base g s) (hn : s.length = n) (hc : n ≤ cap) : OwnSto w base (.slice (some ⟨g, 0, none⟩) n cap) s := by
  subst hn
  exact ⟨_, cap, rfl, ⟨hc, fun h => by cases h⟩, .inr ⟨g, rfl, h⟩⟩
end Go.Proofs.Ytpfopbkaddjjcaa
