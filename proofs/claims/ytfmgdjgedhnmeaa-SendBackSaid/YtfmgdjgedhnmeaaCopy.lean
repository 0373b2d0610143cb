/- A store of the call's own: it may be written. No program in sight but one type's number. · slices.Max over integers that are not below 0. · slices.Clone of blocks, store.Copy: the same store in memory of its own. · store.Copy: the same store in memory of its own. · store.Keep: a block is held once more. -/
import Derived.Deep.RegionWith
import Derived.Deep.RegionHeld3
import Derived.Test.YtfmgdjgedhnmeaaSto
import Derived.Test.YtfmgdjgedhnmeaaOutside
namespace Go.Proofs.Ytfmgdjgedhnmeaa
open Go.RowKit
set_option linter.unusedVariables false

/-- the integers lie in another block than g -/
def FarRow (g : Nat) (k : IntKind) (w : World) (ao : Option Addr) (xs : List Int) : Prop :=
  xs = [] ∨ ∃ b o, ao = some ⟨b, o, none⟩ ∧ b ≠ g ∧ ∀ i (h : i < xs.length), w.cell? ⟨b, o + i, none⟩ = some (.int k xs[i])
def SlX (g : Nat) (k : IntKind) (w : World) (v : Value) (xs : List Int) : Prop := ∃ ao cap, v = .slice ao xs.length cap ∧ FarRow g k w ao xs ∧ Capd ao xs.length cap

theorem FarRow.row {g : Nat} {k : IntKind} {w : World} {ao : Option Addr} {xs : List Int} (h : FarRow g k w ao xs) : Row k w ao xs := by
  rcases h with rfl | ⟨b, o, rfl, _, h⟩
  · exact .inl rfl
  · exact .inr ⟨b, o, rfl, h⟩
theorem SlX.sl {g : Nat} {k : IntKind} {w : World} {v : Value} {xs : List Int} (h : SlX g k w v xs) : Sl k w v xs := by
  obtain ⟨ao, cap, hv, hr, hc⟩ := h
  exact ⟨ao, cap, hv, hr.row, hc⟩
theorem FarRow.keep {g : Nat} {k : IntKind} {w w' : World} {ao : Option Addr} {xs : List Int} (h : FarRow g k w ao xs) (hk : ∀ b, b ≠ g → b < w.heap.size → w'.heap[b]? = w.heap[b]?) : FarRow g k w' ao xs := by
  rcases h with rfl | ⟨b, o, rfl, hb, h⟩
  · exact .inl rfl
  · refine .inr ⟨b, o, rfl, hb, fun i hi => ?_⟩
    have hc := h i hi
    rw [World.cell?_of_block (w := w) (hk b hb (World.block_lt_of_cell? _ _ hc))]
    exact hc
theorem SlX.keep {g : Nat} {k : IntKind} {w w' : World} {v : Value} {xs : List Int} (h : SlX g k w v xs) (hk : ∀ b, b ≠ g → b < w.heap.size → w'.heap[b]? = w.heap[b]?) : SlX g k w' v xs := by
  obtain ⟨ao, cap, hv, hr, hc⟩ := h
  exact ⟨ao, cap, hv, hr.keep hk, hc⟩
theorem Row.far {g : Nat} {k : IntKind} {w : World} {ao : Option Addr} {xs : List Int} (h : Row k w ao xs) (hg : w.heap.size ≤ g) : FarRow g k w ao xs := by
  rcases h with rfl | ⟨b, o, rfl, h⟩
  · exact .inl rfl
  · rcases Nat.eq_zero_or_pos xs.length with h0 | h0
    · exact .inl (List.eq_nil_of_length_eq_zero h0)
    · have := World.block_lt_of_cell? _ _ (h 0 h0)
      simp only at this
      exact .inr ⟨b, o, rfl, by omega, h⟩
theorem Sl.far {g : Nat} {k : IntKind} {w : World} {v : Value} {xs : List Int} (h : Sl k w v xs) (hg : w.heap.size ≤ g) : SlX g k w v xs := by
  obtain ⟨ao, cap, hv, hr, hc⟩ := h
  exact ⟨ao, cap, hv, hr.far hg, hc⟩
/-- a slice of the call's own, made after g -/
theorem Own.slx {k : IntKind} {e base g : Nat} {w : World} {v : Value} {xs : List Int} (h : Own k e base w v xs) (hg : g < base) : SlX g k w v xs := by
  rcases h.block with ⟨rfl, rfl⟩ | ⟨b, cap, cur, rfl, hb, hh, hn, hc, hs, ht⟩
  · exact ⟨none, 0, rfl, .inl rfl, Nat.le_refl _, fun _ => rfl⟩
  · exact ⟨_, cap, rfl, .inr ⟨b, 0, rfl, by omega, fun i hi => by rw [Nat.zero_add]; exact h.cell i hi⟩, hn, fun h => by cases h⟩

structure OwnB (w : World) (g o : Nat) (x : Blk) : Prop where
  refs : w.cell? ⟨g, o, none⟩ = some (.int .i64 x.refs)
  level : w.cell? ⟨g, o + 1, none⟩ = some (.int .i64 x.level)
  kids : ∃ v, w.cell? ⟨g, o + 2, none⟩ = some v ∧ SlX g .i64 w v x.kids
  bytes : ∃ v, w.cell? ⟨g, o + 3, none⟩ = some v ∧ SlX g .u8 w v x.bytes

theorem OwnB.blkAt {w : World} {g o : Nat} {x : Blk} (h : OwnB w g o x) : BlkAt w g o x := by
  obtain ⟨v, h1, h2⟩ := h.kids
  obtain ⟨u, h3, h4⟩ := h.bytes
  exact ⟨h.refs, h.level, ⟨v, h1, h2.sl⟩, ⟨u, h3, h4.sl⟩⟩

/-- the row of the store: block g, of the call's own from base on -/
structure OwnR (w : World) (base g : Nat) (s : List Blk) : Prop where
  le : base ≤ g
  heap : ∃ cur, w.heap[g]? = some (.cells cur 93 (0, 0))
  blks : ∀ i (h : i < s.length), OwnB w g (i * 4) s[i]

theorem OwnR.lt {w : World} {base g : Nat} {s : List Blk} (h : OwnR w base g s) : g < w.heap.size := by
  obtain ⟨cur, hc⟩ := h.heap
  exact lt_heap hc
theorem OwnR.free {w : World} {base g : Nat} {s : List Blk} (h : OwnR w base g s) (j : Nat) : w.frozen? ⟨g, j, none⟩ = false := by
  obtain ⟨cur, hc⟩ := h.heap
  exact free_of_block hc j
theorem OwnR.row {w : World} {base g : Nat} {s : List Blk} (h : OwnR w base g s) : StoRow w (some ⟨g, 0, none⟩) s :=
  .inr ⟨g, 0, rfl, fun i hi => by rw [Nat.zero_add]; exact (h.blks i hi).blkAt⟩

/-- what was written is block k alone -/
theorem OwnR.upd {w w' : World} {base g : Nat} {s : List Blk} (h : OwnR w base g s) (k : Nat) (x : Blk) (hk : ∀ b, b ≠ g → b < w.heap.size → w'.heap[b]? = w.heap[b]?)
    (hh : ∃ cur, w'.heap[g]? = some (.cells cur 93 (0, 0))) (hc : ∀ j, j < k * 4 ∨ k * 4 + 4 ≤ j → w'.cell? ⟨g, j, none⟩ = w.cell? ⟨g, j, none⟩) (hx : k < s.length → OwnB w' g (k * 4) x) : OwnR w' base g (s.set k x) := by
  refine ⟨h.le, hh, fun i hi => ?_⟩
  have his : i < s.length := by simpa using hi
  rw [List.getElem_set]
  by_cases e : k = i
  · subst e
    rw [if_pos rfl]
    exact hx his
  · rw [if_neg e]
    have hB := h.blks i his
    obtain ⟨v, h1, h2⟩ := hB.kids
    obtain ⟨u, h3, h4⟩ := hB.bytes
    exact ⟨(hc _ (by omega)).trans hB.refs, (hc _ (by omega)).trans hB.level, ⟨v, (hc _ (by omega)).trans h1, h2.keep hk⟩, ⟨u, (hc _ (by omega)).trans h3, h4.keep hk⟩⟩

theorem OwnR.keep {w w' : World} {base g : Nat} {s : List Blk} (h : OwnR w base g s) (hk : ∀ b, b < w.heap.size → w'.heap[b]? = w.heap[b]?) : OwnR w' base g s := by
  have hc : ∀ j, w'.cell? ⟨g, j, none⟩ = w.cell? ⟨g, j, none⟩ := fun j => World.cell?_of_block (w := w) (hk g h.lt)
  refine ⟨h.le, ?_, fun i hi => ?_⟩
  · obtain ⟨cur, hcur⟩ := h.heap
    exact ⟨cur, by rw [hk g h.lt]; exact hcur⟩
  · have hB := h.blks i hi
    obtain ⟨v, h1, h2⟩ := hB.kids
    obtain ⟨u, h3, h4⟩ := hB.bytes
    exact ⟨(hc _).trans hB.refs, (hc _).trans hB.level, ⟨v, (hc _).trans h1, h2.keep fun b _ => hk b⟩, ⟨u, (hc _).trans h3, h4.keep fun b _ => hk b⟩⟩

theorem OwnR.mono {w w' : World} {base g : Nat} {s : List Blk} (h : OwnR w base g s) (hb : Below w.heap.size w w') : OwnR w' base g s := h.keep fun b hlt => hb.block b hlt

theorem heap_setCell_cells {w : World} {g : Nat} {cs : Array Value} {t : TypeId} (h : w.heap[g]? = some (.cells cs t (0, 0))) (a : Addr) (v : Value) : ∃ cur, (w.setCell a v).heap[g]? = some (.cells cur t (0, 0)) := by
  by_cases e : g = a.block
  · subst e
    obtain ⟨b, o, sp⟩ := a
    simp only [World.setCell, Array.getElem?_modify, if_true]
    simp only at h
    rw [h]
    exact ⟨_, rfl⟩
  · exact ⟨cs, heap_setCell_ne h e⟩

theorem cell_setCell_ne {w : World} {g j i : Nat} {v : Value} (h : j ≠ i) : (w.setCell ⟨g, i, none⟩ v).cell? ⟨g, j, none⟩ = w.cell? ⟨g, j, none⟩ :=
  World.cell?_setCell_other _ _ _ _ (by intro e; simp only [Addr.mk.injEq] at e; omega)

/-- one cell of a block is written: Refs -/
theorem OwnR.setRefs {w : World} {base g : Nat} {s : List Blk} (h : OwnR w base g s) (k : Nat) (hk : k < s.length) (r : Int) :
    OwnR (w.setCell ⟨g, k * 4, none⟩ (.int .i64 r)) base g (s.set k { s[k] with refs := r }) := by
  obtain ⟨cur, hc⟩ := h.heap
  have hkeep : ∀ b, b ≠ g → b < w.heap.size → (w.setCell ⟨g, k * 4, none⟩ (.int .i64 r)).heap[b]? = w.heap[b]? := fun b hb _ => Below.heap_setCell _ _ _ _ hb
  refine h.upd k _ hkeep (heap_setCell_cells hc _ _) (fun j hj => cell_setCell_ne (by omega)) fun _ => ?_
  have hB := h.blks k hk
  obtain ⟨v, h1, h2⟩ := hB.kids
  obtain ⟨u, h3, h4⟩ := hB.bytes
  exact ⟨World.cell?_setCell_same _ _ _ hB.refs, (cell_setCell_ne (by omega)).trans hB.level, ⟨v, (cell_setCell_ne (by omega)).trans h1, h2.keep hkeep⟩, ⟨u, (cell_setCell_ne (by omega)).trans h3, h4.keep hkeep⟩⟩

theorem set_self (s : List Blk) (k : Nat) (hk : k < s.length) : s.set k s[k] = s := by simp

/-- the same kids, elsewhere -/
theorem OwnR.setKids {w : World} {base g : Nat} {s : List Blk} (h : OwnR w base g s) (k : Nat) (hk : k < s.length) (v : Value) (hv : SlX g .i64 w v s[k].kids) :
    OwnR (w.setCell ⟨g, k * 4 + 2, none⟩ v) base g s := by
  obtain ⟨cur, hc⟩ := h.heap
  have hkeep : ∀ b, b ≠ g → b < w.heap.size → (w.setCell ⟨g, k * 4 + 2, none⟩ v).heap[b]? = w.heap[b]? := fun b hb _ => Below.heap_setCell _ _ _ _ hb
  have := h.upd (w' := w.setCell ⟨g, k * 4 + 2, none⟩ v) k s[k] hkeep (heap_setCell_cells hc _ _) (fun j hj => cell_setCell_ne (by omega)) fun _ => by
    have hB := h.blks k hk
    obtain ⟨v0, h1, h2⟩ := hB.kids
    obtain ⟨u, h3, h4⟩ := hB.bytes
    exact ⟨(cell_setCell_ne (by omega)).trans hB.refs, (cell_setCell_ne (by omega)).trans hB.level, ⟨v, World.cell?_setCell_same _ _ _ h1, hv.keep hkeep⟩, ⟨u, (cell_setCell_ne (by omega)).trans h3, h4.keep hkeep⟩⟩
  rwa [set_self s k hk] at this

theorem OwnR.setBytes {w : World} {base g : Nat} {s : List Blk} (h : OwnR w base g s) (k : Nat) (hk : k < s.length) (v : Value) (hv : SlX g .u8 w v s[k].bytes) :
    OwnR (w.setCell ⟨g, k * 4 + 3, none⟩ v) base g s := by
  obtain ⟨cur, hc⟩ := h.heap
  have hkeep : ∀ b, b ≠ g → b < w.heap.size → (w.setCell ⟨g, k * 4 + 3, none⟩ v).heap[b]? = w.heap[b]? := fun b hb _ => Below.heap_setCell _ _ _ _ hb
  have := h.upd (w' := w.setCell ⟨g, k * 4 + 3, none⟩ v) k s[k] hkeep (heap_setCell_cells hc _ _) (fun j hj => cell_setCell_ne (by omega)) fun _ => by
    have hB := h.blks k hk
    obtain ⟨v0, h1, h2⟩ := hB.kids
    obtain ⟨u, h3, h4⟩ := hB.bytes
    exact ⟨(cell_setCell_ne (by omega)).trans hB.refs, (cell_setCell_ne (by omega)).trans hB.level, ⟨v0, (cell_setCell_ne (by omega)).trans h1, h2.keep hkeep⟩, ⟨v, World.cell?_setCell_same _ _ _ h3, hv.keep hkeep⟩⟩
  rwa [set_self s k hk] at this

/-- all four cells of a block are written -/
theorem OwnR.setBlk {w : World} {base g : Nat} {s : List Blk} (h : OwnR w base g s) (k : Nat) (hk : k < s.length) (x : Blk) (kv bv : Value) (hkv : SlX g .i64 w kv x.kids) (hbv : SlX g .u8 w bv x.bytes) :
    OwnR ((((w.setCell ⟨g, k * 4, none⟩ (.int .i64 x.refs)).setCell ⟨g, k * 4 + 1, none⟩ (.int .i64 x.level)).setCell ⟨g, k * 4 + 2, none⟩ kv).setCell ⟨g, k * 4 + 3, none⟩ bv) base g (s.set k x) := by
  obtain ⟨cur, hc⟩ := h.heap
  obtain ⟨c1, hc1⟩ := heap_setCell_cells hc ⟨g, k * 4, none⟩ (.int .i64 x.refs)
  obtain ⟨c2, hc2⟩ := heap_setCell_cells hc1 ⟨g, k * 4 + 1, none⟩ (.int .i64 x.level)
  obtain ⟨c3, hc3⟩ := heap_setCell_cells hc2 ⟨g, k * 4 + 2, none⟩ kv
  have hkeep : ∀ b, b ≠ g → b < w.heap.size → ((((w.setCell ⟨g, k * 4, none⟩ (.int .i64 x.refs)).setCell ⟨g, k * 4 + 1, none⟩ (.int .i64 x.level)).setCell ⟨g, k * 4 + 2, none⟩ kv).setCell ⟨g, k * 4 + 3, none⟩ bv).heap[b]? = w.heap[b]? :=
    fun b hb _ => (Below.heap_setCell _ _ _ _ hb).trans ((Below.heap_setCell _ _ _ _ hb).trans ((Below.heap_setCell _ _ _ _ hb).trans (Below.heap_setCell _ _ _ _ hb)))
  have hB := h.blks k hk
  obtain ⟨v0, h1, _⟩ := hB.kids
  obtain ⟨u0, h3, _⟩ := hB.bytes
  refine h.upd k x hkeep (heap_setCell_cells hc3 _ _) (fun j hj => ?_) fun _ => ⟨?_, ?_, ⟨kv, ?_, hkv.keep hkeep⟩, ⟨bv, ?_, hbv.keep hkeep⟩⟩
  · rw [cell_setCell_ne (by omega), cell_setCell_ne (by omega), cell_setCell_ne (by omega), cell_setCell_ne (by omega)]
  · rw [cell_setCell_ne (by omega), cell_setCell_ne (by omega), cell_setCell_ne (by omega)]
    exact World.cell?_setCell_same _ _ _ hB.refs
  · rw [cell_setCell_ne (by omega), cell_setCell_ne (by omega)]
    exact World.cell?_setCell_same _ _ _ ((cell_setCell_ne (by omega)).trans hB.level)
  · rw [cell_setCell_ne (by omega)]
    exact World.cell?_setCell_same _ _ _ ((cell_setCell_ne (by omega)).trans ((cell_setCell_ne (by omega)).trans h1))
  · exact World.cell?_setCell_same _ _ _ ((cell_setCell_ne (by omega)).trans ((cell_setCell_ne (by omega)).trans ((cell_setCell_ne (by omega)).trans h3)))

/-- a store of the call's own, as a value -/
def OwnSto (w : World) (base : Nat) (v : Value) (s : List Blk) : Prop :=
  ∃ ao cap, v = .slice ao s.length cap ∧ Capd ao s.length cap ∧ (s = [] ∨ ∃ g, ao = some ⟨g, 0, none⟩ ∧ OwnR w base g s)

theorem OwnSto.mono {w w' : World} {base : Nat} {v : Value} {s : List Blk} (h : OwnSto w base v s) (hb : Below w.heap.size w w') : OwnSto w' base v s := by
  obtain ⟨ao, cap, hv, hc, h | ⟨g, hg, hr⟩⟩ := h
  · exact ⟨ao, cap, hv, hc, .inl h⟩
  · exact ⟨ao, cap, hv, hc, .inr ⟨g, hg, hr.mono hb⟩⟩

theorem OwnSto.sto {w : World} {base : Nat} {v : Value} {s : List Blk} (h : OwnSto w base v s) : ∃ ao cap, v = .slice ao s.length cap ∧ Capd ao s.length cap ∧ StoRow w ao s := by
  obtain ⟨ao, cap, hv, hc, h | ⟨g, hg, hr⟩⟩ := h
  · exact ⟨ao, cap, hv, hc, .inl h⟩
  · subst hg
    exact ⟨_, cap, hv, hc, hr.row⟩

theorem OwnSto.at {w : World} {base : Nat} {v : Value} {s : List Blk} (h : OwnSto w base v s) (k : Nat) (hk : k < s.length) : ∃ g cap, v = .slice (some ⟨g, 0, none⟩) s.length cap ∧ OwnR w base g s := by
  obtain ⟨ao, cap, hv, hc, h | ⟨g, hg, hr⟩⟩ := h
  · subst h; simp at hk
  · subst hg
    exact ⟨g, cap, hv, hr⟩

theorem OwnR.own {w : World} {base g n cap : Nat} {s : List Blk} (h : OwnR w base g s) (hn : s.length = n) (hc : n ≤ cap) : OwnSto w base (.slice (some ⟨g, 0, none⟩) n cap) s := by
  subst hn
  exact ⟨_, cap, rfl, ⟨hc, fun h => by cases h⟩, .inr ⟨g, rfl, h⟩⟩
end Go.Proofs.Ytfmgdjgedhnmeaa

namespace Go.Proofs.Ytfmgdjgedhnmeaa
open Go.RowKit
set_option linter.unusedVariables false

set_option maxRecDepth 100000 in
set_option maxHeartbeats 1000000 in
theorem max_int (w : World) (ao : Option Addr) (n cap : Nat) (xs : List Int) (hn : xs.length = n) (h1 : 1 ≤ n) (h63 : n ≤ 1000) (hr : Row .i64 w ao xs) (hx : ∀ x ∈ xs, 0 ≤ x ∧ x ≤ 1000000) :
    Calls Try.prog 145 #[.slice ao n cap] w fun e w' => ∃ r : Int, e = .returned (.int .i64 r) ∧ (r = 0 ↔ ∀ x ∈ xs, x = 0) ∧ w' = w := by
  have HN := Lib.hid hn
  have h0s : 0 < xs.length := by omega
  obtain ⟨b, o, rfl, hq⟩ := hr.at 0 h0s
  have hc0 := hq 0 h0s
  rw [Nat.add_zero] at hc0
  have lb := World.block_lt_of_cell? _ _ hc0
  have hx0 := hx _ (List.getElem_mem h0s)
  have HT1 : Hid (xs.take 1 = [xs[0]]) := Lib.hid (by rw [List.take_succ_eq_append_getElem h0s]; rfl)
  have hn1 : ¬ ((n : Int) < 1) := by omega
  have hn2 : (0 : Int) < n := by omega
  clear hn
  generalize xs[0] = y0 at *
  go_enter Try.func145, Try.ntmps145
  go_wp2
  go_loop [3, 4] (fun u i => ∃ (k : Nat) (v : Int), 1 ≤ k ∧ k ≤ n ∧ i = .int .i64 k ∧ u = .int .i64 v ∧ 0 ≤ v ∧ v ≤ 1000000 ∧ Hid (v = 0 ↔ ∀ x ∈ xs.take k, x = 0)) (fun _ i => n - (intOf i).toNat)
  case atStart => exact ⟨1, y0, by omega, by omega, rfl, rfl, hx0.1, hx0.2, Lib.hid (by rw [HT1.out]; simp)⟩
  case round =>
    obtain ⟨k, v, hk1, hkn, rfl, rfl, hv0, hv1, HV⟩ := hrel
    by_cases hlt : k < n
    · have hks : k < xs.length := by have := HN.out; omega
      have hck := hq k hks
      have hxk := hx _ (List.getElem_mem hks)
      have hts := List.take_succ_eq_append_getElem hks
      have HTS := Lib.hid hts
      have hkn2 : (k : Int) < n := by omega
      clear hts hc0
      generalize xs[k] = y at *
      have HM : Hid ((if v < y then y else v) = 0 ↔ ∀ x ∈ xs.take (k + 1), x = 0) := Lib.hid (by
        rw [HTS.out]
        simp only [List.mem_append, List.mem_singleton]
        constructor
        · intro h x hxx
          rcases hxx with e | e
          · exact HV.out.1 (by split at h <;> omega) x e
          · rw [e]; split at h <;> omega
        · intro h
          have e1 := HV.out.2 fun x hxx => h x (.inl hxx)
          have e2 := h y (.inr rfl)
          split <;> omega)
      have hb2 : 0 ≤ (if v < y then y else v) ∧ (if v < y then y else v) ≤ 1000000 := by split <;> omega
      clear hq
      go_wp2
      go_round
      case rel => exact ⟨k + 1, _, by omega, by omega, by go_num, rfl, hb2.1, hb2.2, HM⟩
      case measure => simp [intOf]; omega
    · obtain rfl : k = n := by omega
      have HE := Lib.hid (show v = 0 ↔ ∀ x ∈ xs, x = 0 by
        have := HV.out
        rwa [List.take_of_length_le (by have := HN.out; omega)] at this)
      go_wp2
      go_ret
      exact ⟨_, rfl, HE.out, rfl⟩
end Go.Proofs.Ytfmgdjgedhnmeaa

namespace Go.Proofs.Ytfmgdjgedhnmeaa
open Go.RowKit
set_option linter.unusedVariables false

theorem info_blk : (Try.prog.info? 93).map (fun i => (i.zero, i.size, i.bytes)) = some (some (.agg #[.int .i64 0, .int .i64 0, .slice none 0 0, .slice none 0 0]), 4, 64) := by kernel_rfl

/-- the cells from an address on, as they are -/
def cellsFrom (w : World) (b o m : Nat) : List Value := (List.range m).map fun j => (w.cell? ⟨b, o + j, none⟩).getD undef

theorem cellsFrom_at {w : World} {b o m j : Nat} {u : Value} (h : (cellsFrom w b o m)[j]? = some u) (hc : ∀ j, j < m → (w.cell? ⟨b, o + j, none⟩).isSome = true) : w.cell? ⟨b, o + j, none⟩ = some u := by
  have hlt : j < m := by
    have := (List.getElem?_eq_some_iff.1 h).1
    simpa [cellsFrom] using this
  have h2 := hc j hlt
  simp only [cellsFrom, List.getElem?_map, List.getElem?_range hlt, Option.map_some, Option.some.injEq] at h
  obtain ⟨x, hx⟩ := Option.isSome_iff_exists.1 h2
  rw [hx] at h ⊢
  simpa using h

/-- each cell of a store's row is there, and is one cell -/
theorem sto_cells {w : World} {b o : Nat} {s : List Blk} (h : ∀ i (h : i < s.length), BlkAt w b (o + i * 4) s[i]) (j : Nat) (hj : j < s.length * 4) : ∃ u, w.cell? ⟨b, o + j, none⟩ = some u ∧ u.oneCell' = true := by
  have hi : j / 4 < s.length := by omega
  have hB := h (j / 4) hi
  obtain ⟨v, h1, ao, cap, hv, _⟩ := hB.kids
  obtain ⟨u, h3, bo, bap, hu, _⟩ := hB.bytes
  subst hv hu
  rcases (show j % 4 = 0 ∨ j % 4 = 1 ∨ j % 4 = 2 ∨ j % 4 = 3 from by omega) with e | e | e | e
  · exact ⟨_, by rw [show o + j = o + j / 4 * 4 from by omega]; exact hB.refs, rfl⟩
  · exact ⟨_, by rw [show o + j = o + j / 4 * 4 + 1 from by omega]; exact hB.level, rfl⟩
  · exact ⟨_, by rw [show o + j = o + j / 4 * 4 + 2 from by omega]; exact h1, rfl⟩
  · exact ⟨_, by rw [show o + j = o + j / 4 * 4 + 3 from by omega]; exact h3, rfl⟩

theorem clone_own {w w' : World} {b o g n : Nat} {s : List Blk} {cur : Array Value} (hn : s.length = n) (h : ∀ i (h : i < s.length), BlkAt w b (o + i * 4) s[i]) (hg : w.heap.size ≤ g) (hh : w'.heap[g]? = some (.cells cur 93 (0, 0)))
    (ht : cur.toList.take (n * 4) = cellsFrom w b o (n * 4)) (hb : Below w.heap.size w w') : OwnR w' w.heap.size g s := by
  subst hn
  refine ⟨hg, ⟨cur, hh⟩, fun i hi => ?_⟩
  have key : ∀ r, r < 4 → ∀ u, w.cell? ⟨b, o + i * 4 + r, none⟩ = some u → w'.cell? ⟨g, i * 4 + r, none⟩ = some u := by
    intro r hr u hu
    rw [cell_of_block hh]
    have hlt : i * 4 + r < s.length * 4 := by omega
    have e1 : (cur.toList.take (s.length * 4))[i * 4 + r]? = (cellsFrom w b o (s.length * 4))[i * 4 + r]? := by rw [ht]
    rw [List.getElem?_take, if_pos hlt] at e1
    simp only [cellsFrom, List.getElem?_map, List.getElem?_range hlt, Option.map_some] at e1
    rw [show o + (i * 4 + r) = o + i * 4 + r from by omega, hu] at e1
    simpa using e1
  have hB := h i hi
  obtain ⟨v, h1, h2⟩ := hB.kids
  obtain ⟨u, h3, h4⟩ := hB.bytes
  exact ⟨key 0 (by omega) _ hB.refs, key 1 (by omega) _ hB.level, ⟨v, key 2 (by omega) _ h1, (h2.far hg).keep fun b _ hlt => hb.block b hlt⟩, ⟨u, key 3 (by omega) _ h3, (h4.far hg).keep fun b _ hlt => hb.block b hlt⟩⟩

set_option maxRecDepth 100000 in
theorem clone_blocks (w : World) (ao : Option Addr) (n cap : Nat) (s : List Blk) (hn : s.length = n) (hs : StoRow w ao s) (hc : Capd ao n cap) (hl : n ≤ 2199023255552) :
    Calls Try.prog 83 #[.slice ao n cap] w fun e w' => ∃ v, e = .returned v ∧ OwnSto w' w.heap.size v s ∧ Below w.heap.size w w' := by
  have he := fun w a n c => Lib.run_eql_slice_nil (P := Try.prog) w 22 93 a n c 0 0 Try.underlying22
  cases ao with
  | none =>
    have hss : s = [] := by
      rcases hs with h | ⟨_, _, h, _⟩
      · exact h
      · cases h
    subst hss
    obtain rfl := hc.2 rfl
    simp at hn
    subst hn
    go_enter Try.func83, Try.ntmps83
    go_wp2
    go_ret
    exact ⟨_, rfl, ⟨none, 0, rfl, ⟨Nat.le_refl _, fun _ => rfl⟩, .inl rfl⟩, Below.refl _ _⟩
  | some a =>
    have hb0 : Below w.heap.size w (w.alloc (.cells #[] 93)) := (Below.refl _ _).alloc (Nat.le_refl _) _
    have HL := Lib.hid hl
    obtain ⟨i0, hi, hz0, hz1, hz2⟩ := info_parts info_blk
    have hown : (w.alloc (.cells #[] 93)).ownsRow w.heap.size 93 4 (.slice (some ⟨w.heap.size, 0, none⟩) 0 0) 0 [] := World.ownsRow_lit (base := w.heap.size) w #[] 0 (Nat.le_refl _) (Nat.zero_le _) rfl
    have HN := Lib.hid hn
    have HC := Lib.hid hc
    clear hl hc hn
    obtain ⟨b, o, sp⟩ := a
    go_enter Try.func83, Try.ntmps83
    go_wp2_with (first
      | (at_builtin; refine wpList_append_own _ rfl (.tmp 5) (.tmp 6) _ rfl w.heap.size 93 i0 _ 4 64 Try.underlying22 hi hz0 hz1 hz2 rfl (by decide) _ 0 [] rfl hown ⟨b, o, sp⟩ n cap (cellsFrom w b o (n * 4)) rfl (by simp [cellsFrom]) ?_ ?_ ?_ ?_ (by simp) ?_; rotate_right; intro v' w1 hown1 hg1 hnil))
    · go_ret
      refine ⟨_, rfl, ?_, ?_⟩
      · obtain ⟨h1, h2⟩ := hown1
        rcases h2 with ⟨h3, h4⟩ | ⟨g, cap', cur, hv, hg, hh, hle, hmax, hsize, htake⟩
        · have := (hnil.1 h3).1
          cases this
        · rw [Nat.zero_add] at *
          refine ⟨_, cap', by rw [HN.out]; exact hv, ⟨by rw [HN.out]; exact hle, fun h => by cases h⟩, ?_⟩
          rcases hs with hs | ⟨b', o', he', hq⟩
          · exact .inl hs
          · simp only [Option.some.injEq, Addr.mk.injEq] at he'
            obtain ⟨rfl, rfl, rfl⟩ := he'
            refine .inr ⟨g, rfl, clone_own HN.out hq hg hh (by simpa using htake) ?_⟩
            exact hb0.grown hg1 (by simp) fun j hj => by have h9 : some w.heap.size = some j := hj; simp at h9; omega
      · exact hb0.grown hg1 (by simp) fun j hj => by have h9 : some w.heap.size = some j := hj; simp at h9; omega
    · intro j u hj
      have hlt : j < n * 4 := by
        have := (List.getElem?_eq_some_iff.1 hj).1
        simpa [cellsFrom] using this
      rcases hs with hs | ⟨b', o', he', hq⟩
      · have := HN.out; rw [hs] at this; simp at this; omega
      · simp only [Option.some.injEq, Addr.mk.injEq] at he'
        obtain ⟨rfl, rfl, rfl⟩ := he'
        have hcell := cellsFrom_at hj (fun i hi => by obtain ⟨u, hu, _⟩ := sto_cells hq i (by rw [HN.out]; exact hi); simp [hu])
        have e1 : (⟨b, o, none⟩ : Addr).add j = ⟨b, o + j, none⟩ := by unfold Addr.add; split <;> simp_all
        rw [e1]
        exact ((bcell hb0).1 _ _ (World.block_lt_of_cell? _ _ hcell)).trans hcell
    · intro u hu
      obtain ⟨j, hj⟩ := List.mem_iff_getElem?.1 hu
      have hlt : j < n * 4 := by
        have := (List.getElem?_eq_some_iff.1 hj).1
        simpa [cellsFrom] using this
      rcases hs with hs | ⟨b', o', he', hq⟩
      · have := HN.out; rw [hs] at this; simp at this; omega
      · simp only [Option.some.injEq, Addr.mk.injEq] at he'
        obtain ⟨rfl, rfl, rfl⟩ := he'
        have hcell := cellsFrom_at hj (fun i hi => by obtain ⟨u, hu, _⟩ := sto_cells hq i (by rw [HN.out]; exact hi); simp [hu])
        obtain ⟨u', hu', h1⟩ := sto_cells hq j (by rw [HN.out]; exact hlt)
        rw [hcell] at hu'
        obtain rfl := Option.some.inj hu'
        exact h1
    · have := HL.out; unfold maxLen; omega
    · have := HL.out; omega
end Go.Proofs.Ytfmgdjgedhnmeaa

namespace Go.Proofs.Ytfmgdjgedhnmeaa
open Go.RowKit
set_option linter.unusedVariables false

set_option maxRecDepth 100000 in
theorem clone_ints (ao : Option Addr) (n c : Nat) (xs : List Int) (w : World) (hn : xs.length = n) (hx : Row .i64 w ao xs) (h0 : ao = none → c = 0) (hl : n ≤ 17592186044416) :
    Calls Try.prog 84 #[.slice ao n c] w fun e w' => ∃ v, e = .returned v ∧ Own .i64 3 w.heap.size w' v xs ∧ NilKept v ao ∧ Below w.heap.size w w' := by
  subst hn
  have he := fun w a n c => Lib.run_eql_slice_nil (P := Try.prog) w 91 3 a n c 0 0 Try.underlying91
  cases ao with
  | none =>
    have hxs : xs = [] := by
      rcases hx with h | ⟨_, _, h, _⟩
      · exact h
      · cases h
    subst hxs
    obtain rfl := h0 rfl
    go_enter Try.func84, Try.ntmps84
    go_wp2
    go_ret
    exact ⟨_, rfl, Own.nil _ _ _ _, fun _ => rfl, Below.refl _ _⟩
  | some a =>
    clear h0
    have HL := Lib.hid hl
    clear hl
    have hq := hx.mono (w' := w.alloc (.cells #[] 3)) ((Below.refl _ _).alloc (Nat.le_refl _) _)
    go_enter Try.func84, Try.ntmps84
    go_wp2_with (first
      | (at_builtin; refine append_ints rfl (.tmp 5) (.tmp 6) _ rfl .i64 3 8 w.heap.size Try.underlying91 info_int _ _ _ _ _ rfl (Own.empty _ _ _) rfl hq (fun h => by cases h) ?_ ?_ (by simp) ?_; rotate_right; intro v' w1 hown1 hbel1 hnil))
    · go_ret
      exact ⟨_, rfl, hown1, (fun h => by have := hnil h; cases this), ((Below.refl _ _).alloc (Nat.le_refl _) _).trans hbel1⟩
    · have := HL.out; simp; unfold maxLen; omega
    · have := HL.out; simp; omega

theorem clone_bytes_n (ao : Option Addr) (n c : Nat) (xs : List Int) (w : World) (hn : xs.length = n) (hx : Row .u8 w ao xs) (h0 : ao = none → c = 0) (hl : n ≤ 140737488355328) :
    Calls Try.prog 21 #[.slice ao n c] w fun e w' => ∃ v, e = .returned v ∧ Own .u8 5 w.heap.size w' v xs ∧ NilKept v ao ∧ Below w.heap.size w w' := by
  subst hn
  exact clone_bytes ao c xs w hx h0 hl

theorem undrew {w w' : World} (h : Below w.drew.heap.size w.drew w') : Below w.heap.size w w' := ⟨h.os, h.tape, h.output, h.size, h.block⟩

/-- a block of one cell that holds a slice is written: a store's row stays -/
theorem OwnR.box {w : World} {base g pb : Nat} {s : List Blk} {a : Option Addr} {n c t : Nat} (h : OwnR w base g s) (hp : w.heap[pb]? = some (.cells #[.slice a n c] t (0, 0))) (hpg : pb ≠ g) (v : Value) : OwnR (w.setCell ⟨pb, 0, none⟩ v) base g s := by
  have hcell : ∀ b o, b ≠ pb → (w.setCell ⟨pb, 0, none⟩ v).cell? ⟨b, o, none⟩ = w.cell? ⟨b, o, none⟩ := fun b o hb => World.cell?_of_block (w := w) (Below.heap_setCell _ _ _ _ hb)
  have hfar : ∀ k ao xs, FarRow g k w ao xs → FarRow g k (w.setCell ⟨pb, 0, none⟩ v) ao xs := by
    intro k ao xs hf
    rcases hf with rfl | ⟨b, o, rfl, hb, hf⟩
    · exact .inl rfl
    · rcases Nat.eq_zero_or_pos xs.length with h0 | h0
      · exact .inl (List.eq_nil_of_length_eq_zero h0)
      · have hne : b ≠ pb := by
          rintro rfl
          have h1 := hf 0 h0
          rw [cell_of_block hp] at h1
          rcases (show o + 0 = 0 ∨ 0 < o + 0 from by omega) with e | e
          · rw [e] at h1; simp at h1
          · rw [Array.getElem?_eq_none (by simp; omega)] at h1; cases h1
        exact .inr ⟨b, o, rfl, hb, fun i hi => (hcell b _ hne).trans (hf i hi)⟩
  have hslx : ∀ k v' xs, SlX g k w v' xs → SlX g k (w.setCell ⟨pb, 0, none⟩ v) v' xs := by
    rintro k v' xs ⟨ao, cap, hv, hr, hc⟩
    exact ⟨ao, cap, hv, hfar _ _ _ hr, hc⟩
  have hg : ∀ j, (w.setCell ⟨pb, 0, none⟩ v).cell? ⟨g, j, none⟩ = w.cell? ⟨g, j, none⟩ := fun j => hcell g j (Ne.symm hpg)
  refine ⟨h.le, ?_, fun i hi => ?_⟩
  · obtain ⟨cur, hc⟩ := h.heap
    exact ⟨cur, heap_setCell_ne hc (Ne.symm hpg)⟩
  · have hB := h.blks i hi
    obtain ⟨v1, h1, h2⟩ := hB.kids
    obtain ⟨u1, h3, h4⟩ := hB.bytes
    exact ⟨(hg _).trans hB.refs, (hg _).trans hB.level, ⟨v1, (hg _).trans h1, hslx _ _ _ h2⟩, ⟨u1, (hg _).trans h3, hslx _ _ _ h4⟩⟩

theorem OwnSto.box {w : World} {base pb : Nat} {v0 : Value} {s : List Blk} {a : Option Addr} {n c t : Nat} (h : OwnSto w base v0 s) (hp : w.heap[pb]? = some (.cells #[.slice a n c] t (0, 0))) (hpg : pb < base) (v : Value) : OwnSto (w.setCell ⟨pb, 0, none⟩ v) base v0 s := by
  obtain ⟨ao, cap, hv, hc, h | ⟨g, hg, hr⟩⟩ := h
  · exact ⟨ao, cap, hv, hc, .inl h⟩
  · exact ⟨ao, cap, hv, hc, .inr ⟨g, hg, hr.box hp (by have := hr.le; omega) v⟩⟩

set_option maxRecDepth 100000 in
set_option maxHeartbeats 1000000 in
theorem copy_any (w : World) (ao : Option Addr) (n cap : Nat) (s : List Blk) (hn : s.length = n) (hs : StoRow w ao s) (hwf : WfS s) (hc : Capd ao n cap) (hl : n ≤ 2199023255552) :
    Calls Try.prog 42 #[.agg #[.slice ao n cap]] w fun e w' => ∃ v, e = .returned (.agg #[v]) ∧ OwnSto w' w.heap.size v s ∧ Below w.heap.size w w' := by
  have HN := Lib.hid hn
  have HC := Lib.hid hc
  have HL := Lib.hid hl
  have hb0 : Below w.heap.size w ((w.alloc (.cells #[.slice ao n cap] 24)).alloc (.cells #[.slice none 0 0] 24)) := ((Below.refl _ _).alloc (Nat.le_refl _) _).alloc (by simp) _
  have h1 : ((w.alloc (.cells #[.slice ao n cap] 24)).alloc (.cells #[.slice none 0 0] 24)).heap[w.heap.size]? = some (.cells #[.slice ao n cap] 24 (0, 0)) := heap_alloc2_old _ _ _
  have h2 : ((w.alloc (.cells #[.slice ao n cap] 24)).alloc (.cells #[.slice none 0 0] 24)).heap[w.heap.size + 1]? = some (.cells #[.slice none 0 0] 24 (0, 0)) := heap_alloc2_new _ _ _
  have hz : ((w.alloc (.cells #[.slice ao n cap] 24)).alloc (.cells #[.slice none 0 0] 24)).heap.size = w.heap.size + 2 := by simp
  have HZ := Lib.hid hz
  clear hn hc hl hz
  go_enter Try.func42, Try.ntmps42
  go_wp2_with fail
  generalize (w.alloc (Obj.cells #[Value.slice ao n cap] 24)).alloc (Obj.cells #[Value.slice none 0 0] 24) = W0 at *
  refine (clone_blocks _ _ _ _ s HN.out (hs.mono hb0) HC.out HL.out).mono ?_
  rintro e w1 ⟨v, rfl, ho1, hb1⟩
  have p1 : w1.heap[w.heap.size]? = some (.cells #[.slice ao n cap] 24 (0, 0)) := (hb1.block _ (lt_heap h1)).trans h1
  have p2 : w1.heap[w.heap.size + 1]? = some (.cells #[.slice none 0 0] 24 (0, 0)) := (hb1.block _ (lt_heap h2)).trans h2
  have ho2 := ho1.box p1 (lt_heap h1) v
  have q1 := one_setCell (u := v) p1
  have q2 : (w1.setCell ⟨w.heap.size, 0, none⟩ v).heap[w.heap.size + 1]? = some (.cells #[.slice none 0 0] 24 (0, 0)) := heap_setCell_ne p2 (by simp)
  have hbz : Below w.heap.size w (w1.setCell ⟨w.heap.size, 0, none⟩ v) := (below_step hb0 hb1).setCell (Nat.le_refl _) _
  have c1 := cell_of_one p1
  have f1 := free_of_one p1
  obtain ⟨a1, cap1, hv1, hc1, hr1⟩ := ho1.sto
  rw [HN.out] at hv1 hc1
  subst hv1
  have c2 : (w1.setCell ⟨w.heap.size, 0, none⟩ (.slice a1 n cap1)).cell? ⟨w.heap.size, 0, none⟩ = some (.slice a1 n cap1) := World.cell?_setCell_same _ _ _ c1
  clear ho1 p1 p2 h1 h2 hr1 hb1
  go_wp2
  generalize w1.setCell ⟨w.heap.size, 0, none⟩ (Value.slice a1 n cap1) = W2 at *
  have HW := Lib.hid (show W0.heap.size ≤ W2.heap.size from by have := lt_heap q2; have := HZ.out; omega)
  clear c1 f1 c2
  go_loopw [12] (fun i wr => ∃ k : Nat, k ≤ n ∧ i = .int .i64 k ∧ OwnSto wr W0.heap.size (.slice a1 n cap1) s ∧ wr.heap[w.heap.size]? = some (.cells #[.slice a1 n cap1] 24 (0, 0)) ∧
      wr.heap[w.heap.size + 1]? = some (.cells #[.slice none 0 0] 24 (0, 0)) ∧ Below w.heap.size w wr) (fun i _ => n - (intOf i).toNat)
  case atStart => exact ⟨0, Nat.zero_le _, rfl, ho2, q1, q2, hbz⟩
  case round =>
    clear ho2 q1 q2 hbz HW
    obtain ⟨k, hkn, rfl, ho, q1, q2, hbz⟩ := hrel
    have c1 := cell_of_one q1
    have l1 := lt_heap q1
    have l2 := lt_heap q2
    have c2 := cell_of_one q2
    have f2 := free_of_one q2
    by_cases hlt : k < n
    · have hks : k < s.length := by have := HN.out; omega
      obtain ⟨g, cap', hv, hR⟩ := ho.at k hks
      rw [HN.out] at hv
      simp only [Value.slice.injEq, true_and] at hv
      obtain ⟨rfl, rfl⟩ := hv
      have hB := hR.blks k hks
      have c3 := hB.refs
      have c4 := hB.level
      obtain ⟨v2, c5, kao, kcap, rfl, hrow, hcd⟩ := hB.kids
      obtain ⟨v3, c6, bao, bcap, rfl, hrow3, hcd3⟩ := hB.bytes
      have lg := hR.lt
      have hba : Below wr.heap.size wr (wr.alloc (.cells #[.int .i64 s[k].refs, .int .i64 s[k].level, .slice kao s[k].kids.length kcap, .slice bao s[k].bytes.length bcap] 93)) := (Below.refl _ _).alloc (Nat.le_refl _) _
      have b1 : (wr.alloc (.cells #[.int .i64 s[k].refs, .int .i64 s[k].level, .slice kao s[k].kids.length kcap, .slice bao s[k].bytes.length bcap] 93)).cell? ⟨wr.heap.size, 2, none⟩ = some (.slice kao s[k].kids.length kcap) := by simp
      have b2 : (wr.alloc (.cells #[.int .i64 s[k].refs, .int .i64 s[k].level, .slice kao s[k].kids.length kcap, .slice bao s[k].bytes.length bcap] 93)).cell? ⟨wr.heap.size, 3, none⟩ = some (.slice bao s[k].bytes.length bcap) := by simp
      have b3 := (bcell hba).1 w.heap.size 0 l1
      rw [c1] at b3
      have b5 := ((bcell hba).1 _ _ lg).trans c5
      have b6 := ((bcell hba).1 _ _ lg).trans c6
      have bf : ∀ j, (wr.alloc (.cells #[.int .i64 s[k].refs, .int .i64 s[k].level, .slice kao s[k].kids.length kcap, .slice bao s[k].bytes.length bcap] 93)).frozen? ⟨g, j, none⟩ = false := fun j => ((bcell hba).2 _ _ lg).trans (hR.free j)
      have hR2 := hR.mono hba
      have hrow2 := hrow.row.mono hba
      have hrow32 := hrow3.row.mono hba
      have lz : wr.heap.size < (wr.alloc (.cells #[.int .i64 s[k].refs, .int .i64 s[k].level, .slice kao s[k].kids.length kcap, .slice bao s[k].bytes.length bcap] 93)).heap.size := by simp
      clear hB
      go_wp2_with fail
      generalize wr.alloc (Obj.cells #[Value.int .i64 s[k].refs, Value.int .i64 s[k].level, Value.slice kao s[k].kids.length kcap, Value.slice bao s[k].bytes.length bcap] 93) = W3 at *
      have hw := hwf.at k hks
      have HWK := Lib.hid hw
      have hi1 : (0 : Int) ≤ k := by omega
      have hi2 : (k : Int) < n := by omega
      clear hw c1 c2 f2 c3 c4 c5 c6
      have l13 : w.heap.size < W3.heap.size := by omega
      have lg3 : g < W3.heap.size := hR2.lt
      have hne1 : w.heap.size ≠ g := by have := hR.le; have := HZ.out; omega
      have hne2 : wr.heap.size ≠ g := by omega
      go_region_held3 (fun w' => w'.cell? ⟨w.heap.size, 0, none⟩ = some (.slice (some ⟨g, 0, none⟩) n cap1) ∧ w'.cell? ⟨wr.heap.size, 2, none⟩ = some (.slice kao s[k].kids.length kcap) ∧ w'.cell? ⟨wr.heap.size, 3, none⟩ = some (.slice bao s[k].bytes.length bcap)) (first
        | exact ⟨b3, b1, b2⟩
        | exact ⟨e1, e2, e3⟩
        | exact ⟨e4, e5, e6⟩
        | (refine ⟨?_, ?_, ?_⟩ <;> (rw [World.cell?_setCell_other _ _ _ _ (by intro h; simp only [Addr.mk.injEq] at h; omega)]; first | exact e4 | exact e5 | exact e6 | (rw [World.cell?_setCell_other _ _ _ _ (by intro h; simp only [Addr.mk.injEq] at h; omega)]; first | exact e4 | exact e5 | exact e6))))
        (first
        | (go_at_call 84; refine (clone_ints _ _ _ s[k].kids _ rfl (by exact hrow2) hcd.2 HWK.out.klen).mono ?_; rintro e w4 ⟨v4, rfl, hown4, -, hb4⟩; obtain ⟨a4, k4, rfl, -, -, -, -⟩ := hown4.shape'; have e1 := ((bcell hb4).1 _ _ l13).trans b3; have e2 := ((bcell hb4).1 _ _ lz).trans b1; have e3 := ((bcell hb4).1 _ _ lz).trans b2; have z4 := hb4.size)
        | (go_at_call 21; refine (clone_bytes_n _ _ _ s[k].bytes _ rfl (by exact Row.mono (w := W3.drew) hrow32 hb4) hcd3.2 (by have := HWK.out.blen; omega)).mono ?_; rintro e w5 ⟨v5, rfl, hown5, -, hb5⟩; obtain ⟨a5, k5, rfl, -, -, -, -⟩ := hown5.shape'; have e4 := ((bcell hb5).1 _ _ (Nat.lt_of_lt_of_le l13 z4)).trans e1; have e5 := ((bcell hb5).1 _ _ (Nat.lt_of_lt_of_le lz z4)).trans e2; have e6 := ((bcell hb5).1 _ _ (Nat.lt_of_lt_of_le lz z4)).trans e3; have lg5 := Nat.lt_of_lt_of_le lg3 z4; have g1 := ((bcell hb5).1 _ _ lg5).trans (((bcell hb4).1 _ _ lg3).trans b5); have g2 := ((bcell hb5).1 _ _ lg5).trans (((bcell hb4).1 _ _ lg3).trans b6); have g3 := fun j => ((bcell hb5).2 g j lg5).trans (((bcell hb4).2 g j lg3).trans (bf j)); have z5 := hb5.size))
      have hb34 : Below W3.heap.size W3 w4 := undrew hb4
      have z34 : W3.heap.size ≤ w4.heap.size := hb34.size
      have z45 := hb5.size
      have hnn : (n : Int) ≤ 2199023255552 := by have := HL.out; omega
      have hR5 := (hR2.mono hb34).mono hb5
      have sk := (hown4.slx lg3).keep (w' := w5) (fun b _ hlt => hb5.block b hlt)
      have hR6 := hR5.setKids k hks _ sk
      have sb := (hown5.slx lg5).keep (w' := w5.setCell ⟨g, k * 4 + 2, none⟩ (.slice a4 s[k].kids.length k4)) (fun b hb _ => Below.heap_setCell _ _ _ _ hb)
      have hR7 := hR6.setBytes k hks _ sb
      have hq : ∀ b, b < wr.heap.size → b ≠ g → ((w5.setCell ⟨g, k * 4 + 2, none⟩ (.slice a4 s[k].kids.length k4)).setCell ⟨g, k * 4 + 3, none⟩ (.slice a5 s[k].bytes.length k5)).heap[b]? = wr.heap[b]? := by
        intro b hlt hb
        have z3 := hba.size
        rw [Below.heap_setCell _ _ _ _ hb, Below.heap_setCell _ _ _ _ hb, hb5.block b (by omega), hb34.block b (by omega), hba.block b hlt]
      have hbf : Below w.heap.size w ((w5.setCell ⟨g, k * 4 + 2, none⟩ (.slice a4 s[k].kids.length k4)).setCell ⟨g, k * 4 + 3, none⟩ (.slice a5 s[k].bytes.length k5)) :=
        ((hbz.trans ((hba.mono hbz.size).trans ((hb34.mono (by have := hbz.size; have := hba.size; omega)).trans (hb5.mono (by have := hbz.size; have := hba.size; omega))))).setCell (by have := hR.le; have := HZ.out; show w.heap.size ≤ g; omega) _).setCell (by have := hR.le; have := HZ.out; show w.heap.size ≤ g; omega) _
      have hcn := hc1.1
      have HQ1 := Lib.hid ((hq _ l1 hne1).trans q1)
      have HQ2 := Lib.hid ((hq _ l2 (by have := hR.le; have := HZ.out; omega)).trans q2)
      clear g1 g2 g3 e1 e2 e3 e4 e5 e6 b1 b2 b3 b5 b6 bf sk sb hown4 hown5 hq q1 q2
      go_wp2
      go_roundw
      case rel => exact ⟨k + 1, by omega, by go_num, hR7.own HN.out hcn, HQ1.out, HQ2.out, hbf⟩
      case measure => simp [intOf]; omega
    · obtain rfl : k = n := by omega
      have HO := Lib.hid (ho.box (pb := w.heap.size + 1) q2 (by have := HZ.out; omega) (.slice a1 k cap1))
      go_wp2
      refine bodyPost_ret (v := .agg #[.slice a1 k cap1]) (by simp [results, Try.results42, go_sem, c2]) rfl ⟨_, rfl, ?_, ?_⟩
      · obtain ⟨ao', cap', e1, e2, e3⟩ := HO.out
        refine ⟨ao', cap', e1, e2, ?_⟩
        rcases e3 with e3 | ⟨g, e4, e5⟩
        · exact .inl e3
        · exact .inr ⟨g, e4, ⟨by have := e5.le; have := HZ.out; omega, e5.heap, e5.blks⟩⟩
      · exact hbz.setCell (by simp) _
end Go.Proofs.Ytfmgdjgedhnmeaa

namespace Go.Proofs.Ytfmgdjgedhnmeaa
open Go.RowKit
set_option linter.unusedVariables false

/-- the block at an address held so many times more -/
def addRef (s : List Blk) (a d : Int) : List Blk := s.set (a - 1).toNat { blk s a with refs := (blk s a).refs + d }
theorem addRef_at (s : List Blk) (k : Nat) (h : k < s.length) (d : Int) : addRef s ((k : Int) + 1) d = s.set k { s[k] with refs := s[k].refs + d } := by
  unfold addRef
  rw [blk_at s k h, show ((k : Int) + 1 - 1).toNat = k from by omega]
theorem addRef_length (s : List Blk) (a d : Int) : (addRef s a d).length = s.length := by simp [addRef]

theorem OwnSto.none (w : World) (base : Nat) : OwnSto w base (.slice Option.none 0 0) [] := ⟨Option.none, 0, rfl, ⟨Nat.le_refl _, fun _ => rfl⟩, .inl rfl⟩

theorem OwnSto.weaken {w : World} {base base' : Nat} {v : Value} {s : List Blk} (h : OwnSto w base v s) (hb : base' ≤ base) : OwnSto w base' v s := by
  obtain ⟨ao', cap', e1, e2, e3⟩ := h
  refine ⟨ao', cap', e1, e2, ?_⟩
  rcases e3 with e3 | ⟨g, e4, e5⟩
  · exact .inl e3
  · exact .inr ⟨g, e4, ⟨by have := e5.le; omega, e5.heap, e5.blks⟩⟩

end Go.Proofs.Ytfmgdjgedhnmeaa
