/- slices.Clone of blocks, store.Copy: the same store in memory of its own. -/
import Derived.Test.YtpfopbkaddjjcaaOwnSto
namespace Go.Proofs.Ytpfopbkaddjjcaa
open Go.RowKit
set_option linter.unusedVariables false

theorem info_blk : (Try.prog.info? 50).map (fun i => (i.zero, i.size, i.bytes)) = some (some (.agg #[.int .i64 0, .int .i64 0, .slice none 0 0, .slice none 0 0]), 4, 64) := by kernel_rfl

/-- the cells from an address on, as they are -/
def cellsFrom (w : World) (b o m : Nat) : List Value := (List.range m).map fun j => (w.cell? ⟨b, o + j, none⟩).getD undef

theorem cellsFrom_at {w : World} {b o m j : Nat} {u : Value} (h : (cellsFrom w b o m)[j]? = some u) (hc : ∀ j, j < m → (w.cell? ⟨b, o + j, none⟩).isSome = true) : w.cell? ⟨b, o + j, none⟩ = some u := by
  have hlt : j < m := by
    have := (List.getElem?_eq_some_iff.1 h).1
    simpa [cellsFrom] using this
  have h2 := hc j hlt
  simp only [cellsFrom, List.getElem?_map, List.getElem?_range hlt, Option.map_some, Option.some.injEq] at h
  obtain ⟨x, hx⟩ := Option.isSome_iff_exists.1 h2
  rw [hx] at h ⊢
  simpa using h

/-- each cell of a store's row is there, and is one cell -/
theorem sto_cells {w : World} {b o : Nat} {s : List Blk} (h : ∀ i (h : i < s.length), BlkAt w b (o + i * 4) s[i]) (j : Nat) (hj : j < s.length * 4) : ∃ u, w.cell? ⟨b, o + j, none⟩ = some u ∧ u.oneCell' = true := by
  have hi : j / 4 < s.length := by omega
  have hB := h (j / 4) hi
  obtain ⟨v, h1, ao, cap, hv, _⟩ := hB.kids
  obtain ⟨u, h3, bo, bap, hu, _⟩ := hB.bytes
  subst hv hu
  rcases (show j % 4 = 0 ∨ j % 4 = 1 ∨ j % 4 = 2 ∨ j % 4 = 3 from by omega) with e | e | e | e
  · exact ⟨_, by rw [show o + j = o + j / 4 * 4 from by omega]; exact hB.refs, rfl⟩
  · exact ⟨_, by rw [show o + j = o + j / 4 * 4 + 1 from by omega]; exact hB.level, rfl⟩
  · exact ⟨_, by rw [show o + j = o + j / 4 * 4 + 2 from by omega]; exact h1, rfl⟩
  · exact ⟨_, by rw [show o + j = o + j / 4 * 4 + 3 from by omega]; exact h3, rfl⟩

theorem clone_own {w w' : World} {b o g n : Nat} {s : List Blk} {cur : Array Value} (hn : s.length = n) (h : ∀ i (h : i < s.length), BlkAt w b (o + i * 4) s[i]) (hg : w.heap.size ≤ g) (hh : w'.heap[g]? = some (.cells cur 50 (0, 0)))
    (ht : cur.toList.take (n * 4) = cellsFrom w b o (n * 4)) (hb : Below w.heap.size w w') : OwnR w' w.heap.size g s := by
  subst hn
  refine ⟨hg, ⟨cur, hh⟩, fun i hi => ?_⟩
  have key : ∀ r, r < 4 → ∀ u, w.cell? ⟨b, o + i * 4 + r, none⟩ = some u → w'.cell? ⟨g, i * 4 + r, none⟩ = some u := by
    intro r hr u hu
    rw [cell_of_block hh]
    have hlt : i * 4 + r < s.length * 4 := by omega
    have e1 : (cur.toList.take (s.length * 4))[i * 4 + r]? = (cellsFrom w b o (s.length * 4))[i * 4 + r]? := by rw [ht]
    rw [List.getElem?_take, if_pos hlt] at e1
    simp only [cellsFrom, List.getElem?_map, List.getElem?_range hlt, Option.map_some] at e1
    rw [show o + (i * 4 + r) = o + i * 4 + r from by omega, hu] at e1
    simpa using e1
  have hB := h i hi
  obtain ⟨v, h1, h2⟩ := hB.kids
  obtain ⟨u, h3, h4⟩ := hB.bytes
  exact ⟨key 0 (by omega) _ hB.refs, key 1 (by omega) _ hB.level, ⟨v, key 2 (by omega) _ h1, (h2.far hg).keep fun b _ hlt => hb.block b hlt⟩, ⟨u, key 3 (by omega) _ h3, (h4.far hg).keep fun b _ hlt => hb.block b hlt⟩⟩

set_option maxRecDepth 100000 in
theorem clone_blocks (w : World) (ao : Option Addr) (n cap : Nat) (s : List Blk) (hn : s.length = n) (hs : StoRow w ao s) (hc : Capd ao n cap) (hl : n ≤ 2199023255552) :
    Calls Try.prog 91 #[.slice ao n cap] w fun e w' => ∃ v, e = .returned v ∧ OwnSto w' w.heap.size v s ∧ Below w.heap.size w w' := by
  have he := fun w a n c => Lib.run_eql_slice_nil (P := Try.prog) w 38 50 a n c 0 0 Try.underlying38
  cases ao with
  | none =>
    have hss : s = [] := by
      rcases hs with h | ⟨_, _, h, _⟩
      · exact h
      · cases h
    subst hss
    obtain rfl := hc.2 rfl
    simp at hn
    subst hn
    go_enter Try.func91, Try.ntmps91
    go_wp2
    go_ret
    exact ⟨_, rfl, ⟨none, 0, rfl, ⟨Nat.le_refl _, fun _ => rfl⟩, .inl rfl⟩, Below.refl _ _⟩
  | some a =>
    have hb0 : Below w.heap.size w (w.alloc (.cells #[] 50)) := (Below.refl _ _).alloc (Nat.le_refl _) _
    have HL := Lib.hid hl
    obtain ⟨i0, hi, hz0, hz1, hz2⟩ := info_parts info_blk
    have hown : (w.alloc (.cells #[] 50)).ownsRow w.heap.size 50 4 (.slice (some ⟨w.heap.size, 0, none⟩) 0 0) 0 [] := World.ownsRow_lit (base := w.heap.size) w #[] 0 (Nat.le_refl _) (Nat.zero_le _) rfl
    have HN := Lib.hid hn
    have HC := Lib.hid hc
    clear hl hc hn
    obtain ⟨b, o, sp⟩ := a
    go_enter Try.func91, Try.ntmps91
    go_wp2_with (first
      | (at_builtin; refine wpList_append_own _ rfl (.tmp 5) (.tmp 6) _ rfl w.heap.size 50 i0 _ 4 64 Try.underlying38 hi hz0 hz1 hz2 rfl (by decide) _ 0 [] rfl hown ⟨b, o, sp⟩ n cap (cellsFrom w b o (n * 4)) rfl (by simp [cellsFrom]) ?_ ?_ ?_ ?_ (by simp) ?_; rotate_right; intro v' w1 hown1 hg1 hnil))
    · go_ret
      refine ⟨_, rfl, ?_, ?_⟩
      · obtain ⟨h1, h2⟩ := hown1
        rcases h2 with ⟨h3, h4⟩ | ⟨g, cap', cur, hv, hg, hh, hle, hmax, hsize, htake⟩
        · have := (hnil.1 h3).1
          cases this
        · rw [Nat.zero_add] at *
          refine ⟨_, cap', by rw [HN.out]; exact hv, ⟨by rw [HN.out]; exact hle, fun h => by cases h⟩, ?_⟩
          rcases hs with hs | ⟨b', o', he', hq⟩
          · exact .inl hs
          · simp only [Option.some.injEq, Addr.mk.injEq] at he'
            obtain ⟨rfl, rfl, rfl⟩ := he'
            refine .inr ⟨g, rfl, clone_own HN.out hq hg hh (by simpa using htake) ?_⟩
            exact hb0.grown hg1 (by simp) fun j hj => by have h9 : some w.heap.size = some j := hj; simp at h9; omega
      · exact hb0.grown hg1 (by simp) fun j hj => by have h9 : some w.heap.size = some j := hj; simp at h9; omega
    · intro j u hj
      have hlt : j < n * 4 := by
        have := (List.getElem?_eq_some_iff.1 hj).1
        simpa [cellsFrom] using this
      rcases hs with hs | ⟨b', o', he', hq⟩
      · have := HN.out; rw [hs] at this; simp at this; omega
      · simp only [Option.some.injEq, Addr.mk.injEq] at he'
        obtain ⟨rfl, rfl, rfl⟩ := he'
        have hcell := cellsFrom_at hj (fun i hi => by obtain ⟨u, hu, _⟩ := sto_cells hq i (by rw [HN.out]; exact hi); simp [hu])
        have e1 : (⟨b, o, none⟩ : Addr).add j = ⟨b, o + j, none⟩ := by unfold Addr.add; split <;> simp_all
        rw [e1]
        exact ((bcell hb0).1 _ _ (World.block_lt_of_cell? _ _ hcell)).trans hcell
    · intro u hu
      obtain ⟨j, hj⟩ := List.mem_iff_getElem?.1 hu
      have hlt : j < n * 4 := by
        have := (List.getElem?_eq_some_iff.1 hj).1
        simpa [cellsFrom] using this
      rcases hs with hs | ⟨b', o', he', hq⟩
      · have := HN.out; rw [hs] at this; simp at this; omega
      · simp only [Option.some.injEq, Addr.mk.injEq] at he'
        obtain ⟨rfl, rfl, rfl⟩ := he'
        have hcell := cellsFrom_at hj (fun i hi => by obtain ⟨u, hu, _⟩ := sto_cells hq i (by rw [HN.out]; exact hi); simp [hu])
        obtain ⟨u', hu', h1⟩ := sto_cells hq j (by rw [HN.out]; exact hlt)
        rw [hcell] at hu'
        obtain rfl := Option.some.inj hu'
        exact h1
    · have := HL.out; unfold maxLen; omega
    · have := HL.out; omega
end Go.Proofs.Ytpfopbkaddjjcaa
