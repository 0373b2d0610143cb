/- store.New: a store of free blocks. -/
import Derived.Test.YtpfopbkaddjjcaaDrop
namespace Go.Proofs.Ytpfopbkaddjjcaa
open Go.RowKit
set_option linter.unusedVariables false

def newR (n : Int) : List Blk × Int := if n < 0 ∨ 400 < n then ([], 3) else (List.replicate n.toNat noBlk, 0)

def freeCells (n : Nat) : Array Value := madeCells #[.int .i64 0, .int .i64 0, .slice none 0 0, .slice none 0 0] (n * 4)

theorem free_cell (w : World) (g n : Nat) (h : w.heap[g]? = some (.cells (freeCells n) 50 (0, 0))) (i r : Nat) (hi : i < n) (hr : r < 4) :
    w.cell? ⟨g, i * 4 + r, none⟩ = some ((#[.int .i64 0, .int .i64 0, .slice none 0 0, .slice none 0 0] : Array Value)[r]!) := by
  rw [cell_of_block h]
  unfold freeCells madeCells
  rw [Array.getElem?_map, Array.getElem?_range]
  have : i * 4 + r < n * 4 := by omega
  rw [if_pos this]
  simp only [Option.map_some, List.size_toArray, List.length_cons, List.length_nil]
  rw [show (i * 4 + r) % (0 + 1 + 1 + 1 + 1) = r from by omega]

theorem free_row (w : World) (base g n : Nat) (hb : base ≤ g) (h : w.heap[g]? = some (.cells (freeCells n) 50 (0, 0))) : OwnR w base g (List.replicate n noBlk) := by
  refine ⟨hb, ⟨_, h⟩, fun i hi => ?_⟩
  have hin : i < n := by simpa using hi
  rw [List.getElem_replicate]
  have c0 := free_cell w g n h i 0 hin (by omega)
  have c1 := free_cell w g n h i 1 hin (by omega)
  have c2 := free_cell w g n h i 2 hin (by omega)
  have c3 := free_cell w g n h i 3 hin (by omega)
  exact ⟨c0, c1, ⟨_, c2, none, 0, rfl, .inl rfl, Nat.le_refl _, fun _ => rfl⟩, ⟨_, c3, none, 0, rfl, .inl rfl, Nat.le_refl _, fun _ => rfl⟩⟩

set_option maxRecDepth 100000 in
set_option maxHeartbeats 2000000 in
theorem new_any (w : World) (n : Int) :
    Calls Try.prog 60 #[.int .i64 n] w fun e w' => ∃ v, e = .returned (.tuple #[.agg #[v], .int .i64 (newR n).2]) ∧ OwnSto w' w.heap.size v (newR n).1 ∧ Below w.heap.size w w' := by
  have hb0 : Below w.heap.size w (w.alloc (.cells #[.slice none 0 0] 40)) := (Below.refl _ _).alloc (Nat.le_refl _) _
  have h0 : (w.alloc (.cells #[.slice none 0 0] 40)).heap[w.heap.size]? = some (.cells #[.slice none 0 0] 40 (0, 0)) := heap_alloc_new _ _
  by_cases hn : n < 0 ∨ 400 < n
  · have HR := Lib.hid (show newR n = ([], 3) by unfold newR; rw [if_pos hn])
    have c6 := cell_of_one h0
    have f6 := free_of_one h0
    by_cases hneg : n < 0
    · clear hn
      go_enter Try.func60, Try.ntmps60
      go_wp2
      refine bodyPost_ret (v := .tuple #[.agg #[.slice none 0 0], .int .i64 3]) (by simp [results, Try.results60, go_sem, c6]) rfl ⟨_, by rw [HR.out], ?_, ?_⟩
      · rw [HR.out]; exact OwnSto.none _ _
      · exact hb0
    · have hbig : 400 < n := by omega
      clear hn
      go_enter Try.func60, Try.ntmps60
      go_wp2
      refine bodyPost_ret (v := .tuple #[.agg #[.slice none 0 0], .int .i64 3]) (by simp [results, Try.results60, go_sem, c6]) rfl ⟨_, by rw [HR.out], ?_, ?_⟩
      · rw [HR.out]; exact OwnSto.none _ _
      · exact hb0
  · obtain ⟨m, rfl⟩ : ∃ m : Nat, n = m := ⟨n.toNat, by omega⟩
    have hm : m ≤ 400 := by omega
    have hd2 : ¬ (400 < (m : Int)) := by omega
    have HR := Lib.hid (show newR (m : Int) = (List.replicate m noBlk, 0) by unfold newR; rw [if_neg hn]; simp)
    have hmk : ∀ u : World, (Instr.makeSlice 38 (.int .i64 (m : Int)) (.int .i64 (m : Int))).run Try.prog u = .ok (.slice (some ⟨u.heap.size, 0, none⟩) m m) (u.alloc (.cells (freeCells m) 50)) := fun u => by
      obtain ⟨i, i1, i2, i3, i4⟩ := info_parts info_blk
      have := run_makeSlice (P := Try.prog) u 38 50 i _ Try.underlying38 i1 i2 .i64 .i64 m m (by omega) (Int.le_refl _) (by rw [i3]; simp; omega) (by rw [i4]; omega) (by omega)
      rw [i3] at this
      simpa [Value.cells, freeCells] using this
    have h1 : ((w.alloc (.cells #[.slice (some ⟨w.heap.size + 1, 0, none⟩) m m] 40)).alloc (.cells (freeCells m) 50)).heap[w.heap.size]? = some (.cells #[.slice (some ⟨w.heap.size + 1, 0, none⟩) m m] 40 (0, 0)) := heap_alloc2_old _ _ _
    have h2 : ((w.alloc (.cells #[.slice (some ⟨w.heap.size + 1, 0, none⟩) m m] 40)).alloc (.cells (freeCells m) 50)).heap[w.heap.size + 1]? = some (.cells (freeCells m) 50 (0, 0)) := heap_alloc2_new _ _ _
    have hb1 : Below w.heap.size w ((w.alloc (.cells #[.slice (some ⟨w.heap.size + 1, 0, none⟩) m m] 40)).alloc (.cells (freeCells m) 50)) := ((Below.refl _ _).alloc (Nat.le_refl _) _).alloc (by simp) _
    have c6 := cell_of_one h1
    clear hn
    go_enter Try.func60, Try.ntmps60
    go_wp2
    refine bodyPost_ret (v := .tuple #[.agg #[.slice (some ⟨w.heap.size + 1, 0, none⟩) m m], .int .i64 0]) (by simp [results, Try.results60, go_sem, c6]) rfl ⟨_, by rw [HR.out], ?_, ?_⟩
    · rw [HR.out]
      have hq := (free_row _ (w.heap.size + 1) _ m (Nat.le_refl _) h2).own (n := m) (by simp) (Nat.le_refl _)
      exact OwnSto.weaken (base := w.heap.size + 1) hq (by omega)
    · exact hb1
end Go.Proofs.Ytpfopbkaddjjcaa
