/- slices.Sort over integers of one's own: the library's contract, laid at this program. -/
import Derived.Test.YtpfopbkaddjjcaaOwnSto
import Derived.Ground.NamesProg
import Derived.Shelf.Lay
import Derived.Shelf.Sort.Plain
import Derived.Shelf.Slices.In.SortNone
import Derived.Lib.SortBridge
namespace Go.Proofs
open Go.Shelf
shelf_lay Lays.n189 Nm 189 at Try as Try.laysSort
end Go.Proofs
namespace Go.Proofs.Ytpfopbkaddjjcaa
open Go.RowKit Go.Sort
set_option linter.unusedVariables false

theorem below_setCells (base b : Nat) (hb : base ≤ b) : ∀ (vs : List Value) (o : Nat) (w : World), Below base w (w.setCells b o vs)
  | [], o, w => Below.refl _ _
  | v :: vs, o, w => ((Below.refl base w).setCell (p := ⟨b, o, none⟩) hb v).trans (below_setCells base b hb vs (o + 1) _)
theorem below_grow (base : Nat) (w : World) (os : Array Obj) (hb : base ≤ w.heap.size) : Below base w (grow w os) :=
  ⟨rfl, rfl, rfl, by simp [grow], fun k hk => by simp [grow, Array.getElem?_append_left (show k < w.heap.size by omega)]⟩
theorem below_drewN (base : Nat) (w : World) (q : Nat) : Below base w (w.drewN q) := ⟨rfl, rfl, rfl, Nat.le_refl _, fun _ _ => rfl⟩
theorem below_sorted (w : World) (base b q : Nat) (vs : List Value) (os : Array Obj) (hb : base ≤ b) (hbase : base ≤ w.heap.size) : Below base w (grow ((w.drewN q).setCells b 0 vs) os) := by
  have h1 := (below_drewN base w q).trans (below_setCells base b hb vs 0 (w.drewN q))
  exact h1.trans (below_grow base _ os (by have := h1.size; omega))

theorem sort_any (w : World) (base : Nat) (v : Value) (xs : List Int) (hown : Own .i64 3 base w v xs) (hl : xs.length ≤ 1000000) (hbase : base ≤ w.heap.size) :
    Calls Try.prog 89 #[v] w fun e w' => e = .returned (.tuple #[]) ∧ ∃ ao cap, v = .slice ao xs.length cap ∧ Row .i64 w' ao (xs.mergeSort fun x y => decide (x ≤ y)) ∧ Below base w w' := by
  rcases hown.block with ⟨rfl, rfl⟩ | ⟨b, cap, cur, rfl, hb, hh, hn, hc, hs, ht⟩
  · have h := Any.slices_Sort_int_none Try.laysSort none 0 w
    refine Calls.mono (show Calls Try.prog 89 #[.slice none 0 0] w _ from h) fun e w' ⟨h1, h2⟩ => ?_
    subst h1 h2
    exact ⟨rfl, none, 0, rfl, .inl (by simp), Below.refl _ _⟩
  · have hcell : ∀ j, j < xs.length → w.cell? ⟨b, 0 + j, none⟩ = some (.int .i64 (xs.getD j 0)) := fun j hj => by
      rw [Nat.zero_add, hown.cell j hj]
      simp [hj]
    have hH := Lib.holds_of_ints (n := xs.length) (Nat.le_refl _) hcell (fun j _ => free_of_block hh (0 + j))
    rw [List.take_length] at hH
    have h := Any.slices_Sort_int Try.laysSort b 0 cap xs w hH (lt_heap hh) (by omega)
    refine Calls.mono (show Calls Try.prog 89 #[.slice (some ⟨b, 0, none⟩) xs.length cap] w _ from h) fun e w' ⟨h1, q, os, h2⟩ => ?_
    subst h1
    have hys : (xs.mergeSort fun x y => decide (x ≤ y)).length = xs.length := List.length_mergeSort _
    rw [Lib.sorted_world (Value.int .i64) w b 0 q xs.toArray (xs.mergeSort fun x y => decide (x ≤ y)) os hH (by simp [hys])] at h2
    subst h2
    refine ⟨rfl, _, cap, rfl, .inr ⟨b, 0, rfl, fun i hi => ?_⟩, below_sorted w base b q _ os hb hbase⟩
    have hcs := Lib.cells_sorted_ints (q := q) (os := os) (Nat.le_refl _) hys hcell i (by simp; omega)
    rw [hcs]
    have hi' : i < (xs.mergeSort fun x y => decide (x ≤ y)).length := hi
    simp only [List.drop_length, List.append_nil, List.getD_eq_getElem?_getD, List.getElem?_eq_getElem hi', Option.getD_some]
end Go.Proofs.Ytpfopbkaddjjcaa
