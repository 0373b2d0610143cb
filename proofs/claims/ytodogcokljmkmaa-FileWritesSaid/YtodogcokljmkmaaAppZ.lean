/- append of noughts to a slice of one's own. -/
import Derived.Test.YtodogcokljmkmaaSlices
import Derived.Lib.AppendZerosOnto
import Derived.Lib.FrozenHead2
namespace Go.Proofs.Ytodogcokljmkmaa
open Go.RowKit
set_option linter.unusedVariables false

theorem zeroCells_u8 (k : Nat) : Builtin.zeroCells (Value.int .u8 0).cells k = ((zeros k).map (Value.int .u8)).toArray := by
  apply Array.ext
  · simp [Builtin.zeroCells, Value.cells, zeros]
  · intro i h1 h2
    simp [Builtin.zeroCells, Value.cells, zeros, Nat.mod_one]

theorem app_zeros (w : World) (ty : TypeId) (base : Nat) (v : Value) (xs : List Int) (k : Nat) (h0 : 0 < k) (hown : Own .u8 5 base w v xs) (hl : xs.length + k ≤ 1000) (hbase : base ≤ w.heap.size) :
    ∃ v' w', (Builtin.append_ #[32, 3] ty #[v, .int .i64 (k : Int)]).run Try.prog w = .ok v' w' ∧ Own .u8 5 base w' v' (xs ++ zeros k) ∧ Below base w w' := by
  obtain ⟨i0, hi, hz0, hz1, hz2⟩ := info_parts info_u8
  have grow : ∀ (bo : Option Addr) (sCap : Nat), v = .slice bo xs.length sCap → sCap ≤ maxLen → (Builtin.firstCells i0.size xs.length (.slice bo xs.length sCap)).run Try.prog w.drew = .ok ((xs.map (Value.int .u8))).toArray w.drew → sCap < xs.length + k →
      ∃ v' w', (Builtin.append_ #[32, 3] ty #[v, .int .i64 (k : Int)]).run Try.prog w = .ok v' w' ∧ Own .u8 5 base w' v' (xs ++ zeros k) ∧ Below base w w' := by
    intro bo sCap hv hcm hold hg
    have hnx : Builtin.nextslicecap (xs.length + k) sCap ≤ 1000000 := by
      unfold Builtin.nextslicecap
      split
      · omega
      · split
        · omega
        · simp only [Builtin.growBy]
          (repeat' split) <;> omega
    have h := Lib.run_append_grow_zeros w 32 3 ty 5 i0 (.int .u8 0) .i64 .i64 Try.underlying32 Try.underlying3 hi hz0 bo xs.length sCap (xs.map (Value.int .u8)) hold k h0 (by omega) hg (by omega) (by rw [hz2]; omega) (by rw [hz2]; omega)
    have hG := grownCap_ge w (xs.length + k) sCap 5
    have hG2 := grownCap_le_maxLen w (xs.length + k) sCap 5 (by unfold maxLen; omega)
    generalize grownCap w (xs.length + k) sCap 5 = G at *
    rw [← hv, zeroCells_u8, zeroCells_u8] at h
    refine ⟨_, _, h, ?_, ((Below.refl _ _).drew).alloc (by simpa using hbase) _⟩
    refine ⟨by simp, .inr ⟨w.heap.size, G, _, by simp [zeros], hbase, heap_alloc_new w.drew _, by simp [zeros]; omega, hG2, by simp [zeros]; omega, ?_⟩⟩
    simp only [Nat.mul_one, List.length_append]
    rw [show (xs.map (Value.int .u8)).toArray ++ ((zeros k).map (Value.int .u8)).toArray ++ ((zeros (G - (xs.length + k))).map (Value.int .u8)).toArray = (((xs ++ zeros k).map (Value.int .u8)) ++ ((zeros (G - (xs.length + k))).map (Value.int .u8))).toArray by simp]
    rw [List.take_left']
    simp
  rcases hown.block with ⟨hv, hx⟩ | ⟨g, cap, cur, hv, hg, hh, hn, hc, hs, ht⟩
  · subst hx
    exact grow none 0 hv (Nat.zero_le _) (run_firstCells_none w.drew i0.size 0 0 0) (by simp; omega)
  · by_cases hroom : xs.length + k ≤ cap
    · have hst := run_storeCells_at (P := Try.prog) g (xs.length) 5 ((zeros k).map (Value.int .u8)) 0 cur w hh (by simp [zeros]; omega) (ints_oneCell .u8 (zeros k))
      simp only [Nat.add_zero] at hst
      have hw : IntKind.i64.wrap (k : Int) = k := by rw [IntKind.wrap_i64]; omega
      have hneg : ¬ ((k : Int) < 0) := by omega
      have h48i : ¬ (281474976710656 < (k : Int) * (i0.bytes : Int)) := by
        rw [← Int.natCast_mul, hz2]
        omega
      have hrun : (Builtin.append_ #[32, 3] ty #[.slice (some ⟨g, 0, none⟩) xs.length cap, .int .i64 (k : Int)]).run Try.prog w = .ok (.slice (some ⟨g, 0, none⟩) (xs.length + k) cap) (w.setRow g (cur.toList.take xs.length ++ (zeros k).map (Value.int .u8) ++ cur.toList.drop (xs.length + ((zeros k).map (Value.int .u8)).length)).toArray) := by
        simp [Builtin.append_, run_underlying Try.underlying32, run_underlying Try.underlying3, sizeOf, typeInfo, zeroValue, hi, hz0, asInt, asIntOf, hw, hroom, hneg, h48i, zeroCells_u8, hz1, Addr.add_lit]
        simp [hst]
        intro hk0
        omega
      rw [hv]
      refine ⟨_, _, hrun, ?_, ?_⟩
      · refine ⟨by simp, .inr ⟨g, cap, _, by simp [zeros], hg, setRow_heap w g _ _ _ _ hh, by simp [zeros]; omega, hc, ?_, ?_⟩⟩
        · simp [zeros]; omega
        · simp only [Nat.mul_one, List.length_append]
          rw [ht, List.map_append]
          rw [List.take_left']
          simp
      · refine ⟨rfl, rfl, rfl, by simp [World.setRow], fun c hcb => setRow_other w g c _ (by omega)⟩
    · refine grow (some ⟨g, 0, none⟩) cap hv hc ?_ (by omega)
      refine run_firstCells_some (P := Try.prog) w.drew i0.size xs.length ⟨g, 0, none⟩ xs.length cap (xs.map (Value.int .u8)) (by rw [hz1]; simp) fun j u hj => ?_
      have hlt : j < xs.length := by simpa using (List.getElem?_eq_some_iff.1 hj).1
      rw [hv] at hown
      have := hown.cell j hlt
      rw [show (⟨g, 0, none⟩ : Addr).add j = ⟨g, j, none⟩ from by simp [Addr.add]; omega]
      refine Eq.trans (b := w.cell? ⟨g, j, none⟩) rfl ?_
      rw [this]
      simpa [hlt] using hj
end Go.Proofs.Ytodogcokljmkmaa
