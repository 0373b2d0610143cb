/- rookerylaw.rooted: a closed fact. -/
import Derived.Test.YtpfopbkaddjjcaaDiffer
import Derived.Test.YtpfopbkaddjjcaaTPut
import Derived.Test.YtpfopbkaddjjcaaNew
import Derived.Test.YtpfopbkaddjjcaaStored
namespace Go.Proofs.Ytpfopbkaddjjcaa
open Go.RowKit
set_option linter.unusedVariables false

def rt0 : List Blk := List.replicate 9 noBlk
def rt1 : List Blk := [⟨1, 0, [], [1, 2, 3, 4]⟩, ⟨1, 1, [0, 0, 1, 0], []⟩, ⟨1, 2, [0, 2, 0, 0], []⟩, noBlk, noBlk, noBlk, noBlk, noBlk, noBlk]
theorem rt_new : newR 9 = (rt0, 0) := by decide
theorem rt_put : tputR rt0 0 2 6 [1, 2, 3, 4] = (rt1, 3, 0) := by decide
theorem rt_get6 : checkT rt1 3 2 6 = 0 ∧ getR rt1 3 2 6 = [1, 2, 3, 4] := by decide
theorem rt_get5 : checkT rt1 3 2 5 = 0 ∧ getR rt1 3 2 5 = [] := by decide
theorem rt_diff : differR rt1 3 0 2 = ([6], 0) := by decide
theorem rt_lv : lvN 2 = (16, 0) := by decide

theorem rt0_wf : WfS rt0 := fun x hx => by
  rw [(List.mem_replicate.1 hx).2]
  exact sd0_wf noBlk (by simp [sd0])
theorem rt1_wf : WfS rt1 := by
  intro x hx
  simp [rt1] at hx
  rcases hx with rfl | rfl | rfl | rfl <;> constructor <;> (try decide) <;> simp [noBlk, I64, Byt] <;> omega

set_option maxRecDepth 100000 in
set_option maxHeartbeats 4000000 in
theorem rooted_any (w : World) : Calls Try.prog 52 #[] w fun e w' => e = .returned (.bool true) ∧ Below w.heap.size w w' := by
  go_enter Try.func52, Try.ntmps52
  go_wp2_with fail
  refine (new_any w 9).mono ?_
  rintro e w1 ⟨v, rfl, ho, hb1⟩
  rw [rt_new] at ho
  simp only [rt_new]
  obtain ⟨ao, cap, rfl, hcap, hs⟩ := ho.sto
  clear ho
  simp only [show rt0.length = 9 from rfl] at *
  have hsz := hb1.size
  go_wp2_with fail
  have hbA : Below w1.heap.size w1 ((w1.alloc (.cells #[.slice ao 9 cap] 40)).alloc (.cells #[.int .u8 1, .int .u8 2, .int .u8 3, .int .u8 4] 5)) := ((Below.refl _ _).alloc (Nat.le_refl _) _).alloc (by simp) _
  have pA : ((w1.alloc (.cells #[.slice ao 9 cap] 40)).alloc (.cells #[.int .u8 1, .int .u8 2, .int .u8 3, .int .u8 4] 5)).heap[w1.heap.size]? = some (.cells #[.slice ao 9 cap] 40 (0, 0)) := heap_alloc2_old _ _ _
  have rA : ((w1.alloc (.cells #[.slice ao 9 cap] 40)).alloc (.cells #[.int .u8 1, .int .u8 2, .int .u8 3, .int .u8 4] 5)).heap[w1.heap.size + 1]? = some (.cells #[.int .u8 1, .int .u8 2, .int .u8 3, .int .u8 4] 5 (0, 0)) := heap_alloc2_new _ _ _
  have hs := hs.mono hbA
  have hbw := below_step hb1 hbA
  generalize (w1.alloc (Obj.cells #[Value.slice ao 9 cap] 40)).alloc (Obj.cells #[Value.int .u8 1, Value.int .u8 2, Value.int .u8 3, Value.int .u8 4] 5) = W at *
  have lA := lt_heap pA
  refine (treePut_any W ao (some ⟨w1.heap.size + 1, 0, none⟩) 9 cap 4 4 rt0 0 2 6 [1, 2, 3, 4] rfl (by omega) hs rt0_wf hcap rfl (row_heap rA) ⟨Nat.le_refl _, fun h => by cases h⟩ (by simp [Byt]) (by omega)).mono ?_
  rintro e w2 ⟨v2, rfl, ho, hb2⟩
  rw [rt_put] at ho
  simp only [rt_put]
  have pB := (hb2.block _ lA).trans pA
  have cB := cell_of_one pB
  have fB := free_of_one pB
  have lB := lt_heap pB
  have ho := ho.box pB lA v2
  obtain ⟨ao2, cap2, rfl, hcap2, hs2⟩ := ho.sto
  clear ho hs rA
  simp only [show rt1.length = 9 from rfl] at *
  have pB' := one_setCell (u := .slice ao2 9 cap2) pB
  have dB := cell_of_one pB'
  have hbw := (below_step hbw hb2).setCell (p := ⟨w1.heap.size, 0, none⟩) hsz (.slice ao2 9 cap2)
  have dL := lt_heap pB'
  go_wp2_with fail
  generalize w2.setCell ⟨w1.heap.size, 0, none⟩ (Value.slice ao2 9 cap2) = W2 at *
  clear cB fB lB pB
  refine (treeGet_any W2 ao2 9 cap2 rt1 3 2 6 rfl (by omega) hs2 rt1_wf).mono ?_
  rw [rt_get6.1, rt_get6.2]
  rintro e w3 ⟨v3, rfl, hown3, hb3⟩
  obtain ⟨a3, c3, rfl, -, -, -, -⟩ := hown3.shape'
  simp only [show ([1, 2, 3, 4] : List Int).length = 4 from rfl] at *
  replace pB' := (hb3.block _ dL).trans pB'
  replace hs2 := hs2.mono hb3
  replace hbw := below_step hbw hb3
  replace dB := cell_of_one pB'
  replace dL := lt_heap pB'
  go_wp2_with fail
  refine (treeGet_any w3 ao2 9 cap2 rt1 3 2 5 rfl (by omega) hs2 rt1_wf).mono ?_
  rw [rt_get5.1, rt_get5.2]
  rintro e w4 ⟨v4, rfl, hown4, hb4⟩
  obtain ⟨a4, c4, rfl, -, -, -, -⟩ := hown4.shape'
  simp only [show ([] : List Int).length = 0 from rfl] at *
  replace pB' := (hb4.block _ dL).trans pB'
  replace hs2 := hs2.mono hb4
  replace hbw := below_step hbw hb4
  replace hown3 := hown3.mono hb4
  replace dB := cell_of_one pB'
  replace dL := lt_heap pB'
  go_wp2_with fail
  refine (differ_any w4 ao2 9 cap2 rt1 3 0 2 rfl (by omega) hs2 rt1_wf).mono ?_
  rw [rt_diff]
  rintro e w5 ⟨v5, rfl, hown5, hb5⟩
  obtain ⟨a5, c5, rfl, -, -, -, -⟩ := hown5.shape'
  simp only [show ([6] : List Int).length = 1 from rfl] at *
  replace hbw := below_step hbw hb5
  replace hown3 := hown3.mono hb5
  clear pB' hs2 dB dL hown4
  go_wp2_with fail
  refine (leaves_any w5 2).mono ?_
  rw [rt_lv]
  rintro e w6 ⟨rfl, rfl⟩
  go_wp2_with fail
  have hbB : Below w6.heap.size w6 (w6.alloc (.cells #[.int .u8 1, .int .u8 2, .int .u8 3, .int .u8 4] 5)) := (Below.refl _ _).alloc (Nat.le_refl _) _
  have rB : (w6.alloc (.cells #[.int .u8 1, .int .u8 2, .int .u8 3, .int .u8 4] 5)).heap[w6.heap.size]? = some (.cells #[.int .u8 1, .int .u8 2, .int .u8 3, .int .u8 4] 5 (0, 0)) := heap_alloc_new _ _
  have o3 := hown3.mono hbB
  have o5 := hown5.mono hbB
  replace hbw := below_step hbw hbB
  generalize w6.alloc (Obj.cells #[Value.int .u8 1, Value.int .u8 2, Value.int .u8 3, Value.int .u8 4] 5) = W7 at *
  obtain ⟨qo, qc, hqv, _, _, hqr, _⟩ := o3.shape'
  simp only [Value.slice.injEq] at hqv
  obtain ⟨rfl, -, -⟩ := hqv
  refine (bytes_equal_n a3 (some ⟨w6.heap.size, 0, none⟩) 4 4 c3 4 [1, 2, 3, 4] [1, 2, 3, 4] _ rfl rfl hqr (row_heap rB) (by simp [Byt]) (by simp [Byt])).mono ?_
  simp only [show (([1, 2, 3, 4] : List Int) == [1, 2, 3, 4]) = true from rfl]
  rintro e w8 ⟨rfl, rfl⟩
  go_wp2_with fail
  have hbC : Below W7.heap.size W7 (W7.alloc (.cells #[.int .i64 6] 3)) := (Below.refl _ _).alloc (Nat.le_refl _) _
  have rC : (W7.alloc (.cells #[.int .i64 6] 3)).heap[W7.heap.size]? = some (.cells #[.int .i64 6] 3 (0, 0)) := heap_alloc_new _ _
  have o6 := o5.mono hbC
  replace hbw := below_step hbw hbC
  obtain ⟨qo, qc, hqv, _, _, hqr5, _⟩ := o6.shape'
  simp only [Value.slice.injEq] at hqv
  obtain ⟨rfl, -, -⟩ := hqv
  refine (slices_equal_int a5 _ 1 1 c5 1 [6] [6] _ rfl rfl hqr5 (row_heap rC) (by omega)).mono ?_
  rw [show (([6] : List Int) == [6]) = true from rfl]
  rintro e w9 ⟨rfl, hb9⟩
  have hbw := below_step hbw hb9
  go_wp2
  go_ret
  exact ⟨rfl, hbw⟩
end Go.Proofs.Ytpfopbkaddjjcaa
