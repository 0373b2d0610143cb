/- rookerylaw.stored: a closed fact. -/
import Derived.Test.YtpfopbkaddjjcaaNew
namespace Go.Proofs.Ytpfopbkaddjjcaa
open Go.RowKit
set_option linter.unusedVariables false

def sd0 : List Blk := [noBlk, noBlk, noBlk]
def sd1 : List Blk := [⟨1, 0, [], [1, 2, 3, 4]⟩, noBlk, noBlk]
def sd2 : List Blk := [⟨3, 0, [], [1, 2, 3, 4]⟩, ⟨1, 1, [0, 1, 0, 1], []⟩, noBlk]
def sd3 : List Blk := [⟨2, 0, [], [1, 2, 3, 4]⟩, ⟨1, 1, [0, 1, 0, 1], []⟩, noBlk]
theorem sd_new : newR 3 = (sd0, 0) := by decide
theorem sd_make1 : makeR sd0 0 [] [1, 2, 3, 4] = (sd1, 1, 0) := by decide
theorem sd_make2 : makeR sd1 1 [0, 1, 0, 1] [] = (sd2, 2, 0) := by decide
theorem sd_out : checkE sd2 = 0 ∧ outL sd2 = [1, 1, 0] := by decide
theorem sd_drop1 : dropR sd2 1 = (sd3, 0) := by decide
theorem sd_drop2 : dropR sd3 2 = (sd0, 0) := by decide
theorem sd_used : checkE sd0 = 0 ∧ usedN sd0 = 0 := by decide

theorem sd0_wf : WfS sd0 := by
  intro x hx
  simp [sd0] at hx
  rcases hx with rfl <;> constructor <;> (try decide) <;> simp [noBlk, I64, Byt] <;> omega
theorem sd1_wf : WfS sd1 := by
  intro x hx
  simp [sd1] at hx
  rcases hx with rfl | rfl <;> constructor <;> (try decide) <;> simp [noBlk, I64, Byt] <;> omega
theorem sd2_wf : WfS sd2 := by
  intro x hx
  simp [sd2] at hx
  rcases hx with rfl | rfl | rfl <;> constructor <;> (try decide) <;> simp [noBlk, I64, Byt] <;> omega
theorem sd3_wf : WfS sd3 := by
  intro x hx
  simp [sd3] at hx
  rcases hx with rfl | rfl | rfl <;> constructor <;> (try decide) <;> simp [noBlk, I64, Byt] <;> omega

theorem row_heap {w : World} {g : Nat} {k : IntKind} {xs : List Int} {t : TypeId} (h : w.heap[g]? = some (.cells (xs.map (Value.int k)).toArray t (0, 0))) : Row k w (some ⟨g, 0, none⟩) xs :=
  .inr ⟨g, 0, rfl, fun i hi => by rw [Nat.zero_add, cell_of_block h]; simp [hi]⟩

set_option maxRecDepth 100000 in
set_option maxHeartbeats 4000000 in
theorem stored_any (w : World) : Calls Try.prog 28 #[] w fun e w' => e = .returned (.bool true) ∧ Below w.heap.size w w' := by
  go_enter Try.func28, Try.ntmps28
  go_wp2_with fail
  refine (new_any w 3).mono ?_
  rintro e w1 ⟨v, rfl, ho, hb1⟩
  rw [sd_new] at ho
  simp only [sd_new]
  obtain ⟨ao, cap, rfl, hcap, hs⟩ := ho.sto
  clear ho
  simp only [show sd0.length = 3 from rfl] at *
  have hsz := hb1.size
  go_wp2_with fail
  have hbA : Below w1.heap.size w1 ((w1.alloc (.cells #[.slice ao 3 cap] 40)).alloc (.cells #[.int .u8 1, .int .u8 2, .int .u8 3, .int .u8 4] 5)) := ((Below.refl _ _).alloc (Nat.le_refl _) _).alloc (by simp) _
  have pA : ((w1.alloc (.cells #[.slice ao 3 cap] 40)).alloc (.cells #[.int .u8 1, .int .u8 2, .int .u8 3, .int .u8 4] 5)).heap[w1.heap.size]? = some (.cells #[.slice ao 3 cap] 40 (0, 0)) := heap_alloc2_old _ _ _
  have rA : ((w1.alloc (.cells #[.slice ao 3 cap] 40)).alloc (.cells #[.int .u8 1, .int .u8 2, .int .u8 3, .int .u8 4] 5)).heap[w1.heap.size + 1]? = some (.cells #[.int .u8 1, .int .u8 2, .int .u8 3, .int .u8 4] 5 (0, 0)) := heap_alloc2_new _ _ _
  have hs := hs.mono hbA
  have hbw := below_step hb1 hbA
  generalize (w1.alloc (Obj.cells #[Value.slice ao 3 cap] 40)).alloc (Obj.cells #[Value.int .u8 1, Value.int .u8 2, Value.int .u8 3, Value.int .u8 4] 5) = W at *
  have lA := lt_heap pA
  refine (make_any W ao none (some ⟨w1.heap.size + 1, 0, none⟩) 3 cap 0 0 4 4 sd0 0 0 [] [1, 2, 3, 4] rfl (by omega) hs sd0_wf hcap rfl rfl (.inl rfl) (row_heap rA) ⟨Nat.le_refl _, fun _ => rfl⟩ ⟨Nat.le_refl _, fun h => by cases h⟩ (by simp) (by omega) (by omega)).mono ?_
  rintro e w2 ⟨v2, rfl, ho, hb2⟩
  rw [sd_make1] at ho
  simp only [sd_make1]
  have pB := (hb2.block _ lA).trans pA
  have cB := cell_of_one pB
  have fB := free_of_one pB
  have lB := lt_heap pB
  have ho := ho.box pB lA v2
  obtain ⟨ao2, cap2, rfl, hcap2, hs2⟩ := ho.sto
  clear ho hs rA
  simp only [show sd1.length = 3 from rfl] at *
  have pB' := one_setCell (u := .slice ao2 3 cap2) pB
  have dB := cell_of_one pB'
  have hbw := (below_step hbw hb2).setCell (p := ⟨w1.heap.size, 0, none⟩) hsz (.slice ao2 3 cap2)
  go_wp2_with fail
  have hbA : Below (w2.setCell ⟨w1.heap.size, 0, none⟩ (.slice ao2 3 cap2)).heap.size (w2.setCell ⟨w1.heap.size, 0, none⟩ (.slice ao2 3 cap2)) ((w2.setCell ⟨w1.heap.size, 0, none⟩ (.slice ao2 3 cap2)).alloc (.cells #[.int .i64 0, .int .i64 1, .int .i64 0, .int .i64 1] 3)) := (Below.refl _ _).alloc (Nat.le_refl _) _
  have rA : ((w2.setCell ⟨w1.heap.size, 0, none⟩ (.slice ao2 3 cap2)).alloc (.cells #[.int .i64 0, .int .i64 1, .int .i64 0, .int .i64 1] 3)).heap[w2.heap.size]? = some (.cells #[.int .i64 0, .int .i64 1, .int .i64 0, .int .i64 1] 3 (0, 0)) := by
    have := heap_alloc_new (w2.setCell ⟨w1.heap.size, 0, none⟩ (.slice ao2 3 cap2)) (.cells #[.int .i64 0, .int .i64 1, .int .i64 0, .int .i64 1] 3)
    simpa using this
  have pA := (hbA.block _ (lt_heap pB')).trans pB'
  have hs := hs2.mono hbA
  have hbw := below_step hbw hbA
  generalize (w2.setCell ⟨w1.heap.size, 0, none⟩ (Value.slice ao2 3 cap2)).alloc (Obj.cells #[Value.int .i64 0, Value.int .i64 1, Value.int .i64 0, Value.int .i64 1] 3) = W2 at *
  have lA := lt_heap pA
  refine (make_any W2 ao2 (some ⟨w2.heap.size, 0, none⟩) none 3 cap2 4 4 0 0 sd1 0 1 [0, 1, 0, 1] [] rfl (by omega) hs sd1_wf hcap2 rfl rfl (row_heap rA) (.inl rfl) ⟨Nat.le_refl _, fun h => by cases h⟩ ⟨Nat.le_refl _, fun _ => rfl⟩ (by simp [I64]) (by omega) (by omega)).mono ?_
  rintro e w3 ⟨v3, rfl, ho, hb3⟩
  rw [sd_make2] at ho
  simp only [sd_make2]
  have pB := (hb3.block _ lA).trans pA
  have cB := cell_of_one pB
  have fB := free_of_one pB
  have lB := lt_heap pB
  have ho := ho.box pB lA v3
  obtain ⟨ao3, cap3, rfl, hcap3, hs3⟩ := ho.sto
  clear ho hs hs2 rA
  simp only [show sd2.length = 3 from rfl] at *
  have pB' := one_setCell (u := .slice ao3 3 cap3) pB
  have dB := cell_of_one pB'
  have hbw := (below_step hbw hb3).setCell (p := ⟨w1.heap.size, 0, none⟩) hsz (.slice ao3 3 cap3)
  go_wp2_with fail
  generalize w3.setCell ⟨w1.heap.size, 0, none⟩ (Value.slice ao3 3 cap3) = W3 at *
  have l3 := lt_heap pB'
  refine (outside_ok _ _ 3 _ sd2 rfl hs3 sd2_wf sd_out.1).mono ?_
  rintro e w4 ⟨oo, rfl, hown, hb4⟩
  rw [sd_out.2] at hown
  have pA := (hb4.block _ (lt_heap pB')).trans pB'
  have cA := cell_of_one pA
  have lA := lt_heap pA
  have hs := hs3.mono hb4
  have hbw := below_step hbw hb4
  clear cB fB lB dB
  go_wp2_with fail
  refine (drop_any _ ao3 3 cap3 sd2 1 rfl (by omega) hs sd2_wf hcap3).mono ?_
  rintro e w5 ⟨v5, rfl, ho, hb5⟩
  rw [sd_drop1] at ho
  simp only [sd_drop1]
  have pB := (hb5.block _ lA).trans pA
  have cB := cell_of_one pB
  have fB := free_of_one pB
  have lB := lt_heap pB
  have ho := ho.box pB lA v5
  obtain ⟨ao5, cap5, rfl, hcap5, hs5⟩ := ho.sto
  have hown5 : Own .i64 3 W3.heap.size (w5.setCell ⟨w1.heap.size, 0, none⟩ (.slice ao5 sd3.length cap5)) (.slice oo 3 3) [1, 1, 0] := ownsRow_setCell_below (a := ⟨w1.heap.size, 0, none⟩) (hown.mono hb5) l3 _
  clear ho hs hs3
  simp only [show sd3.length = 3 from rfl] at *
  have pB' := one_setCell (u := .slice ao5 3 cap5) pB
  have dB := cell_of_one pB'
  have hbw := (below_step hbw hb5).setCell (p := ⟨w1.heap.size, 0, none⟩) hsz (.slice ao5 3 cap5)
  go_wp2_with fail
  refine (drop_any _ ao5 3 cap5 sd3 2 rfl (by omega) hs5 sd3_wf hcap5).mono ?_
  rintro e w6 ⟨v6, rfl, ho, hb6⟩
  rw [sd_drop2] at ho
  simp only [sd_drop2]
  have lA := lt_heap pB'
  have pB := (hb6.block _ lA).trans pB'
  have cB := cell_of_one pB
  have fB := free_of_one pB
  have lB := lt_heap pB
  have ho := ho.box pB lA v6
  obtain ⟨ao6, cap6, rfl, hcap6, hs6⟩ := ho.sto
  clear ho hs5 dB
  simp only [show sd0.length = 3 from rfl] at *
  have hown6 : Own .i64 3 W3.heap.size (w6.setCell ⟨w1.heap.size, 0, none⟩ (.slice ao6 3 cap6)) (.slice oo 3 3) [1, 1, 0] := ownsRow_setCell_below (a := ⟨w1.heap.size, 0, none⟩) (Own.mono hown5 hb6) l3 _
  have pB' := one_setCell (u := .slice ao6 3 cap6) pB
  have dB := cell_of_one pB'
  have hbw := (below_step hbw hb6).setCell (p := ⟨w1.heap.size, 0, none⟩) hsz (.slice ao6 3 cap6)
  go_wp2_with fail
  refine (used_ok _ _ _ _ sd0 rfl hs6 sd0_wf sd_used.1).mono ?_
  rintro e w7 ⟨rfl, hb7⟩
  rw [sd_used.2]
  have hbw := below_step hbw hb7
  go_wp2_with fail
  have hbA : Below w7.heap.size w7 (w7.alloc (.cells #[.int .i64 1, .int .i64 1, .int .i64 0] 3)) := (Below.refl _ _).alloc (Nat.le_refl _) _
  have rA : (w7.alloc (.cells #[.int .i64 1, .int .i64 1, .int .i64 0] 3)).heap[w7.heap.size]? = some (.cells #[.int .i64 1, .int .i64 1, .int .i64 0] 3 (0, 0)) := heap_alloc_new _ _
  have hown8 := Own.mono (Own.mono hown6 hb7) hbA
  have hbw := below_step hbw hbA
  obtain ⟨qo, qc, hqv, _, _, hqr, _⟩ := hown8.shape'
  simp only [Value.slice.injEq] at hqv
  obtain ⟨rfl, _, _⟩ := hqv
  refine (slices_equal_int oo _ 3 3 3 3 [1, 1, 0] [1, 1, 0] _ rfl rfl hqr (row_heap rA) (by omega)).mono ?_
  rintro e w8 ⟨rfl, hb8⟩
  have hbw := below_step hbw hb8
  simp only [show (([1, 1, 0] : List Int) == [1, 1, 0]) = true from rfl]
  go_wp2
  go_ret
  exact ⟨rfl, hbw⟩
end Go.Proofs.Ytpfopbkaddjjcaa
