/- rookerylaw.filed: a closed fact. -/
import Derived.Test.YtodogcokljmkmaaFileFacts
import Derived.Laws.BytesArg
import Derived.Lib.SlBytesConst
namespace Go.Proofs.Ytodogcokljmkmaa
open Go.RowKit
set_option linter.unusedVariables false

def fd0 : List Blk := List.replicate 20 noBlk
def fd1 : List Blk := [⟨1, 0, [], [189, 150, 116, 25]⟩, noBlk, noBlk, noBlk, ⟨1, 0, [], [32, 112, 235, 225]⟩, ⟨1, 1, [1, 5, 0, 0], []⟩, ⟨1, 2, [6, 0, 0, 0], []⟩, ⟨1, 3, [7, 0, 0, 0], []⟩, noBlk, noBlk, noBlk, noBlk, noBlk, noBlk, noBlk, noBlk, noBlk, noBlk, noBlk, noBlk]
def fd2 : List Blk := [⟨2, 0, [], [189, 150, 116, 25]⟩, ⟨1, 0, [], [53, 233, 235, 225]⟩, ⟨1, 1, [1, 2, 0, 0], []⟩, ⟨1, 2, [3, 0, 0, 0], []⟩, ⟨1, 0, [], [32, 112, 235, 225]⟩, ⟨1, 1, [1, 5, 0, 0], []⟩, ⟨1, 2, [6, 0, 0, 0], []⟩, ⟨1, 3, [7, 0, 0, 0], []⟩, ⟨1, 3, [4, 0, 0, 0], []⟩, noBlk, noBlk, noBlk, noBlk, noBlk, noBlk, noBlk, noBlk, noBlk, noBlk, noBlk]
theorem fd_new : newR 20 = (fd0, 0) := by decide
set_option maxRecDepth 100000 in
theorem fd_w1 : writeR fd0 7 0 0 2 [97, 98, 99] = (fd1, (8, 5), 0) := by decide +kernel
set_option maxRecDepth 100000 in
theorem fd_w2 : writeR fd1 7 8 5 4 [120, 121] = (fd2, (9, 6), 0) := by decide +kernel
set_option maxRecDepth 100000 in
theorem fd_r1 : readR fd2 7 9 6 0 99 = ([0, 0, 97, 98, 120, 121], 0) := by decide +kernel
set_option maxRecDepth 100000 in
theorem fd_r2 : readR fd2 7 8 5 1 3 = ([0, 97, 98], 0) := by decide +kernel
set_option maxRecDepth 100000 in
theorem fd_c : (cutR fd2 7 9 6 0).2 = ((0, 0), 0) := by decide +kernel
theorem fd1_chk : checkE fd1 = 0 := by decide +kernel
theorem fd2_chk : checkE fd2 = 0 := by decide +kernel
theorem fd0_wf : WfS fd0 := fun x hx => by
  rw [(List.mem_replicate.1 hx).2]
  exact sd0_wf noBlk (by simp [sd0])
theorem fd1_wf : WfS fd1 := by
  intro x hx
  simp [fd1] at hx
  rcases hx with rfl | rfl | rfl | rfl | rfl | rfl | rfl <;> constructor <;> (try decide) <;> simp [noBlk, I64, Byt] <;> omega
theorem fd2_wf : WfS fd2 := by
  intro x hx
  simp [fd2] at hx
  rcases hx with rfl | rfl | rfl | rfl | rfl | rfl | rfl | rfl | rfl | rfl <;> constructor <;> (try decide) <;> simp [noBlk, I64, Byt] <;> omega

theorem row_marked {k : IntKind} {w : World} {g : Nat} {xs : List Int} {t : TypeId} {fr : Nat × Nat} (h : w.heap[g]? = some (.cells (icells k xs) t fr)) : Row k w (some ⟨g, 0, none⟩) xs :=
  .inr ⟨g, 0, rfl, fun i hi => by
    have : w.cell? ⟨g, 0 + i, none⟩ = (icells k xs)[0 + i]? := by simp [World.cell?, h]
    rw [this, Nat.zero_add, icells_at k xs i hi]⟩
theorem OwnSto.row {w : World} {base n cap : Nat} {ao : Option Addr} {s : List Blk} (h : OwnSto w base (.slice ao n cap) s) : StoRow w ao s := by
  obtain ⟨a, c, hv, -, hs⟩ := h.sto
  simp only [Value.slice.injEq] at hv
  rw [hv.1]
  exact hs
theorem string_of_row (w : World) (b o n c : Nat) (xs : List Int) (hn : xs.length = n) (h : Row .u8 w (some ⟨b, o, none⟩) xs) : (convert 32 9 (.slice (some ⟨b, o, none⟩) n c)).run Try.prog w = .ok (.string (strOfNums xs)) w := by
  refine run_convert_bytes_arg w 32 5 Try.underlying32 Try.underlying5 b o n c xs hn (fun i hi => ?_) 9 Try.underlying9
  obtain ⟨g, q, e, hc⟩ := h.at i (by omega)
  simp only [Option.some.injEq, Addr.mk.injEq, and_true] at e
  obtain ⟨rfl, rfl⟩ := e
  rw [hc i (by omega), List.getD_eq_getElem?_getD, List.getElem?_eq_getElem (by omega)]
  rfl
/-- the bytes of a string, laid by the program -/
theorem convert_lit (w : World) (C : Array Value) (n c g : Nat) (hg : g = w.heap.size) :
    (convert 32 32 (.slice (some ⟨g, 0, none⟩) n c)).run Try.prog (w.alloc (.cells C 5)) = .ok (.slice (some ⟨g, 0, none⟩) n c) (w.alloc (.cells C 5 (C.size, C.size + 1))) := by
  subst hg
  exact Lib.run_convert_bytes_const w 32 5 C n c Try.underlying32 Try.underlying5

set_option maxRecDepth 100000 in
set_option maxHeartbeats 8000000 in
theorem filed_any (w : World) : Calls Try.prog 13 #[] w fun e w' => e = .returned (.bool true) ∧ Below w.heap.size w w' := by
  go_enter Try.func13, Try.ntmps13
  go_wp2_with fail
  refine (new_any w 20).mono ?_
  rintro e w1 ⟨v, rfl, ho, hb1⟩
  rw [fd_new] at ho
  simp only [fd_new]
  obtain ⟨ao, cap, rfl, hcap, hs⟩ := ho.sto
  clear ho
  simp only [show fd0.length = 20 from rfl] at *
  have hsz := hb1.size
  have kc := convert_lit (w1.alloc (.cells #[.slice ao 20 cap] 24)) #[.int .u8 97, .int .u8 98, .int .u8 99] 3 3 (w1.heap.size + 1) (by simp)
  have hbA : Below w1.heap.size w1 ((w1.alloc (.cells #[.slice ao 20 cap] 24)).alloc (.cells #[.int .u8 97, .int .u8 98, .int .u8 99] 5 (3, 4))) := ((Below.refl _ _).alloc (Nat.le_refl _) _).alloc (by simp) _
  have pA : ((w1.alloc (.cells #[.slice ao 20 cap] 24)).alloc (.cells #[.int .u8 97, .int .u8 98, .int .u8 99] 5 (3, 4))).heap[w1.heap.size]? = some (.cells #[.slice ao 20 cap] 24 (0, 0)) := heap_alloc2_old _ _ _
  have rA : ((w1.alloc (.cells #[.slice ao 20 cap] 24)).alloc (.cells #[.int .u8 97, .int .u8 98, .int .u8 99] 5 (3, 4))).heap[w1.heap.size + 1]? = some (.cells #[.int .u8 97, .int .u8 98, .int .u8 99] 5 (3, 4)) := heap_alloc2_new _ _ _
  simp only [List.size_toArray, List.length_cons, List.length_nil] at kc
  go_wp2_with fail
  replace hs := hs.mono hbA
  have hbw := below_step hb1 hbA
  clear kc
  generalize (w1.alloc (Obj.cells #[Value.slice ao 20 cap] 24)).alloc (Obj.cells #[Value.int .u8 97, Value.int .u8 98, Value.int .u8 99] 5 (3, 4)) = W at *
  have lA := lt_heap pA
  refine (write_any W ao (some ⟨w1.heap.size + 1, 0, none⟩) 20 cap 3 3 fd0 7 0 0 2 [97, 98, 99] rfl (by omega) hs fd0_wf (by unfold I64; omega) hcap rfl (row_marked rA) ⟨Nat.le_refl _, fun h => by cases h⟩ (by simp [Byt]) (by omega)).mono ?_
  rw [fd_w1]
  rintro e w2 ⟨v2, rfl, ho2, hb2⟩
  simp only at ho2 ⊢
  obtain ⟨ao2, cap2, rfl, hcap2, -⟩ := ho2.sto
  simp only [show fd1.length = 20 from rfl] at *
  have pB := (hb2.block _ lA).trans pA
  have hbw2 := below_step hbw hb2
  have lB := lt_heap pB
  have lA0 := lA
  clear hs rA pA lA hbA
  have cB := cell_of_one pB
  have fB := free_of_one pB
  have hs2w := hb2.size
  -- the store in its box, the file in a new block
  have qB := one_setCell (u := .slice ao2 20 cap2) pB
  have hsB := (ho2.box pB lA0 (.slice ao2 20 cap2)).row
  have hzB : (w2.setCell ⟨w1.heap.size, 0, none⟩ (.slice ao2 20 cap2)).heap.size = w2.heap.size := by simp
  have hbB := hbw2.setCell (p := ⟨w1.heap.size, 0, none⟩) hsz (.slice ao2 20 cap2)
  have hbY : Below w2.heap.size (w2.setCell ⟨w1.heap.size, 0, none⟩ (.slice ao2 20 cap2)) ((w2.setCell ⟨w1.heap.size, 0, none⟩ (.slice ao2 20 cap2)).alloc (.cells #[.int .i64 8, .int .i64 5] 26)) := (Below.refl _ _).alloc (by simp) _
  have pY2 := (hbY.block _ (by omega)).trans qB
  have pY3 : ((w2.setCell ⟨w1.heap.size, 0, none⟩ (.slice ao2 20 cap2)).alloc (.cells #[.int .i64 8, .int .i64 5] 26)).heap[w2.heap.size]? = some (.cells #[.int .i64 8, .int .i64 5] 26 (0, 0)) := by
    have h := heap_alloc_new (w2.setCell ⟨w1.heap.size, 0, none⟩ (.slice ao2 20 cap2)) (.cells #[.int .i64 8, .int .i64 5] 26)
    rw [hzB] at h
    exact h
  have hzY : ((w2.setCell ⟨w1.heap.size, 0, none⟩ (.slice ao2 20 cap2)).alloc (.cells #[.int .i64 8, .int .i64 5] 26)).heap.size = w2.heap.size + 1 := by simp
  have kc := convert_lit ((w2.setCell ⟨w1.heap.size, 0, none⟩ (.slice ao2 20 cap2)).alloc (.cells #[.int .i64 8, .int .i64 5] 26)) #[.int .u8 120, .int .u8 121] 2 2 (w2.heap.size + 1) (by simp)
  have cY2 := cell_of_one pY2
  have cY30 := cell_of_block pY3 0
  have cY31 := cell_of_block pY3 1
  simp at cY30 cY31
  have lY2 := lt_heap pY2
  have lY3 := lt_heap pY3
  simp only [List.size_toArray, List.length_cons, List.length_nil] at kc
  go_wp2_with fail
  clear kc cY2 cY30 cY31 lY2 cB fB lB qB
  have hsY := hsB.mono (w' := (w2.setCell ⟨w1.heap.size, 0, none⟩ (.slice ao2 20 cap2)).alloc (.cells #[.int .i64 8, .int .i64 5] 26)) ((Below.refl _ _).alloc (Nat.le_refl _) _)
  have hbY3 := hbB.trans (hbY.mono hbw2.size)
  generalize (w2.setCell ⟨w1.heap.size, 0, none⟩ (.slice ao2 20 cap2)).alloc (.cells #[.int .i64 8, .int .i64 5] 26) = Y at *
  have hbZ : Below Y.heap.size Y (Y.alloc (.cells #[.int .u8 120, .int .u8 121] 5 (2, 3))) := (Below.refl _ _).alloc (Nat.le_refl _) _
  have rZ := heap_alloc_new Y (.cells #[.int .u8 120, .int .u8 121] 5 (2, 3))
  rw [hzY] at rZ
  have pZ3 := (hbZ.block _ lY3).trans pY3
  have hsZ := hsY.mono hbZ
  have hbwZ := below_step hbY3 hbZ
  clear hsB hzB hbB hbY hsY pY2 pY3 ho2 hbw2 pB
  generalize Y.alloc (.cells #[.int .u8 120, .int .u8 121] 5 (2, 3)) = Z at *
  refine (write_any Z ao2 (some ⟨w2.heap.size + 1, 0, none⟩) 20 cap2 2 2 fd1 7 8 5 4 [120, 121] rfl (by omega) hsZ fd1_wf (by unfold I64; omega) hcap2 rfl (row_marked rZ) ⟨Nat.le_refl _, fun h => by cases h⟩ (by simp [Byt]) (by omega)).mono ?_
  rw [fd_w2]
  rintro e w3 ⟨v3, rfl, ho3, hb3⟩
  simp only at ho3 ⊢
  obtain ⟨ao3, cap3, rfl, hcap3, hs3⟩ := ho3.sto
  simp only [show fd2.length = 20 from rfl] at *
  have hbw3 := below_step hbwZ hb3
  have pZ3 := (hb3.block _ (lt_heap pZ3)).trans pZ3
  clear hsZ rZ ho3 hbZ hb3
  have hbP : Below w3.heap.size w3 ((w3.alloc (.cells #[.slice ao3 20 cap3] 24)).alloc (.cells #[.int .i64 9, .int .i64 6] 26)) := ((Below.refl _ _).alloc (Nat.le_refl _) _).alloc (by simp) _
  have pP5 : ((w3.alloc (.cells #[.slice ao3 20 cap3] 24)).alloc (.cells #[.int .i64 9, .int .i64 6] 26)).heap[w3.heap.size]? = some (.cells #[.slice ao3 20 cap3] 24 (0, 0)) := heap_alloc2_old _ _ _
  have pP6 : ((w3.alloc (.cells #[.slice ao3 20 cap3] 24)).alloc (.cells #[.int .i64 9, .int .i64 6] 26)).heap[w3.heap.size + 1]? = some (.cells #[.int .i64 9, .int .i64 6] 26 (0, 0)) := heap_alloc2_new _ _ _
  have pP3 := (hbP.block _ (lt_heap pZ3)).trans pZ3
  have hsP := hs3.mono hbP
  have hbwP := below_step hbw3 hbP
  go_wp2_with fail
  generalize (w3.alloc (.cells #[.slice ao3 20 cap3] 24)).alloc (.cells #[.int .i64 9, .int .i64 6] 26) = P at *
  clear hs3 hbP pZ3
  have lP5 := lt_heap pP5
  have lP6 := lt_heap pP6
  have lP3 := lt_heap pP3
  refine (read_any P ao3 20 cap3 fd2 7 9 6 0 99 rfl (by omega) hsP fd2_wf (by unfold I64; omega) hcap3).mono ?_
  rw [fd_r1]
  rintro e w4 ⟨ra, rn, rc, rfl, hrn, hrr, hrc, hb4⟩
  obtain rfl : rn = 6 := by rw [← hrn]; rfl
  have hbw4 := below_step hbwP hb4
  replace pP5 := (hb4.block _ lP5).trans pP5
  replace pP6 := (hb4.block _ lP6).trans pP6
  replace pP3 := (hb4.block _ lP3).trans pP3
  replace hsP := hsP.mono hb4
  replace lP5 := lt_heap pP5
  replace lP6 := lt_heap pP6
  replace lP3 := lt_heap pP3
  obtain ⟨rb, ro, rfl, -⟩ := hrr.at 0 (by simp)
  have c5 := cell_of_one pP5
  have c30 := cell_of_block pP3 0
  have c31 := cell_of_block pP3 1
  simp at c30 c31
  clear hrn hrc
  go_wp2_with fail
  refine (read_any w4 ao3 20 cap3 fd2 7 8 5 1 3 rfl (by omega) hsP fd2_wf (by unfold I64; omega) hcap3).mono ?_
  rw [fd_r2]
  rintro e w5 ⟨sa, sn, sc, rfl, hsn, hsr, hsc, hb5⟩
  obtain rfl : sn = 3 := by rw [← hsn]; rfl
  have hbw5 := below_step hbw4 hb5
  replace pP5 := (hb5.block _ lP5).trans pP5
  replace pP6 := (hb5.block _ lP6).trans pP6
  replace hsP := hsP.mono hb5
  replace hrr := hrr.mono hb5
  obtain ⟨tb, to_, rfl, -⟩ := hsr.at 0 (by simp)
  clear c5 c30 c31 hsn hsc lP5 lP6 lP3 pP3
  have c5 := cell_of_one pP5
  have c60 := cell_of_block pP6 0
  have c61 := cell_of_block pP6 1
  simp at c60 c61
  have lP5 := lt_heap pP5
  have lP6 := lt_heap pP6
  go_wp2_with fail
  have hfc := fd_c
  have hCU := cut_any w5 ao3 20 cap3 fd2 7 9 6 0 rfl (by omega) hsP fd2_wf (by unfold I64; omega) hcap3 (by unfold I64; omega)
  generalize cutR fd2 7 9 6 0 = RC at *
  obtain ⟨cs, cf, ce⟩ := RC
  simp only [Prod.mk.injEq] at hfc
  obtain ⟨rfl, rfl⟩ := hfc
  refine hCU.mono ?_
  rintro e w6 ⟨v6, rfl, ho6, hb6⟩
  simp only at ho6 ⊢
  obtain ⟨ao6, cap6, rfl, -, -⟩ := ho6.sto
  generalize cs.length = n6 at *
  have hbw6 := below_step hbw5 hb6
  have hbF : Below w6.heap.size w6 ((w6.alloc (.cells #[.slice ao6 n6 cap6] 24)).alloc (.cells #[.int .i64 0, .int .i64 0] 26)) := ((Below.refl _ _).alloc (Nat.le_refl _) _).alloc (by simp) _
  have hbwF := below_step hbw6 hbF
  have hrF := (hrr.mono hb6).mono hbF
  have hsF := (hsr.mono hb6).mono hbF
  have pF : ((w6.alloc (.cells #[.slice ao6 n6 cap6] 24)).alloc (.cells #[.int .i64 0, .int .i64 0] 26)).heap[w6.heap.size + 1]? = some (.cells #[.int .i64 0, .int .i64 0] 26 (0, 0)) := heap_alloc2_new _ _ _
  have cF0 := cell_of_block pF 0
  have cF1 := cell_of_block pF 1
  simp at cF0 cF1
  have lF := lt_heap pF
  clear ho6 hCU hrr hsr hsP
  have k1 := string_of_row _ rb ro 6 rc [0, 0, 97, 98, 120, 121] rfl hrF
  have k2 := string_of_row _ tb to_ 3 sc [0, 97, 98] rfl hsF
  clear hrF hsF
  have e1 : strOfNums [0, 0, 97, 98, 120, 121] = { data := #[0, 0, 97, 98, 120, 121] } := by decide
  have e2 : strOfNums [0, 97, 98] = { data := #[0, 97, 98] } := by decide
  rw [e1] at k1
  rw [e2] at k2
  clear e1 e2
  go_wp2_with fail
  go_ret
  exact ⟨rfl, hbwF⟩
end Go.Proofs.Ytodogcokljmkmaa
