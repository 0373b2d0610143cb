/- The closed fact of the images. -/
import Derived.Test.YtfmgdjgedhnmeaaPoolNew
namespace Go.Proofs.Ytfmgdjgedhnmeaa
open Go.RowKit
set_option linter.unusedVariables false
set_option linter.unusedSimpArgs false

def imP : PoolV := ⟨List.replicate 91 noBlk, [⟨3, 1, []⟩]⟩
theorem im_new : newPool 91 [3] [1] = (imP, 0) := by kernel_rfl
theorem im_ok : poolE imP = 0 := by kernel_rfl
theorem im_len : (imageL imP).length = 738 := by kernel_rfl
theorem im_head : (imageL imP).take 3 = [0, 91, 0] := by kernel_rfl
theorem im_tail : (imageL imP).drop 730 = [0, 1, 0, 3, 0, 1, 0, 0] := by kernel_rfl
theorem im_wf : WfS imP.s := (newR_wf 91).1
theorem im_read : readI (imageL imP) = (imP, 0) := write_back im_wf im_ok
theorem im_same : sameP imP imP = true := by
  unfold sameP
  rw [im_ok]
  simp
theorem im_out : outI imP = imageL imP := by unfold outI; rw [im_ok]; rfl
theorem im_byt : Byt (imageL imP) := by
  have h : ((imageL imP).all fun x => decide (0 ≤ x) && decide (x ≤ 255)) = true := by kernel_rfl
  intro x hx
  have := List.all_eq_true.mp h x hx
  simp at this
  exact this

theorem im_b3 : Byt [0, 91, 0] := by intro x hx; simp only [List.mem_cons, List.not_mem_nil, or_false] at hx; omega
theorem im_b8 : Byt [0, 1, 0, 3, 0, 1, 0, 0] := by intro x hx; simp only [List.mem_cons, List.not_mem_nil, or_false] at hx; omega

theorem row_ints (w : World) (k : IntKind) (t : TypeId) (l : List Int) : Row k (w.alloc (.cells (l.map (Value.int k)).toArray t)) (some ⟨w.heap.size, 0, none⟩) l := by
  refine .inr ⟨_, _, rfl, fun i hi => ?_⟩
  rw [cell_of_block (heap_alloc_new w _)]
  simp [hi]

set_option maxRecDepth 100000 in
set_option maxHeartbeats 16000000 in
theorem imaged_any (w : World) :
    Calls Try.prog 18 #[] w fun e w' => e = .returned (.bool true) ∧ Below w.heap.size w w' := by
  have hb0 : Below w.heap.size w ((w.alloc (.cells #[.int .i64 3] 3)).alloc (.cells #[.int .i64 1] 3)) := ((Below.refl _ _).alloc (Nat.le_refl _) _).alloc (by simp) _
  have hr1 : Row .i64 ((w.alloc (.cells #[.int .i64 3] 3)).alloc (.cells #[.int .i64 1] 3)) (some ⟨w.heap.size, 0, none⟩) [3] := (row_ints w .i64 3 [3]).mono ((Below.refl _ _).alloc (Nat.le_refl _) _)
  have hr2 : Row .i64 ((w.alloc (.cells #[.int .i64 3] 3)).alloc (.cells #[.int .i64 1] 3)) (some ⟨w.heap.size + 1, 0, none⟩) [1] := by
    have h := row_ints (w.alloc (.cells #[.int .i64 3] 3)) .i64 3 [1]
    simpa using h
  go_enter Try.func18, Try.ntmps18
  go_wp2_with fail
  generalize (w.alloc (.cells #[.int .i64 3] 3)).alloc (.cells #[.int .i64 1] 3) = W0 at *
  refine (new_pool W0 91 _ _ 1 1 1 1 [3] [1] rfl rfl hr1 hr2 (fun k hk => by simp only [List.mem_singleton] at hk; subst hk; exact ⟨by decide, by decide⟩) (fun k hk => by simp only [List.mem_singleton] at hk; subst hk; exact ⟨by decide, by decide⟩) (by decide)).mono ?_
  rw [im_new]
  rintro e w1 ⟨so, sn, sc, ao, n, cap, rfl, hin, hwf, hb1⟩
  have hbw := below_step hb0 hb1
  have hbp : Below w1.heap.size w1 (w1.alloc (.cells #[.slice so sn sc, .slice ao n cap] 49)) := (Below.refl _ _).alloc (Nat.le_refl _) _
  have p1 : (w1.alloc (.cells #[.slice so sn sc, .slice ao n cap] 49)).heap[w1.heap.size]? = some (.cells #[.slice so sn sc, .slice ao n cap] 49 (0, 0)) := heap_alloc_new _ _
  have HIN := Lib.hid (hin.mono hbp)
  have HWF := Lib.hid hwf
  have HB := Lib.hid (below_step hbw hbp)
  clear hb0 hb1 hr1 hr2 hin hwf hbw hbp
  go_wp2_with fail
  generalize w1.alloc (.cells #[.slice so sn sc, .slice ao n cap] 49) = W1 at *
  refine (write_image W1 so ao sn sc n cap imP HIN.out HWF.out).mono ?_
  intro e w2 h2
  obtain ⟨xo, xn, xc, rfl, hx, hb2⟩ := h2.open
  rw [im_out] at hx
  rw [im_ok]
  have hxn : xn = 738 := hx.len.symm.trans im_len
  subst hxn
  have p2 := (hb2.block _ (lt_heap p1)).trans p1
  have HIN := Lib.hid (HIN.out.mono hb2)
  have HB := Lib.hid (below_step HB.out hb2)
  have HX := Lib.hid hx
  clear h2 hx hb2 p1
  go_wp2_with fail
  refine (read_image w2 xo 738 xc (imageL imP) HX.out.len HX.out.low HX.out.cap im_byt).mono ?_
  intro e w3 h3
  unfold ReadEnd at h3
  rw [im_read] at h3
  obtain ⟨hg3, qo, qn, qc, ro, rn, rc, rfl, hin3, hwf3⟩ := h3
  replace hin3 := hin3.inn
  have hb3 : Below w2.heap.size w2 w3 := ⟨hg3.os, hg3.tape, hg3.output, hg3.size, fun b hb => hg3.block b hb (by simp)⟩
  have hbp : Below w3.heap.size w3 (w3.alloc (.cells #[.slice qo qn qc, .slice ro rn rc] 49)) := (Below.refl _ _).alloc (Nat.le_refl _) _
  have hb4 := below_step hb3 hbp
  have p4 := (hb4.block _ (lt_heap p2)).trans p2
  have q4 : (w3.alloc (.cells #[.slice qo qn qc, .slice ro rn rc] 49)).heap[w3.heap.size]? = some (.cells #[.slice qo qn qc, .slice ro rn rc] 49 (0, 0)) := heap_alloc_new _ _
  have HIN := Lib.hid (HIN.out.mono hb4)
  have HIQ := Lib.hid (hin3.mono hbp)
  have HWQ := Lib.hid hwf3
  have HB := Lib.hid (below_step HB.out hb4)
  have HX := Lib.hid (HX.out.mono hb4)
  clear hg3 hb3 hbp hb4 p2 hin3 hwf3
  have c0 := cell_of_block p4 0
  have c1 := cell_of_block p4 1
  have d0 := cell_of_block q4 0
  have d1 := cell_of_block q4 1
  simp at c0 c1 d0 d1
  clear p4 q4
  go_wp2_with fail
  generalize w3.alloc (.cells #[.slice qo qn qc, .slice ro rn rc] 49) = W4 at *
  refine (same_pools W4 so ao qo ro sn sc n cap qn qc rn rc imP imP HIN.out HWF.out HIQ.out HWQ.out).mono ?_
  rw [im_same]
  rintro e w5 ⟨rfl, hb5⟩
  have HX := Lib.hid (HX.out.mono hb5)
  have HB := Lib.hid (below_step HB.out hb5)
  obtain ⟨b, o, rfl, -⟩ := HX.out.low.row.at 0 (by rw [im_len]; decide)
  have hxc : (738 : Int) ≤ xc := by have := HX.out.cap.1; omega
  have hxc' : 738 ≤ xc := by omega
  clear c0 c1 d0 d1 HIN HIQ hb5
  have hl3 := HX.out.low.take 3
  rw [im_head] at hl3
  have HR3 := Lib.hid hl3.row
  have hl8 := HX.out.low.drop 730
  rw [im_tail] at hl8
  have HR8 := Lib.hid hl8.row
  clear hl3 hl8
  have hbA : Below w5.heap.size w5 (w5.alloc (.cells #[.int .u8 0, .int .u8 91, .int .u8 0] 5)) := (Below.refl _ _).alloc (Nat.le_refl _) _
  have HRA : Hid (Row .u8 (w5.alloc (.cells #[.int .u8 0, .int .u8 91, .int .u8 0] 5)) (some ⟨w5.heap.size, 0, none⟩) [0, 91, 0]) := Lib.hid (row_ints w5 .u8 5 [0, 91, 0])
  have HR3 := Lib.hid (HR3.out.mono hbA)
  have HR8 := Lib.hid (HR8.out.mono hbA)
  have HB := Lib.hid (below_step HB.out hbA)
  clear hbA
  go_wp2_with fail
  generalize w5.alloc (.cells #[.int .u8 0, .int .u8 91, .int .u8 0] 5) = W6 at *
  refine (bytes_equal_n _ _ 3 3 _ _ [0, 91, 0] [0, 91, 0] W6 rfl rfl HR3.out HRA.out im_b3 im_b3).mono ?_
  rw [show (([0, 91, 0] : List Int) == [0, 91, 0]) = true from by decide]
  rintro e w7 ⟨rfl, rfl⟩
  have hbC : Below W6.heap.size W6 (W6.alloc (.cells #[.int .u8 0, .int .u8 1, .int .u8 0, .int .u8 3, .int .u8 0, .int .u8 1, .int .u8 0, .int .u8 0] 5)) := (Below.refl _ _).alloc (Nat.le_refl _) _
  have HRC : Hid (Row .u8 (W6.alloc (.cells #[.int .u8 0, .int .u8 1, .int .u8 0, .int .u8 3, .int .u8 0, .int .u8 1, .int .u8 0, .int .u8 0] 5)) (some ⟨W6.heap.size, 0, none⟩) [0, 1, 0, 3, 0, 1, 0, 0]) := Lib.hid (row_ints W6 .u8 5 [0, 1, 0, 3, 0, 1, 0, 0])
  have HR8 := Lib.hid (HR8.out.mono hbC)
  have HB := Lib.hid (below_step HB.out hbC)
  clear hbC HR3 HRA
  go_wp2_with fail
  generalize W6.alloc (.cells #[.int .u8 0, .int .u8 1, .int .u8 0, .int .u8 3, .int .u8 0, .int .u8 1, .int .u8 0, .int .u8 0] 5) = W8 at *
  refine (bytes_equal_n _ _ 8 8 _ _ [0, 1, 0, 3, 0, 1, 0, 0] [0, 1, 0, 3, 0, 1, 0, 0] W8 rfl rfl HR8.out HRC.out im_b8 im_b8).mono ?_
  rw [show (([0, 1, 0, 3, 0, 1, 0, 0] : List Int) == [0, 1, 0, 3, 0, 1, 0, 0]) = true from by decide]
  rintro e w9 ⟨rfl, rfl⟩
  go_wp2_with fail
  go_ret
  exact ⟨rfl, HB.out⟩
end Go.Proofs.Ytfmgdjgedhnmeaa
