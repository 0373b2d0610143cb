/- file.turned, file.Over. -/
import Derived.Test.YtfmgdjgedhnmeaaTurn
namespace Go.Proofs.Ytfmgdjgedhnmeaa
open Go.RowKit
set_option linter.unusedVariables false

theorem four_allocs (w : World) (a b c d : Obj) :
    Below w.heap.size w ((((w.alloc a).alloc b).alloc c).alloc d) ∧ ((((w.alloc a).alloc b).alloc c).alloc d).heap[w.heap.size]? = some a ∧ ((((w.alloc a).alloc b).alloc c).alloc d).heap[w.heap.size + 1]? = some b ∧
      ((((w.alloc a).alloc b).alloc c).alloc d).heap[w.heap.size + 1 + 1]? = some c ∧ ((((w.alloc a).alloc b).alloc c).alloc d).heap[w.heap.size + 1 + 1 + 1]? = some d ∧ ((((w.alloc a).alloc b).alloc c).alloc d).heap.size = w.heap.size + 4 := by
  refine ⟨((((Below.refl _ _).alloc (Nat.le_refl _) _).alloc (by simp) _).alloc (by simp; omega) _).alloc (by simp; omega) _, ?_, ?_, ?_, ?_, by simp⟩
  · rw [Below.heap_alloc _ _ _ (by simp; omega), Below.heap_alloc _ _ _ (by simp; omega)]; exact heap_alloc2_old _ _ _
  · rw [Below.heap_alloc _ _ _ (by simp), Below.heap_alloc _ _ _ (by simp)]; exact heap_alloc2_new _ _ _
  · rw [Below.heap_alloc _ _ _ (by simp)]
    have h := heap_alloc_new ((w.alloc a).alloc b) c
    rw [show ((w.alloc a).alloc b).heap.size = w.heap.size + 1 + 1 from by simp] at h
    exact h
  · have h := heap_alloc_new (((w.alloc a).alloc b).alloc c) d
    rw [show (((w.alloc a).alloc b).alloc c).heap.size = w.heap.size + 1 + 1 + 1 from by simp] at h
    exact h

/-- so far all is right -/
theorem turned_all {s : List Blk} (hc : checkE s = 0) (hw : WfS s) {root M0 : Int} (hr : RootAt s 3 root) (hfew : ∀ x ∈ s, x.refs ≤ M0) (hM : 1 ≤ M0) (hM2 : M0 ≤ 1000000) {key : Int} {was now : List Int} (hnow : now.length = 256) (hby : Byt now) :
    ∀ i, i ≤ 64 → (turnTo key was now (startR s root) i).2.2 = 0 → Turned M0 s key was now (leavesF 3 s root) i (turnTo key was now (startR s root) i) := by
  intro i
  induction i with
  | zero => intro _ _; exact turned_start hc hw hr hfew hM hM2 key was now
  | succ i ih =>
    intro hi he
    have h0 : (turnTo key was now (startR s root) i).2.2 = 0 := by
      by_cases h : (turnTo key was now (startR s root) i).2.2 = 0
      · exact h
      · rw [turnTo_bad h (i + 1) (by omega)] at he
        exact absurd he h
    exact turned_step hc hw hnow hby (by omega) hM hM2 (ih (by omega) h0) h0 he

def turnR (s : List Blk) (key root z : Int) (b : List Int) : List Blk × Int × Int := turnTo key (pad (fileB s key root z)) (pad b) (startR s root) 64
theorem turnR_good {s : List Blk} {key root z : Int} {b : List Int} (hok : fileE s key root z = 0) (hwf : WfS s) (hb : Byt b) (hb4 : b.length ≤ 256) (he : (turnR s key root z b).2.2 = 0) : Good (turnR s key root z b).1 1000833 := by
  obtain ⟨-, -, -, hc, -⟩ := fileE_ok hok
  obtain ⟨hce, m, hm3, hm, hroot, -, -⟩ := checkT_ok hc
  obtain rfl : m = 3 := by omega
  have h64 : (64 : Nat) ≤ 64 := Nat.le_refl _
  unfold turnR at *
  generalize h64e : (64 : Nat) = k64 at he h64 ⊢
  have h := turned_all hce hwf hroot (M0 := 1000000) (fun x hx => ((checkE_zero s hce).2.2.2.1 x hx).2) (by omega) (by omega) (pad_len b hb4) (pad_byt hb) k64 (by omega) he
  exact h.at_.good.weaken (by omega)

end Go.Proofs.Ytfmgdjgedhnmeaa

namespace Go.Proofs.Ytfmgdjgedhnmeaa
open Go.RowKit
set_option linter.unusedVariables false

/-- bytes with others over them from a place on -/
def overL (b : List Int) (k : Nat) (more : List Int) : List Int := if more = [] then b else splice (b ++ zeros (k + more.length - b.length)) k more
def overR (b : List Int) (at_ : Int) (more : List Int) : List Int × Int :=
  if at_ < 0 ∨ 256 < at_ ∨ 256 < more.length then ([], 3) else if 256 < at_ + more.length then ([], 8) else (overL b at_.toNat more, 0)

theorem overL_len (b : List Int) (k : Nat) (more : List Int) : (overL b k more).length = if more.length = 0 then b.length else max b.length (k + more.length) := by
  unfold overL
  by_cases h : more = []
  · subst h; simp
  · have : more.length ≠ 0 := fun e => h (List.eq_nil_of_length_eq_zero e)
    rw [if_neg h, if_neg this]
    simp [splice, zeros]
    omega
theorem overL_byt {b more : List Int} (h : Byt b) (h2 : Byt more) (k : Nat) : Byt (overL b k more) := by
  unfold overL
  split
  · exact h
  · intro x hx
    unfold splice at hx
    rw [List.mem_append, List.mem_append] at hx
    have hz : ∀ y ∈ b ++ zeros (k + more.length - b.length), 0 ≤ y ∧ y ≤ 255 := fun y hy => by
      rcases List.mem_append.1 hy with h1 | h1
      · exact h y h1
      · have := (List.mem_replicate.1 h1).2
        omega
    rcases hx with h1 | h1 | h1
    · exact hz x (List.mem_of_mem_take h1)
    · exact h2 x h1
    · exact hz x (List.mem_of_mem_drop h1)

theorem own_cap {k : IntKind} {e base : Nat} {w : World} {v : Value} {xs : List Int} (h : Own k e base w v xs) : ∃ ao cap, v = .slice ao xs.length cap ∧ Row k w ao xs ∧ Capd ao xs.length cap := by
  obtain ⟨ao, cap, hv, hc, -, hr, h0⟩ := h.shape'
  exact ⟨ao, cap, hv, hr, hc, h0⟩

set_option maxRecDepth 100000 in
set_option maxHeartbeats 8000000 in
theorem over_any (w : World) (ba ma : Option Addr) (nb bc nm mc : Nat) (b more : List Int) (at_ : Int) (hnb : b.length = nb) (hnm : more.length = nm) (hbr : Row .u8 w ba b) (hmr : Row .u8 w ma more) (hbc : Capd ba nb bc) (hmc : Capd ma nm mc) (hb47 : nb ≤ 140737488351232) (hm47 : nm ≤ 140737488351232) :
    Calls Try.prog 113 #[.slice ba nb bc, .int .i64 at_, .slice ma nm mc] w fun e w' =>
      ∃ ao' n' cap', e = .returned (.tuple #[.slice ao' n' cap', .int .i64 (overR b at_ more).2]) ∧ (overR b at_ more).1.length = n' ∧ Row .u8 w' ao' (overR b at_ more).1 ∧ Capd ao' n' cap' ∧ Below w.heap.size w w' := by
  have HB := Lib.hid hnb
  have HM := Lib.hid hnm
  have HC := Lib.hid hbc
  have hbad : ∀ x : Int, ∃ ao' n' cap', Ending.returned (.tuple #[.slice none 0 0, .int .i64 x]) = .returned (.tuple #[.slice ao' n' cap', .int .i64 x]) ∧ ([] : List Int).length = n' ∧ Row .u8 w ao' [] ∧ Capd ao' n' cap' ∧ Below w.heap.size w w := fun x =>
    ⟨none, 0, 0, rfl, rfl, .inl rfl, ⟨Nat.le_refl _, fun _ => rfl⟩, Below.refl _ _⟩
  by_cases h1 : at_ < 0 ∨ 256 < at_ ∨ 256 < nm
  · have HR : Hid (overR b at_ more = ([], 3)) := Lib.hid (by unfold overR; rw [if_pos (by omega)])
    have HBAD := Lib.hid hbad
    clear hbad hnb hnm
    rcases h1 with h1 | h1 | h1
    · go_enter Try.func113, Try.ntmps113
      go_wp2_with fail
      refine bodyPost_ret (v := .tuple #[.slice none 0 0, .int .i64 3]) (by simp [results, Try.results113, go_sem]) rfl ?_
      rw [HR.out]; exact HBAD.out 3
    · have h0 : ¬ at_ < 0 := by omega
      go_enter Try.func113, Try.ntmps113
      go_wp2_with fail
      refine bodyPost_ret (v := .tuple #[.slice none 0 0, .int .i64 3]) (by simp [results, Try.results113, go_sem]) rfl ?_
      rw [HR.out]; exact HBAD.out 3
    · have h2 : (256 : Int) < nm := by omega
      by_cases h3 : at_ < 0
      · go_enter Try.func113, Try.ntmps113
        go_wp2_with fail
        refine bodyPost_ret (v := .tuple #[.slice none 0 0, .int .i64 3]) (by simp [results, Try.results113, go_sem]) rfl ?_
        rw [HR.out]; exact HBAD.out 3
      · by_cases h4 : 256 < at_
        · go_enter Try.func113, Try.ntmps113
          go_wp2_with fail
          refine bodyPost_ret (v := .tuple #[.slice none 0 0, .int .i64 3]) (by simp [results, Try.results113, go_sem]) rfl ?_
          rw [HR.out]; exact HBAD.out 3
        · go_enter Try.func113, Try.ntmps113
          go_wp2_with fail
          refine bodyPost_ret (v := .tuple #[.slice none 0 0, .int .i64 3]) (by simp [results, Try.results113, go_sem]) rfl ?_
          rw [HR.out]; exact HBAD.out 3
  obtain ⟨k, rfl⟩ : ∃ k : Nat, at_ = k := ⟨at_.toNat, by omega⟩
  have h3 : ¬ ((k : Int) < 0) := by omega
  have h4 : ¬ ((256 : Int) < k) := by omega
  have h5 : ¬ ((256 : Int) < nm) := by omega
  have hk256 : k ≤ 256 := by omega
  have hm256 : nm ≤ 256 := by omega
  by_cases h2 : 256 < k + nm
  · have HR : Hid (overR b k more = ([], 8)) := Lib.hid (by unfold overR; rw [if_neg (by omega), if_pos (by omega)])
    have h6 : (256 : Int) < k + nm := by omega
    have HBAD := Lib.hid hbad
    clear hbad hnb hnm h1
    go_enter Try.func113, Try.ntmps113
    go_wp2_with fail
    refine bodyPost_ret (v := .tuple #[.slice none 0 0, .int .i64 8]) (by simp [results, Try.results113, go_sem]) rfl ?_
    rw [HR.out]; exact HBAD.out 8
  have h6 : ¬ ((256 : Int) < k + nm) := by omega
  have HR : Hid (overR b k more = (overL b k more, 0)) := Lib.hid (by unfold overR; rw [if_neg (by omega), if_neg (by omega)]; rfl)
  clear hbad
  by_cases h0 : nm = 0
  · have HL : Hid (overL b k more = b) := Lib.hid (by unfold overL; rw [if_pos (List.eq_nil_of_length_eq_zero (by omega))])
    have h7 : ((nm : Int) == 0) = true := by rw [h0]; rfl
    clear hnb hnm h1
    go_enter Try.func113, Try.ntmps113
    go_wp2_with fail
    refine (clone_bytes_n ba nb bc b w HB.out hbr HC.out.2 (by omega)).mono ?_
    rintro e w1 ⟨v, rfl, ho, -, hb1⟩
    obtain ⟨ao2, cap2, hv2, hr2, hc2⟩ := own_cap ho
    rw [HB.out] at hv2 hc2
    subst hv2
    go_wp2_with fail
    refine bodyPost_ret (v := .tuple #[.slice ao2 nb cap2, .int .i64 0]) (by simp [results, Try.results113, go_sem]) rfl ⟨ao2, nb, cap2, by rw [HR.out], ?_, ?_, hc2, hb1⟩
    · rw [HR.out]; simp only; rw [HL.out]; exact HB.out
    · rw [HR.out]; simp only; rw [HL.out]; exact hr2
  have h7 : ((nm : Int) == 0) = false := by rw [beq_eq_false_iff_ne]; omega
  have HL : Hid (overL b k more = splice (b ++ zeros (k + nm - nb)) k more) := Lib.hid (by
    unfold overL
    rw [if_neg (fun e => by rw [e] at hnm; simp at hnm; omega), hnb, hnm])
  have HLN := Lib.hid (overL_len b k more)
  have HBR := Lib.hid hbr
  have HMR := Lib.hid hmr
  clear hnb hnm h1 hbr hmr
  obtain ⟨L, hL⟩ : ∃ L, max nb (k + nm) = L := ⟨_, rfl⟩
  have hmk0 : ∀ u : World, (Instr.makeSlice 38 (.int .i64 (L : Int)) (.int .i64 (L : Int))).run Try.prog u = .ok (.slice (some ⟨u.heap.size, 0, none⟩) L L) (u.alloc (.cells (icells .u8 (zeros L)) 5)) := fun u =>
    make_ints (P := Try.prog) .u8 38 5 1 Try.underlying38 info_u8 L (by omega) (by omega) u
  have hszI : (Try.prog.info? 5).map (·.size) = some 1 := by kernel_rfl
  have hA : Below w.heap.size w (w.alloc (.cells (icells .u8 (zeros L)) 5)) := (Below.refl _ _).alloc (Nat.le_refl _) _
  have pn : (w.alloc (.cells (icells .u8 (zeros L)) 5)).heap[w.heap.size]? = some (.cells ((zeros L).map (Value.int .u8)).toArray 5 (0, 0)) := heap_alloc_new _ _
  have HPN := Lib.hid pn
  have hbr3 := Lib.hid (HBR.out.mono hA)
  have hmr3 := Lib.hid (HMR.out.mono hA)
  have hcn : (b.map (Value.int .u8)).length = Nat.min nb L := by
    rw [List.length_map, HB.out]
    exact (Nat.min_eq_left (by omega)).symm
  have hfit : 0 + (b.map (Value.int .u8)).length ≤ ((zeros L).map (Value.int .u8)).length := by
    rw [List.length_map, List.length_map, HB.out]
    simp only [zeros, List.length_replicate]
    omega
  have hcn2 : (more.map (Value.int .u8)).length = Nat.min nm (L - k) := by
    rw [List.length_map, HM.out]
    exact (Nat.min_eq_left (by omega)).symm
  have HSP : splice ((zeros L).map (Value.int .u8)) 0 (b.map (Value.int .u8)) = (b ++ zeros (k + nm - nb)).map (Value.int .u8) := by
    have hbl := HB.out
    unfold splice
    rw [List.take_zero, List.nil_append, List.length_map, Nat.zero_add, List.map_append]
    congr 1
    unfold zeros
    rw [← List.map_drop, List.drop_replicate, hbl]
    congr 2
    omega
  have hfit2 : k + (more.map (Value.int .u8)).length ≤ ((b ++ zeros (k + nm - nb)).map (Value.int .u8)).length := by
    rw [List.length_map, List.length_map, List.length_append, HB.out, HM.out]
    simp only [zeros, List.length_replicate]
    omega
  have HSP2 : splice ((b ++ zeros (k + nm - nb)).map (Value.int .u8)) k (more.map (Value.int .u8)) = (overL b k more).map (Value.int .u8) := by
    rw [HL.out]
    unfold splice
    rw [List.length_map]
    simp only [List.map_append, List.map_take, List.map_drop]
  have HCN := Lib.hid hcn
  have HFT := Lib.hid hfit
  have HCN2 := Lib.hid hcn2
  have HFT2 := Lib.hid hfit2
  have HSPH := Lib.hid HSP
  have HSPH2 := Lib.hid HSP2
  have hkL : k < L := by omega
  have hkL3 : L - k ≠ 0 := by omega
  have hkL4 : ¬ L = k := by omega
  have hkL5 : ¬ k = L := by omega
  have hkm : (k : Int) < L := by omega
  have HLL : Hid ((overL b k more).length = L) := Lib.hid (by rw [HLN.out, HB.out, HM.out, if_neg h0]; exact hL)
  clear hcn hfit hcn2 hfit2 HSP HSP2 pn HLN HL
  obtain ⟨x, y, hx8, hmk⟩ : ∃ x y : Bool, (x = decide ((nb : Int) < (k : Int) + nm) ∧ y = decide ((k : Int) + nm < nb)) ∧ ∀ u : World, (Instr.makeSlice 38 (.int .i64 (if x then (k : Int) + nm else nb)) (.int .i64 (if x then (k : Int) + nm else nb))).run Try.prog u = .ok (.slice (some ⟨u.heap.size, 0, none⟩) L L) (u.alloc (.cells (icells .u8 (zeros L)) 5)) :=
    ⟨_, _, ⟨rfl, rfl⟩, fun u => by
      have e : (if decide ((nb : Int) < (k : Int) + nm) = true then (k : Int) + nm else nb) = (L : Int) := by
        by_cases h : (nb : Int) < (k : Int) + nm
        · rw [if_pos (by simpa using h)]; omega
        · rw [if_neg (by simpa using h)]; omega
      rw [e]
      exact hmk0 u⟩
  have HL0 := Lib.hid hL
  clear hmk0 hL
  generalize b ++ zeros (k + nm - nb) = B1 at *
  rcases (show ((nb : Int) < (k : Int) + nm) ∨ ((nb : Int) = (k : Int) + nm) ∨ ((k : Int) + nm < (nb : Int)) from by omega) with h8 | h8 | h8
  · have h9 : ¬ ((k : Int) + nm < nb) := by omega
    obtain ⟨rfl, rfl⟩ := hx8
    rw [decide_eq_true h8] at hmk
    simp only [if_true] at hmk
    go_enter Try.func113, Try.ntmps113
    go_wp2_with (with_reducible refine copy_grown rfl (.tmp 38) (.tmp 39) 38 38 rfl 5 Try.underlying38 hszI (some ⟨w.heap.size, 0, none⟩) ba L L nb bc rfl rfl w.heap.size 0 ((zeros L).map (Value.int .u8)) 5 HPN.out (b.map (Value.int .u8)) HCN.out (fun h => ⟨rfl, row_src hbr3.out (by simpa using h)⟩) HFT.out (ints_one _ _) ?_)
    intro w5 HG5 hg5
    have hG5 := HG5.out
    rw [HSPH.out] at hG5
    have HP5 := Lib.hid hG5
    have hb5 := Lib.hid (hA.trans (grown_below hg5 (Nat.le_refl _) hA.size))
    have hm5 := Lib.hid (HMR.out.mono hb5.out)
    clear HG5 hG5 hg5
    go_wp2_with (with_reducible refine copy_grown rfl (.tmp 43) (.tmp 44) 38 38 rfl 5 Try.underlying38 hszI (some ⟨w.heap.size, k, none⟩) ma (L - k) (L - k) nm mc rfl rfl w.heap.size k (B1.map (Value.int .u8)) 5 HP5.out (more.map (Value.int .u8)) HCN2.out (fun h => ⟨rfl, row_src hm5.out (by simpa using h)⟩) HFT2.out (ints_one _ _) ?_)
    intro w6 HG6 hg6
    have hG6 := HG6.out
    rw [HSPH2.out] at hG6
    have hr6 : Row .u8 w6 (some ⟨w.heap.size, 0, none⟩) (overL b k more) := row_of_block (k := .u8) (t := 5) hG6
    have hb6 := hb5.out.trans (grown_below hg6 (Nat.le_refl _) hb5.out.size)
    clear HG6 hG6
    go_wp2_with fail
    refine bodyPost_ret (v := .tuple #[.slice (some ⟨w.heap.size, 0, none⟩) L L, .int .i64 0]) (by simp [results, Try.results113, go_sem]) rfl ⟨_, L, L, by rw [HR.out], ?_, ?_, ⟨Nat.le_refl _, fun h => by cases h⟩, hb6⟩
    · rw [HR.out]; exact HLL.out
    · rw [HR.out]; exact hr6
  · have h9 : ¬ ((k : Int) + nm < nb) := by omega
    have h10 : ¬ ((nb : Int) < (k : Int) + nm) := by omega
    obtain ⟨rfl, rfl⟩ := hx8
    rw [decide_eq_false (by omega)] at hmk
    simp only [Bool.false_eq_true, if_false] at hmk
    clear h8
    go_enter Try.func113, Try.ntmps113
    go_wp2_with (with_reducible refine copy_grown rfl (.tmp 38) (.tmp 39) 38 38 rfl 5 Try.underlying38 hszI (some ⟨w.heap.size, 0, none⟩) ba L L nb bc rfl rfl w.heap.size 0 ((zeros L).map (Value.int .u8)) 5 HPN.out (b.map (Value.int .u8)) HCN.out (fun h => ⟨rfl, row_src hbr3.out (by simpa using h)⟩) HFT.out (ints_one _ _) ?_)
    intro w5 HG5 hg5
    have hG5 := HG5.out
    rw [HSPH.out] at hG5
    have HP5 := Lib.hid hG5
    have hb5 := Lib.hid (hA.trans (grown_below hg5 (Nat.le_refl _) hA.size))
    have hm5 := Lib.hid (HMR.out.mono hb5.out)
    clear HG5 hG5 hg5
    go_wp2_with (with_reducible refine copy_grown rfl (.tmp 43) (.tmp 44) 38 38 rfl 5 Try.underlying38 hszI (some ⟨w.heap.size, k, none⟩) ma (L - k) (L - k) nm mc rfl rfl w.heap.size k (B1.map (Value.int .u8)) 5 HP5.out (more.map (Value.int .u8)) HCN2.out (fun h => ⟨rfl, row_src hm5.out (by simpa using h)⟩) HFT2.out (ints_one _ _) ?_)
    intro w6 HG6 hg6
    have hG6 := HG6.out
    rw [HSPH2.out] at hG6
    have hr6 : Row .u8 w6 (some ⟨w.heap.size, 0, none⟩) (overL b k more) := row_of_block (k := .u8) (t := 5) hG6
    have hb6 := hb5.out.trans (grown_below hg6 (Nat.le_refl _) hb5.out.size)
    clear HG6 hG6
    go_wp2_with fail
    refine bodyPost_ret (v := .tuple #[.slice (some ⟨w.heap.size, 0, none⟩) L L, .int .i64 0]) (by simp [results, Try.results113, go_sem]) rfl ⟨_, L, L, by rw [HR.out], ?_, ?_, ⟨Nat.le_refl _, fun h => by cases h⟩, hb6⟩
    · rw [HR.out]; exact HLL.out
    · rw [HR.out]; exact hr6
  · have h9 : ¬ ((nb : Int) < (k : Int) + nm) := by omega
    obtain ⟨rfl, rfl⟩ := hx8
    rw [decide_eq_false (by omega)] at hmk
    simp only [Bool.false_eq_true, if_false] at hmk
    go_enter Try.func113, Try.ntmps113
    go_wp2_with (with_reducible refine copy_grown rfl (.tmp 38) (.tmp 39) 38 38 rfl 5 Try.underlying38 hszI (some ⟨w.heap.size, 0, none⟩) ba L L nb bc rfl rfl w.heap.size 0 ((zeros L).map (Value.int .u8)) 5 HPN.out (b.map (Value.int .u8)) HCN.out (fun h => ⟨rfl, row_src hbr3.out (by simpa using h)⟩) HFT.out (ints_one _ _) ?_)
    intro w5 HG5 hg5
    have hG5 := HG5.out
    rw [HSPH.out] at hG5
    have HP5 := Lib.hid hG5
    have hb5 := Lib.hid (hA.trans (grown_below hg5 (Nat.le_refl _) hA.size))
    have hm5 := Lib.hid (HMR.out.mono hb5.out)
    clear HG5 hG5 hg5
    go_wp2_with (with_reducible refine copy_grown rfl (.tmp 43) (.tmp 44) 38 38 rfl 5 Try.underlying38 hszI (some ⟨w.heap.size, k, none⟩) ma (L - k) (L - k) nm mc rfl rfl w.heap.size k (B1.map (Value.int .u8)) 5 HP5.out (more.map (Value.int .u8)) HCN2.out (fun h => ⟨rfl, row_src hm5.out (by simpa using h)⟩) HFT2.out (ints_one _ _) ?_)
    intro w6 HG6 hg6
    have hG6 := HG6.out
    rw [HSPH2.out] at hG6
    have hr6 : Row .u8 w6 (some ⟨w.heap.size, 0, none⟩) (overL b k more) := row_of_block (k := .u8) (t := 5) hG6
    have hb6 := hb5.out.trans (grown_below hg6 (Nat.le_refl _) hb5.out.size)
    clear HG6 hG6
    go_wp2_with fail
    refine bodyPost_ret (v := .tuple #[.slice (some ⟨w.heap.size, 0, none⟩) L L, .int .i64 0]) (by simp [results, Try.results113, go_sem]) rfl ⟨_, L, L, by rw [HR.out], ?_, ?_, ⟨Nat.le_refl _, fun h => by cases h⟩, hb6⟩
    · rw [HR.out]; exact HLL.out
    · rw [HR.out]; exact hr6
end Go.Proofs.Ytfmgdjgedhnmeaa
