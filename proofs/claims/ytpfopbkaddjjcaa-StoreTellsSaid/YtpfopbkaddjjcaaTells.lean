/- rookerylaw.StoreTells: the walk. -/
import Derived.Test.YtpfopbkaddjjcaaMakes
import Derived.Test.YtpfopbkaddjjcaaBackQ
import Derived.Test.YtpfopbkaddjjcaaReach
import Derived.Test.YtpfopbkaddjjcaaReachOf
import Derived.Test.YtpfopbkaddjjcaaNew
import Derived.Deep.DeepCutAuto
import Derived.Deep.RegionHeld3
namespace Go.Proofs.Ytpfopbkaddjjcaa
open Go.RowKit
set_option linter.unusedVariables false

theorem kids4_there {s : List Blk} (h : formsE s s = 0) : ∀ a, thereB s a = true → (blk s a).kids.length ≤ 4 := fun a _ => kids4 (lv_of s h).1 a
theorem make_free (m : Nat) (hm : m ≤ 400) (u : World) : (Instr.makeSlice 38 (.int .i64 (m : Int)) (.int .i64 (m : Int))).run Try.prog u = .ok (.slice (some ⟨u.heap.size, 0, none⟩) m m) (u.alloc (.cells (freeCells m) 50)) := by
  obtain ⟨i, i1, i2, i3, i4⟩ := info_parts info_blk
  have := run_makeSlice (P := Try.prog) u 38 50 i _ Try.underlying38 i1 i2 .i64 .i64 m m (by omega) (Int.le_refl _) (by rw [i3]; simp; omega) (by rw [i4]; omega) (by omega)
  rw [i3] at this
  simpa [Value.cells, freeCells] using this
theorem wf_free (m : Nat) : WfS (List.replicate m noBlk) := fun x hx => by
  rw [(List.mem_replicate.1 hx).2]
  exact sd0_wf noBlk (by simp [sd0])

set_option maxRecDepth 100000 in
set_option maxHeartbeats 8000000 in
theorem law_tells_ok_fine (w : World) (ao ro te : Option Addr) (n cap rn rc tn tc : Nat) (s t : List Blk) (R : List Int) (k : Int) (hn : s.length = n) (h41 : n ≤ 2199023255552) (hs : StoRow w ao s) (hwf : WfS s)
    (hz : R.length = rn) (hr : Row .i64 w ro R) (hw : ∀ k ∈ R, I64 k) (hb : rn ≤ 17592186044416) (htn : t.length = tn) (ht41 : tn ≤ 2199023255552) (hts : StoRow w te t) (htwf : WfS t) (hce : checkE s = 0) (hk0 : 0 ≤ k) (hk4 : k ≤ 400) :
    Calls Try.prog 16 #[.agg #[.slice ao n cap], .int .i64 k, .slice ro rn rc, .agg #[.slice te tn tc]] w fun e w' => e = .returned (.bool true) ∧ Below w.heap.size w w' := by
  have HN := Lib.hid hn
  have HZ := Lib.hid hz
  have HT := Lib.hid htn
  have hs0 := hs
  have hts0 := hts
  have hn63 : n ≤ 1152921504606846976 := by omega
  have HCE := Lib.hid hce
  have h400 : n ≤ 400 := by have := (checkE_zero s hce).1; omega
  have he1 : (checkE s != 0) = false := by rw [hce]; rfl
  have he0 : (checkE s == 0) = true := by rw [hce]; rfl
  clear hn hz htn hs hts hce
  obtain ⟨m, rfl⟩ : ∃ m : Nat, k = m := ⟨k.toNat, by omega⟩
  have hm : m ≤ 400 := by omega
  have hd2 : ¬ (400 < (m : Int)) := by omega
  have HNW := Lib.hid (show newR (m : Int) = (List.replicate m noBlk, 0) by unfold newR; rw [if_neg (by omega)]; simp)
  clear hk0 hk4
  have hbw : Below w.heap.size w ((w.alloc (.cells #[.slice ao n cap] 40)).alloc (.cells #[.slice te tn tc] 40)) := ((Below.refl _ _).alloc (Nat.le_refl _) _).alloc (by simp) _
  have p4 : ((w.alloc (.cells #[.slice ao n cap] 40)).alloc (.cells #[.slice te tn tc] 40)).heap[w.heap.size]? = some (.cells #[.slice ao n cap] 40 (0, 0)) := heap_alloc2_old _ _ _
  have p7 : ((w.alloc (.cells #[.slice ao n cap] 40)).alloc (.cells #[.slice te tn tc] 40)).heap[w.heap.size + 1]? = some (.cells #[.slice te tn tc] 40 (0, 0)) := heap_alloc2_new _ _ _
  go_enter Try.func16, Try.ntmps16
  go_wp2_with fail
  generalize (w.alloc (Obj.cells #[Value.slice ao n cap] 40)).alloc (Obj.cells #[Value.slice te tn tc] 40) = W0 at *
  have HM := new_any W0 (m : Int)
  rw [HNW.out] at HM
  refine HM.mono ?_
  rintro e w1 ⟨v1, rfl, ho, hb1⟩
  clear HM
  replace p4 := (hb1.block _ (lt_heap p4)).trans p4
  replace p7 := (hb1.block _ (lt_heap p7)).trans p7
  replace hbw := below_step hbw hb1
  obtain ⟨a9, cc9, hv, hc9, hs9⟩ := ho.sto
  simp only [List.length_replicate] at hv hc9
  subst hv
  clear ho
  have cp4 := cell_of_one p4
  have lp4 := lt_heap p4
  go_wp2_with fail
  clear cp4 lp4
  have hA : Below w1.heap.size w1 (w1.alloc (.cells #[.slice a9 m cc9] 40)) := (Below.refl _ _).alloc (Nat.le_refl _) _
  have p9 : (w1.alloc (.cells #[.slice a9 m cc9] 40)).heap[w1.heap.size]? = some (.cells #[.slice a9 m cc9] 40 (0, 0)) := heap_alloc_new _ _
  replace p4 := (hA.block _ (lt_heap p4)).trans p4
  replace p7 := (hA.block _ (lt_heap p7)).trans p7
  replace hs9 := hs9.mono hA
  replace hbw := below_step hbw hA
  generalize w1.alloc (Obj.cells #[Value.slice a9 m cc9] 40) = W1 at *
  clear hA
  have hs := hs0.mono hbw
  refine (outside_ok _ _ _ _ s HN.out hs hwf HCE.out).mono ?_
  rintro e w2 ⟨qo, rfl, hown, hb2⟩
  obtain ⟨q2, qc, hqv, _, _, hqr, _⟩ := hown.shape'
  simp only [Value.slice.injEq] at hqv
  obtain ⟨hq1, hq2, hq3⟩ := hqv
  subst hq1
  clear hq2 hq3 hown
  replace p4 := (hb2.block _ (lt_heap p4)).trans p4
  replace p7 := (hb2.block _ (lt_heap p7)).trans p7
  replace p9 := (hb2.block _ (lt_heap p9)).trans p9
  replace hs9 := hs9.mono hb2
  replace hbw := below_step hbw hb2
  have cp4 := cell_of_one p4
  have lp4 := lt_heap p4
  clear hs
  have hs := hs0.mono hbw
  go_wp2_with fail
  clear cp4 lp4
  refine (used_ok _ _ _ _ s HN.out hs hwf HCE.out).mono ?_
  rintro e w3 ⟨rfl, hb3⟩
  replace p4 := (hb3.block _ (lt_heap p4)).trans p4
  replace p7 := (hb3.block _ (lt_heap p7)).trans p7
  replace p9 := (hb3.block _ (lt_heap p9)).trans p9
  replace hs9 := hs9.mono hb3
  replace hbw := below_step hbw hb3
  replace hqr := hqr.mono hb3
  have cp4 := cell_of_one p4
  have lp4 := lt_heap p4
  clear hs
  have hs := hs0.mono hbw
  go_wp2_with fail
  clear cp4 lp4
  have HM := reach_any w3 ao ro n cap rn rc s R HN.out hn63 hs hwf HZ.out (by omega) (hr.mono hbw) hw
  refine HM.mono ?_
  rintro e w4 ⟨v4, rfl, hown, hb4⟩
  clear HM
  obtain ⟨ar, cr, hvr, _, _, hrr, _⟩ := hown.shape'
  obtain ⟨qr, hqr2⟩ : ∃ q, (reachR s R).1.length = q := ⟨_, rfl⟩
  rw [hqr2] at hvr
  have HQR := Lib.hid hqr2
  clear hqr2
  subst hvr
  clear hown
  replace p4 := (hb4.block _ (lt_heap p4)).trans p4
  replace p7 := (hb4.block _ (lt_heap p7)).trans p7
  replace p9 := (hb4.block _ (lt_heap p9)).trans p9
  replace hs9 := hs9.mono hb4
  replace hbw := below_step hbw hb4
  replace hqr := hqr.mono hb4
  have cp4 := cell_of_one p4
  have lp4 := lt_heap p4
  clear hs
  have hs := hs0.mono hbw
  go_wp2_with fail
  clear cp4 lp4
  refine (checkStore_any _ _ _ _ s HN.out hn63 hs hwf).mono ?_
  rintro e w5 ⟨rfl, hb5⟩
  replace p4 := (hb5.block _ (lt_heap p4)).trans p4
  replace p7 := (hb5.block _ (lt_heap p7)).trans p7
  replace p9 := (hb5.block _ (lt_heap p9)).trans p9
  replace hs9 := hs9.mono hb5
  replace hbw := below_step hbw hb5
  replace hqr := hqr.mono hb5
  replace hrr := hrr.mono hb5
  clear hs hb1 hb2 hb3 hb4 hb5
  have cp4 := cell_of_one p4
  have lp4 := lt_heap p4
  have cp7 := cell_of_one p7
  have lp7 := lt_heap p7
  have hs := hs0.mono hbw
  have ht := hts0.mono hbw
  go_wp2_with fail
  refine wp_region_mix (by kernel_rfl) (by kernel_rfl) ?_
  repeat (go_big_quiet_step (first
    | (go_at_call 28; refine calls_mix (v := .bool true) ?_; exact stored_any _)
    | (go_at_call 29; refine calls_mix (v := .int .i64 (checkE s)) ?_; exact check_any _ _ _ _ s HN.out hn63 (hs.mono (mix_below _ _)) hwf)
    | (go_at_call 43; refine calls_mix (v := .bool (sameS s t)) ?_; exact same_any _ _ _ _ _ _ _ s t HN.out HT.out hn63 (by omega) (hs.mono (mix_below _ _)) (ht.mono (mix_below _ _)) hwf htwf)
    | (go_at_call 37; refine calls_mix (v := .bool (sameS s t)) ?_; exact sameStore_any _ _ _ _ _ _ _ s t HN.out HT.out hn63 (by omega) (hs.mono (mix_below _ _)) (ht.mono (mix_below _ _)) hwf htwf)))
  refine wpQuiet_nil ?_
  intro w6 hb6
  clear cp4 lp4 cp7 lp7
  clear hs ht
  replace p4 := (hb6.block _ (lt_heap p4)).trans p4
  replace p7 := (hb6.block _ (lt_heap p7)).trans p7
  replace p9 := (hb6.block _ (lt_heap p9)).trans p9
  replace hs9 := hs9.mono hb6
  replace hbw := below_step hbw hb6
  replace hqr := hqr.mono hb6
  replace hrr := hrr.mono hb6
  have hmk := make_free m hm
  have hd3 : ¬ ((m : Int) < 0) := by omega
  have hd4 : ¬ (400 < (m : Int)) := by omega
  go_upto_region 11 with fail
  generalize w6 = W6 at *
  go_cut [86] (fun u wx => u = .bool false ∧ Below W6.heap.size W6 wx)
  case first =>
    have c9 := cell_of_one p9
    have l9 := lt_heap p9
    have bA : Below W6.heap.size W6 (W6.alloc (.cells (freeCells m) 50)).drew := ((Below.refl _ _).alloc (Nat.le_refl _) _).drew
    have gA : (W6.alloc (.cells (freeCells m) 50)).drew.heap[W6.heap.size]? = some (.cells (freeCells m) 50 (0, 0)) := heap_alloc_new W6 _
    have rA := (free_row _ W6.heap.size _ m (Nat.le_refl _) gA).row
    have hsA := hs9.mono bA
    have s0 : W6.drew.cell? ⟨w1.heap.size, 0, none⟩ = some (.slice a9 m cc9) := c9
    have sA : (W6.alloc (.cells (freeCells m) 50)).drew.cell? ⟨w1.heap.size, 0, none⟩ = some (.slice a9 m cc9) := (bA.cell (p := ⟨w1.heap.size, 0, none⟩) l9).trans c9
    go_region_held3 (fun w' => w'.cell? ⟨w1.heap.size, 0, none⟩ = some (.slice a9 m cc9)) (first | with_reducible exact s0 | with_reducible exact sA | with_reducible exact s7) (first
      | (go_at_call 37; refine (same_yes _ _ _ _ _ _ _ (List.replicate m noBlk) (List.length_replicate ..) (List.length_replicate ..) (by omega) hsA rA (wf_free m)).mono ?_; rintro e w7 ⟨rfl, hb7⟩; have s7 := (hb7.cell (p := ⟨w1.heap.size, 0, none⟩) (Nat.lt_of_lt_of_le l9 bA.size)).trans sA))
    all_goals go_wp2_with fail
    all_goals go_meet
    all_goals first | exact ⟨rfl, below_step bA hb7⟩ | exact ⟨rfl, (below_step bA hb7).drew⟩
  case rest =>
    obtain ⟨rfl, hbc⟩ := hcut
    replace p4 := (hbc.block _ (lt_heap p4)).trans p4
    replace hbw := below_step hbw hbc
    replace hqr := hqr.mono hbc
    replace hrr := hrr.mono hbc
    clear hs9 p7 p9 hmk
    have cp4 := cell_of_one p4
    have lp4 := lt_heap p4
    have hs := hs0.mono hbw
    go_wp2
    clear cp4 lp4
    generalize hW8 : wc = W8 at *
    clear hW8
    go_loopw [18, 115] (fun u i wr => ∃ q : Nat, q ≤ n ∧ i = .int .i64 q ∧ u = .int .i64 (usedN (s.take q)) ∧ Below W8.heap.size W8 wr) (fun _ i _ => n - (intOf i).toNat)
    case atStart => exact ⟨0, Nat.zero_le _, rfl, rfl, Below.refl _ _⟩
    case round =>
      obtain ⟨q, hqn, rfl, rfl, hbel⟩ := hrel
      by_cases hlt : q < n
      · have hks : q < s.length := by have := HN.out; omega
        obtain ⟨b, o, rfl, hq⟩ := (hs.mono hbel).at q hks
        have hB := hq q hks
        have c0 := hB.refs
        have c1' := hB.level
        obtain ⟨v2, c2, kao, kcap, rfl, hrow, hcd⟩ := hB.kids
        obtain ⟨v3, c3, bao, bcap, rfl, hrow3, hcd3⟩ := hB.bytes
        have lb := hB.lt
        have HKT := Lib.hid (show usedN (s.take (q + 1)) = _ by rw [List.take_succ_eq_append_getElem hks, usedN_snoc])
        have hub := usedN_bd (s.take q)
        have hu1 := hub.1
        have hu2 : usedN (s.take q) ≤ 400 := by have := hub.2; simp at this; omega
        clear hq hB hrow hrow3 hcd hcd3 hub
        generalize s[q] = x at *
        by_cases hpos : 0 < x.refs
        · go_wp2
          go_roundw
          case rel => exact ⟨q + 1, by omega, by go_num, by rw [HKT.out, if_pos hpos], below_step hbel ((Below.refl _ _).alloc (Nat.le_refl _) _)⟩
          case measure => simp [intOf]; omega
        · go_wp2
          go_roundw
          case rel => exact ⟨q + 1, by omega, by go_num, by rw [HKT.out, if_neg (by omega), Int.add_zero], below_step hbel ((Below.refl _ _).alloc (Nat.le_refl _) _)⟩
          case measure => simp [intOf]; omega
      · obtain rfl : q = n := by omega
        have htk : s.take q = s := List.take_of_length_le (by have := HN.out; omega)
        rw [htk]
        clear htk hs
        generalize wr = w8 at *
        replace p4 := (hbel.block _ (lt_heap p4)).trans p4
        replace hbw := below_step hbw hbel
        replace hqr := hqr.mono hbel
        replace hrr := hrr.mono hbel
        obtain ⟨_, hfo, hki, hri, _⟩ := checkE_zero s HCE.out
        have cp4 := cell_of_one p4
        have lp4 := lt_heap p4
        have hs := hs0.mono hbw
        generalize usedN s = us at *
        go_wp2_with fail
        clear cp4 lp4
        refine (outsideOf_any _ _ _ _ s HN.out h400 hs hki hri).mono ?_
        rintro e w9 ⟨v9, rfl, hown, hb9⟩
        obtain ⟨oo, oc, hov, _, _, hor, _⟩ := hown.shape'
        rw [outL_length, HN.out] at hov
        subst hov
        clear hown hs hki hri
        replace p4 := (hb9.block _ (lt_heap p4)).trans p4
        replace hbw := below_step hbw hb9
        replace hqr := hqr.mono hb9
        replace hrr := hrr.mono hb9
        have hol : (outL s).length = q := by rw [outL_length]; exact HN.out
        have HOL := Lib.hid hol
        clear hol
        go_wp2_with fail
        refine (slices_equal_int _ _ _ _ _ _ (outL s) (outL s) _ HOL.out HOL.out hqr hor (by omega)).mono ?_
        rw [show (outL s == outL s) = true from by simp]
        rintro e w10 ⟨rfl, hb10⟩
        clear hqr hor
        replace p4 := (hb10.block _ (lt_heap p4)).trans p4
        replace hbw := below_step hbw hb10
        replace hrr := hrr.mono hb10
        go_wp2
        go_loopw [145] (fun i wr => ∃ j : Nat, j ≤ rn ∧ i = .int .i64 j ∧ rootsOk s (R.take j) = true ∧ Below w10.heap.size w10 wr) (fun i _ => rn - (intOf i).toNat)
        case atStart => exact ⟨0, Nat.zero_le _, rfl, rfl, Below.refl _ _⟩
        case round =>
          obtain ⟨j, hj, rfl, hok, hbel⟩ := hrel
          have hbr := below_step hbw hbel
          by_cases hlt : j < rn
          · have hjl : j < R.length := by have := HZ.out; omega
            obtain ⟨rb, rof, rfl, hrc⟩ := (hr.mono hbr).at j hjl
            have hck := hrc j hjl
            have lk := World.block_lt_of_cell? _ _ hck
            have hjn : (j : Int) < rn := by omega
            have hts := List.take_succ_eq_append_getElem hjl
            have hmem := List.getElem_mem hjl
            have HTS := Lib.hid hts
            have HMEM := Lib.hid hmem
            have HOK := Lib.hid hok
            have q4 := (hbel.block _ (lt_heap p4)).trans p4
            have c4 := cell_of_one q4
            have l4 := lt_heap q4
            have hs := hs0.mono hbr
            clear hrc hts hmem hok hw
            generalize R[j] = y at *
            by_cases hy : y = 0
            · subst hy
              clear hs
              go_wp2
              go_roundw
              case rel => exact ⟨j + 1, by omega, by go_num, by rw [HTS.out, rootsOk_snoc, HOK.out]; rfl, hbel⟩
              case measure => simp [intOf]; omega
            · have hy1 : (y != 0) = true := by rw [bne_iff_ne]; exact hy
              cases hyt : thereB s y with
              | true =>
                go_wp2_with fail
                refine (ref_there_is _ _ _ _ s y true hyt HN.out hn63 hs).mono ?_
                rintro e w11 ⟨rfl, hb11⟩
                have hbx := below_step hbel hb11
                have HO2 : Hid (rootsOk s (R.take (j + 1)) = true) := Lib.hid (by rw [HTS.out, rootsOk_snoc, HOK.out, hyt]; simp)
                clear hs hy
                go_wp2
                go_roundw
                case rel => exact ⟨j + 1, by omega, by go_num, HO2.out, hbx⟩
                case measure => simp [intOf]; omega
              | false =>
                have e5 : reachR s R = ([], 5) := by unfold reachR; rw [if_neg (by simp [HCE.out]), if_pos (rootsOk_bad HMEM.out hy hyt)]
                have hq0 : qr = 0 := by have := HQR.out; rw [e5] at this; exact this.symm
                rw [e5]
                subst hq0
                clear e5 HQR
                go_wp2_with fail
                refine (ref_there_is _ _ _ _ s y false hyt HN.out hn63 hs).mono ?_
                rintro e w11 ⟨rfl, hb11⟩
                have hbx := below_step hbr hb11
                clear hs hy
                go_wp2
                go_ret
                exact ⟨rfl, hbx⟩
          · obtain rfl : j = rn := by omega
            have htk : R.take j = R := List.take_of_length_le (by have := HZ.out; omega)
            rw [htk] at hok
            have e0 : reachR s R = (reachL s R, 0) := by unfold reachR; rw [if_neg (by simp [HCE.out]), if_neg (by simp [hok])]
            rw [e0]
            rw [e0] at HQR hrr
            simp only at HQR hrr
            replace hrr := hrr.mono hbel
            have q4 := (hbel.block _ (lt_heap p4)).trans p4
            have c4 := cell_of_one q4
            have l4 := lt_heap q4
            have hs := hs0.mono hbr
            have hlr : qr ≤ 400 := by have := HQR.out; rw [reachL_sel] at this; have := selTo_len (fun i => decide ((i : Int) + 1 ∈ allF s R)) s.length; have := HN.out; omega
            have HRO := reachOf_any wr ao ro q cap j rc s R HN.out h400 hs hwf (tiers_of s hfo) (kids4_there hfo) hok HZ.out (by omega) (hr.mono hbr)
            have HRO := Lib.hid HRO
            clear htk e0 hok hs
            go_wp2_with fail
            refine HRO.out.mono ?_
            rintro e w11 ⟨a11, c11, rfl, hr11, hb11⟩
            rw [HQR.out]
            replace hrr := hrr.mono hb11
            replace hbr := below_step hbr hb11
            clear HRO c4 l4
            go_wp2_with fail
            refine (slices_equal_int _ _ _ _ _ _ (reachL s R) (reachL s R) _ HQR.out HQR.out hrr hr11 (by omega)).mono ?_
            rw [show (reachL s R == reachL s R) = true from by simp]
            rintro e w12 ⟨rfl, hb12⟩
            have hbz := below_step hbr hb12
            go_wp2
            go_ret
            exact ⟨rfl, hbz⟩
            
set_option maxRecDepth 100000 in
set_option maxHeartbeats 8000000 in
theorem law_tells_ok_neg (w : World) (ao ro te : Option Addr) (n cap rn rc tn tc : Nat) (s t : List Blk) (R : List Int) (k : Int) (hn : s.length = n) (h41 : n ≤ 2199023255552) (hs : StoRow w ao s) (hwf : WfS s)
    (hz : R.length = rn) (hr : Row .i64 w ro R) (hw : ∀ k ∈ R, I64 k) (hb : rn ≤ 17592186044416) (htn : t.length = tn) (ht41 : tn ≤ 2199023255552) (hts : StoRow w te t) (htwf : WfS t) (hce : checkE s = 0) (hk : k < 0) :
    Calls Try.prog 16 #[.agg #[.slice ao n cap], .int .i64 k, .slice ro rn rc, .agg #[.slice te tn tc]] w fun e w' => e = .returned (.bool true) ∧ Below w.heap.size w w' := by
  have HN := Lib.hid hn
  have HZ := Lib.hid hz
  have HT := Lib.hid htn
  have hs0 := hs
  have hts0 := hts
  have hn63 : n ≤ 1152921504606846976 := by omega
  have HCE := Lib.hid hce
  have h400 : n ≤ 400 := by have := (checkE_zero s hce).1; omega
  have he1 : (checkE s != 0) = false := by rw [hce]; rfl
  have he0 : (checkE s == 0) = true := by rw [hce]; rfl
  clear hn hz htn hs hts hce
  have HNW := Lib.hid (show newR k = ([], 3) by unfold newR; rw [if_pos (by omega)])
  have hbw : Below w.heap.size w ((w.alloc (.cells #[.slice ao n cap] 40)).alloc (.cells #[.slice te tn tc] 40)) := ((Below.refl _ _).alloc (Nat.le_refl _) _).alloc (by simp) _
  have p4 : ((w.alloc (.cells #[.slice ao n cap] 40)).alloc (.cells #[.slice te tn tc] 40)).heap[w.heap.size]? = some (.cells #[.slice ao n cap] 40 (0, 0)) := heap_alloc2_old _ _ _
  have p7 : ((w.alloc (.cells #[.slice ao n cap] 40)).alloc (.cells #[.slice te tn tc] 40)).heap[w.heap.size + 1]? = some (.cells #[.slice te tn tc] 40 (0, 0)) := heap_alloc2_new _ _ _
  go_enter Try.func16, Try.ntmps16
  go_wp2_with fail
  generalize (w.alloc (Obj.cells #[Value.slice ao n cap] 40)).alloc (Obj.cells #[Value.slice te tn tc] 40) = W0 at *
  have HM := new_any W0 k
  rw [HNW.out] at HM
  refine HM.mono ?_
  rintro e w1 ⟨v1, rfl, ho, hb1⟩
  clear HM
  replace p4 := (hb1.block _ (lt_heap p4)).trans p4
  replace p7 := (hb1.block _ (lt_heap p7)).trans p7
  replace hbw := below_step hbw hb1
  obtain ⟨a9, cc9, hv, hc9, hs9⟩ := ho.sto
  simp only [List.length_nil] at hv hc9
  subst hv
  clear ho
  have cp4 := cell_of_one p4
  have lp4 := lt_heap p4
  go_wp2_with fail
  clear cp4 lp4
  have hA : Below w1.heap.size w1 (w1.alloc (.cells #[.slice a9 0 cc9] 40)) := (Below.refl _ _).alloc (Nat.le_refl _) _
  have p9 : (w1.alloc (.cells #[.slice a9 0 cc9] 40)).heap[w1.heap.size]? = some (.cells #[.slice a9 0 cc9] 40 (0, 0)) := heap_alloc_new _ _
  replace p4 := (hA.block _ (lt_heap p4)).trans p4
  replace p7 := (hA.block _ (lt_heap p7)).trans p7
  replace hs9 := hs9.mono hA
  replace hbw := below_step hbw hA
  generalize w1.alloc (Obj.cells #[Value.slice a9 0 cc9] 40) = W1 at *
  clear hA
  have hs := hs0.mono hbw
  refine (outside_ok _ _ _ _ s HN.out hs hwf HCE.out).mono ?_
  rintro e w2 ⟨qo, rfl, hown, hb2⟩
  obtain ⟨q2, qc, hqv, _, _, hqr, _⟩ := hown.shape'
  simp only [Value.slice.injEq] at hqv
  obtain ⟨hq1, hq2, hq3⟩ := hqv
  subst hq1
  clear hq2 hq3 hown
  replace p4 := (hb2.block _ (lt_heap p4)).trans p4
  replace p7 := (hb2.block _ (lt_heap p7)).trans p7
  replace p9 := (hb2.block _ (lt_heap p9)).trans p9
  replace hs9 := hs9.mono hb2
  replace hbw := below_step hbw hb2
  have cp4 := cell_of_one p4
  have lp4 := lt_heap p4
  clear hs
  have hs := hs0.mono hbw
  go_wp2_with fail
  clear cp4 lp4
  refine (used_ok _ _ _ _ s HN.out hs hwf HCE.out).mono ?_
  rintro e w3 ⟨rfl, hb3⟩
  replace p4 := (hb3.block _ (lt_heap p4)).trans p4
  replace p7 := (hb3.block _ (lt_heap p7)).trans p7
  replace p9 := (hb3.block _ (lt_heap p9)).trans p9
  replace hs9 := hs9.mono hb3
  replace hbw := below_step hbw hb3
  replace hqr := hqr.mono hb3
  have cp4 := cell_of_one p4
  have lp4 := lt_heap p4
  clear hs
  have hs := hs0.mono hbw
  go_wp2_with fail
  clear cp4 lp4
  have HM := reach_any w3 ao ro n cap rn rc s R HN.out hn63 hs hwf HZ.out (by omega) (hr.mono hbw) hw
  refine HM.mono ?_
  rintro e w4 ⟨v4, rfl, hown, hb4⟩
  clear HM
  obtain ⟨ar, cr, hvr, _, _, hrr, _⟩ := hown.shape'
  obtain ⟨qr, hqr2⟩ : ∃ q, (reachR s R).1.length = q := ⟨_, rfl⟩
  rw [hqr2] at hvr
  have HQR := Lib.hid hqr2
  clear hqr2
  subst hvr
  clear hown
  replace p4 := (hb4.block _ (lt_heap p4)).trans p4
  replace p7 := (hb4.block _ (lt_heap p7)).trans p7
  replace p9 := (hb4.block _ (lt_heap p9)).trans p9
  replace hs9 := hs9.mono hb4
  replace hbw := below_step hbw hb4
  replace hqr := hqr.mono hb4
  have cp4 := cell_of_one p4
  have lp4 := lt_heap p4
  clear hs
  have hs := hs0.mono hbw
  go_wp2_with fail
  clear cp4 lp4
  refine (checkStore_any _ _ _ _ s HN.out hn63 hs hwf).mono ?_
  rintro e w5 ⟨rfl, hb5⟩
  replace p4 := (hb5.block _ (lt_heap p4)).trans p4
  replace p7 := (hb5.block _ (lt_heap p7)).trans p7
  replace p9 := (hb5.block _ (lt_heap p9)).trans p9
  replace hs9 := hs9.mono hb5
  replace hbw := below_step hbw hb5
  replace hqr := hqr.mono hb5
  replace hrr := hrr.mono hb5
  clear hs hb1 hb2 hb3 hb4 hb5
  have cp4 := cell_of_one p4
  have lp4 := lt_heap p4
  have cp7 := cell_of_one p7
  have lp7 := lt_heap p7
  have hs := hs0.mono hbw
  have ht := hts0.mono hbw
  go_wp2_with fail
  refine wp_region_mix (by kernel_rfl) (by kernel_rfl) ?_
  repeat (go_big_quiet_step (first
    | (go_at_call 28; refine calls_mix (v := .bool true) ?_; exact stored_any _)
    | (go_at_call 29; refine calls_mix (v := .int .i64 (checkE s)) ?_; exact check_any _ _ _ _ s HN.out hn63 (hs.mono (mix_below _ _)) hwf)
    | (go_at_call 43; refine calls_mix (v := .bool (sameS s t)) ?_; exact same_any _ _ _ _ _ _ _ s t HN.out HT.out hn63 (by omega) (hs.mono (mix_below _ _)) (ht.mono (mix_below _ _)) hwf htwf)
    | (go_at_call 37; refine calls_mix (v := .bool (sameS s t)) ?_; exact sameStore_any _ _ _ _ _ _ _ s t HN.out HT.out hn63 (by omega) (hs.mono (mix_below _ _)) (ht.mono (mix_below _ _)) hwf htwf)))
  refine wpQuiet_nil ?_
  intro w6 hb6
  clear cp4 lp4 cp7 lp7
  clear hs ht
  replace p4 := (hb6.block _ (lt_heap p4)).trans p4
  replace p7 := (hb6.block _ (lt_heap p7)).trans p7
  replace p9 := (hb6.block _ (lt_heap p9)).trans p9
  replace hs9 := hs9.mono hb6
  replace hbw := below_step hbw hb6
  replace hqr := hqr.mono hb6
  replace hrr := hrr.mono hb6
  have cp9 := cell_of_one p9
  have lp9 := lt_heap p9
  have cp4 := cell_of_one p4
  have lp4 := lt_heap p4
  have hs := hs0.mono hbw
  go_wp2
  clear cp4 lp4
  clear cp9 lp9
  clear hs9 p7 p9
  generalize hW8 : w6 = W8 at *
  clear hW8
  go_loopw [18, 115] (fun u i wr => ∃ q : Nat, q ≤ n ∧ i = .int .i64 q ∧ u = .int .i64 (usedN (s.take q)) ∧ Below W8.heap.size W8 wr) (fun _ i _ => n - (intOf i).toNat)
  case atStart => exact ⟨0, Nat.zero_le _, rfl, rfl, Below.refl _ _⟩
  case round =>
    obtain ⟨q, hqn, rfl, rfl, hbel⟩ := hrel
    by_cases hlt : q < n
    · have hks : q < s.length := by have := HN.out; omega
      obtain ⟨b, o, rfl, hq⟩ := (hs.mono hbel).at q hks
      have hB := hq q hks
      have c0 := hB.refs
      have c1' := hB.level
      obtain ⟨v2, c2, kao, kcap, rfl, hrow, hcd⟩ := hB.kids
      obtain ⟨v3, c3, bao, bcap, rfl, hrow3, hcd3⟩ := hB.bytes
      have lb := hB.lt
      have HKT := Lib.hid (show usedN (s.take (q + 1)) = _ by rw [List.take_succ_eq_append_getElem hks, usedN_snoc])
      have hub := usedN_bd (s.take q)
      have hu1 := hub.1
      have hu2 : usedN (s.take q) ≤ 400 := by have := hub.2; simp at this; omega
      clear hq hB hrow hrow3 hcd hcd3 hub
      generalize s[q] = x at *
      by_cases hpos : 0 < x.refs
      · go_wp2
        go_roundw
        case rel => exact ⟨q + 1, by omega, by go_num, by rw [HKT.out, if_pos hpos], below_step hbel ((Below.refl _ _).alloc (Nat.le_refl _) _)⟩
        case measure => simp [intOf]; omega
      · go_wp2
        go_roundw
        case rel => exact ⟨q + 1, by omega, by go_num, by rw [HKT.out, if_neg (by omega), Int.add_zero], below_step hbel ((Below.refl _ _).alloc (Nat.le_refl _) _)⟩
        case measure => simp [intOf]; omega
    · obtain rfl : q = n := by omega
      have htk : s.take q = s := List.take_of_length_le (by have := HN.out; omega)
      rw [htk]
      clear htk hs
      generalize wr = w8 at *
      replace p4 := (hbel.block _ (lt_heap p4)).trans p4
      replace hbw := below_step hbw hbel
      replace hqr := hqr.mono hbel
      replace hrr := hrr.mono hbel
      obtain ⟨_, hfo, hki, hri, _⟩ := checkE_zero s HCE.out
      have cp4 := cell_of_one p4
      have lp4 := lt_heap p4
      have hs := hs0.mono hbw
      generalize usedN s = us at *
      go_wp2_with fail
      clear cp4 lp4
      refine (outsideOf_any _ _ _ _ s HN.out h400 hs hki hri).mono ?_
      rintro e w9 ⟨v9, rfl, hown, hb9⟩
      obtain ⟨oo, oc, hov, _, _, hor, _⟩ := hown.shape'
      rw [outL_length, HN.out] at hov
      subst hov
      clear hown hs hki hri
      replace p4 := (hb9.block _ (lt_heap p4)).trans p4
      replace hbw := below_step hbw hb9
      replace hqr := hqr.mono hb9
      replace hrr := hrr.mono hb9
      have hol : (outL s).length = q := by rw [outL_length]; exact HN.out
      have HOL := Lib.hid hol
      clear hol
      go_wp2_with fail
      refine (slices_equal_int _ _ _ _ _ _ (outL s) (outL s) _ HOL.out HOL.out hqr hor (by omega)).mono ?_
      rw [show (outL s == outL s) = true from by simp]
      rintro e w10 ⟨rfl, hb10⟩
      clear hqr hor
      replace p4 := (hb10.block _ (lt_heap p4)).trans p4
      replace hbw := below_step hbw hb10
      replace hrr := hrr.mono hb10
      go_wp2
      go_loopw [145] (fun i wr => ∃ j : Nat, j ≤ rn ∧ i = .int .i64 j ∧ rootsOk s (R.take j) = true ∧ Below w10.heap.size w10 wr) (fun i _ => rn - (intOf i).toNat)
      case atStart => exact ⟨0, Nat.zero_le _, rfl, rfl, Below.refl _ _⟩
      case round =>
        obtain ⟨j, hj, rfl, hok, hbel⟩ := hrel
        have hbr := below_step hbw hbel
        by_cases hlt : j < rn
        · have hjl : j < R.length := by have := HZ.out; omega
          obtain ⟨rb, rof, rfl, hrc⟩ := (hr.mono hbr).at j hjl
          have hck := hrc j hjl
          have lk := World.block_lt_of_cell? _ _ hck
          have hjn : (j : Int) < rn := by omega
          have hts := List.take_succ_eq_append_getElem hjl
          have hmem := List.getElem_mem hjl
          have HTS := Lib.hid hts
          have HMEM := Lib.hid hmem
          have HOK := Lib.hid hok
          have q4 := (hbel.block _ (lt_heap p4)).trans p4
          have c4 := cell_of_one q4
          have l4 := lt_heap q4
          have hs := hs0.mono hbr
          clear hrc hts hmem hok hw
          generalize R[j] = y at *
          by_cases hy : y = 0
          · subst hy
            clear hs
            go_wp2
            go_roundw
            case rel => exact ⟨j + 1, by omega, by go_num, by rw [HTS.out, rootsOk_snoc, HOK.out]; rfl, hbel⟩
            case measure => simp [intOf]; omega
          · have hy1 : (y != 0) = true := by rw [bne_iff_ne]; exact hy
            cases hyt : thereB s y with
            | true =>
              go_wp2_with fail
              refine (ref_there_is _ _ _ _ s y true hyt HN.out hn63 hs).mono ?_
              rintro e w11 ⟨rfl, hb11⟩
              have hbx := below_step hbel hb11
              have HO2 : Hid (rootsOk s (R.take (j + 1)) = true) := Lib.hid (by rw [HTS.out, rootsOk_snoc, HOK.out, hyt]; simp)
              clear hs hy
              go_wp2
              go_roundw
              case rel => exact ⟨j + 1, by omega, by go_num, HO2.out, hbx⟩
              case measure => simp [intOf]; omega
            | false =>
              have e5 : reachR s R = ([], 5) := by unfold reachR; rw [if_neg (by simp [HCE.out]), if_pos (rootsOk_bad HMEM.out hy hyt)]
              have hq0 : qr = 0 := by have := HQR.out; rw [e5] at this; exact this.symm
              rw [e5]
              subst hq0
              clear e5 HQR
              go_wp2_with fail
              refine (ref_there_is _ _ _ _ s y false hyt HN.out hn63 hs).mono ?_
              rintro e w11 ⟨rfl, hb11⟩
              have hbx := below_step hbr hb11
              clear hs hy
              go_wp2
              go_ret
              exact ⟨rfl, hbx⟩
        · obtain rfl : j = rn := by omega
          have htk : R.take j = R := List.take_of_length_le (by have := HZ.out; omega)
          rw [htk] at hok
          have e0 : reachR s R = (reachL s R, 0) := by unfold reachR; rw [if_neg (by simp [HCE.out]), if_neg (by simp [hok])]
          rw [e0]
          rw [e0] at HQR hrr
          simp only at HQR hrr
          replace hrr := hrr.mono hbel
          have q4 := (hbel.block _ (lt_heap p4)).trans p4
          have c4 := cell_of_one q4
          have l4 := lt_heap q4
          have hs := hs0.mono hbr
          have hlr : qr ≤ 400 := by have := HQR.out; rw [reachL_sel] at this; have := selTo_len (fun i => decide ((i : Int) + 1 ∈ allF s R)) s.length; have := HN.out; omega
          have HRO := reachOf_any wr ao ro q cap j rc s R HN.out h400 hs hwf (tiers_of s hfo) (kids4_there hfo) hok HZ.out (by omega) (hr.mono hbr)
          have HRO := Lib.hid HRO
          clear htk e0 hok hs
          go_wp2_with fail
          refine HRO.out.mono ?_
          rintro e w11 ⟨a11, c11, rfl, hr11, hb11⟩
          rw [HQR.out]
          replace hrr := hrr.mono hb11
          replace hbr := below_step hbr hb11
          clear HRO c4 l4
          go_wp2_with fail
          refine (slices_equal_int _ _ _ _ _ _ (reachL s R) (reachL s R) _ HQR.out HQR.out hrr hr11 (by omega)).mono ?_
          rw [show (reachL s R == reachL s R) = true from by simp]
          rintro e w12 ⟨rfl, hb12⟩
          have hbz := below_step hbr hb12
          go_wp2
          go_ret
          exact ⟨rfl, hbz⟩
          
set_option maxRecDepth 100000 in
set_option maxHeartbeats 8000000 in
theorem law_tells_ok_big (w : World) (ao ro te : Option Addr) (n cap rn rc tn tc : Nat) (s t : List Blk) (R : List Int) (k : Int) (hn : s.length = n) (h41 : n ≤ 2199023255552) (hs : StoRow w ao s) (hwf : WfS s)
    (hz : R.length = rn) (hr : Row .i64 w ro R) (hw : ∀ k ∈ R, I64 k) (hb : rn ≤ 17592186044416) (htn : t.length = tn) (ht41 : tn ≤ 2199023255552) (hts : StoRow w te t) (htwf : WfS t) (hce : checkE s = 0) (hk : 400 < k) :
    Calls Try.prog 16 #[.agg #[.slice ao n cap], .int .i64 k, .slice ro rn rc, .agg #[.slice te tn tc]] w fun e w' => e = .returned (.bool true) ∧ Below w.heap.size w w' := by
  have HN := Lib.hid hn
  have HZ := Lib.hid hz
  have HT := Lib.hid htn
  have hs0 := hs
  have hts0 := hts
  have hn63 : n ≤ 1152921504606846976 := by omega
  have HCE := Lib.hid hce
  have h400 : n ≤ 400 := by have := (checkE_zero s hce).1; omega
  have he1 : (checkE s != 0) = false := by rw [hce]; rfl
  have he0 : (checkE s == 0) = true := by rw [hce]; rfl
  clear hn hz htn hs hts hce
  have HNW := Lib.hid (show newR k = ([], 3) by unfold newR; rw [if_pos (by omega)])
  have hk2 : ¬ k < 0 := by omega
  have hbw : Below w.heap.size w ((w.alloc (.cells #[.slice ao n cap] 40)).alloc (.cells #[.slice te tn tc] 40)) := ((Below.refl _ _).alloc (Nat.le_refl _) _).alloc (by simp) _
  have p4 : ((w.alloc (.cells #[.slice ao n cap] 40)).alloc (.cells #[.slice te tn tc] 40)).heap[w.heap.size]? = some (.cells #[.slice ao n cap] 40 (0, 0)) := heap_alloc2_old _ _ _
  have p7 : ((w.alloc (.cells #[.slice ao n cap] 40)).alloc (.cells #[.slice te tn tc] 40)).heap[w.heap.size + 1]? = some (.cells #[.slice te tn tc] 40 (0, 0)) := heap_alloc2_new _ _ _
  go_enter Try.func16, Try.ntmps16
  go_wp2_with fail
  generalize (w.alloc (Obj.cells #[Value.slice ao n cap] 40)).alloc (Obj.cells #[Value.slice te tn tc] 40) = W0 at *
  have HM := new_any W0 k
  rw [HNW.out] at HM
  refine HM.mono ?_
  rintro e w1 ⟨v1, rfl, ho, hb1⟩
  clear HM
  replace p4 := (hb1.block _ (lt_heap p4)).trans p4
  replace p7 := (hb1.block _ (lt_heap p7)).trans p7
  replace hbw := below_step hbw hb1
  obtain ⟨a9, cc9, hv, hc9, hs9⟩ := ho.sto
  simp only [List.length_nil] at hv hc9
  subst hv
  clear ho
  have cp4 := cell_of_one p4
  have lp4 := lt_heap p4
  go_wp2_with fail
  clear cp4 lp4
  have hA : Below w1.heap.size w1 (w1.alloc (.cells #[.slice a9 0 cc9] 40)) := (Below.refl _ _).alloc (Nat.le_refl _) _
  have p9 : (w1.alloc (.cells #[.slice a9 0 cc9] 40)).heap[w1.heap.size]? = some (.cells #[.slice a9 0 cc9] 40 (0, 0)) := heap_alloc_new _ _
  replace p4 := (hA.block _ (lt_heap p4)).trans p4
  replace p7 := (hA.block _ (lt_heap p7)).trans p7
  replace hs9 := hs9.mono hA
  replace hbw := below_step hbw hA
  generalize w1.alloc (Obj.cells #[Value.slice a9 0 cc9] 40) = W1 at *
  clear hA
  have hs := hs0.mono hbw
  refine (outside_ok _ _ _ _ s HN.out hs hwf HCE.out).mono ?_
  rintro e w2 ⟨qo, rfl, hown, hb2⟩
  obtain ⟨q2, qc, hqv, _, _, hqr, _⟩ := hown.shape'
  simp only [Value.slice.injEq] at hqv
  obtain ⟨hq1, hq2, hq3⟩ := hqv
  subst hq1
  clear hq2 hq3 hown
  replace p4 := (hb2.block _ (lt_heap p4)).trans p4
  replace p7 := (hb2.block _ (lt_heap p7)).trans p7
  replace p9 := (hb2.block _ (lt_heap p9)).trans p9
  replace hs9 := hs9.mono hb2
  replace hbw := below_step hbw hb2
  have cp4 := cell_of_one p4
  have lp4 := lt_heap p4
  clear hs
  have hs := hs0.mono hbw
  go_wp2_with fail
  clear cp4 lp4
  refine (used_ok _ _ _ _ s HN.out hs hwf HCE.out).mono ?_
  rintro e w3 ⟨rfl, hb3⟩
  replace p4 := (hb3.block _ (lt_heap p4)).trans p4
  replace p7 := (hb3.block _ (lt_heap p7)).trans p7
  replace p9 := (hb3.block _ (lt_heap p9)).trans p9
  replace hs9 := hs9.mono hb3
  replace hbw := below_step hbw hb3
  replace hqr := hqr.mono hb3
  have cp4 := cell_of_one p4
  have lp4 := lt_heap p4
  clear hs
  have hs := hs0.mono hbw
  go_wp2_with fail
  clear cp4 lp4
  have HM := reach_any w3 ao ro n cap rn rc s R HN.out hn63 hs hwf HZ.out (by omega) (hr.mono hbw) hw
  refine HM.mono ?_
  rintro e w4 ⟨v4, rfl, hown, hb4⟩
  clear HM
  obtain ⟨ar, cr, hvr, _, _, hrr, _⟩ := hown.shape'
  obtain ⟨qr, hqr2⟩ : ∃ q, (reachR s R).1.length = q := ⟨_, rfl⟩
  rw [hqr2] at hvr
  have HQR := Lib.hid hqr2
  clear hqr2
  subst hvr
  clear hown
  replace p4 := (hb4.block _ (lt_heap p4)).trans p4
  replace p7 := (hb4.block _ (lt_heap p7)).trans p7
  replace p9 := (hb4.block _ (lt_heap p9)).trans p9
  replace hs9 := hs9.mono hb4
  replace hbw := below_step hbw hb4
  replace hqr := hqr.mono hb4
  have cp4 := cell_of_one p4
  have lp4 := lt_heap p4
  clear hs
  have hs := hs0.mono hbw
  go_wp2_with fail
  clear cp4 lp4
  refine (checkStore_any _ _ _ _ s HN.out hn63 hs hwf).mono ?_
  rintro e w5 ⟨rfl, hb5⟩
  replace p4 := (hb5.block _ (lt_heap p4)).trans p4
  replace p7 := (hb5.block _ (lt_heap p7)).trans p7
  replace p9 := (hb5.block _ (lt_heap p9)).trans p9
  replace hs9 := hs9.mono hb5
  replace hbw := below_step hbw hb5
  replace hqr := hqr.mono hb5
  replace hrr := hrr.mono hb5
  clear hs hb1 hb2 hb3 hb4 hb5
  have cp4 := cell_of_one p4
  have lp4 := lt_heap p4
  have cp7 := cell_of_one p7
  have lp7 := lt_heap p7
  have hs := hs0.mono hbw
  have ht := hts0.mono hbw
  go_wp2_with fail
  refine wp_region_mix (by kernel_rfl) (by kernel_rfl) ?_
  repeat (go_big_quiet_step (first
    | (go_at_call 28; refine calls_mix (v := .bool true) ?_; exact stored_any _)
    | (go_at_call 29; refine calls_mix (v := .int .i64 (checkE s)) ?_; exact check_any _ _ _ _ s HN.out hn63 (hs.mono (mix_below _ _)) hwf)
    | (go_at_call 43; refine calls_mix (v := .bool (sameS s t)) ?_; exact same_any _ _ _ _ _ _ _ s t HN.out HT.out hn63 (by omega) (hs.mono (mix_below _ _)) (ht.mono (mix_below _ _)) hwf htwf)
    | (go_at_call 37; refine calls_mix (v := .bool (sameS s t)) ?_; exact sameStore_any _ _ _ _ _ _ _ s t HN.out HT.out hn63 (by omega) (hs.mono (mix_below _ _)) (ht.mono (mix_below _ _)) hwf htwf)))
  refine wpQuiet_nil ?_
  intro w6 hb6
  clear cp4 lp4 cp7 lp7
  clear hs ht
  replace p4 := (hb6.block _ (lt_heap p4)).trans p4
  replace p7 := (hb6.block _ (lt_heap p7)).trans p7
  replace p9 := (hb6.block _ (lt_heap p9)).trans p9
  replace hs9 := hs9.mono hb6
  replace hbw := below_step hbw hb6
  replace hqr := hqr.mono hb6
  replace hrr := hrr.mono hb6
  have cp9 := cell_of_one p9
  have lp9 := lt_heap p9
  have cp4 := cell_of_one p4
  have lp4 := lt_heap p4
  have hs := hs0.mono hbw
  go_wp2
  clear cp4 lp4
  clear cp9 lp9
  clear hs9 p7 p9
  generalize hW8 : w6 = W8 at *
  clear hW8
  go_loopw [18, 115] (fun u i wr => ∃ q : Nat, q ≤ n ∧ i = .int .i64 q ∧ u = .int .i64 (usedN (s.take q)) ∧ Below W8.heap.size W8 wr) (fun _ i _ => n - (intOf i).toNat)
  case atStart => exact ⟨0, Nat.zero_le _, rfl, rfl, Below.refl _ _⟩
  case round =>
    obtain ⟨q, hqn, rfl, rfl, hbel⟩ := hrel
    by_cases hlt : q < n
    · have hks : q < s.length := by have := HN.out; omega
      obtain ⟨b, o, rfl, hq⟩ := (hs.mono hbel).at q hks
      have hB := hq q hks
      have c0 := hB.refs
      have c1' := hB.level
      obtain ⟨v2, c2, kao, kcap, rfl, hrow, hcd⟩ := hB.kids
      obtain ⟨v3, c3, bao, bcap, rfl, hrow3, hcd3⟩ := hB.bytes
      have lb := hB.lt
      have HKT := Lib.hid (show usedN (s.take (q + 1)) = _ by rw [List.take_succ_eq_append_getElem hks, usedN_snoc])
      have hub := usedN_bd (s.take q)
      have hu1 := hub.1
      have hu2 : usedN (s.take q) ≤ 400 := by have := hub.2; simp at this; omega
      clear hq hB hrow hrow3 hcd hcd3 hub
      generalize s[q] = x at *
      by_cases hpos : 0 < x.refs
      · go_wp2
        go_roundw
        case rel => exact ⟨q + 1, by omega, by go_num, by rw [HKT.out, if_pos hpos], below_step hbel ((Below.refl _ _).alloc (Nat.le_refl _) _)⟩
        case measure => simp [intOf]; omega
      · go_wp2
        go_roundw
        case rel => exact ⟨q + 1, by omega, by go_num, by rw [HKT.out, if_neg (by omega), Int.add_zero], below_step hbel ((Below.refl _ _).alloc (Nat.le_refl _) _)⟩
        case measure => simp [intOf]; omega
    · obtain rfl : q = n := by omega
      have htk : s.take q = s := List.take_of_length_le (by have := HN.out; omega)
      rw [htk]
      clear htk hs
      generalize wr = w8 at *
      replace p4 := (hbel.block _ (lt_heap p4)).trans p4
      replace hbw := below_step hbw hbel
      replace hqr := hqr.mono hbel
      replace hrr := hrr.mono hbel
      obtain ⟨_, hfo, hki, hri, _⟩ := checkE_zero s HCE.out
      have cp4 := cell_of_one p4
      have lp4 := lt_heap p4
      have hs := hs0.mono hbw
      generalize usedN s = us at *
      go_wp2_with fail
      clear cp4 lp4
      refine (outsideOf_any _ _ _ _ s HN.out h400 hs hki hri).mono ?_
      rintro e w9 ⟨v9, rfl, hown, hb9⟩
      obtain ⟨oo, oc, hov, _, _, hor, _⟩ := hown.shape'
      rw [outL_length, HN.out] at hov
      subst hov
      clear hown hs hki hri
      replace p4 := (hb9.block _ (lt_heap p4)).trans p4
      replace hbw := below_step hbw hb9
      replace hqr := hqr.mono hb9
      replace hrr := hrr.mono hb9
      have hol : (outL s).length = q := by rw [outL_length]; exact HN.out
      have HOL := Lib.hid hol
      clear hol
      go_wp2_with fail
      refine (slices_equal_int _ _ _ _ _ _ (outL s) (outL s) _ HOL.out HOL.out hqr hor (by omega)).mono ?_
      rw [show (outL s == outL s) = true from by simp]
      rintro e w10 ⟨rfl, hb10⟩
      clear hqr hor
      replace p4 := (hb10.block _ (lt_heap p4)).trans p4
      replace hbw := below_step hbw hb10
      replace hrr := hrr.mono hb10
      go_wp2
      go_loopw [145] (fun i wr => ∃ j : Nat, j ≤ rn ∧ i = .int .i64 j ∧ rootsOk s (R.take j) = true ∧ Below w10.heap.size w10 wr) (fun i _ => rn - (intOf i).toNat)
      case atStart => exact ⟨0, Nat.zero_le _, rfl, rfl, Below.refl _ _⟩
      case round =>
        obtain ⟨j, hj, rfl, hok, hbel⟩ := hrel
        have hbr := below_step hbw hbel
        by_cases hlt : j < rn
        · have hjl : j < R.length := by have := HZ.out; omega
          obtain ⟨rb, rof, rfl, hrc⟩ := (hr.mono hbr).at j hjl
          have hck := hrc j hjl
          have lk := World.block_lt_of_cell? _ _ hck
          have hjn : (j : Int) < rn := by omega
          have hts := List.take_succ_eq_append_getElem hjl
          have hmem := List.getElem_mem hjl
          have HTS := Lib.hid hts
          have HMEM := Lib.hid hmem
          have HOK := Lib.hid hok
          have q4 := (hbel.block _ (lt_heap p4)).trans p4
          have c4 := cell_of_one q4
          have l4 := lt_heap q4
          have hs := hs0.mono hbr
          clear hrc hts hmem hok hw
          generalize R[j] = y at *
          by_cases hy : y = 0
          · subst hy
            clear hs
            go_wp2
            go_roundw
            case rel => exact ⟨j + 1, by omega, by go_num, by rw [HTS.out, rootsOk_snoc, HOK.out]; rfl, hbel⟩
            case measure => simp [intOf]; omega
          · have hy1 : (y != 0) = true := by rw [bne_iff_ne]; exact hy
            cases hyt : thereB s y with
            | true =>
              go_wp2_with fail
              refine (ref_there_is _ _ _ _ s y true hyt HN.out hn63 hs).mono ?_
              rintro e w11 ⟨rfl, hb11⟩
              have hbx := below_step hbel hb11
              have HO2 : Hid (rootsOk s (R.take (j + 1)) = true) := Lib.hid (by rw [HTS.out, rootsOk_snoc, HOK.out, hyt]; simp)
              clear hs hy
              go_wp2
              go_roundw
              case rel => exact ⟨j + 1, by omega, by go_num, HO2.out, hbx⟩
              case measure => simp [intOf]; omega
            | false =>
              have e5 : reachR s R = ([], 5) := by unfold reachR; rw [if_neg (by simp [HCE.out]), if_pos (rootsOk_bad HMEM.out hy hyt)]
              have hq0 : qr = 0 := by have := HQR.out; rw [e5] at this; exact this.symm
              rw [e5]
              subst hq0
              clear e5 HQR
              go_wp2_with fail
              refine (ref_there_is _ _ _ _ s y false hyt HN.out hn63 hs).mono ?_
              rintro e w11 ⟨rfl, hb11⟩
              have hbx := below_step hbr hb11
              clear hs hy
              go_wp2
              go_ret
              exact ⟨rfl, hbx⟩
        · obtain rfl : j = rn := by omega
          have htk : R.take j = R := List.take_of_length_le (by have := HZ.out; omega)
          rw [htk] at hok
          have e0 : reachR s R = (reachL s R, 0) := by unfold reachR; rw [if_neg (by simp [HCE.out]), if_neg (by simp [hok])]
          rw [e0]
          rw [e0] at HQR hrr
          simp only at HQR hrr
          replace hrr := hrr.mono hbel
          have q4 := (hbel.block _ (lt_heap p4)).trans p4
          have c4 := cell_of_one q4
          have l4 := lt_heap q4
          have hs := hs0.mono hbr
          have hlr : qr ≤ 400 := by have := HQR.out; rw [reachL_sel] at this; have := selTo_len (fun i => decide ((i : Int) + 1 ∈ allF s R)) s.length; have := HN.out; omega
          have HRO := reachOf_any wr ao ro q cap j rc s R HN.out h400 hs hwf (tiers_of s hfo) (kids4_there hfo) hok HZ.out (by omega) (hr.mono hbr)
          have HRO := Lib.hid HRO
          clear htk e0 hok hs
          go_wp2_with fail
          refine HRO.out.mono ?_
          rintro e w11 ⟨a11, c11, rfl, hr11, hb11⟩
          rw [HQR.out]
          replace hrr := hrr.mono hb11
          replace hbr := below_step hbr hb11
          clear HRO c4 l4
          go_wp2_with fail
          refine (slices_equal_int _ _ _ _ _ _ (reachL s R) (reachL s R) _ HQR.out HQR.out hrr hr11 (by omega)).mono ?_
          rw [show (reachL s R == reachL s R) = true from by simp]
          rintro e w12 ⟨rfl, hb12⟩
          have hbz := below_step hbr hb12
          go_wp2
          go_ret
          exact ⟨rfl, hbz⟩
          
set_option maxRecDepth 100000 in
set_option maxHeartbeats 8000000 in
theorem law_tells_bad_fine (w : World) (ao ro te : Option Addr) (n cap rn rc tn tc : Nat) (s t : List Blk) (R : List Int) (k : Int) (hn : s.length = n) (h41 : n ≤ 2199023255552) (hs : StoRow w ao s) (hwf : WfS s)
    (hz : R.length = rn) (hr : Row .i64 w ro R) (hw : ∀ k ∈ R, I64 k) (hb : rn ≤ 17592186044416) (htn : t.length = tn) (ht41 : tn ≤ 2199023255552) (hts : StoRow w te t) (htwf : WfS t) (hce : checkE s ≠ 0) (hk0 : 0 ≤ k) (hk4 : k ≤ 400) :
    Calls Try.prog 16 #[.agg #[.slice ao n cap], .int .i64 k, .slice ro rn rc, .agg #[.slice te tn tc]] w fun e w' => e = .returned (.bool true) ∧ Below w.heap.size w w' := by
  have HN := Lib.hid hn
  have HZ := Lib.hid hz
  have HT := Lib.hid htn
  have hs0 := hs
  have hts0 := hts
  have hn63 : n ≤ 1152921504606846976 := by omega
  have HCE := Lib.hid hce
  have he1 : (checkE s != 0) = true := by rw [bne_iff_ne]; exact hce
  have he0 : (checkE s == 0) = false := by rw [beq_eq_false_iff_ne]; exact hce
  clear hn hz htn hs hts hce
  obtain ⟨m, rfl⟩ : ∃ m : Nat, k = m := ⟨k.toNat, by omega⟩
  have hm : m ≤ 400 := by omega
  have hd2 : ¬ (400 < (m : Int)) := by omega
  have HNW := Lib.hid (show newR (m : Int) = (List.replicate m noBlk, 0) by unfold newR; rw [if_neg (by omega)]; simp)
  clear hk0 hk4
  have hbw : Below w.heap.size w ((w.alloc (.cells #[.slice ao n cap] 40)).alloc (.cells #[.slice te tn tc] 40)) := ((Below.refl _ _).alloc (Nat.le_refl _) _).alloc (by simp) _
  have p4 : ((w.alloc (.cells #[.slice ao n cap] 40)).alloc (.cells #[.slice te tn tc] 40)).heap[w.heap.size]? = some (.cells #[.slice ao n cap] 40 (0, 0)) := heap_alloc2_old _ _ _
  have p7 : ((w.alloc (.cells #[.slice ao n cap] 40)).alloc (.cells #[.slice te tn tc] 40)).heap[w.heap.size + 1]? = some (.cells #[.slice te tn tc] 40 (0, 0)) := heap_alloc2_new _ _ _
  go_enter Try.func16, Try.ntmps16
  go_wp2_with fail
  generalize (w.alloc (Obj.cells #[Value.slice ao n cap] 40)).alloc (Obj.cells #[Value.slice te tn tc] 40) = W0 at *
  have HM := new_any W0 (m : Int)
  rw [HNW.out] at HM
  refine HM.mono ?_
  rintro e w1 ⟨v1, rfl, ho, hb1⟩
  clear HM
  replace p4 := (hb1.block _ (lt_heap p4)).trans p4
  replace p7 := (hb1.block _ (lt_heap p7)).trans p7
  replace hbw := below_step hbw hb1
  obtain ⟨a9, cc9, hv, hc9, hs9⟩ := ho.sto
  simp only [List.length_replicate] at hv hc9
  subst hv
  clear ho
  have cp4 := cell_of_one p4
  have lp4 := lt_heap p4
  go_wp2_with fail
  clear cp4 lp4
  have hA : Below w1.heap.size w1 (w1.alloc (.cells #[.slice a9 m cc9] 40)) := (Below.refl _ _).alloc (Nat.le_refl _) _
  have p9 : (w1.alloc (.cells #[.slice a9 m cc9] 40)).heap[w1.heap.size]? = some (.cells #[.slice a9 m cc9] 40 (0, 0)) := heap_alloc_new _ _
  replace p4 := (hA.block _ (lt_heap p4)).trans p4
  replace p7 := (hA.block _ (lt_heap p7)).trans p7
  replace hs9 := hs9.mono hA
  replace hbw := below_step hbw hA
  generalize w1.alloc (Obj.cells #[Value.slice a9 m cc9] 40) = W1 at *
  clear hA
  have hs := hs0.mono hbw
  refine (outside_bad _ _ _ _ s HN.out hn63 hs hwf HCE.out).mono ?_
  rintro e w2 ⟨rfl, hb2⟩
  replace p4 := (hb2.block _ (lt_heap p4)).trans p4
  replace p7 := (hb2.block _ (lt_heap p7)).trans p7
  replace p9 := (hb2.block _ (lt_heap p9)).trans p9
  replace hs9 := hs9.mono hb2
  replace hbw := below_step hbw hb2
  have cp4 := cell_of_one p4
  have lp4 := lt_heap p4
  clear hs
  have hs := hs0.mono hbw
  go_wp2_with fail
  clear cp4 lp4
  refine (used_bad _ _ _ _ s HN.out hn63 hs hwf HCE.out).mono ?_
  rintro e w3 ⟨rfl, hb3⟩
  replace p4 := (hb3.block _ (lt_heap p4)).trans p4
  replace p7 := (hb3.block _ (lt_heap p7)).trans p7
  replace p9 := (hb3.block _ (lt_heap p9)).trans p9
  replace hs9 := hs9.mono hb3
  replace hbw := below_step hbw hb3
  have cp4 := cell_of_one p4
  have lp4 := lt_heap p4
  clear hs
  have hs := hs0.mono hbw
  go_wp2_with fail
  clear cp4 lp4
  have HM := reach_any w3 ao ro n cap rn rc s R HN.out hn63 hs hwf HZ.out (by omega) (hr.mono hbw) hw
  rw [show reachR s R = ([], checkE s) from by unfold reachR; rw [if_pos HCE.out]] at HM
  refine HM.mono ?_
  rintro e w4 ⟨v4, rfl, hown, hb4⟩
  clear HM
  obtain ⟨ar, cr, hvr, _, _, hrr, _⟩ := hown.shape'
  simp only [List.length_nil] at hvr
  subst hvr
  clear hown
  replace p4 := (hb4.block _ (lt_heap p4)).trans p4
  replace p7 := (hb4.block _ (lt_heap p7)).trans p7
  replace p9 := (hb4.block _ (lt_heap p9)).trans p9
  replace hs9 := hs9.mono hb4
  replace hbw := below_step hbw hb4
  have cp4 := cell_of_one p4
  have lp4 := lt_heap p4
  clear hs
  have hs := hs0.mono hbw
  go_wp2_with fail
  clear cp4 lp4
  refine (checkStore_any _ _ _ _ s HN.out hn63 hs hwf).mono ?_
  rintro e w5 ⟨rfl, hb5⟩
  replace p4 := (hb5.block _ (lt_heap p4)).trans p4
  replace p7 := (hb5.block _ (lt_heap p7)).trans p7
  replace p9 := (hb5.block _ (lt_heap p9)).trans p9
  replace hs9 := hs9.mono hb5
  replace hbw := below_step hbw hb5
  clear hs hb1 hb2 hb3 hb4 hb5
  have cp4 := cell_of_one p4
  have lp4 := lt_heap p4
  have cp7 := cell_of_one p7
  have lp7 := lt_heap p7
  have hs := hs0.mono hbw
  have ht := hts0.mono hbw
  go_wp2_with fail
  refine wp_region_mix (by kernel_rfl) (by kernel_rfl) ?_
  repeat (go_big_quiet_step (first
    | (go_at_call 28; refine calls_mix (v := .bool true) ?_; exact stored_any _)
    | (go_at_call 29; refine calls_mix (v := .int .i64 (checkE s)) ?_; exact check_any _ _ _ _ s HN.out hn63 (hs.mono (mix_below _ _)) hwf)
    | (go_at_call 43; refine calls_mix (v := .bool (sameS s t)) ?_; exact same_any _ _ _ _ _ _ _ s t HN.out HT.out hn63 (by omega) (hs.mono (mix_below _ _)) (ht.mono (mix_below _ _)) hwf htwf)
    | (go_at_call 37; refine calls_mix (v := .bool (sameS s t)) ?_; exact sameStore_any _ _ _ _ _ _ _ s t HN.out HT.out hn63 (by omega) (hs.mono (mix_below _ _)) (ht.mono (mix_below _ _)) hwf htwf)))
  refine wpQuiet_nil ?_
  intro w6 hb6
  clear cp4 lp4 cp7 lp7
  clear hs ht
  replace p4 := (hb6.block _ (lt_heap p4)).trans p4
  replace p7 := (hb6.block _ (lt_heap p7)).trans p7
  replace p9 := (hb6.block _ (lt_heap p9)).trans p9
  replace hs9 := hs9.mono hb6
  replace hbw := below_step hbw hb6
  have hmk := make_free m hm
  have hd3 : ¬ ((m : Int) < 0) := by omega
  have hd4 : ¬ (400 < (m : Int)) := by omega
  go_upto_region 11 with fail
  generalize w6 = W6 at *
  go_cut [86] (fun u wx => u = .bool false ∧ Below W6.heap.size W6 wx)
  case first =>
    have c9 := cell_of_one p9
    have l9 := lt_heap p9
    have bA : Below W6.heap.size W6 (W6.alloc (.cells (freeCells m) 50)).drew := ((Below.refl _ _).alloc (Nat.le_refl _) _).drew
    have gA : (W6.alloc (.cells (freeCells m) 50)).drew.heap[W6.heap.size]? = some (.cells (freeCells m) 50 (0, 0)) := heap_alloc_new W6 _
    have rA := (free_row _ W6.heap.size _ m (Nat.le_refl _) gA).row
    have hsA := hs9.mono bA
    have s0 : W6.drew.cell? ⟨w1.heap.size, 0, none⟩ = some (.slice a9 m cc9) := c9
    have sA : (W6.alloc (.cells (freeCells m) 50)).drew.cell? ⟨w1.heap.size, 0, none⟩ = some (.slice a9 m cc9) := (bA.cell (p := ⟨w1.heap.size, 0, none⟩) l9).trans c9
    go_region_held3 (fun w' => w'.cell? ⟨w1.heap.size, 0, none⟩ = some (.slice a9 m cc9)) (first | with_reducible exact s0 | with_reducible exact sA | with_reducible exact s7) (first
      | (go_at_call 37; refine (same_yes _ _ _ _ _ _ _ (List.replicate m noBlk) (List.length_replicate ..) (List.length_replicate ..) (by omega) hsA rA (wf_free m)).mono ?_; rintro e w7 ⟨rfl, hb7⟩; have s7 := (hb7.cell (p := ⟨w1.heap.size, 0, none⟩) (Nat.lt_of_lt_of_le l9 bA.size)).trans sA))
    all_goals go_wp2_with fail
    all_goals go_meet
    all_goals first | exact ⟨rfl, below_step bA hb7⟩ | exact ⟨rfl, (below_step bA hb7).drew⟩
  case rest =>
    obtain ⟨rfl, hbc⟩ := hcut
    replace p4 := (hbc.block _ (lt_heap p4)).trans p4
    replace hbw := below_step hbw hbc
    clear hs9 p7 p9 hmk
    generalize checkE s = ce at *
    go_wp2
    go_ret
    exact ⟨rfl, hbw⟩
    
set_option maxRecDepth 100000 in
set_option maxHeartbeats 8000000 in
theorem law_tells_bad_neg (w : World) (ao ro te : Option Addr) (n cap rn rc tn tc : Nat) (s t : List Blk) (R : List Int) (k : Int) (hn : s.length = n) (h41 : n ≤ 2199023255552) (hs : StoRow w ao s) (hwf : WfS s)
    (hz : R.length = rn) (hr : Row .i64 w ro R) (hw : ∀ k ∈ R, I64 k) (hb : rn ≤ 17592186044416) (htn : t.length = tn) (ht41 : tn ≤ 2199023255552) (hts : StoRow w te t) (htwf : WfS t) (hce : checkE s ≠ 0) (hk : k < 0) :
    Calls Try.prog 16 #[.agg #[.slice ao n cap], .int .i64 k, .slice ro rn rc, .agg #[.slice te tn tc]] w fun e w' => e = .returned (.bool true) ∧ Below w.heap.size w w' := by
  have HN := Lib.hid hn
  have HZ := Lib.hid hz
  have HT := Lib.hid htn
  have hs0 := hs
  have hts0 := hts
  have hn63 : n ≤ 1152921504606846976 := by omega
  have HCE := Lib.hid hce
  have he1 : (checkE s != 0) = true := by rw [bne_iff_ne]; exact hce
  have he0 : (checkE s == 0) = false := by rw [beq_eq_false_iff_ne]; exact hce
  clear hn hz htn hs hts hce
  have HNW := Lib.hid (show newR k = ([], 3) by unfold newR; rw [if_pos (by omega)])
  have hbw : Below w.heap.size w ((w.alloc (.cells #[.slice ao n cap] 40)).alloc (.cells #[.slice te tn tc] 40)) := ((Below.refl _ _).alloc (Nat.le_refl _) _).alloc (by simp) _
  have p4 : ((w.alloc (.cells #[.slice ao n cap] 40)).alloc (.cells #[.slice te tn tc] 40)).heap[w.heap.size]? = some (.cells #[.slice ao n cap] 40 (0, 0)) := heap_alloc2_old _ _ _
  have p7 : ((w.alloc (.cells #[.slice ao n cap] 40)).alloc (.cells #[.slice te tn tc] 40)).heap[w.heap.size + 1]? = some (.cells #[.slice te tn tc] 40 (0, 0)) := heap_alloc2_new _ _ _
  go_enter Try.func16, Try.ntmps16
  go_wp2_with fail
  generalize (w.alloc (Obj.cells #[Value.slice ao n cap] 40)).alloc (Obj.cells #[Value.slice te tn tc] 40) = W0 at *
  have HM := new_any W0 k
  rw [HNW.out] at HM
  refine HM.mono ?_
  rintro e w1 ⟨v1, rfl, ho, hb1⟩
  clear HM
  replace p4 := (hb1.block _ (lt_heap p4)).trans p4
  replace p7 := (hb1.block _ (lt_heap p7)).trans p7
  replace hbw := below_step hbw hb1
  obtain ⟨a9, cc9, hv, hc9, hs9⟩ := ho.sto
  simp only [List.length_nil] at hv hc9
  subst hv
  clear ho
  have cp4 := cell_of_one p4
  have lp4 := lt_heap p4
  go_wp2_with fail
  clear cp4 lp4
  have hA : Below w1.heap.size w1 (w1.alloc (.cells #[.slice a9 0 cc9] 40)) := (Below.refl _ _).alloc (Nat.le_refl _) _
  have p9 : (w1.alloc (.cells #[.slice a9 0 cc9] 40)).heap[w1.heap.size]? = some (.cells #[.slice a9 0 cc9] 40 (0, 0)) := heap_alloc_new _ _
  replace p4 := (hA.block _ (lt_heap p4)).trans p4
  replace p7 := (hA.block _ (lt_heap p7)).trans p7
  replace hs9 := hs9.mono hA
  replace hbw := below_step hbw hA
  generalize w1.alloc (Obj.cells #[Value.slice a9 0 cc9] 40) = W1 at *
  clear hA
  have hs := hs0.mono hbw
  refine (outside_bad _ _ _ _ s HN.out hn63 hs hwf HCE.out).mono ?_
  rintro e w2 ⟨rfl, hb2⟩
  replace p4 := (hb2.block _ (lt_heap p4)).trans p4
  replace p7 := (hb2.block _ (lt_heap p7)).trans p7
  replace p9 := (hb2.block _ (lt_heap p9)).trans p9
  replace hs9 := hs9.mono hb2
  replace hbw := below_step hbw hb2
  have cp4 := cell_of_one p4
  have lp4 := lt_heap p4
  clear hs
  have hs := hs0.mono hbw
  go_wp2_with fail
  clear cp4 lp4
  refine (used_bad _ _ _ _ s HN.out hn63 hs hwf HCE.out).mono ?_
  rintro e w3 ⟨rfl, hb3⟩
  replace p4 := (hb3.block _ (lt_heap p4)).trans p4
  replace p7 := (hb3.block _ (lt_heap p7)).trans p7
  replace p9 := (hb3.block _ (lt_heap p9)).trans p9
  replace hs9 := hs9.mono hb3
  replace hbw := below_step hbw hb3
  have cp4 := cell_of_one p4
  have lp4 := lt_heap p4
  clear hs
  have hs := hs0.mono hbw
  go_wp2_with fail
  clear cp4 lp4
  have HM := reach_any w3 ao ro n cap rn rc s R HN.out hn63 hs hwf HZ.out (by omega) (hr.mono hbw) hw
  rw [show reachR s R = ([], checkE s) from by unfold reachR; rw [if_pos HCE.out]] at HM
  refine HM.mono ?_
  rintro e w4 ⟨v4, rfl, hown, hb4⟩
  clear HM
  obtain ⟨ar, cr, hvr, _, _, hrr, _⟩ := hown.shape'
  simp only [List.length_nil] at hvr
  subst hvr
  clear hown
  replace p4 := (hb4.block _ (lt_heap p4)).trans p4
  replace p7 := (hb4.block _ (lt_heap p7)).trans p7
  replace p9 := (hb4.block _ (lt_heap p9)).trans p9
  replace hs9 := hs9.mono hb4
  replace hbw := below_step hbw hb4
  have cp4 := cell_of_one p4
  have lp4 := lt_heap p4
  clear hs
  have hs := hs0.mono hbw
  go_wp2_with fail
  clear cp4 lp4
  refine (checkStore_any _ _ _ _ s HN.out hn63 hs hwf).mono ?_
  rintro e w5 ⟨rfl, hb5⟩
  replace p4 := (hb5.block _ (lt_heap p4)).trans p4
  replace p7 := (hb5.block _ (lt_heap p7)).trans p7
  replace p9 := (hb5.block _ (lt_heap p9)).trans p9
  replace hs9 := hs9.mono hb5
  replace hbw := below_step hbw hb5
  clear hs hb1 hb2 hb3 hb4 hb5
  have cp4 := cell_of_one p4
  have lp4 := lt_heap p4
  have cp7 := cell_of_one p7
  have lp7 := lt_heap p7
  have hs := hs0.mono hbw
  have ht := hts0.mono hbw
  go_wp2_with fail
  refine wp_region_mix (by kernel_rfl) (by kernel_rfl) ?_
  repeat (go_big_quiet_step (first
    | (go_at_call 28; refine calls_mix (v := .bool true) ?_; exact stored_any _)
    | (go_at_call 29; refine calls_mix (v := .int .i64 (checkE s)) ?_; exact check_any _ _ _ _ s HN.out hn63 (hs.mono (mix_below _ _)) hwf)
    | (go_at_call 43; refine calls_mix (v := .bool (sameS s t)) ?_; exact same_any _ _ _ _ _ _ _ s t HN.out HT.out hn63 (by omega) (hs.mono (mix_below _ _)) (ht.mono (mix_below _ _)) hwf htwf)
    | (go_at_call 37; refine calls_mix (v := .bool (sameS s t)) ?_; exact sameStore_any _ _ _ _ _ _ _ s t HN.out HT.out hn63 (by omega) (hs.mono (mix_below _ _)) (ht.mono (mix_below _ _)) hwf htwf)))
  refine wpQuiet_nil ?_
  intro w6 hb6
  clear cp4 lp4 cp7 lp7
  clear hs ht
  replace p4 := (hb6.block _ (lt_heap p4)).trans p4
  replace p7 := (hb6.block _ (lt_heap p7)).trans p7
  replace p9 := (hb6.block _ (lt_heap p9)).trans p9
  replace hs9 := hs9.mono hb6
  replace hbw := below_step hbw hb6
  have cp9 := cell_of_one p9
  have lp9 := lt_heap p9
  generalize checkE s = ce at *
  go_wp2
  go_ret
  exact ⟨rfl, hbw⟩
  
set_option maxRecDepth 100000 in
set_option maxHeartbeats 8000000 in
theorem law_tells_bad_big (w : World) (ao ro te : Option Addr) (n cap rn rc tn tc : Nat) (s t : List Blk) (R : List Int) (k : Int) (hn : s.length = n) (h41 : n ≤ 2199023255552) (hs : StoRow w ao s) (hwf : WfS s)
    (hz : R.length = rn) (hr : Row .i64 w ro R) (hw : ∀ k ∈ R, I64 k) (hb : rn ≤ 17592186044416) (htn : t.length = tn) (ht41 : tn ≤ 2199023255552) (hts : StoRow w te t) (htwf : WfS t) (hce : checkE s ≠ 0) (hk : 400 < k) :
    Calls Try.prog 16 #[.agg #[.slice ao n cap], .int .i64 k, .slice ro rn rc, .agg #[.slice te tn tc]] w fun e w' => e = .returned (.bool true) ∧ Below w.heap.size w w' := by
  have HN := Lib.hid hn
  have HZ := Lib.hid hz
  have HT := Lib.hid htn
  have hs0 := hs
  have hts0 := hts
  have hn63 : n ≤ 1152921504606846976 := by omega
  have HCE := Lib.hid hce
  have he1 : (checkE s != 0) = true := by rw [bne_iff_ne]; exact hce
  have he0 : (checkE s == 0) = false := by rw [beq_eq_false_iff_ne]; exact hce
  clear hn hz htn hs hts hce
  have HNW := Lib.hid (show newR k = ([], 3) by unfold newR; rw [if_pos (by omega)])
  have hk2 : ¬ k < 0 := by omega
  have hbw : Below w.heap.size w ((w.alloc (.cells #[.slice ao n cap] 40)).alloc (.cells #[.slice te tn tc] 40)) := ((Below.refl _ _).alloc (Nat.le_refl _) _).alloc (by simp) _
  have p4 : ((w.alloc (.cells #[.slice ao n cap] 40)).alloc (.cells #[.slice te tn tc] 40)).heap[w.heap.size]? = some (.cells #[.slice ao n cap] 40 (0, 0)) := heap_alloc2_old _ _ _
  have p7 : ((w.alloc (.cells #[.slice ao n cap] 40)).alloc (.cells #[.slice te tn tc] 40)).heap[w.heap.size + 1]? = some (.cells #[.slice te tn tc] 40 (0, 0)) := heap_alloc2_new _ _ _
  go_enter Try.func16, Try.ntmps16
  go_wp2_with fail
  generalize (w.alloc (Obj.cells #[Value.slice ao n cap] 40)).alloc (Obj.cells #[Value.slice te tn tc] 40) = W0 at *
  have HM := new_any W0 k
  rw [HNW.out] at HM
  refine HM.mono ?_
  rintro e w1 ⟨v1, rfl, ho, hb1⟩
  clear HM
  replace p4 := (hb1.block _ (lt_heap p4)).trans p4
  replace p7 := (hb1.block _ (lt_heap p7)).trans p7
  replace hbw := below_step hbw hb1
  obtain ⟨a9, cc9, hv, hc9, hs9⟩ := ho.sto
  simp only [List.length_nil] at hv hc9
  subst hv
  clear ho
  have cp4 := cell_of_one p4
  have lp4 := lt_heap p4
  go_wp2_with fail
  clear cp4 lp4
  have hA : Below w1.heap.size w1 (w1.alloc (.cells #[.slice a9 0 cc9] 40)) := (Below.refl _ _).alloc (Nat.le_refl _) _
  have p9 : (w1.alloc (.cells #[.slice a9 0 cc9] 40)).heap[w1.heap.size]? = some (.cells #[.slice a9 0 cc9] 40 (0, 0)) := heap_alloc_new _ _
  replace p4 := (hA.block _ (lt_heap p4)).trans p4
  replace p7 := (hA.block _ (lt_heap p7)).trans p7
  replace hs9 := hs9.mono hA
  replace hbw := below_step hbw hA
  generalize w1.alloc (Obj.cells #[Value.slice a9 0 cc9] 40) = W1 at *
  clear hA
  have hs := hs0.mono hbw
  refine (outside_bad _ _ _ _ s HN.out hn63 hs hwf HCE.out).mono ?_
  rintro e w2 ⟨rfl, hb2⟩
  replace p4 := (hb2.block _ (lt_heap p4)).trans p4
  replace p7 := (hb2.block _ (lt_heap p7)).trans p7
  replace p9 := (hb2.block _ (lt_heap p9)).trans p9
  replace hs9 := hs9.mono hb2
  replace hbw := below_step hbw hb2
  have cp4 := cell_of_one p4
  have lp4 := lt_heap p4
  clear hs
  have hs := hs0.mono hbw
  go_wp2_with fail
  clear cp4 lp4
  refine (used_bad _ _ _ _ s HN.out hn63 hs hwf HCE.out).mono ?_
  rintro e w3 ⟨rfl, hb3⟩
  replace p4 := (hb3.block _ (lt_heap p4)).trans p4
  replace p7 := (hb3.block _ (lt_heap p7)).trans p7
  replace p9 := (hb3.block _ (lt_heap p9)).trans p9
  replace hs9 := hs9.mono hb3
  replace hbw := below_step hbw hb3
  have cp4 := cell_of_one p4
  have lp4 := lt_heap p4
  clear hs
  have hs := hs0.mono hbw
  go_wp2_with fail
  clear cp4 lp4
  have HM := reach_any w3 ao ro n cap rn rc s R HN.out hn63 hs hwf HZ.out (by omega) (hr.mono hbw) hw
  rw [show reachR s R = ([], checkE s) from by unfold reachR; rw [if_pos HCE.out]] at HM
  refine HM.mono ?_
  rintro e w4 ⟨v4, rfl, hown, hb4⟩
  clear HM
  obtain ⟨ar, cr, hvr, _, _, hrr, _⟩ := hown.shape'
  simp only [List.length_nil] at hvr
  subst hvr
  clear hown
  replace p4 := (hb4.block _ (lt_heap p4)).trans p4
  replace p7 := (hb4.block _ (lt_heap p7)).trans p7
  replace p9 := (hb4.block _ (lt_heap p9)).trans p9
  replace hs9 := hs9.mono hb4
  replace hbw := below_step hbw hb4
  have cp4 := cell_of_one p4
  have lp4 := lt_heap p4
  clear hs
  have hs := hs0.mono hbw
  go_wp2_with fail
  clear cp4 lp4
  refine (checkStore_any _ _ _ _ s HN.out hn63 hs hwf).mono ?_
  rintro e w5 ⟨rfl, hb5⟩
  replace p4 := (hb5.block _ (lt_heap p4)).trans p4
  replace p7 := (hb5.block _ (lt_heap p7)).trans p7
  replace p9 := (hb5.block _ (lt_heap p9)).trans p9
  replace hs9 := hs9.mono hb5
  replace hbw := below_step hbw hb5
  clear hs hb1 hb2 hb3 hb4 hb5
  have cp4 := cell_of_one p4
  have lp4 := lt_heap p4
  have cp7 := cell_of_one p7
  have lp7 := lt_heap p7
  have hs := hs0.mono hbw
  have ht := hts0.mono hbw
  go_wp2_with fail
  refine wp_region_mix (by kernel_rfl) (by kernel_rfl) ?_
  repeat (go_big_quiet_step (first
    | (go_at_call 28; refine calls_mix (v := .bool true) ?_; exact stored_any _)
    | (go_at_call 29; refine calls_mix (v := .int .i64 (checkE s)) ?_; exact check_any _ _ _ _ s HN.out hn63 (hs.mono (mix_below _ _)) hwf)
    | (go_at_call 43; refine calls_mix (v := .bool (sameS s t)) ?_; exact same_any _ _ _ _ _ _ _ s t HN.out HT.out hn63 (by omega) (hs.mono (mix_below _ _)) (ht.mono (mix_below _ _)) hwf htwf)
    | (go_at_call 37; refine calls_mix (v := .bool (sameS s t)) ?_; exact sameStore_any _ _ _ _ _ _ _ s t HN.out HT.out hn63 (by omega) (hs.mono (mix_below _ _)) (ht.mono (mix_below _ _)) hwf htwf)))
  refine wpQuiet_nil ?_
  intro w6 hb6
  clear cp4 lp4 cp7 lp7
  clear hs ht
  replace p4 := (hb6.block _ (lt_heap p4)).trans p4
  replace p7 := (hb6.block _ (lt_heap p7)).trans p7
  replace p9 := (hb6.block _ (lt_heap p9)).trans p9
  replace hs9 := hs9.mono hb6
  replace hbw := below_step hbw hb6
  have cp9 := cell_of_one p9
  have lp9 := lt_heap p9
  generalize checkE s = ce at *
  go_wp2
  go_ret
  exact ⟨rfl, hbw⟩
  
end Go.Proofs.Ytpfopbkaddjjcaa
