/- rookerylaw.FileCuts: the walk. -/
import Derived.Test.YtodogcokljmkmaaFileBack
namespace Go.Proofs.Ytodogcokljmkmaa
open Go.RowKit
set_option linter.unusedVariables false

theorem cutL_getD (b : List Int) (k j : Nat) : (cutL b k).getD j 0 = if j < k then b.getD j 0 else 0 := by
  unfold cutL
  rw [append_zeros_getD, take_getD]
theorem pad_ext {x y : List Int} (hx : x.length ≤ 256) (hy : y.length ≤ 256) (h : ∀ j, j < 256 → x.getD j 0 = y.getD j 0) : pad x = pad y := by
  refine ext_getD (by rw [pad_len x hx, pad_len y hy]) fun j hj => ?_
  rw [pad_len x hx] at hj
  unfold pad
  rw [append_zeros_getD, append_zeros_getD]
  exact h j hj
theorem cutR_same {s : List Blk} {key root : Int} {z k : Nat} (hok : fileE s key root z = 0) (hk : k ≤ 256) (hp : pad (fileB s key root z) = pad (cutL (fileB s key root z) k)) : cutR s key root z k = ((startR s root).1, (root, (k : Int)), 0) := by
  unfold cutR
  rw [if_neg (by simp [hok]), if_neg (by omega), Int.toNat_natCast]
  have h := turnR_same (s := s) (key := key) (root := root) (z := (z : Int)) hp
  unfold turnedR
  rw [h, cutL_len]
  rfl

/-- a root is held once more -/
theorem startR_at {s : List Blk} (hc : checkE s = 0) (hw : WfS s) {root M0 : Int} (hr : RootAt s 3 root) (hfew : ∀ x ∈ s, x.refs ≤ M0) (hM : 1 ≤ M0) (hM2 : M0 ≤ 1000000) : TurnAt s (startR s root).1 root (M0 + 1) := turn_start hc hw hr hfew hM hM2

structure CutF (s t : List Blk) (key root : Int) (z c : Nat) (was now : List Int) (rt : Int) (t1 t2 t3 : List Blk) : Prop where
  c2 : c ≤ 256
  z2 : z ≤ 256
  wl : was.length = z
  nl : now.length = c
  w0 : WfS t ∧ t.length ≤ 400
  w1 : WfS t1 ∧ t1.length ≤ 400
  w2 : WfS t2 ∧ t2.length ≤ 400
  w3 : WfS t3 ∧ t3.length ≤ 400
  r1 : readR s key root z 0 256 = (was, 0)
  r2 : readR t key rt c 0 256 = (now, 0)
  get : ∀ j, j < now.length → now.getD j 0 = if j < z then was.getD j 0 else 0
  x1 : cutR t key rt c c = (t1, (rt, (c : Int)), 0)
  x2 : ∀ d : Nat, c ≤ d → d ≤ 256 → cutR t1 key rt c d = (t2, (rt, (d : Int)), 0)
  x3 : ∀ d : Nat, c ≤ d → d ≤ 256 → cutR t2 key rt d c = (t3, (rt, (c : Int)), 0)
  df : differR t3 rt rt 3 = ([], 0)

theorem cut_facts {s : List Blk} (hw : WfS s) {key root size tz : Int} (hfew : ∀ x ∈ s, x.refs ≤ 999000) (he : (cutR s key root size tz).2.2 = 0) :
    ∃ (z c : Nat) (t : List Blk) (rt : Int) (was now : List Int) (t1 t2 t3 : List Blk), size = z ∧ tz = c ∧ cutR s key root size tz = (t, (rt, (c : Int)), 0) ∧ CutF s t key root z c was now rt t1 t2 t3 := by
  unfold cutR at he
  by_cases h0 : fileE s key root size = 0
  rotate_left
  · rw [if_pos h0] at he; exact absurd he h0
  rw [if_neg (fun h => h h0)] at he
  by_cases h1 : tz < 0 ∨ 256 < tz
  · rw [if_pos h1] at he; simp at he
  rw [if_neg h1] at he
  obtain ⟨c, rfl⟩ : ∃ c : Nat, tz = c := ⟨tz.toNat, by omega⟩
  rw [Int.toNat_natCast] at he
  have hcr : cutR s key root size c = turnedR s key root size (cutL (fileB s key root size) c) := by
    unfold cutR
    rw [if_neg (fun h => h h0), if_neg h1, Int.toNat_natCast]
  rw [hcr]
  obtain ⟨hk, hz0, hz1, hct, -⟩ := fileE_ok h0
  obtain ⟨hce, m, hm3, hm, hroot, -, -⟩ := checkT_ok hct
  obtain rfl : m = 3 := by omega
  obtain ⟨z, rfl⟩ : ∃ z : Nat, size = z := ⟨size.toNat, by omega⟩
  have hl := fileB_len h0
  have hby := fileB_byt s key root z
  have hra := readR_all h0
  have hc256 : c ≤ 256 := by omega
  generalize hwas : fileB s key root z = was at *
  have hnl := cutL_len was c
  have hnb := cutL_byt hby c
  have hng := cutL_getD was c
  generalize hnow : cutL was c = now at *
  have hte : (turnR s key root z now).2.2 = 0 := by
    by_cases h : (turnR s key root z now).2.2 = 0
    · exact h
    · rw [turnedR_err h] at he; simp only at he; exact absurd he h
  have hT := turnR_ok hw h0 hfew (by omega) (by omega) hnb (by omega) hte
  have hchk := hT.at_.chk hce (by omega)
  have hwt := hT.at_.good.wf
  have hrt := hT.at_.rt
  obtain ⟨f1, f2⟩ := hT.file hce (by omega) hk hnb (by omega)
  rw [hnl] at f1 f2
  have hTD := turnedR_ok hte
  rw [hnl] at hTD
  generalize turnR s key root z now = R at *
  have g1 := startR_at hchk hwt hrt (fun x hx => (hT.at_.good.refs x hx).2) (by omega) (by omega)
  have k1 := g1.chk hchk (by omega)
  obtain ⟨a1, b1⟩ := g1.file hchk hwt (by omega) f1
  rw [f2] at b1
  have g2 := startR_at k1 g1.good.wf g1.rt (fun x hx => (g1.good.refs x hx).2) (by omega) (by omega)
  have k2 := g2.chk k1 (by omega)
  obtain ⟨a2, b2⟩ := g2.file k1 g1.good.wf (by omega) a1
  rw [b1] at b2
  have g3 := startR_at k2 g2.good.wf g2.rt (fun x hx => (g2.good.refs x hx).2) (by omega) (by omega)
  have k3 := g3.chk k2 (by omega)
  have hlv := fun j hj => file_leaves a2 g2.good.wf j hj
  rw [b2] at hlv
  have hpd : ∀ d : Nat, c ≤ d → d ≤ 256 → pad now = pad (cutL now d) := fun d hd hd2 => pad_ext (by omega) (by rw [cutL_len]; omega) fun j hj => by
    rw [cutL_getD]
    by_cases h : j < d
    · rw [if_pos h]
    · rw [if_neg h, getD_out (by omega)]
  have hmk : ∀ d : Nat, c ≤ d → d ≤ 256 → fileE (startR (startR R.1 R.2.1).1 R.2.1).1 key R.2.1 d = 0 ∧ fileB (startR (startR R.1 R.2.1).1 R.2.1).1 key R.2.1 d = cutL now d := fun d hd hd2 => by
    have h := file_made (b := cutL now d) k2 g2.rt hk (cutL_byt hnb d) (by rw [cutL_len]; exact hd2) fun j hj => by rw [hlv j hj, hpd d hd hd2]
    rw [cutL_len] at h
    exact h
  have hgo : ∀ j, j < now.length → now.getD j 0 = if j < z then was.getD j 0 else 0 := fun j hj => by
    rw [hng j, if_pos (by omega)]
    by_cases h : j < z
    · rw [if_pos h]
    · rw [if_neg h, getD_out (by omega)]
  refine ⟨z, c, R.1, R.2.1, was, now, (startR R.1 R.2.1).1, (startR (startR R.1 R.2.1).1 R.2.1).1, (startR (startR (startR R.1 R.2.1).1 R.2.1).1 R.2.1).1, rfl, rfl, hTD,
    ⟨hc256, by omega, hl, hnl, ⟨hwt, (checkE_zero _ hchk).1⟩, ⟨g1.good.wf, (checkE_zero _ k1).1⟩, ⟨g2.good.wf, (checkE_zero _ k2).1⟩, ⟨g3.good.wf, (checkE_zero _ k3).1⟩, hra, by rw [readR_all f1, f2], hgo, ?_, fun d hd hd2 => ?_, fun d hd hd2 => ?_, differ_none k3 g3.rt g3.rt fun _ _ => rfl⟩⟩
  · exact cutR_same f1 hc256 (by rw [f2]; exact hpd c (Nat.le_refl _) hc256)
  · exact cutR_same a1 hd2 (by rw [b1]; exact hpd d hd hd2)
  · obtain ⟨m1, m2⟩ := hmk d hd hd2
    refine cutR_same m1 hc256 ?_
    rw [m2]
    refine pad_ext (by rw [cutL_len]; omega) (by rw [cutL_len]; omega) fun j hj => ?_
    rw [cutL_getD, cutL_getD, cutL_getD]
    by_cases h : j < c
    · rw [if_pos h]
    · rw [if_neg h]
      split
      · exact getD_out (by omega)
      · rfl

set_option maxRecDepth 100000 in
set_option maxHeartbeats 16000000 in
theorem law_cuts (w : World) (ao : Option Addr) (n cap : Nat) (s : List Blk) (key root size tz more : Int) (hn : s.length = n) (h41 : n ≤ 2199023255552) (hs : StoRow w ao s) (hwf : WfS s) (hc : Capd ao n cap) (hz : I64 size) (htz : I64 tz) (hmo : I64 more) :
    Calls Try.prog 3 #[.agg #[.slice ao n cap], .int .i64 key, .agg #[.int .i64 root, .int .i64 size], .int .i64 tz, .int .i64 more] w fun e w' => e = .returned (.bool true) ∧ Below w.heap.size w w' := by
  have HN := Lib.hid hn
  have hb0 : Below w.heap.size w ((w.alloc (.cells #[.slice ao n cap] 24)).alloc (.cells #[.int .i64 root, .int .i64 size] 26)) := ((Below.refl _ _).alloc (Nat.le_refl _) _).alloc (by simp) _
  have p0 : ((w.alloc (.cells #[.slice ao n cap] 24)).alloc (.cells #[.int .i64 root, .int .i64 size] 26)).heap[w.heap.size]? = some (.cells #[.slice ao n cap] 24 (0, 0)) := heap_alloc2_old _ _ _
  have p1 : ((w.alloc (.cells #[.slice ao n cap] 24)).alloc (.cells #[.int .i64 root, .int .i64 size] 26)).heap[w.heap.size + 1]? = some (.cells #[.int .i64 root, .int .i64 size] 26 (0, 0)) := heap_alloc2_new _ _ _
  have HCR := Lib.hid (fun (u : World) (h : Below w.heap.size w u) => crowded_any u ao n cap s hn h41 (hs.mono h))
  have HCT := Lib.hid (fun (u : World) (h : Below w.heap.size w u) => cut_any u ao n cap s key root size tz hn (by omega) (hs.mono h) hwf hz hc htz)
  have HRD := Lib.hid (fun (u : World) (h : Below w.heap.size w u) => read_any u ao n cap s key root size 0 256 hn (by omega) (hs.mono h) hwf hz hc)
  have HCF := Lib.hid (fun (hcr : crowdB s = false) (he : (cutR s key root size tz).2.2 = 0) => cut_facts hwf (crowdB_few hcr) he)
  have HAT := Lib.hid (fun (u : World) (k : Nat) (h1 : 0 < k) (h2 : k ≤ 1152921504606846976) => law_at more k u h1 h2 hmo.1 hmo.2)
  clear hn hs hwf hc hz htz hmo
  generalize cutR s key root size tz = WR at *
  obtain ⟨ml, ⟨gr, gz⟩, we⟩ := WR
  obtain ⟨cb, hcb⟩ : ∃ cb, crowdB s = cb := ⟨_, rfl⟩
  rw [hcb] at HCR HCF
  replace hcb := Lib.hid hcb
  go_enter Try.func3, Try.ntmps3
  go_wp2_with fail
  generalize (w.alloc (.cells #[.slice ao n cap] 24)).alloc (.cells #[.int .i64 root, .int .i64 size] 26) = W0 at *
  refine (HCR.out W0 hb0).mono ?_
  rintro e w1 ⟨rfl, hb1⟩
  have hbw1 := below_step hb0 hb1
  replace p0 := (hb1.block _ (lt_heap p0)).trans p0
  replace p1 := (hb1.block _ (lt_heap p1)).trans p1
  clear hb1
  cases cb with
  | true =>
    go_wp2
    go_ret
    exact ⟨rfl, hbw1⟩
  | false =>
    have c0 := cell_of_one p0
    have c10 := cell_of_block p1 0
    have c11 := cell_of_block p1 1
    simp at c10 c11
    have l0 := lt_heap p0
    have l1 := lt_heap p1
    go_wp2_with fail
    refine (HCT.out w1 hbw1).mono ?_
    rintro e w2 ⟨v2, rfl, ho2, hb2⟩
    simp only at ho2 ⊢
    obtain ⟨mo, mc, rfl, hmc, hms⟩ := ho2.sto
    obtain ⟨mn, hmn⟩ : ∃ mn, ml.length = mn := ⟨_, rfl⟩
    rw [hmn] at hmc ⊢
    have hbw2 := below_step hbw1 hb2
    have hA : Below w2.heap.size w2 ((w2.alloc (.cells #[.slice mo mn mc] 24)).alloc (.cells #[.int .i64 gr, .int .i64 gz] 26)) := ((Below.refl _ _).alloc (Nat.le_refl _) _).alloc (by simp) _
    have q0 : ((w2.alloc (.cells #[.slice mo mn mc] 24)).alloc (.cells #[.int .i64 gr, .int .i64 gz] 26)).heap[w2.heap.size]? = some (.cells #[.slice mo mn mc] 24 (0, 0)) := heap_alloc2_old _ _ _
    have q1 : ((w2.alloc (.cells #[.slice mo mn mc] 24)).alloc (.cells #[.int .i64 gr, .int .i64 gz] 26)).heap[w2.heap.size + 1]? = some (.cells #[.int .i64 gr, .int .i64 gz] 26 (0, 0)) := heap_alloc2_new _ _ _
    have hB2 := hb2.trans (hA.mono hb2.size)
    have hbW := below_step hbw2 hA
    replace p0 := (hB2.block _ (lt_heap p0)).trans p0
    replace p1 := (hB2.block _ (lt_heap p1)).trans p1
    replace hms := hms.mono hA
    have HMN := Lib.hid hmn
    clear c0 c10 c11 l0 l1 ho2 hmn hB2 hb2 hA
    go_wp2_with fail
    generalize (w2.alloc (.cells #[.slice mo mn mc] 24)).alloc (.cells #[.int .i64 gr, .int .i64 gz] 26) = W2 at *
    refine (filed_any W2).mono ?_
    rintro e w3 ⟨rfl, hb3⟩
    have hbw3 := below_step hbW hb3
    by_cases hwe : we = 0
    rotate_left
    · have e2 : (we != 0) = true := by rw [bne_iff_ne]; exact hwe
      clear hwe
      go_wp2_with fail
      refine (filed_any w3).mono ?_
      rintro e w4 ⟨rfl, hb4⟩
      have hbw4 := below_step hbw3 hb4
      go_wp2
      go_ret
      exact ⟨rfl, hbw4⟩
    obtain ⟨z, c, t, rt, was, now, t1, t2, t3, rfl, rfl, hW, hF⟩ := HCF.out trivial hwe
    simp only [Prod.mk.injEq] at hW
    obtain ⟨rfl, ⟨rfl, rfl⟩, rfl⟩ := hW
    have HF := Lib.hid hF
    have r1 := hF.r1
    have r2 := hF.r2
    have hml := hF.w0.2
    have hz256 := hF.z2
    have hc256 := hF.c2
    rw [HMN.out] at hml
    have HRm := Lib.hid (fun (u : World) (h : StoRow u mo ml) => read_any u mo mn mc ml key gr c 0 256 HMN.out (by omega) h HF.out.w0.1 (by unfold I64; omega) hmc)
    have HC1 := Lib.hid (fun (u : World) (h : StoRow u mo ml) => cut_any u mo mn mc ml key gr c c HMN.out (by omega) h HF.out.w0.1 (by unfold I64; omega) hmc (by unfold I64; omega))
    rw [r1] at HRD
    rw [r2] at HRm
    rw [hF.x1] at HC1
    have HGET := Lib.hid hF.get
    clear r1 r2 hF hwe
    replace p0 := (hb3.block _ (lt_heap p0)).trans p0
    replace p1 := (hb3.block _ (lt_heap p1)).trans p1
    replace q0 := (hb3.block _ (lt_heap q0)).trans q0
    replace q1 := (hb3.block _ (lt_heap q1)).trans q1
    replace hms := hms.mono hb3
    clear hb3
    have c0 := cell_of_one p0
    have c10 := cell_of_block p1 0
    have c11 := cell_of_block p1 1
    simp at c10 c11
    have l0 := lt_heap p0
    have l1 := lt_heap p1
    go_wp2_with fail
    refine (HRD.out w3 hbw3).mono ?_
    rintro e w4 ⟨xa, xn, xc, rfl, hxn, hxr, hxc, hb4⟩
    simp only at hxn hxr ⊢
    obtain rfl : xn = z := hxn.symm.trans HF.out.wl
    have HXN := Lib.hid hxn
    have hbw4 := below_step hbw3 hb4
    replace q0 := (hb4.block _ (lt_heap q0)).trans q0
    replace q1 := (hb4.block _ (lt_heap q1)).trans q1
    replace hms := hms.mono hb4
    clear hxn hb4 c0 c10 c11 l0 l1 p0 p1 hxc
    have d0 := cell_of_one q0
    have l2 := lt_heap q0
    have d10 := cell_of_block q1 0
    have d11 := cell_of_block q1 1
    simp at d10 d11
    have l3 := lt_heap q1
    go_wp2_with fail
    refine (HRm.out w4 hms).mono ?_
    rintro e w5 ⟨na, nn, nc, rfl, hnn, hnr, hnc, hb5⟩
    simp only at hnn hnr ⊢
    obtain rfl : nn = c := hnn.symm.trans HF.out.nl
    have HNN := Lib.hid hnn
    have hbw5 := below_step hbw4 hb5
    replace q0 := (hb5.block _ (lt_heap q0)).trans q0
    replace q1 := (hb5.block _ (lt_heap q1)).trans q1
    replace hms := hms.mono hb5
    replace hxr := hxr.mono hb5
    clear hnn hb5 d0 l2 d10 d11 l3 hnc
    go_wp2_with fail
    go_loop [70] (fun x => ∃ j : Nat, j ≤ nn ∧ x = .int .i64 j) (fun x => nn - (intOf x).toNat)
    case atStart => exact ⟨0, Nat.zero_le _, rfl⟩
    case round =>
      obtain ⟨j, hj, rfl⟩ := hrel
      by_cases hlt : j < nn
      · have hjn : j < now.length := by rw [HNN.out]; exact hlt
        obtain ⟨nb1, no1, rfl, hnc1⟩ := hnr.at j hjn
        have xj := hnc1 j hjn
        have lj := World.block_lt_of_cell? _ _ xj
        have hg := HGET.out j hjn
        rw [List.getD_eq_getElem?_getD, List.getElem?_eq_getElem hjn, Option.getD_some] at hg
        have hjL : (j : Int) < nn := by omega
        have HG := Lib.hid hg
        clear hnc1 hg
        generalize now[j] = y at *
        by_cases hB : j < xn
        · have hjw : j < was.length := by rw [HXN.out]; exact hB
          obtain ⟨xb, xo, rfl, hxc1⟩ := hxr.at j hjw
          have xw := hxc1 j hjw
          have lw := World.block_lt_of_cell? _ _ xw
          have hy : y = was[j] := by rw [HG.out, if_pos hB, List.getD_eq_getElem?_getD, List.getElem?_eq_getElem hjw]; rfl
          rw [← hy] at xw
          have hjz : (j : Int) < xn := by omega
          clear hxc1 hy hjw
          go_wp2
          go_round
          case rel => exact ⟨j + 1, by omega, by go_num⟩
          case measure => simp [intOf]; omega
        · have hy : y = 0 := by rw [HG.out, if_neg hB]
          subst hy
          have hjz : ¬ ((j : Int) < xn) := by omega
          go_wp2
          go_round
          case rel => exact ⟨j + 1, by omega, by go_num⟩
          case measure => simp [intOf]; omega
      · obtain rfl : j = nn := by omega
        have d10 := cell_of_block q1 0
        have d11 := cell_of_block q1 1
        simp at d10 d11
        have l3 := lt_heap q1
        have d0 := cell_of_one q0
        have l2 := lt_heap q0
        clear HGET hnr hlt hxr
        go_wp2_with fail
        refine (HC1.out w5 hms).mono ?_
        rintro e w6 ⟨v6, rfl, ho6, hb6⟩
        simp only at ho6 ⊢
        obtain ⟨no, nc1, rfl, hnc1, hns⟩ := ho6.sto
        obtain ⟨n1, hn1⟩ : ∃ k, t1.length = k := ⟨_, rfl⟩
        rw [hn1] at hnc1 ⊢
        have hn14 := HF.out.w1.2
        rw [hn1] at hn14
        have hbw6 := below_step hbw5 hb6
        have hA : Below w6.heap.size w6 ((w6.alloc (.cells #[.slice no n1 nc1] 24)).alloc (.cells #[.int .i64 gr, .int .i64 j] 26)) := ((Below.refl _ _).alloc (Nat.le_refl _) _).alloc (by simp) _
        have q2 : ((w6.alloc (.cells #[.slice no n1 nc1] 24)).alloc (.cells #[.int .i64 gr, .int .i64 j] 26)).heap[w6.heap.size]? = some (.cells #[.slice no n1 nc1] 24 (0, 0)) := heap_alloc2_old _ _ _
        have q3 : ((w6.alloc (.cells #[.slice no n1 nc1] 24)).alloc (.cells #[.int .i64 gr, .int .i64 j] 26)).heap[w6.heap.size + 1]? = some (.cells #[.int .i64 gr, .int .i64 j] 26 (0, 0)) := heap_alloc2_new _ _ _
        have hbA := below_step hbw6 hA
        have hB6 := hb6.trans (hA.mono hb6.size)
        replace q1 := (hB6.block _ (lt_heap q1)).trans q1
        have hqlt : w2.heap.size + 1 < w6.heap.size := Nat.lt_of_lt_of_le l3 hb6.size
        have hksz := hbw6.size
        replace hns := hns.mono hA
        have HN1 := Lib.hid hn1
        clear d0 d10 d11 l2 l3 ho6 hn1 hb6 hA hB6 q0 hms
        have d10 := cell_of_block q1 0
        have d11 := cell_of_block q1 1
        simp at d10 d11
        have l3 := lt_heap q1
        have d0 := cell_of_one q2
        have l2 := lt_heap q2
        have d20 := cell_of_block q3 0
        have d21 := cell_of_block q3 1
        simp at d20 d21
        have l4 := lt_heap q3
        have hat := HAT.out ((w6.alloc (.cells #[.slice no n1 nc1] 24)).alloc (.cells #[.int .i64 gr, .int .i64 j] 26)) (257 - j) (by omega) (by omega)
        rw [show ((257 - j : Nat) : Int) = 257 - (j : Int) from by omega] at hat
        go_wp2_with fail
        refine hat.mono ?_
        rintro e w7 ⟨r, hr, rfl, rfl⟩
        have hrj : (r : Int) + j ≤ 256 := by omega
        clear hat hr
        have hC2 := cut_any ((w6.alloc (.cells #[.slice no n1 nc1] 24)).alloc (.cells #[.int .i64 gr, .int .i64 j] 26)) no n1 nc1 t1 key gr j ((r : Int) + j) HN1.out (by omega) hns HF.out.w1.1 (by unfold I64; omega) hnc1 (by unfold I64; omega)
        have hx2 := HF.out.x2 (r + j) (by omega) (by omega)
        rw [show ((r + j : Nat) : Int) = (r : Int) + j from by omega] at hx2
        rw [hx2] at hC2
        have hC3 := fun (u : World) (uo : Option Addr) (un uc : Nat) (hun : t2.length = un) (hu : un ≤ 1152921504606846976) (hur : StoRow u uo t2) (huc : Capd uo un uc) => cut_any u uo un uc t2 key gr ((r : Int) + j) j hun hu hur HF.out.w2.1 (by unfold I64; omega) huc (by unfold I64; omega)
        have hx3 := HF.out.x3 (r + j) (by omega) (by omega)
        rw [show ((r + j : Nat) : Int) = (r : Int) + j from by omega] at hx3
        rw [hx3] at hC3
        replace hC3 := Lib.hid hC3
        clear hx2 hx3
        go_wp2_with fail
        generalize (w6.alloc (.cells #[.slice no n1 nc1] 24)).alloc (.cells #[.int .i64 gr, .int .i64 j] 26) = W7 at *
        refine hC2.mono ?_
        rintro e w8 ⟨v8, rfl, ho8, hb8⟩
        simp only at ho8 ⊢
        obtain ⟨fo, fc, rfl, hfc, -⟩ := ho8.sto
        obtain ⟨n2, hn2⟩ : ∃ k, t2.length = k := ⟨_, rfl⟩
        rw [hn2] at hfc ho8 ⊢
        have hn24 := HF.out.w2.2
        rw [hn2] at hn24
        have HN2 := Lib.hid hn2
        have hbw8 := below_step hbA hb8
        have q18 := (hb8.block _ l3).trans q1
        have q28 := (hb8.block _ l2).trans q2
        clear d0 d10 d11 d20 d21 l4 hC2 hn2
        have c28 := cell_of_one q28
        have f28 := free_of_one q28
        have l28 := lt_heap q28
        have qB := one_setCell (u := .slice fo n2 fc) q28
        have hsB := (ho8.box q28 l2 (.slice fo n2 fc)).row
        have hbB := hbw8.setCell (p := ⟨w6.heap.size, 0, none⟩) hksz (.slice fo n2 fc)
        have q1B : (w8.setCell ⟨w6.heap.size, 0, none⟩ (.slice fo n2 fc)).heap[w2.heap.size + 1]? = some (.cells #[.int .i64 gr, .int .i64 j] 26 (0, 0)) := heap_setCell_ne q18 (by simp only; omega)
        have hszB : (w8.setCell ⟨w6.heap.size, 0, none⟩ (.slice fo n2 fc)).heap.size = w8.heap.size := by simp
        have hbY : Below w8.heap.size (w8.setCell ⟨w6.heap.size, 0, none⟩ (.slice fo n2 fc)) ((w8.setCell ⟨w6.heap.size, 0, none⟩ (.slice fo n2 fc)).alloc (.cells #[.int .i64 gr, .int .i64 ((r : Int) + j)] 26)) := (Below.refl _ _).alloc (by simp) _
        have q1Y := (hbY.block _ (lt_heap q18)).trans q1B
        have q2Y := (hbY.block _ l28).trans qB
        have q4Y : ((w8.setCell ⟨w6.heap.size, 0, none⟩ (.slice fo n2 fc)).alloc (.cells #[.int .i64 gr, .int .i64 ((r : Int) + j)] 26)).heap[w8.heap.size]? = some (.cells #[.int .i64 gr, .int .i64 ((r : Int) + j)] 26 (0, 0)) := by
          have h := heap_alloc_new (w8.setCell ⟨w6.heap.size, 0, none⟩ (.slice fo n2 fc)) (.cells #[.int .i64 gr, .int .i64 ((r : Int) + j)] 26)
          rw [hszB] at h
          exact h
        have hsY := hsB.mono (w' := (w8.setCell ⟨w6.heap.size, 0, none⟩ (.slice fo n2 fc)).alloc (.cells #[.int .i64 gr, .int .i64 ((r : Int) + j)] 26)) ((Below.refl _ _).alloc (Nat.le_refl _) _)
        have hbwY := hbB.trans (hbY.mono hbw8.size)
        have d0 := cell_of_one q2Y
        have l2Y := lt_heap q2Y
        have d40 := cell_of_block q4Y 0
        have d41 := cell_of_block q4Y 1
        simp at d40 d41
        have l4 := lt_heap q4Y
        clear q18 hsB hbB q1B hbY qB ho8 q1 q2 q3 l3 hszB hns hnc1
        go_wp2_with fail
        generalize (w8.setCell ⟨w6.heap.size, 0, none⟩ (.slice fo n2 fc)).alloc (.cells #[.int .i64 gr, .int .i64 ((r : Int) + j)] 26) = W9 at *
        refine (hC3.out W9 fo n2 fc HN2.out (by omega) hsY hfc).mono ?_
        rintro e w9 ⟨v9, rfl, ho9, hb9⟩
        simp only at ho9 ⊢
        obtain ⟨bo, bc, rfl, hbc, -⟩ := ho9.sto
        obtain ⟨n3, hn3⟩ : ∃ k, t3.length = k := ⟨_, rfl⟩
        rw [hn3] at hbc ho9 ⊢
        have hn34 := HF.out.w3.2
        rw [hn3] at hn34
        have hbw9 := below_step hbwY hb9
        have q19 := (hb9.block _ (lt_heap q1Y)).trans q1Y
        have q29 := (hb9.block _ l2Y).trans q2Y
        have q49 := (hb9.block _ l4).trans q4Y
        clear d0 d40 d41 c28 f28 l28
        have c29 := cell_of_one q29
        have f29 := free_of_one q29
        have l29 := lt_heap q29
        have qC := one_setCell (u := .slice bo n3 bc) q29
        have hsC := (ho9.box q29 l2Y (.slice bo n3 bc)).row
        have hbC := hbw9.setCell (p := ⟨w6.heap.size, 0, none⟩) hksz (.slice bo n3 bc)
        have hk86 : w6.heap.size < w8.heap.size := Nat.lt_of_lt_of_le l2 hb8.size
        have q1C : (w9.setCell ⟨w6.heap.size, 0, none⟩ (.slice bo n3 bc)).heap[w2.heap.size + 1]? = some (.cells #[.int .i64 gr, .int .i64 j] 26 (0, 0)) := heap_setCell_ne q19 (by simp only; omega)
        have q4C : (w9.setCell ⟨w6.heap.size, 0, none⟩ (.slice bo n3 bc)).heap[w8.heap.size]? = some (.cells #[.int .i64 gr, .int .i64 ((r : Int) + j)] 26 (0, 0)) := heap_setCell_ne q49 (by simp only; omega)
        have hszC : (w9.setCell ⟨w6.heap.size, 0, none⟩ (.slice bo n3 bc)).heap.size = w9.heap.size := by simp
        have hbZ : Below w9.heap.size (w9.setCell ⟨w6.heap.size, 0, none⟩ (.slice bo n3 bc)) ((w9.setCell ⟨w6.heap.size, 0, none⟩ (.slice bo n3 bc)).alloc (.cells #[.int .i64 gr, .int .i64 j] 26)) := (Below.refl _ _).alloc (by simp) _
        have q1Z := (hbZ.block _ (lt_heap q19)).trans q1C
        have q2Z := (hbZ.block _ l29).trans qC
        have q4Z := (hbZ.block _ (lt_heap q49)).trans q4C
        have q5Z : ((w9.setCell ⟨w6.heap.size, 0, none⟩ (.slice bo n3 bc)).alloc (.cells #[.int .i64 gr, .int .i64 j] 26)).heap[w9.heap.size]? = some (.cells #[.int .i64 gr, .int .i64 j] 26 (0, 0)) := by
          have h := heap_alloc_new (w9.setCell ⟨w6.heap.size, 0, none⟩ (.slice bo n3 bc)) (.cells #[.int .i64 gr, .int .i64 j] 26)
          rw [hszC] at h
          exact h
        have hsZ := hsC.mono (w' := (w9.setCell ⟨w6.heap.size, 0, none⟩ (.slice bo n3 bc)).alloc (.cells #[.int .i64 gr, .int .i64 j] 26)) ((Below.refl _ _).alloc (Nat.le_refl _) _)
        have hbwZ := hbC.trans (hbZ.mono hbw9.size)
        have hDF := differ_any ((w9.setCell ⟨w6.heap.size, 0, none⟩ (.slice bo n3 bc)).alloc (.cells #[.int .i64 gr, .int .i64 j] 26)) bo n3 bc t3 gr gr 3 hn3 (by omega) hsZ HF.out.w3.1
        rw [HF.out.df] at hDF
        have d0 := cell_of_one q2Z
        have l2Z := lt_heap q2Z
        have d10 := cell_of_block q1Z 0
        have d11 := cell_of_block q1Z 1
        have d50 := cell_of_block q5Z 0
        have d51 := cell_of_block q5Z 1
        simp at d10 d11 d50 d51
        have l1 := lt_heap q1Z
        have l5 := lt_heap q5Z
        clear q19 q29 q49 hsC hbC q1C q4C hbZ qC ho9 q1Y q2Y q4Y hszC hsY hn3 l4 l2Y
        go_wp2_with fail
        generalize (w9.setCell ⟨w6.heap.size, 0, none⟩ (.slice bo n3 bc)).alloc (.cells #[.int .i64 gr, .int .i64 j] 26) = WZ at *
        refine hDF.mono ?_
        rintro e w10 ⟨v10, rfl, ho10, hb10⟩
        obtain ⟨da, dc, rfl, -, -, -, -⟩ := ho10.shape'
        simp only [List.length_nil]
        have hbw10 := below_step hbwZ hb10
        clear d0 d10 d11 d50 d51
        have q1E := (hb10.block _ l1).trans q1Z
        have q4E := (hb10.block _ (lt_heap q4Z)).trans q4Z
        have q5E := (hb10.block _ l5).trans q5Z
        have d10 := cell_of_block q1E 0
        have d11 := cell_of_block q1E 1
        have d40 := cell_of_block q4E 0
        have d41 := cell_of_block q4E 1
        have d50 := cell_of_block q5E 0
        have d51 := cell_of_block q5E 1
        simp at d10 d11 d40 d41 d50 d51
        have l1E := lt_heap q1E
        have l4E := lt_heap q4E
        have l5E := lt_heap q5E
        clear ho10 hDF l1 l5 l2Z
        go_wp2_with fail
        go_ret
        exact ⟨rfl, hbw10⟩
end Go.Proofs.Ytodogcokljmkmaa
