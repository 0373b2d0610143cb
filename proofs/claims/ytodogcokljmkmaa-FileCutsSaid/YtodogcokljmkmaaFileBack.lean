/- rookerylaw.FileBack: the walk. -/
import Derived.Test.YtodogcokljmkmaaFiled
import Derived.Test.YtodogcokljmkmaaFileLaw
import Derived.Test.YtodogcokljmkmaaCrowd
import Derived.Test.YtodogcokljmkmaaSame
namespace Go.Proofs.Ytodogcokljmkmaa
open Go.RowKit
set_option linter.unusedVariables false

theorem readR_all {s : List Blk} {key root : Int} {z : Nat} (hok : fileE s key root z = 0) : readR s key root z 0 256 = (fileB s key root z, 0) := by
  rcases readR_cases s key root z 0 256 with ⟨h, -⟩ | ⟨-, h, -⟩ | ⟨-, q, l, z', hq, hl, hz, -, -, hz2, hlen, h⟩
  · exact absurd hok h
  · omega
  · obtain rfl : q = 0 := by omega
    obtain rfl : l = 256 := by omega
    obtain rfl : z = z' := by omega
    rw [h, Nat.zero_min, List.drop_zero, List.take_of_length_le (by omega)]
theorem overL_self (b : List Int) : overL b 0 b = b := by
  unfold overL
  split
  · rfl
  · simp [splice, zeros]
theorem overR_self (b : List Int) (h : b.length ≤ 256) : overR b 0 b = (b, 0) := by
  unfold overR
  rw [if_neg (by omega), if_neg (by omega)]
  congr 1
  exact overL_self b
theorem writeR_self {s : List Blk} {key root : Int} {z : Nat} (hok : fileE s key root z = 0) : writeR s key root z 0 (fileB s key root z) = ((startR s root).1, (root, (z : Int)), 0) := by
  have hl := fileB_len hok
  obtain ⟨-, -, hz, -, -⟩ := fileE_ok hok
  unfold writeR
  rw [if_neg (by simp [hok]), overR_self _ (by omega), if_neg (by simp)]
  have h := turnR_same (s := s) (key := key) (root := root) (z := (z : Int)) (b := fileB s key root z) rfl
  unfold turnedR
  rw [h, hl]
  rfl

structure BackF (s t : List Blk) (key root : Int) (z k : Nat) (b was now : List Int) (rt : Int) (t2 : List Blk) : Prop where
  k2 : k ≤ 256
  b2 : b.length ≤ 256
  z2 : z ≤ 256
  wl : was.length = z
  wb : Byt was
  nl : now.length ≤ 256
  nb : Byt now
  wf : WfS t
  tl : t.length ≤ 400
  chk : checkE t = 0
  fe : fileE t key rt (now.length : Nat) = 0
  r1 : readR s key root z 0 256 = (was, 0)
  r2 : readR t key root z 0 256 = (was, 0)
  r3 : readR t key rt (now.length : Nat) 0 256 = (now, 0)
  dr : rt ≠ 0 → dropR t rt = (s, 0)
  w2 : writeR s key root z 0 was = (t2, (root, (z : Int)), 0)
  get : ∀ j, j < now.length → now.getD j 0 = if k ≤ j ∧ j < k + b.length then b.getD (j - k) 0 else was.getD j 0

theorem back_facts {s : List Blk} (hw : WfS s) {key root size at_ : Int} {b : List Int} (hb : Byt b) (hfew : ∀ x ∈ s, x.refs ≤ 999000) (he : (writeR s key root size at_ b).2.2 = 0) :
    ∃ (z k : Nat) (t : List Blk) (rt : Int) (was now : List Int) (t2 : List Blk), size = z ∧ at_ = k ∧ writeR s key root size at_ b = (t, (rt, ((now.length : Nat) : Int)), 0) ∧ BackF s t key root z k b was now rt t2 := by
  unfold writeR at he
  by_cases h0 : fileE s key root size = 0
  rotate_left
  · rw [if_pos h0] at he; exact absurd he h0
  rw [if_neg (fun h => h h0)] at he
  by_cases h1 : (overR (fileB s key root size) at_ b).2 = 0
  rotate_left
  · rw [if_pos h1] at he; exact absurd he h1
  rw [if_neg (fun h => h h1)] at he
  have hwr : writeR s key root size at_ b = turnedR s key root size (overR (fileB s key root size) at_ b).1 := by
    unfold writeR
    rw [if_neg (fun h => h h0), if_neg (fun h => h h1)]
  rw [hwr]
  obtain ⟨hk, hz0, hz1, hct, -⟩ := fileE_ok h0
  obtain ⟨hce, m, hm3, hm, hroot, -, -⟩ := checkT_ok hct
  obtain ⟨z, rfl⟩ : ∃ z : Nat, size = z := ⟨size.toNat, by omega⟩
  have hl := fileB_len h0
  have hby := fileB_byt s key root z
  have hov : ∃ k : Nat, at_ = k ∧ k ≤ 256 ∧ b.length ≤ 256 ∧ overR (fileB s key root z) at_ b = (overL (fileB s key root z) k b, 0) := by
    unfold overR at h1 ⊢
    by_cases c1 : at_ < 0 ∨ 256 < at_ ∨ 256 < b.length
    · rw [if_pos c1] at h1; simp at h1
    · rw [if_neg c1] at h1 ⊢
      by_cases c2 : 256 < at_ + b.length
      · rw [if_pos c2] at h1; simp at h1
      · rw [if_neg c2]
        exact ⟨at_.toNat, by omega, by omega, by omega, rfl⟩
  obtain ⟨k, rfl, hk256, hb256, hov⟩ := hov
  have hnl := overR_len h1 (by omega)
  rw [hov] at he hnl ⊢
  simp only at he hnl ⊢
  have hnb : Byt (overL (fileB s key root z) k b) := overL_byt hby hb k
  have hge := overL_getD (fileB s key root z) k b
  have h2 := readR_all h0
  have h3 := writeR_self h0
  generalize hnow : overL (fileB s key root z) k b = now at *
  have hte : (turnR s key root z now).2.2 = 0 := by
    by_cases h : (turnR s key root z now).2.2 = 0
    · exact h
    · rw [turnedR_err h] at he; simp only at he; exact absurd he h
  have hT := turnR_ok hw h0 hfew (by omega) (by omega) hnb hnl hte
  have hchk := hT.at_.chk hce (by omega)
  obtain ⟨f1, f2⟩ := hT.file hce (by omega) hk hnb hnl
  obtain ⟨g1, g2⟩ := hT.at_.file hce hw (by omega) h0
  refine ⟨z, k, _, _, fileB s key root z, now, _, rfl, rfl, turnedR_ok hte, ⟨hk256, hb256, by omega, hl, hby, hnl, hnb, hT.at_.good.wf, (checkE_zero _ hchk).1, hchk, f1, h2, ?_, ?_, fun h => hT.at_.drop hce hw (by omega) h, h3, fun j hj => hge j⟩⟩
  · rw [readR_all g1, g2]
  · rw [readR_all f1, f2]

set_option maxRecDepth 100000 in
set_option maxHeartbeats 16000000 in
theorem law_fback (w : World) (ao ba : Option Addr) (n cap nb bc : Nat) (s : List Blk) (key root size at_ : Int) (b : List Int) (hn : s.length = n) (h41 : n ≤ 2199023255552) (hs : StoRow w ao s) (hwf : WfS s) (hc : Capd ao n cap) (hz : I64 size)
    (hnb : b.length = nb) (hbr : Row .u8 w ba b) (hby : Byt b) (hb47 : nb ≤ 140737488351232) (hbc : Capd ba nb bc) :
    Calls Try.prog 5 #[.agg #[.slice ao n cap], .int .i64 key, .agg #[.int .i64 root, .int .i64 size], .int .i64 at_, .slice ba nb bc] w fun e w' => e = .returned (.bool true) ∧ Below w.heap.size w w' := by
  have HN := Lib.hid hn
  have HNB := Lib.hid hnb
  have HBR := Lib.hid hbr
  have hb0 : Below w.heap.size w ((w.alloc (.cells #[.slice ao n cap] 24)).alloc (.cells #[.int .i64 root, .int .i64 size] 26)) := ((Below.refl _ _).alloc (Nat.le_refl _) _).alloc (by simp) _
  have p0 : ((w.alloc (.cells #[.slice ao n cap] 24)).alloc (.cells #[.int .i64 root, .int .i64 size] 26)).heap[w.heap.size]? = some (.cells #[.slice ao n cap] 24 (0, 0)) := heap_alloc2_old _ _ _
  have p1 : ((w.alloc (.cells #[.slice ao n cap] 24)).alloc (.cells #[.int .i64 root, .int .i64 size] 26)).heap[w.heap.size + 1]? = some (.cells #[.int .i64 root, .int .i64 size] 26 (0, 0)) := heap_alloc2_new _ _ _
  have HCR := Lib.hid (fun (u : World) (h : Below w.heap.size w u) => crowded_any u ao n cap s hn h41 (hs.mono h))
  have HWR := Lib.hid (fun (u : World) (h : Below w.heap.size w u) => write_any u ao ba n cap nb bc s key root size at_ b hn (by omega) (hs.mono h) hwf hz hc hnb (hbr.mono h) hbc hby hb47)
  have HRD := Lib.hid (fun (u : World) (h : Below w.heap.size w u) => read_any u ao n cap s key root size 0 256 hn (by omega) (hs.mono h) hwf hz hc)
  have HWS := Lib.hid (fun (fb : List Int) (fa : Option Addr) (fn fc : Nat) (h1 : fb.length = fn) (h2 : fn ≤ 256) (h3 : Byt fb) (u : World) (h : Below w.heap.size w u) (hr : Row .u8 u fa fb) (hcp : Capd fa fn fc) => write_any u ao fa n cap fn fc s key root size 0 fb hn (by omega) (hs.mono h) hwf hz hc h1 hr hcp h3 (by omega))
  have HSM := Lib.hid (fun (u : World) (h : Below w.heap.size w u) (ax : Option Addr) (cx : Nat) (hx : StoRow u ax s) => same_any u ax ao n cx n cap s s hn hn (by omega) (by omega) hx (hs.mono h) hwf hwf)
  have HBF := Lib.hid (fun (hcr : crowdB s = false) (he : (writeR s key root size at_ b).2.2 = 0) => back_facts hwf hby (crowdB_few hcr) he)
  have HWF := Lib.hid hwf
  clear hn hs hwf hc hnb hbr hby hbc hz
  generalize writeR s key root size at_ b = WR at *
  obtain ⟨ml, ⟨gr, gz⟩, we⟩ := WR
  obtain ⟨cb, hcb⟩ : ∃ cb, crowdB s = cb := ⟨_, rfl⟩
  rw [hcb] at HCR HBF
  replace hcb := Lib.hid hcb
  go_enter Try.func5, Try.ntmps5
  go_wp2_with fail
  generalize (w.alloc (.cells #[.slice ao n cap] 24)).alloc (.cells #[.int .i64 root, .int .i64 size] 26) = W0 at *
  refine (HCR.out W0 hb0).mono ?_
  rintro e w1 ⟨rfl, hb1⟩
  have hbw1 := below_step hb0 hb1
  replace p0 := (hb1.block _ (lt_heap p0)).trans p0
  replace p1 := (hb1.block _ (lt_heap p1)).trans p1
  clear hb1
  cases cb with
  | true =>
    go_wp2
    go_ret
    exact ⟨rfl, hbw1⟩
  | false =>
    have c0 := cell_of_one p0
    have c10 := cell_of_block p1 0
    have c11 := cell_of_block p1 1
    simp at c10 c11
    have l0 := lt_heap p0
    have l1 := lt_heap p1
    go_wp2_with fail
    refine (HWR.out w1 hbw1).mono ?_
    rintro e w2 ⟨v2, rfl, ho2, hb2⟩
    simp only at ho2 ⊢
    obtain ⟨mo, mc, rfl, hmc, hms⟩ := ho2.sto
    obtain ⟨mn, hmn⟩ : ∃ mn, ml.length = mn := ⟨_, rfl⟩
    rw [hmn] at hmc ⊢
    have hbw2 := below_step hbw1 hb2
    have hA : Below w2.heap.size w2 ((w2.alloc (.cells #[.slice mo mn mc] 24)).alloc (.cells #[.int .i64 gr, .int .i64 gz] 26)) := ((Below.refl _ _).alloc (Nat.le_refl _) _).alloc (by simp) _
    have q0 : ((w2.alloc (.cells #[.slice mo mn mc] 24)).alloc (.cells #[.int .i64 gr, .int .i64 gz] 26)).heap[w2.heap.size]? = some (.cells #[.slice mo mn mc] 24 (0, 0)) := heap_alloc2_old _ _ _
    have q1 : ((w2.alloc (.cells #[.slice mo mn mc] 24)).alloc (.cells #[.int .i64 gr, .int .i64 gz] 26)).heap[w2.heap.size + 1]? = some (.cells #[.int .i64 gr, .int .i64 gz] 26 (0, 0)) := heap_alloc2_new _ _ _
    have hB2 := hb2.trans (hA.mono hb2.size)
    have hbW := below_step hbw2 hA
    replace p0 := (hB2.block _ (lt_heap p0)).trans p0
    replace p1 := (hB2.block _ (lt_heap p1)).trans p1
    replace hms := hms.mono hA
    have HMN := Lib.hid hmn
    clear c0 c10 c11 l0 l1 ho2 hmn hB2 hb2 hA
    go_wp2_with fail
    generalize (w2.alloc (.cells #[.slice mo mn mc] 24)).alloc (.cells #[.int .i64 gr, .int .i64 gz] 26) = W2 at *
    refine (filed_any W2).mono ?_
    rintro e w3 ⟨rfl, hb3⟩
    have hbw3 := below_step hbW hb3
    by_cases hwe : we = 0
    rotate_left
    · have e2 : (we != 0) = true := by rw [bne_iff_ne]; exact hwe
      clear hwe
      go_wp2_with fail
      refine (filed_any w3).mono ?_
      rintro e w4 ⟨rfl, hb4⟩
      have hbw4 := below_step hbw3 hb4
      go_wp2
      go_ret
      exact ⟨rfl, hbw4⟩
    obtain ⟨z, k, t, rt, was, now, t2, rfl, rfl, hW, hF⟩ := HBF.out trivial hwe
    simp only [Prod.mk.injEq] at hW
    obtain ⟨rfl, ⟨rfl, rfl⟩, rfl⟩ := hW
    obtain ⟨L, hL⟩ : ∃ L, now.length = L := ⟨_, rfl⟩
    have HF := Lib.hid hF
    have r1 := hF.r1
    have r2 := hF.r2
    have r3 := hF.r3
    have ht4 := hF.tl
    have hz256 := hF.z2
    have hL256 := hF.nl
    rw [hL] at r3 q1 hL256 ⊢
    have hfe := hF.fe
    rw [hL] at hfe
    rw [HMN.out] at ht4
    have HRm1 := Lib.hid (fun (u : World) (h : StoRow u mo ml) => read_any u mo mn mc ml key root z 0 256 HMN.out (by omega) h HF.out.wf (by unfold I64; omega) hmc)
    have HRm2 := Lib.hid (fun (u : World) (h : StoRow u mo ml) => read_any u mo mn mc ml key gr L 0 256 HMN.out (by omega) h HF.out.wf (by unfold I64; omega) hmc)
    have HCm := Lib.hid (fun (u : World) (h : StoRow u mo ml) => check_any u mo mn mc ml HMN.out (by omega) h HF.out.wf)
    have HFm := Lib.hid (fun (u : World) (h : StoRow u mo ml) => fileCheck_any u mo mn mc ml key gr L HMN.out (by omega) h HF.out.wf (by unfold I64; omega))
    have HDm := Lib.hid (fun (u : World) (h : StoRow u mo ml) => drop_any u mo mn mc ml gr HMN.out (by omega) h HF.out.wf hmc)
    rw [r1] at HRD
    rw [r2] at HRm1
    rw [r3] at HRm2
    rw [hF.chk] at HCm
    rw [hfe] at HFm
    clear r1 r2 r3 hF hfe hwe
    have HLL := Lib.hid hL
    clear hL
    replace p0 := (hb3.block _ (lt_heap p0)).trans p0
    replace p1 := (hb3.block _ (lt_heap p1)).trans p1
    replace q0 := (hb3.block _ (lt_heap q0)).trans q0
    replace q1 := (hb3.block _ (lt_heap q1)).trans q1
    replace hms := hms.mono hb3
    clear hb3
    have c0 := cell_of_one p0
    have c10 := cell_of_block p1 0
    have c11 := cell_of_block p1 1
    simp at c10 c11
    have l0 := lt_heap p0
    have l1 := lt_heap p1
    go_wp2_with fail
    refine (HRD.out w3 hbw3).mono ?_
    rintro e w4 ⟨xa, xn, xc, rfl, hxn, hxr, hxc, hb4⟩
    simp only at hxn hxr ⊢
    obtain rfl : xn = z := hxn.symm.trans HF.out.wl
    have HXN := Lib.hid hxn
    have hbw4 := below_step hbw3 hb4
    replace p0 := (hb4.block _ (lt_heap p0)).trans p0
    replace p1 := (hb4.block _ (lt_heap p1)).trans p1
    replace q0 := (hb4.block _ (lt_heap q0)).trans q0
    replace q1 := (hb4.block _ (lt_heap q1)).trans q1
    replace hms := hms.mono hb4
    clear hxn hb4 c0 c10 c11 l0 l1
    have c10 := cell_of_block p1 0
    have c11 := cell_of_block p1 1
    simp at c10 c11
    have l1 := lt_heap p1
    have d0 := cell_of_one q0
    have l2 := lt_heap q0
    go_wp2_with fail
    refine (HRm1.out w4 hms).mono ?_
    rintro e w5 ⟨ya, yn, yc, rfl, hyn, hyr, hyc, hb5⟩
    simp only at hyn hyr ⊢
    obtain rfl : yn = xn := hyn.symm.trans HXN.out
    have hbw5 := below_step hbw4 hb5
    replace p0 := (hb5.block _ (lt_heap p0)).trans p0
    replace p1 := (hb5.block _ (lt_heap p1)).trans p1
    replace q0 := (hb5.block _ (lt_heap q0)).trans q0
    replace q1 := (hb5.block _ (lt_heap q1)).trans q1
    replace hms := hms.mono hb5
    replace hxr := hxr.mono hb5
    clear hyn hb5 c10 c11 l1 d0 l2 hyc
    have d0 := cell_of_one q0
    have l2 := lt_heap q0
    have d10 := cell_of_block q1 0
    have d11 := cell_of_block q1 1
    simp at d10 d11
    have l3 := lt_heap q1
    go_wp2_with fail
    refine (HRm2.out w5 hms).mono ?_
    rintro e w6 ⟨na, nn, nc, rfl, hnn, hnr, hnc, hb6⟩
    simp only at hnn hnr ⊢
    obtain rfl : nn = L := hnn.symm.trans HLL.out
    have hbw6 := below_step hbw5 hb6
    replace p0 := (hb6.block _ (lt_heap p0)).trans p0
    replace p1 := (hb6.block _ (lt_heap p1)).trans p1
    replace q0 := (hb6.block _ (lt_heap q0)).trans q0
    replace q1 := (hb6.block _ (lt_heap q1)).trans q1
    replace hms := hms.mono hb6
    replace hxr := hxr.mono hb6
    replace hyr := hyr.mono hb6
    clear hnn hb6 d0 l2 d10 d11 l3 hnc
    have hEQ := bytes_equal_n xa ya yn yn xc yc was was w6 HXN.out HXN.out hxr hyr HF.out.wb HF.out.wb
    rw [beq_self_eq_true] at hEQ
    go_wp2_with fail
    refine hEQ.mono ?_
    rintro e w7 ⟨rfl, rfl⟩
    have d0 := cell_of_one q0
    have l2 := lt_heap q0
    have d10 := cell_of_block q1 0
    have d11 := cell_of_block q1 1
    simp at d10 d11
    have l3 := lt_heap q1
    clear hEQ hyr
    go_wp2_with fail
    refine (HCm.out w6 hms).mono ?_
    rintro e w7 ⟨rfl, hb7⟩
    have hbw7 := below_step hbw6 hb7
    replace p0 := (hb7.block _ (lt_heap p0)).trans p0
    replace p1 := (hb7.block _ (lt_heap p1)).trans p1
    replace q0 := (hb7.block _ (lt_heap q0)).trans q0
    replace q1 := (hb7.block _ (lt_heap q1)).trans q1
    replace hms := hms.mono hb7
    replace hxr := hxr.mono hb7
    replace hnr := hnr.mono hb7
    clear hb7 d0 l2 d10 d11 l3
    have d0 := cell_of_one q0
    have l2 := lt_heap q0
    have d10 := cell_of_block q1 0
    have d11 := cell_of_block q1 1
    simp at d10 d11
    have l3 := lt_heap q1
    go_wp2_with fail
    refine (HFm.out w7 hms).mono ?_
    rintro e w8 ⟨rfl, hb8⟩
    have hbw8 := below_step hbw7 hb8
    replace p0 := (hb8.block _ (lt_heap p0)).trans p0
    replace p1 := (hb8.block _ (lt_heap p1)).trans p1
    replace q0 := (hb8.block _ (lt_heap q0)).trans q0
    replace q1 := (hb8.block _ (lt_heap q1)).trans q1
    replace hms := hms.mono hb8
    replace hxr := hxr.mono hb8
    replace hnr := hnr.mono hb8
    have hbr8 := HBR.out.mono hbw8
    clear hb8 d0 l2 d10 d11 l3
    have HGET := Lib.hid HF.out.get
    have hk256 := HF.out.k2
    have hnb256 : nb ≤ 256 := by have := HF.out.b2; have := HNB.out; omega
    go_wp2_with fail
    go_loop [103] (fun x => ∃ j : Nat, j ≤ nn ∧ x = .int .i64 j) (fun x => nn - (intOf x).toNat)
    case atStart => exact ⟨0, Nat.zero_le _, rfl⟩
    case round =>
      obtain ⟨j, hj, rfl⟩ := hrel
      by_cases hlt : j < nn
      · have hjn : j < now.length := by rw [HLL.out]; exact hlt
        obtain ⟨nb1, no1, rfl, hnc1⟩ := hnr.at j hjn
        have xj := hnc1 j hjn
        have lj := World.block_lt_of_cell? _ _ xj
        have hg := HGET.out j hjn
        rw [List.getD_eq_getElem?_getD, List.getElem?_eq_getElem hjn, Option.getD_some] at hg
        have hjL : (j : Int) < nn := by omega
        have HG := Lib.hid hg
        clear hnc1 hg
        generalize now[j] = y at *
        by_cases hA : k ≤ j ∧ j < k + nb
        · obtain ⟨i, rfl⟩ : ∃ i, j = k + i := ⟨j - k, by omega⟩
          have hin : i < b.length := by rw [HNB.out]; omega
          obtain ⟨bb, bo, rfl, hbc1⟩ := hbr8.at i hin
          have xi := hbc1 i hin
          have li := World.block_lt_of_cell? _ _ xi
          have hy : y = b[i] := by
            rw [HG.out, if_pos (by rw [HNB.out]; exact hA), show k + i - k = i from by omega, List.getD_eq_getElem?_getD, List.getElem?_eq_getElem hin]
            rfl
          rw [← hy] at xi
          have i1 : (k : Int) ≤ (k : Int) + i := by omega
          have i2 : (k : Int) + i < (k : Int) + nb := by omega
          have i3 : (k : Int) + i - k = i := by omega
          have i4 : (i : Int) < nb := by omega
          have i5 : i < nb := by omega
          clear hbc1 hy hA hin
          go_wp2
          go_round
          case rel => exact ⟨k + i + 1, by omega, by go_num⟩
          case measure => simp [intOf]; omega
        · have hyw : y = was.getD j 0 := by rw [HG.out, if_neg (by rw [HNB.out]; exact hA)]
          have HYW := Lib.hid hyw
          clear hyw
          have key2 : ¬ ((k : Int) ≤ j) ∨ ((k : Int) ≤ j ∧ ¬ ((j : Int) < (k : Int) + nb)) := by omega
          by_cases hB : j < yn
          · have hjw : j < was.length := by rw [HXN.out]; exact hB
            obtain ⟨xb, xo, rfl, hxc1⟩ := hxr.at j hjw
            have xw := hxc1 j hjw
            have lw := World.block_lt_of_cell? _ _ xw
            have hy : y = was[j] := by rw [HYW.out, List.getD_eq_getElem?_getD, List.getElem?_eq_getElem hjw]; rfl
            rw [← hy] at xw
            have hjz : (j : Int) < yn := by omega
            clear hxc1 hy hA hjw
            rcases key2 with i1 | ⟨i1, i2⟩
            all_goals
              go_wp2
              go_round
              case rel => exact ⟨j + 1, by omega, by go_num⟩
              case measure => simp [intOf]; omega
          · have hy : y = 0 := by rw [HYW.out]; exact getD_out (by rw [HXN.out]; omega)
            subst hy
            have hjz : ¬ ((j : Int) < yn) := by omega
            clear hA
            rcases key2 with i1 | ⟨i1, i2⟩
            all_goals
              go_wp2
              go_round
              case rel => exact ⟨j + 1, by omega, by go_num⟩
              case measure => simp [intOf]; omega
      · obtain rfl : j = nn := by omega
        have d10 := cell_of_block q1 0
        have d11 := cell_of_block q1 1
        simp at d10 d11
        have l3 := lt_heap q1
        have d0 := cell_of_one q0
        have l2 := lt_heap q0
        have HWZ := Lib.hid (fun (u : World) (h : Below w.heap.size w u) (hr : Row .u8 u xa was) => HWS.out was xa yn xc HXN.out hz256 HF.out.wb u h hr hxc)
        rw [HF.out.w2] at HWZ
        have HD := Lib.hid HF.out.dr
        clear HGET hbr8 hnr hlt hk256 hnb256
        by_cases hgr : gr = 0
        case' pos =>
          subst hgr
          have c0 := cell_of_one p0
          have l0 := lt_heap p0
          have c10 := cell_of_block p1 0
          have c11 := cell_of_block p1 1
          simp at c10 c11
          have l1 := lt_heap p1
          generalize w8 = wF at *
          go_wp2_with fail
        case' neg =>
          have hg1 : (gr != 0) = true := by rw [bne_iff_ne]; exact hgr
          have hDR := HDm.out w8 hms
          rw [HD.out hgr] at hDR
          clear hgr
          go_wp2_with fail
          refine hDR.mono ?_
          rintro e w9 ⟨v9, rfl, ho9, hb9⟩
          simp only at ho9 ⊢
          obtain ⟨xo, xoc, rfl, -, hos⟩ := ho9.sto
          rw [HN.out] at ho9 ⊢
          have hbw9 := below_step hbw8 hb9
          have hA9 : Below w9.heap.size w9 (w9.alloc (.cells #[.slice xo n xoc] 24)) := (Below.refl _ _).alloc (Nat.le_refl _) _
          have hbA9 := below_step hbw9 hA9
          have hB9 := hb9.trans (hA9.mono hb9.size)
          replace p0 := (hB9.block _ (lt_heap p0)).trans p0
          replace p1 := (hB9.block _ (lt_heap p1)).trans p1
          replace hxr := hxr.mono hB9
          have hS9 := HSM.out (w9.alloc (.cells #[.slice xo n xoc] 24)) hbA9 xo xoc (hos.mono hA9)
          rw [show sameS s s = true from by simp [sameS]] at hS9
          clear d0 d10 d11 l2 l3 hDR ho9 hos
          have c0 := cell_of_one p0
          have l0 := lt_heap p0
          go_wp2_with fail
          generalize w9.alloc (.cells #[.slice xo n xoc] 24) = W9 at *
          refine hS9.mono ?_
          rintro e w10 ⟨rfl, hb10⟩
          have hbw10 := below_step hbA9 hb10
          replace p0 := (hb10.block _ (lt_heap p0)).trans p0
          replace p1 := (hb10.block _ (lt_heap p1)).trans p1
          replace hxr := hxr.mono hb10
          clear c0 l0 hS9
          have c0 := cell_of_one p0
          have l0 := lt_heap p0
          have c10 := cell_of_block p1 0
          have c11 := cell_of_block p1 1
          simp at c10 c11
          have l1 := lt_heap p1
          clear hbw8
          have hbw8 := hbw10
          clear hbw10 hms q0 q1
          generalize w10 = wF at *
          go_wp2_with fail
        all_goals
          refine (HWZ.out wF hbw8 hxr).mono ?_
          rintro e w11 ⟨v11, rfl, ho11, hb11⟩
          simp only at ho11 ⊢
          obtain ⟨zo, zc, rfl, -, -⟩ := ho11.sto
          obtain ⟨zn, hzn⟩ : ∃ zn, t2.length = zn := ⟨_, rfl⟩
          rw [hzn]
          have hbw11 := below_step hbw8 hb11
          have hA11 : Below w11.heap.size w11 ((w11.alloc (.cells #[.slice zo zn zc] 24)).alloc (.cells #[.int .i64 root, .int .i64 yn] 26)) := ((Below.refl _ _).alloc (Nat.le_refl _) _).alloc (by simp) _
          have hbA11 := below_step hbw11 hA11
          have hB11 := hb11.trans (hA11.mono hb11.size)
          have p1' := (hB11.block _ (lt_heap p1)).trans p1
          have u0 := cell_of_block p1' 0
          have u1 := cell_of_block p1' 1
          simp at u0 u1
          have u2 := lt_heap p1'
          clear ho11 hzn c0 l0 c10 c11 l1 hA11 hB11 hb11
          go_wp2_with fail
          go_ret
          exact ⟨rfl, hbA11⟩
end Go.Proofs.Ytodogcokljmkmaa
