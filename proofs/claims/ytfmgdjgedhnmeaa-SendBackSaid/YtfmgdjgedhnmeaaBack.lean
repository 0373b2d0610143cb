/- The law SendBack. -/
import Derived.Deep.RegionWith
import Derived.Deep.DeepCutAuto
import Derived.Test.YtfmgdjgedhnmeaaFiled
import Derived.Test.YtfmgdjgedhnmeaaSent
import Derived.Test.YtfmgdjgedhnmeaaSendA
import Derived.Test.YtfmgdjgedhnmeaaBackW
namespace Go.Proofs.Ytfmgdjgedhnmeaa
open Go.RowKit
set_option linter.unusedVariables false
set_option linter.unusedSimpArgs false

set_option maxRecDepth 100000 in
set_option maxHeartbeats 16000000 in
theorem law_back (w : World) (ao fo so go uo : Option Addr) (n cap fn fc sn sc gn gc un uc : Nat) (s : List Blk) (key : Int) (x y : SetV) (hn : s.length = n) (h41 : n ≤ 2199023255552) (hs : StoRow w ao s) (hwf : WfS s) (hc : Capd ao n cap)
    (hx : SetIn w fo fn fc so sn sc x) (hwx : WfX x) (hy : SetIn w go gn gc uo un uc y) (hwy : WfX y) :
    Calls Try.prog 4 #[.agg #[.slice ao n cap], .int .i64 key, .agg #[.string x.nm, .slice fo fn fc, .slice so sn sc], .agg #[.string y.nm, .slice go gn gc, .slice uo un uc]] w fun e w' => e = .returned (.bool true) ∧ Below w.heap.size w w' := by
  have hb0 : Below w.heap.size w (((w.alloc (.cells #[.slice ao n cap] 24)).alloc (.cells #[.string x.nm, .slice fo fn fc, .slice so sn sc] 28)).alloc (.cells #[.string y.nm, .slice go gn gc, .slice uo un uc] 28)) := (((Below.refl _ _).alloc (Nat.le_refl _) _).alloc (by simp) _).alloc (by simp; omega) _
  have p4 : (((w.alloc (.cells #[.slice ao n cap] 24)).alloc (.cells #[.string x.nm, .slice fo fn fc, .slice so sn sc] 28)).alloc (.cells #[.string y.nm, .slice go gn gc, .slice uo un uc] 28)).heap[w.heap.size]? = some (.cells #[.slice ao n cap] 24 (0, 0)) := (heap_alloc_old _ _ (by simp; omega)).trans (heap_alloc2_old _ _ _)
  have p6 : (((w.alloc (.cells #[.slice ao n cap] 24)).alloc (.cells #[.string x.nm, .slice fo fn fc, .slice so sn sc] 28)).alloc (.cells #[.string y.nm, .slice go gn gc, .slice uo un uc] 28)).heap[w.heap.size + 1]? = some (.cells #[.string x.nm, .slice fo fn fc, .slice so sn sc] 28 (0, 0)) := (heap_alloc_old _ _ (by simp)).trans (heap_alloc2_new _ _ _)
  have p7 : (((w.alloc (.cells #[.slice ao n cap] 24)).alloc (.cells #[.string x.nm, .slice fo fn fc, .slice so sn sc] 28)).alloc (.cells #[.string y.nm, .slice go gn gc, .slice uo un uc] 28)).heap[w.heap.size + 1 + 1]? = some (.cells #[.string y.nm, .slice go gn gc, .slice uo un uc] 28 (0, 0)) := by
    have := heap_alloc_new ((w.alloc (.cells #[.slice ao n cap] 24)).alloc (.cells #[.string x.nm, .slice fo fn fc, .slice so sn sc] 28)) (.cells #[.string y.nm, .slice go gn gc, .slice uo un uc] 28)
    simpa using this
  have HCR := Lib.hid (crowded_any (((w.alloc (.cells #[.slice ao n cap] 24)).alloc (.cells #[.string x.nm, .slice fo fn fc, .slice so sn sc] 28)).alloc (.cells #[.string y.nm, .slice go gn gc, .slice uo un uc] 28)) ao n cap s hn h41 (hs.mono hb0))
  have HN := Lib.hid hn
  have HC := Lib.hid hc
  have HS := Lib.hid hs
  have HW := Lib.hid hwf
  have HX := Lib.hid hx
  have HY := Lib.hid hy
  have HWX := Lib.hid hwx
  have HWY := Lib.hid hwy
  have HB0 := Lib.hid hb0
  clear hn hc hs hwf hx hy hwx hwy hb0
  have c4 := cell_of_one p4
  go_enter Try.func4, Try.ntmps4
  go_upto_region 1 with fail
  generalize ((w.alloc (Obj.cells #[Value.slice ao n cap] 24)).alloc (Obj.cells #[Value.string x.nm, Value.slice fo fn fc, Value.slice so sn sc] 28)).alloc (Obj.cells #[Value.string y.nm, Value.slice go gn gc, Value.slice uo un uc] 28) = W0 at *
  go_wp2_with fail
  refine HCR.out.mono ?_
  rintro e w1 ⟨rfl, hb1⟩
  have q4 := (hb1.block _ (lt_heap p4)).trans p4
  have q6 := (hb1.block _ (lt_heap p6)).trans p6
  have q7 := (hb1.block _ (lt_heap p7)).trans p7
  have hbw := below_step HB0.out hb1
  clear hb1 HCR HB0 p4 p6 p7 c4
  cases hcr : crowdB s with
  | true =>
    clear q4 q6 q7
    go_wp2_with fail
    go_ret
    exact ⟨rfl, hbw⟩
  | false =>
  have HFW := Lib.hid (few_of_crowd hcr)
  clear hcr
  have c4 := cell_of_one q4
  have k60 := cell_of_block q6 0
  have k61 := cell_of_block q6 1
  have k62 := cell_of_block q6 2
  have k70 := cell_of_block q7 0
  have k71 := cell_of_block q7 1
  have k72 := cell_of_block q7 2
  simp only [List.getElem?_toArray, List.getElem?_cons_succ, List.getElem?_cons_zero] at k60 k61 k62 k70 k71 k72
  have l4 := lt_heap q4
  have l6 := lt_heap q6
  have l7 := lt_heap q7
  have HDF := Lib.hid (diff_any w1 ao fo so go uo n cap fn fc sn sc gn gc un uc s key x y HN.out (by omega) (HS.out.mono hbw) HW.out HC.out (HX.out.mono hbw) HWX.out (HY.out.mono hbw) HWY.out)
  have HBA := Lib.hid (back_all (s := s) (key := key) (a := x) (b := y) HW.out HFW.out)
  have HDK := Lib.hid (diff_ok (s := s) (key := key) (a := x) (b := y))
  have HFT := Lib.hid (diff_fit (s := s) (key := key) (a := x) (b := y))
  obtain ⟨RD, hRD⟩ : ∃ RD, diffR s key x y = RD := ⟨_, rfl⟩
  rw [hRD] at HDF HBA HDK HFT
  clear hRD
  go_wp2_with fail
  refine HDF.out.mono ?_
  rintro e w2 ⟨v2, rfl, hch2, hb2⟩
  have q4 := (hb2.block _ (lt_heap q4)).trans q4
  have q6 := (hb2.block _ (lt_heap q6)).trans q6
  have q7 := (hb2.block _ (lt_heap q7)).trans q7
  have hbw := below_step hbw hb2
  have HCH := Lib.hid hch2
  clear hch2 hb2 HDF
  clear c4 k60 k61 k62 k70 k71 k72 l4 l6 l7
  go_wp2_with fail
  refine (sent_any _).mono ?_
  rintro e w3 ⟨rfl, hb3⟩
  have q4 := (hb3.block _ (lt_heap q4)).trans q4
  have q6 := (hb3.block _ (lt_heap q6)).trans q6
  have q7 := (hb3.block _ (lt_heap q7)).trans q7
  have hbw := below_step hbw hb3
  have HCH3 := Lib.hid (HCH.out.mono hb3)
  clear hb3 HCH
  by_cases he : RD.2 = 0
  rotate_left
  · have he1 : (RD.2 != 0) = true := by rw [bne_iff_ne]; exact he
    generalize RD.2 = de at *
    clear q4 q6 q7 HCH3 HBA HDK HFT he
    go_wp2_with fail
    refine (sent_any _).mono ?_
    rintro e w4 ⟨rfl, hb4⟩
    go_wp2_with fail
    go_ret
    exact ⟨rfl, below_step hbw hb4⟩
  obtain ⟨g1, g2, -, g4⟩ := HDK.out he
  have HG1 := Lib.hid g1
  have HG2 := Lib.hid g2
  have HG4 := Lib.hid g4
  have HB := Lib.hid (HBA.out he)
  obtain ⟨L, de⟩ := RD
  simp only at he HCH3 HB HFT HG4
  subst he
  clear g1 g2 g4 HBA HDK
  obtain ⟨la, lc, rfl, -, -⟩ := HCH3.out.shape
  have c4 := cell_of_one q4
  have k60 := cell_of_block q6 0
  have k61 := cell_of_block q6 1
  have k62 := cell_of_block q6 2
  have k70 := cell_of_block q7 0
  have k71 := cell_of_block q7 1
  have k72 := cell_of_block q7 2
  simp only [List.getElem?_toArray, List.getElem?_cons_succ, List.getElem?_cons_zero] at k60 k61 k62 k70 k71 k72
  have l4 := lt_heap q4
  have l6 := lt_heap q6
  have l7 := lt_heap q7
  have HDS := Lib.hid (diff_any w3 ao fo so fo so n cap fn fc sn sc fn fc sn sc s key x x HN.out (by omega) (HS.out.mono hbw) HW.out HC.out (HX.out.mono hbw) HWX.out (HX.out.mono hbw) HWX.out)
  rw [diff_self HW.out HG1.out] at HDS
  go_wp2_with fail
  refine HDS.out.mono ?_
  rintro e w4 ⟨v4, rfl, hch4, hb4⟩
  obtain ⟨na, nc, rfl, -, -⟩ := hch4.shape
  have q4 := (hb4.block _ (lt_heap q4)).trans q4
  have q6 := (hb4.block _ (lt_heap q6)).trans q6
  have q7 := (hb4.block _ (lt_heap q7)).trans q7
  have hbw := below_step hbw hb4
  have HCH4 := Lib.hid (HCH3.out.mono hb4)
  clear hch4 hb4 HDS HCH3
  clear c4 k60 k61 k62 k70 k71 k72 l4 l6 l7
  have c4 := cell_of_one q4
  have k60 := cell_of_block q6 0
  have k61 := cell_of_block q6 1
  have k62 := cell_of_block q6 2
  have k70 := cell_of_block q7 0
  have k71 := cell_of_block q7 1
  have k72 := cell_of_block q7 2
  simp only [List.getElem?_toArray, List.getElem?_cons_succ, List.getElem?_cons_zero] at k60 k61 k62 k70 k71 k72
  have l4 := lt_heap q4
  have l6 := lt_heap q6
  have l7 := lt_heap q7
  have HAP := Lib.hid (apply_any (fun p => Ahead s key x ∧ Mid s key x p) w4 ao fo so la n cap fn fc sn sc L.length lc s key x L HN.out h41 (HS.out.mono hbw) HW.out HC.out (HX.out.mono hbw) HWX.out rfl (by have := HG4.out; omega) HCH4.out.row.2.1 HFT.out
    (fun h1 h2 => ahead_of HW.out HFW.out (setE_ok h1) h2) (fun p h => by have h1 := h.2.fine h.1; rw [HN.out] at h1; exact h1) (fun p q h hk hb he => ⟨h.1, h.2.keep h.1 hk hb he⟩))
  obtain ⟨R, hR⟩ : ∃ R, applyR s key x L = R := ⟨_, rfl⟩
  rw [hR] at HAP HB
  clear hR
  go_wp2_with fail
  refine HAP.out.mono ?_
  rintro e w5 ⟨a5, n5, c5, f5, m5, d5, s5, t5, e5, rfl, hb5, hl5, hs5, hc5, hx5⟩
  have q4 := (hb5.block _ (lt_heap q4)).trans q4
  have q6 := (hb5.block _ (lt_heap q6)).trans q6
  have q7 := (hb5.block _ (lt_heap q7)).trans q7
  have hbw := below_step hbw hb5
  clear c4 k60 k61 k62 k70 k71 k72 l4 l6 l7
  obtain ⟨t, x5, er⟩ := R
  simp only at HB hl5 hs5 hx5 ⊢
  have hb6 : Below w5.heap.size w5 ((w5.alloc (.cells #[.slice a5 n5 c5] 24)).alloc (.cells #[.string x5.nm, .slice f5 m5 d5, .slice s5 t5 e5] 28)) := ((Below.refl _ _).alloc (Nat.le_refl _) _).alloc (by simp) _
  have rS := heap_alloc2_old w5 (.cells #[.slice a5 n5 c5] 24) (.cells #[.string x5.nm, .slice f5 m5 d5, .slice s5 t5 e5] 28)
  have rX := heap_alloc2_new w5 (.cells #[.slice a5 n5 c5] 24) (.cells #[.string x5.nm, .slice f5 m5 d5, .slice s5 t5 e5] 28)
  have HCQ := Lib.hid hc5
  have HSQ := Lib.hid (hs5.1.mono hb6)
  have HXQ := Lib.hid (hx5.1.mono hb6)
  have HLQ := Lib.hid hl5
  have q4 := (hb6.block _ (lt_heap q4)).trans q4
  have q6 := (hb6.block _ (lt_heap q6)).trans q6
  have q7 := (hb6.block _ (lt_heap q7)).trans q7
  have hbw := below_step hbw hb6
  clear hb5 hb6 hc5 hs5 hx5 hl5 HAP HCH4
  go_upto_region 10 with fail
  generalize (w5.alloc (Obj.cells #[.slice a5 n5 c5] 24)).alloc (Obj.cells #[.string x5.nm, .slice f5 m5 d5, .slice s5 t5 e5] 28) = W6 at *
  rcases HB.out with (rfl | rfl) | ⟨rfl, r1, r2, r3, r4⟩
  · clear HB rS rX q4 q6 q7
    go_wp2_with fail
    go_ret
    exact ⟨rfl, hbw⟩
  · clear HB rS rX q4 q6 q7
    go_wp2_with fail
    go_ret
    exact ⟨rfl, hbw⟩
  have HR1 := Lib.hid r1
  have HR2 := Lib.hid r2
  have HR4 := Lib.hid r4
  have HFN : Hid (x5.files.length = m5 ∧ y.files.length = gn ∧ m5 = gn) := Lib.hid (by have h1 := HXQ.out.flen; have h2 := HY.out.flen; omega)
  have hmg : m5 = gn := HFN.out.2.2
  subst hmg
  clear HB r1 r2 r3 r4
  have c4 := cell_of_one q4
  have k60 := cell_of_block q6 0
  have k61 := cell_of_block q6 1
  have k62 := cell_of_block q6 2
  have k70 := cell_of_block q7 0
  have k71 := cell_of_block q7 1
  have k72 := cell_of_block q7 2
  simp only [List.getElem?_toArray, List.getElem?_cons_succ, List.getElem?_cons_zero] at k60 k61 k62 k70 k71 k72
  have l4 := lt_heap q4
  have l6 := lt_heap q6
  have l7 := lt_heap q7
  have s0 := cell_of_one rS
  have s10 := cell_of_block rX 0
  have s11 := cell_of_block rX 1
  have s12 := cell_of_block rX 2
  simp only [List.getElem?_toArray, List.getElem?_cons_succ, List.getElem?_cons_zero] at s10 s11 s12
  have lS := lt_heap rS
  have lX := lt_heap rX
  have HCK := Lib.hid (setCheck_any W6 a5 f5 s5 n5 c5 m5 d5 t5 e5 t key x5 HLQ.out (by have h1 := (checkE_zero t HR1.out.chk).1; have h2 := HLQ.out; omega) HSQ.out HR2.out HXQ.out HR1.out.wf)
  rw [HR1.out.zero] at HCK
  go_wp2_with fail
  refine HCK.out.mono ?_
  rintro e w7 ⟨rfl, hb7⟩
  have q4 := (hb7.block _ (lt_heap q4)).trans q4
  have q6 := (hb7.block _ (lt_heap q6)).trans q6
  have q7 := (hb7.block _ (lt_heap q7)).trans q7
  have rS := (hb7.block _ (lt_heap rS)).trans rS
  have rX := (hb7.block _ (lt_heap rX)).trans rX
  have HSQ7 := Lib.hid (HSQ.out.mono hb7)
  have HXQ7 := Lib.hid (HXQ.out.mono hb7)
  have hbw := below_step hbw hb7
  have HBW := Lib.hid hbw
  clear hb7 HSQ HXQ HCK s0 s10 s11 s12 lS lX hbw
  clear c4 k60 k61 k62 k70 k71 k72 l4 l6 l7
  have k71 := cell_of_block q7 1
  simp only [List.getElem?_toArray, List.getElem?_cons_succ, List.getElem?_cons_zero] at k71
  have l7 := lt_heap q7
  obtain ⟨bS, hbS⟩ : ∃ bS, w5.heap.size = bS := ⟨_, rfl⟩
  rw [hbS] at rS rX
  go_wp2_with fail
  try simp only [hbS]
  go_loopw [87] (fun i wr => ∃ k : Nat, k ≤ m5 ∧ i = .int .i64 k ∧ Hid (Below w7.heap.size w7 wr)) (fun i _ => m5 - (intOf i).toNat)
  case atStart => exact ⟨0, Nat.zero_le _, rfl, Lib.hid (Below.refl _ _)⟩
  case round =>
    obtain ⟨k, hkn, rfl, HBR⟩ := hrel
    clear k71 l7
    have hbr := HBR.out
    have HBX := Lib.hid (below_step HBW.out hbr)
    by_cases hlt : k < m5
    · have hlt' : (k : Int) < m5 := by omega
      have hky : k < y.files.length := by have := HFN.out; omega
      have hkx : k < x5.files.length := by have := HFN.out; omega
      have HQ4 := HR4.out k hkx hky
      obtain ⟨b, o, hgo, hq⟩ := HY.out.frow.at k hky
      obtain ⟨b2, o2, hfo, hq2⟩ := HXQ7.out.frow.at k hkx
      subst hgo
      subst hfo
      have hE := (hq k hky).mono HBX.out
      have hG := (hq2 k hkx).mono hbr
      have HFE := Lib.hid ((setE_ok HG2.out).files.each _ (List.getElem_mem hky)).2
      have HFG := Lib.hid (HR1.out.files.each _ (List.getElem_mem hkx)).2
      generalize y.files[k] = E at *
      generalize x5.files[k] = G at *
      obtain ⟨gnm, groot, gsize⟩ := G
      obtain ⟨v1, v2, v3⟩ := HQ4
      simp only at v1 v2 v3 HFG hG
      subst v1
      subst v2
      have HV3 := Lib.hid v3
      have e0 := hE.nm
      have e1 := hE.root
      have e2 := hE.size
      have lb := hE.lt
      have f0 := hG.nm
      have f1 := hG.root
      have f2 := hG.size
      have lg := hG.lt
      try simp only at f0 f1 f2
      have r4 := (hbr.block _ (lt_heap q4)).trans q4
      have r7 := (hbr.block _ (lt_heap q7)).trans q7
      have tS := (hbr.block _ (lt_heap rS)).trans rS
      have tX := (hbr.block _ (lt_heap rX)).trans rX
      clear hq hq2 hE hG v3
      have sX := cell_of_block tX 1
      simp only [List.getElem?_toArray, List.getElem?_cons_succ, List.getElem?_cons_zero] at sX
      have lX := lt_heap tX
      have hm6 : m5 ≤ 6 := by have h1 := HR1.out.files.len; have h2 := HFN.out.1; omega
      have hb8 : Below wr.heap.size wr ((wr.alloc (.cells #[.string E.nm, .int .i64 E.root, .int .i64 E.size] 37)).alloc (.cells #[.string E.nm, .int .i64 groot, .int .i64 E.size] 37)) := ((Below.refl _ _).alloc (Nat.le_refl _) _).alloc (by simp) _
      have rE := heap_alloc2_old wr (.cells #[.string E.nm, .int .i64 E.root, .int .i64 E.size] 37) (.cells #[.string E.nm, .int .i64 groot, .int .i64 E.size] 37)
      have rG := heap_alloc2_new wr (.cells #[.string E.nm, .int .i64 E.root, .int .i64 E.size] 37) (.cells #[.string E.nm, .int .i64 groot, .int .i64 E.size] 37)
      have r4 := (hb8.block _ (lt_heap r4)).trans r4
      have tS := (hb8.block _ (lt_heap tS)).trans tS
      have HBR8 := Lib.hid (below_step hbr hb8)
      have HBX8 := Lib.hid (below_step HBX.out hb8)
      clear hbr hb8 r7 tX HBR HBX
      go_upto_region 18 with fail
      generalize (wr.alloc (Obj.cells #[.string E.nm, .int .i64 E.root, .int .i64 E.size] 37)).alloc (Obj.cells #[.string E.nm, .int .i64 groot, .int .i64 E.size] 37) = W8 at *
      clear e0 e1 e2 f0 f1 f2 lb lg sX lX
      have c4 := cell_of_one r4
      have l4 := lt_heap r4
      have cS := cell_of_one tS
      have lS := lt_heap tS
      have e0 := cell_of_block rE 0
      have e1 := cell_of_block rE 1
      have e2 := cell_of_block rE 2
      have g0 := cell_of_block rG 0
      have g1 := cell_of_block rG 1
      have g2 := cell_of_block rG 2
      simp only [List.getElem?_toArray, List.getElem?_cons_succ, List.getElem?_cons_zero] at e0 e1 e2 g0 g1 g2
      have lE := lt_heap rE
      have lG := lt_heap rG
      have hn4 : n5 ≤ 400 := by have h1 := (checkE_zero t HR1.out.chk).1; have h2 := HLQ.out; omega
      have HRD := Lib.hid (read_any W8 ao n cap s key E.root E.size 0 256 HN.out (by omega) (HS.out.mono HBX8.out) HW.out (by have h := fileE_ok HFE.out; exact ⟨by omega, by omega⟩) HC.out)
      rw [read_all HFE.out] at HRD
      have HFB := Lib.hid (fileB_byt s key E.root E.size)
      clear r4 tS rE rG
      go_wp2_with fail
      refine HRD.out.mono ?_
      rintro e w9 ⟨ba, bn, bc, rfl, hbl, hbr, hbc, hb9⟩
      have HRG := Lib.hid (read_any w9 a5 n5 c5 t key groot E.size 0 256 HLQ.out (by omega) (HSQ7.out.mono (below_step HBR8.out hb9)) HR2.out (by have h := fileE_ok HFG.out; exact ⟨by omega, by omega⟩) HCQ.out)
      rw [read_all HFG.out, HV3.out] at HRG
      have HEB := Lib.hid hbr
      have cS := ((bcell hb9).1 _ _ lS).trans cS
      have e0 := ((bcell hb9).1 _ _ lE).trans e0
      have e2 := ((bcell hb9).1 _ _ lE).trans e2
      have g0 := ((bcell hb9).1 _ _ lG).trans g0
      have g1 := ((bcell hb9).1 _ _ lG).trans g1
      have g2 := ((bcell hb9).1 _ _ lG).trans g2
      have lS := Nat.lt_of_lt_of_le lS hb9.size
      have lE := Nat.lt_of_lt_of_le lE hb9.size
      have lG := Nat.lt_of_lt_of_le lG hb9.size
      have HBR9 := Lib.hid (below_step HBR8.out hb9)
      have HBX9 := Lib.hid (below_step HBX8.out hb9)
      clear HRD HBR8 HBX8 hb9 hbr e1
      go_wp2_with fail
      refine HRG.out.mono ?_
      rintro e w10 ⟨da, dn, dc, rfl, hdl, hdr, hdc, hb10⟩
      have e0 := ((bcell hb10).1 _ _ lE).trans e0
      have e2 := ((bcell hb10).1 _ _ lE).trans e2
      have g0 := ((bcell hb10).1 _ _ lG).trans g0
      have g2 := ((bcell hb10).1 _ _ lG).trans g2
      have lE := Nat.lt_of_lt_of_le lE hb10.size
      have lG := Nat.lt_of_lt_of_le lG hb10.size
      have HBR10 := Lib.hid (below_step HBR9.out hb10)
      have HEQ := Lib.hid (bytes_equal_n ba da bn dn bc dc _ _ w10 hbl hdl (HEB.out.mono hb10) hdr HFB.out HFB.out)
      rw [beq_self_eq_true] at HEQ
      clear HRG HBR9 HBX9 HEB hb10 hdr cS lS g1
      obtain ⟨hnc, hnb⟩ := str_eq (rfl : E.nm = E.nm)
      have hnn : (E.nm != E.nm) = false := by unfold bne; rw [hnb]; rfl
      have hss : (E.size != E.size) = false := bne_self_eq_false _
      go_wp2_with fail
      refine HEQ.out.mono ?_
      rintro e w11 ⟨rfl, rfl⟩
      go_wp2_with fail
      go_roundw
      case rel => exact ⟨k + 1, by omega, by go_num, HBR10⟩
      case measure => simp [intOf]; omega
    · have hlt' : ¬ (k : Int) < m5 := by omega
      go_wp2_with fail
      go_ret
      exact ⟨rfl, HBX.out⟩
end Go.Proofs.Ytfmgdjgedhnmeaa
