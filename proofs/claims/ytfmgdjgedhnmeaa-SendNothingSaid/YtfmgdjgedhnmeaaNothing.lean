/- The law SendNothing. -/
import Derived.Deep.RegionWith
import Derived.Deep.DeepCutAuto
import Derived.Deep.RegionHeld3
import Derived.Test.YtfmgdjgedhnmeaaSent
namespace Go.Proofs.Ytfmgdjgedhnmeaa
open Go.RowKit
set_option linter.unusedVariables false
set_option linter.unusedSimpArgs false

def AlikeTo (s : List Blk) (key : Int) (l m : List Ent) (k : Nat) : Prop := l.length = m.length ∧ ∀ j (h : j < l.length) (h' : j < m.length), j < k → l[j].nm = m[j].nm ∧ (readR s key l[j].root l[j].size 0 256).1 = (readR s key m[j].root m[j].size 0 256).1
theorem alike_all {s : List Blk} {key : Int} {l m : List Ent} : AlikeTo s key l m l.length ↔ AlikeF s key l m := ⟨fun h => ⟨h.1, fun k a b => h.2 k a b a⟩, fun h => ⟨h.1, fun k a b _ => h.2 k a b⟩⟩
theorem alike_zero {s : List Blk} {key : Int} {l m : List Ent} : AlikeTo s key l m 0 ↔ l.length = m.length := ⟨fun h => h.1, fun h => ⟨h, fun j _ _ h => absurd h (Nat.not_lt_zero _)⟩⟩
theorem alike_succ {s : List Blk} {key : Int} {l m : List Ent} {k : Nat} (h : k < l.length) (h' : k < m.length) (ha : AlikeTo s key l m k) :
    AlikeTo s key l m (k + 1) ↔ (l[k].nm = m[k].nm ∧ (readR s key l[k].root l[k].size 0 256).1 = (readR s key m[k].root m[k].size 0 256).1) := by
  constructor
  · intro g
    exact g.2 k h h' (Nat.lt_succ_self k)
  · intro g
    refine ⟨ha.1, fun j a b hj => ?_⟩
    by_cases e : j = k
    · subst e
      exact g
    · exact ha.2 j a b (by omega)
/-- what lies ahead stays -/
def Nib (W u : World) : Prop := Below W.heap.size W u
theorem Nib.refl (W : World) : Nib W W := Below.refl _ _
theorem Nib.dr {W u : World} (h : Nib W u) : Nib W u.drew := Below.drew h
theorem Nib.alloc {W u : World} (h : Nib W u) (o : Obj) : Nib W (u.alloc o) := Below.alloc h h.size o
theorem Nib.set {W u : World} {q j : Nat} (h : Nib W u) (hq : W.heap.size ≤ q) (v : Value) : Nib W (u.setCell ⟨q, j, none⟩ v) := Below.setCell h (p := ⟨q, j, none⟩) hq v
theorem alike_less {s : List Blk} {key : Int} {l m : List Ent} {k : Nat} (h : AlikeF s key l m) : AlikeTo s key l m k := ⟨h.1, fun j a b _ => h.2 j a b⟩

set_option maxRecDepth 100000 in
set_option maxHeartbeats 8000000 in
theorem law_nothing (w : World) (ao fo so go uo : Option Addr) (n cap fn fc sn sc gn gc un uc : Nat) (s : List Blk) (key : Int) (x y : SetV) (hn : s.length = n) (hn63 : n ≤ 1152921504606846976) (hs : StoRow w ao s) (hwf : WfS s) (hc : Capd ao n cap)
    (hx : SetIn w fo fn fc so sn sc x) (hwx : WfX x) (hy : SetIn w go gn gc uo un uc y) (hwy : WfX y) :
    Calls Try.prog 3 #[.agg #[.slice ao n cap], .int .i64 key, .agg #[.string x.nm, .slice fo fn fc, .slice so sn sc], .agg #[.string y.nm, .slice go gn gc, .slice uo un uc]] w fun e w' => e = .returned (.bool true) ∧ Below w.heap.size w w' := by
  have hb0 : Below w.heap.size w (((w.alloc (.cells #[.slice ao n cap] 24)).alloc (.cells #[.string x.nm, .slice fo fn fc, .slice so sn sc] 28)).alloc (.cells #[.string y.nm, .slice go gn gc, .slice uo un uc] 28)) := (((Below.refl _ _).alloc (Nat.le_refl _) _).alloc (by simp) _).alloc (by simp; omega) _
  have p4 : (((w.alloc (.cells #[.slice ao n cap] 24)).alloc (.cells #[.string x.nm, .slice fo fn fc, .slice so sn sc] 28)).alloc (.cells #[.string y.nm, .slice go gn gc, .slice uo un uc] 28)).heap[w.heap.size]? = some (.cells #[.slice ao n cap] 24 (0, 0)) := (heap_alloc_old _ _ (by simp; omega)).trans (heap_alloc2_old _ _ _)
  have p6 : (((w.alloc (.cells #[.slice ao n cap] 24)).alloc (.cells #[.string x.nm, .slice fo fn fc, .slice so sn sc] 28)).alloc (.cells #[.string y.nm, .slice go gn gc, .slice uo un uc] 28)).heap[w.heap.size + 1]? = some (.cells #[.string x.nm, .slice fo fn fc, .slice so sn sc] 28 (0, 0)) := (heap_alloc_old _ _ (by simp)).trans (heap_alloc2_new _ _ _)
  have p7 : (((w.alloc (.cells #[.slice ao n cap] 24)).alloc (.cells #[.string x.nm, .slice fo fn fc, .slice so sn sc] 28)).alloc (.cells #[.string y.nm, .slice go gn gc, .slice uo un uc] 28)).heap[w.heap.size + 1 + 1]? = some (.cells #[.string y.nm, .slice go gn gc, .slice uo un uc] 28 (0, 0)) := by
    have := heap_alloc_new ((w.alloc (.cells #[.slice ao n cap] 24)).alloc (.cells #[.string x.nm, .slice fo fn fc, .slice so sn sc] 28)) (.cells #[.string y.nm, .slice go gn gc, .slice uo un uc] 28)
    simpa using this
  have HDF := Lib.hid (diff_any (((w.alloc (.cells #[.slice ao n cap] 24)).alloc (.cells #[.string x.nm, .slice fo fn fc, .slice so sn sc] 28)).alloc (.cells #[.string y.nm, .slice go gn gc, .slice uo un uc] 28)) ao fo so go uo n cap fn fc sn sc gn gc un uc s key x y hn hn63 (hs.mono hb0) hwf hc (hx.mono hb0) hwx (hy.mono hb0) hwy)
  have HSIL := Lib.hid (diff_silent (s := s) (key := key) (a := x) (b := y))
  obtain ⟨RD, hRD⟩ : ∃ RD, diffR s key x y = RD := ⟨_, rfl⟩
  rw [hRD] at HDF HSIL
  have HN := Lib.hid hn
  have HC := Lib.hid hc
  have HS := Lib.hid hs
  have HW := Lib.hid hwf
  have HX := Lib.hid hx
  have HY := Lib.hid hy
  have HWX := Lib.hid hwx
  have HWY := Lib.hid hwy
  have HB0 := Lib.hid hb0
  clear hn hc hs hwf hx hy hwx hwy hRD hb0
  have k60 := cell_of_block p6 0
  have k61 := cell_of_block p6 1
  have k62 := cell_of_block p6 2
  have k70 := cell_of_block p7 0
  have k71 := cell_of_block p7 1
  have k72 := cell_of_block p7 2
  simp only [List.getElem?_toArray, List.getElem?_cons_succ, List.getElem?_cons_zero] at k60 k61 k62 k70 k71 k72
  go_enter Try.func3, Try.ntmps3
  go_wp2_with fail
  clear k60 k61 k62 k70 k71 k72
  generalize ((w.alloc (.cells #[.slice ao n cap] 24)).alloc (.cells #[.string x.nm, .slice fo fn fc, .slice so sn sc] 28)).alloc (.cells #[.string y.nm, .slice go gn gc, .slice uo un uc] 28) = W0 at *
  refine HDF.out.mono ?_
  rintro e w1 ⟨v1, rfl, hch1, hb1⟩
  have HCH := Lib.hid hch1
  have q4 := (hb1.block _ (lt_heap p4)).trans p4
  have q6 := (hb1.block _ (lt_heap p6)).trans p6
  have q7 := (hb1.block _ (lt_heap p7)).trans p7
  have HB1 := Lib.hid (below_step HB0.out hb1)
  clear hch1 hb1 HDF p4 p6 p7 HB0
  go_wp2_with fail
  refine (sent_any _).mono ?_
  rintro e w2 ⟨rfl, hb2⟩
  have p4 := (hb2.block _ (lt_heap q4)).trans q4
  have p6 := (hb2.block _ (lt_heap q6)).trans q6
  have p7 := (hb2.block _ (lt_heap q7)).trans q7
  have HCH2 := Lib.hid (HCH.out.mono hb2)
  have HB2 := Lib.hid (below_step HB1.out hb2)
  clear hb2 HCH HB1 q4 q6 q7
  by_cases he : RD.2 = 0
  rotate_left
  · have he1 : (RD.2 != 0) = true := by rw [bne_iff_ne]; exact he
    generalize RD.2 = de at *
    clear p4 p6 p7 HCH2 HSIL he
    go_wp2_with fail
    refine (sent_any _).mono ?_
    rintro e w4 ⟨rfl, hb4⟩
    go_wp2_with fail
    go_ret
    exact ⟨rfl, below_step HB2.out hb4⟩
  obtain ⟨g1, g2, g3⟩ := HSIL.out he
  have HRX := Lib.hid (setE_ok g1)
  have HRY := Lib.hid (setE_ok g2)
  have HAL : Hid (RD.1 = [] ↔ AlikeF s key x.files y.files) := Lib.hid (g3.trans (silent_iff HW.out (setE_ok g1) (setE_ok g2)))
  rw [he]
  obtain ⟨L, de⟩ := RD
  simp only at HCH2 HAL he
  obtain ⟨la, lc, rfl, -, -⟩ := HCH2.out.shape
  have HLL : Hid (L.length = 0 ↔ AlikeF s key x.files y.files) := Lib.hid (by rw [List.length_eq_zero_iff]; exact HAL.out)
  generalize L.length = ll at *
  have k61 := cell_of_block p6 1
  have k71 := cell_of_block p7 1
  simp only [List.getElem?_toArray, List.getElem?_cons_succ, List.getElem?_cons_zero] at k61 k71
  have l6 := lt_heap p6
  have l7 := lt_heap p7
  clear g1 g2 g3 HSIL HAL he HCH2
  have HFX : Hid (fn = x.files.length ∧ fn ≤ 6) := Lib.hid (by have h1 := HRX.out.files.len; have h2 := HX.out.flen; omega)
  have HFY : Hid (gn = y.files.length ∧ gn ≤ 6) := Lib.hid (by have h1 := HRY.out.files.len; have h2 := HY.out.flen; omega)
  go_wp2_with fail
  go_loopw [11, 12] (fun u v wr => ∃ (k : Nat) (sm : Bool), u = .bool sm ∧ v = .int .i64 k ∧ k ≤ fn ∧ Hid (sm = true ↔ AlikeTo s key x.files y.files k) ∧ Hid (Below w2.heap.size w2 wr)) (fun _ v _ => fn - (intOf v).toNat)
  case atStart =>
    refine ⟨0, _, rfl, rfl, Nat.zero_le _, Lib.hid ?_, Lib.hid (Below.refl _ _)⟩
    rw [alike_zero]
    have h1 := HFX.out.1
    have h2 := HFY.out.1
    simp
    omega
  case round =>
    obtain ⟨k, sm, rfl, rfl, hkn, HSM, HBR⟩ := hrel
    clear k61 k71 l6 l7
    have q4 := (HBR.out.block _ (lt_heap p4)).trans p4
    have q6 := (HBR.out.block _ (lt_heap p6)).trans p6
    have q7 := (HBR.out.block _ (lt_heap p7)).trans p7
    have k61 := cell_of_block q6 1
    have k71 := cell_of_block q7 1
    simp only [List.getElem?_toArray, List.getElem?_cons_succ, List.getElem?_cons_zero] at k61 k71
    have l6 := lt_heap q6
    have l7 := lt_heap q7
    have hfn6 := HFX.out.2
    have HBW := Lib.hid (below_step HB2.out HBR.out)
    cases sm with
    | false =>
      have HNA : Hid (¬ ll = 0) := Lib.hid fun h => by
        have := HSM.out.2 (alike_less (HLL.out.1 h))
        cases this
      have hl0 : ((ll : Int) == 0) = false := by have := HNA.out; rw [beq_eq_false_iff_ne]; omega
      clear HSM HLL
      go_wp2_with fail
      go_ret
      exact ⟨rfl, HBW.out⟩
    | true =>
      by_cases hlt : k < fn
      · have hlt' : (k : Int) < fn := by omega
        have hgf : fn = gn := by have h1 := (HSM.out.1 (by trivial)).1; have h2 := HFX.out.1; have h3 := HFY.out.1; omega
        have hltg : (k : Int) < gn := by omega
        have hkx : k < x.files.length := by have := HFX.out.1; omega
        have hky : k < y.files.length := by have := HFY.out.1; omega
        have HAS := Lib.hid (alike_succ hkx hky (HSM.out.1 (by trivial)))
        obtain ⟨b, o, hfo, hq⟩ := HX.out.frow.at k hkx
        obtain ⟨b2, o2, hgo, hq2⟩ := HY.out.frow.at k hky
        subst hfo
        subst hgo
        have hE := (hq k hkx).mono HBW.out
        have hG := (hq2 k hky).mono HBW.out
        have HFE := Lib.hid (HRX.out.files.each _ (List.getElem_mem hkx)).2
        have HFG := Lib.hid (HRY.out.files.each _ (List.getElem_mem hky)).2
        generalize x.files[k] = E at *
        generalize y.files[k] = G at *
        have e0 := hE.nm
        have e1 := hE.root
        have e2 := hE.size
        have lb := hE.lt
        have f0 := hG.nm
        have f1 := hG.root
        have f2 := hG.size
        have lg := hG.lt
        clear hq hq2 hE hG hgf HSM
        go_upto_region 8 with fail
        have HSK : Hid (∀ u, Nib wr u → u.cell? ⟨w.heap.size + 1, 1, none⟩ = some (.slice (some ⟨b, o, none⟩) fn fc) ∧ u.cell? ⟨w.heap.size + 1 + 1, 1, none⟩ = some (.slice (some ⟨b2, o2, none⟩) gn gc) ∧ u.cell? ⟨b, o + k * 3, none⟩ = some (.string E.nm) ∧ u.cell? ⟨b, o + k * 3 + 1, none⟩ = some (.int .i64 E.root) ∧ u.cell? ⟨b, o + k * 3 + 2, none⟩ = some (.int .i64 E.size) ∧
            u.cell? ⟨b2, o2 + k * 3, none⟩ = some (.string G.nm) ∧ u.cell? ⟨b2, o2 + k * 3 + 1, none⟩ = some (.int .i64 G.root) ∧ u.cell? ⟨b2, o2 + k * 3 + 2, none⟩ = some (.int .i64 G.size)) :=
          Lib.hid fun u h => ⟨((bcell h).1 _ _ l6).trans k61, ((bcell h).1 _ _ l7).trans k71, ((bcell h).1 _ _ lb).trans e0, ((bcell h).1 _ _ lb).trans e1, ((bcell h).1 _ _ lb).trans e2, ((bcell h).1 _ _ lg).trans f0, ((bcell h).1 _ _ lg).trans f1, ((bcell h).1 _ _ lg).trans f2⟩
        clear e0 e1 e2 f0 f1 f2 k61 k71
        go_cut [13, 14] (fun u1 u2 wx => ∃ p q : Nat, u1 = .pointer (some ⟨p, 0, none⟩) ∧ u2 = .pointer (some ⟨q, 0, none⟩) ∧ wx.cell? ⟨p, 0, none⟩ = some (.string E.nm) ∧ wx.cell? ⟨p, 1, none⟩ = some (.int .i64 E.root) ∧ wx.cell? ⟨p, 2, none⟩ = some (.int .i64 E.size) ∧ wx.cell? ⟨q, 0, none⟩ = some (.string G.nm) ∧ wx.cell? ⟨q, 1, none⟩ = some (.int .i64 G.root) ∧ wx.cell? ⟨q, 2, none⟩ = some (.int .i64 G.size) ∧ Below wr.heap.size wr wx)
        case first =>
          go_region_held3 (fun u => u.cell? ⟨w.heap.size + 1, 1, none⟩ = some (.slice (some ⟨b, o, none⟩) fn fc) ∧ u.cell? ⟨w.heap.size + 1 + 1, 1, none⟩ = some (.slice (some ⟨b2, o2, none⟩) gn gc) ∧ u.cell? ⟨b, o + k * 3, none⟩ = some (.string E.nm) ∧ u.cell? ⟨b, o + k * 3 + 1, none⟩ = some (.int .i64 E.root) ∧ u.cell? ⟨b, o + k * 3 + 2, none⟩ = some (.int .i64 E.size) ∧
            u.cell? ⟨b2, o2 + k * 3, none⟩ = some (.string G.nm) ∧ u.cell? ⟨b2, o2 + k * 3 + 1, none⟩ = some (.int .i64 G.root) ∧ u.cell? ⟨b2, o2 + k * 3 + 2, none⟩ = some (.int .i64 G.size))
            ((refine HSK.out _ ?_; repeat (first | assumption | exact Nib.refl _ | refine Nib.dr ?_ | refine Nib.alloc ?_ _ | refine Nib.set ?_ (by first | exact Nat.le_refl _ | (simp; done) | (simp; omega)) _)))
            (fail)
          all_goals
            go_wp2_with fail
            go_meet
            refine ⟨_, _, rfl, rfl, ?_, ?_, ?_, ?_, ?_, ?_, ?_⟩
            all_goals first
              | (simp; done)
              | (go_simp; done)
              | (show Nib wr _; repeat (first | exact Nib.refl _ | refine Nib.dr ?_ | refine Nib.alloc ?_ _ | refine Nib.set ?_ (by first | exact Nat.le_refl _ | (simp; done) | (simp; omega)) _))
              | trace_state
        case rest =>
          obtain ⟨p, q, rfl, rfl, r0, r1, r2, s0, s1, s2, hb3⟩ := hcut
          have q4 := (hb3.block _ (lt_heap q4)).trans q4
          have q6 := (hb3.block _ (lt_heap q6)).trans q6
          have q7 := (hb3.block _ (lt_heap q7)).trans q7
          have HBR3 := Lib.hid (below_step HBR.out hb3)
          have HBW3 := Lib.hid (below_step HBW.out hb3)
          have lp := World.block_lt_of_cell? _ _ r0
          have lq := World.block_lt_of_cell? _ _ s0
          clear hb3 HBR HBW
          have c4 := cell_of_one q4
          have l4 := lt_heap q4
          have HRD := Lib.hid (read_any wc ao n cap s key E.root E.size 0 256 HN.out hn63 (HS.out.mono HBW3.out) HW.out (by have h := fileE_ok HFE.out; exact ⟨by omega, by omega⟩) HC.out)
          rw [read_all HFE.out] at HRD
          have HFB := Lib.hid (fileB_byt s key E.root E.size)
          have HGB := Lib.hid (fileB_byt s key G.root G.size)
          rw [read_all HFE.out, read_all HFG.out] at HAS
          go_wp2_with fail
          refine HRD.out.mono ?_
          rintro e w5 ⟨ba, bn, bc, rfl, hbl, hbr, hbc, hb5⟩
          have HRG := Lib.hid (read_any w5 ao n cap s key G.root G.size 0 256 HN.out hn63 (HS.out.mono (below_step HBW3.out hb5)) HW.out (by have h := fileE_ok HFG.out; exact ⟨by omega, by omega⟩) HC.out)
          rw [read_all HFG.out] at HRG
          have HEB := Lib.hid hbr
          have c4 := ((bcell hb5).1 _ _ l4).trans c4
          have r0 := ((bcell hb5).1 _ _ lp).trans r0
          have s0 := ((bcell hb5).1 _ _ lq).trans s0
          have s1 := ((bcell hb5).1 _ _ lq).trans s1
          have s2 := ((bcell hb5).1 _ _ lq).trans s2
          have l4 := Nat.lt_of_lt_of_le l4 hb5.size
          have lp := Nat.lt_of_lt_of_le lp hb5.size
          have lq := Nat.lt_of_lt_of_le lq hb5.size
          have HBR5 := Lib.hid (below_step HBR3.out hb5)
          have HBW5 := Lib.hid (below_step HBW3.out hb5)
          clear HRD HBR3 HBW3 hb5 r1 r2 hbr
          go_wp2_with fail
          refine HRG.out.mono ?_
          rintro e w6 ⟨da, dn, dc, rfl, hdl, hdr, hdc, hb6⟩
          have r0 := ((bcell hb6).1 _ _ lp).trans r0
          have s0 := ((bcell hb6).1 _ _ lq).trans s0
          have lp := Nat.lt_of_lt_of_le lp hb6.size
          have lq := Nat.lt_of_lt_of_le lq hb6.size
          have HBR6 := Lib.hid (below_step HBR5.out hb6)
          have HBW6 := Lib.hid (below_step HBW5.out hb6)
          have HEQ := Lib.hid (bytes_equal_n ba da bn dn bc dc _ _ w6 hbl hdl (HEB.out.mono hb6) hdr HFB.out HGB.out)
          clear HRG HBR5 HBW5 HEB hb6 hdr s1 s2 c4
          simp only at hbl hdl HEQ HAS
          generalize fileB s key E.root E.size = EB at *
          generalize fileB s key G.root G.size = GB at *
          by_cases hnm : E.nm = G.nm
          · obtain ⟨hnc, hnb⟩ := str_eq hnm
            go_wp2_with fail
            refine HEQ.out.mono ?_
            rintro e w7 ⟨rfl, rfl⟩
            go_wp2_with fail
            go_roundw
            case rel => exact ⟨k + 1, EB == GB, rfl, by go_num, by omega, Lib.hid (by rw [HAS.out, beq_iff_eq]; exact ⟨fun h => ⟨hnm, h⟩, fun h => h.2⟩), HBR6⟩
            case measure => simp [intOf]; omega
          · obtain ⟨hnc, hnb⟩ := str_ne hnm
            go_wp2_with fail
            go_roundw
            case rel => exact ⟨k + 1, false, rfl, by go_num, by omega, Lib.hid ⟨fun h => (by cases h), fun h => absurd (HAS.out.1 h).1 hnm⟩, HBR6⟩
            case measure => simp [intOf]; omega
      · have hlt' : ¬ (k : Int) < fn := by omega
        have hl0 : ((ll : Int) == 0) = true := by
          have h1 := HSM.out.1 (by trivial)
          rw [show k = x.files.length from by have := HFX.out.1; omega, alike_all] at h1
          have := HLL.out.2 h1
          subst this
          rfl
        clear HSM HLL
        go_wp2_with fail
        go_ret
        exact ⟨rfl, HBW.out⟩
end Go.Proofs.Ytfmgdjgedhnmeaa
