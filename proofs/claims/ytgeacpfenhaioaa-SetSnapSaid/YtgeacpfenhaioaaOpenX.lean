/- rookeryref.SameSet: are two sets the same? · A set that came in, opened. -/
import Derived.Test.YtgeacpfenhaioaaSetCheck
import Derived.Test.YtgeacpfenhaioaaOrd
import Derived.StillTactics
import Derived.Laws.StructEq
import Derived.Test.YtgeacpfenhaioaaOpen
import Derived.Deep.Strs
namespace Go.Proofs.Ytgeacpfenhaioaa
open Go.RowKit
set_option linter.unusedVariables false

/-- are they the same? -/
noncomputable def isB {α : Type} (a b : α) : Bool := @decide (a = b) (Classical.propDecidable _)
theorem isB_iff {α : Type} (a b : α) : isB a b = true ↔ a = b := by unfold isB; exact @decide_eq_true_iff _ (Classical.propDecidable _)
theorem isB_self {α : Type} (a : α) : isB a a = true := (isB_iff a a).2 rfl
theorem isB_not {α : Type} {a b : α} (h : a ≠ b) : isB a b = false := by
  cases e : isB a b with
  | false => rfl
  | true => exact absurd ((isB_iff a b).1 e) h

theorem take_ne {α : Type} {l m : List α} (k : Nat) (h1 : k < l.length) (h2 : k < m.length) (h : l[k] ≠ m[k]) : l ≠ m := by
  rintro rfl
  exact h rfl
theorem take_snoc {α : Type} {l m : List α} (k : Nat) (h1 : k < l.length) (h2 : k < m.length) (h : l[k] = m[k]) (ht : l.take k = m.take k) : l.take (k + 1) = m.take (k + 1) := by
  rw [List.take_succ_eq_append_getElem h1, List.take_succ_eq_append_getElem h2, ht, h]

theorem ent_guard : Try.prog.eqGuardType Try.prog.depth 47 = false := by kernel_rfl
theorem ent_under : Try.prog.underlying 47 = some (.struct (Try.prog.fieldsOf 47)) := by kernel_rfl
theorem ent_stood : Try.prog.stoodInHeld 47 = false := by kernel_rfl
theorem file_under : Try.prog.underlying 45 = some (.struct (Try.prog.fieldsOf 45)) := by kernel_rfl
theorem file_stood : Try.prog.stoodInHeld 45 = false := by kernel_rfl
theorem neq_ent (x y : Ent) (u : World) : (binOp .neq 47 (.agg #[.string x.nm, .int .i64 x.root, .int .i64 x.size]) (.agg #[.string y.nm, .int .i64 y.root, .int .i64 y.size])).run Try.prog u = .ok (.bool (!(isB x y))) u := by
  rw [run_neq_struct, run_equalIn_agg _ _ _ _ _ ent_under ent_stood]
  simp [go_sem, Program.fieldsOf, Op.eqFields, run_equalIn_agg _ _ _ _ _ file_under file_stood, Try.underlying47, Try.underlying45, Try.underlying9, Try.underlying3]
  obtain ⟨xn, xr, xz⟩ := x
  obtain ⟨yn, yr, yz⟩ := y
  simp only
  by_cases h : (⟨xn, xr, xz⟩ : Ent) = ⟨yn, yr, yz⟩
  · rw [(isB_iff _ _).2 h]
    simp only [Ent.mk.injEq] at h
    obtain ⟨rfl, rfl, rfl⟩ := h
    simp
  · rw [isB_not h]
    by_cases h1 : xn.toList = yn.toList
    · by_cases h2 : xr = yr
      · by_cases h3 : xz = yz
        · exact absurd (by rw [toList_inj h1, h2, h3]) h
        · simp [h3]
      · simp [h2]
    · simp [h1]

set_option maxRecDepth 100000 in
set_option maxHeartbeats 4000000 in
theorem equal_ents (w : World) (ao bo : Option Addr) (m c m' c' : Nat) (l l' : List Ent) (hm : l.length = m) (hm' : l'.length = m') (h63 : m ≤ 1152921504606846976) (h63' : m' ≤ 1152921504606846976) (hr : EntRow w ao l) (hr' : EntRow w bo l') :
    Calls Try.prog 17 #[.slice ao m c, .slice bo m' c'] w fun e w' => e = .returned (.bool (isB l l')) ∧ Below w.heap.size w w' := by
  have HM := Lib.hid hm
  have HM' := Lib.hid hm'
  clear hm hm'
  by_cases hmm : m = m'
  · subst hmm
    have h1 : ((m : Int) != m) = false := by simp
    go_enter Try.func17, Try.ntmps17
    go_wp2_with fail
    clear h1
    go_loopw [13] (fun i wr => ∃ k : Nat, k ≤ m ∧ i = .int .i64 k ∧ l.take k = l'.take k ∧ Below w.heap.size w wr) (fun i _ => m - (intOf i).toNat)
    case atStart => exact ⟨0, Nat.zero_le _, rfl, by simp, Below.refl _ _⟩
    case round =>
      obtain ⟨k, hkm, rfl, htk, hbel⟩ := hrel
      have HTK := Lib.hid htk
      clear htk
      by_cases hlt : k < m
      · have hk1 : k < l.length := by have := HM.out; omega
        have hk2 : k < l'.length := by have := HM'.out; omega
        have hlt' : (k : Int) < m := by omega
        obtain ⟨b1, o1, rfl, hq1⟩ := (hr.mono hbel).at k hk1
        obtain ⟨b2, o2, rfl, hq2⟩ := (hr'.mono hbel).at k hk2
        have hE1 := hq1 k hk1
        have hE2 := hq2 k hk2
        have c0 := hE1.nm
        have c1 := hE1.root
        have c2 := hE1.size
        have d0 := hE2.nm
        have d1 := hE2.root
        have d2 := hE2.size
        have l1 := hE1.lt
        have l2 := hE2.lt
        have HNE := Lib.hid (take_ne k hk1 hk2)
        have HSN := Lib.hid (fun h => take_snoc k hk1 hk2 h HTK.out)
        clear hq1 hq2 hE1 hE2
        generalize l[k] = x at *
        generalize l'[k] = y at *
        obtain ⟨xn, xr, xz⟩ := x
        obtain ⟨yn, yr, yz⟩ := y
        simp only at c0 c1 c2 d0 d1 d2
        have hnq := fun u => neq_ent ⟨xn, xr, xz⟩ ⟨yn, yr, yz⟩ u
        simp only at hnq
        have hgd := ent_guard
        by_cases hxy : (⟨xn, xr, xz⟩ : Ent) = ⟨yn, yr, yz⟩
        · have hib : isB (⟨xn, xr, xz⟩ : Ent) ⟨yn, yr, yz⟩ = true := (isB_iff _ _).2 hxy
          have HST := Lib.hid (HSN.out hxy)
          rw [hib] at hnq
          simp only [Bool.not_true] at hnq
          clear hxy hib HNE HSN
          go_upto_region 6 with fail
          go_still (by kernel_rfl)
          go_wp2_with fail
          go_roundw
          case rel => exact ⟨k + 1, by omega, by go_num, HST.out, hbel.drew⟩
          case measure => simp [intOf]; omega
        · have hib : isB (⟨xn, xr, xz⟩ : Ent) ⟨yn, yr, yz⟩ = false := isB_not hxy
          have HR : Hid (isB l l' = false) := Lib.hid (isB_not (HNE.out hxy))
          rw [hib] at hnq
          simp only [Bool.not_false] at hnq
          clear hxy hib HNE HSN
          go_upto_region 6 with fail
          go_still (by kernel_rfl)
          go_wp2_with fail
          go_ret
          exact ⟨ret_bool HR.out.symm, hbel.drew⟩
      · obtain rfl : k = m := by omega
        have HR : Hid (isB l l' = true) := Lib.hid ((isB_iff _ _).2 (by
          have h1 : l.take k = l := List.take_of_length_le (by have := HM.out; omega)
          have h2 : l'.take k = l' := List.take_of_length_le (by have := HM'.out; omega)
          rw [← h1, ← h2]; exact HTK.out))
        have hlt' : ¬ (k : Int) < k := by omega
        go_wp2_with fail
        go_ret
        exact ⟨ret_bool HR.out.symm, hbel⟩
  · have HR : Hid (isB l l' = false) := Lib.hid (isB_not (by rintro rfl; exact hmm (HM.out.symm.trans HM'.out)))
    have h1 : ((m : Int) != m') = true := by rw [bne_iff_ne]; omega
    go_enter Try.func17, Try.ntmps17
    go_wp2_with fail
    go_ret
    exact ⟨ret_bool HR.out.symm, Below.refl _ _⟩

theorem str_eq {a b : ByteArray} (h : a = b) : (a.toList == b.toList) = true ∧ (a == b) = true := by subst h; exact ⟨by simp, by rw [beq_toListBytes]; simp⟩
theorem str_ne {a b : ByteArray} (h : a ≠ b) : (a.toList == b.toList) = false ∧ (a == b) = false := by
  have h1 : (a.toList == b.toList) = false := by rw [beq_eq_false_iff_ne]; exact fun e => h (toList_inj e)
  exact ⟨h1, by rw [beq_toListBytes]; exact h1⟩

set_option maxRecDepth 100000 in
set_option maxHeartbeats 4000000 in
theorem sameSnp_any (w : World) (ao bo : Option Addr) (n c n' c' : Nat) (na nb : ByteArray) (l l' : List Ent) (hn : l.length = n) (hn' : l'.length = n') (h63 : n ≤ 1152921504606846976) (h63' : n' ≤ 1152921504606846976) (hr : EntRow w ao l) (hr' : EntRow w bo l') :
    Calls Try.prog 42 #[.agg #[.string na, .slice ao n c], .agg #[.string nb, .slice bo n' c']] w fun e w' => e = .returned (.bool (isB (⟨na, l⟩ : Snp) ⟨nb, l'⟩)) ∧ Below w.heap.size w w' := by
  have hb0 : Below w.heap.size w ((w.alloc (.cells #[.string na, .slice ao n c] 95)).alloc (.cells #[.string nb, .slice bo n' c'] 95)) := ((Below.refl _ _).alloc (Nat.le_refl _) _).alloc (by simp) _
  by_cases h : na = nb
  · obtain ⟨h1, h2⟩ := str_eq h
    have HQ := Lib.hid (equal_ents ((w.alloc (.cells #[.string na, .slice ao n c] 95)).alloc (.cells #[.string nb, .slice bo n' c'] 95)) ao bo n c n' c' l l' hn hn' h63 h63' (hr.mono hb0) (hr'.mono hb0))
    have HR : Hid (isB (⟨na, l⟩ : Snp) ⟨nb, l'⟩ = isB l l') := Lib.hid (by
      by_cases e : l = l'
      · rw [(isB_iff _ _).2 e, (isB_iff _ _).2 (by rw [h, e])]
      · rw [isB_not e, isB_not (fun e2 => e (Snp.mk.inj e2).2)])
    clear hn hn' hr hr' h
    go_enter Try.func42, Try.ntmps42
    go_wp2_with fail
    refine HQ.out.mono ?_
    rintro e w1 ⟨rfl, hb1⟩
    go_wp2_with fail
    go_ret
    exact ⟨ret_bool HR.out.symm, below_step hb0 hb1⟩
  · obtain ⟨h1, h2⟩ := str_ne h
    have HR : Hid (isB (⟨na, l⟩ : Snp) ⟨nb, l'⟩ = false) := Lib.hid (isB_not fun e => h (Snp.mk.inj e).1)
    clear hn hn' hr hr' h
    go_enter Try.func42, Try.ntmps42
    go_wp2_with fail
    go_ret
    exact ⟨ret_bool HR.out.symm, hb0⟩

/-- no row is too long -/
def FitX (x : SetV) : Prop := x.files.length ≤ 1152921504606846976 ∧ x.snaps.length ≤ 1152921504606846976 ∧ ∀ y ∈ x.snaps, y.files.length ≤ 1152921504606846976

set_option maxRecDepth 100000 in
set_option maxHeartbeats 4000000 in
theorem equal_snps (w : World) (ao bo : Option Addr) (m c m' c' : Nat) (l l' : List Snp) (hm : l.length = m) (hm' : l'.length = m') (h63 : m ≤ 1152921504606846976) (h63' : m' ≤ 1152921504606846976) (hf : ∀ y ∈ l, y.files.length ≤ 1152921504606846976) (hf' : ∀ y ∈ l', y.files.length ≤ 1152921504606846976) (hr : SnpRow w ao l) (hr' : SnpRow w bo l') :
    Calls Try.prog 41 #[.slice ao m c, .slice bo m' c', .func (.func 42) #[] #[]] w fun e w' => e = .returned (.bool (isB l l')) ∧ Below w.heap.size w w' := by
  have HM := Lib.hid hm
  have HM' := Lib.hid hm'
  clear hm hm'
  by_cases hmm : m = m'
  · subst hmm
    go_enter Try.func41, Try.ntmps41
    go_wp2
    go_loopw [17] (fun i wr => ∃ k : Nat, k ≤ m ∧ i = .int .i64 k ∧ Hid (l.take k = l'.take k) ∧ Below w.heap.size w wr) (fun i _ => m - (intOf i).toNat)
    case atStart => exact ⟨0, Nat.zero_le _, rfl, Lib.hid rfl, Below.refl _ _⟩
    case round =>
      obtain ⟨k, hkm, rfl, HTK, hbel⟩ := hrel
      by_cases hlt : k < m
      · have hk1 : k < l.length := by have := HM.out; omega
        have hk2 : k < l'.length := by have := HM'.out; omega
        have hlt' : (k : Int) < m := by omega
        obtain ⟨vs, hvl, hvr, hvi⟩ := hr.mono hbel
        obtain ⟨us, hul, hur, hui⟩ := hr'.mono hbel
        have hv1 : k < vs.length := by omega
        have hu1 : k < us.length := by omega
        obtain ⟨b1, o1, rfl, hq1⟩ := SnvRow.at hvr k hv1
        obtain ⟨b2, o2, rfl, hq2⟩ := SnvRow.at hur k hu1
        have hE1 := hq1 k hv1
        have hE2 := hq2 k hu1
        have hI1 := hvi k hv1 hk1
        have hI2 := hui k hu1 hk2
        have c0 := hE1.nm
        have c1 := hE1.sl
        have d0 := hE2.nm
        have d1 := hE2.sl
        have l1 := hE1.lt
        have l2 := hE2.lt
        have HNE := Lib.hid (take_ne k hk1 hk2)
        have HSN := Lib.hid (fun h => take_snoc k hk1 hk2 h HTK.out)
        have hf1 := hf _ (List.getElem_mem hk1)
        have hf2 := hf' _ (List.getElem_mem hk2)
        clear hq1 hq2 hE1 hE2 hvl hvr hvi hul hur hui
        generalize l[k] = x at *
        generalize l'[k] = y at *
        generalize vs[k] = v at *
        generalize us[k] = u at *
        obtain ⟨xn, xf⟩ := x
        obtain ⟨yn, yf⟩ := y
        obtain ⟨vn, va, vm, vc⟩ := v
        obtain ⟨un, ua, um, uc⟩ := u
        obtain ⟨i1, i2, i3, i4⟩ := hI1
        obtain ⟨j1, j2, j3, j4⟩ := hI2
        simp only at c0 c1 d0 d1 hf1 hf2 i1 i2 i3 i4 j1 j2 j3 j4
        subst i1 j1
        have hbb : Below wr.heap.size wr ((wr.alloc (.cells #[.string vn, .slice va vm vc] 95)).alloc (.cells #[.string un, .slice ua um uc] 95)) := ((Below.refl _ _).alloc (Nat.le_refl _) _).alloc (by simp) _
        have HCL := Lib.hid (sameSnp_any ((wr.alloc (.cells #[.string vn, .slice va vm vc] 95)).alloc (.cells #[.string un, .slice ua um uc] 95)) va ua vm vc um uc vn un xf yf i2.symm j2.symm (by omega) (by omega) (i3.mono hbb) (j3.mono hbb))
        clear i2 j2 i3 j3 i4 j4 hf1 hf2
        go_wp2_with fail
        refine HCL.out.mono ?_
        by_cases hxy : (⟨vn, xf⟩ : Snp) = ⟨un, yf⟩
        · rw [(isB_iff _ _).2 hxy]
          rintro e w2 ⟨rfl, hb2⟩
          have HST := Lib.hid (HSN.out hxy)
          have hbw := below_step hbel (below_step hbb hb2)
          clear hxy HNE HSN HCL
          go_wp2
          go_roundw
          case rel => exact ⟨k + 1, by omega, by go_num, HST, hbw⟩
          case measure => simp [intOf]; omega
        · rw [isB_not hxy]
          rintro e w2 ⟨rfl, hb2⟩
          have HR : Hid (isB l l' = false) := Lib.hid (isB_not (HNE.out hxy))
          have hbw := below_step hbel (below_step hbb hb2)
          clear hxy HNE HSN HCL
          go_wp2
          go_ret
          exact ⟨ret_bool HR.out.symm, hbw⟩
      · obtain rfl : k = m := by omega
        have HR : Hid (isB l l' = true) := Lib.hid ((isB_iff _ _).2 (by
          have h1 : l.take k = l := List.take_of_length_le (by have := HM.out; omega)
          have h2 : l'.take k = l' := List.take_of_length_le (by have := HM'.out; omega)
          rw [← h1, ← h2]; exact HTK.out))
        have hlt' : ¬ (k : Int) < k := by omega
        go_wp2_with fail
        go_ret
        exact ⟨ret_bool HR.out.symm, hbel⟩
  · have HR : Hid (isB l l' = false) := Lib.hid (isB_not (by rintro rfl; exact hmm (HM.out.symm.trans HM'.out)))
    have h1 : ((m : Int) != m') = true := by rw [bne_iff_ne]; omega
    go_enter Try.func41, Try.ntmps41
    go_wp2_with fail
    go_ret
    exact ⟨ret_bool HR.out.symm, Below.refl _ _⟩

set_option maxRecDepth 100000 in
set_option maxHeartbeats 4000000 in
theorem sameSet_any (w : World) (fo so fo' so' : Option Addr) (fn fc sn sc fn' fc' sn' sc' : Nat) (x y : SetV) (hx : SetIn w fo fn fc so sn sc x) (hy : SetIn w fo' fn' fc' so' sn' sc' y) (wx : FitX x) (wy : FitX y) :
    Calls Try.prog 12 #[.agg #[.string x.nm, .slice fo fn fc, .slice so sn sc], .agg #[.string y.nm, .slice fo' fn' fc', .slice so' sn' sc']] w fun e w' => e = .returned (.bool (isB x y)) ∧ Below w.heap.size w w' := by
  have hb0 : Below w.heap.size w ((w.alloc (.cells #[.string x.nm, .slice fo fn fc, .slice so sn sc] 28)).alloc (.cells #[.string y.nm, .slice fo' fn' fc', .slice so' sn' sc'] 28)) := ((Below.refl _ _).alloc (Nat.le_refl _) _).alloc (by simp) _
  have p0 := heap_alloc2_old w (.cells #[.string x.nm, .slice fo fn fc, .slice so sn sc] 28) (.cells #[.string y.nm, .slice fo' fn' fc', .slice so' sn' sc'] 28)
  have p1 := heap_alloc2_new w (.cells #[.string x.nm, .slice fo fn fc, .slice so sn sc] 28) (.cells #[.string y.nm, .slice fo' fn' fc', .slice so' sn' sc'] 28)
  have HX := Lib.hid (hx.mono hb0)
  have HY := Lib.hid (hy.mono hb0)
  have HWX := Lib.hid wx
  have HWY := Lib.hid wy
  clear hx hy wx wy
  by_cases h : x.nm = y.nm
  · obtain ⟨h1, h2⟩ := str_eq h
    have HNM := Lib.hid h
    clear h
    go_enter Try.func12, Try.ntmps12
    go_wp2_with fail
    generalize (w.alloc (Obj.cells #[Value.string x.nm, Value.slice fo fn fc, Value.slice so sn sc] 28)).alloc (Obj.cells #[Value.string y.nm, Value.slice fo' fn' fc', Value.slice so' sn' sc'] 28) = W at *
    refine (equal_ents W fo fo' fn fc fn' fc' x.files y.files HX.out.flen HY.out.flen (by have := HWX.out.1; have := HX.out.flen; omega) (by have := HWY.out.1; have := HY.out.flen; omega) HX.out.frow HY.out.frow).mono ?_
    by_cases hf : x.files = y.files
    · rw [(isB_iff _ _).2 hf]
      rintro e w2 ⟨rfl, hb2⟩
      have p0 := (hb2.block _ (lt_heap p0)).trans p0
      have p1 := (hb2.block _ (lt_heap p1)).trans p1
      have c0 := cell_of_block p0 2
      have c1 := cell_of_block p1 2
      simp only [List.getElem?_toArray, List.getElem?_cons_succ, List.getElem?_cons_zero] at c0 c1
      have l0 := lt_heap p0
      have l1 := lt_heap p1
      have HX2 := Lib.hid (HX.out.mono hb2)
      have HY2 := Lib.hid (HY.out.mono hb2)
      have HR : Hid (isB x y = isB x.snaps y.snaps) := Lib.hid (by
        obtain ⟨xn, xf, xs⟩ := x
        obtain ⟨yn, yf, ys⟩ := y
        have hn := HNM.out
        simp only at hn hf
        subst hn hf
        by_cases e : xs = ys
        · rw [(isB_iff _ _).2 (by rw [e]), (isB_iff _ _).2 e]
        · rw [isB_not e, isB_not (fun e2 => e (SetV.mk.inj e2).2.2)])
      have hbw := below_step hb0 hb2
      clear hf
      go_wp2_with fail
      refine (equal_snps w2 so so' sn sc sn' sc' x.snaps y.snaps HX2.out.slen HY2.out.slen (by have := HWX.out.2.1; have := HX2.out.slen; omega) (by have := HWY.out.2.1; have := HY2.out.slen; omega) HWX.out.2.2 HWY.out.2.2 HX2.out.srow HY2.out.srow).mono ?_
      rintro e w3 ⟨rfl, hb3⟩
      go_wp2_with fail
      go_ret
      exact ⟨ret_bool HR.out.symm, below_step hbw hb3⟩
    · rw [isB_not hf]
      rintro e w2 ⟨rfl, hb2⟩
      have HR : Hid (isB x y = false) := Lib.hid (isB_not fun e => hf (by rw [e]))
      clear hf
      go_wp2_with fail
      go_ret
      exact ⟨ret_bool HR.out.symm, below_step hb0 hb2⟩
  · obtain ⟨h1, h2⟩ := str_ne h
    have HR : Hid (isB x y = false) := Lib.hid (isB_not fun e => h (by rw [e]))
    clear h
    go_enter Try.func12, Try.ntmps12
    go_wp2_with fail
    go_ret
    exact ⟨ret_bool HR.out.symm, hb0⟩
end Go.Proofs.Ytgeacpfenhaioaa

namespace Go.Proofs.Ytgeacpfenhaioaa
open Go.RowKit Go.ChangeShapes Go.WideShapes Go.Deep Go.Joins
set_option linter.unusedVariables false

theorem kind_row {α : Type} (K : Kind α) {w : World} {b o : Nat} {l : List α} (h : ∀ i (hi : i < l.length) j, j < K.k → w.cell? ⟨b, o + i * K.k + j, none⟩ = (K.cells l[i])[j]?) : K.Row w (some ⟨b, o, none⟩) l := by
  refine .inr ⟨b, o, rfl, fun j v hv => ?_⟩
  have hjl : j < l.length * K.k := by
    have := (List.getElem?_eq_some_iff.1 hv).1
    rwa [K.all_len] at this
  have hp := K.pos
  have hi : j / K.k < l.length := Nat.div_lt_of_lt_mul (by rwa [Nat.mul_comm] at hjl)
  have hm : j % K.k < K.k := Nat.mod_lt _ hp
  have hj : j / K.k * K.k + j % K.k = j := by rw [Nat.mul_comm]; exact Nat.div_add_mod j K.k
  have h1 := h (j / K.k) hi (j % K.k) hm
  have h2 := K.all_at l (j / K.k) hi (j % K.k) hm
  rw [hj, hv] at h2
  rw [show o + j / K.k * K.k + j % K.k = o + j from by omega] at h1
  rw [h1, h2]

section
variable {H : Type} {enc : TypeId × Value → H} {w : World} {base : Nat} {spare : Nat → Bool} {held : Bool}

set_option maxRecDepth 100000 in
/-- an entry that lies in cells -/
theorem open_ent {n b o : Nat} {cs : List Value} {y : DataW H × List MemPlace} (h : DataW.trod enc Try.prog w base spare held n 47 cs = some y) (hcl : cs.length = 3) (hc : ∀ j, j < 3 → w.cell? ⟨b, o + j, none⟩ = cs[j]?) :
    ∃ x : Ent, (∀ j, j < 3 → w.cell? ⟨b, o + j, none⟩ = (entK.cells x)[j]?) ∧ I64 x.root ∧ I64 x.size := by
  obtain ⟨y0, y1, m, hx, _, h0, h1⟩ := trod_struct2 Try.underlying47 h
  match cs, hcl with
  | [v0, v1, v2], _ =>
    replace h0 : DataW.trod enc Try.prog w base spare held m 9 [v0] = some y0 := h0
    replace h1 : DataW.trod enc Try.prog w base spare held m 45 [v1, v2] = some y1 := h1
    obtain ⟨z0, z1, m1, hx1, _, g0, g1⟩ := trod_struct2 Try.underlying45 h1
    replace g0 : DataW.trod enc Try.prog w base spare held m1 3 [v1] = some z0 := g0
    replace g1 : DataW.trod enc Try.prog w base spare held m1 3 [v2] = some z1 := g1
    obtain ⟨q, e0, _, _⟩ := DataW.trod_string Try.underlying9 h0
    obtain ⟨r, e1, _, w1⟩ := DataW.trod_int Try.underlying3 g0
    obtain ⟨s, e2, _, w2⟩ := DataW.trod_int Try.underlying3 g1
    simp at e0 e1 e2
    subst e0 e1 e2
    exact ⟨⟨q, r, s⟩, hc, i64_of w1, i64_of w2⟩

set_option maxRecDepth 100000 in
/-- entries -/
theorem open_ents {m : Nat} {c0 : Value} {y0 : DataW H × List MemPlace} (h0 : DataW.trod enc Try.prog w base spare held m 25 [c0] = some y0) (hb0 : ∀ n ∈ y0.1.weights Try.prog 25, n ≤ reachBytes) :
    ∃ ao n cap l, c0 = .slice ao n cap ∧ l.length = n ∧ EntRow w ao l ∧ WfL l ∧ Capd ao n cap ∧ n ≤ 4398046511104 := by
  rcases open_slice Try.underlying25 h0 with ⟨hcs, _⟩ | ⟨a, len, cap, mm, q, D, Pl, hcs, _, hl, hm, hmm, hx0, hi⟩
  · simp at hcs
    subst hcs
    exact ⟨none, 0, 0, [], rfl, rfl, .inl rfl, (by intro x hx; cases hx), ⟨Nat.le_refl _, fun _ => rfl⟩, by omega⟩
  · simp at hcs
    subst hcs
    have hlm : len ≤ mm := by rw [hmm]; split <;> omega
    have hcell : Try.prog.cellsOf 47 = 3 := by kernel_rfl
    rw [hcell] at hi
    rw [hx0] at hb0
    have hlen : len ≤ 4398046511104 := by
      have h1 := hb0 ((((List.range len).map D).length + ((List.range (mm - len)).map fun j => D (len + j)).length) * Try.prog.bytesOf 47) (by simp [DataW.weights, Try.underlying25])
      have e32 : Try.prog.bytesOf 47 = 32 := by kernel_rfl
      rw [e32] at h1
      simp at h1
      have hR : reachBytes = 140737488351232 := rfl
      omega
    rcases Nat.eq_zero_or_pos len with hz | hz
    · subst hz
      exact ⟨some a, 0, cap, [], rfl, rfl, .inl rfl, (by intro x hx; cases hx), ⟨Nat.zero_le _, fun h => by cases h⟩, by omega⟩
    have hpl : ∃ b o, a = ⟨b, o, none⟩ := by
      obtain ⟨cs', hc, _⟩ := hi 0 (by omega)
      obtain ⟨_, hcl, hat⟩ := World.cells?_some hc
      have h00 := hat 0 (by omega)
      rw [List.getElem?_eq_getElem (by omega), Nat.zero_mul] at h00
      have e : (a.add 0).add 0 = a.add 0 := by unfold Addr.add; simp
      rw [e] at h00
      exact addr_plain h00
    obtain ⟨b, o, rfl⟩ := hpl
    have hex : ∀ i, ∃ x : Ent, i < len → ((∀ j, j < 3 → w.cell? ⟨b, o + i * 3 + j, none⟩ = (entK.cells x)[j]?) ∧ I64 x.root ∧ I64 x.size) := by
      intro i
      by_cases hlt : i < len
      · obtain ⟨cs', hc, ht⟩ := hi i (by omega)
        obtain ⟨_, hcl, hat⟩ := World.cells?_some hc
        obtain ⟨x, hxx⟩ := open_ent (b := b) (o := o + i * 3) ht hcl (fun j hj => by
          have := hat j hj
          rw [add_plain, add_plain] at this
          exact this)
        exact ⟨x, fun _ => hxx⟩
      · exact ⟨⟨⟨#[]⟩, 0, 0⟩, fun h => absurd h hlt⟩
    have hf : ∀ i, i < len → _ := fun i => Classical.choose_spec (hex i)
    refine ⟨some ⟨b, o, none⟩, len, cap, (List.range len).map fun i => Classical.choose (hex i), rfl, by simp, kind_row entK fun i hi j hj => ?_, ?_, ⟨hl, fun h => by cases h⟩, by omega⟩
    · have hi' : i < len := by simpa using hi
      show w.cell? ⟨b, o + i * 3 + j, none⟩ = _
      simpa using (hf i hi').1 j hj
    · intro x hx
      obtain ⟨i, hi, rfl⟩ := List.mem_map.1 hx
      exact (hf i (List.mem_range.1 hi)).2

set_option maxRecDepth 100000 in
/-- a snap that lies in cells -/
theorem open_snv {n b o : Nat} {cs : List Value} {y : DataW H × List MemPlace} (h : DataW.trod enc Try.prog w base spare held n 95 cs = some y) (hcl : cs.length = 2) (hc : ∀ j, j < 2 → w.cell? ⟨b, o + j, none⟩ = cs[j]?) (hw : ∀ n ∈ y.1.weights Try.prog 95, n ≤ reachBytes) :
    ∃ (v : Snv) (x : Snp), (∀ j, j < 2 → w.cell? ⟨b, o + j, none⟩ = (snvK.cells v)[j]?) ∧ v.Is w x ∧ WfL x.files ∧ x.files.length ≤ 4398046511104 := by
  obtain ⟨y0, y1, m, hx, _, h0, h1⟩ := trod_struct2 Try.underlying95 h
  match cs, hcl with
  | [v0, v1], _ =>
    replace h0 : DataW.trod enc Try.prog w base spare held m 9 [v0] = some y0 := h0
    replace h1 : DataW.trod enc Try.prog w base spare held m 25 [v1] = some y1 := h1
    obtain ⟨q, e0, _, _⟩ := DataW.trod_string Try.underlying9 h0
    simp at e0
    subst e0
    rw [hx] at hw
    obtain ⟨ao, n, cap, l, rfl, hn, hr, hwf, hcp, hle⟩ := open_ents h1 (fun n hn => hw n (by simp [DataW.weights, DataW.weightsEach, Try.underlying95, hn]))
    exact ⟨⟨q, ao, n, cap⟩, ⟨q, l⟩, hc, ⟨rfl, hn.symm, hr, hcp⟩, hwf, by simp only; omega⟩

set_option maxRecDepth 100000 in
/-- snaps -/
theorem open_snvs {m : Nat} {c0 : Value} {y0 : DataW H × List MemPlace} (h0 : DataW.trod enc Try.prog w base spare held m 26 [c0] = some y0) (hb0 : ∀ n ∈ y0.1.weights Try.prog 26, n ≤ reachBytes) :
    ∃ ao n cap l, c0 = .slice ao n cap ∧ l.length = n ∧ SnpRow w ao l ∧ (∀ y ∈ l, WfL y.files ∧ y.files.length ≤ 4398046511104) ∧ Capd ao n cap ∧ n ≤ 4398046511104 := by
  rcases open_slice Try.underlying26 h0 with ⟨hcs, _⟩ | ⟨a, len, cap, mm, q, D, Pl, hcs, _, hl, hm, hmm, hx0, hi⟩
  · simp at hcs
    subst hcs
    exact ⟨none, 0, 0, [], rfl, rfl, ⟨[], rfl, .inl rfl, fun i h => absurd h (by simp)⟩, (by intro x hx; cases hx), ⟨Nat.le_refl _, fun _ => rfl⟩, by omega⟩
  · simp at hcs
    subst hcs
    have hlm : len ≤ mm := by rw [hmm]; split <;> omega
    have hcell : Try.prog.cellsOf 95 = 2 := by kernel_rfl
    rw [hcell] at hi
    rw [hx0] at hb0
    have hbd : ∀ i, i < len → ∀ n ∈ (D i).weights Try.prog 95, n ≤ reachBytes := fun i hi n hn => hb0 n (by
      simp only [DataW.weights, Try.underlying26, List.mem_cons, List.mem_append]
      exact .inr (.inl (weights_all (List.mem_map.2 ⟨i, List.mem_range.2 hi, rfl⟩) hn)))
    have hlen : len ≤ 4398046511104 := by
      have h1 := hb0 ((((List.range len).map D).length + ((List.range (mm - len)).map fun j => D (len + j)).length) * Try.prog.bytesOf 95) (by simp [DataW.weights, Try.underlying26])
      have e40 : Try.prog.bytesOf 95 = 40 := by kernel_rfl
      rw [e40] at h1
      simp at h1
      have hR : reachBytes = 140737488351232 := rfl
      omega
    rcases Nat.eq_zero_or_pos len with hz | hz
    · subst hz
      exact ⟨some a, 0, cap, [], rfl, rfl, ⟨[], rfl, .inl rfl, fun i h => absurd h (by simp)⟩, (by intro x hx; cases hx), ⟨Nat.zero_le _, fun h => by cases h⟩, by omega⟩
    have hpl : ∃ b o, a = ⟨b, o, none⟩ := by
      obtain ⟨cs', hc, _⟩ := hi 0 (by omega)
      obtain ⟨_, hcl, hat⟩ := World.cells?_some hc
      have h00 := hat 0 (by omega)
      rw [List.getElem?_eq_getElem (by omega), Nat.zero_mul] at h00
      have e : (a.add 0).add 0 = a.add 0 := by unfold Addr.add; simp
      rw [e] at h00
      exact addr_plain h00
    obtain ⟨b, o, rfl⟩ := hpl
    have hex : ∀ i, ∃ z : Snv × Snp, i < len → ((∀ j, j < 2 → w.cell? ⟨b, o + i * 2 + j, none⟩ = (snvK.cells z.1)[j]?) ∧ z.1.Is w z.2 ∧ WfL z.2.files ∧ z.2.files.length ≤ 4398046511104) := by
      intro i
      by_cases hlt : i < len
      · obtain ⟨cs', hc, ht⟩ := hi i (by omega)
        obtain ⟨_, hcl, hat⟩ := World.cells?_some hc
        obtain ⟨v, x, hxx⟩ := open_snv (b := b) (o := o + i * 2) ht hcl (fun j hj => by
          have := hat j hj
          rw [add_plain, add_plain] at this
          exact this) (hbd i hlt)
        exact ⟨(v, x), fun _ => hxx⟩
      · exact ⟨(⟨⟨#[]⟩, none, 0, 0⟩, ⟨⟨#[]⟩, []⟩), fun h => absurd h hlt⟩
    have hf : ∀ i, i < len → _ := fun i => Classical.choose_spec (hex i)
    refine ⟨some ⟨b, o, none⟩, len, cap, (List.range len).map fun i => (Classical.choose (hex i)).2, rfl, by simp, ⟨(List.range len).map fun i => (Classical.choose (hex i)).1, by simp, kind_row snvK fun i hi j hj => ?_, fun i h1 h2 => ?_⟩, ?_, ⟨hl, fun h => by cases h⟩, by omega⟩
    · have hi' : i < len := by simpa using hi
      show w.cell? ⟨b, o + i * 2 + j, none⟩ = _
      simpa using (hf i hi').1 j hj
    · have hi' : i < len := by simpa using h1
      simpa using (hf i hi').2.1
    · intro x hx
      obtain ⟨i, hi, rfl⟩ := List.mem_map.1 hx
      exact (hf i (List.mem_range.1 hi)).2.2

set_option maxRecDepth 100000 in
/-- a set by value -/
theorem open_set {r : Reach} {b0 : Nat} {v : Value} {d : DataW H} {p : List MemPlace} (hv : Value.okWide Try.prog w r b0 28 v) (h : DataW.Trod enc Try.prog w base spare held 28 v d p) (hw : ∀ n ∈ d.weights Try.prog 28, n ≤ reachBytes) :
    ∃ fo fn fc so sn sc x, v = .agg #[.string x.nm, .slice fo fn fc, .slice so sn sc] ∧ SetIn w fo fn fc so sn sc x ∧ WfX x ∧ FitX x := by
  obtain ⟨cs, rfl, hsz⟩ := okWide_struct Try.underlying28 hv
  obtain ⟨cl⟩ := cs
  have hsz1 : cl.length = 3 := hsz.trans (by kernel_rfl)
  match cl, hsz1 with
  | [v0, v1, v2], _ =>
    obtain ⟨fuel, hf⟩ := h
    obtain ⟨y0, y1, y2, m, hx, _, h0, h1, h2⟩ := trod_struct3 Try.underlying28 hf
    replace h0 : DataW.trod enc Try.prog w base spare held m 9 [v0] = some y0 := h0
    replace h1 : DataW.trod enc Try.prog w base spare held m 25 [v1] = some y1 := h1
    replace h2 : DataW.trod enc Try.prog w base spare held m 26 [v2] = some y2 := h2
    have hd : d = .agg [y0.1, y1.1, y2.1] := by have := congrArg Prod.fst hx; simpa using this
    subst hd
    obtain ⟨q, e0, _, _⟩ := DataW.trod_string Try.underlying9 h0
    simp at e0
    subst e0
    obtain ⟨fo, fn, fc, l, rfl, hfn, hfr, hfw, hfc, hfl⟩ := open_ents h1 (fun n hn => hw n (by simp [DataW.weights, DataW.weightsEach, Try.underlying28, hn]))
    obtain ⟨so, sn, sc, ss, rfl, hsn, hsr, hsw, hsc, hsl⟩ := open_snvs h2 (fun n hn => hw n (by simp [DataW.weights, DataW.weightsEach, Try.underlying28, hn]))
    exact ⟨fo, fn, fc, so, sn, sc, ⟨q, l, ss⟩, rfl, ⟨hfn, hsn, hfr, hsr, hfc, hsc⟩, ⟨hfw, fun y hy => (hsw y hy).1⟩, by simp only; omega, by simp only; omega, fun y hy => by have := (hsw y hy).2; omega⟩
end
end Go.Proofs.Ytgeacpfenhaioaa
