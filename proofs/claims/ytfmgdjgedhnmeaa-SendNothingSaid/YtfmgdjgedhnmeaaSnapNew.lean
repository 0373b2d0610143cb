/- set.at's snaps: one is made. -/
import Derived.Test.YtfmgdjgedhnmeaaSnapsP
namespace Go.Proofs.Ytfmgdjgedhnmeaa
open Go.RowKit
set_option linter.unusedVariables false

set_option maxRecDepth 100000 in
set_option maxHeartbeats 16000000 in
theorem snap_new (w : World) (B P base bx n cap fn fc sn sc bn bc : Nat) (key : Int) (ao fo so ba : Option Addr) (s : List Blk) (x : SetV) (vs : List Snv) (a : AskV) (hA : AtIn w B P base bx key ao n cap s fo fn fc so sn sc x vs) (hsm : SmallX x) (hrise : Rising (x.snaps.map Snp.nm))
    (hlv : Lv s) (hri : RefsIn s) (hlow : RootsLow s (rootsF x.files)) (hlows : ∀ y ∈ x.snaps, RootsLow s (rootsF y.files)) (hk7 : a.kind = 7) :
    Calls Try.prog 71 #[.pointer (some ⟨B, 0, none⟩), .agg #[.int .i64 a.kind, .string a.sname, .string a.file, .string a.dest, .int .i64 a.at_, .int .i64 a.n, .slice ba bn bc]] w fun e w' => e = .returned (.int .i64 (snapsR s x a).2.2) ∧ SnEnd w w' B P base bx key ao n cap (snapsR s x a) := by
  have hbase : base ≤ w.heap.size := by have := hA.hP; have := hA.hPx; have := hA.hbx; omega
  have hbxw := hA.hbx
  have hfgw := hA.fge
  have hsgw := hA.sge
  have hBw := lt_heap hA.abox
  have hfl := hA.ox.len.1
  have hsl := hA.ox.len.2
  have hf6 : fn ≤ 6 := by have := hsm.files; omega
  have hs3 : sn ≤ 3 := by have := hsm.snaps; omega
  have hf6' : (fn : Int) ≤ 6 := by omega
  have hs3' : (sn : Int) ≤ 3 := by omega
  obtain ⟨kind, aset, afile, ato, aat, an, abytes⟩ := a
  have HK7 : Hid (kind = 7) := Lib.hid hk7
  clear hk7
  have hb0 : Below w.heap.size w (w.alloc (.cells #[.int .i64 kind, .string aset, .string afile, .string ato, .int .i64 aat, .int .i64 an, .slice ba bn bc] 67)) := (Below.refl _ _).alloc (Nat.le_refl _) _
  have q0 : (w.alloc (.cells #[.int .i64 kind, .string aset, .string afile, .string ato, .int .i64 aat, .int .i64 an, .slice ba bn bc] 67)).heap[w.heap.size]? = some (.cells #[.int .i64 kind, .string aset, .string afile, .string ato, .int .i64 aat, .int .i64 an, .slice ba bn bc] 67 (0, 0)) := heap_alloc_new _ _
  have hA1 := hA.mono hb0
  obtain ⟨RD, hRD⟩ : ∃ RD, snapsR s x ⟨kind, aset, afile, ato, aat, an, abytes⟩ = RD := ⟨_, rfl⟩
  rw [hRD]
  unfold snapsR at hRD
  simp only at hRD
  obtain ⟨PN, hPN⟩ : ∃ PN, placeN (x.snaps.map Snp.nm) ato = PN := ⟨_, rfl⟩
  obtain ⟨PB, hPB⟩ : ∃ PB, placeB (x.snaps.map Snp.nm) ato = PB := ⟨_, rfl⟩
  have hple : PN ≤ sn := by rw [← hPN, hsl]; have := placeN_le (x.snaps.map Snp.nm) ato; rwa [List.length_map] at this
  have hplt : PB = true → PN < sn := fun h => by rw [← hPN, hsl]; have := (placeB_lt (hPB.trans h)).1; rwa [List.length_map] at this
  have HPLT := Lib.hid hplt
  have HFL := Lib.hid hfl
  have HSL := Lib.hid hsl
  have HNM := Lib.hid hA.ox.names
  have HVL : Hid (vs.length = sn) := Lib.hid (hA.ox.vlen.trans hsl.symm)
  have HP1 := Lib.hid (fun (u : World) (hr : snvK.Row u so vs) => snap_any u x.nm fo so fn fc sn sc vs ato HVL.out (by omega) hr (by rw [HNM.out]; exact hrise))
  rw [HNM.out, hPN, hPB] at HP1
  rw [hPN, hPB] at hRD
  have HRD := Lib.hid hRD
  have HFGW := Lib.hid hfgw
  have HSGW := Lib.hid hsgw
  have HLOW := Lib.hid hlow
  have HLOWS := Lib.hid hlows
  have HLV := Lib.hid hlv
  have HRI := Lib.hid hri
  have HSM := Lib.hid hsm
  clear hRD hPN hPB hplt hfl hsl hrise hA hfgw hsgw hlow hlows hlv hri hsm HNM
  have hA1' := hA1
  go_enter Try.func71, Try.ntmps71
  go_wp2_with fail
  generalize w.alloc (Obj.cells #[Value.int IntKind.i64 kind, Value.string aset, Value.string afile, Value.string ato, Value.int IntKind.i64 aat, Value.int IntKind.i64 an, Value.slice ba bn bc] 67) = W0 at *
  refine (name_any _ _).mono ?_
  rintro e w' ⟨rfl, rfl⟩
  have hbw0 : Below base w w' := hb0.mono hbase
  cases hnb : nameB ato with
  | false =>
    have HR : Hid (RD = (s, x, 1)) := Lib.hid (HRD.out.symm.trans (if_pos hnb))
    clear hA1 hA1' HRD HP1
    go_wp2
    go_ret
    rw [HR.out]
    exact ⟨rfl, hbw0, fun h => by simp at h⟩
  | true =>
    have hR := HRD.out.symm
    rw [if_neg (by rw [hnb]; simp)] at hR
    have HR0 := Lib.hid hR
    clear hR HRD hA1'
    replace hnb := Lib.hid hnb
    have a2 := cell_of_block hA1.abox 2
    have a3 := cell_of_block hA1.abox 3
    have a4 := cell_of_block hA1.abox 4
    have k3 := cell_of_block q0 3
    simp only [List.getElem?_toArray, List.getElem?_cons_succ, List.getElem?_cons_zero] at a2 a3 a4 k3
    have lA := lt_heap hA1.abox
    have lK := lt_heap q0
    obtain ⟨sa, scc, hsv, hsr, -, -⟩ := hA1.ox.snaps.row
    simp only [Value.slice.injEq] at hsv
    obtain ⟨rfl, -, rfl⟩ := hsv
    have HPM := Lib.hid (fun v => HP1.out (mix w' v) (hsr.mono (mix_below _ _)))
    clear hsr HP1
    go_wp2_with fail
    refine wp_region_mix (by kernel_rfl) (by kernel_rfl) ?_
    repeat (go_big_quiet_step (first
      | (go_at_call 72; refine calls_mix (v := .tuple #[.int .i64 PN, .bool PB]) ?_; with_reducible exact HPM.out _)))
    refine wpQuiet_nil ?_
    intro w2 hb2
    have hA2 := hA1.mono hb2
    have q2 := (hb2.block _ (lt_heap q0)).trans q0
    have hbw2 : Below base w w2 := hbw0.trans (hb2.mono (by have := hA1.hP; have := hA1.hPx; have := hA1.hbx; omega))
    have hsz2 : w.heap.size < w2.heap.size := lt_heap q2
    clear a2 a3 a4 k3 lA lK HPM hA1 q0 hb2 hbw0 hb0
    have a0 := cell_of_block hA2.abox 0
    have a3 := cell_of_block hA2.abox 3
    have a4 := cell_of_block hA2.abox 4
    have k0 := cell_of_block q2 0
    have k3 := cell_of_block q2 3
    simp only [List.getElem?_toArray, List.getElem?_cons_succ, List.getElem?_cons_zero] at a0 a3 a4 k0 k3
    have lA := lt_heap hA2.abox
    have lK := lt_heap q2
    have h7 : kind = 7 := HK7.out
    all_goals
      have hR := HR0.out
      rw [if_pos h7] at hR
      have h7' : (kind == 7) = true := by rw [beq_iff_eq]; exact h7
      subst h7
      cases PB with
      | true =>
        have HR : Hid (RD = (s, x, 6)) := Lib.hid (hR.trans (if_pos rfl))
        clear hA2 HR0 hR
        go_wp2
        go_ret
        rw [HR.out]
        exact ⟨rfl, hbw2, fun h => by simp at h⟩
      | false =>
        rw [if_neg (by simp)] at hR
        by_cases h3 : sn = 3
        · rw [if_pos (by rw [← HSL.out]; exact h3)] at hR
          have HR := Lib.hid hR
          subst h3
          clear hA2 HR0 hR
          go_wp2
          go_ret
          rw [HR.out]
          exact ⟨rfl, hbw2, fun h => by simp at h⟩
        · rw [if_neg (by rw [← HSL.out]; exact h3)] at hR
          have HR := Lib.hid hR
          have h3' : ((sn : Int) == 3) = false := by rw [beq_eq_false_iff_ne]; omega
          have h3'' : ¬ ((sn : Int) = 3) := by omega
          clear HR0 hR
          have HA3 := Lib.hid (hA2.mono (Below.refl w2.heap.size w2).drew)
          have HB3 : Hid (Below base w w2.drew) := Lib.hid hbw2.drew
          have q3 : w2.drew.heap[w.heap.size]? = _ := q2
          have HQ3 := Lib.hid q3
          clear hA2 hbw2 q2 q3
          go_wp2_with fail
          go_still_tail 9, (by kernel_rfl)
          change wpList _ _ _ _ _ w2.drew
          clear a0 a3 a4 k0 k3 lA lK
          generalize w2.drew = w3 at *
          go_wp2_with fail
          have hA3 := HA3.out
          refine (keep_more w3 P base ao fo n cap fn fc s x.files hA3.slen hA3.n4 hA3.sbox hA3.own (Nat.le_trans hbase HB3.out.size) (fun g h1 h2 => Ne.symm (hA3.row g h1 h2).2) (fun y hy => by have := HRI.out y hy; omega) HFL.out.symm hf6 hA3.filesFar (HLOW.out.in_ hA3.slen)).mono ?_
          rintro e w4 ⟨rfl, hI4⟩
          have hA4 := hA3.store hI4 ((bump_length _ _).trans hA3.slen) (hA3.kid4.bump _)
          have hbw4 : Below base w w4 := HB3.out.trans hI4.below
          have q4 := (hI4.frame _ (lt_heap HQ3.out) (fun g h1 h2 => by have := (hA3.row g h1 h2).1; omega)).trans HQ3.out
          clear hA3 HA3 HB3 HQ3 hI4
          have HSG : Hid (∀ g, so = some ⟨g, 0, none⟩ → g < w4.heap.size) := Lib.hid fun g hg => (hA4.sge g hg).2
          have HFG : Hid (∀ g, fo = some ⟨g, 0, none⟩ → g < w4.heap.size) := Lib.hid fun g hg => (hA4.fge g hg).2
          have hAd := hA4.mono (Below.refl w4.heap.size w4).drew
          have HA4 := Lib.hid hAd
          have a3 := cell_of_block hA4.abox 3
          have a4 := cell_of_block hA4.abox 4
          have k3 := cell_of_block q4 3
          simp only [List.getElem?_toArray, List.getElem?_cons_succ, List.getElem?_cons_zero] at a3 a4 k3
          have lA := lt_heap hA4.abox
          have lK := lt_heap q4
          have HCL := Lib.hid (clone_ents w4.drew fo fn fc x.files HFL.out.symm hAd.ox.is.frow hAd.ox.is.fcap (by omega))
          have HINS : Hid (∀ (u : World) (vb : Nat) (y : Snv), AtIn u B P base bx key ao n cap (bump s (rootsF x.files)) fo fn fc so sn sc x vs → u.heap[vb]? = some (.cells (snvK.cells y).toArray 105 (0, 0)) → so ≠ some ⟨vb, 0, none⟩ → Calls Try.prog 118 #[.slice so sn sc, .int .i64 PN, .slice (some ⟨vb, 0, none⟩) 1 1] u fun e w' => InsEnd snvK u w' bx so vs PN y e) :=
            Lib.hid fun u vb y hu hv hvb => insert_snvs u bx so sn sc PN vb vs y HVL.out (by omega) hple hu.ox.snaps hu.hbx hv hvb
          have HB4 := Lib.hid hbw4.drew
          clear hA4 hAd q4 hbw4
          go_wp2_with fail
          go_region_with (first
            | (go_at_call 73; refine HCL.out.mono ?_; rintro e w5 ⟨v5, rfl, ho5, hb5⟩; obtain ⟨a5, c5, rfl, -, hc5, hz5⟩ := ho5.row; have u3 := ((bcell hb5).1 _ _ lA).trans a3; have u4 := ((bcell hb5).1 _ _ lA).trans a4; have uk := ((bcell hb5).1 _ _ lK).trans k3; have zA := Nat.lt_of_lt_of_le lA hb5.size; have zK := Nat.lt_of_lt_of_le lK hb5.size)
            | (go_at_call 118; refine (HINS.out _ w5.heap.size ⟨ato, a5, x.files.length, c5⟩ ((HA4.out.mono hb5).mono ((Below.refl _ _).alloc (Nat.le_refl _) _)) (heap_alloc_new _ _) (fun e => by have := HSG.out _ e; have h9 : w4.heap.size ≤ w5.heap.size := hb5.size; omega)).mono ?_; rintro e w6 ⟨so6, sc6, rfl, ho6, hb6, hk6, hnew6⟩; have ab6 := (hk6 B (by have := zA; simp; omega) HA4.out.sB).trans ((HA4.out.mono hb5).mono ((Below.refl _ _).alloc (Nat.le_refl _) _)).abox; have y4 := cell_of_block ab6 4; simp only [List.getElem?_toArray, List.getElem?_cons_succ, List.getElem?_cons_zero] at y4; have yf := fun j => free_of_block ab6 j; have y1 := lt_heap ab6))
          all_goals
            have hFIN := Lib.hid (snapNew_end HA4.out hb5 ho5 hc5 hz5 ((Below.refl _ _).alloc (Nat.le_refl _) _) ho6 hb6 hk6 hnew6 HB4.out)
            clear ho5 hb5 hc5 hz5 ho6 hb6 hk6 hnew6 ab6 y4 yf y1 u3 u4 uk zA zK a3 a4 k3 lA lK HCL HINS HA4
            go_wp2
            go_ret
            rw [HR.out]
            exact ⟨rfl, hFIN.out⟩
end Go.Proofs.Ytfmgdjgedhnmeaa
