/- Are two blocks, two stores, the same? -/
import Derived.Test.YtgeacpfenhaioaaCopy
namespace Go.Proofs.Ytgeacpfenhaioaa
open Go.RowKit
set_option linter.unusedVariables false

def sameB (x y : Blk) : Bool := (x.refs == y.refs) && ((x.level == y.level) && ((x.kids == y.kids) && (x.bytes == y.bytes)))
theorem sameB_iff (x y : Blk) : sameB x y = true ↔ x = y := by
  obtain ⟨r, l, ks, bs⟩ := x
  obtain ⟨r', l', ks', bs'⟩ := y
  simp [sameB]
def sameS (s t : List Blk) : Bool := decide (s = t)

/-- a block as a value -/
structure BlkV (w : World) (kv bv : Value) (x : Blk) : Prop where
  kids : Sl .i64 w kv x.kids
  bytes : Sl .u8 w bv x.bytes
theorem BlkV.mono {w w' : World} {kv bv : Value} {x : Blk} (h : BlkV w kv bv x) (hb : Below w.heap.size w w') : BlkV w' kv bv x := ⟨h.kids.mono hb, h.bytes.mono hb⟩

theorem BlkAt.v {w : World} {b o : Nat} {x : Blk} (h : BlkAt w b o x) : ∃ ka kc ba bc, w.cell? ⟨b, o + 2, none⟩ = some (.slice ka x.kids.length kc) ∧ w.cell? ⟨b, o + 3, none⟩ = some (.slice ba x.bytes.length bc) ∧ BlkV w (.slice ka x.kids.length kc) (.slice ba x.bytes.length bc) x := by
  obtain ⟨v2, c2, kao, kcap, rfl, hrow, hcd⟩ := h.kids
  obtain ⟨v3, c3, bao, bcap, rfl, hrow3, hcd3⟩ := h.bytes
  exact ⟨_, _, _, _, c2, c3, ⟨⟨_, _, rfl, hrow, hcd⟩, ⟨_, _, rfl, hrow3, hcd3⟩⟩⟩


set_option maxRecDepth 100000 in
set_option maxHeartbeats 1000000 in
theorem sameCl_any (w : World) (ka ba ka' ba' : Option Addr) (nk kc nb bc nk' kc' nb' bc' : Nat) (x y : Blk) (hx : BlkV w (.slice ka nk kc) (.slice ba nb bc) x) (hy : BlkV w (.slice ka' nk' kc') (.slice ba' nb' bc') y) (wx : WfB x) (wy : WfB y) :
    Calls Try.prog 44 #[.agg #[.int .i64 x.refs, .int .i64 x.level, .slice ka nk kc, .slice ba nb bc], .agg #[.int .i64 y.refs, .int .i64 y.level, .slice ka' nk' kc', .slice ba' nb' bc']] w fun e w' =>
      e = .returned (.bool (sameB x y)) ∧ Below w.heap.size w w' := by
  obtain ⟨hk, hkr, _⟩ := hx.kids.at
  obtain ⟨hb, hbr, _⟩ := hx.bytes.at
  obtain ⟨hk', hkr', _⟩ := hy.kids.at
  obtain ⟨hb', hbr', _⟩ := hy.bytes.at
  have b1 := wx.bytes
  have b2 := wy.bytes
  have k1 := wx.klen
  have k3 := wx.blen
  have HK := Lib.hid hk.symm
  have HB := Lib.hid hb.symm
  have HK' := Lib.hid hk'.symm
  have HB' := Lib.hid hb'.symm
  clear hx hy wx wy hk hb hk' hb'
  cases h1 : (x.refs == y.refs) with
  | false =>
    have HR := Lib.hid (show sameB x y = false by unfold sameB; rw [h1]; rfl)
    go_enter Try.func44, Try.ntmps44
    go_wp2
    go_ret
    exact ⟨ret_bool HR.out.symm, ((Below.refl _ _).alloc (Nat.le_refl _) _).alloc (by simp) _⟩
  | true =>
    cases h2 : (x.level == y.level) with
    | false =>
      have HR := Lib.hid (show sameB x y = false by unfold sameB; rw [h1, h2]; rfl)
      go_enter Try.func44, Try.ntmps44
      go_wp2
      go_ret
      exact ⟨ret_bool HR.out.symm, ((Below.refl _ _).alloc (Nat.le_refl _) _).alloc (by simp) _⟩
    | true =>
      have hb0 : Below w.heap.size w ((w.alloc (.cells #[.int .i64 x.refs, .int .i64 x.level, .slice ka nk kc, .slice ba nb bc] 84)).alloc (.cells #[.int .i64 y.refs, .int .i64 y.level, .slice ka' nk' kc', .slice ba' nb' bc'] 84)) := ((Below.refl _ _).alloc (Nat.le_refl _) _).alloc (by simp) _
      cases h3 : (x.kids == y.kids) with
      | false =>
        have HR := Lib.hid (show sameB x y = false by unfold sameB; rw [h1, h2, h3]; rfl)
        have H3 := Lib.hid h3
        clear h3
        go_enter Try.func44, Try.ntmps44
        go_wp2_with fail
        refine (slices_equal_int _ _ _ _ _ _ x.kids y.kids _ HK.out HK'.out (hkr.mono hb0) (hkr'.mono hb0) (by have := HK.out; omega)).mono ?_
        rw [H3.out]
        rintro e w1 ⟨rfl, hb1⟩
        go_wp2
        go_ret
        exact ⟨ret_bool HR.out.symm, below_step hb0 hb1⟩
      | true =>
        have HR := Lib.hid (show sameB x y = (x.bytes == y.bytes) by unfold sameB; rw [h1, h2, h3]; rfl)
        have H3 := Lib.hid h3
        clear h3
        go_enter Try.func44, Try.ntmps44
        go_wp2_with fail
        refine (slices_equal_int _ _ _ _ _ _ x.kids y.kids _ HK.out HK'.out (hkr.mono hb0) (hkr'.mono hb0) (by have := HK.out; omega)).mono ?_
        rw [H3.out]
        rintro e w1 ⟨rfl, hb1⟩
        have hb01 := below_step hb0 hb1
        have d1 : w1.cell? ⟨w.heap.size, 3, none⟩ = some (.slice ba nb bc) := ((bcell hb1).1 w.heap.size 3 (by simp; omega)).trans (cell_of_block (heap_alloc2_old _ _ _) 3)
        have d2 : w1.cell? ⟨w.heap.size + 1, 3, none⟩ = some (.slice ba' nb' bc') := ((bcell hb1).1 (w.heap.size + 1) 3 (by simp)).trans (cell_of_block (heap_alloc2_new _ _ _) 3)
        have z1 : w.heap.size + 1 < w1.heap.size := by have := hb1.size; simp at this; omega
        clear hkr hkr' HK HK' H3
        go_wp2_with fail
        refine (slices_equal_byte _ _ _ _ _ _ x.bytes y.bytes _ HB.out HB'.out (hbr.mono hb01) (hbr'.mono hb01) (by have := HB.out; omega)).mono ?_
        rintro e w2 ⟨rfl, hb2⟩
        go_wp2
        go_ret
        exact ⟨ret_bool HR.out.symm, below_step hb01 hb2⟩

set_option maxRecDepth 100000 in
set_option maxHeartbeats 1000000 in
theorem equalCl_any (w : World) (ao bo : Option Addr) (n cap m cap' : Nat) (s t : List Blk) (hn : s.length = n) (hm : t.length = m) (h63 : n ≤ 1152921504606846976) (h63' : m ≤ 1152921504606846976) (hs : StoRow w ao s) (ht : StoRow w bo t) (ws : WfS s) (wt : WfS t) :
    Calls Try.prog 43 #[.slice ao n cap, .slice bo m cap', .func (.func 44) #[] #[]] w fun e w' => e = .returned (.bool (sameS s t)) ∧ Below w.heap.size w w' := by
  have HN := Lib.hid hn
  have HM := Lib.hid hm
  clear hn hm
  by_cases hnm : n = m
  · subst hnm
    go_enter Try.func43, Try.ntmps43
    go_wp2
    go_loopw [17] (fun i wr => ∃ k : Nat, k ≤ n ∧ i = .int .i64 k ∧ Hid (s.take k = t.take k) ∧ Below w.heap.size w wr) (fun i _ => n - (intOf i).toNat)
    case atStart => exact ⟨0, Nat.zero_le _, rfl, Lib.hid rfl, Below.refl _ _⟩
    case round =>
      obtain ⟨k, hkn, rfl, HT, hbel⟩ := hrel
      by_cases hlt : k < n
      · have hks : k < s.length := by have := HN.out; omega
        have hkt : k < t.length := by have := HM.out; omega
        obtain ⟨b, o, rfl, hq⟩ := (hs.mono hbel).at k hks
        obtain ⟨b', o', rfl, hq'⟩ := (ht.mono hbel).at k hkt
        have hB := hq k hks
        have hB' := hq' k hkt
        have c0 := hB.refs
        have c1 := hB.level
        obtain ⟨ka, kc, ba, bc, c2, c3, hv⟩ := hB.v
        have d0 := hB'.refs
        have d1 := hB'.level
        obtain ⟨ka', kc', ba', bc', d2, d3, hv'⟩ := hB'.v
        have lb := hB.lt
        have lb' := hB'.lt
        have wx := ws.at k hks
        have wy := wt.at k hkt
        have hts : s.take (k + 1) = s.take k ++ [s[k]] := by rw [List.take_succ_eq_append_getElem hks]
        have htt : t.take (k + 1) = t.take k ++ [t[k]] := by rw [List.take_succ_eq_append_getElem hkt]
        have HS := Lib.hid hts
        have HTT := Lib.hid htt
        have hsb := sameB_iff s[k] t[k]
        have HSB := Lib.hid hsb
        have hbb : Below wr.heap.size wr ((wr.alloc (.cells #[.int .i64 s[k].refs, .int .i64 s[k].level, .slice ka s[k].kids.length kc, .slice ba s[k].bytes.length bc] 84)).alloc (.cells #[.int .i64 t[k].refs, .int .i64 t[k].level, .slice ka' t[k].kids.length kc', .slice ba' t[k].bytes.length bc'] 84)) := ((Below.refl _ _).alloc (Nat.le_refl _) _).alloc (by simp) _
        have HNE := Lib.hid (show s[k] ≠ t[k] → sameS s t = false from fun h => by
          unfold sameS
          rw [decide_eq_false]
          intro e
          apply h
          simp only [e])
        clear hq hq' hB hB' hts htt hsb
        go_wp2_with fail
        refine (sameCl_any _ _ _ _ _ _ _ _ _ _ _ _ _ s[k] t[k] (hv.mono hbb) (hv'.mono hbb) wx wy).mono ?_
        cases hsm : sameB s[k] t[k] with
        | false =>
          rintro e w2 ⟨rfl, hb2⟩
          have HF := Lib.hid (HNE.out fun e => by rw [HSB.out.2 e] at hsm; cases hsm)
          have hbw := below_step hbel (below_step hbb hb2)
          clear hsm HNE hv hv'
          go_wp2
          go_ret
          exact ⟨ret_bool HF.out.symm, hbw⟩
        | true =>
          rintro e w2 ⟨rfl, hb2⟩
          have HE := Lib.hid (HSB.out.1 hsm)
          have hbw := below_step hbel (below_step hbb hb2)
          clear hsm HNE hv hv'
          go_wp2
          go_roundw
          case rel => exact ⟨k + 1, by omega, by go_num, Lib.hid (by rw [HS.out, HTT.out, HT.out, HE.out]), hbw⟩
          case measure => simp [intOf]; omega
      · obtain rfl : k = n := by omega
        have HR := Lib.hid (show sameS s t = true by
          have h := HT.out
          rw [List.take_of_length_le (by have := HN.out; omega), List.take_of_length_le (by have := HM.out; omega)] at h
          unfold sameS; rw [h]; simp)
        clear HT
        go_wp2
        go_ret
        exact ⟨ret_bool HR.out.symm, hbel⟩
  · have HR := Lib.hid (show sameS s t = false by
      unfold sameS
      rw [decide_eq_false]
      intro e
      apply hnm
      have h1 := HN.out
      have h2 := HM.out
      rw [e] at h1
      omega)
    have hne : ((n : Int) != (m : Int)) = true := by rw [bne_iff_ne]; omega
    clear hnm
    go_enter Try.func43, Try.ntmps43
    go_wp2
    go_ret
    exact ⟨ret_bool HR.out.symm, Below.refl _ _⟩

set_option maxRecDepth 100000 in
theorem same_any (w : World) (ao bo : Option Addr) (n cap m cap' : Nat) (s t : List Blk) (hn : s.length = n) (hm : t.length = m) (h63 : n ≤ 1152921504606846976) (h63' : m ≤ 1152921504606846976) (hs : StoRow w ao s) (ht : StoRow w bo t) (ws : WfS s) (wt : WfS t) :
    Calls Try.prog 13 #[.agg #[.slice ao n cap], .agg #[.slice bo m cap']] w fun e w' => e = .returned (.bool (sameS s t)) ∧ Below w.heap.size w w' := by
  have HN := Lib.hid hn
  have HM := Lib.hid hm
  clear hn hm
  have hb0 : Below w.heap.size w ((w.alloc (.cells #[.slice ao n cap] 24)).alloc (.cells #[.slice bo m cap'] 24)) := ((Below.refl _ _).alloc (Nat.le_refl _) _).alloc (by simp) _
  go_enter Try.func13, Try.ntmps13
  go_wp2_with fail
  refine (equalCl_any _ _ _ _ _ _ _ s t HN.out HM.out h63 h63' (hs.mono hb0) (ht.mono hb0) ws wt).mono ?_
  rintro e w2 ⟨rfl, hb2⟩
  go_wp2
  go_ret
  exact ⟨rfl, below_step hb0 hb2⟩
end Go.Proofs.Ytgeacpfenhaioaa
