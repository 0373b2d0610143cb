/- rookeryref.SameChanges: changes held against each other by the document's own means. -/
import Derived.Test.YtfmgdjgedhnmeaaSendP
import Derived.Test.YtfmgdjgedhnmeaaSendK
import Derived.Test.YtfmgdjgedhnmeaaOpenX
namespace Go.Proofs.Ytfmgdjgedhnmeaa
open Go.RowKit
set_option linter.unusedVariables false
set_option linter.unusedSimpArgs false

/-- changes in a row somewhere -/
def ChRow (w : World) (ao : Option Addr) (l : List ChgV) : Prop := ∃ vs : List Chv, vs.length = l.length ∧ chvK.Row w ao vs ∧ ∀ i (h : i < vs.length) (h' : i < l.length), ChIn w vs[i] l[i]
theorem ChRow.mono {w w' : World} {ao : Option Addr} {l : List ChgV} (h : ChRow w ao l) (hb : Below w.heap.size w w') : ChRow w' ao l := by
  obtain ⟨vs, h1, h2, h3⟩ := h
  exact ⟨vs, h1, h2.mono hb, fun i a b => (h3 i a b).mono hb⟩
theorem ChsIn.row {w : World} {base n c : Nat} {ao : Option Addr} {l : List ChgV} (h : ChsIn w base (.slice ao n c) l) : l.length = n ∧ ChRow w ao l ∧ Capd ao n c := by
  obtain ⟨vs, h1, h2, h3⟩ := h
  obtain ⟨a, cap, e, h4, h5, h6⟩ := h1.row
  simp only [Value.slice.injEq] at e
  obtain ⟨rfl, rfl, rfl⟩ := e
  exact ⟨h2.symm, ⟨vs, h2, h4, h3⟩, h5, h6⟩
/-- a change's cells -/
structure ChvAt (w : World) (b o : Nat) (x : Chv) : Prop where
  kind : w.cell? ⟨b, o, none⟩ = some (.int .i64 x.kind)
  nm : w.cell? ⟨b, o + 1, none⟩ = some (.string x.nm)
  n : w.cell? ⟨b, o + 2, none⟩ = some (.int .i64 x.n)
  sl : w.cell? ⟨b, o + 3, none⟩ = some (.slice x.ba x.bn x.bc)
theorem ChvAt.lt {w : World} {b o : Nat} {x : Chv} (h : ChvAt w b o x) : b < w.heap.size := World.block_lt_of_cell? _ _ h.kind
theorem ChRow.at {w : World} {ao : Option Addr} {l : List ChgV} (h : ChRow w ao l) (k : Nat) (hk : k < l.length) : ∃ b o, ao = some ⟨b, o, none⟩ ∧ ∃ x : Chv, ChvAt w b (o + k * 4) x ∧ ChIn w x l[k] := by
  obtain ⟨vs, h1, h2, h3⟩ := h
  obtain ⟨b, o, e, -, hc⟩ := Kind.Row.at h2 (by omega)
  have hkv : k < vs.length := by omega
  have key : ∀ j, j < 4 → ∀ v, (chvK.cells vs[k])[j]? = some v → w.cell? ⟨b, o + k * 4 + j, none⟩ = some v := by
    intro j hj v hv
    rw [Nat.add_assoc]
    exact hc _ v ((chvK.all_at vs k hkv j hj).trans hv)
  exact ⟨b, o, e, vs[k], ⟨key 0 (by omega) _ rfl, key 1 (by omega) _ rfl, key 2 (by omega) _ rfl, key 3 (by omega) _ rfl⟩, h3 k hkv hk⟩

set_option maxRecDepth 100000 in
set_option maxHeartbeats 4000000 in
theorem sameChg_any (w : World) (x y : Chv) (c d : ChgV) (hx : ChIn w x c) (hy : ChIn w y d) (bx : Byt c.bytes) (by_ : Byt d.bytes) :
    Calls Try.prog 76 #[.agg #[.int .i64 x.kind, .string x.nm, .int .i64 x.n, .slice x.ba x.bn x.bc], .agg #[.int .i64 y.kind, .string y.nm, .int .i64 y.n, .slice y.ba y.bn y.bc]] w fun e w' => e = .returned (.bool (isB c d)) ∧ Below w.heap.size w w' := by
  have hb0 : Below w.heap.size w ((w.alloc (.cells #[.int .i64 x.kind, .string x.nm, .int .i64 x.n, .slice x.ba x.bn x.bc] 81)).alloc (.cells #[.int .i64 y.kind, .string y.nm, .int .i64 y.n, .slice y.ba y.bn y.bc] 81)) := ((Below.refl _ _).alloc (Nat.le_refl _) _).alloc (by simp) _
  have hrx := hx.row.mono hb0
  have hry := hy.row.mono hb0
  have hBE := bytes_equal_n x.ba y.ba x.bn y.bn x.bc y.bc c.bytes d.bytes ((w.alloc (.cells #[.int .i64 x.kind, .string x.nm, .int .i64 x.n, .slice x.ba x.bn x.bc] 81)).alloc (.cells #[.int .i64 y.kind, .string y.nm, .int .i64 y.n, .slice y.ba y.bn y.bc] 81)) hx.len hy.len hrx hry bx by_
  have HBE := Lib.hid hBE
  obtain ⟨x1, x2, x3, x4, x5, x6⟩ := hx
  obtain ⟨y1, y2, y3, y4, y5, y6⟩ := hy
  have HX : Hid (∀ b, x.kind = y.kind → x.nm = y.nm → x.n = y.n → (c.bytes == d.bytes) = b → isB c d = b) := Lib.hid fun b h1 h2 h3 h4 => by
    cases b with
    | true =>
      rw [isB_iff]
      obtain ⟨c1, c2, c3, c4⟩ := c
      obtain ⟨d1, d2, d3, d4⟩ := d
      simp only at x1 x2 x3 y1 y2 y3 h4
      have h4 := eq_of_beq h4
      rw [← x1, ← x2, ← x3, ← y1, ← y2, ← y3, h1, h2, h3, h4]
    | false =>
      refine isB_not fun e => ?_
      rw [e] at h4
      simp at h4
  have HN1 : Hid (x.kind ≠ y.kind → isB c d = false) := Lib.hid fun h => isB_not fun e => h (by rw [x1, y1, e])
  have HN2 : Hid (x.nm ≠ y.nm → isB c d = false) := Lib.hid fun h => isB_not fun e => h (by rw [x2, y2, e])
  have HN3 : Hid (x.n ≠ y.n → isB c d = false) := Lib.hid fun h => isB_not fun e => h (by rw [x3, y3, e])
  clear x1 x2 x3 x4 x5 x6 y1 y2 y3 y4 y5 y6 hrx hry hBE
  obtain ⟨xk, xm, xn, xa, xb, xc⟩ := x
  obtain ⟨yk, ym, yn, ya, yb, yc⟩ := y
  simp only at HX HN1 HN2 HN3 HBE hb0
  obtain ⟨R, hR⟩ : ∃ R, isB c d = R := ⟨_, rfl⟩
  rw [hR] at HN1 HN2 HN3 HX ⊢
  clear hR
  by_cases h1 : xk = yk
  rotate_left
  · have e1 : (xk == yk) = false := by rw [beq_eq_false_iff_ne]; exact h1
    have HR := Lib.hid (HN1.out h1)
    clear h1 HX HN1 HN2 HN3 HBE
    go_enter Try.func76, Try.ntmps76
    go_wp2_with fail
    go_ret
    exact ⟨ret_bool HR.out.symm, hb0⟩
  have e1 : (xk == yk) = true := by rw [beq_iff_eq]; exact h1
  have H1 := Lib.hid h1
  clear h1
  by_cases h2 : xm = ym
  rotate_left
  · obtain ⟨s1, s2⟩ := str_ne h2
    have HR := Lib.hid (HN2.out h2)
    clear h2 HX HN1 HN2 HN3 HBE
    go_enter Try.func76, Try.ntmps76
    go_wp2_with fail
    go_ret
    exact ⟨ret_bool HR.out.symm, hb0⟩
  obtain ⟨s1, s2⟩ := str_eq h2
  have H2 := Lib.hid h2
  clear h2
  by_cases h3 : xn = yn
  rotate_left
  · have e3 : (xn == yn) = false := by rw [beq_eq_false_iff_ne]; exact h3
    have HR := Lib.hid (HN3.out h3)
    clear h3 HX HN1 HN2 HN3 HBE
    go_enter Try.func76, Try.ntmps76
    go_wp2_with fail
    go_ret
    exact ⟨ret_bool HR.out.symm, hb0⟩
  have e3 : (xn == yn) = true := by rw [beq_iff_eq]; exact h3
  have HR := Lib.hid (HX.out _ H1.out H2.out h3 rfl)
  clear h3 HX HN1 HN2 HN3 H1 H2
  generalize (c.bytes == d.bytes) = E at *
  go_enter Try.func76, Try.ntmps76
  go_wp2_with fail
  refine HBE.out.mono ?_
  rintro e w2 ⟨rfl, rfl⟩
  go_wp2_with fail
  go_ret
  exact ⟨ret_bool HR.out.symm, hb0⟩

set_option maxRecDepth 100000 in
set_option maxHeartbeats 4000000 in
theorem equal_chgs (w : World) (ao bo : Option Addr) (m c m' c' : Nat) (l l' : List ChgV) (hm : l.length = m) (hm' : l'.length = m') (h63 : m ≤ 1152921504606846976) (h63' : m' ≤ 1152921504606846976) (hr : ChRow w ao l) (hr' : ChRow w bo l') (hb : ∀ c ∈ l, Byt c.bytes) (hb' : ∀ c ∈ l', Byt c.bytes) :
    Calls Try.prog 75 #[.slice ao m c, .slice bo m' c', .func (.func 76) #[] #[]] w fun e w' => e = .returned (.bool (isB l l')) ∧ Below w.heap.size w w' := by
  have HM := Lib.hid hm
  have HM' := Lib.hid hm'
  clear hm hm'
  by_cases hmm : m = m'
  · subst hmm
    go_enter Try.func75, Try.ntmps75
    go_wp2
    go_loopw [17] (fun i wr => ∃ k : Nat, k ≤ m ∧ i = .int .i64 k ∧ Hid (l.take k = l'.take k) ∧ Below w.heap.size w wr) (fun i _ => m - (intOf i).toNat)
    case atStart => exact ⟨0, Nat.zero_le _, rfl, Lib.hid rfl, Below.refl _ _⟩
    case round =>
      obtain ⟨k, hkm, rfl, HTK, hbel⟩ := hrel
      by_cases hlt : k < m
      · have hk1 : k < l.length := by have := HM.out; omega
        have hk2 : k < l'.length := by have := HM'.out; omega
        have hlt' : (k : Int) < m := by omega
        obtain ⟨b1, o1, rfl, x, hE1, hI1⟩ := ChRow.at (hr.mono hbel) k hk1
        obtain ⟨b2, o2, rfl, y, hE2, hI2⟩ := ChRow.at (hr'.mono hbel) k hk2
        obtain ⟨xk, xm, xn, xa, xb, xc⟩ := x
        obtain ⟨yk, ym, yn, ya, yb, yc⟩ := y
        have c0 := hE1.kind
        have c1 := hE1.nm
        have c2 := hE1.n
        have c3 := hE1.sl
        have d0 := hE2.kind
        have d1 := hE2.nm
        have d2 := hE2.n
        have d3 := hE2.sl
        simp only at c0 c1 c2 c3 d0 d1 d2 d3
        have l1 := hE1.lt
        have l2 := hE2.lt
        have hbx := hb _ (List.getElem_mem hk1)
        have hby := hb' _ (List.getElem_mem hk2)
        have HNE := Lib.hid (take_ne k hk1 hk2)
        have HSN := Lib.hid (fun h => take_snoc k hk1 hk2 h HTK.out)
        clear hE1 hE2
        generalize l[k] = cx at *
        generalize l'[k] = cy at *
        have hbb : Below wr.heap.size wr ((wr.alloc (.cells #[.int .i64 xk, .string xm, .int .i64 xn, .slice xa xb xc] 81)).alloc (.cells #[.int .i64 yk, .string ym, .int .i64 yn, .slice ya yb yc] 81)) := ((Below.refl _ _).alloc (Nat.le_refl _) _).alloc (by simp) _
        have HCL := Lib.hid (sameChg_any ((wr.alloc (.cells #[.int .i64 xk, .string xm, .int .i64 xn, .slice xa xb xc] 81)).alloc (.cells #[.int .i64 yk, .string ym, .int .i64 yn, .slice ya yb yc] 81)) _ _ cx cy (hI1.mono hbb) (hI2.mono hbb) hbx hby)
        simp only at HCL
        clear hI1 hI2 hbx hby
        go_wp2_with fail
        refine HCL.out.mono ?_
        by_cases hxy : cx = cy
        · rw [(isB_iff _ _).2 hxy]
          rintro e w2 ⟨rfl, hb2⟩
          have HST := Lib.hid (HSN.out hxy)
          have hbw := below_step hbel (below_step hbb hb2)
          clear hxy HNE HSN HCL
          go_wp2
          go_roundw
          case rel => exact ⟨k + 1, by omega, by go_num, HST, hbw⟩
          case measure => simp [intOf]; omega
        · rw [isB_not hxy]
          rintro e w2 ⟨rfl, hb2⟩
          have HR : Hid (isB l l' = false) := Lib.hid (isB_not (HNE.out hxy))
          have hbw := below_step hbel (below_step hbb hb2)
          clear hxy HNE HSN HCL
          go_wp2
          go_ret
          exact ⟨ret_bool HR.out.symm, hbw⟩
      · obtain rfl : k = m := by omega
        have HR : Hid (isB l l' = true) := Lib.hid ((isB_iff _ _).2 (by
          have h1 : l.take k = l := List.take_of_length_le (by have := HM.out; omega)
          have h2 : l'.take k = l' := List.take_of_length_le (by have := HM'.out; omega)
          rw [← h1, ← h2]; exact HTK.out))
        have hlt' : ¬ (k : Int) < k := by omega
        go_wp2_with fail
        go_ret
        exact ⟨ret_bool HR.out.symm, hbel⟩
  · have HR : Hid (isB l l' = false) := Lib.hid (isB_not (by rintro rfl; exact hmm (HM.out.symm.trans HM'.out)))
    have h1 : ((m : Int) != m') = true := by rw [bne_iff_ne]; omega
    go_enter Try.func75, Try.ntmps75
    go_wp2_with fail
    go_ret
    exact ⟨ret_bool HR.out.symm, Below.refl _ _⟩

theorem sameChanges_any (w : World) (ao bo : Option Addr) (m c m' c' : Nat) (l l' : List ChgV) (hm : l.length = m) (hm' : l'.length = m') (h63 : m ≤ 1152921504606846976) (h63' : m' ≤ 1152921504606846976) (hr : ChRow w ao l) (hr' : ChRow w bo l') (hb : ∀ c ∈ l, Byt c.bytes) (hb' : ∀ c ∈ l', Byt c.bytes) :
    Calls Try.prog 34 #[.slice ao m c, .slice bo m' c'] w fun e w' => e = .returned (.bool (isB l l')) ∧ Below w.heap.size w w' := by
  have HQ := Lib.hid (equal_chgs w ao bo m c m' c' l l' hm hm' h63 h63' hr hr' hb hb')
  clear hm hm' hr hr' hb hb'
  go_enter Try.func34, Try.ntmps34
  go_wp2_with fail
  refine HQ.out.mono ?_
  rintro e w1 ⟨rfl, hb1⟩
  go_wp2_with fail
  go_ret
  exact ⟨rfl, hb1⟩
end Go.Proofs.Ytfmgdjgedhnmeaa
