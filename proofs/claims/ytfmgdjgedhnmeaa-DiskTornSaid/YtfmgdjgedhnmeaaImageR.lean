/- image's reader: bytes, and numbers. -/
import Derived.Test.YtfmgdjgedhnmeaaImageP
import Derived.Test.YtfmgdjgedhnmeaaCopy
import Derived.Test.YtfmgdjgedhnmeaaImageW
import Derived.Test.YtfmgdjgedhnmeaaPoolCheck
namespace Go.Proofs.Ytfmgdjgedhnmeaa
open Go.RowKit
set_option linter.unusedVariables false
set_option linter.unusedSimpArgs false

/-- bytes that lie below a block -/
def LowB (w : World) (B : Nat) (ao : Option Addr) (bs : List Int) : Prop := bs = [] ∨ ∃ b o, ao = some ⟨b, o, none⟩ ∧ b < B ∧ ∀ i (h : i < bs.length), w.cell? ⟨b, o + i, none⟩ = some (.int .u8 bs[i])
theorem LowB.row {w : World} {B : Nat} {ao : Option Addr} {bs : List Int} (h : LowB w B ao bs) : Row .u8 w ao bs := h.imp id fun ⟨b, o, e, _, h⟩ => ⟨b, o, e, h⟩
theorem LowB.mono {w w' : World} {B : Nat} {ao : Option Addr} {bs : List Int} (h : LowB w B ao bs) (hb : Below B w w') : LowB w' B ao bs := by
  rcases h with h | ⟨b, o, e, hlt, h⟩
  · exact .inl h
  · exact .inr ⟨b, o, e, hlt, fun i hi => by rw [World.cell?_of_block (w := w) (hb.block b hlt)]; exact h i hi⟩
theorem LowB.drop {w : World} {B b o : Nat} {bs : List Int} (h : LowB w B (some ⟨b, o, none⟩) bs) (k : Nat) : LowB w B (some ⟨b, o + k, none⟩) (bs.drop k) := by
  rcases h with h | ⟨b2, o2, e, hlt, h⟩
  · subst h; exact .inl (by simp)
  · simp only [Option.some.injEq, Addr.mk.injEq, and_true] at e
    obtain ⟨rfl, rfl⟩ := e
    exact .inr ⟨b, o + k, rfl, hlt, fun i hi => by
      rw [List.length_drop] at hi
      rw [Nat.add_assoc, h (k + i) (by omega), List.getElem_drop]⟩
theorem LowB.take {w : World} {B : Nat} {ao : Option Addr} {bs : List Int} (h : LowB w B ao bs) (k : Nat) : LowB w B ao (bs.take k) := by
  rcases h with h | ⟨b, o, e, hlt, h⟩
  · subst h; exact .inl (by simp)
  · exact .inr ⟨b, o, e, hlt, fun i hi => by
      rw [List.length_take] at hi
      rw [h i (by omega), List.getElem_take]⟩

/-- a reader: its box, what is left -/
def RdAt (w : World) (rb B : Nat) (bs : List Int) : Prop := ∃ ao cap, w.heap[rb]? = some (.cells #[.slice ao bs.length cap] 169 (0, 0)) ∧ LowB w B ao bs ∧ Capd ao bs.length cap ∧ (bs ≠ [] → ∃ b o, ao = some ⟨b, o, none⟩)
theorem RdAt.box {w : World} {rb B : Nat} {bs : List Int} (h : RdAt w rb B bs) : rb < w.heap.size := by obtain ⟨_, _, h, _⟩ := h; exact lt_heap h
theorem RdAt.mono {w w' : World} {rb B : Nat} {bs : List Int} (h : RdAt w rb B bs) (hb : Below w.heap.size w w') (hB : B ≤ w.heap.size) : RdAt w' rb B bs := by
  obtain ⟨ao, cap, h1, h2, h3, h4⟩ := h
  exact ⟨ao, cap, (hb.block _ (lt_heap h1)).trans h1, h2.mono (hb.mono hB), h3, h4⟩
theorem below_set1 {B rb : Nat} {v : Value} (w : World) (hB : B ≤ rb) : Below B w (w.setCell ⟨rb, 0, none⟩ v) := (Below.refl _ _).setCell hB v
theorem rd_cut {w : World} {rb B n cap : Nat} {ao ao' : Option Addr} {bs : List Int} (p0 : w.heap[rb]? = some (.cells #[.slice ao bs.length cap] 169 (0, 0))) (hrow : LowB w B ao bs) (hcd : Capd ao bs.length cap) (hsome : bs ≠ [] → ∃ b o, ao = some ⟨b, o, none⟩)
    (hB : B ≤ rb) (h1 : n ≤ bs.length) (h2 : ao' = ao.map (fun x => x.add n) ∨ (ao' = ao ∧ n = cap)) : RdAt (w.setCell ⟨rb, 0, none⟩ (.slice ao' (bs.length - n) (cap - n))) rb B (bs.drop n) := by
  have hset := heap_setCell_same' p0 0 (.slice ao' (bs.length - n) (cap - n))
  have hd : (bs.drop n).length = bs.length - n := by simp
  by_cases he : bs.drop n = []
  · refine ⟨ao', cap - n, by rw [hd]; simpa using hset, .inl he, ⟨by have := hcd.1; omega, fun e => ?_⟩, fun h => absurd he h⟩
    have : ao = none := by
      rcases h2 with h2 | ⟨h2, -⟩
      · rw [e] at h2
        cases ao with
        | none => rfl
        | some a => cases h2
      · rw [← h2]; exact e
    have := hcd.2 this
    omega
  · have hne : bs ≠ [] := fun e => he (by rw [e]; simp)
    obtain ⟨b, o, rfl⟩ := hsome hne
    have hlt : n < bs.length := by
      refine Classical.byContradiction fun h => he (List.drop_eq_nil_of_le (by omega))
    have e2 : ao' = some ⟨b, o + n, none⟩ := by
      rcases h2 with h2 | ⟨h2, h3⟩
      · rw [h2, Option.map_some, add_plain]
      · have := hcd.1; omega
    subst e2
    exact ⟨_, cap - n, by rw [hd]; simpa using hset, (hrow.drop n).mono (below_set1 w hB), ⟨by have := hcd.1; omega, fun e => by cases e⟩, fun _ => ⟨_, _, rfl⟩⟩
/-- the end of reading: torn -/
def Torn : Ending := .panicked [{ v := .iface 166 (.agg #[]), recovered := false }]
/-- what a reader's call ends with -/
def RdEnd {α : Type} (f : Rd α) (V : World → Value → α → Prop) (rb B : Nat) (bs : List Int) (w : World) (e : Ending) (w' : World) : Prop :=
  w.grownBy w' (some rb) ∧ match f bs with
    | none => e = Torn
    | some (x, r) => ∃ v, e = .returned v ∧ V w' v x ∧ RdAt w' rb B r

theorem RdEnd.torn {α : Type} {f : Rd α} {V : World → Value → α → Prop} {rb B : Nat} {bs : List Int} {w w' : World} (h : f bs = none) (hg : w.grownBy w' (some rb)) : RdEnd f V rb B bs w Torn w' := ⟨hg, by rw [h]⟩
theorem RdEnd.got {α : Type} {f : Rd α} {V : World → Value → α → Prop} {rb B : Nat} {bs r : List Int} {x : α} {v : Value} {w w' : World} (h : f bs = some (x, r)) (hg : w.grownBy w' (some rb)) (hv : V w' v x) (hr : RdAt w' rb B r) : RdEnd f V rb B bs w (.returned v) w' := ⟨hg, by rw [h]; exact ⟨v, rfl, hv, hr⟩⟩
def VInt (_ : World) (v : Value) (n : Int) : Prop := v = .int .i64 n
/-- bytes in memory of their own -/
def VBytes (K : Nat) (w : World) (v : Value) (l : List Int) : Prop := Own .u8 5 K w v l

set_option maxRecDepth 100000 in
set_option maxHeartbeats 4000000 in
theorem rbytes_any (w : World) (rb B : Nat) (bs : List Int) (n : Nat) (hR : RdAt w rb B bs) (hB : B ≤ rb) (hl : bs.length ≤ 20000) (hn : n < 65536) :
    Calls Try.prog 126 #[.pointer (some ⟨rb, 0, none⟩), .int .i64 n] w fun e w' => RdEnd (takeR n) (VBytes w.heap.size) rb B bs w e w' := by
  have hRB := hR.box
  obtain ⟨ao, cap, p0, hrow, hcd, hsome⟩ := hR
  have HL := Lib.hid hrow
  have HCD := Lib.hid hcd
  have HS := Lib.hid hsome
  have c0 := cell_of_one p0
  have f0 := free_of_block p0 0
  have hn' : (n : Int) < 65536 := by omega
  clear hrow hcd hsome
  by_cases hlt : (bs.length : Int) < n
  · have hT := Lib.hid (show takeR n bs = none by unfold takeR; rw [if_neg (by omega)])
    go_enter Try.func126, Try.ntmps126
    go_wp2
    simp only [bodyPost, Exit.panic.injEq]
    exact ⟨trivial, RdEnd.torn hT.out (grown_of_below (Below.refl _ _) _)⟩
  · have hT := Lib.hid (show takeR n bs = some (bs.take n, bs.drop n) by unfold takeR; rw [if_pos (by omega)])
    have hnc : (n : Int) ≤ (cap : Int) := by have := HCD.out.1; omega
    have hnl : (n : Int) ≤ (bs.length : Int) := by omega
    have HCL := Lib.hid (fun (W : World) (hb : LowB W B ao bs) => clone_bytes_n ao n cap (bs.take n) W (by rw [List.length_take]; omega) (hb.take n).row HCD.out.2 (by omega))
    have HCT := Lib.hid (fun (ao' : Option Addr) h => rd_cut (ao' := ao') (n := n) p0 HL.out HCD.out HS.out hB (by omega) h)
    by_cases hcn : n = cap
    · subst hcn
      have hbl : bs.length = n := by have := HCD.out.1; omega
      have HW : Hid (RdAt (w.setCell ⟨rb, 0, none⟩ (.slice ao (bs.length - n) 0)) rb B (bs.drop n)) := Lib.hid (by have := HCT.out ao (.inr ⟨rfl, rfl⟩); rwa [Nat.sub_self] at this)
      have HLW := Lib.hid (HL.out.mono (below_set1 (v := .slice ao (bs.length - n) 0) w hB))
      clear hbl hnc
      go_enter Try.func126, Try.ntmps126
      go_wp2_with fail
      refine (HCL.out _ HLW.out).mono ?_
      rintro e w2 ⟨v2, rfl, ho2, -, hb2⟩
      have HE := Lib.hid (RdEnd.got (V := VBytes w.heap.size) hT.out (grown_trans (grown_set (grown_of_below (Below.refl _ _) _) ⟨rb, 0, none⟩ rfl _) (grown_of_below hb2 _)) (by simpa [VBytes] using ho2) (HW.out.mono hb2 (by simp; omega)))
      clear ho2 hb2 HCL HCT HLW HW
      obtain ⟨va, vn, vc, rfl⟩ : ∃ a n c, v2 = .slice a n c := by
        obtain ⟨_, h⟩ := HE.out
        rw [hT.out] at h
        obtain ⟨v, e, hv, -⟩ := h
        cases e
        exact Own.shapeN hv
      go_wp2
      go_ret
      exact HE.out
    · have HW := Lib.hid (HCT.out _ (.inl rfl))
      have HLW := Lib.hid (HL.out.mono (below_set1 (v := .slice (Option.map (fun x => x.add n) ao) (bs.length - n) (cap - n)) w hB))
      go_enter Try.func126, Try.ntmps126
      go_wp2_with fail
      refine (HCL.out _ HLW.out).mono ?_
      rintro e w2 ⟨v2, rfl, ho2, -, hb2⟩
      have HE := Lib.hid (RdEnd.got (V := VBytes w.heap.size) hT.out (grown_trans (grown_set (grown_of_below (Below.refl _ _) _) ⟨rb, 0, none⟩ rfl _) (grown_of_below hb2 _)) (by simpa [VBytes] using ho2) (HW.out.mono hb2 (by simp; omega)))
      clear ho2 hb2 HCL HCT HLW HW
      obtain ⟨va, vn, vc, rfl⟩ : ∃ a n c, v2 = .slice a n c := by
        obtain ⟨_, h⟩ := HE.out
        rw [hT.out] at h
        obtain ⟨v, e, hv, -⟩ := h
        cases e
        exact Own.shapeN hv
      go_wp2
      go_ret
      exact HE.out

theorem ofInt_i64 (a : Nat) (ha : a < 18446744073709551616) : (BitVec.ofInt 64 (a : Int)).toNat = a := by
  rw [BitVec.ofInt_natCast, BitVec.toNat_ofNat]; exact Nat.mod_eq_of_lt (by omega)
theorem or_byte {x y : Int} (hx : 0 ≤ x) (hx2 : x ≤ 255) (hy : 0 ≤ y) (hy2 : y ≤ 255) : bits .or .i64 (x * 256) y = x * 256 + y := by
  obtain ⟨a, rfl⟩ : ∃ a : Nat, x = a := ⟨x.toNat, by omega⟩
  obtain ⟨b, rfl⟩ : ∃ b : Nat, y = b := ⟨y.toNat, by omega⟩
  have h1 : (2 ^ 8 * a ||| b : Nat) = 2 ^ 8 * a + b := (Nat.two_pow_add_eq_or_of_lt (by omega : b < 2 ^ 8) a).symm
  have e : ((a : Int) * 256) = ((2 ^ 8 * a : Nat) : Int) := by omega
  show IntKind.i64.wrap ((BitVec.ofInt 64 ((a : Int) * 256) ||| BitVec.ofInt 64 (b : Int)).toNat : Int) = _
  rw [e, BitVec.toNat_or, ofInt_i64 _ (by omega), ofInt_i64 _ (by omega), h1]
  rw [IntWalk.i64_in _ (by omega)]
  omega
theorem below_drewN (w : World) (n : Nat) : Below w.heap.size w (w.drewN n) := ⟨rfl, rfl, rfl, Nat.le_refl _, fun _ _ => rfl⟩

set_option maxRecDepth 100000 in
set_option maxHeartbeats 4000000 in
theorem rget_any (w : World) (rb B : Nat) (bs : List Int) (hR : RdAt w rb B bs) (hB : B ≤ rb) (hl : bs.length ≤ 20000) (hby : Byt bs) :
    Calls Try.prog 125 #[.pointer (some ⟨rb, 0, none⟩)] w fun e w' => RdEnd getR2 VInt rb B bs w e w' := by
  have HC := Lib.hid (rbytes_any w rb B bs 2 hR hB hl (by omega))
  clear hR
  match bs, hby, hl, HC with
  | [], hby, hl, HC =>
    go_enter Try.func125, Try.ntmps125
    go_wp2_with fail
    refine HC.out.mono ?_
    rintro e w2 ⟨hg, he⟩
    replace he : e = .panicked [{ v := .iface 166 (.agg #[]), recovered := false }] := he
    subst he
    go_wp2
    simp only [bodyPost, Exit.panic.injEq]
    exact ⟨trivial, RdEnd.torn rfl hg⟩
  | [x], hby, hl, HC =>
    go_enter Try.func125, Try.ntmps125
    go_wp2_with fail
    refine HC.out.mono ?_
    rintro e w2 ⟨hg, he⟩
    replace he : e = .panicked [{ v := .iface 166 (.agg #[]), recovered := false }] := he
    subst he
    go_wp2
    simp only [bodyPost, Exit.panic.injEq]
    exact ⟨trivial, RdEnd.torn rfl hg⟩
  | x :: y :: r, hby, hl, HC =>
    have hx := hby x (by simp)
    have hy := hby y (by simp)
    go_enter Try.func125, Try.ntmps125
    go_wp2_with fail
    refine HC.out.mono ?_
    rintro e w2 ⟨hg, v, rfl, hv, hR⟩
    replace hv : Own .u8 5 w.heap.size w2 v [x, y] := hv
    replace hR : RdAt w2 rb B r := hR
    obtain ⟨ao, cap, rfl, -, -, hrow, -⟩ := hv.shape'
    obtain ⟨b, o, rfl, hq⟩ := hrow.at 0 (by simp)
    have c0 := hq 0 (by simp)
    have c1 := hq 1 (by simp)
    simp at c0 c1
    have lb := World.block_lt_of_cell? _ _ c0
    have HRR := Lib.hid hR
    obtain ⟨x1, x2⟩ := hx
    obtain ⟨y1, y2⟩ := hy
    have HOR := Lib.hid (or_byte x1 x2 y1 y2)
    clear hq hrow hv hR HC hby
    go_wp2_with fail
    go_quiet (fail)
    go_wp2
    refine bodyPost_ret (results_tmp rfl _ _ _) rfl ?_
    exact RdEnd.got (x := x * 256 + y) (r := r) rfl (grown_trans hg (grown_of_below (below_drewN _ _) _)) (by rw [HOR.out]; rfl) (HRR.out.mono (below_drewN _ _) (by have := HRR.out.box; omega))
end Go.Proofs.Ytfmgdjgedhnmeaa
