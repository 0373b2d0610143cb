/- slices.Delete of one at entries and at snaps. · set.place, set.snap: a name is looked for among rising ones. -/
import Derived.Deep.RegionLaw
import Derived.Test.YtfmgdjgedhnmeaaIns
import Derived.Lib.Bytealg
import Derived.Laws.Externs
import Derived.Test.YtfmgdjgedhnmeaaSetCopy
namespace Go.Proofs.Ytfmgdjgedhnmeaa
open Go.RowKit
set_option linter.unusedVariables false

theorem splice_out {α : Type} (l sp : List α) (p i : Nat) (z : α) (hm : l.length = p + 1) (hi : i ≤ p) : splice (splice (l ++ sp) i (l.drop (i + 1))) p [z] = l.eraseIdx i ++ z :: sp := by
  unfold splice
  rw [List.eraseIdx_eq_take_drop_succ]
  have e1 : (l ++ sp).take i = l.take i := List.take_append_of_le_length (by omega)
  have e2 : (l ++ sp).drop (i + (l.drop (i + 1)).length) = l.drop p ++ sp := by
    rw [List.length_drop, hm, show i + (p + 1 - (i + 1)) = p from by omega, List.drop_append_of_le_length (by omega)]
  rw [e1, e2, show l.take i ++ (l.drop (i + 1) ++ (l.drop p ++ sp)) = (l.take i ++ l.drop (i + 1)) ++ (l.drop p ++ sp) from by simp]
  have hl : (l.take i ++ l.drop (i + 1)).length = p := by rw [List.length_append, List.length_take, List.length_drop]; omega
  generalize l.take i ++ l.drop (i + 1) = A at hl ⊢
  have e3 : (A ++ (l.drop p ++ sp)).drop (p + [z].length) = sp := by
    have h1 : (l.drop p).length = 1 := by rw [List.length_drop]; omega
    rw [List.length_singleton, ← List.append_assoc]
    exact List.drop_left' (by rw [List.length_append, hl, h1])
  rw [e3, List.take_left' hl]
  simp

/-- clear of one element -/
theorem Kind.run_clear {α : Type} {K : Kind α} {P : Program} (w : World) (t ty : TypeId) (i0 : TypeInfo) (z : Value) (ht : P.underlying t = some (.slice K.elem)) (hi : P.info? K.elem = some i0) (hz0 : i0.zero = some z) (hz : z.cells = (K.cells K.zero).toArray) (g p c tb : Nat) (L : List α) (hp : p < L.length)
    (h : w.heap[g]? = some (.cells (K.all L).toArray tb (0, 0))) :
    (Builtin.clear_ #[t] ty #[.slice (some ⟨g, p * K.k, none⟩) 1 c]).run P w = .ok (.tuple #[]) (w.setCells g (p * K.k) (K.all [K.zero])) := by
  have hb : ∀ j, j < (K.all [K.zero]).length → p * K.k + j < L.length * K.k := by
    intro j hj
    rw [K.all_len] at hj
    have h1 : (p + 1) * K.k ≤ L.length * K.k := Nat.mul_le_mul_right _ hp
    rw [Nat.add_mul] at h1
    simp only [List.length_cons, List.length_nil] at hj
    omega
  have hst := run_storeCells_cells (P := P) g (p * K.k) (K.all [K.zero]) 0 w (fun j hj => by rw [Nat.add_zero]; exact Kind.isCell h _ (hb j hj)) (fun j hj => free_of_block h _) (K.all_one [K.zero])
  have hzc : (Builtin.zeroCells z.cells 1).toList = K.all [K.zero] := by rw [Kind.zeros z hz]; rfl
  simp only [Nat.add_zero] at hst
  simp [Builtin.clear_, run_underlying ht, zeroValue, typeInfo, hi, hz0, hzc, hst]

set_option maxRecDepth 100000 in
set_option maxHeartbeats 8000000 in
theorem delete_ents (w : World) (base : Nat) (ao : Option Addr) (p c i : Nat) (l : List Ent) (hm : l.length = p + 1) (hm6 : p ≤ 1000) (hi : i ≤ p) (ho : entK.Own w base (.slice ao (p + 1) c) l) :
    Calls Try.prog 116 #[.slice ao (p + 1) c, .int .i64 i, .int .i64 ((i : Int) + 1)] w fun e w' => e = .returned (.slice ao p c) ∧ entK.Own w' base (.slice ao p c) (l.eraseIdx i) ∧ Below base w w' ∧ ∀ b, b < w.heap.size → ao ≠ some ⟨b, 0, none⟩ → w'.heap[b]? = w.heap[b]? := by
  obtain ⟨i0, z, hin, hz0, hsz, hby, hzc⟩ := zero_ents
  rcases ho with ⟨rfl, _⟩ | ⟨g, cap, sp, hsl, hgb, hcap, hh⟩
  · simp at hm
  simp only [Value.slice.injEq] at hsl
  obtain ⟨rfl, -, rfl⟩ := hsl
  rw [hm] at hcap
  have hls : (l ++ sp).length = c := by rw [List.length_append]; omega
  have hnl : (l.drop (i + 1)).length = p - i := by rw [List.length_drop]; omega
  obtain ⟨Aq, hA, hsrc⟩ : ∃ Aq : Addr, (if c = i + 1 then (some (⟨g, 0, none⟩ : Addr)) else some ⟨g, (i + 1) * 3, none⟩) = some Aq ∧ Hid (∀ t u, (entK.all (l.drop (i + 1)))[t]? = some u → w.drew.cell? (Aq.add t) = some u) := by
    by_cases hc : c = i + 1
    · refine ⟨⟨g, 0, none⟩, by simp [hc], Lib.hid fun t u hu => ?_⟩
      have h0 : l.drop (i + 1) = [] := List.eq_nil_of_length_eq_zero (by rw [hnl]; omega)
      rw [h0] at hu
      simp [Kind.all] at hu
    · refine ⟨⟨g, (i + 1) * 3, none⟩, by simp [hc], Lib.hid fun t u hu => ?_⟩
      rw [add_lit']
      refine Eq.trans (b := w.cell? ⟨g, (i + 1) * entK.k + t, none⟩) rfl ?_
      rw [cell_of_block hh, List.getElem?_toArray, entK.all_append]
      rw [← entK.all_drop, List.getElem?_drop] at hu
      rw [List.getElem?_append_left (List.getElem?_eq_some_iff.1 hu).1]
      exact hu
  have s1 : Hid ((entK.all (l.drop (i + 1))).length = (p - i) * 3) := Lib.hid (by rw [entK.all_len, hnl]; rfl)
  have s2 : Hid (∀ u ∈ entK.all (l.drop (i + 1)), u.oneCell' = true) := Lib.hid (entK.all_one _)
  have s3 : Hid (∀ t, t < (entK.all (l.drop (i + 1))).length → (w.drew.cell? ⟨g, 0 + i * 3 + t, none⟩).isSome = true ∧ w.drew.frozen? ⟨g, 0 + i * 3 + t, none⟩ = false) := Lib.hid fun t ht => by
    rw [s1.out] at ht
    refine ⟨Kind.isCell (K := entK) (w := w.drew) hh _ ?_, free_of_block (w := w.drew) hh _⟩
    show 0 + i * 3 + t < (l ++ sp).length * 3
    rw [hls]
    omega
  obtain ⟨W1, hW1⟩ : ∃ W1, W1 = w.drew.setCells g (0 + i * 3) (entK.all (l.drop (i + 1))) := ⟨_, rfl⟩
  have HW1 := Lib.hid hW1
  have g1 : W1.heap[g]? = some (.cells (entK.all (Go.splice (l ++ sp) i (l.drop (i + 1)))).toArray entK.elem (0, 0)) := by
    rw [hW1, Nat.zero_add]
    exact Kind.setCells (K := entK) (w := w.drew) hh i (l.drop (i + 1)) (by rw [hls, hnl]; omega)
  have k1 : ∀ b, b ≠ g → W1.heap[b]? = w.heap[b]? := fun b hb => by rw [hW1, setCells_other _ _ _ hb]; rfl
  have z1 : W1.heap.size = w.heap.size := by rw [hW1, setCells_size]; rfl
  have d1 : W1.os = w.os ∧ W1.tape = w.tape ∧ W1.output = w.output := by rw [hW1]; exact setCells_rest w.drew g _ _
  have hL1 : (Go.splice (l ++ sp) i (l.drop (i + 1))).length = c := by rw [length_splice _ _ _ (by rw [hls, hnl]; omega)]; exact hls
  have hcl := fun ty => Kind.run_clear (K := entK) (P := Try.prog) W1 25 ty i0 z Try.underlying25 hin hz0 hzc g p (c - p) entK.elem _ (by rw [hL1]; omega) g1
  obtain ⟨W2, hW2⟩ : ∃ W2, W2 = W1.setCells g (p * entK.k) (entK.all [entK.zero]) := ⟨_, rfl⟩
  have g2 : W2.heap[g]? = some (.cells (entK.all (l.eraseIdx i ++ entK.zero :: sp)).toArray entK.elem (0, 0)) := by
    rw [← splice_out l sp p i entK.zero hm hi, hW2]
    exact Kind.setCells (K := entK) g1 p [entK.zero] (by rw [hL1]; show p + 1 ≤ c; omega)
  have k2 : ∀ b, b ≠ g → W2.heap[b]? = w.heap[b]? := fun b hb => by rw [hW2, setCells_other _ _ _ hb]; exact k1 b hb
  have z2 : W2.heap.size = w.heap.size := by rw [hW2, setCells_size]; exact z1
  have d2 : W2.os = w.os ∧ W2.tape = w.tape ∧ W2.output = w.output := by rw [hW2]; obtain ⟨a, b, c⟩ := setCells_rest W1 g (entK.all [entK.zero]) (p * entK.k); rw [a, b, c]; exact d1
  rw [← hW2] at hcl
  have hel : (l.eraseIdx i).length = p := by rw [List.length_eraseIdx, if_pos (by omega)]; omega
  have hFIN : Hid (entK.Own W2 base (.slice (some ⟨g, 0, none⟩) p c) (l.eraseIdx i) ∧ Below base w W2 ∧ ∀ b, b < w.heap.size → (some ⟨g, 0, none⟩ : Option Addr) ≠ some ⟨b, 0, none⟩ → W2.heap[b]? = w.heap[b]?) :=
    Lib.hid ⟨.inr ⟨g, c, entK.zero :: sp, by rw [hel], hgb, by rw [hel, List.length_cons]; omega, g2⟩, ⟨d2.1, d2.2.1, d2.2.2, by omega, fun b hb => k2 b (by omega)⟩, fun b _ hb => k2 b (fun e => hb (by rw [e]))⟩
  have HCL : ∀ ty, (Builtin.clear_ #[25] ty #[.slice (some ⟨g, p * 3, none⟩) 1 (c - p)]).run Try.prog W1 = .ok (.tuple #[]) W2 := hcl
  have hwr : IntKind.i64.wrap ((i : Int) + 1) = (i : Int) + 1 := by rw [IntKind.wrap_i64]; omega
  have q0 : ((i : Int) == (i : Int) + 1) = false := by rw [beq_eq_false_iff_ne]; omega
  have q1 : ((i : Int) + 1).toNat = i + 1 := by omega
  have q2 : (0 : Int) ≤ (i : Int) + 1 := by omega
  have q3 : (i : Int) + 1 ≤ (p : Int) + 1 := by omega
  have q4 : (p : Int) + 1 ≤ c := by omega
  have q5 : i ≤ c := by omega
  have q6 : i + (p - i) = p := by omega
  have q7 : i + (p + 1 - (i + 1)) = p := by omega
  have q8 : ¬ (c = p) := by omega
  have q9 : (i : Int) ≤ (i : Int) + 1 := by omega
  have q10 : (i : Int) ≤ c := by omega
  have q11 : (i : Int) + 1 ≤ c := by omega
  have q12 : (p : Int) ≤ (p : Int) + 1 := by omega
  have q13 : p + 1 - p = 1 := by omega
  have q14 : p + 1 - (i + 1) = p - i := by omega
  have q15 : i ≤ p + 1 := by omega
  have hroom : i + (p - i) ≤ c := by omega
  have HSZ := Lib.hid hsz
  clear g1 g2 k1 k2 z1 z2 d1 d2 hL1 hcl hW1 hW2 hel hh hcap hls hnl hm hzc hby hz0 hsz
  go_enter Try.func116, Try.ntmps116
  go_wp2_with fail
  go_region_law (refine step_append_room rfl (.tmp 22) (.tmp 25) 25 rfl 37 i0 3 Try.underlying25 hin HSZ.out g 0 i c (by simp [Act.eval, Act.put]) Aq (p - i) (c - (i + 1)) (entK.all (l.drop (i + 1))) (by simp [Act.eval, Act.put]) s1.out hsrc.out s2.out hroom s3.out ?_; rw [← HW1.out])
  go_wp2
  go_ret
  exact ⟨rfl, hFIN.out⟩

set_option maxRecDepth 100000 in
set_option maxHeartbeats 8000000 in
theorem delete_snvs (w : World) (base : Nat) (ao : Option Addr) (p c i : Nat) (l : List Snv) (hm : l.length = p + 1) (hm6 : p ≤ 1000) (hi : i ≤ p) (ho : snvK.Own w base (.slice ao (p + 1) c) l) :
    Calls Try.prog 119 #[.slice ao (p + 1) c, .int .i64 i, .int .i64 ((i : Int) + 1)] w fun e w' => e = .returned (.slice ao p c) ∧ snvK.Own w' base (.slice ao p c) (l.eraseIdx i) ∧ Below base w w' ∧ ∀ b, b < w.heap.size → ao ≠ some ⟨b, 0, none⟩ → w'.heap[b]? = w.heap[b]? := by
  obtain ⟨i0, z, hin, hz0, hsz, hby, hzc⟩ := zero_snvs
  rcases ho with ⟨rfl, _⟩ | ⟨g, cap, sp, hsl, hgb, hcap, hh⟩
  · simp at hm
  simp only [Value.slice.injEq] at hsl
  obtain ⟨rfl, -, rfl⟩ := hsl
  rw [hm] at hcap
  have hls : (l ++ sp).length = c := by rw [List.length_append]; omega
  have hnl : (l.drop (i + 1)).length = p - i := by rw [List.length_drop]; omega
  obtain ⟨Aq, hA, hsrc⟩ : ∃ Aq : Addr, (if c = i + 1 then (some (⟨g, 0, none⟩ : Addr)) else some ⟨g, (i + 1) * 2, none⟩) = some Aq ∧ Hid (∀ t u, (snvK.all (l.drop (i + 1)))[t]? = some u → w.drew.cell? (Aq.add t) = some u) := by
    by_cases hc : c = i + 1
    · refine ⟨⟨g, 0, none⟩, by simp [hc], Lib.hid fun t u hu => ?_⟩
      have h0 : l.drop (i + 1) = [] := List.eq_nil_of_length_eq_zero (by rw [hnl]; omega)
      rw [h0] at hu
      simp [Kind.all] at hu
    · refine ⟨⟨g, (i + 1) * 2, none⟩, by simp [hc], Lib.hid fun t u hu => ?_⟩
      rw [add_lit']
      refine Eq.trans (b := w.cell? ⟨g, (i + 1) * snvK.k + t, none⟩) rfl ?_
      rw [cell_of_block hh, List.getElem?_toArray, snvK.all_append]
      rw [← snvK.all_drop, List.getElem?_drop] at hu
      rw [List.getElem?_append_left (List.getElem?_eq_some_iff.1 hu).1]
      exact hu
  have s1 : Hid ((snvK.all (l.drop (i + 1))).length = (p - i) * 2) := Lib.hid (by rw [snvK.all_len, hnl]; rfl)
  have s2 : Hid (∀ u ∈ snvK.all (l.drop (i + 1)), u.oneCell' = true) := Lib.hid (snvK.all_one _)
  have s3 : Hid (∀ t, t < (snvK.all (l.drop (i + 1))).length → (w.drew.cell? ⟨g, 0 + i * 2 + t, none⟩).isSome = true ∧ w.drew.frozen? ⟨g, 0 + i * 2 + t, none⟩ = false) := Lib.hid fun t ht => by
    rw [s1.out] at ht
    refine ⟨Kind.isCell (K := snvK) (w := w.drew) hh _ ?_, free_of_block (w := w.drew) hh _⟩
    show 0 + i * 2 + t < (l ++ sp).length * 2
    rw [hls]
    omega
  obtain ⟨W1, hW1⟩ : ∃ W1, W1 = w.drew.setCells g (0 + i * 2) (snvK.all (l.drop (i + 1))) := ⟨_, rfl⟩
  have HW1 := Lib.hid hW1
  have g1 : W1.heap[g]? = some (.cells (snvK.all (Go.splice (l ++ sp) i (l.drop (i + 1)))).toArray snvK.elem (0, 0)) := by
    rw [hW1, Nat.zero_add]
    exact Kind.setCells (K := snvK) (w := w.drew) hh i (l.drop (i + 1)) (by rw [hls, hnl]; omega)
  have k1 : ∀ b, b ≠ g → W1.heap[b]? = w.heap[b]? := fun b hb => by rw [hW1, setCells_other _ _ _ hb]; rfl
  have z1 : W1.heap.size = w.heap.size := by rw [hW1, setCells_size]; rfl
  have d1 : W1.os = w.os ∧ W1.tape = w.tape ∧ W1.output = w.output := by rw [hW1]; exact setCells_rest w.drew g _ _
  have hL1 : (Go.splice (l ++ sp) i (l.drop (i + 1))).length = c := by rw [length_splice _ _ _ (by rw [hls, hnl]; omega)]; exact hls
  have hcl := fun ty => Kind.run_clear (K := snvK) (P := Try.prog) W1 26 ty i0 z Try.underlying26 hin hz0 hzc g p (c - p) snvK.elem _ (by rw [hL1]; omega) g1
  obtain ⟨W2, hW2⟩ : ∃ W2, W2 = W1.setCells g (p * snvK.k) (snvK.all [snvK.zero]) := ⟨_, rfl⟩
  have g2 : W2.heap[g]? = some (.cells (snvK.all (l.eraseIdx i ++ snvK.zero :: sp)).toArray snvK.elem (0, 0)) := by
    rw [← splice_out l sp p i snvK.zero hm hi, hW2]
    exact Kind.setCells (K := snvK) g1 p [snvK.zero] (by rw [hL1]; show p + 1 ≤ c; omega)
  have k2 : ∀ b, b ≠ g → W2.heap[b]? = w.heap[b]? := fun b hb => by rw [hW2, setCells_other _ _ _ hb]; exact k1 b hb
  have z2 : W2.heap.size = w.heap.size := by rw [hW2, setCells_size]; exact z1
  have d2 : W2.os = w.os ∧ W2.tape = w.tape ∧ W2.output = w.output := by rw [hW2]; obtain ⟨a, b, c⟩ := setCells_rest W1 g (snvK.all [snvK.zero]) (p * snvK.k); rw [a, b, c]; exact d1
  rw [← hW2] at hcl
  have hel : (l.eraseIdx i).length = p := by rw [List.length_eraseIdx, if_pos (by omega)]; omega
  have hFIN : Hid (snvK.Own W2 base (.slice (some ⟨g, 0, none⟩) p c) (l.eraseIdx i) ∧ Below base w W2 ∧ ∀ b, b < w.heap.size → (some ⟨g, 0, none⟩ : Option Addr) ≠ some ⟨b, 0, none⟩ → W2.heap[b]? = w.heap[b]?) :=
    Lib.hid ⟨.inr ⟨g, c, snvK.zero :: sp, by rw [hel], hgb, by rw [hel, List.length_cons]; omega, g2⟩, ⟨d2.1, d2.2.1, d2.2.2, by omega, fun b hb => k2 b (by omega)⟩, fun b _ hb => k2 b (fun e => hb (by rw [e]))⟩
  have HCL : ∀ ty, (Builtin.clear_ #[26] ty #[.slice (some ⟨g, p * 2, none⟩) 1 (c - p)]).run Try.prog W1 = .ok (.tuple #[]) W2 := hcl
  have hwr : IntKind.i64.wrap ((i : Int) + 1) = (i : Int) + 1 := by rw [IntKind.wrap_i64]; omega
  have q0 : ((i : Int) == (i : Int) + 1) = false := by rw [beq_eq_false_iff_ne]; omega
  have q1 : ((i : Int) + 1).toNat = i + 1 := by omega
  have q2 : (0 : Int) ≤ (i : Int) + 1 := by omega
  have q3 : (i : Int) + 1 ≤ (p : Int) + 1 := by omega
  have q4 : (p : Int) + 1 ≤ c := by omega
  have q5 : i ≤ c := by omega
  have q6 : i + (p - i) = p := by omega
  have q7 : i + (p + 1 - (i + 1)) = p := by omega
  have q8 : ¬ (c = p) := by omega
  have q9 : (i : Int) ≤ (i : Int) + 1 := by omega
  have q10 : (i : Int) ≤ c := by omega
  have q11 : (i : Int) + 1 ≤ c := by omega
  have q12 : (p : Int) ≤ (p : Int) + 1 := by omega
  have q13 : p + 1 - p = 1 := by omega
  have q14 : p + 1 - (i + 1) = p - i := by omega
  have q15 : i ≤ p + 1 := by omega
  have hroom : i + (p - i) ≤ c := by omega
  have HSZ := Lib.hid hsz
  clear g1 g2 k1 k2 z1 z2 d1 d2 hL1 hcl hW1 hW2 hel hh hcap hls hnl hm hzc hby hz0 hsz
  go_enter Try.func119, Try.ntmps119
  go_wp2_with fail
  go_region_law (refine step_append_room rfl (.tmp 22) (.tmp 25) 26 rfl 105 i0 2 Try.underlying26 hin HSZ.out g 0 i c (by simp [Act.eval, Act.put]) Aq (p - i) (c - (i + 1)) (snvK.all (l.drop (i + 1))) (by simp [Act.eval, Act.put]) s1.out hsrc.out s2.out hroom s3.out ?_; rw [← HW1.out])
  go_wp2
  go_ret
  exact ⟨rfl, hFIN.out⟩
end Go.Proofs.Ytfmgdjgedhnmeaa

namespace Go.Proofs.Ytfmgdjgedhnmeaa
open Go.RowKit
set_option linter.unusedVariables false

theorem cb_less : ∀ (x y : List UInt8), (Lib.compareBytes x y < 0 ↔ Op.bytesLess x y = true) ∧ (Lib.compareBytes x y = 0 ↔ x = y)
  | [], [] => by simp [Lib.compareBytes, Op.bytesLess]
  | [], _ :: _ => by simp [Lib.compareBytes, Op.bytesLess]
  | _ :: _, [] => by simp [Lib.compareBytes, Op.bytesLess]
  | a :: x, b :: y => by
    obtain ⟨h1, h2⟩ := cb_less x y
    unfold Lib.compareBytes Op.bytesLess
    by_cases c1 : a < b
    · rw [if_pos c1]
      refine ⟨by simp [c1], ?_⟩
      constructor
      · intro h; omega
      · intro h; simp only [List.cons.injEq] at h; rw [h.1] at c1; exact absurd c1 (UInt8.lt_irrefl _)
    · rw [if_neg c1]
      by_cases c2 : b < a
      · rw [if_pos c2]
        have hne : a ≠ b := by rintro rfl; exact UInt8.lt_irrefl _ c2
        refine ⟨by simp [c1, hne], ?_⟩
        constructor
        · intro h; omega
        · intro h; simp only [List.cons.injEq] at h; exact absurd h.1 hne
      · rw [if_neg c2]
        have he : a = b := UInt8.le_antisymm (UInt8.not_lt.1 c2) (UInt8.not_lt.1 c1)
        subst he
        refine ⟨by rw [h1]; simp [c1], by rw [h2]; simp⟩

/-- how names stand to each other -/
def cmpN (a b : ByteArray) : Int := Lib.compareBytes a.data.toList b.data.toList
theorem cmpN_neg (a b : ByteArray) : cmpN a b < 0 ↔ ltN a b := by
  unfold cmpN ltN
  rw [ByteArray.toList_eq, ByteArray.toList_eq]
  exact (cb_less _ _).1
theorem cmpN_zero (a b : ByteArray) : cmpN a b = 0 ↔ a.toList = b.toList := by
  unfold cmpN
  rw [ByteArray.toList_eq, ByteArray.toList_eq]
  exact (cb_less _ _).2

set_option maxRecDepth 100000 in
theorem compareS_any (w : World) (a b : ByteArray) : Calls Try.prog 104 #[.string a, .string b] w fun e w' => e = .returned (.int .i64 (cmpN a b)) ∧ w' = w := by
  go_enter Try.func104, Try.ntmps104
  go_wp2
  rw [run_callFunc_extern Try.func133 (by kernel_rfl) (by kernel_rfl) (by kernel_rfl) (e := Extern.BytealgCompare.compare) (by kernel_rfl), Lib.run_compareString]
  simp only [Result.andThen]
  rw [Oper.upon_value]
  go_wp2
  go_ret
  exact ⟨rfl, rfl⟩

theorem compare_any (w : World) (a b : ByteArray) : Calls Try.prog 65 #[.string a, .string b] w fun e w' => e = .returned (.int .i64 (cmpN a b)) ∧ w' = w := by
  go_enter Try.func65, Try.ntmps65
  go_wp2_with (go_at_call 104; refine (compareS_any _ _ _).mono ?_; rintro e w' ⟨rfl, rfl⟩)
  go_ret
  exact ⟨rfl, rfl⟩

/-- what the search knows -/
theorem search_end {l : List ByteArray} {s : ByteArray} (hr : Rising l) (k : Nat) (hk : k ≤ l.length) (h1 : ∀ i (h : i < l.length), i < k → cmpN l[i] s < 0) (h2 : ∀ i (h : i < l.length), k ≤ i → 0 ≤ cmpN l[i] s) :
    placeN l s = k ∧ (∀ h : k < l.length, placeB l s = decide (cmpN l[k] s = 0)) ∧ (¬ k < l.length → placeB l s = false) := by
  have hp : placeN l s = k := placeN_is hr k hk (fun i h hi => (cmpN_neg _ _).1 (h1 i h hi)) (fun i h hi hl => by have := h2 i h hi; have := (cmpN_neg _ _).2 hl; omega)
  refine ⟨hp, fun h => ?_, fun h => ?_⟩
  · unfold placeB
    rw [hp, List.getElem?_eq_getElem h]
    rw [Bool.eq_iff_iff, decide_eq_true_eq, cmpN_zero]
    simp
  · unfold placeB
    rw [hp, List.getElem?_eq_none (by omega)]
/-- those ahead of one that is ahead -/
theorem search_low {l : List ByteArray} {s : ByteArray} (hr : Rising l) (m : Nat) (hm : m < l.length) (h : cmpN l[m] s < 0) : ∀ i (hi : i < l.length), i < m + 1 → cmpN l[i] s < 0 := by
  intro i hi him
  rcases Nat.lt_or_ge i m with h1 | h1
  · have := List.pairwise_iff_getElem.1 hr i m hi hm h1
    rw [cmpN_neg] at h ⊢
    exact ltN_trans this h
  · obtain rfl : i = m := by omega
    exact h
theorem search_high {l : List ByteArray} {s : ByteArray} (hr : Rising l) (m : Nat) (hm : m < l.length) (h : ¬ cmpN l[m] s < 0) : ∀ i (hi : i < l.length), m ≤ i → 0 ≤ cmpN l[i] s := by
  intro i hi him
  rcases Int.lt_or_le (cmpN l[i] s) 0 with hc | hc
  rotate_left
  · exact hc
  exfalso
  rcases Nat.lt_or_ge m i with h1 | h1
  · have := List.pairwise_iff_getElem.1 hr m i hm hi h1
    rw [cmpN_neg] at h hc
    exact h (ltN_trans this hc)
  · obtain rfl : i = m := by omega
    exact h hc

theorem cmp_ents (w : World) (x : Ent) (s : ByteArray) : Calls Try.prog 134 #[.agg #[.string x.nm, .int .i64 x.root, .int .i64 x.size], .string s] w fun e w' => e = .returned (.int .i64 (cmpN x.nm s)) ∧ Below w.heap.size w w' := by
  have hb0 : Below w.heap.size w (w.alloc (.cells #[.string x.nm, .int .i64 x.root, .int .i64 x.size] 37)) := (Below.refl _ _).alloc (Nat.le_refl _) _
  go_enter Try.func134, Try.ntmps134
  go_wp2_with (go_at_call 65; refine (compare_any _ _ _).mono ?_; rintro e w' ⟨rfl, rfl⟩)
  go_ret
  exact ⟨rfl, hb0⟩

set_option maxRecDepth 100000 in
set_option maxHeartbeats 4000000 in
theorem search_ents (w : World) (ao : Option Addr) (m c : Nat) (l : List Ent) (s : ByteArray) (hm : l.length = m) (hm6 : m ≤ 1000) (he : entK.Row w ao l) (hr : Rising (l.map Ent.nm)) :
    Calls Try.prog 63 #[.slice ao m c, .string s, .func (.func 134) #[] #[]] w fun e w' => e = .returned (.tuple #[.int .i64 (placeN (l.map Ent.nm) s), .bool (placeB (l.map Ent.nm) s)]) ∧ Below w.heap.size w w' := by
  have HM := Lib.hid hm
  have HR := Lib.hid hr
  have hm6' : (m : Int) ≤ 1000 := by omega
  obtain ⟨PN, hPN⟩ : ∃ PN, placeN (l.map Ent.nm) s = PN := ⟨_, rfl⟩
  obtain ⟨PB, hPB⟩ : ∃ PB, placeB (l.map Ent.nm) s = PB := ⟨_, rfl⟩
  rw [hPN, hPB]
  have HPN := Lib.hid hPN
  have HPB := Lib.hid hPB
  clear hm hr hPN hPB
  go_enter Try.func63, Try.ntmps63
  go_wp2
  go_loopw [9, 10] (fun i j wr => ∃ lo hi : Nat, i = .int .i64 lo ∧ j = .int .i64 hi ∧ lo ≤ hi ∧ hi ≤ m ∧ Below w.heap.size w wr ∧
    Hid (∀ t (h : t < (l.map Ent.nm).length), t < lo → cmpN (l.map Ent.nm)[t] s < 0) ∧ Hid (∀ t (h : t < (l.map Ent.nm).length), hi ≤ t → 0 ≤ cmpN (l.map Ent.nm)[t] s)) (fun i j _ => (intOf j).toNat - (intOf i).toNat)
  case atStart => exact ⟨0, m, rfl, rfl, Nat.zero_le _, Nat.le_refl _, Below.refl _ _, Lib.hid fun t _ h => absurd h (by omega), Lib.hid fun t h h2 => absurd h (by rw [List.length_map]; have := HM.out; omega)⟩
  case round =>
    obtain ⟨lo, hi, rfl, rfl, hlh, hin, hbel, I1, I2⟩ := hrel
    by_cases hlt : lo < hi
    · obtain ⟨q, hq⟩ : ∃ q, (lo + hi) / 2 = q := ⟨_, rfl⟩
      have hqm : q < l.length := by have := HM.out; omega
      have hqm' : q < (l.map Ent.nm).length := by rw [List.length_map]; exact hqm
      obtain ⟨b, o, rfl, lb0, hc⟩ := Kind.Row.at (he.mono hbel) (by omega)
      have hE := ent_cells hc q hqm
      have lb := hE.lt
      have c0 := hE.nm
      have c1 := hE.root
      have c2 := hE.size
      have hlow := Lib.hid (search_low (s := s) HR.out q hqm')
      have hhigh := Lib.hid (search_high (s := s) HR.out q hqm')
      have hnm : (l.map Ent.nm)[q] = l[q].nm := List.getElem_map _
      rw [hnm] at hlow hhigh
      have hq1 : ((lo : Int) + hi) / 2 = (q : Int) := by omega
      have hlt' : (lo : Int) < hi := by omega
      have hqm2 : (q : Int) < m := by have := HM.out; omega
      have HQ := Lib.hid hq
      have hq2 : lo ≤ q ∧ q < hi := by omega
      have HQ2 := Lib.hid hq2
      clear hE hc hq hnm hq2
      generalize l[q] = x at *
      obtain ⟨nm, root, size⟩ := x
      simp only at c0 c1 c2 hlow hhigh
      have hcc := cmp_ents wr ⟨nm, root, size⟩ s
      simp only at hcc
      by_cases hx : cmpN nm s < 0
      · have I3 := Lib.hid (hlow.out hx)
        clear hlow hhigh
        generalize cmpN nm s = cc at *
        go_wp2_with fail
        refine hcc.mono ?_
        rintro e w' ⟨rfl, hb1⟩
        have hb2 := below_step hbel hb1
        clear hcc hb1
        go_wp2
        go_roundw
        case rel => exact ⟨q + 1, hi, by go_num, rfl, by have := HQ2.out; omega, hin, hb2, I3, I2⟩
        case measure => simp [intOf]; have := HQ2.out; omega
      · have I3 := Lib.hid (hhigh.out hx)
        clear hlow hhigh
        generalize cmpN nm s = cc at *
        go_wp2_with fail
        refine hcc.mono ?_
        rintro e w' ⟨rfl, hb1⟩
        have hb2 := below_step hbel hb1
        clear hcc hb1
        go_wp2
        go_roundw
        case rel => exact ⟨lo, q, rfl, by go_num, by have := HQ2.out; omega, by have := HQ2.out; omega, hb2, I1, I3⟩
        case measure => simp [intOf]; have := HQ2.out; omega
    · obtain rfl : lo = hi := by omega
      have hlt' : ¬ (lo : Int) < lo := by omega
      obtain ⟨e1, e2, e3⟩ := search_end HR.out lo (by rw [List.length_map]; have := HM.out; omega) I1.out I2.out
      by_cases hn : lo < m
      · have hql : lo < l.length := by have := HM.out; omega
        have e4 := e2 (by rw [List.length_map]; exact hql)
        rw [List.getElem_map] at e4
        have hn' : (lo : Int) < m := by omega
        have hd : decide ((lo : Int) < m) = true := decide_eq_true hn'
        have hd2 : decide (lo < m) = true := decide_eq_true hn
        obtain ⟨b, o, rfl, lb0, hc⟩ := Kind.Row.at (he.mono hbel) (by omega)
        have hE := ent_cells hc lo hql
        have lb := hE.lt
        have c0 := hE.nm
        have c1 := hE.root
        have c2 := hE.size
        have F1 : Hid (PN = lo) := Lib.hid (HPN.out.symm.trans e1)
        have F2 : Hid (PB = decide (cmpN l[lo].nm s = 0)) := Lib.hid (HPB.out.symm.trans e4)
        clear hE hc e1 e2 e3 e4
        generalize l[lo] = x at *
        obtain ⟨nm, root, size⟩ := x
        simp only at c0 c1 c2 F2
        have hcc := cmp_ents wr ⟨nm, root, size⟩ s
        simp only at hcc
        generalize cmpN nm s = cc at *
        by_cases hz : cc = 0
        all_goals
          go_wp2_with fail
          refine hcc.mono ?_
          rintro e w' ⟨rfl, hb1⟩
          have hb2 := below_step hbel hb1
          clear hcc hb1
          go_wp2
          refine bodyPost_ret (v := .tuple #[.int .i64 lo, .bool (decide (cc = 0))]) (by simp [results, Try.results63, go_sem, hz]) rfl ?_
          rw [F1.out, F2.out]
          exact ⟨rfl, hb2⟩
      · have F1 : Hid (PN = lo) := Lib.hid (HPN.out.symm.trans e1)
        have F2 : Hid (PB = false) := Lib.hid (HPB.out.symm.trans (e3 (by rw [List.length_map]; have := HM.out; omega)))
        have hn' : ¬ (lo : Int) < m := by omega
        have hd : decide ((lo : Int) < m) = false := decide_eq_false hn'
        have hd2 : decide (lo < m) = false := decide_eq_false hn
        clear e1 e2 e3
        go_wp2
        refine bodyPost_ret (v := .tuple #[.int .i64 lo, .bool false]) (by simp [results, Try.results63, go_sem]) rfl ?_
        rw [F1.out, F2.out]
        exact ⟨rfl, hbel⟩

theorem cmp_snvs (w : World) (x : Snv) (s : ByteArray) : Calls Try.prog 121 #[.agg #[.string x.nm, .slice x.ao x.n x.cap], .string s] w fun e w' => e = .returned (.int .i64 (cmpN x.nm s)) ∧ Below w.heap.size w w' := by
  have hb0 : Below w.heap.size w (w.alloc (.cells #[.string x.nm, .slice x.ao x.n x.cap] 105)) := (Below.refl _ _).alloc (Nat.le_refl _) _
  go_enter Try.func121, Try.ntmps121
  go_wp2_with (go_at_call 65; refine (compare_any _ _ _).mono ?_; rintro e w' ⟨rfl, rfl⟩)
  go_ret
  exact ⟨rfl, hb0⟩

set_option maxRecDepth 100000 in
set_option maxHeartbeats 4000000 in
theorem search_snvs (w : World) (ao : Option Addr) (m c : Nat) (l : List Snv) (s : ByteArray) (hm : l.length = m) (hm6 : m ≤ 1000) (he : snvK.Row w ao l) (hr : Rising (l.map Snv.nm)) :
    Calls Try.prog 120 #[.slice ao m c, .string s, .func (.func 121) #[] #[]] w fun e w' => e = .returned (.tuple #[.int .i64 (placeN (l.map Snv.nm) s), .bool (placeB (l.map Snv.nm) s)]) ∧ Below w.heap.size w w' := by
  have HM := Lib.hid hm
  have HR := Lib.hid hr
  have hm6' : (m : Int) ≤ 1000 := by omega
  obtain ⟨PN, hPN⟩ : ∃ PN, placeN (l.map Snv.nm) s = PN := ⟨_, rfl⟩
  obtain ⟨PB, hPB⟩ : ∃ PB, placeB (l.map Snv.nm) s = PB := ⟨_, rfl⟩
  rw [hPN, hPB]
  have HPN := Lib.hid hPN
  have HPB := Lib.hid hPB
  clear hm hr hPN hPB
  go_enter Try.func120, Try.ntmps120
  go_wp2
  go_loopw [9, 10] (fun i j wr => ∃ lo hi : Nat, i = .int .i64 lo ∧ j = .int .i64 hi ∧ lo ≤ hi ∧ hi ≤ m ∧ Below w.heap.size w wr ∧
    Hid (∀ t (h : t < (l.map Snv.nm).length), t < lo → cmpN (l.map Snv.nm)[t] s < 0) ∧ Hid (∀ t (h : t < (l.map Snv.nm).length), hi ≤ t → 0 ≤ cmpN (l.map Snv.nm)[t] s)) (fun i j _ => (intOf j).toNat - (intOf i).toNat)
  case atStart => exact ⟨0, m, rfl, rfl, Nat.zero_le _, Nat.le_refl _, Below.refl _ _, Lib.hid fun t _ h => absurd h (by omega), Lib.hid fun t h h2 => absurd h (by rw [List.length_map]; have := HM.out; omega)⟩
  case round =>
    obtain ⟨lo, hi, rfl, rfl, hlh, hin, hbel, I1, I2⟩ := hrel
    by_cases hlt : lo < hi
    · obtain ⟨q, hq⟩ : ∃ q, (lo + hi) / 2 = q := ⟨_, rfl⟩
      have hqm : q < l.length := by have := HM.out; omega
      have hqm' : q < (l.map Snv.nm).length := by rw [List.length_map]; exact hqm
      obtain ⟨b, o, rfl, lb0, hc⟩ := Kind.Row.at (he.mono hbel) (by omega)
      have hE := snv_cells hc q hqm
      have lb := hE.lt
      have c0 := hE.nm
      have c1 := hE.sl
      have hlow := Lib.hid (search_low (s := s) HR.out q hqm')
      have hhigh := Lib.hid (search_high (s := s) HR.out q hqm')
      have hnm : (l.map Snv.nm)[q] = l[q].nm := List.getElem_map _
      rw [hnm] at hlow hhigh
      have hq1 : ((lo : Int) + hi) / 2 = (q : Int) := by omega
      have hlt' : (lo : Int) < hi := by omega
      have hqm2 : (q : Int) < m := by have := HM.out; omega
      have HQ := Lib.hid hq
      have hq2 : lo ≤ q ∧ q < hi := by omega
      have HQ2 := Lib.hid hq2
      clear hE hc hq hnm hq2
      generalize l[q] = x at *
      obtain ⟨nm, uo, un, uc⟩ := x
      simp only at c0 c1 hlow hhigh
      have hcc := cmp_snvs wr ⟨nm, uo, un, uc⟩ s
      simp only at hcc
      by_cases hx : cmpN nm s < 0
      · have I3 := Lib.hid (hlow.out hx)
        clear hlow hhigh
        generalize cmpN nm s = cc at *
        go_wp2_with fail
        refine hcc.mono ?_
        rintro e w' ⟨rfl, hb1⟩
        have hb2 := below_step hbel hb1
        clear hcc hb1
        go_wp2
        go_roundw
        case rel => exact ⟨q + 1, hi, by go_num, rfl, by have := HQ2.out; omega, hin, hb2, I3, I2⟩
        case measure => simp [intOf]; have := HQ2.out; omega
      · have I3 := Lib.hid (hhigh.out hx)
        clear hlow hhigh
        generalize cmpN nm s = cc at *
        go_wp2_with fail
        refine hcc.mono ?_
        rintro e w' ⟨rfl, hb1⟩
        have hb2 := below_step hbel hb1
        clear hcc hb1
        go_wp2
        go_roundw
        case rel => exact ⟨lo, q, rfl, by go_num, by have := HQ2.out; omega, by have := HQ2.out; omega, hb2, I1, I3⟩
        case measure => simp [intOf]; have := HQ2.out; omega
    · obtain rfl : lo = hi := by omega
      have hlt' : ¬ (lo : Int) < lo := by omega
      obtain ⟨e1, e2, e3⟩ := search_end HR.out lo (by rw [List.length_map]; have := HM.out; omega) I1.out I2.out
      by_cases hn : lo < m
      · have hql : lo < l.length := by have := HM.out; omega
        have e4 := e2 (by rw [List.length_map]; exact hql)
        rw [List.getElem_map] at e4
        have hn' : (lo : Int) < m := by omega
        have hd : decide ((lo : Int) < m) = true := decide_eq_true hn'
        have hd2 : decide (lo < m) = true := decide_eq_true hn
        obtain ⟨b, o, rfl, lb0, hc⟩ := Kind.Row.at (he.mono hbel) (by omega)
        have hE := snv_cells hc lo hql
        have lb := hE.lt
        have c0 := hE.nm
        have c1 := hE.sl
        have F1 : Hid (PN = lo) := Lib.hid (HPN.out.symm.trans e1)
        have F2 : Hid (PB = decide (cmpN l[lo].nm s = 0)) := Lib.hid (HPB.out.symm.trans e4)
        clear hE hc e1 e2 e3 e4
        generalize l[lo] = x at *
        obtain ⟨nm, uo, un, uc⟩ := x
        simp only at c0 c1 F2
        have hcc := cmp_snvs wr ⟨nm, uo, un, uc⟩ s
        simp only at hcc
        generalize cmpN nm s = cc at *
        by_cases hz : cc = 0
        all_goals
          go_wp2_with fail
          refine hcc.mono ?_
          rintro e w' ⟨rfl, hb1⟩
          have hb2 := below_step hbel hb1
          clear hcc hb1
          go_wp2
          refine bodyPost_ret (v := .tuple #[.int .i64 lo, .bool (decide (cc = 0))]) (by simp [results, Try.results120, go_sem, hz]) rfl ?_
          rw [F1.out, F2.out]
          exact ⟨rfl, hb2⟩
      · have F1 : Hid (PN = lo) := Lib.hid (HPN.out.symm.trans e1)
        have F2 : Hid (PB = false) := Lib.hid (HPB.out.symm.trans (e3 (by rw [List.length_map]; have := HM.out; omega)))
        have hn' : ¬ (lo : Int) < m := by omega
        have hd : decide ((lo : Int) < m) = false := decide_eq_false hn'
        have hd2 : decide (lo < m) = false := decide_eq_false hn
        clear e1 e2 e3
        go_wp2
        refine bodyPost_ret (v := .tuple #[.int .i64 lo, .bool false]) (by simp [results, Try.results120, go_sem]) rfl ?_
        rw [F1.out, F2.out]
        exact ⟨rfl, hbel⟩

theorem place_any (w : World) (ao : Option Addr) (m c : Nat) (l : List Ent) (s : ByteArray) (hm : l.length = m) (hm6 : m ≤ 1000) (he : entK.Row w ao l) (hr : Rising (l.map Ent.nm)) :
    Calls Try.prog 111 #[.slice ao m c, .string s] w fun e w' => e = .returned (.tuple #[.int .i64 (placeN (l.map Ent.nm) s), .bool (placeB (l.map Ent.nm) s)]) ∧ Below w.heap.size w w' := by
  have h := search_ents w ao m c l s hm hm6 he hr
  generalize placeN (l.map Ent.nm) s = PN at *
  generalize placeB (l.map Ent.nm) s = PB at *
  clear hm hr
  go_enter Try.func111, Try.ntmps111
  go_wp2_with fail
  refine h.mono ?_
  rintro e w1 ⟨rfl, hb1⟩
  go_wp2
  refine bodyPost_ret (v := .tuple #[.int .i64 PN, .bool PB]) (by simp [results, Try.results111, go_sem]) rfl ?_
  exact ⟨rfl, hb1⟩

theorem snap_any (w : World) (nm : ByteArray) (fo so : Option Addr) (fn fc sn sc : Nat) (vs : List Snv) (s : ByteArray) (hm : vs.length = sn) (hm6 : sn ≤ 1000) (he : snvK.Row w so vs) (hr : Rising (vs.map Snv.nm)) :
    Calls Try.prog 72 #[.agg #[.string nm, .slice fo fn fc, .slice so sn sc], .string s] w fun e w' => e = .returned (.tuple #[.int .i64 (placeN (vs.map Snv.nm) s), .bool (placeB (vs.map Snv.nm) s)]) ∧ Below w.heap.size w w' := by
  have hb0 : Below w.heap.size w (w.alloc (.cells #[.string nm, .slice fo fn fc, .slice so sn sc] 28)) := (Below.refl _ _).alloc (Nat.le_refl _) _
  have h := search_snvs (w.alloc (.cells #[.string nm, .slice fo fn fc, .slice so sn sc] 28)) so sn sc vs s hm hm6 (he.mono hb0) hr
  generalize placeN (vs.map Snv.nm) s = PN at *
  generalize placeB (vs.map Snv.nm) s = PB at *
  clear hm hr
  go_enter Try.func72, Try.ntmps72
  go_wp2_with fail
  refine h.mono ?_
  rintro e w1 ⟨rfl, hb1⟩
  have hb2 := below_step hb0 hb1
  go_wp2
  refine bodyPost_ret (v := .tuple #[.int .i64 PN, .bool PB]) (by simp [results, Try.results72, go_sem]) rfl ?_
  exact ⟨rfl, hb2⟩
end Go.Proofs.Ytfmgdjgedhnmeaa
