/- slices.Delete of one at entries and at snaps. -/
import Derived.Test.YtgeacpfenhaioaaIns
import Derived.Deep.RegionLaw
namespace Go.Proofs.Ytgeacpfenhaioaa
open Go.RowKit
set_option linter.unusedVariables false

theorem splice_out {α : Type} (l sp : List α) (p i : Nat) (z : α) (hm : l.length = p + 1) (hi : i ≤ p) : splice (splice (l ++ sp) i (l.drop (i + 1))) p [z] = l.eraseIdx i ++ z :: sp := by
  unfold splice
  rw [List.eraseIdx_eq_take_drop_succ]
  have e1 : (l ++ sp).take i = l.take i := List.take_append_of_le_length (by omega)
  have e2 : (l ++ sp).drop (i + (l.drop (i + 1)).length) = l.drop p ++ sp := by
    rw [List.length_drop, hm, show i + (p + 1 - (i + 1)) = p from by omega, List.drop_append_of_le_length (by omega)]
  rw [e1, e2, show l.take i ++ (l.drop (i + 1) ++ (l.drop p ++ sp)) = (l.take i ++ l.drop (i + 1)) ++ (l.drop p ++ sp) from by simp]
  have hl : (l.take i ++ l.drop (i + 1)).length = p := by rw [List.length_append, List.length_take, List.length_drop]; omega
  generalize l.take i ++ l.drop (i + 1) = A at hl ⊢
  have e3 : (A ++ (l.drop p ++ sp)).drop (p + [z].length) = sp := by
    have h1 : (l.drop p).length = 1 := by rw [List.length_drop]; omega
    rw [List.length_singleton, ← List.append_assoc]
    exact List.drop_left' (by rw [List.length_append, hl, h1])
  rw [e3, List.take_left' hl]
  simp

/-- clear of one element -/
theorem Kind.run_clear {α : Type} {K : Kind α} {P : Program} (w : World) (t ty : TypeId) (i0 : TypeInfo) (z : Value) (ht : P.underlying t = some (.slice K.elem)) (hi : P.info? K.elem = some i0) (hz0 : i0.zero = some z) (hz : z.cells = (K.cells K.zero).toArray) (g p c tb : Nat) (L : List α) (hp : p < L.length)
    (h : w.heap[g]? = some (.cells (K.all L).toArray tb (0, 0))) :
    (Builtin.clear_ #[t] ty #[.slice (some ⟨g, p * K.k, none⟩) 1 c]).run P w = .ok (.tuple #[]) (w.setCells g (p * K.k) (K.all [K.zero])) := by
  have hb : ∀ j, j < (K.all [K.zero]).length → p * K.k + j < L.length * K.k := by
    intro j hj
    rw [K.all_len] at hj
    have h1 : (p + 1) * K.k ≤ L.length * K.k := Nat.mul_le_mul_right _ hp
    rw [Nat.add_mul] at h1
    simp only [List.length_cons, List.length_nil] at hj
    omega
  have hst := run_storeCells_cells (P := P) g (p * K.k) (K.all [K.zero]) 0 w (fun j hj => by rw [Nat.add_zero]; exact Kind.isCell h _ (hb j hj)) (fun j hj => free_of_block h _) (K.all_one [K.zero])
  have hzc : (Builtin.zeroCells z.cells 1).toList = K.all [K.zero] := by rw [Kind.zeros z hz]; rfl
  simp only [Nat.add_zero] at hst
  simp [Builtin.clear_, run_underlying ht, zeroValue, typeInfo, hi, hz0, hzc, hst]

set_option maxRecDepth 100000 in
set_option maxHeartbeats 8000000 in
theorem delete_ents (w : World) (base : Nat) (ao : Option Addr) (p c i : Nat) (l : List Ent) (hm : l.length = p + 1) (hm6 : p ≤ 1000) (hi : i ≤ p) (ho : entK.Own w base (.slice ao (p + 1) c) l) :
    Calls Try.prog 79 #[.slice ao (p + 1) c, .int .i64 i, .int .i64 ((i : Int) + 1)] w fun e w' => e = .returned (.slice ao p c) ∧ entK.Own w' base (.slice ao p c) (l.eraseIdx i) ∧ Below base w w' ∧ ∀ b, b < w.heap.size → ao ≠ some ⟨b, 0, none⟩ → w'.heap[b]? = w.heap[b]? := by
  obtain ⟨i0, z, hin, hz0, hsz, hby, hzc⟩ := zero_ents
  rcases ho with ⟨rfl, _⟩ | ⟨g, cap, sp, hsl, hgb, hcap, hh⟩
  · simp at hm
  simp only [Value.slice.injEq] at hsl
  obtain ⟨rfl, -, rfl⟩ := hsl
  rw [hm] at hcap
  have hls : (l ++ sp).length = c := by rw [List.length_append]; omega
  have hnl : (l.drop (i + 1)).length = p - i := by rw [List.length_drop]; omega
  obtain ⟨Aq, hA, hsrc⟩ : ∃ Aq : Addr, (if c = i + 1 then (some (⟨g, 0, none⟩ : Addr)) else some ⟨g, (i + 1) * 3, none⟩) = some Aq ∧ Hid (∀ t u, (entK.all (l.drop (i + 1)))[t]? = some u → w.drew.cell? (Aq.add t) = some u) := by
    by_cases hc : c = i + 1
    · refine ⟨⟨g, 0, none⟩, by simp [hc], Lib.hid fun t u hu => ?_⟩
      have h0 : l.drop (i + 1) = [] := List.eq_nil_of_length_eq_zero (by rw [hnl]; omega)
      rw [h0] at hu
      simp [Kind.all] at hu
    · refine ⟨⟨g, (i + 1) * 3, none⟩, by simp [hc], Lib.hid fun t u hu => ?_⟩
      rw [add_lit']
      refine Eq.trans (b := w.cell? ⟨g, (i + 1) * entK.k + t, none⟩) rfl ?_
      rw [cell_of_block hh, List.getElem?_toArray, entK.all_append]
      rw [← entK.all_drop, List.getElem?_drop] at hu
      rw [List.getElem?_append_left (List.getElem?_eq_some_iff.1 hu).1]
      exact hu
  have s1 : Hid ((entK.all (l.drop (i + 1))).length = (p - i) * 3) := Lib.hid (by rw [entK.all_len, hnl]; rfl)
  have s2 : Hid (∀ u ∈ entK.all (l.drop (i + 1)), u.oneCell' = true) := Lib.hid (entK.all_one _)
  have s3 : Hid (∀ t, t < (entK.all (l.drop (i + 1))).length → (w.drew.cell? ⟨g, 0 + i * 3 + t, none⟩).isSome = true ∧ w.drew.frozen? ⟨g, 0 + i * 3 + t, none⟩ = false) := Lib.hid fun t ht => by
    rw [s1.out] at ht
    refine ⟨Kind.isCell (K := entK) (w := w.drew) hh _ ?_, free_of_block (w := w.drew) hh _⟩
    show 0 + i * 3 + t < (l ++ sp).length * 3
    rw [hls]
    omega
  obtain ⟨W1, hW1⟩ : ∃ W1, W1 = w.drew.setCells g (0 + i * 3) (entK.all (l.drop (i + 1))) := ⟨_, rfl⟩
  have HW1 := Lib.hid hW1
  have g1 : W1.heap[g]? = some (.cells (entK.all (Go.splice (l ++ sp) i (l.drop (i + 1)))).toArray entK.elem (0, 0)) := by
    rw [hW1, Nat.zero_add]
    exact Kind.setCells (K := entK) (w := w.drew) hh i (l.drop (i + 1)) (by rw [hls, hnl]; omega)
  have k1 : ∀ b, b ≠ g → W1.heap[b]? = w.heap[b]? := fun b hb => by rw [hW1, setCells_other _ _ _ hb]; rfl
  have z1 : W1.heap.size = w.heap.size := by rw [hW1, setCells_size]; rfl
  have d1 : W1.os = w.os ∧ W1.tape = w.tape ∧ W1.output = w.output := by rw [hW1]; exact setCells_rest w.drew g _ _
  have hL1 : (Go.splice (l ++ sp) i (l.drop (i + 1))).length = c := by rw [length_splice _ _ _ (by rw [hls, hnl]; omega)]; exact hls
  have hcl := fun ty => Kind.run_clear (K := entK) (P := Try.prog) W1 25 ty i0 z Try.underlying25 hin hz0 hzc g p (c - p) entK.elem _ (by rw [hL1]; omega) g1
  obtain ⟨W2, hW2⟩ : ∃ W2, W2 = W1.setCells g (p * entK.k) (entK.all [entK.zero]) := ⟨_, rfl⟩
  have g2 : W2.heap[g]? = some (.cells (entK.all (l.eraseIdx i ++ entK.zero :: sp)).toArray entK.elem (0, 0)) := by
    rw [← splice_out l sp p i entK.zero hm hi, hW2]
    exact Kind.setCells (K := entK) g1 p [entK.zero] (by rw [hL1]; show p + 1 ≤ c; omega)
  have k2 : ∀ b, b ≠ g → W2.heap[b]? = w.heap[b]? := fun b hb => by rw [hW2, setCells_other _ _ _ hb]; exact k1 b hb
  have z2 : W2.heap.size = w.heap.size := by rw [hW2, setCells_size]; exact z1
  have d2 : W2.os = w.os ∧ W2.tape = w.tape ∧ W2.output = w.output := by rw [hW2]; obtain ⟨a, b, c⟩ := setCells_rest W1 g (entK.all [entK.zero]) (p * entK.k); rw [a, b, c]; exact d1
  rw [← hW2] at hcl
  have hel : (l.eraseIdx i).length = p := by rw [List.length_eraseIdx, if_pos (by omega)]; omega
  have hFIN : Hid (entK.Own W2 base (.slice (some ⟨g, 0, none⟩) p c) (l.eraseIdx i) ∧ Below base w W2 ∧ ∀ b, b < w.heap.size → (some ⟨g, 0, none⟩ : Option Addr) ≠ some ⟨b, 0, none⟩ → W2.heap[b]? = w.heap[b]?) :=
    Lib.hid ⟨.inr ⟨g, c, entK.zero :: sp, by rw [hel], hgb, by rw [hel, List.length_cons]; omega, g2⟩, ⟨d2.1, d2.2.1, d2.2.2, by omega, fun b hb => k2 b (by omega)⟩, fun b _ hb => k2 b (fun e => hb (by rw [e]))⟩
  have HCL : ∀ ty, (Builtin.clear_ #[25] ty #[.slice (some ⟨g, p * 3, none⟩) 1 (c - p)]).run Try.prog W1 = .ok (.tuple #[]) W2 := hcl
  have hwr : IntKind.i64.wrap ((i : Int) + 1) = (i : Int) + 1 := by rw [IntKind.wrap_i64]; omega
  have q0 : ((i : Int) == (i : Int) + 1) = false := by rw [beq_eq_false_iff_ne]; omega
  have q1 : ((i : Int) + 1).toNat = i + 1 := by omega
  have q2 : (0 : Int) ≤ (i : Int) + 1 := by omega
  have q3 : (i : Int) + 1 ≤ (p : Int) + 1 := by omega
  have q4 : (p : Int) + 1 ≤ c := by omega
  have q5 : i ≤ c := by omega
  have q6 : i + (p - i) = p := by omega
  have q7 : i + (p + 1 - (i + 1)) = p := by omega
  have q8 : ¬ (c = p) := by omega
  have q9 : (i : Int) ≤ (i : Int) + 1 := by omega
  have q10 : (i : Int) ≤ c := by omega
  have q11 : (i : Int) + 1 ≤ c := by omega
  have q12 : (p : Int) ≤ (p : Int) + 1 := by omega
  have q13 : p + 1 - p = 1 := by omega
  have q14 : p + 1 - (i + 1) = p - i := by omega
  have q15 : i ≤ p + 1 := by omega
  have hroom : i + (p - i) ≤ c := by omega
  have HSZ := Lib.hid hsz
  clear g1 g2 k1 k2 z1 z2 d1 d2 hL1 hcl hW1 hW2 hel hh hcap hls hnl hm hzc hby hz0 hsz
  go_enter Try.func79, Try.ntmps79
  go_wp2_with fail
  go_region_law (refine step_append_room rfl (.tmp 22) (.tmp 25) 25 rfl 47 i0 3 Try.underlying25 hin HSZ.out g 0 i c (by simp [Act.eval, Act.put]) Aq (p - i) (c - (i + 1)) (entK.all (l.drop (i + 1))) (by simp [Act.eval, Act.put]) s1.out hsrc.out s2.out hroom s3.out ?_; rw [← HW1.out])
  go_wp2
  go_ret
  exact ⟨rfl, hFIN.out⟩

set_option maxRecDepth 100000 in
set_option maxHeartbeats 8000000 in
theorem delete_snvs (w : World) (base : Nat) (ao : Option Addr) (p c i : Nat) (l : List Snv) (hm : l.length = p + 1) (hm6 : p ≤ 1000) (hi : i ≤ p) (ho : snvK.Own w base (.slice ao (p + 1) c) l) :
    Calls Try.prog 82 #[.slice ao (p + 1) c, .int .i64 i, .int .i64 ((i : Int) + 1)] w fun e w' => e = .returned (.slice ao p c) ∧ snvK.Own w' base (.slice ao p c) (l.eraseIdx i) ∧ Below base w w' ∧ ∀ b, b < w.heap.size → ao ≠ some ⟨b, 0, none⟩ → w'.heap[b]? = w.heap[b]? := by
  obtain ⟨i0, z, hin, hz0, hsz, hby, hzc⟩ := zero_snvs
  rcases ho with ⟨rfl, _⟩ | ⟨g, cap, sp, hsl, hgb, hcap, hh⟩
  · simp at hm
  simp only [Value.slice.injEq] at hsl
  obtain ⟨rfl, -, rfl⟩ := hsl
  rw [hm] at hcap
  have hls : (l ++ sp).length = c := by rw [List.length_append]; omega
  have hnl : (l.drop (i + 1)).length = p - i := by rw [List.length_drop]; omega
  obtain ⟨Aq, hA, hsrc⟩ : ∃ Aq : Addr, (if c = i + 1 then (some (⟨g, 0, none⟩ : Addr)) else some ⟨g, (i + 1) * 2, none⟩) = some Aq ∧ Hid (∀ t u, (snvK.all (l.drop (i + 1)))[t]? = some u → w.drew.cell? (Aq.add t) = some u) := by
    by_cases hc : c = i + 1
    · refine ⟨⟨g, 0, none⟩, by simp [hc], Lib.hid fun t u hu => ?_⟩
      have h0 : l.drop (i + 1) = [] := List.eq_nil_of_length_eq_zero (by rw [hnl]; omega)
      rw [h0] at hu
      simp [Kind.all] at hu
    · refine ⟨⟨g, (i + 1) * 2, none⟩, by simp [hc], Lib.hid fun t u hu => ?_⟩
      rw [add_lit']
      refine Eq.trans (b := w.cell? ⟨g, (i + 1) * snvK.k + t, none⟩) rfl ?_
      rw [cell_of_block hh, List.getElem?_toArray, snvK.all_append]
      rw [← snvK.all_drop, List.getElem?_drop] at hu
      rw [List.getElem?_append_left (List.getElem?_eq_some_iff.1 hu).1]
      exact hu
  have s1 : Hid ((snvK.all (l.drop (i + 1))).length = (p - i) * 2) := Lib.hid (by rw [snvK.all_len, hnl]; rfl)
  have s2 : Hid (∀ u ∈ snvK.all (l.drop (i + 1)), u.oneCell' = true) := Lib.hid (snvK.all_one _)
  have s3 : Hid (∀ t, t < (snvK.all (l.drop (i + 1))).length → (w.drew.cell? ⟨g, 0 + i * 2 + t, none⟩).isSome = true ∧ w.drew.frozen? ⟨g, 0 + i * 2 + t, none⟩ = false) := Lib.hid fun t ht => by
    rw [s1.out] at ht
    refine ⟨Kind.isCell (K := snvK) (w := w.drew) hh _ ?_, free_of_block (w := w.drew) hh _⟩
    show 0 + i * 2 + t < (l ++ sp).length * 2
    rw [hls]
    omega
  obtain ⟨W1, hW1⟩ : ∃ W1, W1 = w.drew.setCells g (0 + i * 2) (snvK.all (l.drop (i + 1))) := ⟨_, rfl⟩
  have HW1 := Lib.hid hW1
  have g1 : W1.heap[g]? = some (.cells (snvK.all (Go.splice (l ++ sp) i (l.drop (i + 1)))).toArray snvK.elem (0, 0)) := by
    rw [hW1, Nat.zero_add]
    exact Kind.setCells (K := snvK) (w := w.drew) hh i (l.drop (i + 1)) (by rw [hls, hnl]; omega)
  have k1 : ∀ b, b ≠ g → W1.heap[b]? = w.heap[b]? := fun b hb => by rw [hW1, setCells_other _ _ _ hb]; rfl
  have z1 : W1.heap.size = w.heap.size := by rw [hW1, setCells_size]; rfl
  have d1 : W1.os = w.os ∧ W1.tape = w.tape ∧ W1.output = w.output := by rw [hW1]; exact setCells_rest w.drew g _ _
  have hL1 : (Go.splice (l ++ sp) i (l.drop (i + 1))).length = c := by rw [length_splice _ _ _ (by rw [hls, hnl]; omega)]; exact hls
  have hcl := fun ty => Kind.run_clear (K := snvK) (P := Try.prog) W1 26 ty i0 z Try.underlying26 hin hz0 hzc g p (c - p) snvK.elem _ (by rw [hL1]; omega) g1
  obtain ⟨W2, hW2⟩ : ∃ W2, W2 = W1.setCells g (p * snvK.k) (snvK.all [snvK.zero]) := ⟨_, rfl⟩
  have g2 : W2.heap[g]? = some (.cells (snvK.all (l.eraseIdx i ++ snvK.zero :: sp)).toArray snvK.elem (0, 0)) := by
    rw [← splice_out l sp p i snvK.zero hm hi, hW2]
    exact Kind.setCells (K := snvK) g1 p [snvK.zero] (by rw [hL1]; show p + 1 ≤ c; omega)
  have k2 : ∀ b, b ≠ g → W2.heap[b]? = w.heap[b]? := fun b hb => by rw [hW2, setCells_other _ _ _ hb]; exact k1 b hb
  have z2 : W2.heap.size = w.heap.size := by rw [hW2, setCells_size]; exact z1
  have d2 : W2.os = w.os ∧ W2.tape = w.tape ∧ W2.output = w.output := by rw [hW2]; obtain ⟨a, b, c⟩ := setCells_rest W1 g (snvK.all [snvK.zero]) (p * snvK.k); rw [a, b, c]; exact d1
  rw [← hW2] at hcl
  have hel : (l.eraseIdx i).length = p := by rw [List.length_eraseIdx, if_pos (by omega)]; omega
  have hFIN : Hid (snvK.Own W2 base (.slice (some ⟨g, 0, none⟩) p c) (l.eraseIdx i) ∧ Below base w W2 ∧ ∀ b, b < w.heap.size → (some ⟨g, 0, none⟩ : Option Addr) ≠ some ⟨b, 0, none⟩ → W2.heap[b]? = w.heap[b]?) :=
    Lib.hid ⟨.inr ⟨g, c, snvK.zero :: sp, by rw [hel], hgb, by rw [hel, List.length_cons]; omega, g2⟩, ⟨d2.1, d2.2.1, d2.2.2, by omega, fun b hb => k2 b (by omega)⟩, fun b _ hb => k2 b (fun e => hb (by rw [e]))⟩
  have HCL : ∀ ty, (Builtin.clear_ #[26] ty #[.slice (some ⟨g, p * 2, none⟩) 1 (c - p)]).run Try.prog W1 = .ok (.tuple #[]) W2 := hcl
  have hwr : IntKind.i64.wrap ((i : Int) + 1) = (i : Int) + 1 := by rw [IntKind.wrap_i64]; omega
  have q0 : ((i : Int) == (i : Int) + 1) = false := by rw [beq_eq_false_iff_ne]; omega
  have q1 : ((i : Int) + 1).toNat = i + 1 := by omega
  have q2 : (0 : Int) ≤ (i : Int) + 1 := by omega
  have q3 : (i : Int) + 1 ≤ (p : Int) + 1 := by omega
  have q4 : (p : Int) + 1 ≤ c := by omega
  have q5 : i ≤ c := by omega
  have q6 : i + (p - i) = p := by omega
  have q7 : i + (p + 1 - (i + 1)) = p := by omega
  have q8 : ¬ (c = p) := by omega
  have q9 : (i : Int) ≤ (i : Int) + 1 := by omega
  have q10 : (i : Int) ≤ c := by omega
  have q11 : (i : Int) + 1 ≤ c := by omega
  have q12 : (p : Int) ≤ (p : Int) + 1 := by omega
  have q13 : p + 1 - p = 1 := by omega
  have q14 : p + 1 - (i + 1) = p - i := by omega
  have q15 : i ≤ p + 1 := by omega
  have hroom : i + (p - i) ≤ c := by omega
  have HSZ := Lib.hid hsz
  clear g1 g2 k1 k2 z1 z2 d1 d2 hL1 hcl hW1 hW2 hel hh hcap hls hnl hm hzc hby hz0 hsz
  go_enter Try.func82, Try.ntmps82
  go_wp2_with fail
  go_region_law (refine step_append_room rfl (.tmp 22) (.tmp 25) 26 rfl 95 i0 2 Try.underlying26 hin HSZ.out g 0 i c (by simp [Act.eval, Act.put]) Aq (p - i) (c - (i + 1)) (snvK.all (l.drop (i + 1))) (by simp [Act.eval, Act.put]) s1.out hsrc.out s2.out hroom s3.out ?_; rw [← HW1.out])
  go_wp2
  go_ret
  exact ⟨rfl, hFIN.out⟩
end Go.Proofs.Ytgeacpfenhaioaa
