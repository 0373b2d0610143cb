/- set.place, set.snap: a name is looked for among rising ones. -/
import Derived.Test.YtgeacpfenhaioaaSetCopy
import Derived.Lib.Bytealg
import Derived.Laws.Externs
namespace Go.Proofs.Ytgeacpfenhaioaa
open Go.RowKit
set_option linter.unusedVariables false

theorem cb_less : ∀ (x y : List UInt8), (Lib.compareBytes x y < 0 ↔ Op.bytesLess x y = true) ∧ (Lib.compareBytes x y = 0 ↔ x = y)
  | [], [] => by simp [Lib.compareBytes, Op.bytesLess]
  | [], _ :: _ => by simp [Lib.compareBytes, Op.bytesLess]
  | _ :: _, [] => by simp [Lib.compareBytes, Op.bytesLess]
  | a :: x, b :: y => by
    obtain ⟨h1, h2⟩ := cb_less x y
    unfold Lib.compareBytes Op.bytesLess
    by_cases c1 : a < b
    · rw [if_pos c1]
      refine ⟨by simp [c1], ?_⟩
      constructor
      · intro h; omega
      · intro h; simp only [List.cons.injEq] at h; rw [h.1] at c1; exact absurd c1 (UInt8.lt_irrefl _)
    · rw [if_neg c1]
      by_cases c2 : b < a
      · rw [if_pos c2]
        have hne : a ≠ b := by rintro rfl; exact UInt8.lt_irrefl _ c2
        refine ⟨by simp [c1, hne], ?_⟩
        constructor
        · intro h; omega
        · intro h; simp only [List.cons.injEq] at h; exact absurd h.1 hne
      · rw [if_neg c2]
        have he : a = b := UInt8.le_antisymm (UInt8.not_lt.1 c2) (UInt8.not_lt.1 c1)
        subst he
        refine ⟨by rw [h1]; simp [c1], by rw [h2]; simp⟩

/-- how names stand to each other -/
def cmpN (a b : ByteArray) : Int := Lib.compareBytes a.data.toList b.data.toList
theorem cmpN_neg (a b : ByteArray) : cmpN a b < 0 ↔ ltN a b := by
  unfold cmpN ltN
  rw [ByteArray.toList_eq, ByteArray.toList_eq]
  exact (cb_less _ _).1
theorem cmpN_zero (a b : ByteArray) : cmpN a b = 0 ↔ a.toList = b.toList := by
  unfold cmpN
  rw [ByteArray.toList_eq, ByteArray.toList_eq]
  exact (cb_less _ _).2

set_option maxRecDepth 100000 in
theorem compareS_any (w : World) (a b : ByteArray) : Calls Try.prog 112 #[.string a, .string b] w fun e w' => e = .returned (.int .i64 (cmpN a b)) ∧ w' = w := by
  go_enter Try.func112, Try.ntmps112
  go_wp2
  rw [run_callFunc_extern Try.func126 (by kernel_rfl) (by kernel_rfl) (by kernel_rfl) (e := Extern.BytealgCompare.compare) (by kernel_rfl), Lib.run_compareString]
  simp only [Result.andThen]
  rw [Oper.upon_value]
  go_wp2
  go_ret
  exact ⟨rfl, rfl⟩

theorem compare_any (w : World) (a b : ByteArray) : Calls Try.prog 90 #[.string a, .string b] w fun e w' => e = .returned (.int .i64 (cmpN a b)) ∧ w' = w := by
  go_enter Try.func90, Try.ntmps90
  go_wp2_with (go_at_call 112; refine (compareS_any _ _ _).mono ?_; rintro e w' ⟨rfl, rfl⟩)
  go_ret
  exact ⟨rfl, rfl⟩

/-- what the search knows -/
theorem search_end {l : List ByteArray} {s : ByteArray} (hr : Rising l) (k : Nat) (hk : k ≤ l.length) (h1 : ∀ i (h : i < l.length), i < k → cmpN l[i] s < 0) (h2 : ∀ i (h : i < l.length), k ≤ i → 0 ≤ cmpN l[i] s) :
    placeN l s = k ∧ (∀ h : k < l.length, placeB l s = decide (cmpN l[k] s = 0)) ∧ (¬ k < l.length → placeB l s = false) := by
  have hp : placeN l s = k := placeN_is hr k hk (fun i h hi => (cmpN_neg _ _).1 (h1 i h hi)) (fun i h hi hl => by have := h2 i h hi; have := (cmpN_neg _ _).2 hl; omega)
  refine ⟨hp, fun h => ?_, fun h => ?_⟩
  · unfold placeB
    rw [hp, List.getElem?_eq_getElem h]
    rw [Bool.eq_iff_iff, decide_eq_true_eq, cmpN_zero]
    simp
  · unfold placeB
    rw [hp, List.getElem?_eq_none (by omega)]
/-- those ahead of one that is ahead -/
theorem search_low {l : List ByteArray} {s : ByteArray} (hr : Rising l) (m : Nat) (hm : m < l.length) (h : cmpN l[m] s < 0) : ∀ i (hi : i < l.length), i < m + 1 → cmpN l[i] s < 0 := by
  intro i hi him
  rcases Nat.lt_or_ge i m with h1 | h1
  · have := List.pairwise_iff_getElem.1 hr i m hi hm h1
    rw [cmpN_neg] at h ⊢
    exact ltN_trans this h
  · obtain rfl : i = m := by omega
    exact h
theorem search_high {l : List ByteArray} {s : ByteArray} (hr : Rising l) (m : Nat) (hm : m < l.length) (h : ¬ cmpN l[m] s < 0) : ∀ i (hi : i < l.length), m ≤ i → 0 ≤ cmpN l[i] s := by
  intro i hi him
  rcases Int.lt_or_le (cmpN l[i] s) 0 with hc | hc
  rotate_left
  · exact hc
  exfalso
  rcases Nat.lt_or_ge m i with h1 | h1
  · have := List.pairwise_iff_getElem.1 hr m i hm hi h1
    rw [cmpN_neg] at h hc
    exact h (ltN_trans this hc)
  · obtain rfl : i = m := by omega
    exact h hc

theorem cmp_ents (w : World) (x : Ent) (s : ByteArray) : Calls Try.prog 92 #[.agg #[.string x.nm, .int .i64 x.root, .int .i64 x.size], .string s] w fun e w' => e = .returned (.int .i64 (cmpN x.nm s)) ∧ Below w.heap.size w w' := by
  have hb0 : Below w.heap.size w (w.alloc (.cells #[.string x.nm, .int .i64 x.root, .int .i64 x.size] 47)) := (Below.refl _ _).alloc (Nat.le_refl _) _
  go_enter Try.func92, Try.ntmps92
  go_wp2_with (go_at_call 90; refine (compare_any _ _ _).mono ?_; rintro e w' ⟨rfl, rfl⟩)
  go_ret
  exact ⟨rfl, hb0⟩

set_option maxRecDepth 100000 in
set_option maxHeartbeats 4000000 in
theorem search_ents (w : World) (ao : Option Addr) (m c : Nat) (l : List Ent) (s : ByteArray) (hm : l.length = m) (hm6 : m ≤ 1000) (he : entK.Row w ao l) (hr : Rising (l.map Ent.nm)) :
    Calls Try.prog 91 #[.slice ao m c, .string s, .func (.func 92) #[] #[]] w fun e w' => e = .returned (.tuple #[.int .i64 (placeN (l.map Ent.nm) s), .bool (placeB (l.map Ent.nm) s)]) ∧ Below w.heap.size w w' := by
  have HM := Lib.hid hm
  have HR := Lib.hid hr
  have hm6' : (m : Int) ≤ 1000 := by omega
  obtain ⟨PN, hPN⟩ : ∃ PN, placeN (l.map Ent.nm) s = PN := ⟨_, rfl⟩
  obtain ⟨PB, hPB⟩ : ∃ PB, placeB (l.map Ent.nm) s = PB := ⟨_, rfl⟩
  rw [hPN, hPB]
  have HPN := Lib.hid hPN
  have HPB := Lib.hid hPB
  clear hm hr hPN hPB
  go_enter Try.func91, Try.ntmps91
  go_wp2
  go_loopw [9, 10] (fun i j wr => ∃ lo hi : Nat, i = .int .i64 lo ∧ j = .int .i64 hi ∧ lo ≤ hi ∧ hi ≤ m ∧ Below w.heap.size w wr ∧
    Hid (∀ t (h : t < (l.map Ent.nm).length), t < lo → cmpN (l.map Ent.nm)[t] s < 0) ∧ Hid (∀ t (h : t < (l.map Ent.nm).length), hi ≤ t → 0 ≤ cmpN (l.map Ent.nm)[t] s)) (fun i j _ => (intOf j).toNat - (intOf i).toNat)
  case atStart => exact ⟨0, m, rfl, rfl, Nat.zero_le _, Nat.le_refl _, Below.refl _ _, Lib.hid fun t _ h => absurd h (by omega), Lib.hid fun t h h2 => absurd h (by rw [List.length_map]; have := HM.out; omega)⟩
  case round =>
    obtain ⟨lo, hi, rfl, rfl, hlh, hin, hbel, I1, I2⟩ := hrel
    by_cases hlt : lo < hi
    · obtain ⟨q, hq⟩ : ∃ q, (lo + hi) / 2 = q := ⟨_, rfl⟩
      have hqm : q < l.length := by have := HM.out; omega
      have hqm' : q < (l.map Ent.nm).length := by rw [List.length_map]; exact hqm
      obtain ⟨b, o, rfl, lb0, hc⟩ := Kind.Row.at (he.mono hbel) (by omega)
      have hE := ent_cells hc q hqm
      have lb := hE.lt
      have c0 := hE.nm
      have c1 := hE.root
      have c2 := hE.size
      have hlow := Lib.hid (search_low (s := s) HR.out q hqm')
      have hhigh := Lib.hid (search_high (s := s) HR.out q hqm')
      have hnm : (l.map Ent.nm)[q] = l[q].nm := List.getElem_map _
      rw [hnm] at hlow hhigh
      have hq1 : ((lo : Int) + hi) / 2 = (q : Int) := by omega
      have hlt' : (lo : Int) < hi := by omega
      have hqm2 : (q : Int) < m := by have := HM.out; omega
      have HQ := Lib.hid hq
      have hq2 : lo ≤ q ∧ q < hi := by omega
      have HQ2 := Lib.hid hq2
      clear hE hc hq hnm hq2
      generalize l[q] = x at *
      obtain ⟨nm, root, size⟩ := x
      simp only at c0 c1 c2 hlow hhigh
      have hcc := cmp_ents wr ⟨nm, root, size⟩ s
      simp only at hcc
      by_cases hx : cmpN nm s < 0
      · have I3 := Lib.hid (hlow.out hx)
        clear hlow hhigh
        generalize cmpN nm s = cc at *
        go_wp2_with fail
        refine hcc.mono ?_
        rintro e w' ⟨rfl, hb1⟩
        have hb2 := below_step hbel hb1
        clear hcc hb1
        go_wp2
        go_roundw
        case rel => exact ⟨q + 1, hi, by go_num, rfl, by have := HQ2.out; omega, hin, hb2, I3, I2⟩
        case measure => simp [intOf]; have := HQ2.out; omega
      · have I3 := Lib.hid (hhigh.out hx)
        clear hlow hhigh
        generalize cmpN nm s = cc at *
        go_wp2_with fail
        refine hcc.mono ?_
        rintro e w' ⟨rfl, hb1⟩
        have hb2 := below_step hbel hb1
        clear hcc hb1
        go_wp2
        go_roundw
        case rel => exact ⟨lo, q, rfl, by go_num, by have := HQ2.out; omega, by have := HQ2.out; omega, hb2, I1, I3⟩
        case measure => simp [intOf]; have := HQ2.out; omega
    · obtain rfl : lo = hi := by omega
      have hlt' : ¬ (lo : Int) < lo := by omega
      obtain ⟨e1, e2, e3⟩ := search_end HR.out lo (by rw [List.length_map]; have := HM.out; omega) I1.out I2.out
      by_cases hn : lo < m
      · have hql : lo < l.length := by have := HM.out; omega
        have e4 := e2 (by rw [List.length_map]; exact hql)
        rw [List.getElem_map] at e4
        have hn' : (lo : Int) < m := by omega
        have hd : decide ((lo : Int) < m) = true := decide_eq_true hn'
        have hd2 : decide (lo < m) = true := decide_eq_true hn
        obtain ⟨b, o, rfl, lb0, hc⟩ := Kind.Row.at (he.mono hbel) (by omega)
        have hE := ent_cells hc lo hql
        have lb := hE.lt
        have c0 := hE.nm
        have c1 := hE.root
        have c2 := hE.size
        have F1 : Hid (PN = lo) := Lib.hid (HPN.out.symm.trans e1)
        have F2 : Hid (PB = decide (cmpN l[lo].nm s = 0)) := Lib.hid (HPB.out.symm.trans e4)
        clear hE hc e1 e2 e3 e4
        generalize l[lo] = x at *
        obtain ⟨nm, root, size⟩ := x
        simp only at c0 c1 c2 F2
        have hcc := cmp_ents wr ⟨nm, root, size⟩ s
        simp only at hcc
        generalize cmpN nm s = cc at *
        by_cases hz : cc = 0
        all_goals
          go_wp2_with fail
          refine hcc.mono ?_
          rintro e w' ⟨rfl, hb1⟩
          have hb2 := below_step hbel hb1
          clear hcc hb1
          go_wp2
          refine bodyPost_ret (v := .tuple #[.int .i64 lo, .bool (decide (cc = 0))]) (by simp [results, Try.results91, go_sem, hz]) rfl ?_
          rw [F1.out, F2.out]
          exact ⟨rfl, hb2⟩
      · have F1 : Hid (PN = lo) := Lib.hid (HPN.out.symm.trans e1)
        have F2 : Hid (PB = false) := Lib.hid (HPB.out.symm.trans (e3 (by rw [List.length_map]; have := HM.out; omega)))
        have hn' : ¬ (lo : Int) < m := by omega
        have hd : decide ((lo : Int) < m) = false := decide_eq_false hn'
        have hd2 : decide (lo < m) = false := decide_eq_false hn
        clear e1 e2 e3
        go_wp2
        refine bodyPost_ret (v := .tuple #[.int .i64 lo, .bool false]) (by simp [results, Try.results91, go_sem]) rfl ?_
        rw [F1.out, F2.out]
        exact ⟨rfl, hbel⟩

theorem cmp_snvs (w : World) (x : Snv) (s : ByteArray) : Calls Try.prog 89 #[.agg #[.string x.nm, .slice x.ao x.n x.cap], .string s] w fun e w' => e = .returned (.int .i64 (cmpN x.nm s)) ∧ Below w.heap.size w w' := by
  have hb0 : Below w.heap.size w (w.alloc (.cells #[.string x.nm, .slice x.ao x.n x.cap] 95)) := (Below.refl _ _).alloc (Nat.le_refl _) _
  go_enter Try.func89, Try.ntmps89
  go_wp2_with (go_at_call 90; refine (compare_any _ _ _).mono ?_; rintro e w' ⟨rfl, rfl⟩)
  go_ret
  exact ⟨rfl, hb0⟩

set_option maxRecDepth 100000 in
set_option maxHeartbeats 4000000 in
theorem search_snvs (w : World) (ao : Option Addr) (m c : Nat) (l : List Snv) (s : ByteArray) (hm : l.length = m) (hm6 : m ≤ 1000) (he : snvK.Row w ao l) (hr : Rising (l.map Snv.nm)) :
    Calls Try.prog 88 #[.slice ao m c, .string s, .func (.func 89) #[] #[]] w fun e w' => e = .returned (.tuple #[.int .i64 (placeN (l.map Snv.nm) s), .bool (placeB (l.map Snv.nm) s)]) ∧ Below w.heap.size w w' := by
  have HM := Lib.hid hm
  have HR := Lib.hid hr
  have hm6' : (m : Int) ≤ 1000 := by omega
  obtain ⟨PN, hPN⟩ : ∃ PN, placeN (l.map Snv.nm) s = PN := ⟨_, rfl⟩
  obtain ⟨PB, hPB⟩ : ∃ PB, placeB (l.map Snv.nm) s = PB := ⟨_, rfl⟩
  rw [hPN, hPB]
  have HPN := Lib.hid hPN
  have HPB := Lib.hid hPB
  clear hm hr hPN hPB
  go_enter Try.func88, Try.ntmps88
  go_wp2
  go_loopw [9, 10] (fun i j wr => ∃ lo hi : Nat, i = .int .i64 lo ∧ j = .int .i64 hi ∧ lo ≤ hi ∧ hi ≤ m ∧ Below w.heap.size w wr ∧
    Hid (∀ t (h : t < (l.map Snv.nm).length), t < lo → cmpN (l.map Snv.nm)[t] s < 0) ∧ Hid (∀ t (h : t < (l.map Snv.nm).length), hi ≤ t → 0 ≤ cmpN (l.map Snv.nm)[t] s)) (fun i j _ => (intOf j).toNat - (intOf i).toNat)
  case atStart => exact ⟨0, m, rfl, rfl, Nat.zero_le _, Nat.le_refl _, Below.refl _ _, Lib.hid fun t _ h => absurd h (by omega), Lib.hid fun t h h2 => absurd h (by rw [List.length_map]; have := HM.out; omega)⟩
  case round =>
    obtain ⟨lo, hi, rfl, rfl, hlh, hin, hbel, I1, I2⟩ := hrel
    by_cases hlt : lo < hi
    · obtain ⟨q, hq⟩ : ∃ q, (lo + hi) / 2 = q := ⟨_, rfl⟩
      have hqm : q < l.length := by have := HM.out; omega
      have hqm' : q < (l.map Snv.nm).length := by rw [List.length_map]; exact hqm
      obtain ⟨b, o, rfl, lb0, hc⟩ := Kind.Row.at (he.mono hbel) (by omega)
      have hE := snv_cells hc q hqm
      have lb := hE.lt
      have c0 := hE.nm
      have c1 := hE.sl
      have hlow := Lib.hid (search_low (s := s) HR.out q hqm')
      have hhigh := Lib.hid (search_high (s := s) HR.out q hqm')
      have hnm : (l.map Snv.nm)[q] = l[q].nm := List.getElem_map _
      rw [hnm] at hlow hhigh
      have hq1 : ((lo : Int) + hi) / 2 = (q : Int) := by omega
      have hlt' : (lo : Int) < hi := by omega
      have hqm2 : (q : Int) < m := by have := HM.out; omega
      have HQ := Lib.hid hq
      have hq2 : lo ≤ q ∧ q < hi := by omega
      have HQ2 := Lib.hid hq2
      clear hE hc hq hnm hq2
      generalize l[q] = x at *
      obtain ⟨nm, uo, un, uc⟩ := x
      simp only at c0 c1 hlow hhigh
      have hcc := cmp_snvs wr ⟨nm, uo, un, uc⟩ s
      simp only at hcc
      by_cases hx : cmpN nm s < 0
      · have I3 := Lib.hid (hlow.out hx)
        clear hlow hhigh
        generalize cmpN nm s = cc at *
        go_wp2_with fail
        refine hcc.mono ?_
        rintro e w' ⟨rfl, hb1⟩
        have hb2 := below_step hbel hb1
        clear hcc hb1
        go_wp2
        go_roundw
        case rel => exact ⟨q + 1, hi, by go_num, rfl, by have := HQ2.out; omega, hin, hb2, I3, I2⟩
        case measure => simp [intOf]; have := HQ2.out; omega
      · have I3 := Lib.hid (hhigh.out hx)
        clear hlow hhigh
        generalize cmpN nm s = cc at *
        go_wp2_with fail
        refine hcc.mono ?_
        rintro e w' ⟨rfl, hb1⟩
        have hb2 := below_step hbel hb1
        clear hcc hb1
        go_wp2
        go_roundw
        case rel => exact ⟨lo, q, rfl, by go_num, by have := HQ2.out; omega, by have := HQ2.out; omega, hb2, I1, I3⟩
        case measure => simp [intOf]; have := HQ2.out; omega
    · obtain rfl : lo = hi := by omega
      have hlt' : ¬ (lo : Int) < lo := by omega
      obtain ⟨e1, e2, e3⟩ := search_end HR.out lo (by rw [List.length_map]; have := HM.out; omega) I1.out I2.out
      by_cases hn : lo < m
      · have hql : lo < l.length := by have := HM.out; omega
        have e4 := e2 (by rw [List.length_map]; exact hql)
        rw [List.getElem_map] at e4
        have hn' : (lo : Int) < m := by omega
        have hd : decide ((lo : Int) < m) = true := decide_eq_true hn'
        have hd2 : decide (lo < m) = true := decide_eq_true hn
        obtain ⟨b, o, rfl, lb0, hc⟩ := Kind.Row.at (he.mono hbel) (by omega)
        have hE := snv_cells hc lo hql
        have lb := hE.lt
        have c0 := hE.nm
        have c1 := hE.sl
        have F1 : Hid (PN = lo) := Lib.hid (HPN.out.symm.trans e1)
        have F2 : Hid (PB = decide (cmpN l[lo].nm s = 0)) := Lib.hid (HPB.out.symm.trans e4)
        clear hE hc e1 e2 e3 e4
        generalize l[lo] = x at *
        obtain ⟨nm, uo, un, uc⟩ := x
        simp only at c0 c1 F2
        have hcc := cmp_snvs wr ⟨nm, uo, un, uc⟩ s
        simp only at hcc
        generalize cmpN nm s = cc at *
        by_cases hz : cc = 0
        all_goals
          go_wp2_with fail
          refine hcc.mono ?_
          rintro e w' ⟨rfl, hb1⟩
          have hb2 := below_step hbel hb1
          clear hcc hb1
          go_wp2
          refine bodyPost_ret (v := .tuple #[.int .i64 lo, .bool (decide (cc = 0))]) (by simp [results, Try.results88, go_sem, hz]) rfl ?_
          rw [F1.out, F2.out]
          exact ⟨rfl, hb2⟩
      · have F1 : Hid (PN = lo) := Lib.hid (HPN.out.symm.trans e1)
        have F2 : Hid (PB = false) := Lib.hid (HPB.out.symm.trans (e3 (by rw [List.length_map]; have := HM.out; omega)))
        have hn' : ¬ (lo : Int) < m := by omega
        have hd : decide ((lo : Int) < m) = false := decide_eq_false hn'
        have hd2 : decide (lo < m) = false := decide_eq_false hn
        clear e1 e2 e3
        go_wp2
        refine bodyPost_ret (v := .tuple #[.int .i64 lo, .bool false]) (by simp [results, Try.results88, go_sem]) rfl ?_
        rw [F1.out, F2.out]
        exact ⟨rfl, hbel⟩

theorem place_any (w : World) (ao : Option Addr) (m c : Nat) (l : List Ent) (s : ByteArray) (hm : l.length = m) (hm6 : m ≤ 1000) (he : entK.Row w ao l) (hr : Rising (l.map Ent.nm)) :
    Calls Try.prog 59 #[.slice ao m c, .string s] w fun e w' => e = .returned (.tuple #[.int .i64 (placeN (l.map Ent.nm) s), .bool (placeB (l.map Ent.nm) s)]) ∧ Below w.heap.size w w' := by
  have h := search_ents w ao m c l s hm hm6 he hr
  generalize placeN (l.map Ent.nm) s = PN at *
  generalize placeB (l.map Ent.nm) s = PB at *
  clear hm hr
  go_enter Try.func59, Try.ntmps59
  go_wp2_with fail
  refine h.mono ?_
  rintro e w1 ⟨rfl, hb1⟩
  go_wp2
  refine bodyPost_ret (v := .tuple #[.int .i64 PN, .bool PB]) (by simp [results, Try.results59, go_sem]) rfl ?_
  exact ⟨rfl, hb1⟩

theorem snap_any (w : World) (nm : ByteArray) (fo so : Option Addr) (fn fc sn sc : Nat) (vs : List Snv) (s : ByteArray) (hm : vs.length = sn) (hm6 : sn ≤ 1000) (he : snvK.Row w so vs) (hr : Rising (vs.map Snv.nm)) :
    Calls Try.prog 57 #[.agg #[.string nm, .slice fo fn fc, .slice so sn sc], .string s] w fun e w' => e = .returned (.tuple #[.int .i64 (placeN (vs.map Snv.nm) s), .bool (placeB (vs.map Snv.nm) s)]) ∧ Below w.heap.size w w' := by
  have hb0 : Below w.heap.size w (w.alloc (.cells #[.string nm, .slice fo fn fc, .slice so sn sc] 28)) := (Below.refl _ _).alloc (Nat.le_refl _) _
  have h := search_snvs (w.alloc (.cells #[.string nm, .slice fo fn fc, .slice so sn sc] 28)) so sn sc vs s hm hm6 (he.mono hb0) hr
  generalize placeN (vs.map Snv.nm) s = PN at *
  generalize placeB (vs.map Snv.nm) s = PB at *
  clear hm hr
  go_enter Try.func57, Try.ntmps57
  go_wp2_with fail
  refine h.mono ?_
  rintro e w1 ⟨rfl, hb1⟩
  have hb2 := below_step hb0 hb1
  go_wp2
  refine bodyPost_ret (v := .tuple #[.int .i64 PN, .bool PB]) (by simp [results, Try.results57, go_sem]) rfl ?_
  exact ⟨rfl, hb2⟩
end Go.Proofs.Ytgeacpfenhaioaa
