/- send.place: where a name stands among entries, and whether it does. -/
import Derived.Test.YtfmgdjgedhnmeaaPlace
namespace Go.Proofs.Ytfmgdjgedhnmeaa
open Go.RowKit
set_option linter.unusedVariables false
set_option linter.unusedSimpArgs false

theorem scmp_ents (w : World) (x : Ent) (s : ByteArray) : Calls Try.prog 64 #[.agg #[.string x.nm, .int .i64 x.root, .int .i64 x.size], .string s] w fun e w' => e = .returned (.int .i64 (cmpN x.nm s)) ∧ Below w.heap.size w w' := by
  have hb0 : Below w.heap.size w (w.alloc (.cells #[.string x.nm, .int .i64 x.root, .int .i64 x.size] 37)) := (Below.refl _ _).alloc (Nat.le_refl _) _
  go_enter Try.func64, Try.ntmps64
  go_wp2_with (go_at_call 65; refine (compare_any _ _ _).mono ?_; rintro e w' ⟨rfl, rfl⟩)
  go_ret
  exact ⟨rfl, hb0⟩

set_option maxRecDepth 100000 in
set_option maxHeartbeats 4000000 in
theorem ssearch_ents (w : World) (ao : Option Addr) (m c : Nat) (l : List Ent) (s : ByteArray) (hm : l.length = m) (hm6 : m ≤ 1000) (he : entK.Row w ao l) (hr : Rising (l.map Ent.nm)) :
    Calls Try.prog 63 #[.slice ao m c, .string s, .func (.func 64) #[] #[]] w fun e w' => e = .returned (.tuple #[.int .i64 (placeN (l.map Ent.nm) s), .bool (placeB (l.map Ent.nm) s)]) ∧ Below w.heap.size w w' := by
  have HM := Lib.hid hm
  have HR := Lib.hid hr
  have hm6' : (m : Int) ≤ 1000 := by omega
  obtain ⟨PN, hPN⟩ : ∃ PN, placeN (l.map Ent.nm) s = PN := ⟨_, rfl⟩
  obtain ⟨PB, hPB⟩ : ∃ PB, placeB (l.map Ent.nm) s = PB := ⟨_, rfl⟩
  rw [hPN, hPB]
  have HPN := Lib.hid hPN
  have HPB := Lib.hid hPB
  clear hm hr hPN hPB
  go_enter Try.func63, Try.ntmps63
  go_wp2
  go_loopw [9, 10] (fun i j wr => ∃ lo hi : Nat, i = .int .i64 lo ∧ j = .int .i64 hi ∧ lo ≤ hi ∧ hi ≤ m ∧ Below w.heap.size w wr ∧
    Hid (∀ t (h : t < (l.map Ent.nm).length), t < lo → cmpN (l.map Ent.nm)[t] s < 0) ∧ Hid (∀ t (h : t < (l.map Ent.nm).length), hi ≤ t → 0 ≤ cmpN (l.map Ent.nm)[t] s)) (fun i j _ => (intOf j).toNat - (intOf i).toNat)
  case atStart => exact ⟨0, m, rfl, rfl, Nat.zero_le _, Nat.le_refl _, Below.refl _ _, Lib.hid fun t _ h => absurd h (by omega), Lib.hid fun t h h2 => absurd h (by rw [List.length_map]; have := HM.out; omega)⟩
  case round =>
    obtain ⟨lo, hi, rfl, rfl, hlh, hin, hbel, I1, I2⟩ := hrel
    by_cases hlt : lo < hi
    · obtain ⟨q, hq⟩ : ∃ q, (lo + hi) / 2 = q := ⟨_, rfl⟩
      have hqm : q < l.length := by have := HM.out; omega
      have hqm' : q < (l.map Ent.nm).length := by rw [List.length_map]; exact hqm
      obtain ⟨b, o, rfl, lb0, hc⟩ := Kind.Row.at (he.mono hbel) (by omega)
      have hE := ent_cells hc q hqm
      have lb := hE.lt
      have c0 := hE.nm
      have c1 := hE.root
      have c2 := hE.size
      have hlow := Lib.hid (search_low (s := s) HR.out q hqm')
      have hhigh := Lib.hid (search_high (s := s) HR.out q hqm')
      have hnm : (l.map Ent.nm)[q] = l[q].nm := List.getElem_map _
      rw [hnm] at hlow hhigh
      have hq1 : ((lo : Int) + hi) / 2 = (q : Int) := by omega
      have hlt' : (lo : Int) < hi := by omega
      have hqm2 : (q : Int) < m := by have := HM.out; omega
      have HQ := Lib.hid hq
      have hq2 : lo ≤ q ∧ q < hi := by omega
      have HQ2 := Lib.hid hq2
      clear hE hc hq hnm hq2
      generalize l[q] = x at *
      obtain ⟨nm, root, size⟩ := x
      simp only at c0 c1 c2 hlow hhigh
      have hcc := scmp_ents wr ⟨nm, root, size⟩ s
      simp only at hcc
      by_cases hx : cmpN nm s < 0
      · have I3 := Lib.hid (hlow.out hx)
        clear hlow hhigh
        generalize cmpN nm s = cc at *
        go_wp2_with fail
        refine hcc.mono ?_
        rintro e w' ⟨rfl, hb1⟩
        have hb2 := below_step hbel hb1
        clear hcc hb1
        go_wp2
        go_roundw
        case rel => exact ⟨q + 1, hi, by go_num, rfl, by have := HQ2.out; omega, hin, hb2, I3, I2⟩
        case measure => simp [intOf]; have := HQ2.out; omega
      · have I3 := Lib.hid (hhigh.out hx)
        clear hlow hhigh
        generalize cmpN nm s = cc at *
        go_wp2_with fail
        refine hcc.mono ?_
        rintro e w' ⟨rfl, hb1⟩
        have hb2 := below_step hbel hb1
        clear hcc hb1
        go_wp2
        go_roundw
        case rel => exact ⟨lo, q, rfl, by go_num, by have := HQ2.out; omega, by have := HQ2.out; omega, hb2, I1, I3⟩
        case measure => simp [intOf]; have := HQ2.out; omega
    · obtain rfl : lo = hi := by omega
      have hlt' : ¬ (lo : Int) < lo := by omega
      obtain ⟨e1, e2, e3⟩ := search_end HR.out lo (by rw [List.length_map]; have := HM.out; omega) I1.out I2.out
      by_cases hn : lo < m
      · have hql : lo < l.length := by have := HM.out; omega
        have e4 := e2 (by rw [List.length_map]; exact hql)
        rw [List.getElem_map] at e4
        have hn' : (lo : Int) < m := by omega
        have hd : decide ((lo : Int) < m) = true := decide_eq_true hn'
        have hd2 : decide (lo < m) = true := decide_eq_true hn
        obtain ⟨b, o, rfl, lb0, hc⟩ := Kind.Row.at (he.mono hbel) (by omega)
        have hE := ent_cells hc lo hql
        have lb := hE.lt
        have c0 := hE.nm
        have c1 := hE.root
        have c2 := hE.size
        have F1 : Hid (PN = lo) := Lib.hid (HPN.out.symm.trans e1)
        have F2 : Hid (PB = decide (cmpN l[lo].nm s = 0)) := Lib.hid (HPB.out.symm.trans e4)
        clear hE hc e1 e2 e3 e4
        generalize l[lo] = x at *
        obtain ⟨nm, root, size⟩ := x
        simp only at c0 c1 c2 F2
        have hcc := scmp_ents wr ⟨nm, root, size⟩ s
        simp only at hcc
        generalize cmpN nm s = cc at *
        by_cases hz : cc = 0
        all_goals
          go_wp2_with fail
          refine hcc.mono ?_
          rintro e w' ⟨rfl, hb1⟩
          have hb2 := below_step hbel hb1
          clear hcc hb1
          go_wp2
          refine bodyPost_ret (v := .tuple #[.int .i64 lo, .bool (decide (cc = 0))]) (by simp [results, Try.results63, go_sem, hz]) rfl ?_
          rw [F1.out, F2.out]
          exact ⟨rfl, hb2⟩
      · have F1 : Hid (PN = lo) := Lib.hid (HPN.out.symm.trans e1)
        have F2 : Hid (PB = false) := Lib.hid (HPB.out.symm.trans (e3 (by rw [List.length_map]; have := HM.out; omega)))
        have hn' : ¬ (lo : Int) < m := by omega
        have hd : decide ((lo : Int) < m) = false := decide_eq_false hn'
        have hd2 : decide (lo < m) = false := decide_eq_false hn
        clear e1 e2 e3
        go_wp2
        refine bodyPost_ret (v := .tuple #[.int .i64 lo, .bool false]) (by simp [results, Try.results63, go_sem]) rfl ?_
        rw [F1.out, F2.out]
        exact ⟨rfl, hbel⟩

theorem splace_any (w : World) (ao : Option Addr) (m c : Nat) (l : List Ent) (s : ByteArray) (hm : l.length = m) (hm6 : m ≤ 1000) (he : entK.Row w ao l) (hr : Rising (l.map Ent.nm)) :
    Calls Try.prog 29 #[.slice ao m c, .string s] w fun e w' => e = .returned (.tuple #[.int .i64 (placeN (l.map Ent.nm) s), .bool (placeB (l.map Ent.nm) s)]) ∧ Below w.heap.size w w' := by
  have h := ssearch_ents w ao m c l s hm hm6 he hr
  generalize placeN (l.map Ent.nm) s = PN at *
  generalize placeB (l.map Ent.nm) s = PB at *
  clear hm hr
  go_enter Try.func29, Try.ntmps29
  go_wp2_with fail
  refine h.mono ?_
  rintro e w1 ⟨rfl, hb1⟩
  go_wp2
  refine bodyPost_ret (v := .tuple #[.int .i64 PN, .bool PB]) (by simp [results, Try.results29, go_sem]) rfl ?_
  exact ⟨rfl, hb1⟩

end Go.Proofs.Ytfmgdjgedhnmeaa
