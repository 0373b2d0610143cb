/- disk.newest, check, next: what they compute. -/
import Derived.Test.YtfmgdjgedhnmeaaDiskO
namespace Go.Proofs.Ytfmgdjgedhnmeaa
open Go.RowKit
set_option linter.unusedVariables false
set_option linter.unusedSimpArgs false

/-- a disk as a value -/
structure DiskIn (w : World) (ao : Option Addr) (an ac : Nat) (bo : Option Addr) (bn bc : Nat) (d : DiskV) : Prop where
  a : BytIn w ao an ac d.a
  b : BytIn w bo bn bc d.b
theorem DiskIn.mono {w w' : World} {ao bo : Option Addr} {an ac bn bc : Nat} {d : DiskV} (h : DiskIn w ao an ac bo bn bc d) (hb : Below w.heap.size w w') : DiskIn w' ao an ac bo bn bc d := ⟨h.a.mono hb, h.b.mono hb⟩
def DByt (d : DiskV) : Prop := Byt d.a ∧ Byt d.b
theorem GotZ.slot {K : Nat} {w : World} {v : Value} {ok : Bool} {m : Int} {b : List Int} (h : GotZ K w v ok m (openD b)) (hb : Byt b) : slotN b = (if ok = true then m else -1) ∧ (ok = true → 0 ≤ m) := by
  cases hz : openD b with
  | none =>
    rw [hz] at h
    have h' : ok = false := h
    subst h'
    exact ⟨by rw [slotN_none hz]; rfl, fun h => by cases h⟩
  | some z =>
    rw [hz] at h
    obtain ⟨h1, h2, -⟩ := h
    subst h1
    have := (open_num hb hz).1
    exact ⟨by rw [slotN_some hz, h2]; rfl, fun _ => by omega⟩
theorem lastB_is {d : DiskV} {K1 K2 : Nat} {w1 w2 : World} {v1 v2 : Value} {ok1 ok2 : Bool} {m1 m2 : Int} (hy : DByt d) (h1 : GotZ K1 w1 v1 ok1 m1 (openD d.a)) (h2 : GotZ K2 w2 v2 ok2 m2 (openD d.b)) : lastB d = (ok2 && (!ok1 || decide (m1 < m2))) := by
  obtain ⟨a1, a2⟩ := h1.slot hy.1
  obtain ⟨b1, b2⟩ := h2.slot hy.2
  unfold lastB
  rw [a1, b1]
  cases ok2
  · cases ok1
    · simp
    · have := a2 rfl
      simp
      omega
  · cases ok1
    · have := b2 rfl
      simp
      omega
    · simp

set_option maxRecDepth 100000 in
set_option maxHeartbeats 4000000 in
theorem dcheck_any (w : World) (ao bo : Option Addr) (an ac bn bc : Nat) (d : DiskV) (hd : DiskIn w ao an ac bo bn bc d) :
    Calls Try.prog 57 #[.agg #[.slice ao an ac, .slice bo bn bc]] w fun e w' => e = .returned (.int .i64 (diskE d)) ∧ Below w.heap.size w w' := by
  have p0 : (w.alloc (.cells #[.slice ao an ac, .slice bo bn bc] 57)).heap[w.heap.size]? = some (.cells #[.slice ao an ac, .slice bo bn bc] 57 (0, 0)) := heap_alloc_new _ _
  have hb0 : Below w.heap.size w (w.alloc (.cells #[.slice ao an ac, .slice bo bn bc] 57)) := (Below.refl _ _).alloc (Nat.le_refl _) _
  have c0 := cell_of_block p0 0
  have c1 := cell_of_block p0 1
  simp at c0 c1
  have l0 := lt_heap p0
  have HR : Hid (diskE d = if 20009 < an ∨ 20009 < bn then 2 else 0) := Lib.hid (by unfold diskE; rw [hd.a.len, hd.b.len])
  have HB0 := Lib.hid hb0
  clear hb0 p0
  by_cases h1 : 20009 < an
  · have h1' : (20009 : Int) < an := by omega
    have HR2 := Lib.hid (HR.out.trans (if_pos (.inl h1)))
    go_enter Try.func57, Try.ntmps57
    go_wp2_with fail
    go_ret
    exact ⟨ret_int HR2.out.symm, HB0.out⟩
  · have h1' : ¬ (20009 : Int) < an := by omega
    by_cases h2 : 20009 < bn
    · have h2' : (20009 : Int) < bn := by omega
      have HR2 := Lib.hid (HR.out.trans (if_pos (.inr h2)))
      go_enter Try.func57, Try.ntmps57
      go_wp2_with fail
      go_ret
      exact ⟨ret_int HR2.out.symm, HB0.out⟩
    · have h2' : ¬ (20009 : Int) < bn := by omega
      have HR2 := Lib.hid (HR.out.trans (if_neg (by omega)))
      go_enter Try.func57, Try.ntmps57
      go_wp2_with fail
      go_ret
      exact ⟨ret_int HR2.out.symm, HB0.out⟩

/-- the newest slot -/
def NewestEnd (e : Ending) (w w' : World) (d : DiskV) : Prop :=
  ∃ m so sn sc xo xn xc ok, e = .returned (.tuple #[.bool (lastB d), .int .i64 m, .agg #[.slice so sn sc, .slice xo xn xc], .bool ok]) ∧ GotZ w.heap.size w' (.agg #[.slice so sn sc, .slice xo xn xc]) ok m (newD d) ∧ Below w.heap.size w w'

set_option maxRecDepth 100000 in
set_option maxHeartbeats 16000000 in
theorem newest_any (w : World) (ao bo : Option Addr) (an ac bn bc : Nat) (d : DiskV) (hd : DiskIn w ao an ac bo bn bc d) (hy : DByt d) (he : diskE d = 0) :
    Calls Try.prog 58 #[.agg #[.slice ao an ac, .slice bo bn bc]] w fun e w' => NewestEnd e w w' d := by
  have hne : ¬ (20009 < d.a.length ∨ 20009 < d.b.length) := fun h => by unfold diskE at he; rw [if_pos h] at he; cases he
  have ha : an ≤ 20009 := by rw [← hd.a.len]; omega
  have hb : bn ≤ 20009 := by rw [← hd.b.len]; omega
  have hb0 : Below w.heap.size w ((w.alloc (.cells #[.slice ao an ac, .slice bo bn bc] 57)).alloc (.cells #[.slice none 0 0, .slice none 0 0] 49)) := ((Below.refl _ _).alloc (Nat.le_refl _) _).alloc (by simp) _
  have p0 := heap_alloc2_old w (.cells #[.slice ao an ac, .slice bo bn bc] 57) (.cells #[.slice none 0 0, .slice none 0 0] 49)
  have p1 := heap_alloc2_new w (.cells #[.slice ao an ac, .slice bo bn bc] 57) (.cells #[.slice none 0 0, .slice none 0 0] 49)
  have hs0 : ((w.alloc (.cells #[.slice ao an ac, .slice bo bn bc] 57)).alloc (.cells #[.slice none 0 0, .slice none 0 0] 49)).heap.size = w.heap.size + 2 := by simp
  have HD := Lib.hid (hd.mono hb0)
  have HY := Lib.hid hy
  clear hd hy he hne
  go_enter Try.func58, Try.ntmps58
  go_wp2_with fail
  generalize (w.alloc (.cells #[.slice ao an ac, .slice bo bn bc] 57)).alloc (.cells #[.slice none 0 0, .slice none 0 0] 49) = W0 at *
  refine (dopen_any W0 ao an ac d.a HD.out.a HY.out.1 ha).mono ?_
  rintro e w1 ⟨m1, so1, sn1, sc1, xo1, xn1, xc1, ok1, rfl, hz1, hb1⟩
  have hbp : Below w1.heap.size w1 (w1.alloc (.cells #[.slice so1 sn1 sc1, .slice xo1 xn1 xc1] 49)) := (Below.refl _ _).alloc (Nat.le_refl _) _
  have q1 : (w1.alloc (.cells #[.slice so1 sn1 sc1, .slice xo1 xn1 xc1] 49)).heap[w1.heap.size]? = some (.cells #[.slice so1 sn1 sc1, .slice xo1 xn1 xc1] 49 (0, 0)) := heap_alloc_new _ _
  have hb2 := below_step hb1 hbp
  have hs1 := hb1.size
  have hs2 : (w1.alloc (.cells #[.slice so1 sn1 sc1, .slice xo1 xn1 xc1] 49)).heap.size = w1.heap.size + 1 := by simp
  have HP0 := Lib.hid ((hb2.block _ (lt_heap p0)).trans p0)
  have HP1 := Lib.hid ((hb2.block _ (lt_heap p1)).trans p1)
  have HQ1 := Lib.hid q1
  have HZ1 := Lib.hid (hz1.mono hbp)
  have HD := Lib.hid (HD.out.mono hb2)
  have HBW := Lib.hid (below_step hb0 hb2)
  clear hb0 hb1 hbp hb2 hz1 p0 p1 q1
  have c0 := cell_of_block HP0.out 0
  have c1 := cell_of_block HP0.out 1
  simp at c0 c1
  have l0 := lt_heap HP0.out
  go_wp2_with fail
  generalize w1.alloc (.cells #[.slice so1 sn1 sc1, .slice xo1 xn1 xc1] 49) = W1 at *
  refine (dopen_any W1 bo bn bc d.b HD.out.b HY.out.2 hb).mono ?_
  rintro e w2 ⟨m2, so2, sn2, sc2, xo2, xn2, xc2, ok2, rfl, hz2, hb2⟩
  have hbp : Below w2.heap.size w2 (w2.alloc (.cells #[.slice so2 sn2 sc2, .slice xo2 xn2 xc2] 49)) := (Below.refl _ _).alloc (Nat.le_refl _) _
  have q2 : (w2.alloc (.cells #[.slice so2 sn2 sc2, .slice xo2 xn2 xc2] 49)).heap[w2.heap.size]? = some (.cells #[.slice so2 sn2 sc2, .slice xo2 xn2 xc2] 49 (0, 0)) := heap_alloc_new _ _
  have hb3 := below_step hb2 hbp
  have hs3 := hb2.size
  have hs4 : (w2.alloc (.cells #[.slice so2 sn2 sc2, .slice xo2 xn2 xc2] 49)).heap.size = w2.heap.size + 1 := by simp
  have hp1 := (hb3.block _ (lt_heap HP1.out)).trans HP1.out
  have hq1 := (hb3.block _ (lt_heap HQ1.out)).trans HQ1.out
  have HZ1 := Lib.hid (HZ1.out.mono hb3)
  have HZ2 := Lib.hid (hz2.mono hbp)
  have HBW := Lib.hid (below_step HBW.out hb3)
  have n1 : w.heap.size + 1 ≠ w1.heap.size := by omega
  have n2 : w.heap.size + 1 ≠ w2.heap.size := by omega
  have n3 : w1.heap.size ≠ w2.heap.size := by omega
  have n4 : w1.heap.size ≠ w.heap.size + 1 := by omega
  have n5 : w2.heap.size ≠ w.heap.size + 1 := by omega
  have n6 : w2.heap.size ≠ w1.heap.size := by omega
  have HL := Lib.hid (show w.heap.size + 2 ≤ w1.heap.size ∧ w1.heap.size + 1 ≤ w2.heap.size from ⟨by omega, by omega⟩)
  have HWA := Lib.hid (show w.heap.size + 1 < W0.heap.size ∧ w.heap.size + 1 < W1.heap.size ∧ w.heap.size ≤ W0.heap.size ∧ w.heap.size ≤ W1.heap.size by omega)
  clear hb2 hbp hb3 hz2 c0 c1 l0 hs3
  have HL0 := Lib.hid (lastB_is HY.out HZ1.out HZ2.out)
  have HQ2 := Lib.hid q2
  have a0 := cell_of_block hq1 0
  have a1 := cell_of_block hq1 1
  have b0 := cell_of_block hp1 0
  have b1 := cell_of_block hp1 1
  have g0 := free_of_block hp1 0
  have g1 := free_of_block hp1 1
  have l2 := lt_heap hq1
  have l3 := lt_heap hp1
  have HQ1 := Lib.hid hq1
  have HP1 := Lib.hid hp1
  simp at a0 a1 b0 b1
  clear hq1 hp1 q2 HP0 HD
  cases ok2 with
  | false =>
    have HLB : Hid (lastB d = false) := Lib.hid (by rw [HL0.out]; simp)
    go_wp2_with fail
    generalize w2.alloc (.cells #[.slice so2 sn2 sc2, .slice xo2 xn2 xc2] 49) = W2 at *
    have e0 := cell_of_block HQ2.out 0
    have e1 := cell_of_block HQ2.out 1
    have l1 := lt_heap HQ2.out
    simp at e0 e1
    go_region
    all_goals
      go_wp2_with fail
      have p9 := heap_setCell_same' (heap_setCell_same' HP1.out 0 (.slice so1 sn1 sc1)) 1 (.slice xo1 xn1 xc1)
      simp at p9
      have hb9 : Below w.heap.size w ((W2.setCell ⟨w.heap.size + 1, 0, none⟩ (.slice so1 sn1 sc1)).setCell ⟨w.heap.size + 1, 1, none⟩ (.slice xo1 xn1 xc1)).drew := ((HBW.out.setCell (p := ⟨w.heap.size + 1, 0, none⟩) (Nat.le_succ _) (.slice so1 sn1 sc1)).setCell (p := ⟨w.heap.size + 1, 1, none⟩) (Nat.le_succ _) (.slice xo1 xn1 xc1)).trans (Below.refl _ _).drew
      have hv9 := (((HZ1.out.put (c := w.heap.size + 1) (i := 0) (x := .slice so1 sn1 sc1) (by have := HWA.out; omega)).put (c := w.heap.size + 1) (i := 1) (x := .slice xo1 xn1 xc1) (by have := HWA.out; omega)).mono (Below.refl _ _).drew).weaken (K' := w.heap.size) (by have := HWA.out; omega)
      replace p9 : ((W2.setCell ⟨w.heap.size + 1, 0, none⟩ (.slice so1 sn1 sc1)).setCell ⟨w.heap.size + 1, 1, none⟩ (.slice xo1 xn1 xc1)).drew.heap[w.heap.size + 1]? = some (.cells #[.slice so1 sn1 sc1, .slice xo1 xn1 xc1] 49 (0, 0)) := p9
      generalize ((W2.setCell ⟨w.heap.size + 1, 0, none⟩ (.slice so1 sn1 sc1)).setCell ⟨w.heap.size + 1, 1, none⟩ (.slice xo1 xn1 xc1)).drew = WZ at *
      have z0 := cell_of_block p9 0
      have z1 := cell_of_block p9 1
      simp at z0 z1
      refine bodyPost_ret (v := .tuple #[.bool false, .int .i64 m1, .agg #[.slice so1 sn1 sc1, .slice xo1 xn1 xc1], .bool ok1]) (by simp [results, Try.results58, go_sem, z0, z1]) rfl ?_
      exact ⟨m1, so1, sn1, sc1, xo1, xn1, xc1, ok1, by rw [HLB.out], by unfold newD; rw [HLB.out]; exact hv9, hb9⟩
  | true =>
    cases ok1 with
    | false =>
      have HLB : Hid (lastB d = true) := Lib.hid (by rw [HL0.out]; simp)
      go_wp2_with fail
      generalize w2.alloc (.cells #[.slice so2 sn2 sc2, .slice xo2 xn2 xc2] 49) = W2 at *
      have e0 := cell_of_block HQ2.out 0
      have e1 := cell_of_block HQ2.out 1
      have l1 := lt_heap HQ2.out
      simp at e0 e1
      go_region
      all_goals
        go_wp2_with fail
        have p9 := heap_setCell_same' (heap_setCell_same' HP1.out 0 (.slice so2 sn2 sc2)) 1 (.slice xo2 xn2 xc2)
        simp at p9
        have hb9 : Below w.heap.size w ((W2.setCell ⟨w.heap.size + 1, 0, none⟩ (.slice so2 sn2 sc2)).setCell ⟨w.heap.size + 1, 1, none⟩ (.slice xo2 xn2 xc2)).drew := ((HBW.out.setCell (p := ⟨w.heap.size + 1, 0, none⟩) (Nat.le_succ _) (.slice so2 sn2 sc2)).setCell (p := ⟨w.heap.size + 1, 1, none⟩) (Nat.le_succ _) (.slice xo2 xn2 xc2)).trans (Below.refl _ _).drew
        have hv9 := (((HZ2.out.put (c := w.heap.size + 1) (i := 0) (x := .slice so2 sn2 sc2) (by have := HWA.out; omega)).put (c := w.heap.size + 1) (i := 1) (x := .slice xo2 xn2 xc2) (by have := HWA.out; omega)).mono (Below.refl _ _).drew).weaken (K' := w.heap.size) (by have := HWA.out; omega)
        replace p9 : ((W2.setCell ⟨w.heap.size + 1, 0, none⟩ (.slice so2 sn2 sc2)).setCell ⟨w.heap.size + 1, 1, none⟩ (.slice xo2 xn2 xc2)).drew.heap[w.heap.size + 1]? = some (.cells #[.slice so2 sn2 sc2, .slice xo2 xn2 xc2] 49 (0, 0)) := p9
        generalize ((W2.setCell ⟨w.heap.size + 1, 0, none⟩ (.slice so2 sn2 sc2)).setCell ⟨w.heap.size + 1, 1, none⟩ (.slice xo2 xn2 xc2)).drew = WZ at *
        have z0 := cell_of_block p9 0
        have z1 := cell_of_block p9 1
        simp at z0 z1
        refine bodyPost_ret (v := .tuple #[.bool true, .int .i64 m2, .agg #[.slice so2 sn2 sc2, .slice xo2 xn2 xc2], .bool true]) (by simp [results, Try.results58, go_sem, z0, z1]) rfl ?_
        exact ⟨m2, so2, sn2, sc2, xo2, xn2, xc2, true, by rw [HLB.out], by unfold newD; rw [HLB.out]; exact hv9, hb9⟩
    | true =>
      by_cases hm : m1 < m2
      · have HLB : Hid (lastB d = true) := Lib.hid (by rw [HL0.out]; simp [hm])
        go_wp2_with fail
        generalize w2.alloc (.cells #[.slice so2 sn2 sc2, .slice xo2 xn2 xc2] 49) = W2 at *
        have e0 := cell_of_block HQ2.out 0
        have e1 := cell_of_block HQ2.out 1
        have l1 := lt_heap HQ2.out
        simp at e0 e1
        go_region
        all_goals
          go_wp2_with fail
          have p9 := heap_setCell_same' (heap_setCell_same' HP1.out 0 (.slice so2 sn2 sc2)) 1 (.slice xo2 xn2 xc2)
          simp at p9
          have hb9 : Below w.heap.size w ((W2.setCell ⟨w.heap.size + 1, 0, none⟩ (.slice so2 sn2 sc2)).setCell ⟨w.heap.size + 1, 1, none⟩ (.slice xo2 xn2 xc2)).drew := ((HBW.out.setCell (p := ⟨w.heap.size + 1, 0, none⟩) (Nat.le_succ _) (.slice so2 sn2 sc2)).setCell (p := ⟨w.heap.size + 1, 1, none⟩) (Nat.le_succ _) (.slice xo2 xn2 xc2)).trans (Below.refl _ _).drew
          have hv9 := (((HZ2.out.put (c := w.heap.size + 1) (i := 0) (x := .slice so2 sn2 sc2) (by have := HWA.out; omega)).put (c := w.heap.size + 1) (i := 1) (x := .slice xo2 xn2 xc2) (by have := HWA.out; omega)).mono (Below.refl _ _).drew).weaken (K' := w.heap.size) (by have := HWA.out; omega)
          replace p9 : ((W2.setCell ⟨w.heap.size + 1, 0, none⟩ (.slice so2 sn2 sc2)).setCell ⟨w.heap.size + 1, 1, none⟩ (.slice xo2 xn2 xc2)).drew.heap[w.heap.size + 1]? = some (.cells #[.slice so2 sn2 sc2, .slice xo2 xn2 xc2] 49 (0, 0)) := p9
          generalize ((W2.setCell ⟨w.heap.size + 1, 0, none⟩ (.slice so2 sn2 sc2)).setCell ⟨w.heap.size + 1, 1, none⟩ (.slice xo2 xn2 xc2)).drew = WZ at *
          have z0 := cell_of_block p9 0
          have z1 := cell_of_block p9 1
          simp at z0 z1
          refine bodyPost_ret (v := .tuple #[.bool true, .int .i64 m2, .agg #[.slice so2 sn2 sc2, .slice xo2 xn2 xc2], .bool true]) (by simp [results, Try.results58, go_sem, z0, z1]) rfl ?_
          exact ⟨m2, so2, sn2, sc2, xo2, xn2, xc2, true, by rw [HLB.out], by unfold newD; rw [HLB.out]; exact hv9, hb9⟩
      · have HLB : Hid (lastB d = false) := Lib.hid (by rw [HL0.out]; simp [hm])
        go_wp2_with fail
        generalize w2.alloc (.cells #[.slice so2 sn2 sc2, .slice xo2 xn2 xc2] 49) = W2 at *
        have e0 := cell_of_block HQ2.out 0
        have e1 := cell_of_block HQ2.out 1
        have l1 := lt_heap HQ2.out
        simp at e0 e1
        go_region
        all_goals
          go_wp2_with fail
          have p9 := heap_setCell_same' (heap_setCell_same' HP1.out 0 (.slice so1 sn1 sc1)) 1 (.slice xo1 xn1 xc1)
          simp at p9
          have hb9 : Below w.heap.size w ((W2.setCell ⟨w.heap.size + 1, 0, none⟩ (.slice so1 sn1 sc1)).setCell ⟨w.heap.size + 1, 1, none⟩ (.slice xo1 xn1 xc1)).drew := ((HBW.out.setCell (p := ⟨w.heap.size + 1, 0, none⟩) (Nat.le_succ _) (.slice so1 sn1 sc1)).setCell (p := ⟨w.heap.size + 1, 1, none⟩) (Nat.le_succ _) (.slice xo1 xn1 xc1)).trans (Below.refl _ _).drew
          have hv9 := (((HZ1.out.put (c := w.heap.size + 1) (i := 0) (x := .slice so1 sn1 sc1) (by have := HWA.out; omega)).put (c := w.heap.size + 1) (i := 1) (x := .slice xo1 xn1 xc1) (by have := HWA.out; omega)).mono (Below.refl _ _).drew).weaken (K' := w.heap.size) (by have := HWA.out; omega)
          replace p9 : ((W2.setCell ⟨w.heap.size + 1, 0, none⟩ (.slice so1 sn1 sc1)).setCell ⟨w.heap.size + 1, 1, none⟩ (.slice xo1 xn1 xc1)).drew.heap[w.heap.size + 1]? = some (.cells #[.slice so1 sn1 sc1, .slice xo1 xn1 xc1] 49 (0, 0)) := p9
          generalize ((W2.setCell ⟨w.heap.size + 1, 0, none⟩ (.slice so1 sn1 sc1)).setCell ⟨w.heap.size + 1, 1, none⟩ (.slice xo1 xn1 xc1)).drew = WZ at *
          have z0 := cell_of_block p9 0
          have z1 := cell_of_block p9 1
          simp at z0 z1
          refine bodyPost_ret (v := .tuple #[.bool false, .int .i64 m1, .agg #[.slice so1 sn1 sc1, .slice xo1 xn1 xc1], .bool true]) (by simp [results, Try.results58, go_sem, z0, z1]) rfl ?_
          exact ⟨m1, so1, sn1, sc1, xo1, xn1, xc1, true, by rw [HLB.out], by unfold newD; rw [HLB.out]; exact hv9, hb9⟩
end Go.Proofs.Ytfmgdjgedhnmeaa
