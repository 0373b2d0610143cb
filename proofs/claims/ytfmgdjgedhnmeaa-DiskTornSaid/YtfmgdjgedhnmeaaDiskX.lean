/- disk.Recover, Commit, Torn: what they compute. -/
import Derived.Test.YtfmgdjgedhnmeaaDiskW
namespace Go.Proofs.Ytfmgdjgedhnmeaa
open Go.RowKit
set_option linter.unusedVariables false
set_option linter.unusedSimpArgs false

theorem VPool.alloc {K : Nat} {w : World} {v : Value} {p : PoolV} (h : VPool K w v p) (o : Obj) : VPool K (w.alloc o) v p := h.mono ((Below.refl _ _).alloc (Nat.le_refl _) o)
theorem recoverD_bad {d : DiskV} (h : diskE d ≠ 0) : recoverD d = (noPool, 0, diskE d) := by
  have h2 : diskE d = 2 := by
    unfold diskE at h ⊢
    split
    · rfl
    · rename_i hn; rw [if_neg hn] at h; exact absurd rfl h
  unfold recoverD
  rw [if_pos h, h2]
theorem recoverD_none {d : DiskV} (h : diskE d = 0) (h3 : newD d = none) : recoverD d = (noPool, 0, 9) := by
  unfold recoverD
  rw [if_neg (not_not_intro h), h3]
theorem recoverD_some {d : DiskV} {z : Int × PoolV} (h : diskE d = 0) (h3 : newD d = some z) : recoverD d = (z.2, z.1, 0) := by
  unfold recoverD
  rw [if_neg (not_not_intro h), h3]
/-- a pool that was recovered -/
def RecEnd (e : Ending) (w w' : World) (z : PoolV × Int × Int) : Prop :=
  ∃ so sn sc xo xn xc, e = .returned (.tuple #[.agg #[.slice so sn sc, .slice xo xn xc], .int .i64 z.2.1, .int .i64 z.2.2]) ∧ PoolIn w' so sn sc xo xn xc z.1 ∧ WfP z.1 ∧ Below w.heap.size w w'

set_option maxRecDepth 100000 in
set_option maxHeartbeats 16000000 in
theorem recover_any (w : World) (ao bo : Option Addr) (an ac bn bc : Nat) (d : DiskV) (hd : DiskIn w ao an ac bo bn bc d) (hy : DByt d) :
    Calls Try.prog 24 #[.agg #[.slice ao an ac, .slice bo bn bc]] w fun e w' => RecEnd e w w' (recoverD d) := by
  have hb0 : Below w.heap.size w ((w.alloc (.cells #[.slice ao an ac, .slice bo bn bc] 57)).alloc (.cells #[.slice none 0 0, .slice none 0 0] 49)) := ((Below.refl _ _).alloc (Nat.le_refl _) _).alloc (by simp) _
  have p0 := heap_alloc2_old w (.cells #[.slice ao an ac, .slice bo bn bc] 57) (.cells #[.slice none 0 0, .slice none 0 0] 49)
  have p1 := heap_alloc2_new w (.cells #[.slice ao an ac, .slice bo bn bc] 57) (.cells #[.slice none 0 0, .slice none 0 0] 49)
  have hs0 : ((w.alloc (.cells #[.slice ao an ac, .slice bo bn bc] 57)).alloc (.cells #[.slice none 0 0, .slice none 0 0] 49)).heap.size = w.heap.size + 2 := by simp
  have HD := Lib.hid (hd.mono hb0)
  have HY := Lib.hid hy
  obtain ⟨Z, hZ⟩ : ∃ Z, recoverD d = Z := ⟨_, rfl⟩
  have HZ := Lib.hid hZ
  obtain ⟨E, hE⟩ : ∃ E, diskE d = E := ⟨_, rfl⟩
  have HE := Lib.hid hE
  rw [hZ]
  clear hd hy hZ hE
  go_enter Try.func24, Try.ntmps24
  go_wp2_with fail
  generalize (w.alloc (.cells #[.slice ao an ac, .slice bo bn bc] 57)).alloc (.cells #[.slice none 0 0, .slice none 0 0] 49) = W0 at *
  refine (dcheck_any W0 ao bo an ac bn bc d HD.out).mono ?_
  rintro e w1 ⟨rfl, hb1⟩
  rw [HE.out]
  have hs1 := hb1.size
  have HP0 := Lib.hid ((hb1.block _ (lt_heap p0)).trans p0)
  have HP1 := Lib.hid ((hb1.block _ (lt_heap p1)).trans p1)
  have HD := Lib.hid (HD.out.mono hb1)
  have HBW := Lib.hid (below_step hb0 hb1)
  clear hb0 hb1 p0 p1
  have c0 := cell_of_block HP0.out 0
  have c1 := cell_of_block HP0.out 1
  have d0 := cell_of_block HP1.out 0
  have d1 := cell_of_block HP1.out 1
  have f0 := free_of_block HP1.out 0
  have f1 := free_of_block HP1.out 1
  have l0 := lt_heap HP0.out
  have l1 := lt_heap HP1.out
  simp at c0 c1 d0 d1
  by_cases hE0 : E = 0
  · subst hE0
    go_wp2_with fail
    refine (newest_any w1 ao bo an ac bn bc d HD.out HY.out HE.out).mono ?_
    rintro e w3 ⟨m, qo, qn, qc, ro, rn, rc, ok, rfl, hz, hb3⟩
    have hbp : Below w3.heap.size w3 (w3.alloc (.cells #[.slice qo qn qc, .slice ro rn rc] 49)) := (Below.refl _ _).alloc (Nat.le_refl _) _
    have q3 : (w3.alloc (.cells #[.slice qo qn qc, .slice ro rn rc] 49)).heap[w3.heap.size]? = some (.cells #[.slice qo qn qc, .slice ro rn rc] 49 (0, 0)) := heap_alloc_new _ _
    have hb4 := below_step hb3 hbp
    have hs3 := hb3.size
    have HBW := Lib.hid (below_step HBW.out hb3)
    have hp13 := (hb3.block _ l1).trans HP1.out
    have HP1 := Lib.hid hp13
    have HQ3 := Lib.hid q3
    have HGZ := Lib.hid hz
    have n1 : w.heap.size + 1 ≠ w3.heap.size := by omega
    have n2 : w3.heap.size ≠ w.heap.size + 1 := by omega
    have HKW := Lib.hid (show w.heap.size + 1 < w1.heap.size by omega)
    clear hz hb3 hbp hb4 q3 c0 c1 d0 d1 f0 f1 l0 l1 HP0 HD
    have d0 := cell_of_block hp13 0
    have d1 := cell_of_block hp13 1
    have f0 := free_of_block hp13 0
    have f1 := free_of_block hp13 1
    have l1 := lt_heap hp13
    simp at d0 d1
    clear hp13
    obtain ⟨LB, hLB⟩ : ∃ LB, lastB d = LB := ⟨_, rfl⟩
    rw [hLB]
    clear hLB
    cases ok with
    | false =>
      have HR : Hid (Z = (noPool, 0, 9)) := Lib.hid (by
        rw [← HZ.out]
        refine recoverD_none HE.out ?_
        have h := HGZ.out
        cases hn : newD d with
        | none => rfl
        | some z => rw [hn] at h; cases h.1)
      go_wp2_with fail
      have r1 := box2_heap (x := none) (xn := 0) (xc := 0) (y := none) (yn := 0) (yc := 0) HP1.out
      have hb9 := (HBW.out.setCell (p := ⟨w.heap.size + 1, 0, none⟩) (Nat.le_succ _) (.slice none 0 0)).setCell (p := ⟨w.heap.size + 1, 1, none⟩) (Nat.le_succ _) (.slice none 0 0)
      have r9 : (((w3.setCell ⟨w.heap.size + 1, 0, none⟩ (.slice none 0 0)).setCell ⟨w.heap.size + 1, 1, none⟩ (.slice none 0 0)).alloc (.cells #[.slice qo qn qc, .slice ro rn rc] 49)).heap[w.heap.size + 1]? = some (.cells #[.slice none 0 0, .slice none 0 0] 49 (0, 0)) := (Below.heap_alloc _ _ _ (lt_heap r1)).trans r1
      have hb10 := hb9.alloc hb9.size (.cells #[.slice qo qn qc, .slice ro rn rc] 49)
      generalize ((w3.setCell ⟨w.heap.size + 1, 0, none⟩ (.slice none 0 0)).setCell ⟨w.heap.size + 1, 1, none⟩ (.slice none 0 0)).alloc (.cells #[.slice qo qn qc, .slice ro rn rc] 49) = WZ at *
      have z0 := cell_of_block r9 0
      have z1 := cell_of_block r9 1
      simp at z0 z1
      refine bodyPost_ret (v := .tuple #[.agg #[.slice none 0 0, .slice none 0 0], .int .i64 0, .int .i64 9]) (by simp [results, Try.results24, go_sem, z0, z1]) rfl ?_
      rw [HR.out]
      exact ⟨_, _, _, _, _, _, rfl, noPool_in _, noPool_wf, hb10⟩
    | true =>
      obtain ⟨P, HP⟩ : ∃ P, Hid (newD d = some (m, P) ∧ VPool w1.heap.size w3 (.agg #[.slice qo qn qc, .slice ro rn rc]) P ∧ WfP P) := by
        have h := HGZ.out
        cases hn : newD d with
        | none => rw [hn] at h; cases h
        | some z => rw [hn] at h; exact ⟨z.2, Lib.hid ⟨by rw [h.2.1], h.2.2⟩⟩
      have HR : Hid (Z = (P, m, 0)) := Lib.hid (by rw [← HZ.out]; exact recoverD_some HE.out HP.out.1)
      go_wp2_with fail
      have r1 := box2_heap (x := qo) (xn := qn) (xc := qc) (y := ro) (yn := rn) (yc := rc) HP1.out
      have hb9 := (HBW.out.setCell (p := ⟨w.heap.size + 1, 0, none⟩) (Nat.le_succ _) (.slice qo qn qc)).setCell (p := ⟨w.heap.size + 1, 1, none⟩) (Nat.le_succ _) (.slice ro rn rc)
      have hv9 := (HP.out.2.1.put (c := w.heap.size + 1) (i := 0) (x := .slice qo qn qc) HKW.out).put (c := w.heap.size + 1) (i := 1) (x := .slice ro rn rc) HKW.out
      have r9 : (((w3.setCell ⟨w.heap.size + 1, 0, none⟩ (.slice qo qn qc)).setCell ⟨w.heap.size + 1, 1, none⟩ (.slice ro rn rc)).alloc (.cells #[.slice qo qn qc, .slice ro rn rc] 49)).heap[w.heap.size + 1]? = some (.cells #[.slice qo qn qc, .slice ro rn rc] 49 (0, 0)) := (Below.heap_alloc _ _ _ (lt_heap r1)).trans r1
      have hb10 := hb9.alloc hb9.size (.cells #[.slice qo qn qc, .slice ro rn rc] 49)
      have hv10 := hv9.alloc (.cells #[.slice qo qn qc, .slice ro rn rc] 49)
      generalize ((w3.setCell ⟨w.heap.size + 1, 0, none⟩ (.slice qo qn qc)).setCell ⟨w.heap.size + 1, 1, none⟩ (.slice ro rn rc)).alloc (.cells #[.slice qo qn qc, .slice ro rn rc] 49) = WZ at *
      have z0 := cell_of_block r9 0
      have z1 := cell_of_block r9 1
      simp at z0 z1
      refine bodyPost_ret (v := .tuple #[.agg #[.slice qo qn qc, .slice ro rn rc], .int .i64 m, .int .i64 0]) (by simp [results, Try.results24, go_sem, z0, z1]) rfl ?_
      rw [HR.out]
      exact ⟨_, _, _, _, _, _, rfl, hv10.inn, HP.out.2.2, hb10⟩
  · have HR : Hid (Z = (noPool, 0, E)) := Lib.hid (by rw [← HZ.out, recoverD_bad (by rw [HE.out]; exact hE0), HE.out])
    have q1 : (E == 0) = false := by rw [beq_eq_false_iff_ne]; exact hE0
    clear hE0
    go_wp2_with fail
    have r1 := box2_heap (x := none) (xn := 0) (xc := 0) (y := none) (yn := 0) (yc := 0) HP1.out
    have hb9 := (HBW.out.setCell (p := ⟨w.heap.size + 1, 0, none⟩) (Nat.le_succ _) (.slice none 0 0)).setCell (p := ⟨w.heap.size + 1, 1, none⟩) (Nat.le_succ _) (.slice none 0 0)
    have r9 := r1
    have hb10 := hb9
    generalize ((w1.setCell ⟨w.heap.size + 1, 0, none⟩ (.slice none 0 0)).setCell ⟨w.heap.size + 1, 1, none⟩ (.slice none 0 0)) = WZ at *
    have z0 := cell_of_block r9 0
    have z1 := cell_of_block r9 1
    simp at z0 z1
    refine bodyPost_ret (v := .tuple #[.agg #[.slice none 0 0, .slice none 0 0], .int .i64 0, .int .i64 E]) (by simp [results, Try.results24, go_sem, z0, z1]) rfl ?_
    rw [HR.out]
    exact ⟨_, _, _, _, _, _, rfl, noPool_in _, noPool_wf, hb10⟩
/-- a disk and what was wrong -/
def ComEnd (e : Ending) (w w' : World) (z : DiskV × Int) : Prop :=
  ∃ ao an ac bo bn bc, e = .returned (.tuple #[.agg #[.slice ao an ac, .slice bo bn bc], .int .i64 z.2]) ∧ DiskIn w' ao an ac bo bn bc z.1 ∧ Below w.heap.size w w'
theorem noD_in (w : World) : DiskIn w none 0 0 none 0 0 ⟨[], []⟩ := ⟨⟨rfl, .inl rfl, ⟨Nat.le_refl _, fun _ => rfl⟩⟩, ⟨rfl, .inl rfl, ⟨Nat.le_refl _, fun _ => rfl⟩⟩⟩
theorem next_ok {d : DiskV} {p : PoolV} (h : (nextD d p).2.2 = 0) : diskE d = 0 := by
  by_cases hd : diskE d = 0
  · exact hd
  · rw [nextD_bad hd] at h
    exact h
theorem three_boxes (w : World) (a b c : Obj) : Below w.heap.size w (((w.alloc a).alloc b).alloc c) ∧ (((w.alloc a).alloc b).alloc c).heap[w.heap.size]? = some a ∧ (((w.alloc a).alloc b).alloc c).heap[w.heap.size + 1]? = some b ∧ (((w.alloc a).alloc b).alloc c).heap[w.heap.size + 1 + 1]? = some c ∧ (((w.alloc a).alloc b).alloc c).heap.size = w.heap.size + 3 := by
  refine ⟨(((Below.refl _ _).alloc (Nat.le_refl _) _).alloc (by simp) _).alloc (by simp; omega) _, (Below.heap_alloc _ _ _ (by simp; omega)).trans (heap_alloc2_old w a b), (Below.heap_alloc _ _ _ (by simp)).trans (heap_alloc2_new w a b), ?_, by simp⟩
  have h := heap_alloc_new ((w.alloc a).alloc b) c
  rw [show ((w.alloc a).alloc b).heap.size = w.heap.size + 1 + 1 from by simp] at h
  exact h

set_option maxRecDepth 100000 in
set_option maxHeartbeats 16000000 in
theorem commit_any (w : World) (ao bo so xo : Option Addr) (an ac bn bc sn sc xn xc : Nat) (d : DiskV) (p : PoolV) (hd : DiskIn w ao an ac bo bn bc d) (hy : DByt d) (hp : PoolIn w so sn sc xo xn xc p) (hw : WfP p) :
    Calls Try.prog 22 #[.agg #[.slice ao an ac, .slice bo bn bc], .agg #[.slice so sn sc, .slice xo xn xc]] w fun e w' => ComEnd e w w' (commitD d p) := by
  obtain ⟨hb0, p0, p1, p2, hs0⟩ := three_boxes w (.cells #[.slice ao an ac, .slice bo bn bc] 57) (.cells #[.slice so sn sc, .slice xo xn xc] 49) (.cells #[.slice none 0 0, .slice none 0 0] 57)
  have HD := Lib.hid (hd.mono hb0)
  have HY := Lib.hid hy
  have HP := Lib.hid (hp.mono hb0)
  have HW := Lib.hid hw
  obtain ⟨Z, hZ⟩ : ∃ Z, commitD d p = Z := ⟨_, rfl⟩
  have HZ := Lib.hid hZ
  obtain ⟨⟨S, B, E⟩, hN⟩ : ∃ N, nextD d p = N := ⟨_, rfl⟩
  have HNX := Lib.hid hN
  rw [hZ]
  clear hd hy hp hw hZ hN
  go_enter Try.func22, Try.ntmps22
  go_wp2_with fail
  generalize ((w.alloc (.cells #[.slice ao an ac, .slice bo bn bc] 57)).alloc (.cells #[.slice so sn sc, .slice xo xn xc] 49)).alloc (.cells #[.slice none 0 0, .slice none 0 0] 57) = W0 at *
  refine (next_any W0 ao bo so xo an ac bn bc sn sc xn xc d p HD.out HY.out HP.out HW.out).mono ?_
  rintro e w1 ⟨v, rfl, ho, hb1⟩
  rw [HNX.out] at ho ⊢
  simp only at ho ⊢
  obtain ⟨vo, vn, vc, rfl⟩ := ho.shapeN
  have hs1 := hb1.size
  have HP0 := Lib.hid ((hb1.block _ (lt_heap p0)).trans p0)
  have HP2 := Lib.hid ((hb1.block _ (lt_heap p2)).trans p2)
  have HD := Lib.hid (HD.out.mono hb1)
  have HV := Lib.hid ho.bytIn
  have HBW := Lib.hid (below_step hb0 hb1)
  clear hb0 hb1 p0 p1 p2 ho HP
  have c0 := cell_of_block HP0.out 0
  have c1 := cell_of_block HP0.out 1
  have d0 := cell_of_block HP2.out 0
  have d1 := cell_of_block HP2.out 1
  have f0 := free_of_block HP2.out 0
  have f1 := free_of_block HP2.out 1
  have l0 := lt_heap HP0.out
  have l1 := lt_heap HP2.out
  simp at c0 c1 d0 d1
  by_cases hE0 : E = 0
  · subst hE0
    have HDE : Hid (diskE d = 0) := Lib.hid (next_ok (p := p) (by rw [HNX.out]))
    have HR : Hid (Z = (withD d B S, 0)) := Lib.hid (by rw [← HZ.out]; unfold commitD; rw [HNX.out]; rfl)
    go_wp2_with fail
    refine (with_any w1 ao bo vo an ac bn bc vn vc d B S HD.out HV.out HDE.out).mono ?_
    rintro e w2 ⟨a1, n1, k1, b1, m1, j1, rfl, hd2, hb2⟩
    have HP2 := Lib.hid ((hb2.block _ l1).trans HP2.out)
    have HD2 := Lib.hid hd2
    have HBW := Lib.hid (below_step HBW.out hb2)
    clear hd2 hb2 c0 c1 d0 d1 f0 f1 l0 l1 HP0
    have d0 := cell_of_block HP2.out 0
    have d1 := cell_of_block HP2.out 1
    have f0 := free_of_block HP2.out 0
    have f1 := free_of_block HP2.out 1
    have l1 := lt_heap HP2.out
    simp at d0 d1
    go_wp2_with fail
    have r9 := box2_heap (x := a1) (xn := n1) (xc := k1) (y := b1) (yn := m1) (yc := j1) HP2.out
    have hd9 : DiskIn ((w2.setCell ⟨w.heap.size + 1 + 1, 0, none⟩ (.slice a1 n1 k1)).setCell ⟨w.heap.size + 1 + 1, 1, none⟩ (.slice b1 m1 j1)) a1 n1 k1 b1 m1 j1 (withD d B S) := ⟨HD2.out.a.box2 HP2.out, HD2.out.b.box2 HP2.out⟩
    have hb9 := (HBW.out.setCell (p := ⟨w.heap.size + 1 + 1, 0, none⟩) (by show w.heap.size ≤ w.heap.size + 1 + 1; omega) (.slice a1 n1 k1)).setCell (p := ⟨w.heap.size + 1 + 1, 1, none⟩) (by show w.heap.size ≤ w.heap.size + 1 + 1; omega) (.slice b1 m1 j1)
    generalize (w2.setCell ⟨w.heap.size + 1 + 1, 0, none⟩ (.slice a1 n1 k1)).setCell ⟨w.heap.size + 1 + 1, 1, none⟩ (.slice b1 m1 j1) = WZ at *
    have z0 := cell_of_block r9 0
    have z1 := cell_of_block r9 1
    simp at z0 z1
    refine bodyPost_ret (v := .tuple #[.agg #[.slice a1 n1 k1, .slice b1 m1 j1], .int .i64 0]) (by simp [results, Try.results22, go_sem, z0, z1]) rfl ?_
    rw [HR.out]
    exact ⟨_, _, _, _, _, _, rfl, hd9, hb9⟩
  · have HR : Hid (Z = (⟨[], []⟩, E)) := Lib.hid (by rw [← HZ.out]; unfold commitD; rw [HNX.out]; simp only; rw [if_pos hE0])
    have q1 : (E == 0) = false := by rw [beq_eq_false_iff_ne]; exact hE0
    clear hE0
    go_wp2_with fail
    have r9 := box2_heap (x := none) (xn := 0) (xc := 0) (y := none) (yn := 0) (yc := 0) HP2.out
    have hb9 := (HBW.out.setCell (p := ⟨w.heap.size + 1 + 1, 0, none⟩) (by show w.heap.size ≤ w.heap.size + 1 + 1; omega) (.slice none 0 0)).setCell (p := ⟨w.heap.size + 1 + 1, 1, none⟩) (by show w.heap.size ≤ w.heap.size + 1 + 1; omega) (.slice none 0 0)
    generalize (w1.setCell ⟨w.heap.size + 1 + 1, 0, none⟩ (.slice none 0 0)).setCell ⟨w.heap.size + 1 + 1, 1, none⟩ (.slice none 0 0) = WZ at *
    have z0 := cell_of_block r9 0
    have z1 := cell_of_block r9 1
    simp at z0 z1
    refine bodyPost_ret (v := .tuple #[.agg #[.slice none 0 0, .slice none 0 0], .int .i64 E]) (by simp [results, Try.results22, go_sem, z0, z1]) rfl ?_
    rw [HR.out]
    exact ⟨_, _, _, _, _, _, rfl, noD_in _, hb9⟩

theorem nextD_len {d : DiskV} {p : PoolV} : (nextD d p).1.length ≤ 20009 := by
  unfold nextD
  split
  · simp
  · split
    · simp
    · rename_i h
      have h2 : poolE p = 0 := by simpa using h
      split
      · exact slot_small h2
      · split
        · simp
        · exact slot_small h2
theorem slot_short {d : DiskV} {p : PoolV} {S : List Int} {B : Bool} {E : Int} {vn : Nat} (h : nextD d p = (S, B, E)) (hn : S.length = vn) : vn ≤ 20009 := by
  have := nextD_len (d := d) (p := p)
  rw [h] at this
  simp only at this
  omega

set_option maxRecDepth 100000 in
set_option maxHeartbeats 16000000 in
theorem torn_any (w : World) (x : Int) (ao bo so xo : Option Addr) (an ac bn bc sn sc xn xc : Nat) (d : DiskV) (p : PoolV) (hd : DiskIn w ao an ac bo bn bc d) (hy : DByt d) (hp : PoolIn w so sn sc xo xn xc p) (hw : WfP p) :
    Calls Try.prog 25 #[.agg #[.slice ao an ac, .slice bo bn bc], .agg #[.slice so sn sc, .slice xo xn xc], .int .i64 x] w fun e w' => ComEnd e w w' (tornD d p x) := by
  obtain ⟨hb0, p0, p1, p2, hs0⟩ := three_boxes w (.cells #[.slice ao an ac, .slice bo bn bc] 57) (.cells #[.slice so sn sc, .slice xo xn xc] 49) (.cells #[.slice none 0 0, .slice none 0 0] 57)
  have HD := Lib.hid (hd.mono hb0)
  have HY := Lib.hid hy
  have HP := Lib.hid (hp.mono hb0)
  have HW := Lib.hid hw
  obtain ⟨Z, hZ⟩ : ∃ Z, tornD d p x = Z := ⟨_, rfl⟩
  have HZ := Lib.hid hZ
  obtain ⟨⟨S, B, E⟩, hN⟩ : ∃ N, nextD d p = N := ⟨_, rfl⟩
  have HNX := Lib.hid hN
  rw [hZ]
  clear hd hy hp hw hZ hN
  go_enter Try.func25, Try.ntmps25
  go_wp2_with fail
  generalize ((w.alloc (.cells #[.slice ao an ac, .slice bo bn bc] 57)).alloc (.cells #[.slice so sn sc, .slice xo xn xc] 49)).alloc (.cells #[.slice none 0 0, .slice none 0 0] 57) = W0 at *
  refine (next_any W0 ao bo so xo an ac bn bc sn sc xn xc d p HD.out HY.out HP.out HW.out).mono ?_
  rintro e w1 ⟨v, rfl, ho, hb1⟩
  rw [HNX.out] at ho ⊢
  simp only at ho ⊢
  obtain ⟨vo, vn, vc, rfl⟩ := ho.shapeN
  have hs1 := hb1.size
  have HP0 := Lib.hid ((hb1.block _ (lt_heap p0)).trans p0)
  have HP2 := Lib.hid ((hb1.block _ (lt_heap p2)).trans p2)
  have HD := Lib.hid (HD.out.mono hb1)
  have HV := Lib.hid ho.bytIn
  have HBW := Lib.hid (below_step hb0 hb1)
  clear hb0 hb1 p0 p1 p2 ho HP
  have c0 := cell_of_block HP0.out 0
  have c1 := cell_of_block HP0.out 1
  have d0 := cell_of_block HP2.out 0
  have d1 := cell_of_block HP2.out 1
  have f0 := free_of_block HP2.out 0
  have f1 := free_of_block HP2.out 1
  have l0 := lt_heap HP0.out
  have l1 := lt_heap HP2.out
  simp at c0 c1 d0 d1
  by_cases hE0 : E = 0
  · subst hE0
    have HDE : Hid (diskE d = 0) := Lib.hid (next_ok (p := p) (by rw [HNX.out]))
    by_cases hx0 : x < 0
    · have HR : Hid (Z = (⟨[], []⟩, 3)) := Lib.hid (by rw [← HZ.out]; unfold tornD; rw [HNX.out]; simp only; rw [if_neg (by decide), if_pos (.inl hx0)])
      go_wp2_with fail
      have r9 := box2_heap (x := none) (xn := 0) (xc := 0) (y := none) (yn := 0) (yc := 0) HP2.out
      have hb9 := (HBW.out.setCell (p := ⟨w.heap.size + 1 + 1, 0, none⟩) (by show w.heap.size ≤ w.heap.size + 1 + 1; omega) (.slice none 0 0)).setCell (p := ⟨w.heap.size + 1 + 1, 1, none⟩) (by show w.heap.size ≤ w.heap.size + 1 + 1; omega) (.slice none 0 0)
      generalize (w1.setCell ⟨w.heap.size + 1 + 1, 0, none⟩ (.slice none 0 0)).setCell ⟨w.heap.size + 1 + 1, 1, none⟩ (.slice none 0 0) = WZ at *
      have z0 := cell_of_block r9 0
      have z1 := cell_of_block r9 1
      simp at z0 z1
      refine bodyPost_ret (v := .tuple #[.agg #[.slice none 0 0, .slice none 0 0], .int .i64 3]) (by simp [results, Try.results25, go_sem, z0, z1]) rfl ?_
      rw [HR.out]
      exact ⟨_, _, _, _, _, _, rfl, noD_in _, hb9⟩
    · have hx0' : 0 ≤ x := by omega
      obtain ⟨k, rfl⟩ : ∃ k : Nat, x = k := ⟨x.toNat, by omega⟩
      by_cases hk : vn < k
      · have hk' : (vn : Int) < k := by omega
        have HR : Hid (Z = (⟨[], []⟩, 3)) := Lib.hid (by rw [← HZ.out]; unfold tornD; rw [HNX.out]; simp only; rw [if_neg (by decide), if_pos (.inr (by rw [HV.out.len]; exact hk'))])
        go_wp2_with fail
        have r9 := box2_heap (x := none) (xn := 0) (xc := 0) (y := none) (yn := 0) (yc := 0) HP2.out
        have hb9 := (HBW.out.setCell (p := ⟨w.heap.size + 1 + 1, 0, none⟩) (by show w.heap.size ≤ w.heap.size + 1 + 1; omega) (.slice none 0 0)).setCell (p := ⟨w.heap.size + 1 + 1, 1, none⟩) (by show w.heap.size ≤ w.heap.size + 1 + 1; omega) (.slice none 0 0)
        generalize (w1.setCell ⟨w.heap.size + 1 + 1, 0, none⟩ (.slice none 0 0)).setCell ⟨w.heap.size + 1 + 1, 1, none⟩ (.slice none 0 0) = WZ at *
        have z0 := cell_of_block r9 0
        have z1 := cell_of_block r9 1
        simp at z0 z1
        refine bodyPost_ret (v := .tuple #[.agg #[.slice none 0 0, .slice none 0 0], .int .i64 3]) (by simp [results, Try.results25, go_sem, z0, z1]) rfl ?_
        rw [HR.out]
        exact ⟨_, _, _, _, _, _, rfl, noD_in _, hb9⟩
      · have hk' : ¬ ((vn : Int) < k) := by omega
        have hkn : (k : Int) ≤ vn := by omega
        have hcp : vn ≤ vc := HV.out.cap.1
        have hkc : (k : Int) ≤ vc := by omega
        have hkc2 : k ≤ vc := by omega
        have HR : Hid (Z = (withD d B (S.take k), 0)) := Lib.hid (by
          rw [← HZ.out]; unfold tornD; rw [HNX.out]; simp only
          rw [if_neg (by decide), if_neg (by rw [HV.out.len]; omega), Int.toNat_natCast])
        have HVT := Lib.hid (HV.out.take k (by omega))
        have HCL : Hid (∀ W, Below w1.heap.size w1 W → Calls Try.prog 21 #[.slice vo k vc] W fun e w' => ∃ a n c, e = .returned (.slice a n c) ∧ BytIn w' a n c (S.take k) ∧ Below w1.heap.size w1 w') := Lib.hid fun W hW => by
          refine (clone_bytes_n vo k vc (S.take k) W HVT.out.len (HVT.out.low.row.mono hW) HVT.out.cap.2 (by have := slot_short HNX.out HV.out.len; omega)).mono ?_
          rintro e w' ⟨v, rfl, ho, -, hb⟩
          obtain ⟨a, n, c, rfl⟩ := ho.shapeN
          exact ⟨a, n, c, rfl, ho.bytIn, hW.trans (hb.mono hW.size)⟩
        go_upto_region 6 with fail
        have HSZ := Lib.hid (show w.heap.size ≤ w1.heap.size from HBW.out.size)
        go_region_with (first
          | (go_at_call 21; refine (HCL.out _ (Below.refl _ _).drew).mono ?_; rintro e w2 ⟨a2, n2, k2, rfl, h2, hb2⟩; have q0 := (hb2.block _ l0).trans HP0.out; have q2 := (hb2.block _ l1).trans HP2.out; have c20 := cell_of_block q0 0; have c21 := cell_of_block q0 1; have l20 := lt_heap q0; simp at c20 c21)
          | (go_at_call 56; refine (with_any w2 ao bo a2 an ac bn bc n2 k2 d B (S.take k) (HD.out.mono hb2) h2 HDE.out).mono ?_; rintro e w3 ⟨a3, n3, k3, b3, m3, j3, rfl, hd3, hb3⟩; have q3 := (hb3.block _ (lt_heap q2)).trans q2; have c30 := cell_of_block q3 0; have c31 := cell_of_block q3 1; have f30 := free_of_block q3 0; have f31 := free_of_block q3 1; have l31 := lt_heap q3; simp at c30 c31))
        all_goals
          go_wp2_with fail
          have hbz : Below w.heap.size w w3 := HBW.out.trans ((hb2.trans (hb3.mono hb2.size)).mono HSZ.out)
          have r9 := box2_heap (x := a3) (xn := n3) (xc := k3) (y := b3) (yn := m3) (yc := j3) q3
          have hd9 : DiskIn ((w3.setCell ⟨w.heap.size + 1 + 1, 0, none⟩ (.slice a3 n3 k3)).setCell ⟨w.heap.size + 1 + 1, 1, none⟩ (.slice b3 m3 j3)) a3 n3 k3 b3 m3 j3 (withD d B (S.take k)) := ⟨hd3.a.box2 q3, hd3.b.box2 q3⟩
          have hb9 := (hbz.setCell (p := ⟨w.heap.size + 1 + 1, 0, none⟩) (by show w.heap.size ≤ w.heap.size + 1 + 1; omega) (.slice a3 n3 k3)).setCell (p := ⟨w.heap.size + 1 + 1, 1, none⟩) (by show w.heap.size ≤ w.heap.size + 1 + 1; omega) (.slice b3 m3 j3)
          generalize (w3.setCell ⟨w.heap.size + 1 + 1, 0, none⟩ (.slice a3 n3 k3)).setCell ⟨w.heap.size + 1 + 1, 1, none⟩ (.slice b3 m3 j3) = WZ at *
          have z0 := cell_of_block r9 0
          have z1 := cell_of_block r9 1
          simp at z0 z1
          refine bodyPost_ret (v := .tuple #[.agg #[.slice a3 n3 k3, .slice b3 m3 j3], .int .i64 0]) (by simp [results, Try.results25, go_sem, z0, z1]) rfl ?_
          rw [HR.out]
          exact ⟨_, _, _, _, _, _, rfl, hd9, hb9⟩
  · have HR : Hid (Z = (⟨[], []⟩, E)) := Lib.hid (by rw [← HZ.out]; unfold tornD; rw [HNX.out]; simp only; rw [if_pos hE0])
    have q1 : (E == 0) = false := by rw [beq_eq_false_iff_ne]; exact hE0
    clear hE0
    go_wp2_with fail
    have r9 := box2_heap (x := none) (xn := 0) (xc := 0) (y := none) (yn := 0) (yc := 0) HP2.out
    have hb9 := (HBW.out.setCell (p := ⟨w.heap.size + 1 + 1, 0, none⟩) (by show w.heap.size ≤ w.heap.size + 1 + 1; omega) (.slice none 0 0)).setCell (p := ⟨w.heap.size + 1 + 1, 1, none⟩) (by show w.heap.size ≤ w.heap.size + 1 + 1; omega) (.slice none 0 0)
    generalize (w1.setCell ⟨w.heap.size + 1 + 1, 0, none⟩ (.slice none 0 0)).setCell ⟨w.heap.size + 1 + 1, 1, none⟩ (.slice none 0 0) = WZ at *
    have z0 := cell_of_block r9 0
    have z1 := cell_of_block r9 1
    simp at z0 z1
    refine bodyPost_ret (v := .tuple #[.agg #[.slice none 0 0, .slice none 0 0], .int .i64 E]) (by simp [results, Try.results25, go_sem, z0, z1]) rfl ?_
    rw [HR.out]
    exact ⟨_, _, _, _, _, _, rfl, noD_in _, hb9⟩
end Go.Proofs.Ytfmgdjgedhnmeaa
