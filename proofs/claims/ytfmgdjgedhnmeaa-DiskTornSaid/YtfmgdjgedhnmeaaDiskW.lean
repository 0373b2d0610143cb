/- disk.with, next, Recover, Commit, Torn: what they compute. -/
import Derived.Test.YtfmgdjgedhnmeaaDiskN
namespace Go.Proofs.Ytfmgdjgedhnmeaa
open Go.RowKit
set_option linter.unusedVariables false
set_option linter.unusedSimpArgs false

/-- bytes don't lie where slices lie -/
theorem BytIn.box {w : World} {p n cap : Nat} {ao : Option Addr} {b : List Int} {a1 a2 : Option Addr} {n1 n2 c1 c2 t : Nat} (h : BytIn w ao n cap b) (hp : w.heap[p]? = some (.cells #[.slice a1 n1 c1, .slice a2 n2 c2] t (0, 0))) (i : Nat) (v : Value) : BytIn (w.setCell ⟨p, i, none⟩ v) ao n cap b := by
  refine ⟨h.len, ?_, h.cap⟩
  rcases h.low with h1 | ⟨g, o, e, hg, hc⟩
  · exact .inl h1
  · by_cases hb : b = []
    · exact .inl hb
    · have hgp : g ≠ p := fun e2 => by
        subst e2
        have h0 := hc 0 (List.length_pos_iff.mpr hb)
        rw [cell_of_block hp] at h0
        match o, h0 with
        | 0, h0 => simp at h0
        | 1, h0 => simp at h0
        | o + 2, h0 => simp at h0
      refine .inr ⟨g, o, e, by simpa using hg, fun j hj => ?_⟩
      rw [World.cell?_of_block (w := w) (Below.heap_setCell _ _ _ _ (show g ≠ p from hgp))]
      exact hc j hj
theorem BytIn.own {base n cap : Nat} {ao : Option Addr} {w w' : World} {xs : List Int} (ho : Own .u8 5 base w (.slice ao n cap) xs) : BytIn w ao n cap xs := ho.bytIn

theorem BytIn.box2 {w : World} {p n cap : Nat} {ao : Option Addr} {b : List Int} {a1 a2 x y : Option Addr} {n1 n2 c1 c2 t xn xc yn yc : Nat} (h : BytIn w ao n cap b) (hp : w.heap[p]? = some (.cells #[.slice a1 n1 c1, .slice a2 n2 c2] t (0, 0))) :
    BytIn ((w.setCell ⟨p, 0, none⟩ (.slice x xn xc)).setCell ⟨p, 1, none⟩ (.slice y yn yc)) ao n cap b := by
  have h1 := heap_setCell_same' hp 0 (.slice x xn xc)
  simp at h1
  exact (h.box hp 0 _).box h1 1 _
theorem box2_heap {w : World} {p : Nat} {a1 a2 x y : Option Addr} {n1 n2 c1 c2 t xn xc yn yc : Nat} (hp : w.heap[p]? = some (.cells #[.slice a1 n1 c1, .slice a2 n2 c2] t (0, 0))) :
    ((w.setCell ⟨p, 0, none⟩ (.slice x xn xc)).setCell ⟨p, 1, none⟩ (.slice y yn yc)).heap[p]? = some (.cells #[.slice x xn xc, .slice y yn yc] t (0, 0)) := by
  have h1 := heap_setCell_same' (heap_setCell_same' hp 0 (.slice x xn xc)) 1 (.slice y yn yc)
  simp at h1
  exact h1
/-- a disk as it was handed back -/
def DiskEnd (e : Ending) (w w' : World) (d : DiskV) : Prop :=
  ∃ ao an ac bo bn bc, e = .returned (.agg #[.slice ao an ac, .slice bo bn bc]) ∧ DiskIn w' ao an ac bo bn bc d ∧ Below w.heap.size w w'

/-- both slots cloned -/
def WithMid (w w' : World) (k : Nat) (d : DiskV) : Prop :=
  ∃ ao an ac bo bn bc, w'.heap[k]? = some (.cells #[.slice ao an ac, .slice bo bn bc] 57 (0, 0)) ∧ DiskIn w' ao an ac bo bn bc d ∧ Below k w w'

set_option maxRecDepth 100000 in
set_option maxHeartbeats 16000000 in
theorem with_any (w : World) (ao bo so : Option Addr) (an ac bn bc sn sc : Nat) (d : DiskV) (B : Bool) (s : List Int) (hd : DiskIn w ao an ac bo bn bc d) (hs : BytIn w so sn sc s) (he : diskE d = 0) :
    Calls Try.prog 56 #[.agg #[.slice ao an ac, .slice bo bn bc], .bool B, .slice so sn sc] w fun e w' => DiskEnd e w w' (withD d B s) := by
  have hne : ¬ (20009 < d.a.length ∨ 20009 < d.b.length) := fun h => by unfold diskE at he; rw [if_pos h] at he; cases he
  have ha : an ≤ 20009 := by rw [← hd.a.len]; omega
  have hb : bn ≤ 20009 := by rw [← hd.b.len]; omega
  have hb0 : Below w.heap.size w ((w.alloc (.cells #[.slice ao an ac, .slice bo bn bc] 57)).alloc (.cells #[.slice none 0 0, .slice none 0 0] 57)) := ((Below.refl _ _).alloc (Nat.le_refl _) _).alloc (by simp) _
  have p0 := heap_alloc2_old w (.cells #[.slice ao an ac, .slice bo bn bc] 57) (.cells #[.slice none 0 0, .slice none 0 0] 57)
  have p1 := heap_alloc2_new w (.cells #[.slice ao an ac, .slice bo bn bc] 57) (.cells #[.slice none 0 0, .slice none 0 0] 57)
  have hs0 : ((w.alloc (.cells #[.slice ao an ac, .slice bo bn bc] 57)).alloc (.cells #[.slice none 0 0, .slice none 0 0] 57)).heap.size = w.heap.size + 2 := by simp
  have HD := Lib.hid (hd.mono hb0)
  have HS := Lib.hid (hs.mono hb0)
  clear hd hs he hne
  have c0 := cell_of_block p0 0
  have c1 := cell_of_block p0 1
  have f0 := free_of_block p0 0
  have f1 := free_of_block p0 1
  simp at c0 c1
  have l0 := lt_heap p0
  go_enter Try.func56, Try.ntmps56
  go_upto_region 1 with fail
  generalize (w.alloc (.cells #[.slice ao an ac, .slice bo bn bc] 57)).alloc (.cells #[.slice none 0 0, .slice none 0 0] 57) = W0 at *
  have HCA : Hid (∀ W, Below W0.heap.size W0 W → Calls Try.prog 21 #[.slice ao an ac] W fun e w' => ∃ a n c, e = .returned (.slice a n c) ∧ BytIn w' a n c d.a ∧ Below W0.heap.size W0 w' ∧ Below W.heap.size W w') := Lib.hid fun W hW => by
    refine (clone_bytes_n ao an ac d.a W HD.out.a.len (HD.out.a.low.row.mono hW) HD.out.a.cap.2 (by omega)).mono ?_
    rintro e w' ⟨v, rfl, ho, -, hb⟩
    obtain ⟨a, n, c, rfl⟩ := ho.shapeN
    exact ⟨a, n, c, rfl, ho.bytIn, hW.trans (hb.mono hW.size), hb⟩
  have HCB : Hid (∀ W, Below W0.heap.size W0 W → Calls Try.prog 21 #[.slice bo bn bc] W fun e w' => ∃ a n c, e = .returned (.slice a n c) ∧ BytIn w' a n c d.b ∧ Below W0.heap.size W0 w' ∧ Below W.heap.size W w') := Lib.hid fun W hW => by
    refine (clone_bytes_n bo bn bc d.b W HD.out.b.len (HD.out.b.low.row.mono hW) HD.out.b.cap.2 (by omega)).mono ?_
    rintro e w' ⟨v, rfl, ho, -, hb⟩
    obtain ⟨a, n, c, rfl⟩ := ho.shapeN
    exact ⟨a, n, c, rfl, ho.bytIn, hW.trans (hb.mono hW.size), hb⟩
  have HP0 := Lib.hid p0
  go_cut [] (fun wx => Hid (∃ ao an ac bo bn bc, wx.heap[w.heap.size]? = some (.cells #[.slice ao an ac, .slice bo bn bc] 57 (0, 0)) ∧ DiskIn wx ao an ac bo bn bc d ∧ Below w.heap.size W0 wx ∧ BytIn wx so sn sc s ∧ wx.heap[w.heap.size + 1]? = some (.cells #[.slice none 0 0, .slice none 0 0] 57 (0, 0))))
  case first =>
    clear p0 c0 c1 f0 f1 l0
    have c0 := cell_of_block HP0.out 0
    have c1 := cell_of_block HP0.out 1
    have f0 := free_of_block HP0.out 0
    have f1 := free_of_block HP0.out 1
    have l0 := lt_heap HP0.out
    simp at c0 c1
    go_region_with (first
      | (go_at_call 21; refine (HCA.out _ (Below.refl _ _).drew).mono ?_; rintro e wA ⟨aA, nA, cA, rfl, hA, hbA, hbA'⟩; have pA := (hbA.block _ l0).trans HP0.out; have cA0 := cell_of_block pA 0; have cA1 := cell_of_block pA 1; have fA0 := free_of_block pA 0; have fA1 := free_of_block pA 1; have lA := lt_heap pA; simp at cA0 cA1)
      | (go_at_call 21; refine (HCB.out _ hbA).mono ?_; rintro e wB ⟨aB, nB, cB, rfl, hB, hbB, hbB'⟩; have pB := (hbB.block _ l0).trans HP0.out; have cB0 := cell_of_block pB 0; have cB1 := cell_of_block pB 1; have fB0 := free_of_block pB 0; have fB1 := free_of_block pB 1; have lB := lt_heap pB; simp at cB0 cB1))
    all_goals
      go_wp2_with fail
      go_meet
      have hbw : Below w.heap.size W0 wB := hbB.mono (by omega)
      exact Lib.hid ⟨aA, nA, cA, aB, nB, cB, box2_heap pB, ⟨(hA.mono hbB').box2 pB, hB.box2 pB⟩, (hbw.setCell (p := ⟨w.heap.size, 0, none⟩) (Nat.le_refl _) _).setCell (p := ⟨w.heap.size, 1, none⟩) (Nat.le_refl _) _, (HS.out.mono hbB).box2 pB, heap_setCell_ne (heap_setCell_ne ((hbB.block _ (lt_heap p1)).trans p1) (by simp)) (by simp)⟩
  case rest =>
    obtain ⟨ao1, an1, ac1, bo1, bn1, bc1, q0, hd1, hb1, hs1, q1⟩ := hcut.out
    have hs2 := hb1.size
    have hbw : Below w.heap.size w wc := hb0.trans hb1
    clear p0 p1 c0 c1 f0 f1 l0 HCA HCB HP0 HD HS hb0 hb1 hcut
    have c0 := cell_of_block q0 0
    have c1 := cell_of_block q0 1
    have f0 := free_of_block q0 0
    have f1 := free_of_block q0 1
    have e0 := cell_of_block q1 0
    have e1 := cell_of_block q1 1
    have g0 := free_of_block q1 0
    have g1 := free_of_block q1 1
    have l0 := lt_heap q0
    have l1 := lt_heap q1
    simp at c0 c1 e0 e1
    have HQ0 := Lib.hid q0
    have HQ1 := Lib.hid q1
    have HD1 := Lib.hid hd1
    have HS1 := Lib.hid hs1
    have HBW := Lib.hid hbw
    clear q0 q1 hd1 hs1 hbw
    cases B with
    | true =>
      go_wp2_with fail
      have r0 : (wc.setCell ⟨w.heap.size, 1, none⟩ (.slice so sn sc)).heap[w.heap.size + 1]? = some (.cells #[.slice none 0 0, .slice none 0 0] 57 (0, 0)) := heap_setCell_ne HQ1.out (by simp)
      have hb9 := ((HBW.out.setCell (p := ⟨w.heap.size, 1, none⟩) (Nat.le_refl _) (.slice so sn sc)).setCell (p := ⟨w.heap.size + 1, 0, none⟩) (Nat.le_succ _) (.slice ao1 an1 ac1)).setCell (p := ⟨w.heap.size + 1, 1, none⟩) (Nat.le_succ _) (.slice so sn sc)
      have hd9 : DiskIn (((wc.setCell ⟨w.heap.size, 1, none⟩ (.slice so sn sc)).setCell ⟨w.heap.size + 1, 0, none⟩ (.slice ao1 an1 ac1)).setCell ⟨w.heap.size + 1, 1, none⟩ (.slice so sn sc)) ao1 an1 ac1 so sn sc (withD d true s) := ⟨(HD1.out.a.box HQ0.out 1 _).box2 r0, (HS1.out.box HQ0.out 1 _).box2 r0⟩
      have r9 := box2_heap (x := ao1) (xn := an1) (xc := ac1) (y := so) (yn := sn) (yc := sc) r0
      generalize ((wc.setCell ⟨w.heap.size, 1, none⟩ (.slice so sn sc)).setCell ⟨w.heap.size + 1, 0, none⟩ (.slice ao1 an1 ac1)).setCell ⟨w.heap.size + 1, 1, none⟩ (.slice so sn sc) = WZ at *
      have z0 := cell_of_block r9 0
      have z1 := cell_of_block r9 1
      simp at z0 z1
      refine bodyPost_ret (v := .agg #[.slice ao1 an1 ac1, .slice so sn sc]) (by simp [results, Try.results56, go_sem, z0, z1]) rfl ?_
      exact ⟨_, _, _, _, _, _, rfl, hd9, hb9⟩
    | false =>
      go_wp2_with fail
      have r0 : (wc.setCell ⟨w.heap.size, 0, none⟩ (.slice so sn sc)).heap[w.heap.size + 1]? = some (.cells #[.slice none 0 0, .slice none 0 0] 57 (0, 0)) := heap_setCell_ne HQ1.out (by simp)
      have hb9 := ((HBW.out.setCell (p := ⟨w.heap.size, 0, none⟩) (Nat.le_refl _) (.slice so sn sc)).setCell (p := ⟨w.heap.size + 1, 0, none⟩) (Nat.le_succ _) (.slice so sn sc)).setCell (p := ⟨w.heap.size + 1, 1, none⟩) (Nat.le_succ _) (.slice bo1 bn1 bc1)
      have hd9 : DiskIn (((wc.setCell ⟨w.heap.size, 0, none⟩ (.slice so sn sc)).setCell ⟨w.heap.size + 1, 0, none⟩ (.slice so sn sc)).setCell ⟨w.heap.size + 1, 1, none⟩ (.slice bo1 bn1 bc1)) so sn sc bo1 bn1 bc1 (withD d false s) := ⟨(HS1.out.box HQ0.out 0 _).box2 r0, (HD1.out.b.box HQ0.out 0 _).box2 r0⟩
      have r9 := box2_heap (x := so) (xn := sn) (xc := sc) (y := bo1) (yn := bn1) (yc := bc1) r0
      generalize ((wc.setCell ⟨w.heap.size, 0, none⟩ (.slice so sn sc)).setCell ⟨w.heap.size + 1, 0, none⟩ (.slice so sn sc)).setCell ⟨w.heap.size + 1, 1, none⟩ (.slice bo1 bn1 bc1) = WZ at *
      have z0 := cell_of_block r9 0
      have z1 := cell_of_block r9 1
      simp at z0 z1
      refine bodyPost_ret (v := .agg #[.slice so sn sc, .slice bo1 bn1 bc1]) (by simp [results, Try.results56, go_sem, z0, z1]) rfl ?_
      exact ⟨_, _, _, _, _, _, rfl, hd9, hb9⟩

theorem nextD_bad {d : DiskV} {p : PoolV} (h : diskE d ≠ 0) : nextD d p = ([], false, diskE d) := by
  have h2 : diskE d = 2 := by
    unfold diskE at h ⊢
    split
    · rfl
    · rename_i hn; rw [if_neg hn] at h; exact absurd rfl h
  unfold nextD
  rw [if_pos h, h2]
theorem nextD_pool {d : DiskV} {p : PoolV} (h : diskE d = 0) (h2 : poolE p ≠ 0) : nextD d p = ([], false, poolE p) := by
  unfold nextD
  rw [if_neg (not_not_intro h), if_pos h2]
theorem nextD_none {d : DiskV} {p : PoolV} (h : diskE d = 0) (h2 : poolE p = 0) (h3 : newD d = none) : nextD d p = (slotD 1 (imageL p), false, 0) := by
  unfold nextD
  rw [if_neg (not_not_intro h), if_neg (not_not_intro h2), h3]
theorem nextD_some {d : DiskV} {p : PoolV} {z : Int × PoolV} (h : diskE d = 0) (h2 : poolE p = 0) (h3 : newD d = some z) : nextD d p = if 2147483647 ≤ z.1 then ([], false, 8) else (slotD (z.1 + 1) (imageL p), !lastB d, 0) := by
  unfold nextD
  rw [if_neg (not_not_intro h), if_neg (not_not_intro h2), h3]
/-- the next slot -/
def NextEnd (e : Ending) (w w' : World) (z : List Int × Bool × Int) : Prop :=
  ∃ v, e = .returned (.tuple #[v, .bool z.2.1, .int .i64 z.2.2]) ∧ Own .u8 5 w.heap.size w' v z.1 ∧ Below w.heap.size w w'

set_option maxRecDepth 100000 in
set_option maxHeartbeats 16000000 in
theorem next_any (w : World) (ao bo so xo : Option Addr) (an ac bn bc sn sc xn xc : Nat) (d : DiskV) (p : PoolV) (hd : DiskIn w ao an ac bo bn bc d) (hy : DByt d) (hp : PoolIn w so sn sc xo xn xc p) (hw : WfP p) :
    Calls Try.prog 55 #[.agg #[.slice ao an ac, .slice bo bn bc], .agg #[.slice so sn sc, .slice xo xn xc]] w fun e w' => NextEnd e w w' (nextD d p) := by
  have hb0 : Below w.heap.size w ((w.alloc (.cells #[.slice ao an ac, .slice bo bn bc] 57)).alloc (.cells #[.slice so sn sc, .slice xo xn xc] 49)) := ((Below.refl _ _).alloc (Nat.le_refl _) _).alloc (by simp) _
  have p0 := heap_alloc2_old w (.cells #[.slice ao an ac, .slice bo bn bc] 57) (.cells #[.slice so sn sc, .slice xo xn xc] 49)
  have p1 := heap_alloc2_new w (.cells #[.slice ao an ac, .slice bo bn bc] 57) (.cells #[.slice so sn sc, .slice xo xn xc] 49)
  have HD := Lib.hid (hd.mono hb0)
  have HY := Lib.hid hy
  have HP := Lib.hid (hp.mono hb0)
  have HW := Lib.hid hw
  obtain ⟨Z, hZ⟩ : ∃ Z, nextD d p = Z := ⟨_, rfl⟩
  have HZ := Lib.hid hZ
  obtain ⟨E, hE⟩ : ∃ E, diskE d = E := ⟨_, rfl⟩
  obtain ⟨F, hF⟩ : ∃ F, poolE p = F := ⟨_, rfl⟩
  have HE := Lib.hid hE
  have HF := Lib.hid hF
  rw [hZ]
  clear hd hy hp hw hZ hE hF
  go_enter Try.func55, Try.ntmps55
  go_wp2_with fail
  generalize (w.alloc (.cells #[.slice ao an ac, .slice bo bn bc] 57)).alloc (.cells #[.slice so sn sc, .slice xo xn xc] 49) = W0 at *
  refine (dcheck_any W0 ao bo an ac bn bc d HD.out).mono ?_
  rintro e w1 ⟨rfl, hb1⟩
  rw [HE.out]
  have HP0 := Lib.hid ((hb1.block _ (lt_heap p0)).trans p0)
  have HP1 := Lib.hid ((hb1.block _ (lt_heap p1)).trans p1)
  have HD := Lib.hid (HD.out.mono hb1)
  have HP := Lib.hid (HP.out.mono hb1)
  have HBW := Lib.hid (below_step hb0 hb1)
  clear hb0 hb1 p0 p1
  have c0 := cell_of_block HP0.out 0
  have c1 := cell_of_block HP0.out 1
  have d0 := cell_of_block HP1.out 0
  have d1 := cell_of_block HP1.out 1
  have l0 := lt_heap HP0.out
  have l1 := lt_heap HP1.out
  simp at c0 c1 d0 d1
  by_cases hE0 : E = 0
  · subst hE0
    go_wp2_with fail
    refine (write_image w1 so xo sn sc xn xc p HP.out HW.out).mono ?_
    intro e w2 h2
    obtain ⟨yo, yn, yc, rfl, hy2, hb2⟩ := h2.open
    rw [HF.out]
    have HP0 := Lib.hid ((hb2.block _ l0).trans HP0.out)
    have HX := Lib.hid hy2
    have HD := Lib.hid (HD.out.mono hb2)
    have HBW := Lib.hid (below_step HBW.out hb2)
    clear h2 hy2 hb2 HP1 HP c0 c1 d0 d1 l0 l1
    have c0 := cell_of_block HP0.out 0
    have c1 := cell_of_block HP0.out 1
    have l0 := lt_heap HP0.out
    simp at c0 c1
    by_cases hF0 : F = 0
    · subst hF0
      have HO : Hid (outI p = imageL p) := Lib.hid (by unfold outI; rw [if_pos HF.out])
      have HXB : Hid (Byt (imageL p)) := Lib.hid (image_byt HW.out HF.out)
      go_wp2_with fail
      refine (newest_any w2 ao bo an ac bn bc d HD.out HY.out HE.out).mono ?_
      rintro e w3 ⟨m, qo, qn, qc, ro, rn, rc, ok, rfl, hz, hb3⟩
      have hbp : Below w3.heap.size w3 (w3.alloc (.cells #[.slice qo qn qc, .slice ro rn rc] 49)) := (Below.refl _ _).alloc (Nat.le_refl _) _
      have hb4 := below_step hb3 hbp
      have HX := Lib.hid (HX.out.mono hb4)
      have HBW := Lib.hid (below_step HBW.out hb4)
      have HYN : Hid (yn ≤ 20000) := Lib.hid (by rw [← HX.out.len, HO.out]; have := (poolE_ok HF.out).small; omega)
      have HNO : Hid (ok = false → newD d = none) := Lib.hid fun h => by
        cases hn : newD d with
        | none => rfl
        | some z => rw [hn] at hz; rw [hz.1] at h; cases h
      have HSO : Hid (ok = true → ∃ P, newD d = some (m, P)) := Lib.hid fun h => by
        cases hn : newD d with
        | none => rw [hn] at hz; rw [show ok = false from hz] at h; cases h
        | some z => rw [hn] at hz; exact ⟨z.2, by rw [hz.2.1]⟩
      have HM0 : Hid (ok = true → 0 ≤ m) := Lib.hid fun h => by
        obtain ⟨P, hP⟩ := HSO.out h
        unfold newD at hP
        split at hP
        · exact (open_num HY.out.2 hP).1
        · exact (open_num HY.out.1 hP).1
      obtain ⟨LB, hLB⟩ : ∃ LB, lastB d = LB := ⟨_, rfl⟩
      rw [hLB]
      have HLB := Lib.hid hLB
      clear hLB hz hb3 hbp hb4 HD HP0 c0 c1 l0
      cases ok with
      | false =>
        have HR : Hid (Z = (slotD 1 (imageL p), false, 0)) := Lib.hid (HZ.out.symm.trans (nextD_none HE.out HF.out (HNO.out rfl)))
        clear HNO HSO HM0
        go_wp2_with fail
        generalize w3.alloc (.cells #[.slice qo qn qc, .slice ro rn rc] 49) = W3 at *
        refine (slot_any W3 1 yo yn yc (outI p) (by decide) (by decide) HX.out.len HX.out.low.row (by rw [HO.out]; exact HXB.out) HX.out.cap.2 (by have := HYN.out; omega)).mono ?_
        rintro e w5 ⟨v5, rfl, ho5, hb5⟩
        obtain ⟨a5, n5, c5, rfl⟩ := ho5.shapeN
        have HBZ := Lib.hid (below_step HBW.out hb5)
        have HOZ : Hid (Own .u8 5 w.heap.size w5 (.slice a5 n5 c5) (slotD 1 (imageL p))) := Lib.hid (by rw [← HO.out]; exact ho5.weaken HBW.out.size)
        clear ho5 hb5
        go_wp2_with fail
        refine bodyPost_ret (v := .tuple #[.slice a5 n5 c5, .bool false, .int .i64 0]) (by simp [results, Try.results55, go_sem]) rfl ?_
        rw [HR.out]
        exact ⟨_, rfl, HOZ.out, HBZ.out⟩
      | true =>
        have HR0 : Hid (Z = if 2147483647 ≤ m then ([], false, 8) else (slotD (m + 1) (imageL p), !lastB d, 0)) := Lib.hid (by
          obtain ⟨P, hP⟩ := HSO.out rfl
          exact HZ.out.symm.trans (nextD_some HE.out HF.out hP))
        have hm0 := HM0.out rfl
        clear HNO HSO HM0
        by_cases hm : 2147483647 ≤ m
        · have HR := Lib.hid (HR0.out.trans (if_pos hm))
          go_wp2_with fail
          refine bodyPost_ret (v := .tuple #[.slice none 0 0, .bool false, .int .i64 8]) (by simp [results, Try.results55, go_sem]) rfl ?_
          rw [HR.out]
          exact ⟨_, rfl, Own.nil _ _ _ _, HBW.out⟩
        · have HR := Lib.hid (HR0.out.trans (if_neg hm))
          have hmw : m + 1 < 4294967296 := by omega
          go_wp2_with fail
          generalize w3.alloc (.cells #[.slice qo qn qc, .slice ro rn rc] 49) = W3 at *
          refine (slot_any W3 (m + 1) yo yn yc (outI p) (by omega) hmw HX.out.len HX.out.low.row (by rw [HO.out]; exact HXB.out) HX.out.cap.2 (by have := HYN.out; omega)).mono ?_
          rintro e w5 ⟨v5, rfl, ho5, hb5⟩
          obtain ⟨a5, n5, c5, rfl⟩ := ho5.shapeN
          have HBZ := Lib.hid (below_step HBW.out hb5)
          have HOZ : Hid (Own .u8 5 w.heap.size w5 (.slice a5 n5 c5) (slotD (m + 1) (imageL p))) := Lib.hid (by rw [← HO.out]; exact ho5.weaken HBW.out.size)
          clear ho5 hb5
          go_wp2_with fail
          refine bodyPost_ret (v := .tuple #[.slice a5 n5 c5, .bool (!LB), .int .i64 0]) (by simp [results, Try.results55, go_sem]) rfl ?_
          rw [HR.out, HLB.out]
          exact ⟨_, rfl, HOZ.out, HBZ.out⟩
    · have HR : Hid (Z = ([], false, F)) := Lib.hid (by rw [← HZ.out, nextD_pool HE.out (by rw [HF.out]; exact hF0), HF.out])
      have q1 : (F == 0) = false := by rw [beq_eq_false_iff_ne]; exact hF0
      clear hF0
      go_wp2_with fail
      refine bodyPost_ret (v := .tuple #[.slice none 0 0, .bool false, .int .i64 F]) (by simp [results, Try.results55, go_sem]) rfl ?_
      rw [HR.out]
      exact ⟨_, rfl, Own.nil _ _ _ _, HBW.out⟩
  · have HR : Hid (Z = ([], false, E)) := Lib.hid (by rw [← HZ.out, nextD_bad (by rw [HE.out]; exact hE0), HE.out])
    have q1 : (E == 0) = false := by rw [beq_eq_false_iff_ne]; exact hE0
    clear hE0
    go_wp2_with fail
    refine bodyPost_ret (v := .tuple #[.slice none 0 0, .bool false, .int .i64 E]) (by simp [results, Try.results55, go_sem]) rfl ?_
    rw [HR.out]
    exact ⟨_, rfl, Own.nil _ _ _ _, HBW.out⟩
end Go.Proofs.Ytfmgdjgedhnmeaa
