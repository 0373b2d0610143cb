/- file.turned, Over, Read, Write, Cut. -/
import Derived.Test.YtodogcokljmkmaaTurn
namespace Go.Proofs.Ytodogcokljmkmaa
open Go.RowKit
set_option linter.unusedVariables false

theorem four_allocs (w : World) (a b c d : Obj) :
    Below w.heap.size w ((((w.alloc a).alloc b).alloc c).alloc d) ∧ ((((w.alloc a).alloc b).alloc c).alloc d).heap[w.heap.size]? = some a ∧ ((((w.alloc a).alloc b).alloc c).alloc d).heap[w.heap.size + 1]? = some b ∧
      ((((w.alloc a).alloc b).alloc c).alloc d).heap[w.heap.size + 1 + 1]? = some c ∧ ((((w.alloc a).alloc b).alloc c).alloc d).heap[w.heap.size + 1 + 1 + 1]? = some d ∧ ((((w.alloc a).alloc b).alloc c).alloc d).heap.size = w.heap.size + 4 := by
  refine ⟨((((Below.refl _ _).alloc (Nat.le_refl _) _).alloc (by simp) _).alloc (by simp; omega) _).alloc (by simp; omega) _, ?_, ?_, ?_, ?_, by simp⟩
  · rw [Below.heap_alloc _ _ _ (by simp; omega), Below.heap_alloc _ _ _ (by simp; omega)]; exact heap_alloc2_old _ _ _
  · rw [Below.heap_alloc _ _ _ (by simp), Below.heap_alloc _ _ _ (by simp)]; exact heap_alloc2_new _ _ _
  · rw [Below.heap_alloc _ _ _ (by simp)]
    have h := heap_alloc_new ((w.alloc a).alloc b) c
    rw [show ((w.alloc a).alloc b).heap.size = w.heap.size + 1 + 1 from by simp] at h
    exact h
  · have h := heap_alloc_new (((w.alloc a).alloc b).alloc c) d
    rw [show (((w.alloc a).alloc b).alloc c).heap.size = w.heap.size + 1 + 1 + 1 from by simp] at h
    exact h

/-- a store and a file are put where results lie -/
theorem put_results {X : World} {k2 k3 t2 t3 l c : Nat} {x0 : Option Addr} {a b : Int} (p3 : X.heap[k2]? = some (.cells #[.slice x0 l c] t2 (0, 0))) (p4 : X.heap[k3]? = some (.cells #[.int .i64 a, .int .i64 b] t3 (0, 0))) (h23 : k2 ≠ k3) (v : Value) (x y : Int) :
    (((X.setCell ⟨k2, 0, none⟩ v).setCell ⟨k3, 0, none⟩ (.int .i64 x)).setCell ⟨k3, 1, none⟩ (.int .i64 y)).heap[k2]? = some (.cells #[v] t2 (0, 0)) ∧
    (((X.setCell ⟨k2, 0, none⟩ v).setCell ⟨k3, 0, none⟩ (.int .i64 x)).setCell ⟨k3, 1, none⟩ (.int .i64 y)).heap[k3]? = some (.cells #[.int .i64 x, .int .i64 y] t3 (0, 0)) ∧
    (∀ base (ao : Option Addr) n cap (s : List Blk) M, OwnSto X base (.slice ao n cap) s → Good s M → k2 < base → k3 < base → OwnSto (((X.setCell ⟨k2, 0, none⟩ v).setCell ⟨k3, 0, none⟩ (.int .i64 x)).setCell ⟨k3, 1, none⟩ (.int .i64 y)) base (.slice ao n cap) s) ∧
    (∀ B w0, Below B w0 X → B ≤ k2 → B ≤ k3 → Below B w0 (((X.setCell ⟨k2, 0, none⟩ v).setCell ⟨k3, 0, none⟩ (.int .i64 x)).setCell ⟨k3, 1, none⟩ (.int .i64 y))) := by
  have q3 := one_setCell (u := v) p3
  have q4 : (X.setCell ⟨k2, 0, none⟩ v).heap[k3]? = _ := heap_setCell_ne p4 (Ne.symm h23)
  refine ⟨heap_setCell_ne (heap_setCell_ne q3 h23) h23, file_set q4 x y, fun base ao n cap s M ho hG h2 h3 => ?_, fun B w0 hb h2 h3 => ((hb.setCell (p := ⟨k2, 0, none⟩) h2 v).setCell (p := ⟨k3, 0, none⟩) h3 _).setCell (p := ⟨k3, 1, none⟩) h3 _⟩
  exact own_file (ho.box p3 h2 v) hG q4 (fun g h1 h4 => by have := ((ho.box p3 h2 v).own_at h1 h4).le; omega) x y

/-- so far all is right -/
theorem turned_all {s : List Blk} (hc : checkE s = 0) (hw : WfS s) {root M0 : Int} (hr : RootAt s 3 root) (hfew : ∀ x ∈ s, x.refs ≤ M0) (hM : 1 ≤ M0) (hM2 : M0 ≤ 1000000) {key : Int} {was now : List Int} (hnow : now.length = 256) (hby : Byt now) :
    ∀ i, i ≤ 64 → (turnTo key was now (startR s root) i).2.2 = 0 → Turned M0 s key was now (leavesF 3 s root) i (turnTo key was now (startR s root) i) := by
  intro i
  induction i with
  | zero => intro _ _; exact turned_start hc hw hr hfew hM hM2 key was now
  | succ i ih =>
    intro hi he
    have h0 : (turnTo key was now (startR s root) i).2.2 = 0 := by
      by_cases h : (turnTo key was now (startR s root) i).2.2 = 0
      · exact h
      · rw [turnTo_bad h (i + 1) (by omega)] at he
        exact absurd he h
    exact turned_step hc hw hnow hby (by omega) hM hM2 (ih (by omega) h0) h0 he

def turnR (s : List Blk) (key root z : Int) (b : List Int) : List Blk × Int × Int := turnTo key (pad (fileB s key root z)) (pad b) (startR s root) 64
/-- what turned gives -/
def turnedR (s : List Blk) (key root z : Int) (b : List Int) : List Blk × (Int × Int) × Int :=
  if (turnR s key root z b).2.2 = 0 then ((turnR s key root z b).1, ((turnR s key root z b).2.1, (b.length : Int)), 0) else ([], (0, 0), (turnR s key root z b).2.2)

theorem turnR_good {s : List Blk} {key root z : Int} {b : List Int} (hok : fileE s key root z = 0) (hwf : WfS s) (hb : Byt b) (hb4 : b.length ≤ 256) (he : (turnR s key root z b).2.2 = 0) : Good (turnR s key root z b).1 1000833 := by
  obtain ⟨-, -, -, hc, -⟩ := fileE_ok hok
  obtain ⟨hce, m, hm3, hm, hroot, -, -⟩ := checkT_ok hc
  obtain rfl : m = 3 := by omega
  have h64 : (64 : Nat) ≤ 64 := Nat.le_refl _
  unfold turnR at *
  generalize h64e : (64 : Nat) = k64 at he h64 ⊢
  have h := turned_all hce hwf hroot (M0 := 1000000) (fun x hx => ((checkE_zero s hce).2.2.2.1 x hx).2) (by omega) (by omega) (pad_len b hb4) (pad_byt hb) k64 (by omega) he
  exact h.at_.good.weaken (by omega)

/-- a store, a file, an error -/
def FileEnd (e : Ending) (w w' : World) (r : List Blk × (Int × Int) × Int) : Prop :=
  ∃ v, e = .returned (.tuple #[.agg #[v], .agg #[.int .i64 r.2.1.1, .int .i64 r.2.1.2], .int .i64 r.2.2]) ∧ OwnSto w' w.heap.size v r.1 ∧ Below w.heap.size w w'

set_option maxRecDepth 100000 in
set_option maxHeartbeats 8000000 in
theorem turned_any (w : World) (ao ba : Option Addr) (n cap nb bc z : Nat) (s : List Blk) (key root : Int) (b : List Int) (hn : s.length = n) (hs : StoRow w ao s) (hwf : WfS s) (hc : Capd ao n cap) (hok : fileE s key root z = 0) (hby : Byt b) (hnb : b.length = nb) (hb4 : nb ≤ 256) (hbr : Row .u8 w ba b) (hbc : Capd ba nb bc) :
    Calls Try.prog 45 #[.agg #[.slice ao n cap], .int .i64 key, .agg #[.int .i64 root, .int .i64 z], .slice ba nb bc] w fun e w' => FileEnd e w w' (turnedR s key root z b) := by
  have h400 : n ≤ 400 := by
    obtain ⟨-, -, -, hc, -⟩ := fileE_ok hok
    have := (checkE_zero s (checkT_ok hc).1).1
    omega
  have HN := Lib.hid hn
  have HC := Lib.hid hc
  have HB := Lib.hid hnb
  have HG := Lib.hid (fun h => turnR_good (z := (z : Int)) hok hwf hby (by omega) h)
  have HTR : Hid (turnedR s key root z b = if (turnR s key root z b).2.2 = 0 then ((turnR s key root z b).1, ((turnR s key root z b).2.1, (nb : Int)), 0) else ([], (0, 0), (turnR s key root z b).2.2)) := Lib.hid (by unfold turnedR; rw [hnb])
  have HTA : Hid (∀ (u : World) (pb base : Nat) (a1 : Option Addr) (c1 : Nat), u.heap[pb]? = some (.cells #[.slice a1 n c1] 24 (0, 0)) → OwnSto u base (.slice a1 n c1) s → (∀ g, s ≠ [] → a1 = some ⟨g, 0, none⟩ → pb ≠ g) → base ≤ u.heap.size → Row .u8 u ba b →
      Calls Try.prog 91 #[.pointer (some ⟨pb, 0, none⟩), .int .i64 key, .agg #[.int .i64 root, .int .i64 z], .slice ba nb bc] u fun e w' => TurnEnd e u w' base a1 n c1 nb s (turnR s key root z b)) :=
    Lib.hid (by unfold turnR; exact fun u pb base a1 c1 hbox ho hpn hbs hbr => turn_any u pb base a1 ba n c1 nb bc z s key root b hn hbox ho hpn hbs hwf hok hby hnb hb4 hbr hbc)
  generalize turnedR s key root z b = RD at *
  generalize turnR s key root z b = RT at *
  obtain ⟨hb0, p1, p2, p3, p4, hz4⟩ := four_allocs w (.cells #[.slice ao n cap] 24) (.cells #[.int .i64 root, .int .i64 z] 26) (.cells #[.slice none 0 0] 24) (.cells #[.int .i64 0, .int .i64 0] 26)
  clear hn hc hnb hok
  go_enter Try.func45, Try.ntmps45
  go_wp2_with fail
  generalize (((w.alloc (.cells #[.slice ao n cap] 24)).alloc (.cells #[.int .i64 root, .int .i64 z] 26)).alloc (.cells #[.slice none 0 0] 24)).alloc (.cells #[.int .i64 0, .int .i64 0] 26) = W0 at *
  have hs0 := hs.mono hb0
  refine (copy_any _ _ _ _ s HN.out hs0 hwf HC.out (by omega)).mono ?_
  rintro e w3 ⟨v, rfl, ho, hb3⟩
  have l1 := lt_heap p1
  have l2 := lt_heap p2
  have l3 := lt_heap p3
  have l4 := lt_heap p4
  have p1 := (hb3.block _ l1).trans p1
  have p2 := (hb3.block _ l2).trans p2
  have p3 := (hb3.block _ l3).trans p3
  have p4 := (hb3.block _ l4).trans p4
  have hbw := below_step hb0 hb3
  have ho := ho.box p1 (by omega) v
  obtain ⟨a1, cap1, hv1, hc1, hr1⟩ := ho.sto
  rw [HN.out] at hv1 hc1
  subst hv1
  have c1 := cell_of_one p1
  have f1 := free_of_one p1
  have q1 := one_setCell (u := .slice a1 n cap1) p1
  have q2 : (w3.setCell ⟨w.heap.size, 0, none⟩ (.slice a1 n cap1)).heap[w.heap.size + 1]? = _ := heap_setCell_ne p2 (by simp)
  have q3 : (w3.setCell ⟨w.heap.size, 0, none⟩ (.slice a1 n cap1)).heap[w.heap.size + 1 + 1]? = _ := heap_setCell_ne p3 (by simp; omega)
  have q4 : (w3.setCell ⟨w.heap.size, 0, none⟩ (.slice a1 n cap1)).heap[w.heap.size + 1 + 1 + 1]? = _ := heap_setCell_ne p4 (by simp; omega)
  have hbw2 := hbw.setCell (p := ⟨w.heap.size, 0, none⟩) (Nat.le_refl _) (.slice a1 n cap1)
  have hzz : W0.heap.size ≤ (w3.setCell ⟨w.heap.size, 0, none⟩ (.slice a1 n cap1)).heap.size := by have := hb3.size; simpa using this
  have hgb : ∀ g, s ≠ [] → a1 = some ⟨g, 0, none⟩ → W0.heap.size ≤ g := fun g h1 h2 => (ho.own_at h1 h2).le
  have hbr := hbr.mono hbw2
  have d0 := cell_of_block q2 0
  have d1 := cell_of_block q2 1
  simp at d0 d1
  have m2 := lt_heap q2
  clear hs0 hr1 hc1 hb3
  go_wp2_with fail
  refine (HTA.out _ w.heap.size W0.heap.size a1 cap1 q1 ho (fun g h1 h2 => by have := hgb g h1 h2; omega) hzz hbr).mono ?_
  rintro e w5 ⟨rfl, hb5, hf5, hs5⟩
  have hfr : ∀ c, c < W0.heap.size → w5.heap[c]? = (w3.setCell ⟨w.heap.size, 0, none⟩ (.slice a1 n cap1)).heap[c]? := fun c hc => hb5.block c hc
  have q1 := (hfr _ (by omega)).trans q1
  have q2 := (hfr _ (by omega)).trans q2
  have q3 := (hfr _ (by omega)).trans q3
  have q4 := (hfr _ (by omega)).trans q4
  have hbw5 := hbw2.trans (hb5.mono (by omega))
  have m1 := lt_heap q1
  have m2 := lt_heap q2
  have m3 := lt_heap q3
  have m4 := lt_heap q4
  have hwl : w.heap.size + 4 = W0.heap.size := hz4.symm
  obtain ⟨t, rt, re⟩ := RT
  simp only at HG HTR hs5 ⊢
  have g0 := free_of_block q2 0
  have g1 := free_of_block q2 1
  have e0 := cell_of_block q2 0
  have e1 := cell_of_block q2 1
  simp at e0 e1
  by_cases he : re = 0
  · subst he
    have hO := hs5 rfl
    have hG := HG.out rfl
    have hOz := own_file hO hG q2 (fun g h1 h2 => by have := (hO.own_at h1 h2).le; omega) rt nb
    have r2 := file_set q2 rt nb
    have HRD : Hid (RD = (t, (rt, (nb : Int)), 0)) := Lib.hid (by rw [HTR.out, if_pos rfl])
    have hb6 := (hbw5.setCell (p := ⟨w.heap.size + 1, 0, none⟩) (by simp) (.int .i64 rt)).setCell (p := ⟨w.heap.size + 1, 1, none⟩) (by simp) (.int .i64 nb)
    have r1 := heap_setCell_ne (a := ⟨w.heap.size + 1, 1, none⟩) (v := .int .i64 nb) (heap_setCell_ne (a := ⟨w.heap.size + 1, 0, none⟩) (v := .int .i64 rt) q1 (by simp)) (by simp)
    have r3 := heap_setCell_ne (a := ⟨w.heap.size + 1, 1, none⟩) (v := .int .i64 nb) (heap_setCell_ne (a := ⟨w.heap.size + 1, 0, none⟩) (v := .int .i64 rt) q3 (by simp)) (by simp)
    have r4 := heap_setCell_ne (a := ⟨w.heap.size + 1, 1, none⟩) (v := .int .i64 nb) (heap_setCell_ne (a := ⟨w.heap.size + 1, 0, none⟩) (v := .int .i64 rt) q4 (by simp; omega)) (by simp; omega)
    have x1 := cell_of_one r1
    have x20 := cell_of_block r2 0
    have x21 := cell_of_block r2 1
    simp at x20 x21
    have x3 := cell_of_one r3
    have y3 := free_of_one r3
    have x40 := cell_of_block r4 0
    have x41 := cell_of_block r4 1
    simp at x40 x41
    have y40 := free_of_block r4 0
    have y41 := free_of_block r4 1
    simp only [if_true]
    go_wp2_with fail
    generalize (w5.setCell ⟨w.heap.size + 1, 0, none⟩ (.int .i64 rt)).setCell ⟨w.heap.size + 1, 1, none⟩ (.int .i64 nb) = X at *
    obtain ⟨z3, z4, zo, zb⟩ := put_results r3 r4 (by omega) (.slice a1 n cap1) rt nb
    have v3 := cell_of_one z3
    have v40 := cell_of_block z4 0
    have v41 := cell_of_block z4 1
    simp at v40 v41
    have hOz := (zo _ _ _ _ _ _ hOz hG (by omega) (by omega)).weaken (show w.heap.size ≤ W0.heap.size by omega)
    have hbz := zb _ _ hb6 (by omega) (by omega)
    go_region_with fail
    all_goals
      go_wp2_with fail
      refine bodyPost_ret (v := .tuple #[.agg #[.slice a1 n cap1], .agg #[.int .i64 rt, .int .i64 nb], .int .i64 0]) (by simp [results, Try.results45, go_sem, v3, v40, v41]) rfl ⟨.slice a1 n cap1, by rw [HRD.out], ?_, ?_⟩
      · rw [HRD.out]; exact hOz.mono (Below.refl _ _).drew
      · exact hbz.drew
  · have HRD : Hid (RD = ([], (0, 0), re)) := Lib.hid (by rw [HTR.out, if_neg he])
    have he1 : (re != 0) = true := by rw [bne_iff_ne]; exact he
    simp only [if_neg he]
    have hb6 := (hbw5.setCell (p := ⟨w.heap.size + 1, 0, none⟩) (by simp) (.int .i64 0)).setCell (p := ⟨w.heap.size + 1, 1, none⟩) (by simp) (.int .i64 0)
    have r3 := heap_setCell_ne (a := ⟨w.heap.size + 1, 1, none⟩) (v := .int .i64 0) (heap_setCell_ne (a := ⟨w.heap.size + 1, 0, none⟩) (v := .int .i64 0) q3 (by simp)) (by simp)
    have r4 := heap_setCell_ne (a := ⟨w.heap.size + 1, 1, none⟩) (v := .int .i64 0) (heap_setCell_ne (a := ⟨w.heap.size + 1, 0, none⟩) (v := .int .i64 0) q4 (by simp; omega)) (by simp; omega)
    have x3 := cell_of_one r3
    have y3 := free_of_one r3
    have x40 := cell_of_block r4 0
    have x41 := cell_of_block r4 1
    simp at x40 x41
    have y40 := free_of_block r4 0
    have y41 := free_of_block r4 1
    obtain ⟨z3, z4, zo, zb⟩ := put_results r3 r4 (by omega) (.slice none 0 0) 0 0
    have v3 := cell_of_one z3
    have v40 := cell_of_block z4 0
    have v41 := cell_of_block z4 1
    simp at v40 v41
    have hbz := zb _ _ hb6 (by omega) (by omega)
    go_wp2_with fail
    refine bodyPost_ret (v := .tuple #[.agg #[.slice none 0 0], .agg #[.int .i64 0, .int .i64 0], .int .i64 re]) (by simp [results, Try.results45, go_sem, v3, v40, v41]) rfl ⟨.slice none 0 0, by rw [HRD.out], ?_, ?_⟩
    · rw [HRD.out]; exact OwnSto.none _ _
    · exact hbz
end Go.Proofs.Ytodogcokljmkmaa
