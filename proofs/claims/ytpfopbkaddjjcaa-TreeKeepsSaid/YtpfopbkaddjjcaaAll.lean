/- tree.All; slices.EqualFunc over rows of bytes. -/
import Derived.Test.YtpfopbkaddjjcaaLeaves
namespace Go.Proofs.Ytpfopbkaddjjcaa
open Go.RowKit
set_option linter.unusedVariables false

/-- values that read as bytes -/
structure LW (w : World) (vs : List Value) (L : List (List Int)) : Prop where
  len : vs.length = L.length
  each : ∀ i (h : i < vs.length) (h' : i < L.length), Sl .u8 w vs[i] L[i]
theorem LV.lw {w : World} {vs : List Value} {L : List (List Int)} (h : LV w vs L) : LW w vs L := ⟨h.len, fun i h1 h2 => (h.each i h1 h2).1⟩
theorem LW.mono {w w' : World} {vs : List Value} {L : List (List Int)} (h : LW w vs L) (hb : Below w.heap.size w w') : LW w' vs L :=
  ⟨h.len, fun i h1 h2 => (h.each i h1 h2).mono' hb⟩

/-- a row of byte slices, read -/
def Rows2 (w : World) (ao : Option Addr) (L : List (List Int)) : Prop :=
  L = [] ∨ ∃ b o, ao = some ⟨b, o, none⟩ ∧ ∀ i (h : i < L.length), ∃ u, w.cell? ⟨b, o + i, none⟩ = some u ∧ Sl .u8 w u L[i]
theorem Rows2.mono {w w' : World} {ao : Option Addr} {L : List (List Int)} (h : Rows2 w ao L) (hb : Below w.heap.size w w') : Rows2 w' ao L := by
  rcases h with h | ⟨b, o, rfl, h⟩
  · exact .inl h
  · refine .inr ⟨b, o, rfl, fun i hi => ?_⟩
    obtain ⟨u, h1, h2⟩ := h i hi
    exact ⟨u, ((bcell hb).1 _ _ (World.block_lt_of_cell? _ _ h1)).trans h1, h2.mono' hb⟩
theorem rows2_of {w : World} {base n : Nat} {v : Value} {vs : List Value} {L : List (List Int)} (h : w.ownsRow base 27 1 v n vs) (hn : vs.length = n) (hL : LW w vs L) : ∃ ao cap, v = .slice ao n cap ∧ Rows2 w ao L := by
  have hl := hL.len
  obtain ⟨h1, ⟨rfl, h3⟩ | ⟨g, cap, cur, rfl, hb, hg, hle, hm, hs, ht⟩⟩ := h
  · exact ⟨none, 0, by rw [h3], .inl (List.eq_nil_of_length_eq_zero (by omega))⟩
  · refine ⟨some ⟨g, 0, none⟩, cap, rfl, .inr ⟨g, 0, rfl, fun i hi => ?_⟩⟩
    have hiv : i < vs.length := by omega
    refine ⟨vs[i], ?_, hL.each i hiv hi⟩
    rw [Nat.zero_add, cell_of_block hg]
    have e : (cur.toList.take (n * 1))[i]? = vs[i]? := by rw [ht]
    rw [List.getElem?_take, if_pos (by omega), List.getElem?_eq_getElem hiv] at e
    simpa using e

theorem blk_byt {s : List Blk} (hw : WfS s) (a : Int) : Byt (blk s a).bytes := by
  unfold blk
  cases h : s[(a - 1).toNat]? with
  | none => intro x hx; simp [noBlk] at hx
  | some y => exact (hw y (List.mem_of_getElem? h)).bytes
theorem leafB_byt {s : List Blk} (hw : WfS s) (m : Nat) (a : Int) (i : Nat) : Byt (leafB m s a i) := by
  unfold leafB
  split
  · intro x hx; cases hx
  · exact blk_byt hw _
theorem leavesF_byt {s : List Blk} (hw : WfS s) (m : Nat) (a : Int) : ∀ x ∈ leavesF m s a, Byt x := by
  intro x hx
  obtain ⟨i, _, rfl⟩ := List.mem_map.1 hx
  exact leafB_byt hw m a i

set_option maxRecDepth 100000 in
set_option maxHeartbeats 2000000 in
theorem equalRows (w : World) (ao bo : Option Addr) (n c m d : Nat) (L K : List (List Int)) (hn : L.length = n) (hm : K.length = m) (h1k : n ≤ 1000) (h1k' : m ≤ 1000) (hL : Rows2 w ao L) (hK : Rows2 w bo K) (bL : ∀ x ∈ L, Byt x) (bK : ∀ x ∈ K, Byt x) :
    Calls Try.prog 59 #[.slice ao n c, .slice bo m d, .func (.func 23) #[] #[]] w fun e w' => e = .returned (.bool (decide (L = K))) ∧ w' = w := by
  have HN := Lib.hid hn
  have HM := Lib.hid hm
  by_cases hnm : n = m
  rotate_left
  · have HD := Lib.hid (show decide (L = K) = false by rw [decide_eq_false_iff_not]; intro e; rw [e] at hn; omega)
    have hne : ((n : Int) != m) = true := by rw [bne_iff_ne]; omega
    clear hn hm hL hK
    go_enter Try.func59, Try.ntmps59
    go_wp2
    go_ret
    exact ⟨by rw [HD.out]; rfl, rfl⟩
  · subst hnm
    clear hn hm
    have HBL := Lib.hid bL
    have HBK := Lib.hid bK
    clear bL bK
    go_enter Try.func59, Try.ntmps59
    go_wp2
    go_loop [17] (fun i => ∃ k : Nat, k ≤ n ∧ i = .int .i64 k ∧ Hid (L.take k = K.take k)) (fun i => n - (intOf i).toNat)
    case atStart => exact ⟨0, Nat.zero_le _, rfl, Lib.hid rfl⟩
    case round =>
      obtain ⟨k, hkn, rfl, HT⟩ := hrel
      by_cases hlt : k < n
      · have h1 : k < L.length := by have := HN.out; omega
        have h2 : k < K.length := by have := HM.out; omega
        obtain ⟨b1, o1, rfl, hc1⟩ := hL.resolve_left (fun e => by rw [e] at h1; simp at h1)
        obtain ⟨b2, o2, rfl, hc2⟩ := hK.resolve_left (fun e => by rw [e] at h2; simp at h2)
        obtain ⟨u, x1, ua, uc, rfl, ur, -⟩ := hc1 k h1
        obtain ⟨v, x2, va, vc, rfl, vr, -⟩ := hc2 k h2
        have l1 := World.block_lt_of_cell? _ _ x1
        have l2 := World.block_lt_of_cell? _ _ x2
        have y1 := HBL.out _ (List.getElem_mem h1)
        have y2 := HBK.out _ (List.getElem_mem h2)
        have hts1 := List.take_succ_eq_append_getElem h1
        have hts2 := List.take_succ_eq_append_getElem h2
        have HE := Lib.hid (fun (e : L = K) => show L[k] = K[k] by simp only [e])
        have HT1 := Lib.hid hts1
        have HT2 := Lib.hid hts2
        clear hc1 hc2 hts1 hts2
        generalize L[k] = xs at *
        generalize K[k] = ys at *
        obtain ⟨xn, hxn⟩ : ∃ xn, xs.length = xn := ⟨_, rfl⟩
        obtain ⟨yn, hyn⟩ : ∃ yn, ys.length = yn := ⟨_, rfl⟩
        rw [hxn] at x1
        rw [hyn] at x2
        have HXN := Lib.hid hxn
        have HYN := Lib.hid hyn
        clear hxn hyn
        go_wp2_with fail
        have hE := bytes_equal_n ua va xn yn uc vc xs ys w HXN.out HYN.out ur vr y1 y2
        obtain ⟨cb, hcb⟩ : ∃ cb, (xs == ys) = cb := ⟨_, rfl⟩
        rw [hcb] at hE
        have HCB := Lib.hid hcb
        clear hcb
        refine hE.mono ?_
        rintro e w1 ⟨rfl, rfl⟩
        cases cb with
        | true =>
          have he : xs = ys := by have := HCB.out; rwa [beq_iff_eq] at this
          have HT3 : Hid (L.take (k + 1) = K.take (k + 1)) := Lib.hid (by rw [HT1.out, HT2.out, HT.out, he])
          clear he
          go_wp2
          go_round
          case rel => exact ⟨k + 1, by omega, by go_num, HT3⟩
          case measure => simp [intOf]; omega
        | false =>
          have he : ¬ xs = ys := by have := HCB.out; rwa [beq_eq_false_iff_ne] at this
          have HD := Lib.hid (show decide (L = K) = false by rw [decide_eq_false_iff_not]; intro e; exact he (HE.out e))
          clear he
          go_wp2
          go_ret
          exact ⟨by rw [HD.out]; rfl, rfl⟩
      · obtain rfl : k = n := by omega
        have HD := Lib.hid (show decide (L = K) = true by
          have h3 := HT.out
          rw [List.take_of_length_le (by have := HN.out; omega), List.take_of_length_le (by have := HM.out; omega)] at h3
          exact decide_eq_true h3)
        go_wp2
        go_ret
        exact ⟨by rw [HD.out]; rfl, rfl⟩

def allR (s : List Blk) (root l : Int) : List (List Int) × Int := if checkT s root l 0 ≠ 0 then ([], checkT s root l 0) else (leavesF l.toNat s root, 0)

/-- a row of clones, as far as it is filled -/
def RowTo (w : World) (kb q k : Nat) (L : Nat → List Int) : Prop :=
  ∃ vs : List Value, vs.length = q ∧ w.heap[kb]? = some (.cells vs.toArray 27 (0, 0)) ∧ ∀ i (h : i < vs.length), i < k → SlX kb .u8 w vs[i] (L i)

theorem RowTo.mono {w w' : World} {kb q k : Nat} {L : Nat → List Int} (h : RowTo w kb q k L) (hb : Below w.heap.size w w') : RowTo w' kb q k L := by
  obtain ⟨vs, h1, h2, h3⟩ := h
  exact ⟨vs, h1, (hb.block _ (lt_heap h2)).trans h2, fun i hi hk => (h3 i hi hk).keep fun b _ hlt => hb.block b hlt⟩
theorem RowTo.put {w : World} {kb q k : Nat} {L : Nat → List Int} {v : Value} (h : RowTo w kb q k L) (hk : k < q) (hv : SlX kb .u8 w v (L k)) : RowTo (w.setCell ⟨kb, k, none⟩ v) kb q (k + 1) L := by
  obtain ⟨vs, h1, h2, h3⟩ := h
  have hkeep : ∀ b, b ≠ kb → b < w.heap.size → (w.setCell ⟨kb, k, none⟩ v).heap[b]? = w.heap[b]? := fun b hb _ => Below.heap_setCell _ _ _ _ hb
  refine ⟨vs.set k v, by rw [List.length_set]; exact h1, ?_, fun i hi hik => ?_⟩
  · have := heap_setCell_same' h2 k v
    simpa using this
  · rw [List.length_set] at hi
    rw [List.getElem_set]
    by_cases e : k = i
    · subst e
      rw [if_pos rfl]
      exact hv.keep hkeep
    · rw [if_neg e]
      exact (h3 i hi (by omega)).keep hkeep
theorem RowTo.free {w : World} {kb q k : Nat} {L : Nat → List Int} (h : RowTo w kb q k L) (hk : k < q) : (∃ u, w.cell? ⟨kb, k, none⟩ = some u) ∧ w.frozen? ⟨kb, k, none⟩ = false ∧ kb < w.heap.size := by
  obtain ⟨vs, h1, h2, h3⟩ := h
  refine ⟨⟨vs[k]'(by omega), ?_⟩, free_of_block h2 k, lt_heap h2⟩
  rw [cell_of_block h2]
  simp [h1, hk]
theorem RowTo.done {w : World} {base kb q : Nat} {L : Nat → List Int} (h : RowTo w kb q q L) (hb : base ≤ kb) (hq : q ≤ maxLen) :
    ∃ vs : List Value, vs.length = q ∧ w.ownsRow base 27 1 (.slice (some ⟨kb, 0, none⟩) q q) q vs ∧ LW w vs ((List.range q).map L) := by
  obtain ⟨vs, h1, h2, h3⟩ := h
  refine ⟨vs, h1, ⟨by simp [h1], .inr ⟨kb, q, vs.toArray, rfl, hb, h2, Nat.le_refl _, hq, by simp [h1], ?_⟩⟩, ⟨by simp [h1], fun i hi hi' => ?_⟩⟩
  · rw [Nat.mul_one, ← h1]
    simp
  · have := (h3 i hi (by omega)).sl
    simpa using this

set_option maxRecDepth 100000 in
set_option maxHeartbeats 4000000 in
theorem all_any (w : World) (ao : Option Addr) (n cap : Nat) (s : List Blk) (root l : Int) (hn : s.length = n) (hn63 : n ≤ 1152921504606846976) (hs : StoRow w ao s) (hwf : WfS s) :
    Calls Try.prog 57 #[.agg #[.slice ao n cap], .int .i64 root, .int .i64 l] w fun e w' => ∃ v vs, e = .returned (.tuple #[v, .int .i64 (allR s root l).2]) ∧ w'.ownsRow w.heap.size 27 1 v vs.length vs ∧ LW w' vs (allR s root l).1 ∧ Below w.heap.size w w' := by
  have HN := Lib.hid hn
  have hb0 : Below w.heap.size w (w.alloc (.cells #[.slice ao n cap] 40)) := (Below.refl _ _).alloc (Nat.le_refl _) _
  have q4 : (w.alloc (.cells #[.slice ao n cap] 40)).heap[w.heap.size]? = some (.cells #[.slice ao n cap] 40 (0, 0)) := heap_alloc_new _ _
  clear hn
  go_enter Try.func57, Try.ntmps57
  go_wp2_with fail
  have hs := hs.mono hb0
  generalize w.alloc (Obj.cells #[Value.slice ao n cap] 40) = W0 at *
  refine (treeCheck_any _ _ _ _ s root l 0 HN.out hn63 hs hwf).mono ?_
  rintro e w1 ⟨rfl, hb1⟩
  replace q4 := (hb1.block _ (lt_heap q4)).trans q4
  have hbw := below_step hb0 hb1
  replace hs := hs.mono hb1
  by_cases hc : checkT s root l 0 = 0
  rotate_left
  · have HR := Lib.hid (show allR s root l = ([], checkT s root l 0) by unfold allR; rw [if_pos hc])
    have he1 : (checkT s root l 0 != 0) = true := by rw [bne_iff_ne]; exact hc
    generalize hcc : checkT s root l 0 = ce at *
    replace hcc := Lib.hid hcc
    clear hc hs
    go_wp2
    go_ret2
    exact ⟨_, [], by rw [HR.out]; rfl, World.ownsRow_nil _ _ _ _, by rw [HR.out]; exact ⟨rfl, fun i h => by simp at h⟩, hbw⟩
  · obtain ⟨hce, m, rfl, hm, hroot, -, -⟩ := checkT_ok hc
    have hf := (checkE_zero s hce).2.1
    have h400 : n ≤ 400 := by have := (checkE_zero s hce).1; have := HN.out; omega
    have HR := Lib.hid (show allR s root m = ((List.range (p4n m)).map (leafB m s root), 0) by unfold allR; rw [if_neg (by simp [hc])]; rfl)
    have he1 : (checkT s root m 0 != 0) = false := by rw [hc]; rfl
    have hl1 : lvN (m : Int) = (((p4n m : Nat) : Int), 0) := by
      unfold lvN
      rw [if_neg (by omega), ← p4n_int]; rfl
    have hp64 : p4n m ≤ 64 := by unfold p4n; (repeat' split) <;> omega
    have HGL := Lib.hid (fun i (hi : i < p4n m) => (leafB_len hf m root i hm hroot hi).1)
    have HGT := Lib.hid (fun (u : World) (hu : StoRow u ao s) (i : Nat) (hi : i < p4n m) => treeget_any u ao n cap s root m i HN.out h400 hu hwf hf hm hroot hi)
    clear hc hce
    generalize hcc : checkT s root m 0 = ce at *
    replace hcc := Lib.hid hcc
    go_wp2_with fail
    refine (leaves_any _ _).mono ?_
    rw [hl1]
    rintro e w2 ⟨rfl, rfl⟩
    generalize p4n m = q at *
    generalize leafB m s root = LB at *
    have hmk : (Instr.makeSlice 77 (.int .i64 (q : Int)) (.int .i64 (q : Int))).run Try.prog w2 = .ok (.slice (some ⟨w2.heap.size, 0, none⟩) q q) (w2.alloc (.cells (madeCells #[.slice none 0 0] q) 27)) :=
      run_make_row' 77 27 (.slice none 0 0) 24 Try.underlying77 info_ys rfl .i64 .i64 q (by omega) (by omega) w2
    have hRT : RowTo (w2.alloc (.cells (madeCells #[.slice none 0 0] q) 27)) w2.heap.size q 0 LB := by
      refine ⟨List.replicate q (.slice none 0 0), by simp, ?_, fun i _ h => by omega⟩
      have h := heap_alloc_new w2 (.cells (madeCells #[.slice none 0 0] q) 27)
      rw [h, ← toList_madeCells_one]
    have hbA : Below w2.heap.size w2 (w2.alloc (.cells (madeCells #[.slice none 0 0] q) 27)) := (Below.refl _ _).alloc (Nat.le_refl _) _
    go_wp2
    generalize w2.alloc (Obj.cells (madeCells #[Value.slice none 0 0] q) 27) = W3 at *
    have lq := lt_heap q4
    go_loopw [28] (fun x wr => ∃ k : Nat, k ≤ q ∧ x = .int .i64 k ∧ Below w2.heap.size w2 wr ∧ RowTo wr w2.heap.size q k LB) (fun x _ => q - (intOf x).toNat)
    case atStart => exact ⟨0, Nat.zero_le _, rfl, hbA, hRT⟩
    case round =>
      obtain ⟨k, hk, rfl, hbel, hT⟩ := hrel
      by_cases hlt : k < q
      · have p1 := (hbel.block _ lq).trans q4
        have c1 := cell_of_one p1
        have l1 := lt_heap p1
        have hkq : (k : Int) < q := by omega
        have hll := HGL.out k hlt
        have hG := HGT.out wr (hs.mono hbel) k hlt
        obtain ⟨-, -, hlr⟩ := hT.free hlt
        have HT := Lib.hid hT
        have HBE := Lib.hid hbel
        have hszr := hbel.size
        clear hT hbel
        obtain ⟨xs, hxs⟩ : ∃ xs, LB k = xs := ⟨_, rfl⟩
        rw [hxs] at hll hG
        have HXS := Lib.hid hxs
        clear hxs
        go_wp2_with fail
        refine hG.mono ?_
        rintro e w4 ⟨v4, rfl, hsl, hb4⟩
        obtain ⟨ba, bc, rfl, hbr, hbc⟩ := hsl
        obtain ⟨xn, hxn⟩ : ∃ xn, xs.length = xn := ⟨_, rfl⟩
        rw [hxn] at hbc hll ⊢
        have HXN := Lib.hid hxn
        clear hxn
        have hsz4 := hb4.size
        go_wp2_with fail
        refine (clone_bytes_n _ _ _ xs _ HXN.out hbr hbc.2 (by omega)).mono ?_
        rintro e w5 ⟨v5, rfl, hown5, -, hb5⟩
        obtain ⟨a5, c5, rfl, -, -, -, -⟩ := hown5.shape'
        have hT5 := (HT.out.mono hb4).mono hb5
        obtain ⟨⟨u5, hu5⟩, hf5, hl5⟩ := hT5.free hlt
        have hsx := hown5.slx (g := w2.heap.size) (by omega)
        rw [← HXS.out] at hsx
        have HT6 := Lib.hid (hT5.put hlt hsx)
        rw [HXS.out, HXN.out] at HT6
        rw [HXN.out]
        have hb6 := ((HBE.out.trans (hb4.mono hszr)).trans (hb5.mono (Nat.le_trans hszr hsz4))).setCell (p := ⟨w2.heap.size, k, none⟩) (Nat.le_refl _) (.slice a5 xn c5)
        clear hT5 hsx hown5 hbr hbc hb4 hb5
        go_wp2_with fail
        go_roundw
        case rel => exact ⟨k + 1, by omega, by go_num, hb6, HT6.out⟩
        case measure => simp [intOf]; omega
      · obtain rfl : k = q := by omega
        have hsw := hbw.size
        obtain ⟨vs, hvl, hvo, hvw⟩ := hT.done (base := w.heap.size) hsw (by unfold maxLen; omega)
        have HVO := Lib.hid hvo
        have HVW := Lib.hid hvw
        have HVL := Lib.hid hvl
        have hbz := below_step hbw hbel
        clear hvo hvw hvl hT
        go_wp2
        go_ret2
        exact ⟨_, vs, by rw [HR.out]; rfl, by rw [HVL.out]; exact HVO.out, by rw [HR.out]; exact HVW.out, hbz⟩
end Go.Proofs.Ytpfopbkaddjjcaa
