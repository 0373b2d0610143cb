/- rookeryref.CheckRoot: the same as tree.check. slices.Max of four. · Rows of byte slices; rookeryref.LeavesOf. · tree.All; slices.EqualFunc over rows of bytes. -/
import Derived.Test.YtgeacpfenhaioaaTreeGet
import Derived.Test.YtgeacpfenhaioaaDiffer
import Derived.Deep.AppendLies
import Derived.Deep.Onto
namespace Go.Proofs.Ytgeacpfenhaioaa
open Go.RowKit
set_option linter.unusedVariables false

end Go.Proofs.Ytgeacpfenhaioaa

namespace Go.Proofs.Ytgeacpfenhaioaa
open Go.RowKit
set_option linter.unusedVariables false

theorem info_ys : (Try.prog.info? 33).map (fun i => (i.zero, i.size, i.bytes)) = some (some (.slice none 0 0), 1, 24) := by kernel_rfl

/-- values that read as bytes; nothing is nil -/
structure LV (w : World) (vs : List Value) (L : List (List Int)) : Prop where
  len : vs.length = L.length
  each : ∀ i (h : i < vs.length) (h' : i < L.length), Sl .u8 w vs[i] L[i] ∧ (L[i] = [] → vs[i] = .slice none 0 0)

theorem LV.nil (w : World) : LV w [] [] := ⟨rfl, fun i h => by simp at h⟩
theorem Sl.mono' {k : IntKind} {w w' : World} {v : Value} {xs : List Int} (h : Sl k w v xs) (hb : Below w.heap.size w w') : Sl k w' v xs := by
  obtain ⟨ao, cap, h1, h2, h3⟩ := h
  exact ⟨ao, cap, h1, h2.mono hb, h3⟩
theorem LV.mono {w w' : World} {vs : List Value} {L : List (List Int)} (h : LV w vs L) (hb : Below w.heap.size w w') : LV w' vs L :=
  ⟨h.len, fun i h1 h2 => ⟨(h.each i h1 h2).1.mono' hb, (h.each i h1 h2).2⟩⟩
theorem LV.app {w : World} {vs us : List Value} {L K : List (List Int)} (h : LV w vs L) (k : LV w us K) : LV w (vs ++ us) (L ++ K) := by
  have h1 := h.len
  have h2 := k.len
  refine ⟨by simp only [List.length_append]; omega, fun i hi hi' => ?_⟩
  by_cases e : i < vs.length
  · simp only [List.getElem_append_left e, List.getElem_append_left (show i < L.length by omega)]
    exact h.each i e (by omega)
  · simp only [List.getElem_append_right (show vs.length ≤ i by omega), List.getElem_append_right (show L.length ≤ i by omega)]
    simp only [List.length_append] at hi hi'
    have e2 : i - vs.length = i - L.length := by omega
    have := k.each (i - vs.length) (by omega) (by omega)
    simp only [e2] at this ⊢
    exact this
theorem LV.one {w : World} {vs : List Value} {L : List (List Int)} (h : LV w vs L) : ∀ u ∈ vs, u.oneCell' = true := by
  intro u hu
  obtain ⟨i, hi, rfl⟩ := List.getElem_of_mem hu
  obtain ⟨ao, cap, e, _⟩ := (h.each i hi (by have := h.len; omega)).1
  rw [e]; rfl
theorem LV.nils (w : World) (n : Nat) : LV w (List.replicate n (.slice none 0 0)) (List.replicate n []) :=
  ⟨by simp, fun i h h' => by simp only [List.getElem_replicate]; exact ⟨⟨none, 0, rfl, .inl rfl, Nat.le_refl _, fun _ => rfl⟩, fun _ => trivial⟩⟩

theorem leavesF_len (m : Nat) (s : List Blk) (a : Int) : (leavesF m s a).length = p4n m := by simp [leavesF]
theorem leavesF_none (m : Nat) (s : List Blk) : leavesF m s 0 = List.replicate (p4n m) [] := by
  unfold leavesF
  rw [List.eq_replicate_iff]
  refine ⟨by simp, fun x hx => ?_⟩
  obtain ⟨i, _, rfl⟩ := List.mem_map.1 hx
  exact leafB_zero m s i
theorem leavesF_succ (m : Nat) (hm : m < 3) (s : List Blk) (a : Int) : leavesF (m + 1) s a = (List.range 4).flatMap fun k => leavesF m s (kidF s a k) := by
  have hpp := p4n_pos m
  unfold leavesF
  rw [p4n_succ m hm, range_four, List.map_flatMap]
  congr 1
  funext k
  rw [List.map_map]
  apply List.map_congr_left
  intro i hi
  have hi := List.mem_range.1 hi
  simp only [Function.comp]
  have e1 : (k * p4n m + i) / p4n m = k := by
    rw [Nat.mul_comm, Nat.mul_add_div hpp, Nat.div_eq_of_lt hi]; omega
  have e2 : (k * p4n m + i) % p4n m = i := by
    rw [Nat.mul_comm, Nat.mul_add_mod, Nat.mod_eq_of_lt hi]
  rw [leafB_succ, e1, e2]
theorem leavesF_get (m : Nat) (s : List Blk) (a : Int) (i : Nat) (h : i < (leavesF m s a).length) : (leavesF m s a)[i] = leafB m s a i := by simp [leavesF]

/-- the leaves below the first of four -/
def leavesTo (m : Nat) (s : List Blk) (a : Int) (k : Nat) : List (List Int) := (List.range k).flatMap fun q => leavesF m s (kidF s a q)
theorem leavesTo_succ (m : Nat) (s : List Blk) (a : Int) (k : Nat) : leavesTo m s a (k + 1) = leavesTo m s a k ++ leavesF m s (kidF s a k) := by
  unfold leavesTo
  rw [List.range_succ, List.flatMap_append]
  simp
theorem leavesTo_len (m : Nat) (s : List Blk) (a : Int) : ∀ k, (leavesTo m s a k).length = k * p4n m := by
  intro k
  induction k with
  | zero => simp [leavesTo]
  | succ k ih => rw [leavesTo_succ, List.length_append, ih, leavesF_len, Nat.succ_mul]

theorem owned_one (w : World) (base : Nat) (v : Value) (hb : base ≤ w.heap.size) : (w.alloc (.cells #[v] 33)).ownsRow base 33 1 (.slice (some ⟨w.heap.size, 0, none⟩) 1 1) 1 [v] :=
  World.ownsRow_lit (base := base) (e := 33) (size := 1) w #[v] 1 hb (by unfold maxLen; omega) rfl
theorem owned_nils (w : World) (base n : Nat) (hb : base ≤ w.heap.size) (hn : n ≤ maxLen) : (w.alloc (.cells (madeCells #[.slice none 0 0] n) 33)).ownsRow base 33 1 (.slice (some ⟨w.heap.size, 0, none⟩) n n) n (List.replicate n (.slice none 0 0)) := by
  have h := World.ownsRow_lit (base := base) (e := 33) (size := 1) w (madeCells #[.slice none 0 0] n) n hb hn (by rw [← Array.length_toList, toList_madeCells_one]; simp)
  rw [toList_madeCells_one] at h
  exact h

theorem ownsRow_mono {w w' : World} {base e size n : Nat} {v : Value} {xs : List Value} (h : w.ownsRow base e size v n xs) (hb : Below w.heap.size w w') : w'.ownsRow base e size v n xs := by
  obtain ⟨h1, h2⟩ := h
  refine ⟨h1, ?_⟩
  rcases h2 with h2 | ⟨g, cap, cur, hv, hg, hh, r⟩
  · exact .inl h2
  · exact .inr ⟨g, cap, cur, hv, hg, by rw [hb.block g (lt_heap hh)]; exact hh, r⟩

end Go.Proofs.Ytgeacpfenhaioaa

namespace Go.Proofs.Ytgeacpfenhaioaa
open Go.RowKit
set_option linter.unusedVariables false

/-- values that read as bytes -/
structure LW (w : World) (vs : List Value) (L : List (List Int)) : Prop where
  len : vs.length = L.length
  each : ∀ i (h : i < vs.length) (h' : i < L.length), Sl .u8 w vs[i] L[i]
theorem LV.lw {w : World} {vs : List Value} {L : List (List Int)} (h : LV w vs L) : LW w vs L := ⟨h.len, fun i h1 h2 => (h.each i h1 h2).1⟩
theorem LW.mono {w w' : World} {vs : List Value} {L : List (List Int)} (h : LW w vs L) (hb : Below w.heap.size w w') : LW w' vs L :=
  ⟨h.len, fun i h1 h2 => (h.each i h1 h2).mono' hb⟩

/-- a row of byte slices, read -/
def Rows2 (w : World) (ao : Option Addr) (L : List (List Int)) : Prop :=
  L = [] ∨ ∃ b o, ao = some ⟨b, o, none⟩ ∧ ∀ i (h : i < L.length), ∃ u, w.cell? ⟨b, o + i, none⟩ = some u ∧ Sl .u8 w u L[i]
theorem Rows2.mono {w w' : World} {ao : Option Addr} {L : List (List Int)} (h : Rows2 w ao L) (hb : Below w.heap.size w w') : Rows2 w' ao L := by
  rcases h with h | ⟨b, o, rfl, h⟩
  · exact .inl h
  · refine .inr ⟨b, o, rfl, fun i hi => ?_⟩
    obtain ⟨u, h1, h2⟩ := h i hi
    exact ⟨u, ((bcell hb).1 _ _ (World.block_lt_of_cell? _ _ h1)).trans h1, h2.mono' hb⟩
theorem rows2_of {w : World} {base n : Nat} {v : Value} {vs : List Value} {L : List (List Int)} (h : w.ownsRow base 33 1 v n vs) (hn : vs.length = n) (hL : LW w vs L) : ∃ ao cap, v = .slice ao n cap ∧ Rows2 w ao L := by
  have hl := hL.len
  obtain ⟨h1, ⟨rfl, h3⟩ | ⟨g, cap, cur, rfl, hb, hg, hle, hm, hs, ht⟩⟩ := h
  · exact ⟨none, 0, by rw [h3], .inl (List.eq_nil_of_length_eq_zero (by omega))⟩
  · refine ⟨some ⟨g, 0, none⟩, cap, rfl, .inr ⟨g, 0, rfl, fun i hi => ?_⟩⟩
    have hiv : i < vs.length := by omega
    refine ⟨vs[i], ?_, hL.each i hiv hi⟩
    rw [Nat.zero_add, cell_of_block hg]
    have e : (cur.toList.take (n * 1))[i]? = vs[i]? := by rw [ht]
    rw [List.getElem?_take, if_pos (by omega), List.getElem?_eq_getElem hiv] at e
    simpa using e

theorem blk_byt {s : List Blk} (hw : WfS s) (a : Int) : Byt (blk s a).bytes := by
  unfold blk
  cases h : s[(a - 1).toNat]? with
  | none => intro x hx; simp [noBlk] at hx
  | some y => exact (hw y (List.mem_of_getElem? h)).bytes
theorem leafB_byt {s : List Blk} (hw : WfS s) (m : Nat) (a : Int) (i : Nat) : Byt (leafB m s a i) := by
  unfold leafB
  split
  · intro x hx; cases hx
  · exact blk_byt hw _
theorem leavesF_byt {s : List Blk} (hw : WfS s) (m : Nat) (a : Int) : ∀ x ∈ leavesF m s a, Byt x := by
  intro x hx
  obtain ⟨i, _, rfl⟩ := List.mem_map.1 hx
  exact leafB_byt hw m a i

def allR (s : List Blk) (root l : Int) : List (List Int) × Int := if checkT s root l 0 ≠ 0 then ([], checkT s root l 0) else (leavesF l.toNat s root, 0)

/-- values that read as bytes, in no block up to B -/
structure LX (w : World) (B : Nat) (vs : List Value) (L : List (List Int)) : Prop where
  len : vs.length = L.length
  each : ∀ i (h : i < vs.length) (h' : i < L.length), ∀ g, g ≤ B → SlX g .u8 w vs[i] L[i]
theorem LX.mono {w w' : World} {B : Nat} {vs : List Value} {L : List (List Int)} (h : LX w B vs L) (hb : Below w.heap.size w w') : LX w' B vs L :=
  ⟨h.len, fun i h1 h2 g hg => (h.each i h1 h2 g hg).keep fun b _ hlt => hb.block b hlt⟩

/-- a row of clones, as far as it is filled -/
def RowTo (w : World) (kb q k : Nat) (L : Nat → List Int) : Prop :=
  ∃ vs : List Value, vs.length = q ∧ w.heap[kb]? = some (.cells vs.toArray 33 (0, 0)) ∧ ∀ i (h : i < vs.length), i < k → ∀ g, g ≤ kb → SlX g .u8 w vs[i] (L i)

theorem RowTo.mono {w w' : World} {kb q k : Nat} {L : Nat → List Int} (h : RowTo w kb q k L) (hb : Below w.heap.size w w') : RowTo w' kb q k L := by
  obtain ⟨vs, h1, h2, h3⟩ := h
  exact ⟨vs, h1, (hb.block _ (lt_heap h2)).trans h2, fun i hi hk g hg => (h3 i hi hk g hg).keep fun b _ hlt => hb.block b hlt⟩
theorem SlX.setOff {g kb i : Nat} {k : IntKind} {w : World} {v u : Value} {xs : List Int} (h : SlX g k w v xs) (h2 : SlX kb k w v xs) : SlX g k (w.setCell ⟨kb, i, none⟩ u) v xs := by
  obtain ⟨ao, cap, rfl, hf, hc⟩ := h
  obtain ⟨ao', cap', e, hf2, _⟩ := h2
  simp only [Value.slice.injEq, true_and] at e
  obtain ⟨rfl, rfl⟩ := e
  refine ⟨ao, cap, rfl, ?_, hc⟩
  rcases hf with hf | ⟨b, o, rfl, hb, hcell⟩
  · exact .inl hf
  · rcases hf2 with hf2 | ⟨b', o', e, hb', _⟩
    · exact .inl hf2
    · simp only [Option.some.injEq, Addr.mk.injEq, and_true] at e
      obtain ⟨rfl, rfl⟩ := e
      refine .inr ⟨b, o, rfl, hb, fun q hq => ?_⟩
      rw [World.cell?_of_block (a := ⟨b, o + q, none⟩) (Below.heap_setCell _ _ _ _ hb')]
      exact hcell q hq
theorem RowTo.put {w : World} {kb q k : Nat} {L : Nat → List Int} {v : Value} (h : RowTo w kb q k L) (hk : k < q) (hv : ∀ g, g ≤ kb → SlX g .u8 w v (L k)) : RowTo (w.setCell ⟨kb, k, none⟩ v) kb q (k + 1) L := by
  obtain ⟨vs, h1, h2, h3⟩ := h
  refine ⟨vs.set k v, by rw [List.length_set]; exact h1, ?_, fun i hi hik g hg => ?_⟩
  · have := heap_setCell_same' h2 k v
    simpa using this
  · rw [List.length_set] at hi
    rw [List.getElem_set]
    by_cases e : k = i
    · subst e
      rw [if_pos rfl]
      exact (hv g hg).setOff (hv kb (Nat.le_refl _))
    · rw [if_neg e]
      exact (h3 i hi (by omega) g hg).setOff (h3 i hi (by omega) kb (Nat.le_refl _))
theorem RowTo.free {w : World} {kb q k : Nat} {L : Nat → List Int} (h : RowTo w kb q k L) (hk : k < q) : (∃ u, w.cell? ⟨kb, k, none⟩ = some u) ∧ w.frozen? ⟨kb, k, none⟩ = false ∧ kb < w.heap.size := by
  obtain ⟨vs, h1, h2, h3⟩ := h
  refine ⟨⟨vs[k]'(by omega), ?_⟩, free_of_block h2 k, lt_heap h2⟩
  rw [cell_of_block h2]
  simp [h1, hk]
theorem RowTo.done {w : World} {base kb q : Nat} {L : Nat → List Int} (h : RowTo w kb q q L) (hb : base ≤ kb) (hq : q ≤ maxLen) :
    ∃ vs : List Value, vs.length = q ∧ w.ownsRow base 33 1 (.slice (some ⟨kb, 0, none⟩) q q) q vs ∧ LX w base vs ((List.range q).map L) := by
  obtain ⟨vs, h1, h2, h3⟩ := h
  refine ⟨vs, h1, ⟨by simp [h1], .inr ⟨kb, q, vs.toArray, rfl, hb, h2, Nat.le_refl _, hq, by simp [h1], ?_⟩⟩, ⟨by simp [h1], fun i hi hi' g hg => ?_⟩⟩
  · rw [Nat.mul_one, ← h1]
    simp
  · have := h3 i hi (by omega) g (by omega)
    simpa using this

set_option maxRecDepth 100000 in
set_option maxHeartbeats 4000000 in
theorem all_new (w : World) (ao : Option Addr) (n cap : Nat) (s : List Blk) (root l : Int) (hn : s.length = n) (hn63 : n ≤ 1152921504606846976) (hs : StoRow w ao s) (hwf : WfS s) :
    Calls Try.prog 85 #[.agg #[.slice ao n cap], .int .i64 root, .int .i64 l] w fun e w' => ∃ v vs, e = .returned (.tuple #[v, .int .i64 (allR s root l).2]) ∧ w'.ownsRow w.heap.size 33 1 v vs.length vs ∧ LX w' w.heap.size vs (allR s root l).1 ∧ Below w.heap.size w w' := by
  have HN := Lib.hid hn
  have hb0 : Below w.heap.size w (w.alloc (.cells #[.slice ao n cap] 24)) := (Below.refl _ _).alloc (Nat.le_refl _) _
  have q4 : (w.alloc (.cells #[.slice ao n cap] 24)).heap[w.heap.size]? = some (.cells #[.slice ao n cap] 24 (0, 0)) := heap_alloc_new _ _
  clear hn
  go_enter Try.func85, Try.ntmps85
  go_wp2_with fail
  have hs := hs.mono hb0
  generalize w.alloc (Obj.cells #[Value.slice ao n cap] 24) = W0 at *
  refine (treeCheck_any _ _ _ _ s root l 0 HN.out hn63 hs hwf).mono ?_
  rintro e w1 ⟨rfl, hb1⟩
  replace q4 := (hb1.block _ (lt_heap q4)).trans q4
  have hbw := below_step hb0 hb1
  replace hs := hs.mono hb1
  by_cases hc : checkT s root l 0 = 0
  rotate_left
  · have HR := Lib.hid (show allR s root l = ([], checkT s root l 0) by unfold allR; rw [if_pos hc])
    have he1 : (checkT s root l 0 != 0) = true := by rw [bne_iff_ne]; exact hc
    generalize hcc : checkT s root l 0 = ce at *
    replace hcc := Lib.hid hcc
    clear hc hs
    go_wp2
    go_ret2
    exact ⟨_, [], by rw [HR.out]; rfl, World.ownsRow_nil _ _ _ _, by rw [HR.out]; exact ⟨rfl, fun i h => by simp at h⟩, hbw⟩
  · obtain ⟨hce, m, rfl, hm, hroot, -, -⟩ := checkT_ok hc
    have hf := (checkE_zero s hce).2.1
    have h400 : n ≤ 400 := by have := (checkE_zero s hce).1; have := HN.out; omega
    have HR := Lib.hid (show allR s root m = ((List.range (p4n m)).map (leafB m s root), 0) by unfold allR; rw [if_neg (by simp [hc])]; rfl)
    have he1 : (checkT s root m 0 != 0) = false := by rw [hc]; rfl
    have hl1 : lvN (m : Int) = (((p4n m : Nat) : Int), 0) := by
      unfold lvN
      rw [if_neg (by omega), ← p4n_int]; rfl
    have hp64 : p4n m ≤ 64 := by unfold p4n; (repeat' split) <;> omega
    have HGL := Lib.hid (fun i (hi : i < p4n m) => (leafB_len hf m root i hm hroot hi).1)
    have HGT := Lib.hid (fun (u : World) (hu : StoRow u ao s) (i : Nat) (hi : i < p4n m) => treeget_any u ao n cap s root m i HN.out h400 hu hwf hf hm hroot hi)
    clear hc hce
    generalize hcc : checkT s root m 0 = ce at *
    replace hcc := Lib.hid hcc
    go_wp2_with fail
    refine (leaves_any _ _).mono ?_
    rw [hl1]
    rintro e w2 ⟨rfl, rfl⟩
    generalize p4n m = q at *
    generalize leafB m s root = LB at *
    have hmk : (Instr.makeSlice 150 (.int .i64 (q : Int)) (.int .i64 (q : Int))).run Try.prog w2 = .ok (.slice (some ⟨w2.heap.size, 0, none⟩) q q) (w2.alloc (.cells (madeCells #[.slice none 0 0] q) 33)) :=
      run_make_row' 150 33 (.slice none 0 0) 24 Try.underlying150 info_ys rfl .i64 .i64 q (by omega) (by omega) w2
    have hRT : RowTo (w2.alloc (.cells (madeCells #[.slice none 0 0] q) 33)) w2.heap.size q 0 LB := by
      refine ⟨List.replicate q (.slice none 0 0), by simp, ?_, fun i _ h => by omega⟩
      have h := heap_alloc_new w2 (.cells (madeCells #[.slice none 0 0] q) 33)
      rw [h, ← toList_madeCells_one]
    have hbA : Below w2.heap.size w2 (w2.alloc (.cells (madeCells #[.slice none 0 0] q) 33)) := (Below.refl _ _).alloc (Nat.le_refl _) _
    go_wp2
    generalize w2.alloc (Obj.cells (madeCells #[Value.slice none 0 0] q) 33) = W3 at *
    have lq := lt_heap q4
    go_loopw [28] (fun x wr => ∃ k : Nat, k ≤ q ∧ x = .int .i64 k ∧ Below w2.heap.size w2 wr ∧ RowTo wr w2.heap.size q k LB) (fun x _ => q - (intOf x).toNat)
    case atStart => exact ⟨0, Nat.zero_le _, rfl, hbA, hRT⟩
    case round =>
      obtain ⟨k, hk, rfl, hbel, hT⟩ := hrel
      by_cases hlt : k < q
      · have p1 := (hbel.block _ lq).trans q4
        have c1 := cell_of_one p1
        have l1 := lt_heap p1
        have hkq : (k : Int) < q := by omega
        have hll := HGL.out k hlt
        have hG := HGT.out wr (hs.mono hbel) k hlt
        obtain ⟨-, -, hlr⟩ := hT.free hlt
        have HT := Lib.hid hT
        have HBE := Lib.hid hbel
        have hszr := hbel.size
        clear hT hbel
        obtain ⟨xs, hxs⟩ : ∃ xs, LB k = xs := ⟨_, rfl⟩
        rw [hxs] at hll hG
        have HXS := Lib.hid hxs
        clear hxs
        go_wp2_with fail
        refine hG.mono ?_
        rintro e w4 ⟨v4, rfl, hsl, hb4⟩
        obtain ⟨ba, bc, rfl, hbr, hbc⟩ := hsl
        obtain ⟨xn, hxn⟩ : ∃ xn, xs.length = xn := ⟨_, rfl⟩
        rw [hxn] at hbc hll ⊢
        have HXN := Lib.hid hxn
        clear hxn
        have hsz4 := hb4.size
        go_wp2_with fail
        refine (clone_bytes_n _ _ _ xs _ HXN.out hbr hbc.2 (by omega)).mono ?_
        rintro e w5 ⟨v5, rfl, hown5, -, hb5⟩
        obtain ⟨a5, c5, rfl, -, -, -, -⟩ := hown5.shape'
        have hT5 := (HT.out.mono hb4).mono hb5
        obtain ⟨⟨u5, hu5⟩, hf5, hl5⟩ := hT5.free hlt
        have hsx : ∀ g, g ≤ w2.heap.size → SlX g .u8 w5 (.slice a5 xs.length c5) (LB k) := fun g hg => by rw [HXS.out]; exact hown5.slx (by omega)
        rw [HXN.out] at hsx
        have HT6 := Lib.hid (hT5.put hlt hsx)
        rw [HXN.out]
        have hb6 := ((HBE.out.trans (hb4.mono hszr)).trans (hb5.mono (Nat.le_trans hszr hsz4))).setCell (p := ⟨w2.heap.size, k, none⟩) (Nat.le_refl _) (.slice a5 xn c5)
        clear hT5 hsx hown5 hbr hbc hb4 hb5
        go_wp2_with fail
        go_roundw
        case rel => exact ⟨k + 1, by omega, by go_num, hb6, HT6.out⟩
        case measure => simp [intOf]; omega
      · obtain rfl : k = q := by omega
        have hsw := hbw.size
        obtain ⟨vs, hvl, hvo, hvw⟩ := hT.done (base := w.heap.size) hsw (by unfold maxLen; omega)
        have HVO := Lib.hid hvo
        have HVW := Lib.hid hvw
        have HVL := Lib.hid hvl
        have hbz := below_step hbw hbel
        clear hvo hvw hvl hT
        go_wp2
        go_ret2
        exact ⟨_, vs, by rw [HR.out]; rfl, by rw [HVL.out]; exact HVO.out, by rw [HR.out]; exact HVW.out, hbz⟩

theorem all_any (w : World) (ao : Option Addr) (n cap : Nat) (s : List Blk) (root l : Int) (hn : s.length = n) (hn63 : n ≤ 1152921504606846976) (hs : StoRow w ao s) (hwf : WfS s) :
    Calls Try.prog 85 #[.agg #[.slice ao n cap], .int .i64 root, .int .i64 l] w fun e w' => ∃ v vs, e = .returned (.tuple #[v, .int .i64 (allR s root l).2]) ∧ w'.ownsRow w.heap.size 33 1 v vs.length vs ∧ LW w' vs (allR s root l).1 ∧ Below w.heap.size w w' := by
  have hz := all_new w ao n cap s root l hn hn63 hs hwf
  refine hz.mono ?_
  rintro e w' ⟨v, vs, h1, h2, h3, h4⟩
  refine ⟨v, vs, h1, h2, ⟨h3.len, fun i hi hi' => ?_⟩, h4⟩
  exact (h3.each i hi hi' w.heap.size (Nat.le_refl _)).sl
end Go.Proofs.Ytgeacpfenhaioaa
