/- Rows of elements of several cells: an element comes in at a place, or goes. No program in sight. · slices.Insert at entries and at snaps. -/
import Derived.Lib.AppendZerosOnto
import Derived.Test.YtfmgdjgedhnmeaaSetCopy
import Derived.Lib.Overlaps
import Derived.Shelf.Spec.SlicesInsert
namespace Go.Proofs.Ytfmgdjgedhnmeaa
open Go.RowKit
set_option linter.unusedVariables false

/-- an element comes in at a place -/
def insL {α : Type} (l : List α) (i : Nat) (x : α) : List α := l.take i ++ x :: l.drop i
theorem insL_len {α : Type} (l : List α) (i : Nat) (x : α) (h : i ≤ l.length) : (insL l i x).length = l.length + 1 := by simp [insL]; omega

theorem splice_end {α : Type} (l sp : List α) (x : α) (h : 0 < sp.length) : splice (l ++ sp) l.length [x] = (l ++ [x]) ++ sp.drop 1 := by
  unfold splice
  rw [List.take_left, List.drop_append, List.drop_of_length_le (by simp)]
  simp
theorem splice_mid {α : Type} (l sp : List α) (i : Nat) (x : α) (hi : i < l.length) (h : 0 < sp.length) : splice (splice (l ++ sp) (i + 1) (l.drop i)) i [x] = insL l i x ++ sp.drop 1 := by
  unfold splice insL
  have e1 : (l ++ sp).take (i + 1) = l.take (i + 1) := List.take_append_of_le_length (by omega)
  have e2 : (l ++ sp).drop (i + 1 + (l.drop i).length) = sp.drop 1 := by
    rw [List.drop_append, List.drop_of_length_le (by rw [List.length_drop]; omega), List.nil_append, List.length_drop]
    congr 1
    omega
  rw [e1, e2]
  have hl : (l.take (i + 1)).length = i + 1 := by rw [List.length_take]; omega
  rw [List.take_append_of_le_length (by omega), List.take_take, Nat.min_eq_left (by omega), List.drop_append, List.drop_of_length_le (by rw [hl]; simp)]
  simp [hl]
theorem splice_grow {α : Type} (l z : List α) (i : Nat) (x : α) (hi : i < l.length) (h : l.length + 1 - i ≤ z.length) : splice (splice (l.take i ++ z) i [x]) (i + 1) (l.drop i) = insL l i x ++ z.drop (l.length + 1 - i) := by
  unfold splice insL
  have hl : (l.take i).length = i := by rw [List.length_take]; omega
  rw [List.take_left' hl, List.drop_append, hl, List.drop_of_length_le (by rw [hl]; simp), List.nil_append]
  rw [List.take_append, hl, List.take_of_length_le (by rw [hl]; omega), show i + 1 - i = 1 from by omega]
  simp only [List.singleton_append, List.take_succ_cons, List.take_zero, List.length_cons, List.length_nil, List.length_drop]
  rw [show i + (0 + 1) - i = 1 from by omega]
  have e : (l.take i ++ x :: z.drop 1).drop (i + 1 + (l.length - i)) = z.drop (l.length + 1 - i) := by
    rw [List.drop_append, hl, List.drop_of_length_le (by rw [hl]; omega), List.nil_append, show i + 1 + (l.length - i) - i = (l.length - i) + 1 from by omega, List.drop_succ_cons, List.drop_drop]
    congr 1
    omega
  rw [e]
  simp

section
variable {α : Type} {K : Kind α}

theorem Kind.all_one_elem (x : α) : K.all [x] = K.cells x := by simp [Kind.all]
theorem add_lit' (b o j : Nat) : (⟨b, o, none⟩ : Addr).add j = ⟨b, o + j, none⟩ := by unfold Addr.add; split <;> simp_all

/-- append of one: there is room -/
theorem Kind.ins_end_room {P : Program} (w : World) (t ty : TypeId) (i0 : TypeInfo) (ht : P.underlying t = some (.slice K.elem)) (hi : P.info? K.elem = some i0) (hsz : i0.size = K.k) (g m c vb vc : Nat) (l sp : List α) (x : α) (tv : Nat) (hm : l.length = m) (hsp : 0 < sp.length) (hc : c = m + sp.length)
    (h : w.heap[g]? = some (.cells (K.all (l ++ sp)).toArray K.elem (0, 0))) (hv : w.heap[vb]? = some (.cells (K.cells x).toArray tv (0, 0))) :
    (Builtin.append_ #[t, t] ty #[.slice (some ⟨g, 0, none⟩) m c, .slice (some ⟨vb, 0, none⟩) 1 vc]).run P w = .ok (.slice (some ⟨g, 0, none⟩) (m + 1) c) (w.setCells g (m * K.k) (K.all [x])) ∧
      (w.setCells g (m * K.k) (K.all [x])).heap[g]? = some (.cells (K.all ((l ++ [x]) ++ sp.drop 1)).toArray K.elem (0, 0)) := by
  have hsrc : Src P i0.size t (.slice (some ⟨vb, 0, none⟩) 1 vc) 1 (K.all [x]) w :=
    Src.ofSlice w ht ⟨vb, 0, none⟩ 1 vc (K.all [x]) (by rw [K.all_len, hsz]; simp) (fun j u hj => by rw [add_lit', Nat.zero_add, cell_of_block hv, List.getElem?_toArray, ← Kind.all_one_elem]; exact hj) (K.all_one [x])
  have hb : ∀ j, j < (K.all [x]).length → m * K.k + j < (l ++ sp).length * K.k := by
    intro j hj
    rw [K.all_len] at hj
    have : (m + 1) * K.k ≤ (l ++ sp).length * K.k := Nat.mul_le_mul_right _ (by rw [List.length_append]; omega)
    rw [Nat.add_mul] at this
    simp only [List.length_cons, List.length_nil] at hj
    omega
  have hr := run_append_room_src w t t ty K.elem i0 ht hi g 0 m c _ 1 (K.all [x]) hsrc (by omega) (fun j hj => by rw [Nat.zero_add, hsz]; exact Kind.isCell h _ (hb j hj)) (fun j hj => free_of_block h _)
  rw [Nat.zero_add, hsz] at hr
  refine ⟨hr, ?_⟩
  have h2 := Kind.setCells (K := K) h m [x] (by rw [List.length_append]; simp; omega)
  rw [← hm] at h2 ⊢
  rw [splice_end l sp x hsp] at h2
  exact h2

/-- append of one: there is none -/
theorem Kind.ins_end_grow {P : Program} (w : World) (t ty : TypeId) (i0 : TypeInfo) (z : Value) (bytes : Nat) (ht : P.underlying t = some (.slice K.elem)) (hi : P.info? K.elem = some i0) (hz0 : i0.zero = some z) (hsz : i0.size = K.k) (hby : i0.bytes = bytes)
    (hz : z.cells = (K.cells K.zero).toArray) (ao : Option Addr) (m vb vc : Nat) (l : List α) (x : α) (tv : Nat) (hm : l.length = m) (hbig : (m + 1) * bytes ≤ 140737488355328) (h63 : m + 1 ≤ 9223372036854775807)
    (h : (ao = none ∧ m = 0) ∨ ∃ g, ao = some ⟨g, 0, none⟩ ∧ ∀ j v, (K.all l)[j]? = some v → w.cell? ⟨g, j, none⟩ = some v) (hv : w.heap[vb]? = some (.cells (K.cells x).toArray tv (0, 0))) :
    ∃ cap sp, (Builtin.append_ #[t, t] ty #[.slice ao m m, .slice (some ⟨vb, 0, none⟩) 1 vc]).run P w = .ok (.slice (some ⟨w.heap.size, 0, none⟩) (m + 1) cap) (w.drew.alloc (.cells (K.all ((l ++ [x]) ++ sp)).toArray K.elem)) ∧ cap = (m + 1) + sp.length := by
  have hsrc : Src P i0.size t (.slice (some ⟨vb, 0, none⟩) 1 vc) 1 (K.all [x]) w :=
    Src.ofSlice w ht ⟨vb, 0, none⟩ 1 vc (K.all [x]) (by rw [K.all_len, hsz]; simp) (fun j u hj => by rw [add_lit', Nat.zero_add, cell_of_block hv, List.getElem?_toArray, ← Kind.all_one_elem]; exact hj) (K.all_one [x])
  have hold : (Builtin.firstCells i0.size m (.slice ao m m)).run P w.drew = .ok (K.all l).toArray w.drew := by
    rcases h with ⟨rfl, h0⟩ | ⟨g, rfl, hg⟩
    · obtain rfl : l = [] := List.eq_nil_of_length_eq_zero (hm.trans h0)
      rw [h0]
      exact run_firstCells_none w.drew i0.size 0 0 0
    · exact run_firstCells_some w.drew i0.size m ⟨g, 0, none⟩ m m (K.all l) (by rw [K.all_len, hm, hsz]) (fun j u hj => by rw [add_lit', Nat.zero_add]; exact hg j u hj)
  have hrun := run_append_grow_src w t t ty K.elem i0 z ht hi hz0 ao m m (K.all l) hold _ 1 (K.all [x]) hsrc (by omega) (by omega) (by rw [hby]; exact growslice_fits (by omega) hbig)
  have hge := grownCap_ge w (m + 1) m K.elem
  refine ⟨grownCap w (m + 1) m K.elem, List.replicate (grownCap w (m + 1) m K.elem - (m + 1)) K.zero, ?_, by rw [List.length_replicate]; omega⟩
  rw [hrun, Kind.zeros z hz, K.all_append (l ++ [x]), K.all_append l [x]]
  congr 3
  apply Array.ext'
  simp

/-- append of noughts: there is no room -/
theorem Kind.grow_zeros {P : Program} (w : World) (t tn ty : TypeId) (i0 : TypeInfo) (z : Value) (bytes : Nat) (ht : P.underlying t = some (.slice K.elem)) (htn : P.underlying tn = some (.int .i64)) (hi : P.info? K.elem = some i0) (hz0 : i0.zero = some z) (hsz : i0.size = K.k) (hby : i0.bytes = bytes)
    (hz : z.cells = (K.cells K.zero).toArray) (g i k c : Nat) (l : List α) (hi1 : i ≤ l.length) (h0 : 0 < k) (hg : c < i + k) (hbig : (i + k) * bytes ≤ 140737488355328) (h63 : i + k ≤ 9223372036854775807)
    (h : ∀ j v, (K.all l)[j]? = some v → w.cell? ⟨g, j, none⟩ = some v) :
    ∃ cap zs, (Builtin.append_ #[t, tn] ty #[.slice (some ⟨g, 0, none⟩) i c, .int .i64 (k : Int)]).run P w = .ok (.slice (some ⟨w.heap.size, 0, none⟩) (i + k) cap) (w.drew.alloc (.cells (K.all (l.take i ++ zs)).toArray K.elem)) ∧ cap = i + zs.length ∧ k ≤ zs.length := by
  have hold : (Builtin.firstCells i0.size i (.slice (some ⟨g, 0, none⟩) i c)).run P w.drew = .ok (K.all (l.take i)).toArray w.drew :=
    run_firstCells_some w.drew i0.size i ⟨g, 0, none⟩ i c (K.all (l.take i)) (by rw [K.all_len, List.length_take, Nat.min_eq_left hi1, hsz]) (fun j u hj => by
      rw [add_lit', Nat.zero_add]
      rw [← K.all_take] at hj
      refine h j u ?_
      rw [List.getElem?_take] at hj
      split at hj
      · exact hj
      · cases hj)
  have hrun := Lib.run_append_grow_zeros w t tn ty K.elem i0 z .i64 .i64 ht htn hi hz0 (some ⟨g, 0, none⟩) i c (K.all (l.take i)) hold k h0 (by rw [hsz]; exact K.pos) hg (by omega) (by rw [hby]; rw [Nat.add_mul] at hbig; omega) (by rw [hby]; exact growslice_fits hg hbig)
  have hge := grownCap_ge w (i + k) c K.elem
  refine ⟨grownCap w (i + k) c K.elem, List.replicate (grownCap w (i + k) c K.elem - i) K.zero, ?_, by rw [List.length_replicate]; omega, by rw [List.length_replicate]; omega⟩
  have e : List.replicate (grownCap w (i + k) c K.elem - i) K.zero = List.replicate k K.zero ++ List.replicate (grownCap w (i + k) c K.elem - (i + k)) K.zero := by
    rw [List.replicate_append_replicate]
    congr 1
    omega
  rw [hrun, Kind.zeros z hz, Kind.zeros z hz, e, K.all_append, K.all_append]
  congr 3
  apply Array.ext'
  simp
end
end Go.Proofs.Ytfmgdjgedhnmeaa

namespace Go.Proofs.Ytfmgdjgedhnmeaa
open Go.RowKit
set_option linter.unusedVariables false

/-- what Insert answers, and leaves -/
def InsEnd {α : Type} (K : Kind α) (w w' : World) (base : Nat) (ao : Option Addr) (l : List α) (i : Nat) (x : α) (e : Ending) : Prop :=
  ∃ ao' c', e = .returned (.slice ao' (l.length + 1) c') ∧ K.Own w' base (.slice ao' (l.length + 1) c') (insL l i x) ∧ Below base w w' ∧ (∀ b, b < w.heap.size → ao ≠ some ⟨b, 0, none⟩ → w'.heap[b]? = w.heap[b]?) ∧
    (∀ g, ao' = some ⟨g, 0, none⟩ → ao = some ⟨g, 0, none⟩ ∨ w.heap.size ≤ g)

theorem insL_end {α : Type} (l : List α) (x : α) : insL l l.length x = l ++ [x] := by simp [insL]

/-- it lies in a new block -/
theorem ins_new {α : Type} {K : Kind α} {w w1 : World} {base m cap : Nat} {ao : Option Addr} {l : List α} {i : Nat} {x : α} {sp : List α} (hm : l.length = m) (hi : i ≤ m) (hbs : base ≤ w.heap.size) (hs : w.heap.size ≤ w1.heap.size) (hk : ∀ b, b < w.heap.size → w1.heap[b]? = w.heap[b]?)
    (hd : w1.os = w.os ∧ w1.tape = w.tape ∧ w1.output = w.output) (h : w1.heap[w.heap.size]? = some (.cells (K.all (insL l i x ++ sp)).toArray K.elem (0, 0))) (hc : cap = m + 1 + sp.length) : InsEnd K w w1 base ao l i x (.returned (.slice (some ⟨w.heap.size, 0, none⟩) (m + 1) cap)) := by
  subst hm
  refine ⟨some ⟨w.heap.size, 0, none⟩, cap, rfl, .inr ⟨w.heap.size, cap, sp, ?_, hbs, ?_, h⟩, ⟨hd.1, hd.2.1, hd.2.2, hs, fun b hb => hk b (by omega)⟩, fun b hb _ => hk b hb, fun g hg => .inr ?_⟩
  · rw [insL_len l i x hi]
  · rw [insL_len l i x hi]; exact hc
  · simp only [Option.some.injEq, Addr.mk.injEq, and_true] at hg; omega
/-- it lies where the row lay -/
theorem ins_old {α : Type} {K : Kind α} {w w1 : World} {base m c g : Nat} {l : List α} {i : Nat} {x : α} {sp : List α} (hm : l.length = m) (hi : i ≤ m) (hg : base ≤ g) (hs : w.heap.size ≤ w1.heap.size) (hk : ∀ b, b ≠ g → w1.heap[b]? = w.heap[b]?)
    (hd : w1.os = w.os ∧ w1.tape = w.tape ∧ w1.output = w.output) (h : w1.heap[g]? = some (.cells (K.all (insL l i x ++ sp)).toArray K.elem (0, 0))) (hc : c = m + 1 + sp.length) : InsEnd K w w1 base (some ⟨g, 0, none⟩) l i x (.returned (.slice (some ⟨g, 0, none⟩) (m + 1) c)) := by
  subst hm
  refine ⟨some ⟨g, 0, none⟩, c, rfl, .inr ⟨g, c, sp, ?_, hg, ?_, h⟩, ⟨hd.1, hd.2.1, hd.2.2, hs, fun b hb => hk b (by omega)⟩, fun b _ hb => hk b (fun e => hb (by rw [e])), fun q hq => .inl hq⟩
  · rw [insL_len l i x hi]
  · rw [insL_len l i x hi]; exact hc
theorem setCells_size (w : World) (g : Nat) (vs : List Value) (o : Nat) : (w.setCells g o vs).heap.size = w.heap.size := by
  induction vs generalizing w o with
  | nil => rfl
  | cons v r ih => rw [World.setCells, ih]; simp
theorem setCells_rest (w : World) (g : Nat) (vs : List Value) (o : Nat) : (w.setCells g o vs).os = w.os ∧ (w.setCells g o vs).tape = w.tape ∧ (w.setCells g o vs).output = w.output := by
  induction vs generalizing w o with
  | nil => exact ⟨rfl, rfl, rfl⟩
  | cons v r ih => rw [World.setCells]; exact ih _ _

theorem zero_ents : ∃ (i0 : TypeInfo) (z : Value), Try.prog.info? entK.elem = some i0 ∧ i0.zero = some z ∧ i0.size = entK.k ∧ i0.bytes = 32 ∧ z.cells = (entK.cells entK.zero).toArray := by
  obtain ⟨i0, hi, hz0, hz1, hz2⟩ := info_parts info_ent
  exact ⟨i0, _, hi, hz0, hz1, hz2, ents_zero⟩

set_option maxRecDepth 100000 in
set_option maxHeartbeats 8000000 in
theorem insert_ents (w : World) (base : Nat) (ao : Option Addr) (m c i vb : Nat) (l : List Ent) (x : Ent) (hm : l.length = m) (hm6 : m ≤ 1000) (hi : i ≤ m) (ho : entK.Own w base (.slice ao m c) l) (hbs : base ≤ w.heap.size)
    (hv : w.heap[vb]? = some (.cells (entK.cells x).toArray 37 (0, 0))) (hvb : ao ≠ some ⟨vb, 0, none⟩) :
    Calls Try.prog 137 #[.slice ao m c, .int .i64 i, .slice (some ⟨vb, 0, none⟩) 1 1] w fun e w' => InsEnd entK w w' base ao l i x e := by
  have HM := Lib.hid hm
  obtain ⟨i0, z, hin, hz0, hsz, hby, hzc⟩ := zero_ents
  have hszI : (Try.prog.info? entK.elem).map (·.size) = some entK.k := by rw [hin, Option.map_some, hsz]
  have hm1 : (m : Int) ≤ 1000 := by omega
  have hw1 : IntKind.i64.wrap ((i : Int) + 1) = (i : Int) + 1 := by rw [IntKind.wrap_i64]; omega
  rcases Nat.lt_or_eq_of_le hi with hlt | rfl
  · -- not at the end
    have h1 : (i : Int) < m := by omega
    have h2 : ¬ (i : Int) = m := by omega
    have h3 : ((i : Int) == m) = false := by rw [beq_eq_false_iff_ne]; exact h2
    rcases ho with ⟨rfl, _⟩ | ⟨g, cap, sp, hsl, hgb, hcap, hh⟩
    · simp at hm; omega
    simp only [Value.slice.injEq] at hsl
    obtain ⟨rfl, -, rfl⟩ := hsl
    rw [hm] at hcap
    have lg := lt_heap hh
    have lv := lt_heap hv
    have hne : vb ≠ g := fun e => hvb (by rw [e])
    rcases Nat.eq_zero_or_pos sp.length with hs0 | hs0
    · -- no room
      obtain rfl : sp = [] := List.eq_nil_of_length_eq_zero hs0
      obtain rfl : c = m := by simpa using hcap
      rw [List.append_nil] at hh
      have hcells : ∀ j v, (entK.all l)[j]? = some v → w.cell? ⟨g, j, none⟩ = some v := fun j v hj => by rw [cell_of_block hh, List.getElem?_toArray]; exact hj
      obtain ⟨cap', zs, hrun, hcz, hzl⟩ := Kind.grow_zeros (K := entK) (P := Try.prog) w 25 3 25 i0 z 32 Try.underlying25 Try.underlying3 hin hz0 hsz hby hzc g i (c + 1 - i) c l (by omega) (by omega) (by omega) (by omega) (by omega) hcells
      have hk1 : ((c + 1 - i : Nat) : Int) = (c : Int) + 1 - i := by omega
      rw [hk1, show i + (c + 1 - i) = c + 1 from by omega] at hrun
      have hrun' : ∀ ty, (Builtin.append_ #[25, 3] ty #[.slice (some ⟨g, 0, none⟩) i c, .int .i64 ((c : Int) + 1 - i)]).run Try.prog w = .ok (.slice (some ⟨w.heap.size, 0, none⟩) (c + 1) cap') (w.drew.alloc (.cells (entK.all (l.take i ++ zs)).toArray entK.elem)) := fun ty => hrun
      obtain ⟨W1, hW1⟩ : ∃ W1, W1 = w.drew.alloc (.cells (entK.all (l.take i ++ zs)).toArray entK.elem) := ⟨_, rfl⟩
      have g1 : W1.heap[w.heap.size]? = some (.cells (entK.all (l.take i ++ zs)).toArray entK.elem (0, 0)) := by rw [hW1]; exact heap_alloc_new w.drew _
      have k1 : ∀ b, b < w.heap.size → W1.heap[b]? = w.heap[b]? := fun b hb => by rw [hW1]; exact heap_alloc_old w.drew _ hb
      have s1 : W1.heap.size = w.heap.size + 1 := by rw [hW1]; simp
      have d1 : W1.os = w.os ∧ W1.tape = w.tape ∧ W1.output = w.output := by rw [hW1]; exact ⟨rfl, rfl, rfl⟩
      rw [← hW1] at hrun'
      have hv1 := (k1 _ lv).trans hv
      have hL1 : (l.take i ++ zs).length = cap' := by rw [List.length_append, List.length_take]; omega
      have hcp1 := fun ty => Kind.run_copy (K := entK) (P := Try.prog) W1 25 ty Try.underlying25 hszI w.heap.size i (c + 1 - i) (cap' - i) 1 1 ⟨vb, 0, none⟩ entK.elem (l.take i ++ zs) [x] g1 (by show 1 = Nat.min 1 (c + 1 - i); exact (Nat.min_eq_left (by omega)).symm) (by rw [hL1]; show i + 1 ≤ cap'; omega) (fun j v hj => by rw [add_lit', Nat.zero_add, cell_of_block hv1, List.getElem?_toArray, ← Kind.all_one_elem]; exact hj)
      obtain ⟨W2, hW2⟩ : ∃ W2, W2 = W1.setCells w.heap.size (i * entK.k) (entK.all [x]) := ⟨_, rfl⟩
      have g2 : W2.heap[w.heap.size]? = some (.cells (entK.all (Go.splice (l.take i ++ zs) i [x])).toArray entK.elem (0, 0)) := by rw [hW2]; exact Kind.setCells g1 i [x] (by rw [hL1]; show i + 1 ≤ cap'; omega)
      have k2 : ∀ b, b < w.heap.size → W2.heap[b]? = w.heap[b]? := fun b hb => by rw [hW2, setCells_other _ _ _ (by omega)]; exact k1 b hb
      have s2 : W2.heap.size = w.heap.size + 1 := by rw [hW2, setCells_size]; exact s1
      have d2 : W2.os = w.os ∧ W2.tape = w.tape ∧ W2.output = w.output := by rw [hW2]; obtain ⟨a, b, c⟩ := setCells_rest W1 w.heap.size (entK.all [x]) (i * entK.k); rw [a, b, c]; exact d1
      rw [← hW2] at hcp1
      have hL2 : (Go.splice (l.take i ++ zs) i [x]).length = cap' := by rw [length_splice _ _ _ (by rw [hL1]; show i + 1 ≤ cap'; omega)]; exact hL1
      have hh2 := (k2 _ lg).trans hh
      have hcp2 := fun ty => Kind.run_copy (K := entK) (P := Try.prog) W2.drew 25 ty Try.underlying25 hszI w.heap.size (i + 1) (c + 1 - (i + 1)) (cap' - (i + 1)) (c - i) (c - i) ⟨g, i * entK.k, none⟩ entK.elem (Go.splice (l.take i ++ zs) i [x]) (l.drop i) g2 (by rw [List.length_drop, hm, show c + 1 - (i + 1) = c - i from by omega]; exact (Nat.min_self _).symm) (by rw [hL2, List.length_drop, hm]; omega)
        (fun j v hj => by
          rw [add_lit']
          refine Eq.trans (b := W2.cell? ⟨g, i * entK.k + j, none⟩) rfl ?_
          rw [cell_of_block hh2, List.getElem?_toArray]
          rw [← entK.all_drop, List.getElem?_drop] at hj
          exact hj)
      obtain ⟨W3, hW3⟩ : ∃ W3, W3 = W2.drew.setCells w.heap.size ((i + 1) * entK.k) (entK.all (l.drop i)) := ⟨_, rfl⟩
      have g3 : W3.heap[w.heap.size]? = some (.cells (entK.all (Go.splice (Go.splice (l.take i ++ zs) i [x]) (i + 1) (l.drop i))).toArray entK.elem (0, 0)) := by rw [hW3]; exact Kind.setCells (w := W2.drew) g2 (i + 1) (l.drop i) (by rw [hL2, List.length_drop, hm]; omega)
      rw [splice_grow l zs i x (by omega) (by rw [hm]; exact hzl), hm] at g3
      have k3 : ∀ b, b < w.heap.size → W3.heap[b]? = w.heap[b]? := fun b hb => by rw [hW3, setCells_other _ _ _ (by omega)]; exact k2 b hb
      have s3 : W3.heap.size = w.heap.size + 1 := by rw [hW3, setCells_size]; exact s2
      have d3 : W3.os = w.os ∧ W3.tape = w.tape ∧ W3.output = w.output := by rw [hW3]; obtain ⟨a, b, c⟩ := setCells_rest W2.drew w.heap.size (entK.all (l.drop i)) ((i + 1) * entK.k); rw [a, b, c]; exact d2
      rw [← hW3] at hcp2
      have hFIN := Lib.hid (ins_new (cap := cap') (ao := some ⟨g, 0, none⟩) hm hi hbs (by omega) k3 d3 g3 (by rw [List.length_drop]; omega))
      have e1 : ¬ (cap' = i) := by omega
      have e2 : ¬ (cap' = i + 1) := by omega
      have e2a : ¬ ((cap' : Int) = (i : Int) + 1) := by omega
      have e2b : ¬ ((i : Int) + 1 = (cap' : Int)) := by omega
      have e2c : (i : Int) ≤ c := by omega
      have e2d : (i : Int) + 1 ≤ cap' := by omega
      have e2e : (c : Int) + 1 ≤ cap' := by omega
      have e3 : ¬ (c = i) := by omega
      have e4 : (i : Int) ≤ (c : Int) + 1 := by omega
      have e5 : (0 : Int) ≤ (i : Int) + 1 := by omega
      have e6 : ((i : Int) + 1).toNat = i + 1 := by omega
      have e7 : (i : Int) + 1 ≤ (c : Int) + 1 := by omega
      have e8 : i ≤ c := by omega
      have e10 : (c : Int) < (c : Int) + 1 := by omega
      have HCP1 : ∀ ty, (Builtin.copy_ #[25, 25] ty #[.slice (some ⟨w.heap.size, i * 3, none⟩) (c + 1 - i) (cap' - i), .slice (some ⟨vb, 0, none⟩) 1 1]).run Try.prog W1 = .ok (goInt 1) W2 := hcp1
      have HCP2 : ∀ ty, (Builtin.copy_ #[25, 25] ty #[.slice (some ⟨w.heap.size, (i + 1) * 3, none⟩) (c + 1 - (i + 1)) (cap' - (i + 1)), .slice (some ⟨g, i * 3, none⟩) (c - i) (c - i)]).run Try.prog W2.drew = .ok (goInt (l.drop i).length) W3 := hcp2
      clear hcp1 hcp2 g1 g2 g3 k1 k2 k3 s1 s2 s3 d1 d2 d3 hL1 hL2 hh2 hv1 hcells hrun hW1 hW2 hW3 hzl hcz hk1 hcap hs0 hm6 hm hh hv hzc hby hsz hz0 hin hszI lg lv
      go_enter Try.func137, Try.ntmps137
      go_wp2_with (first
        | (at_builtin; refine app_run rfl (.tmp 34) (.tmp 39) _ _ rfl rfl rfl hrun' ?_)
        | (at_builtin; refine wpList_copy_runI _ rfl (.tmp 43) (.tmp 44) _ _ rfl _ _ rfl rfl (HCP1 _) ?_))
      go_region_law (refine step_copy_runI rfl _ _ 25 25 rfl _ _ (by simp [Act.eval, Act.put]) (by simp [Act.eval, Act.put]) (HCP2 _) ?_)
      go_wp2
      go_ret
      exact hFIN.out
    · -- there is room
      have hLs : (l ++ sp).length = c := by rw [List.length_append]; omega
      have hcp1 := fun ty => Kind.run_copy (K := entK) (P := Try.prog) w.drew 25 ty Try.underlying25 hszI g (i + 1) (m + 1 - (i + 1)) (c - (i + 1)) (m + 1 - i) (c - i) ⟨g, i * entK.k, none⟩ entK.elem (l ++ sp) (l.drop i) hh (by rw [List.length_drop, hm]; show m - i = Nat.min (m + 1 - i) (m + 1 - (i + 1)); rw [show m + 1 - (i + 1) = m - i from by omega]; exact (Nat.min_eq_right (by omega)).symm) (by rw [hLs, List.length_drop, hm]; omega)
        (fun j v hj => by
          rw [add_lit']
          refine Eq.trans (b := w.cell? ⟨g, i * entK.k + j, none⟩) rfl ?_
          rw [cell_of_block hh, List.getElem?_toArray, entK.all_append]
          rw [← entK.all_drop, List.getElem?_drop] at hj
          rw [List.getElem?_append_left (List.getElem?_eq_some_iff.1 hj).1]
          exact hj)
      obtain ⟨W1, hW1⟩ : ∃ W1, W1 = w.drew.setCells g ((i + 1) * entK.k) (entK.all (l.drop i)) := ⟨_, rfl⟩
      have g1 : W1.heap[g]? = some (.cells (entK.all (Go.splice (l ++ sp) (i + 1) (l.drop i))).toArray entK.elem (0, 0)) := by rw [hW1]; exact Kind.setCells (w := w.drew) hh (i + 1) (l.drop i) (by rw [hLs, List.length_drop, hm]; omega)
      have k1 : ∀ b, b ≠ g → W1.heap[b]? = w.heap[b]? := fun b hb => by rw [hW1, setCells_other _ _ _ hb]; rfl
      have s1 : W1.heap.size = w.heap.size := by rw [hW1, setCells_size]; rfl
      have d1 : W1.os = w.os ∧ W1.tape = w.tape ∧ W1.output = w.output := by rw [hW1]; exact setCells_rest w.drew g (entK.all (l.drop i)) ((i + 1) * entK.k)
      rw [← hW1] at hcp1
      have hL1 : (Go.splice (l ++ sp) (i + 1) (l.drop i)).length = c := by rw [length_splice _ _ _ (by rw [hLs, List.length_drop, hm]; omega)]; exact hLs
      have hv1 := (k1 _ hne).trans hv
      have hcp2 := fun ty => Kind.run_copy (K := entK) (P := Try.prog) W1 25 ty Try.underlying25 hszI g i (m + 1 - i) (c - i) 1 1 ⟨vb, 0, none⟩ entK.elem (Go.splice (l ++ sp) (i + 1) (l.drop i)) [x] g1 (by show 1 = Nat.min 1 (m + 1 - i); exact (Nat.min_eq_left (by omega)).symm) (by rw [hL1]; show i + 1 ≤ c; omega) (fun j v hj => by rw [add_lit', Nat.zero_add, cell_of_block hv1, List.getElem?_toArray, ← Kind.all_one_elem]; exact hj)
      obtain ⟨W2, hW2⟩ : ∃ W2, W2 = W1.setCells g (i * entK.k) (entK.all [x]) := ⟨_, rfl⟩
      have g2 : W2.heap[g]? = some (.cells (entK.all (Go.splice (Go.splice (l ++ sp) (i + 1) (l.drop i)) i [x])).toArray entK.elem (0, 0)) := by rw [hW2]; exact Kind.setCells g1 i [x] (by rw [hL1]; show i + 1 ≤ c; omega)
      rw [splice_mid l sp i x (by omega) hs0] at g2
      have k2 : ∀ b, b ≠ g → W2.heap[b]? = w.heap[b]? := fun b hb => by rw [hW2, setCells_other _ _ _ hb]; exact k1 b hb
      have s2 : W2.heap.size = w.heap.size := by rw [hW2, setCells_size]; exact s1
      have d2 : W2.os = w.os ∧ W2.tape = w.tape ∧ W2.output = w.output := by rw [hW2]; obtain ⟨a, b, c⟩ := setCells_rest W1 g (entK.all [x]) (i * entK.k); rw [a, b, c]; exact d1
      rw [← hW2] at hcp2
      have hFIN := Lib.hid (ins_old (c := c) hm hi hgb (by omega) k2 d2 g2 (by rw [List.length_drop]; omega))
      have hov : ∀ lb cb, (callFunc 146 #[.slice (some ⟨vb, 0, none⟩) 1 1, .slice (some ⟨g, (i + 1) * 3, none⟩) lb cb]).run Try.prog w = .ok (.value (.bool false)) w := fun lb cb => by
        rw [run_callFunc_extern Try.func146 (by kernel_rfl) (by kernel_rfl) (by kernel_rfl) (e := Extern.SlicesOverlaps.overlaps #[25, 25] #[4]) (by kernel_rfl),
          Lib.run_overlaps_apart w 25 4 37 Try.underlying25 3 (fun w => by simp [sizeOf, typeInfo, show Try.prog.info? 37 = some i0 from hin, show i0.size = 3 from hsz]) ⟨vb, 0, none⟩ ⟨g, (i + 1) * 3, none⟩ 1 1 lb cb hne 37 37 (entK.cells x).length (entK.all (l ++ sp)).length (by simp [World.shape?, hv]) (by simp [World.shape?, hh, entK]) (by rw [entK.all_len, hLs]; have := entK.pos; intro h; rcases Nat.mul_eq_zero.1 h with h | h <;> omega) (free_of_block hv 0) (free_of_block hv _)]
        rfl
      have e1 : ¬ (c = i + 1) := by omega
      have e2a : ¬ ((c : Int) = (i : Int) + 1) := by omega
      have e2b : ¬ ((i : Int) + 1 = (c : Int)) := by omega
      have e2c : (i : Int) ≤ m := by omega
      have e2d : (i : Int) + 1 ≤ c := by omega
      have e2 : ¬ (c = i) := by omega
      have e4 : (i : Int) ≤ (m : Int) + 1 := by omega
      have e5 : (0 : Int) ≤ (i : Int) + 1 := by omega
      have e6 : ((i : Int) + 1).toNat = i + 1 := by omega
      have e7 : (i : Int) + 1 ≤ (m : Int) + 1 := by omega
      have e8 : i ≤ m := by omega
      have e10 : ¬ (c : Int) < (m : Int) + 1 := by omega
      have e11 : (m : Int) + 1 ≤ c := by omega
      have HCP1 : ∀ ty, (Builtin.copy_ #[25, 25] ty #[.slice (some ⟨g, (i + 1) * 3, none⟩) (m + 1 - (i + 1)) (c - (i + 1)), .slice (some ⟨g, i * 3, none⟩) (m + 1 - i) (c - i)]).run Try.prog w.drew = .ok (goInt (l.drop i).length) W1 := hcp1
      have HCP2 : ∀ ty, (Builtin.copy_ #[25, 25] ty #[.slice (some ⟨g, i * 3, none⟩) (m + 1 - i) (c - i), .slice (some ⟨vb, 0, none⟩) 1 1]).run Try.prog W1 = .ok (goInt 1) W2 := hcp2
      clear hcp1 hcp2 g1 g2 k1 k2 s1 s2 d1 d2 hL1 hLs hv1 hW1 hW2 hcap hm hh hv hzc hby hsz hz0 hin hszI lg lv hs0 hm6
      go_enter Try.func137, Try.ntmps137
      go_wp2_with (simp only [hov])
      go_region_law (refine step_copy_runI rfl _ _ 25 25 rfl _ _ (by simp [Act.eval, Act.put]) (by simp [Act.eval, Act.put]) (HCP1 _) ?_)
      go_wp2_with (at_builtin; refine wpList_copy_runI _ rfl _ _ _ _ rfl _ _ rfl rfl (HCP2 _) ?_)
      go_ret
      exact hFIN.out
  · -- at the end
    have h3 : ((i : Int) == i) = true := by simp
    have lv := lt_heap hv
    have fin := fun (w1 : World) (cap : Nat) (sp : List Ent) => ins_new (K := entK) (w := w) (w1 := w1) (cap := cap) (ao := ao) (x := x) (sp := sp) hm (Nat.le_refl _) hbs
    have grow : (ao = none ∧ i = 0 ∨ ∃ g, ao = some ⟨g, 0, none⟩ ∧ ∀ j v, (entK.all l)[j]? = some v → w.cell? ⟨g, j, none⟩ = some v) → c = i →
        Calls Try.prog 137 #[.slice ao i c, .int .i64 i, .slice (some ⟨vb, 0, none⟩) 1 1] w fun e w' => InsEnd entK w w' base ao l i x e := by
      intro hcl hci
      subst hci
      obtain ⟨cap', sp, hrun, hcz⟩ := Kind.ins_end_grow (K := entK) (P := Try.prog) w 25 25 i0 z 32 Try.underlying25 hin hz0 hsz hby hzc ao c vb 1 l x 37 hm (by omega) (by omega) hcl hv
      have hrun' : ∀ ty, (Builtin.append_ #[25, 25] ty #[.slice ao c c, .slice (some ⟨vb, 0, none⟩) 1 1]).run Try.prog w = .ok (.slice (some ⟨w.heap.size, 0, none⟩) (c + 1) cap') (w.drew.alloc (.cells (entK.all ((l ++ [x]) ++ sp)).toArray entK.elem)) := fun ty => hrun
      have hFIN := Lib.hid (fin (w.drew.alloc (.cells (entK.all ((l ++ [x]) ++ sp)).toArray entK.elem)) cap' sp (by simp) (fun b hb => heap_alloc_old w.drew _ hb) ⟨rfl, rfl, rfl⟩ (by rw [← hm, insL_end]; exact heap_alloc_new w.drew _) (by omega))
      generalize w.drew.alloc (.cells (entK.all ((l ++ [x]) ++ sp)).toArray entK.elem) = W1 at *
      clear fin hcl hm hv hzc hby hsz hz0 hin hszI lv hm6 ho hcz hrun
      rcases ao with _ | ⟨ab, aoo, asp⟩
      all_goals
        go_enter Try.func137, Try.ntmps137
        go_wp2_with (at_builtin; refine app_run rfl (.tmp 23) (.tmp 24) _ _ rfl rfl rfl hrun' ?_)
        go_ret
        exact hFIN.out
    rcases ho with ⟨rfl, hsl⟩ | ⟨g, cap, sp, hsl, hgb, hcap, hh⟩
    · simp only [Value.slice.injEq] at hsl
      exact grow (.inl ⟨hsl.1, hsl.2.1⟩) (by omega)
    · simp only [Value.slice.injEq] at hsl
      obtain ⟨rfl, -, rfl⟩ := hsl
      rcases Nat.eq_zero_or_pos sp.length with hs0 | hs0
      · refine grow (.inr ⟨g, rfl, fun j v hj => ?_⟩) (by omega)
        rw [cell_of_block hh, List.getElem?_toArray, entK.all_append, List.getElem?_append_left (List.getElem?_eq_some_iff.1 hj).1]
        exact hj
      · clear grow fin
        obtain ⟨hrun, g1⟩ := Kind.ins_end_room (K := entK) (P := Try.prog) w 25 25 i0 Try.underlying25 hin hsz g i c vb 1 l sp x 37 hm hs0 (by omega) hh hv
        have hrun' : ∀ ty, (Builtin.append_ #[25, 25] ty #[.slice (some ⟨g, 0, none⟩) i c, .slice (some ⟨vb, 0, none⟩) 1 1]).run Try.prog w = .ok (.slice (some ⟨g, 0, none⟩) (i + 1) c) (w.setCells g (i * entK.k) (entK.all [x])) := fun ty => hrun
        have hFIN := Lib.hid (ins_old (c := c) (w1 := w.setCells g (i * entK.k) (entK.all [x])) (x := x) hm (Nat.le_refl _) hgb (by rw [setCells_size]; exact Nat.le_refl _) (fun b hb => setCells_other _ _ _ hb) (setCells_rest _ _ _ _) (by rw [← hm] at g1 ⊢; rw [insL_end]; exact g1) (by rw [List.length_drop]; omega))
        have hcc : ¬ (c = i) := by omega
        generalize w.setCells g (i * entK.k) (entK.all [x]) = W1 at *
        clear hm hv hzc hby hsz hz0 hin hszI lv hm6 hcap hh g1 hrun
        go_enter Try.func137, Try.ntmps137
        go_wp2_with (at_builtin; refine app_run rfl (.tmp 23) (.tmp 24) _ _ rfl rfl rfl hrun' ?_)
        go_ret
        exact hFIN.out

theorem zero_snvs : ∃ (i0 : TypeInfo) (z : Value), Try.prog.info? snvK.elem = some i0 ∧ i0.zero = some z ∧ i0.size = snvK.k ∧ i0.bytes = 40 ∧ z.cells = (snvK.cells snvK.zero).toArray := by
  obtain ⟨i0, hi, hz0, hz1, hz2⟩ := info_parts info_snv
  exact ⟨i0, _, hi, hz0, hz1, hz2, snvs_zero⟩

set_option maxRecDepth 100000 in
set_option maxHeartbeats 8000000 in
theorem insert_snvs (w : World) (base : Nat) (ao : Option Addr) (m c i vb : Nat) (l : List Snv) (x : Snv) (hm : l.length = m) (hm6 : m ≤ 1000) (hi : i ≤ m) (ho : snvK.Own w base (.slice ao m c) l) (hbs : base ≤ w.heap.size)
    (hv : w.heap[vb]? = some (.cells (snvK.cells x).toArray 105 (0, 0))) (hvb : ao ≠ some ⟨vb, 0, none⟩) :
    Calls Try.prog 118 #[.slice ao m c, .int .i64 i, .slice (some ⟨vb, 0, none⟩) 1 1] w fun e w' => InsEnd snvK w w' base ao l i x e := by
  have HM := Lib.hid hm
  obtain ⟨i0, z, hin, hz0, hsz, hby, hzc⟩ := zero_snvs
  have hszI : (Try.prog.info? snvK.elem).map (·.size) = some snvK.k := by rw [hin, Option.map_some, hsz]
  have hm1 : (m : Int) ≤ 1000 := by omega
  have hw1 : IntKind.i64.wrap ((i : Int) + 1) = (i : Int) + 1 := by rw [IntKind.wrap_i64]; omega
  rcases Nat.lt_or_eq_of_le hi with hlt | rfl
  · -- not at the end
    have h1 : (i : Int) < m := by omega
    have h2 : ¬ (i : Int) = m := by omega
    have h3 : ((i : Int) == m) = false := by rw [beq_eq_false_iff_ne]; exact h2
    rcases ho with ⟨rfl, _⟩ | ⟨g, cap, sp, hsl, hgb, hcap, hh⟩
    · simp at hm; omega
    simp only [Value.slice.injEq] at hsl
    obtain ⟨rfl, -, rfl⟩ := hsl
    rw [hm] at hcap
    have lg := lt_heap hh
    have lv := lt_heap hv
    have hne : vb ≠ g := fun e => hvb (by rw [e])
    rcases Nat.eq_zero_or_pos sp.length with hs0 | hs0
    · -- no room
      obtain rfl : sp = [] := List.eq_nil_of_length_eq_zero hs0
      obtain rfl : c = m := by simpa using hcap
      rw [List.append_nil] at hh
      have hcells : ∀ j v, (snvK.all l)[j]? = some v → w.cell? ⟨g, j, none⟩ = some v := fun j v hj => by rw [cell_of_block hh, List.getElem?_toArray]; exact hj
      obtain ⟨cap', zs, hrun, hcz, hzl⟩ := Kind.grow_zeros (K := snvK) (P := Try.prog) w 26 3 26 i0 z 40 Try.underlying26 Try.underlying3 hin hz0 hsz hby hzc g i (c + 1 - i) c l (by omega) (by omega) (by omega) (by omega) (by omega) hcells
      have hk1 : ((c + 1 - i : Nat) : Int) = (c : Int) + 1 - i := by omega
      rw [hk1, show i + (c + 1 - i) = c + 1 from by omega] at hrun
      have hrun' : ∀ ty, (Builtin.append_ #[26, 3] ty #[.slice (some ⟨g, 0, none⟩) i c, .int .i64 ((c : Int) + 1 - i)]).run Try.prog w = .ok (.slice (some ⟨w.heap.size, 0, none⟩) (c + 1) cap') (w.drew.alloc (.cells (snvK.all (l.take i ++ zs)).toArray snvK.elem)) := fun ty => hrun
      obtain ⟨W1, hW1⟩ : ∃ W1, W1 = w.drew.alloc (.cells (snvK.all (l.take i ++ zs)).toArray snvK.elem) := ⟨_, rfl⟩
      have g1 : W1.heap[w.heap.size]? = some (.cells (snvK.all (l.take i ++ zs)).toArray snvK.elem (0, 0)) := by rw [hW1]; exact heap_alloc_new w.drew _
      have k1 : ∀ b, b < w.heap.size → W1.heap[b]? = w.heap[b]? := fun b hb => by rw [hW1]; exact heap_alloc_old w.drew _ hb
      have s1 : W1.heap.size = w.heap.size + 1 := by rw [hW1]; simp
      have d1 : W1.os = w.os ∧ W1.tape = w.tape ∧ W1.output = w.output := by rw [hW1]; exact ⟨rfl, rfl, rfl⟩
      rw [← hW1] at hrun'
      have hv1 := (k1 _ lv).trans hv
      have hL1 : (l.take i ++ zs).length = cap' := by rw [List.length_append, List.length_take]; omega
      have hcp1 := fun ty => Kind.run_copy (K := snvK) (P := Try.prog) W1 26 ty Try.underlying26 hszI w.heap.size i (c + 1 - i) (cap' - i) 1 1 ⟨vb, 0, none⟩ snvK.elem (l.take i ++ zs) [x] g1 (by show 1 = Nat.min 1 (c + 1 - i); exact (Nat.min_eq_left (by omega)).symm) (by rw [hL1]; show i + 1 ≤ cap'; omega) (fun j v hj => by rw [add_lit', Nat.zero_add, cell_of_block hv1, List.getElem?_toArray, ← Kind.all_one_elem]; exact hj)
      obtain ⟨W2, hW2⟩ : ∃ W2, W2 = W1.setCells w.heap.size (i * snvK.k) (snvK.all [x]) := ⟨_, rfl⟩
      have g2 : W2.heap[w.heap.size]? = some (.cells (snvK.all (Go.splice (l.take i ++ zs) i [x])).toArray snvK.elem (0, 0)) := by rw [hW2]; exact Kind.setCells g1 i [x] (by rw [hL1]; show i + 1 ≤ cap'; omega)
      have k2 : ∀ b, b < w.heap.size → W2.heap[b]? = w.heap[b]? := fun b hb => by rw [hW2, setCells_other _ _ _ (by omega)]; exact k1 b hb
      have s2 : W2.heap.size = w.heap.size + 1 := by rw [hW2, setCells_size]; exact s1
      have d2 : W2.os = w.os ∧ W2.tape = w.tape ∧ W2.output = w.output := by rw [hW2]; obtain ⟨a, b, c⟩ := setCells_rest W1 w.heap.size (snvK.all [x]) (i * snvK.k); rw [a, b, c]; exact d1
      rw [← hW2] at hcp1
      have hL2 : (Go.splice (l.take i ++ zs) i [x]).length = cap' := by rw [length_splice _ _ _ (by rw [hL1]; show i + 1 ≤ cap'; omega)]; exact hL1
      have hh2 := (k2 _ lg).trans hh
      have hcp2 := fun ty => Kind.run_copy (K := snvK) (P := Try.prog) W2.drew 26 ty Try.underlying26 hszI w.heap.size (i + 1) (c + 1 - (i + 1)) (cap' - (i + 1)) (c - i) (c - i) ⟨g, i * snvK.k, none⟩ snvK.elem (Go.splice (l.take i ++ zs) i [x]) (l.drop i) g2 (by rw [List.length_drop, hm, show c + 1 - (i + 1) = c - i from by omega]; exact (Nat.min_self _).symm) (by rw [hL2, List.length_drop, hm]; omega)
        (fun j v hj => by
          rw [add_lit']
          refine Eq.trans (b := W2.cell? ⟨g, i * snvK.k + j, none⟩) rfl ?_
          rw [cell_of_block hh2, List.getElem?_toArray]
          rw [← snvK.all_drop, List.getElem?_drop] at hj
          exact hj)
      obtain ⟨W3, hW3⟩ : ∃ W3, W3 = W2.drew.setCells w.heap.size ((i + 1) * snvK.k) (snvK.all (l.drop i)) := ⟨_, rfl⟩
      have g3 : W3.heap[w.heap.size]? = some (.cells (snvK.all (Go.splice (Go.splice (l.take i ++ zs) i [x]) (i + 1) (l.drop i))).toArray snvK.elem (0, 0)) := by rw [hW3]; exact Kind.setCells (w := W2.drew) g2 (i + 1) (l.drop i) (by rw [hL2, List.length_drop, hm]; omega)
      rw [splice_grow l zs i x (by omega) (by rw [hm]; exact hzl), hm] at g3
      have k3 : ∀ b, b < w.heap.size → W3.heap[b]? = w.heap[b]? := fun b hb => by rw [hW3, setCells_other _ _ _ (by omega)]; exact k2 b hb
      have s3 : W3.heap.size = w.heap.size + 1 := by rw [hW3, setCells_size]; exact s2
      have d3 : W3.os = w.os ∧ W3.tape = w.tape ∧ W3.output = w.output := by rw [hW3]; obtain ⟨a, b, c⟩ := setCells_rest W2.drew w.heap.size (snvK.all (l.drop i)) ((i + 1) * snvK.k); rw [a, b, c]; exact d2
      rw [← hW3] at hcp2
      have hFIN := Lib.hid (ins_new (cap := cap') (ao := some ⟨g, 0, none⟩) hm hi hbs (by omega) k3 d3 g3 (by rw [List.length_drop]; omega))
      have e1 : ¬ (cap' = i) := by omega
      have e2 : ¬ (cap' = i + 1) := by omega
      have e2a : ¬ ((cap' : Int) = (i : Int) + 1) := by omega
      have e2b : ¬ ((i : Int) + 1 = (cap' : Int)) := by omega
      have e2c : (i : Int) ≤ c := by omega
      have e2d : (i : Int) + 1 ≤ cap' := by omega
      have e2e : (c : Int) + 1 ≤ cap' := by omega
      have e3 : ¬ (c = i) := by omega
      have e4 : (i : Int) ≤ (c : Int) + 1 := by omega
      have e5 : (0 : Int) ≤ (i : Int) + 1 := by omega
      have e6 : ((i : Int) + 1).toNat = i + 1 := by omega
      have e7 : (i : Int) + 1 ≤ (c : Int) + 1 := by omega
      have e8 : i ≤ c := by omega
      have e10 : (c : Int) < (c : Int) + 1 := by omega
      have HCP1 : ∀ ty, (Builtin.copy_ #[26, 26] ty #[.slice (some ⟨w.heap.size, i * 2, none⟩) (c + 1 - i) (cap' - i), .slice (some ⟨vb, 0, none⟩) 1 1]).run Try.prog W1 = .ok (goInt 1) W2 := hcp1
      have HCP2 : ∀ ty, (Builtin.copy_ #[26, 26] ty #[.slice (some ⟨w.heap.size, (i + 1) * 2, none⟩) (c + 1 - (i + 1)) (cap' - (i + 1)), .slice (some ⟨g, i * 2, none⟩) (c - i) (c - i)]).run Try.prog W2.drew = .ok (goInt (l.drop i).length) W3 := hcp2
      clear hcp1 hcp2 g1 g2 g3 k1 k2 k3 s1 s2 s3 d1 d2 d3 hL1 hL2 hh2 hv1 hcells hrun hW1 hW2 hW3 hzl hcz hk1 hcap hs0 hm6 hm hh hv hzc hby hsz hz0 hin hszI lg lv
      go_enter Try.func118, Try.ntmps118
      go_wp2_with (first
        | (at_builtin; refine app_run rfl (.tmp 34) (.tmp 39) _ _ rfl rfl rfl hrun' ?_)
        | (at_builtin; refine wpList_copy_runI _ rfl (.tmp 43) (.tmp 44) _ _ rfl _ _ rfl rfl (HCP1 _) ?_))
      go_region_law (refine step_copy_runI rfl _ _ 26 26 rfl _ _ (by simp [Act.eval, Act.put]) (by simp [Act.eval, Act.put]) (HCP2 _) ?_)
      go_wp2
      go_ret
      exact hFIN.out
    · -- there is room
      have hLs : (l ++ sp).length = c := by rw [List.length_append]; omega
      have hcp1 := fun ty => Kind.run_copy (K := snvK) (P := Try.prog) w.drew 26 ty Try.underlying26 hszI g (i + 1) (m + 1 - (i + 1)) (c - (i + 1)) (m + 1 - i) (c - i) ⟨g, i * snvK.k, none⟩ snvK.elem (l ++ sp) (l.drop i) hh (by rw [List.length_drop, hm]; show m - i = Nat.min (m + 1 - i) (m + 1 - (i + 1)); rw [show m + 1 - (i + 1) = m - i from by omega]; exact (Nat.min_eq_right (by omega)).symm) (by rw [hLs, List.length_drop, hm]; omega)
        (fun j v hj => by
          rw [add_lit']
          refine Eq.trans (b := w.cell? ⟨g, i * snvK.k + j, none⟩) rfl ?_
          rw [cell_of_block hh, List.getElem?_toArray, snvK.all_append]
          rw [← snvK.all_drop, List.getElem?_drop] at hj
          rw [List.getElem?_append_left (List.getElem?_eq_some_iff.1 hj).1]
          exact hj)
      obtain ⟨W1, hW1⟩ : ∃ W1, W1 = w.drew.setCells g ((i + 1) * snvK.k) (snvK.all (l.drop i)) := ⟨_, rfl⟩
      have g1 : W1.heap[g]? = some (.cells (snvK.all (Go.splice (l ++ sp) (i + 1) (l.drop i))).toArray snvK.elem (0, 0)) := by rw [hW1]; exact Kind.setCells (w := w.drew) hh (i + 1) (l.drop i) (by rw [hLs, List.length_drop, hm]; omega)
      have k1 : ∀ b, b ≠ g → W1.heap[b]? = w.heap[b]? := fun b hb => by rw [hW1, setCells_other _ _ _ hb]; rfl
      have s1 : W1.heap.size = w.heap.size := by rw [hW1, setCells_size]; rfl
      have d1 : W1.os = w.os ∧ W1.tape = w.tape ∧ W1.output = w.output := by rw [hW1]; exact setCells_rest w.drew g (snvK.all (l.drop i)) ((i + 1) * snvK.k)
      rw [← hW1] at hcp1
      have hL1 : (Go.splice (l ++ sp) (i + 1) (l.drop i)).length = c := by rw [length_splice _ _ _ (by rw [hLs, List.length_drop, hm]; omega)]; exact hLs
      have hv1 := (k1 _ hne).trans hv
      have hcp2 := fun ty => Kind.run_copy (K := snvK) (P := Try.prog) W1 26 ty Try.underlying26 hszI g i (m + 1 - i) (c - i) 1 1 ⟨vb, 0, none⟩ snvK.elem (Go.splice (l ++ sp) (i + 1) (l.drop i)) [x] g1 (by show 1 = Nat.min 1 (m + 1 - i); exact (Nat.min_eq_left (by omega)).symm) (by rw [hL1]; show i + 1 ≤ c; omega) (fun j v hj => by rw [add_lit', Nat.zero_add, cell_of_block hv1, List.getElem?_toArray, ← Kind.all_one_elem]; exact hj)
      obtain ⟨W2, hW2⟩ : ∃ W2, W2 = W1.setCells g (i * snvK.k) (snvK.all [x]) := ⟨_, rfl⟩
      have g2 : W2.heap[g]? = some (.cells (snvK.all (Go.splice (Go.splice (l ++ sp) (i + 1) (l.drop i)) i [x])).toArray snvK.elem (0, 0)) := by rw [hW2]; exact Kind.setCells g1 i [x] (by rw [hL1]; show i + 1 ≤ c; omega)
      rw [splice_mid l sp i x (by omega) hs0] at g2
      have k2 : ∀ b, b ≠ g → W2.heap[b]? = w.heap[b]? := fun b hb => by rw [hW2, setCells_other _ _ _ hb]; exact k1 b hb
      have s2 : W2.heap.size = w.heap.size := by rw [hW2, setCells_size]; exact s1
      have d2 : W2.os = w.os ∧ W2.tape = w.tape ∧ W2.output = w.output := by rw [hW2]; obtain ⟨a, b, c⟩ := setCells_rest W1 g (snvK.all [x]) (i * snvK.k); rw [a, b, c]; exact d1
      rw [← hW2] at hcp2
      have hFIN := Lib.hid (ins_old (c := c) hm hi hgb (by omega) k2 d2 g2 (by rw [List.length_drop]; omega))
      have hov : ∀ lb cb, (callFunc 138 #[.slice (some ⟨vb, 0, none⟩) 1 1, .slice (some ⟨g, (i + 1) * 2, none⟩) lb cb]).run Try.prog w = .ok (.value (.bool false)) w := fun lb cb => by
        rw [run_callFunc_extern Try.func138 (by kernel_rfl) (by kernel_rfl) (by kernel_rfl) (e := Extern.SlicesOverlaps.overlaps #[26, 26] #[4]) (by kernel_rfl),
          Lib.run_overlaps_apart w 26 4 105 Try.underlying26 2 (fun w => by simp [sizeOf, typeInfo, show Try.prog.info? 105 = some i0 from hin, show i0.size = 2 from hsz]) ⟨vb, 0, none⟩ ⟨g, (i + 1) * 2, none⟩ 1 1 lb cb hne 105 105 (snvK.cells x).length (snvK.all (l ++ sp)).length (by simp [World.shape?, hv]) (by simp [World.shape?, hh, snvK]) (by rw [snvK.all_len, hLs]; have := snvK.pos; intro h; rcases Nat.mul_eq_zero.1 h with h | h <;> omega) (free_of_block hv 0) (free_of_block hv _)]
        rfl
      have e1 : ¬ (c = i + 1) := by omega
      have e2a : ¬ ((c : Int) = (i : Int) + 1) := by omega
      have e2b : ¬ ((i : Int) + 1 = (c : Int)) := by omega
      have e2c : (i : Int) ≤ m := by omega
      have e2d : (i : Int) + 1 ≤ c := by omega
      have e2 : ¬ (c = i) := by omega
      have e4 : (i : Int) ≤ (m : Int) + 1 := by omega
      have e5 : (0 : Int) ≤ (i : Int) + 1 := by omega
      have e6 : ((i : Int) + 1).toNat = i + 1 := by omega
      have e7 : (i : Int) + 1 ≤ (m : Int) + 1 := by omega
      have e8 : i ≤ m := by omega
      have e10 : ¬ (c : Int) < (m : Int) + 1 := by omega
      have e11 : (m : Int) + 1 ≤ c := by omega
      have HCP1 : ∀ ty, (Builtin.copy_ #[26, 26] ty #[.slice (some ⟨g, (i + 1) * 2, none⟩) (m + 1 - (i + 1)) (c - (i + 1)), .slice (some ⟨g, i * 2, none⟩) (m + 1 - i) (c - i)]).run Try.prog w.drew = .ok (goInt (l.drop i).length) W1 := hcp1
      have HCP2 : ∀ ty, (Builtin.copy_ #[26, 26] ty #[.slice (some ⟨g, i * 2, none⟩) (m + 1 - i) (c - i), .slice (some ⟨vb, 0, none⟩) 1 1]).run Try.prog W1 = .ok (goInt 1) W2 := hcp2
      clear hcp1 hcp2 g1 g2 k1 k2 s1 s2 d1 d2 hL1 hLs hv1 hW1 hW2 hcap hm hh hv hzc hby hsz hz0 hin hszI lg lv hs0 hm6
      go_enter Try.func118, Try.ntmps118
      go_wp2_with (simp only [hov])
      go_region_law (refine step_copy_runI rfl _ _ 26 26 rfl _ _ (by simp [Act.eval, Act.put]) (by simp [Act.eval, Act.put]) (HCP1 _) ?_)
      go_wp2_with (at_builtin; refine wpList_copy_runI _ rfl _ _ _ _ rfl _ _ rfl rfl (HCP2 _) ?_)
      go_ret
      exact hFIN.out
  · -- at the end
    have h3 : ((i : Int) == i) = true := by simp
    have lv := lt_heap hv
    have fin := fun (w1 : World) (cap : Nat) (sp : List Snv) => ins_new (K := snvK) (w := w) (w1 := w1) (cap := cap) (ao := ao) (x := x) (sp := sp) hm (Nat.le_refl _) hbs
    have grow : (ao = none ∧ i = 0 ∨ ∃ g, ao = some ⟨g, 0, none⟩ ∧ ∀ j v, (snvK.all l)[j]? = some v → w.cell? ⟨g, j, none⟩ = some v) → c = i →
        Calls Try.prog 118 #[.slice ao i c, .int .i64 i, .slice (some ⟨vb, 0, none⟩) 1 1] w fun e w' => InsEnd snvK w w' base ao l i x e := by
      intro hcl hci
      subst hci
      obtain ⟨cap', sp, hrun, hcz⟩ := Kind.ins_end_grow (K := snvK) (P := Try.prog) w 26 26 i0 z 40 Try.underlying26 hin hz0 hsz hby hzc ao c vb 1 l x 105 hm (by omega) (by omega) hcl hv
      have hrun' : ∀ ty, (Builtin.append_ #[26, 26] ty #[.slice ao c c, .slice (some ⟨vb, 0, none⟩) 1 1]).run Try.prog w = .ok (.slice (some ⟨w.heap.size, 0, none⟩) (c + 1) cap') (w.drew.alloc (.cells (snvK.all ((l ++ [x]) ++ sp)).toArray snvK.elem)) := fun ty => hrun
      have hFIN := Lib.hid (fin (w.drew.alloc (.cells (snvK.all ((l ++ [x]) ++ sp)).toArray snvK.elem)) cap' sp (by simp) (fun b hb => heap_alloc_old w.drew _ hb) ⟨rfl, rfl, rfl⟩ (by rw [← hm, insL_end]; exact heap_alloc_new w.drew _) (by omega))
      generalize w.drew.alloc (.cells (snvK.all ((l ++ [x]) ++ sp)).toArray snvK.elem) = W1 at *
      clear fin hcl hm hv hzc hby hsz hz0 hin hszI lv hm6 ho hcz hrun
      rcases ao with _ | ⟨ab, aoo, asp⟩
      all_goals
        go_enter Try.func118, Try.ntmps118
        go_wp2_with (at_builtin; refine app_run rfl (.tmp 23) (.tmp 24) _ _ rfl rfl rfl hrun' ?_)
        go_ret
        exact hFIN.out
    rcases ho with ⟨rfl, hsl⟩ | ⟨g, cap, sp, hsl, hgb, hcap, hh⟩
    · simp only [Value.slice.injEq] at hsl
      exact grow (.inl ⟨hsl.1, hsl.2.1⟩) (by omega)
    · simp only [Value.slice.injEq] at hsl
      obtain ⟨rfl, -, rfl⟩ := hsl
      rcases Nat.eq_zero_or_pos sp.length with hs0 | hs0
      · refine grow (.inr ⟨g, rfl, fun j v hj => ?_⟩) (by omega)
        rw [cell_of_block hh, List.getElem?_toArray, snvK.all_append, List.getElem?_append_left (List.getElem?_eq_some_iff.1 hj).1]
        exact hj
      · clear grow fin
        obtain ⟨hrun, g1⟩ := Kind.ins_end_room (K := snvK) (P := Try.prog) w 26 26 i0 Try.underlying26 hin hsz g i c vb 1 l sp x 105 hm hs0 (by omega) hh hv
        have hrun' : ∀ ty, (Builtin.append_ #[26, 26] ty #[.slice (some ⟨g, 0, none⟩) i c, .slice (some ⟨vb, 0, none⟩) 1 1]).run Try.prog w = .ok (.slice (some ⟨g, 0, none⟩) (i + 1) c) (w.setCells g (i * snvK.k) (snvK.all [x])) := fun ty => hrun
        have hFIN := Lib.hid (ins_old (c := c) (w1 := w.setCells g (i * snvK.k) (snvK.all [x])) (x := x) hm (Nat.le_refl _) hgb (by rw [setCells_size]; exact Nat.le_refl _) (fun b hb => setCells_other _ _ _ hb) (setCells_rest _ _ _ _) (by rw [← hm] at g1 ⊢; rw [insL_end]; exact g1) (by rw [List.length_drop]; omega))
        have hcc : ¬ (c = i) := by omega
        generalize w.setCells g (i * snvK.k) (snvK.all [x]) = W1 at *
        clear hm hv hzc hby hsz hz0 hin hszI lv hm6 hcap hh g1 hrun
        go_enter Try.func118, Try.ntmps118
        go_wp2_with (at_builtin; refine app_run rfl (.tmp 23) (.tmp 24) _ _ rfl rfl rfl hrun' ?_)
        go_ret
        exact hFIN.out
end Go.Proofs.Ytfmgdjgedhnmeaa
