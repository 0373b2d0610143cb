/- Rows of elements of several cells: an element comes in at a place, or goes. No program in sight. -/
import Derived.Lib.AppendZerosOnto
import Derived.Test.YtfmgdjgedhnmeaaSetCopy
namespace Go.Proofs.Ytfmgdjgedhnmeaa
open Go.RowKit
set_option linter.unusedVariables false

/-- an element comes in at a place -/
def insL {α : Type} (l : List α) (i : Nat) (x : α) : List α := l.take i ++ x :: l.drop i
theorem insL_len {α : Type} (l : List α) (i : Nat) (x : α) (h : i ≤ l.length) : (insL l i x).length = l.length + 1 := by simp [insL]; omega

theorem splice_end {α : Type} (l sp : List α) (x : α) (h : 0 < sp.length) : splice (l ++ sp) l.length [x] = (l ++ [x]) ++ sp.drop 1 := by
  unfold splice
  rw [List.take_left, List.drop_append, List.drop_of_length_le (by simp)]
  simp
theorem splice_mid {α : Type} (l sp : List α) (i : Nat) (x : α) (hi : i < l.length) (h : 0 < sp.length) : splice (splice (l ++ sp) (i + 1) (l.drop i)) i [x] = insL l i x ++ sp.drop 1 := by
  unfold splice insL
  have e1 : (l ++ sp).take (i + 1) = l.take (i + 1) := List.take_append_of_le_length (by omega)
  have e2 : (l ++ sp).drop (i + 1 + (l.drop i).length) = sp.drop 1 := by
    rw [List.drop_append, List.drop_of_length_le (by rw [List.length_drop]; omega), List.nil_append, List.length_drop]
    congr 1
    omega
  rw [e1, e2]
  have hl : (l.take (i + 1)).length = i + 1 := by rw [List.length_take]; omega
  rw [List.take_append_of_le_length (by omega), List.take_take, Nat.min_eq_left (by omega), List.drop_append, List.drop_of_length_le (by rw [hl]; simp)]
  simp [hl]
theorem splice_grow {α : Type} (l z : List α) (i : Nat) (x : α) (hi : i < l.length) (h : l.length + 1 - i ≤ z.length) : splice (splice (l.take i ++ z) i [x]) (i + 1) (l.drop i) = insL l i x ++ z.drop (l.length + 1 - i) := by
  unfold splice insL
  have hl : (l.take i).length = i := by rw [List.length_take]; omega
  rw [List.take_left' hl, List.drop_append, hl, List.drop_of_length_le (by rw [hl]; simp), List.nil_append]
  rw [List.take_append, hl, List.take_of_length_le (by rw [hl]; omega), show i + 1 - i = 1 from by omega]
  simp only [List.singleton_append, List.take_succ_cons, List.take_zero, List.length_cons, List.length_nil, List.length_drop]
  rw [show i + (0 + 1) - i = 1 from by omega]
  have e : (l.take i ++ x :: z.drop 1).drop (i + 1 + (l.length - i)) = z.drop (l.length + 1 - i) := by
    rw [List.drop_append, hl, List.drop_of_length_le (by rw [hl]; omega), List.nil_append, show i + 1 + (l.length - i) - i = (l.length - i) + 1 from by omega, List.drop_succ_cons, List.drop_drop]
    congr 1
    omega
  rw [e]
  simp

section
variable {α : Type} {K : Kind α}

theorem Kind.all_one_elem (x : α) : K.all [x] = K.cells x := by simp [Kind.all]
theorem add_lit' (b o j : Nat) : (⟨b, o, none⟩ : Addr).add j = ⟨b, o + j, none⟩ := by unfold Addr.add; split <;> simp_all

/-- append of one: there is room -/
theorem Kind.ins_end_room {P : Program} (w : World) (t ty : TypeId) (i0 : TypeInfo) (ht : P.underlying t = some (.slice K.elem)) (hi : P.info? K.elem = some i0) (hsz : i0.size = K.k) (g m c vb vc : Nat) (l sp : List α) (x : α) (tv : Nat) (hm : l.length = m) (hsp : 0 < sp.length) (hc : c = m + sp.length)
    (h : w.heap[g]? = some (.cells (K.all (l ++ sp)).toArray K.elem (0, 0))) (hv : w.heap[vb]? = some (.cells (K.cells x).toArray tv (0, 0))) :
    (Builtin.append_ #[t, t] ty #[.slice (some ⟨g, 0, none⟩) m c, .slice (some ⟨vb, 0, none⟩) 1 vc]).run P w = .ok (.slice (some ⟨g, 0, none⟩) (m + 1) c) (w.setCells g (m * K.k) (K.all [x])) ∧
      (w.setCells g (m * K.k) (K.all [x])).heap[g]? = some (.cells (K.all ((l ++ [x]) ++ sp.drop 1)).toArray K.elem (0, 0)) := by
  have hsrc : Src P i0.size t (.slice (some ⟨vb, 0, none⟩) 1 vc) 1 (K.all [x]) w :=
    Src.ofSlice w ht ⟨vb, 0, none⟩ 1 vc (K.all [x]) (by rw [K.all_len, hsz]; simp) (fun j u hj => by rw [add_lit', Nat.zero_add, cell_of_block hv, List.getElem?_toArray, ← Kind.all_one_elem]; exact hj) (K.all_one [x])
  have hb : ∀ j, j < (K.all [x]).length → m * K.k + j < (l ++ sp).length * K.k := by
    intro j hj
    rw [K.all_len] at hj
    have : (m + 1) * K.k ≤ (l ++ sp).length * K.k := Nat.mul_le_mul_right _ (by rw [List.length_append]; omega)
    rw [Nat.add_mul] at this
    simp only [List.length_cons, List.length_nil] at hj
    omega
  have hr := run_append_room_src w t t ty K.elem i0 ht hi g 0 m c _ 1 (K.all [x]) hsrc (by omega) (fun j hj => by rw [Nat.zero_add, hsz]; exact Kind.isCell h _ (hb j hj)) (fun j hj => free_of_block h _)
  rw [Nat.zero_add, hsz] at hr
  refine ⟨hr, ?_⟩
  have h2 := Kind.setCells (K := K) h m [x] (by rw [List.length_append]; simp; omega)
  rw [← hm] at h2 ⊢
  rw [splice_end l sp x hsp] at h2
  exact h2

/-- append of one: there is none -/
theorem Kind.ins_end_grow {P : Program} (w : World) (t ty : TypeId) (i0 : TypeInfo) (z : Value) (bytes : Nat) (ht : P.underlying t = some (.slice K.elem)) (hi : P.info? K.elem = some i0) (hz0 : i0.zero = some z) (hsz : i0.size = K.k) (hby : i0.bytes = bytes)
    (hz : z.cells = (K.cells K.zero).toArray) (ao : Option Addr) (m vb vc : Nat) (l : List α) (x : α) (tv : Nat) (hm : l.length = m) (hbig : (m + 1) * bytes ≤ 140737488355328) (h63 : m + 1 ≤ 9223372036854775807)
    (h : (ao = none ∧ m = 0) ∨ ∃ g, ao = some ⟨g, 0, none⟩ ∧ ∀ j v, (K.all l)[j]? = some v → w.cell? ⟨g, j, none⟩ = some v) (hv : w.heap[vb]? = some (.cells (K.cells x).toArray tv (0, 0))) :
    ∃ cap sp, (Builtin.append_ #[t, t] ty #[.slice ao m m, .slice (some ⟨vb, 0, none⟩) 1 vc]).run P w = .ok (.slice (some ⟨w.heap.size, 0, none⟩) (m + 1) cap) (w.drew.alloc (.cells (K.all ((l ++ [x]) ++ sp)).toArray K.elem)) ∧ cap = (m + 1) + sp.length := by
  have hsrc : Src P i0.size t (.slice (some ⟨vb, 0, none⟩) 1 vc) 1 (K.all [x]) w :=
    Src.ofSlice w ht ⟨vb, 0, none⟩ 1 vc (K.all [x]) (by rw [K.all_len, hsz]; simp) (fun j u hj => by rw [add_lit', Nat.zero_add, cell_of_block hv, List.getElem?_toArray, ← Kind.all_one_elem]; exact hj) (K.all_one [x])
  have hold : (Builtin.firstCells i0.size m (.slice ao m m)).run P w.drew = .ok (K.all l).toArray w.drew := by
    rcases h with ⟨rfl, h0⟩ | ⟨g, rfl, hg⟩
    · obtain rfl : l = [] := List.eq_nil_of_length_eq_zero (hm.trans h0)
      rw [h0]
      exact run_firstCells_none w.drew i0.size 0 0 0
    · exact run_firstCells_some w.drew i0.size m ⟨g, 0, none⟩ m m (K.all l) (by rw [K.all_len, hm, hsz]) (fun j u hj => by rw [add_lit', Nat.zero_add]; exact hg j u hj)
  have hrun := run_append_grow_src w t t ty K.elem i0 z ht hi hz0 ao m m (K.all l) hold _ 1 (K.all [x]) hsrc (by omega) (by omega) (by rw [hby]; exact growslice_fits (by omega) hbig)
  have hge := grownCap_ge w (m + 1) m K.elem
  refine ⟨grownCap w (m + 1) m K.elem, List.replicate (grownCap w (m + 1) m K.elem - (m + 1)) K.zero, ?_, by rw [List.length_replicate]; omega⟩
  rw [hrun, Kind.zeros z hz, K.all_append (l ++ [x]), K.all_append l [x]]
  congr 3
  apply Array.ext'
  simp

/-- append of noughts: there is no room -/
theorem Kind.grow_zeros {P : Program} (w : World) (t tn ty : TypeId) (i0 : TypeInfo) (z : Value) (bytes : Nat) (ht : P.underlying t = some (.slice K.elem)) (htn : P.underlying tn = some (.int .i64)) (hi : P.info? K.elem = some i0) (hz0 : i0.zero = some z) (hsz : i0.size = K.k) (hby : i0.bytes = bytes)
    (hz : z.cells = (K.cells K.zero).toArray) (g i k c : Nat) (l : List α) (hi1 : i ≤ l.length) (h0 : 0 < k) (hg : c < i + k) (hbig : (i + k) * bytes ≤ 140737488355328) (h63 : i + k ≤ 9223372036854775807)
    (h : ∀ j v, (K.all l)[j]? = some v → w.cell? ⟨g, j, none⟩ = some v) :
    ∃ cap zs, (Builtin.append_ #[t, tn] ty #[.slice (some ⟨g, 0, none⟩) i c, .int .i64 (k : Int)]).run P w = .ok (.slice (some ⟨w.heap.size, 0, none⟩) (i + k) cap) (w.drew.alloc (.cells (K.all (l.take i ++ zs)).toArray K.elem)) ∧ cap = i + zs.length ∧ k ≤ zs.length := by
  have hold : (Builtin.firstCells i0.size i (.slice (some ⟨g, 0, none⟩) i c)).run P w.drew = .ok (K.all (l.take i)).toArray w.drew :=
    run_firstCells_some w.drew i0.size i ⟨g, 0, none⟩ i c (K.all (l.take i)) (by rw [K.all_len, List.length_take, Nat.min_eq_left hi1, hsz]) (fun j u hj => by
      rw [add_lit', Nat.zero_add]
      rw [← K.all_take] at hj
      refine h j u ?_
      rw [List.getElem?_take] at hj
      split at hj
      · exact hj
      · cases hj)
  have hrun := Lib.run_append_grow_zeros w t tn ty K.elem i0 z .i64 .i64 ht htn hi hz0 (some ⟨g, 0, none⟩) i c (K.all (l.take i)) hold k h0 (by rw [hsz]; exact K.pos) hg (by omega) (by rw [hby]; rw [Nat.add_mul] at hbig; omega) (by rw [hby]; exact growslice_fits hg hbig)
  have hge := grownCap_ge w (i + k) c K.elem
  refine ⟨grownCap w (i + k) c K.elem, List.replicate (grownCap w (i + k) c K.elem - i) K.zero, ?_, by rw [List.length_replicate]; omega, by rw [List.length_replicate]; omega⟩
  have e : List.replicate (grownCap w (i + k) c K.elem - i) K.zero = List.replicate k K.zero ++ List.replicate (grownCap w (i + k) c K.elem - (i + k)) K.zero := by
    rw [List.replicate_append_replicate]
    congr 1
    omega
  rw [hrun, Kind.zeros z hz, Kind.zeros z hz, e, K.all_append, K.all_append]
  congr 3
  apply Array.ext'
  simp
end
end Go.Proofs.Ytfmgdjgedhnmeaa
