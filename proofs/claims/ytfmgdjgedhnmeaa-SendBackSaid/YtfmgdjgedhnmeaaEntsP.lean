/- Rows of elements of several cells: what lies there, and what append, copy and clear do to them. No program in sight. · Sets as plain data, and in memory; set.Name. -/
import Derived.Deep.AppendSrc
import Derived.Laws.IdiomCopy
import Derived.Laws.CopyOwn
import Derived.Test.YtfmgdjgedhnmeaaBase
import Derived.BigQuiet
import Derived.Lib.Strings
import Derived.Laws.Cover1
import Derived.Test.YtfmgdjgedhnmeaaSto
namespace Go.Proofs.Ytfmgdjgedhnmeaa
open Go.RowKit
set_option linter.unusedVariables false

/-- what an element is in memory -/
structure Kind (α : Type) where
  cells : α → List Value
  k : Nat
  zero : α
  elem : TypeId
  pos : 0 < k
  len : ∀ x, (cells x).length = k
  one : ∀ x, ∀ v ∈ cells x, v.oneCell' = true

section
variable {α : Type} (K : Kind α)

def Kind.all (l : List α) : List Value := l.flatMap K.cells
theorem Kind.all_nil : K.all [] = [] := rfl
theorem Kind.all_cons (x : α) (l : List α) : K.all (x :: l) = K.cells x ++ K.all l := by simp [Kind.all]
theorem Kind.all_append (l m : List α) : K.all (l ++ m) = K.all l ++ K.all m := by simp [Kind.all]
theorem Kind.all_len (l : List α) : (K.all l).length = l.length * K.k := by
  induction l with
  | nil => simp [Kind.all_nil]
  | cons x l ih => rw [K.all_cons, List.length_append, ih, K.len, List.length_cons, Nat.add_mul]; omega
theorem Kind.all_one (l : List α) : ∀ v ∈ K.all l, v.oneCell' = true := by
  intro v hv
  obtain ⟨x, _, hx⟩ := List.mem_flatMap.1 hv
  exact K.one x v hx
theorem Kind.all_at (l : List α) (i : Nat) (hi : i < l.length) (j : Nat) (hj : j < K.k) : (K.all l)[i * K.k + j]? = (K.cells l[i])[j]? := by
  induction l generalizing i with
  | nil => simp at hi
  | cons x l ih =>
    rw [K.all_cons]
    cases i with
    | zero => rw [List.getElem?_append_left (by rw [K.len]; omega)]; simp
    | succ i =>
      rw [List.getElem?_append_right (by rw [K.len, Nat.add_mul]; omega), K.len, show (i + 1) * K.k + j - K.k = i * K.k + j from by rw [Nat.add_mul]; omega]
      rw [ih i (by simpa using hi)]
      simp
theorem Kind.all_drop (l : List α) (i : Nat) : (K.all l).drop (i * K.k) = K.all (l.drop i) := by
  rcases Nat.lt_or_ge l.length i with h | h
  · rw [List.drop_of_length_le (by rw [K.all_len]; exact Nat.mul_le_mul_right _ (Nat.le_of_lt h)), List.drop_of_length_le (Nat.le_of_lt h)]; rfl
  · have e : K.all l = K.all (l.take i) ++ K.all (l.drop i) := by rw [← K.all_append, List.take_append_drop]
    have hl : (K.all (l.take i)).length = i * K.k := by rw [K.all_len, List.length_take, Nat.min_eq_left h]
    rw [e, ← hl, List.drop_left]
theorem Kind.all_take (l : List α) (i : Nat) : (K.all l).take (i * K.k) = K.all (l.take i) := by
  rcases Nat.lt_or_ge l.length i with h | h
  · rw [List.take_of_length_le (by rw [K.all_len]; exact Nat.mul_le_mul_right _ (Nat.le_of_lt h)), List.take_of_length_le (Nat.le_of_lt h)]
  · have e : K.all l = K.all (l.take i) ++ K.all (l.drop i) := by rw [← K.all_append, List.take_append_drop]
    have hl : (K.all (l.take i)).length = i * K.k := by rw [K.all_len, List.length_take, Nat.min_eq_left h]
    rw [e, ← hl, List.take_left]

/-- a row of such lies there -/
def Kind.Row (w : World) (ao : Option Addr) (l : List α) : Prop := l = [] ∨ ∃ b o, ao = some ⟨b, o, none⟩ ∧ ∀ j v, (K.all l)[j]? = some v → w.cell? ⟨b, o + j, none⟩ = some v
variable {K}
theorem Kind.Row.at {w : World} {ao : Option Addr} {l : List α} (h : K.Row w ao l) (hl : 0 < l.length) : ∃ b o, ao = some ⟨b, o, none⟩ ∧ b < w.heap.size ∧ ∀ j v, (K.all l)[j]? = some v → w.cell? ⟨b, o + j, none⟩ = some v := by
  rcases h with rfl | ⟨b, o, h1, h⟩
  · simp at hl
  · refine ⟨b, o, h1, ?_, h⟩
    have hlt : 0 < (K.all l).length := by rw [K.all_len]; exact Nat.mul_pos hl K.pos
    exact World.block_lt_of_cell? _ _ (h 0 _ (List.getElem?_eq_getElem hlt))
theorem Kind.Row.mono {w w' : World} {ao : Option Addr} {l : List α} (h : K.Row w ao l) (hb : Below w.heap.size w w') : K.Row w' ao l := by
  rcases h with rfl | ⟨b, o, rfl, h⟩
  · exact .inl rfl
  · exact .inr ⟨b, o, rfl, fun j v hj => ((bcell hb).1 _ _ (World.block_lt_of_cell? _ _ (h j v hj))).trans (h j v hj)⟩

/-- a row of the call's own: nil; or all cells of a block -/
def Kind.Own (K : Kind α) (w : World) (base : Nat) (v : Value) (l : List α) : Prop :=
  (l = [] ∧ v = .slice none 0 0) ∨ ∃ g cap, ∃ sp : List α, v = .slice (some ⟨g, 0, none⟩) l.length cap ∧ base ≤ g ∧ cap = l.length + sp.length ∧ w.heap[g]? = some (.cells (K.all (l ++ sp)).toArray K.elem (0, 0))
theorem Kind.Own.mono {w w' : World} {base : Nat} {v : Value} {l : List α} (h : K.Own w base v l) (hb : Below w.heap.size w w') : K.Own w' base v l := by
  rcases h with h | ⟨g, cap, sp, h1, h2, h3, h4⟩
  · exact .inl h
  · exact .inr ⟨g, cap, sp, h1, h2, h3, (hb.block _ (lt_heap h4)).trans h4⟩
theorem Kind.row_of_block {w : World} {g : Nat} {l sp : List α} {t : TypeId} (h : w.heap[g]? = some (.cells (K.all (l ++ sp)).toArray t (0, 0))) : K.Row w (some ⟨g, 0, none⟩) l := by
  refine .inr ⟨g, 0, rfl, fun j v hj => ?_⟩
  rw [cell_of_block h, Nat.zero_add, List.getElem?_toArray, K.all_append]
  rw [List.getElem?_append_left (List.getElem?_eq_some_iff.1 hj).1]
  exact hj
theorem Kind.Own.row {w : World} {base : Nat} {v : Value} {l : List α} (h : K.Own w base v l) : ∃ ao cap, v = .slice ao l.length cap ∧ K.Row w ao l ∧ l.length ≤ cap ∧ (ao = none → cap = 0) := by
  rcases h with ⟨rfl, rfl⟩ | ⟨g, cap, sp, h1, h2, h3, h4⟩
  · exact ⟨none, 0, rfl, .inl rfl, Nat.le_refl _, fun _ => rfl⟩
  · exact ⟨_, cap, h1, Kind.row_of_block h4, by omega, fun h => by cases h⟩
theorem Kind.Own.weaken {w : World} {base base' : Nat} {v : Value} {l : List α} (h : K.Own w base v l) (hb : base' ≤ base) : K.Own w base' v l := by
  rcases h with h | ⟨g, cap, sp, h1, h2, h3, h4⟩
  · exact .inl h
  · exact .inr ⟨g, cap, sp, h1, by omega, h3, h4⟩

/-- zero values behind -/
theorem Kind.zeros (z : Value) (hz : z.cells = (K.cells K.zero).toArray) (m : Nat) : Builtin.zeroCells z.cells m = (K.all (List.replicate m K.zero)).toArray := by
  have hs : z.cells.size = K.k := by rw [hz, List.size_toArray, K.len]
  apply Array.ext
  · rw [size_zeroCells, hs, List.size_toArray, K.all_len, List.length_replicate]
  · intro i h1 h2
    have hi : i < m * K.k := by rw [List.size_toArray, K.all_len, List.length_replicate] at h2; exact h2
    have hq : i / K.k < m := Nat.div_lt_of_lt_mul (by rw [Nat.mul_comm]; exact hi)
    have hr : i % K.k < K.k := Nat.mod_lt _ K.pos
    have h3 := K.all_at (List.replicate m K.zero) (i / K.k) (by rw [List.length_replicate]; exact hq) (i % K.k) hr
    rw [show i / K.k * K.k + i % K.k = i from by rw [Nat.mul_comm]; exact Nat.div_add_mod i K.k, List.getElem_replicate] at h3
    have h4 : (K.all (List.replicate m K.zero))[i]? = some ((K.all (List.replicate m K.zero)).toArray[i]) := by
      rw [List.getElem_toArray]; exact List.getElem?_eq_getElem _
    rw [h4] at h3
    have h6 : (Builtin.zeroCells z.cells m)[i] = z.cells[i % z.cells.size]! := by simp [Builtin.zeroCells]
    rw [h6, hs]
    have h5 : z.cells[i % K.k]? = some ((K.all (List.replicate m K.zero)).toArray[i]) := by rw [hz, List.getElem?_toArray, ← h3]
    rw [Array.getElem!_eq_getD, Array.getD_eq_getD_getElem?, h5]
    rfl

/-- append onto an empty slice: a row of one's own -/
theorem Kind.run_clone {P : Program} (w : World) (t ty : TypeId) (i0 : TypeInfo) (z : Value) (bytes : Nat) (ht : P.underlying t = some (.slice K.elem)) (hi : P.info? K.elem = some i0) (hz0 : i0.zero = some z) (hsz : i0.size = K.k) (hby : i0.bytes = bytes)
    (hz : z.cells = (K.cells K.zero).toArray) (g b o c : Nat) (l : List α) (h0 : 0 < l.length) (hbig : l.length * bytes ≤ 140737488355328) (h63 : l.length ≤ 9223372036854775807) (hl : ∀ j v, (K.all l)[j]? = some v → w.cell? ⟨b, o + j, none⟩ = some v) :
    ∃ cap sp, (Builtin.append_ #[t, t] ty #[.slice (some ⟨g, 0, none⟩) 0 0, .slice (some ⟨b, o, none⟩) l.length c]).run P w = .ok (.slice (some ⟨w.heap.size, 0, none⟩) l.length cap) (w.drew.alloc (.cells (K.all (l ++ sp)).toArray K.elem)) ∧ cap = l.length + sp.length := by
  have hsrc : Src P i0.size t (.slice (some ⟨b, o, none⟩) l.length c) l.length (K.all l) w :=
    Src.ofSlice w ht ⟨b, o, none⟩ l.length c (K.all l) (by rw [K.all_len, hsz]) (fun j u hj => by rw [show (⟨b, o, none⟩ : Addr).add j = ⟨b, o + j, none⟩ from by unfold Addr.add; split <;> simp_all]; exact hl j u hj) (K.all_one l)
  have hold : (Builtin.firstCells i0.size 0 (.slice (some ⟨g, 0, none⟩) 0 0)).run P w.drew = .ok ([] : List Value).toArray w.drew :=
    run_firstCells_some w.drew i0.size 0 ⟨g, 0, none⟩ 0 0 [] (by simp) (by simp)
  have hrun := run_append_grow_src w t t ty K.elem i0 z ht hi hz0 (some ⟨g, 0, none⟩) 0 0 [] hold _ l.length (K.all l) hsrc (by omega) (by omega) (by rw [hby]; exact growslice_fits (by omega) (by rw [Nat.zero_add]; exact hbig))
  have hge := grownCap_ge w (0 + l.length) 0 K.elem
  rw [Nat.zero_add] at hrun hge
  refine ⟨grownCap w l.length 0 K.elem, List.replicate (grownCap w l.length 0 K.elem - l.length) K.zero, ?_, by rw [List.length_replicate]; omega⟩
  rw [hrun, Kind.zeros z hz, List.nil_append, K.all_append, List.append_toArray]

theorem splice_cons {β : Type} (L : List β) (o : Nat) (v : β) (r : List β) (h : o < L.length) : splice (L.set o v) (o + 1) r = splice L o (v :: r) := by
  unfold splice
  rw [List.set_eq_take_append_cons_drop, if_pos h]
  have hl : (L.take o ++ [v]).length = o + 1 := by rw [List.length_append, List.length_take]; simp; omega
  have e : L.take o ++ v :: L.drop (o + 1) = (L.take o ++ [v]) ++ L.drop (o + 1) := by simp
  rw [e, List.take_left' hl, List.drop_append, hl, List.drop_of_length_le (by rw [hl]; omega), List.nil_append, List.drop_drop]
  simp only [List.append_assoc, List.cons_append, List.nil_append, List.length_cons]
  congr 4
  omega

/-- cells of a block that is known are written -/
theorem heap_setCells {g t : Nat} : ∀ (vs : List Value) (o : Nat) (w : World) (cs : List Value), w.heap[g]? = some (.cells cs.toArray t (0, 0)) → o + vs.length ≤ cs.length → (w.setCells g o vs).heap[g]? = some (.cells (splice cs o vs).toArray t (0, 0))
  | [], o, w, cs, h, _ => by simpa [World.setCells, splice] using h
  | v :: r, o, w, cs, h, hl => by
    rw [List.length_cons] at hl
    have h1 := heap_setCell_same' h o v
    have e : cs.toArray.setIfInBounds o v = (cs.set o v).toArray := by simp
    rw [e] at h1
    have h2 := heap_setCells r (o + 1) _ _ h1 (by rw [List.length_set]; omega)
    rw [splice_cons cs o v r (by omega)] at h2
    exact h2

theorem below_setCells {base g : Nat} {w w0 : World} (h : Below base w0 w) (hg : base ≤ g) : ∀ (vs : List Value) (o : Nat), Below base w0 (w.setCells g o vs) := by
  intro vs o
  induction vs generalizing w o with
  | nil => exact h
  | cons v r ih => exact ih (h.setCell hg v) (o + 1)

theorem setCells_other {w : World} {g : Nat} : ∀ (vs : List Value) (o b : Nat), b ≠ g → (w.setCells g o vs).heap[b]? = w.heap[b]? := by
  intro vs o b hb
  induction vs generalizing w o with
  | nil => rfl
  | cons v r ih => rw [World.setCells, ih]; exact Below.heap_setCell _ _ _ _ hb

variable (K)
theorem Kind.splice (L M : List α) (i : Nat) : splice (K.all L) (i * K.k) (K.all M) = K.all (splice L i M) := by
  unfold Go.splice
  rw [K.all_append, K.all_append, K.all_take, K.all_len M, ← Nat.add_mul, K.all_drop]
variable {K}

/-- elements of a block are written -/
theorem Kind.setCells {w : World} {g t : Nat} {L : List α} (h : w.heap[g]? = some (.cells (K.all L).toArray t (0, 0))) (i : Nat) (M : List α) (hl : i + M.length ≤ L.length) :
    (w.setCells g (i * K.k) (K.all M)).heap[g]? = some (.cells (K.all (Go.splice L i M)).toArray t (0, 0)) := by
  rw [← K.splice]
  exact heap_setCells _ _ _ _ h (by rw [K.all_len, K.all_len, ← Nat.add_mul]; exact Nat.mul_le_mul_right _ hl)

theorem Kind.isCell {w : World} {g t : Nat} {L : List α} (h : w.heap[g]? = some (.cells (K.all L).toArray t (0, 0))) (j : Nat) (hj : j < L.length * K.k) : (w.cell? ⟨g, j, none⟩).isSome = true := by
  rw [cell_of_block h, List.getElem?_toArray, List.getElem?_eq_getElem (by rw [K.all_len]; exact hj)]
  rfl

/-- copy -/
theorem Kind.run_copy {P : Program} (w : World) (t ty : TypeId) (ht : P.underlying t = some (.slice K.elem)) (hs : (P.info? K.elem).map (·.size) = some K.k) (g i dLen dCap sLen sCap : Nat) (a : Addr) (tb : Nat) (L M : List α)
    (h : w.heap[g]? = some (.cells (K.all L).toArray tb (0, 0))) (hm : M.length = Nat.min sLen dLen) (hi : i + M.length ≤ L.length) (hsrc : ∀ j v, (K.all M)[j]? = some v → w.cell? (a.add j) = some v) :
    (Builtin.copy_ #[t, t] ty #[.slice (some ⟨g, i * K.k, none⟩) dLen dCap, .slice (some a) sLen sCap]).run P w = .ok (goInt M.length) (w.setCells g (i * K.k) (K.all M)) := by
  have hl := run_loadCells_list (P := P) w a (K.all M) hsrc
  have hb : ∀ j, j < (K.all M).length → i * K.k + j < L.length * K.k := by
    intro j hj
    rw [K.all_len] at hj
    have h1 : (i + M.length) * K.k ≤ L.length * K.k := Nat.mul_le_mul_right _ hi
    rw [Nat.add_mul] at h1
    omega
  have hst := run_storeCells_cells (P := P) g (i * K.k) (K.all M) 0 w (fun j hj => by rw [Nat.add_zero]; exact Kind.isCell h _ (hb j hj)) (fun j hj => free_of_block h _) (K.all_one M)
  rw [K.all_len] at hl
  cases hq : P.info? K.elem with
  | none => simp [hq] at hs
  | some i0 =>
    have hsz : i0.size = K.k := by simpa [hq] using hs
    simp [Builtin.copy_, run_underlying ht, Builtin.lenOf, Builtin.firstCells, sizeOf, typeInfo, hq, hsz, ← hm, hl, hst]
end
end Go.Proofs.Ytfmgdjgedhnmeaa

namespace Go.Proofs.Ytfmgdjgedhnmeaa
open Go.RowKit
set_option linter.unusedVariables false

/-- an entry, a snap, a set -/
structure Ent where
  nm : ByteArray
  root : Int
  size : Int
structure Snp where
  nm : ByteArray
  files : List Ent
structure SetV where
  nm : ByteArray
  files : List Ent
  snaps : List Snp

def nameC (c : Int) : Bool := (decide (97 ≤ c) && decide (c ≤ 122)) || (decide (48 ≤ c) && decide (c ≤ 57))
/-- a name: so many first bytes are right -/
def nameTo (s : ByteArray) (k : Nat) : Bool := (s.data.toList.take k).all (fun c => nameC (c.toNat : Int))
def nameB (s : ByteArray) : Bool := decide (0 < s.size) && (decide (s.size ≤ 8) && nameTo s s.size)

theorem nameTo_zero (s : ByteArray) : nameTo s 0 = true := by simp [nameTo]
theorem nameTo_succ (s : ByteArray) (k : Nat) (h : k < s.size) : nameTo s (k + 1) = (nameTo s k && nameC ((s[k]'h).toNat : Int)) := by
  have hl : k < s.data.toList.length := by rw [Array.length_toList]; exact h
  unfold nameTo
  rw [List.take_succ_eq_append_getElem hl, List.all_append]
  have e : s.data.toList[k] = s[k]'h := by
    cases s with
    | mk d => rw [Array.getElem_toList]; rfl
  simp [e]
theorem nameTo_full (s : ByteArray) (k : Nat) (h : nameTo s k = false) (hk : k ≤ s.size) : nameB s = false := by
  have : nameTo s s.size = false := by
    unfold nameTo at h ⊢
    rw [List.all_eq_false] at h ⊢
    obtain ⟨x, hx, hc⟩ := h
    refine ⟨x, ?_, hc⟩
    rw [List.take_of_length_le (by rw [Array.length_toList]; exact Nat.le_refl _)]
    exact List.mem_of_mem_take hx
  simp [nameB, this]

theorem str_empty (s : ByteArray) : (s.toList == []) = decide (s.size = 0) := by
  rw [ByteArray.toList_eq]
  cases s with
  | mk d =>
    rw [Bool.eq_iff_iff, beq_iff_eq, decide_eq_true_eq]
    constructor
    · intro h
      have := congrArg List.length h
      exact this
    · intro h
      exact List.eq_nil_of_length_eq_zero h
theorem str_none : ByteArray.toList { data := #[] } = [] := by rw [ByteArray.toList_eq]
theorem str_none' : ByteArray.toList ByteArray.empty = [] := by rw [ByteArray.toList_eq]; rfl

/-- bytes of a name, one after the other -/
theorem name_loop (s : ByteArray) (k : Nat) (h : k < s.size) (hk : nameTo s k = true) : (nameC ((s[k]'h).toNat : Int) = true → nameTo s (k + 1) = true) ∧ (nameC ((s[k]'h).toNat : Int) = false → nameB s = false) := by
  refine ⟨fun h1 => by rw [nameTo_succ s k h, hk, h1]; rfl, fun h1 => nameTo_full s (k + 1) (by rw [nameTo_succ s k h, h1]; simp) (by omega)⟩

set_option maxRecDepth 100000 in
set_option maxHeartbeats 4000000 in
theorem name_any (w : World) (s : ByteArray) : Calls Try.prog 46 #[.string s] w fun e w' => e = .returned (.bool (nameB s)) ∧ w' = w := by
  have he := str_empty s
  have he1 := str_none
  have he2 := str_none'
  by_cases h0 : s.size = 0
  · have HR := Lib.hid (show nameB s = false by simp [nameB, h0])
    rw [h0] at he
    replace he : (s.toList == []) = true := he.trans rfl
    go_enter Try.func46, Try.ntmps46
    go_wp2
    go_ret
    exact ⟨ret_bool HR.out.symm, rfl⟩
  replace he : (s.toList == []) = false := he.trans (decide_eq_false h0)
  by_cases h8 : 8 < s.size
  · have HR := Lib.hid (show nameB s = false by simp [nameB]; omega)
    have h8' : (8 : Int) < s.size := by omega
    go_enter Try.func46, Try.ntmps46
    go_wp2
    go_ret
    exact ⟨ret_bool HR.out.symm, rfl⟩
  have h8' : ¬ (8 : Int) < s.size := by omega
  have HL := Lib.hid (fun k (h : k < s.size) (hk : nameTo s k = true) => name_loop s k h hk)
  have HF : Hid (nameTo s s.size = true → nameB s = true) := Lib.hid fun h => by simp [nameB, h]; omega
  go_enter Try.func46, Try.ntmps46
  go_wp2
  go_loopw [14] (fun i wr => ∃ k : Nat, k ≤ s.size ∧ i = .int .i64 k ∧ Hid (nameTo s k = true) ∧ wr = w) (fun i _ => s.size - (intOf i).toNat)
  case atStart => exact ⟨0, Nat.zero_le _, rfl, Lib.hid (nameTo_zero s), rfl⟩
  case round =>
    obtain ⟨k, hk, rfl, HK, rfl⟩ := hrel
    by_cases hlt : k < s.size
    · have hn := HL.out k hlt HK.out
      have hn1 := Lib.hid hn.1
      have hn2 := Lib.hid hn.2
      have hlt' : (k : Int) < s.size := by omega
      have hk8 : (k : Int) < 8 := by omega
      clear hn
      obtain ⟨c, hc⟩ : ∃ c : Int, ((s[k]'hlt).toNat : Int) = c := ⟨_, rfl⟩
      rw [hc] at hn1 hn2
      rcases (show c < 48 ∨ (48 ≤ c ∧ c ≤ 57) ∨ (57 < c ∧ c < 97) ∨ (97 ≤ c ∧ c ≤ 122) ∨ 122 < c from by omega) with h | h | h | h | h
      · have e1 : c < 97 := by omega
        have e2 : c < 48 := by omega
        have hb := hn2.out (by simp [nameC]; omega)
        have HR := Lib.hid hb
        clear hb hn1 hn2 h
        go_wp2
        go_ret
        exact ⟨ret_bool HR.out.symm, rfl⟩
      · have e1 : c < 97 := by omega
        have e2 : ¬ c < 48 := by omega
        have e3 : ¬ 57 < c := by omega
        have HK2 := Lib.hid (hn1.out (by simp [nameC]; omega))
        clear hn1 hn2 h
        go_wp2
        go_roundw
        case rel => exact ⟨k + 1, by omega, by go_num, HK2, trivial⟩
        case measure => simp [intOf]; omega
      · have e1 : c < 97 := by omega
        have e2 : ¬ c < 48 := by omega
        have e3 : 57 < c := by omega
        have hb := hn2.out (by simp [nameC]; omega)
        have HR := Lib.hid hb
        clear hb hn1 hn2 h
        go_wp2
        go_ret
        exact ⟨ret_bool HR.out.symm, rfl⟩
      · have e1 : ¬ c < 97 := by omega
        have e2 : ¬ 122 < c := by omega
        have HK2 := Lib.hid (hn1.out (by simp [nameC]; omega))
        clear hn1 hn2 h
        go_wp2
        go_roundw
        case rel => exact ⟨k + 1, by omega, by go_num, HK2, trivial⟩
        case measure => simp [intOf]; omega
      · have e1 : ¬ c < 97 := by omega
        have e2 : 122 < c := by omega
        have e3 : ¬ c < 48 := by omega
        have e4 : 57 < c := by omega
        have hb := hn2.out (by simp [nameC]; omega)
        have HR := Lib.hid hb
        clear hb hn1 hn2 h
        go_wp2
        go_ret
        exact ⟨ret_bool HR.out.symm, rfl⟩
    · obtain rfl : k = s.size := by omega
      have hf := Lib.hid (HF.out HK.out)
      go_wp2
      go_ret
      exact ⟨ret_bool hf.out.symm, rfl⟩

/-- entries, snaps in memory -/
def entK : Kind Ent where
  cells x := [.string x.nm, .int .i64 x.root, .int .i64 x.size]
  k := 3
  zero := ⟨⟨#[]⟩, 0, 0⟩
  elem := 37
  pos := by omega
  len _ := rfl
  one x v hv := by
    simp only [List.mem_cons, List.not_mem_nil, or_false] at hv
    rcases hv with rfl | rfl | rfl <;> rfl
/-- a snap as it lies there: its files are a slice -/
structure Snv where
  nm : ByteArray
  ao : Option Addr
  n : Nat
  cap : Nat
def snvK : Kind Snv where
  cells x := [.string x.nm, .slice x.ao x.n x.cap]
  k := 2
  zero := ⟨⟨#[]⟩, none, 0, 0⟩
  elem := 105
  pos := by omega
  len _ := rfl
  one x v hv := by
    simp only [List.mem_cons, List.not_mem_nil, or_false] at hv
    rcases hv with rfl | rfl <;> rfl

structure EntAt (w : World) (b o : Nat) (x : Ent) : Prop where
  nm : w.cell? ⟨b, o, none⟩ = some (.string x.nm)
  root : w.cell? ⟨b, o + 1, none⟩ = some (.int .i64 x.root)
  size : w.cell? ⟨b, o + 2, none⟩ = some (.int .i64 x.size)
theorem EntAt.lt {w : World} {b o : Nat} {x : Ent} (h : EntAt w b o x) : b < w.heap.size := World.block_lt_of_cell? _ _ h.nm
theorem EntAt.mono {w w' : World} {b o : Nat} {x : Ent} (h : EntAt w b o x) (hb : Below w.heap.size w w') : EntAt w' b o x := by
  have hc := (bcell hb).1 b
  have hl := h.lt
  exact ⟨(hc _ hl).trans h.nm, (hc _ hl).trans h.root, (hc _ hl).trans h.size⟩
def EntRow (w : World) (ao : Option Addr) (l : List Ent) : Prop := entK.Row w ao l
theorem EntRow.mono {w w' : World} {ao : Option Addr} {l : List Ent} (h : EntRow w ao l) (hb : Below w.heap.size w w') : EntRow w' ao l := Kind.Row.mono h hb
theorem ent_cells {l : List Ent} {w : World} {b o : Nat} (h : ∀ j v, (entK.all l)[j]? = some v → w.cell? ⟨b, o + j, none⟩ = some v) (i : Nat) (hi : i < l.length) : EntAt w b (o + i * 3) l[i] := by
  have key : ∀ j, j < 3 → ∀ v, (entK.cells l[i])[j]? = some v → w.cell? ⟨b, o + i * 3 + j, none⟩ = some v := by
    intro j hj v hv
    rw [Nat.add_assoc]
    exact h _ v ((entK.all_at l i hi j hj).trans hv)
  exact ⟨key 0 (by omega) _ rfl, key 1 (by omega) _ rfl, key 2 (by omega) _ rfl⟩
theorem EntRow.at {w : World} {ao : Option Addr} {l : List Ent} (h : EntRow w ao l) (i : Nat) (hi : i < l.length) : ∃ b o, ao = some ⟨b, o, none⟩ ∧ ∀ i (h : i < l.length), EntAt w b (o + i * 3) l[i] := by
  obtain ⟨b, o, h1, _, h2⟩ := Kind.Row.at h (by omega)
  exact ⟨b, o, h1, fun i hi => ent_cells h2 i hi⟩

structure SnvAt (w : World) (b o : Nat) (x : Snv) : Prop where
  nm : w.cell? ⟨b, o, none⟩ = some (.string x.nm)
  sl : w.cell? ⟨b, o + 1, none⟩ = some (.slice x.ao x.n x.cap)
theorem SnvAt.lt {w : World} {b o : Nat} {x : Snv} (h : SnvAt w b o x) : b < w.heap.size := World.block_lt_of_cell? _ _ h.nm
theorem SnvAt.mono {w w' : World} {b o : Nat} {x : Snv} (h : SnvAt w b o x) (hb : Below w.heap.size w w') : SnvAt w' b o x := by
  have hc := (bcell hb).1 b
  have hl := h.lt
  exact ⟨(hc _ hl).trans h.nm, (hc _ hl).trans h.sl⟩
theorem snv_cells {l : List Snv} {w : World} {b o : Nat} (h : ∀ j v, (snvK.all l)[j]? = some v → w.cell? ⟨b, o + j, none⟩ = some v) (i : Nat) (hi : i < l.length) : SnvAt w b (o + i * 2) l[i] := by
  have key : ∀ j, j < 2 → ∀ v, (snvK.cells l[i])[j]? = some v → w.cell? ⟨b, o + i * 2 + j, none⟩ = some v := by
    intro j hj v hv
    rw [Nat.add_assoc]
    exact h _ v ((snvK.all_at l i hi j hj).trans hv)
  exact ⟨key 0 (by omega) _ rfl, key 1 (by omega) _ rfl⟩
theorem SnvRow.at {w : World} {ao : Option Addr} {l : List Snv} (h : snvK.Row w ao l) (i : Nat) (hi : i < l.length) : ∃ b o, ao = some ⟨b, o, none⟩ ∧ ∀ i (h : i < l.length), SnvAt w b (o + i * 2) l[i] := by
  obtain ⟨b, o, h1, _, h2⟩ := Kind.Row.at h (by omega)
  exact ⟨b, o, h1, fun i hi => snv_cells h2 i hi⟩
/-- a snap's files -/
def Snv.Is (w : World) (v : Snv) (y : Snp) : Prop := v.nm = y.nm ∧ v.n = y.files.length ∧ EntRow w v.ao y.files ∧ Capd v.ao v.n v.cap
theorem Snv.Is.mono {w w' : World} {v : Snv} {y : Snp} (h : v.Is w y) (hb : Below w.heap.size w w') : v.Is w' y := ⟨h.1, h.2.1, h.2.2.1.mono hb, h.2.2.2⟩
/-- a row of snaps -/
def SnpRow (w : World) (ao : Option Addr) (l : List Snp) : Prop := ∃ vs : List Snv, vs.length = l.length ∧ snvK.Row w ao vs ∧ ∀ i (h : i < vs.length) (h' : i < l.length), vs[i].Is w l[i]
theorem SnpRow.mono {w w' : World} {ao : Option Addr} {l : List Snp} (h : SnpRow w ao l) (hb : Below w.heap.size w w') : SnpRow w' ao l := by
  obtain ⟨vs, h1, h2, h3⟩ := h
  exact ⟨vs, h1, h2.mono hb, fun i a b => (h3 i a b).mono hb⟩

end Go.Proofs.Ytfmgdjgedhnmeaa
