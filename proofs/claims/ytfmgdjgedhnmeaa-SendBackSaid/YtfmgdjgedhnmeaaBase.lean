/- Readings of slices and stores; carried over new memory. No program in sight. -/
import Derived.WalkKit
import Derived.WalkLawsBesides
import Derived.WalkSpells
import Derived.BigQuiet
import Derived.Outline
import Derived.Lib.Hide
import Derived.Deep.OwnRows
import Derived.Laws.AppendOwnNone
import Derived.Laws.BytesArg
import Derived.Lib.Bytes
namespace Go.Proofs.Ytfmgdjgedhnmeaa
open Go.RowKit
set_option linter.unusedVariables false

/-- the integers xs lie from the address on -/
def Row (k : IntKind) (w : World) (ao : Option Addr) (xs : List Int) : Prop :=
  xs = [] ∨ ∃ b o, ao = some ⟨b, o, none⟩ ∧ ∀ i (h : i < xs.length), w.cell? ⟨b, o + i, none⟩ = some (.int k xs[i])

/-- bytes -/
def Byt (xs : List Int) : Prop := ∀ x ∈ xs, 0 ≤ x ∧ x ≤ 255

theorem Byt.at {xs : List Int} (h : Byt xs) (i : Nat) (hi : i < xs.length) : 0 ≤ xs[i] ∧ xs[i] ≤ 255 := h _ (List.getElem_mem hi)

theorem Row.at {k : IntKind} {w : World} {ao : Option Addr} {xs : List Int} (h : Row k w ao xs) (i : Nat) (hi : i < xs.length) :
    ∃ b o, ao = some ⟨b, o, none⟩ ∧ ∀ j (h : j < xs.length), w.cell? ⟨b, o + j, none⟩ = some (.int k xs[j]) := by
  rcases h with rfl | h
  · simp at hi
  · exact h

theorem Row.mono {k : IntKind} {w w' : World} {ao : Option Addr} {xs : List Int} (h : Row k w ao xs) (hb : Below w.heap.size w w') : Row k w' ao xs := by
  rcases h with rfl | ⟨b, o, rfl, h⟩
  · exact .inl rfl
  · refine .inr ⟨b, o, rfl, fun i hi => ?_⟩
    have hc := h i hi
    have hlt := World.block_lt_of_cell? _ _ hc
    rw [hb.cell (p := ⟨b, o + i, none⟩) hlt]
    exact hc

theorem below_step {a b c : World} (h : Below a.heap.size a b) (k : Below b.heap.size b c) : Below a.heap.size a c := h.trans (k.mono h.size)

theorem bcell {W w1 : World} (hb : Below W.heap.size W w1) : (∀ b o, b < W.heap.size → w1.cell? ⟨b, o, none⟩ = W.cell? ⟨b, o, none⟩) ∧ (∀ b o, b < W.heap.size → w1.frozen? ⟨b, o, none⟩ = W.frozen? ⟨b, o, none⟩) :=
  ⟨fun b o h => hb.cell (p := ⟨b, o, none⟩) h, fun b o h => hb.frozen (p := ⟨b, o, none⟩) h⟩

/-- a block of cells that may be written: its cell, that it isn't frozen -/
theorem cell_of_block {w : World} {g : Nat} {cs : Array Value} {t : TypeId} (h : w.heap[g]? = some (.cells cs t (0, 0))) (j : Nat) : w.cell? ⟨g, j, none⟩ = cs[j]? := cell_of_row w g j cs t (0, 0) h

theorem free_of_block {w : World} {g : Nat} {cs : Array Value} {t : TypeId} (h : w.heap[g]? = some (.cells cs t (0, 0))) (j : Nat) : w.frozen? ⟨g, j, none⟩ = false := by simp [World.frozen?, h]

/-- the integers as cells -/
def icells (k : IntKind) (xs : List Int) : Array Value := (xs.map (Value.int k)).toArray

theorem icells_at (k : IntKind) (xs : List Int) (i : Nat) (h : i < xs.length) : (icells k xs)[i]? = some (.int k xs[i]) := by simp [icells, h]

theorem icells_size (k : IntKind) (xs : List Int) : (icells k xs).size = xs.length := by simp [icells]

theorem icells_set (k : IntKind) (xs : List Int) (i : Nat) (x : Int) : (icells k xs).setIfInBounds i (.int k x) = icells k (xs.set i x) := by
  simp [icells, List.map_set]

theorem row_of_block {w : World} {g : Nat} {k : IntKind} {t : TypeId} {xs : List Int} (h : w.heap[g]? = some (.cells (icells k xs) t (0, 0))) : Row k w (some ⟨g, 0, none⟩) xs :=
  .inr ⟨g, 0, rfl, fun i hi => by rw [Nat.zero_add, cell_of_block h, icells_at k xs i hi]⟩

theorem lt_heap {w : World} {g : Nat} {o : Obj} (h : w.heap[g]? = some o) : g < w.heap.size := (Array.getElem?_eq_some_iff.1 h).1

theorem heap_setCell_same' {w : World} {g : Nat} {cs : Array Value} {t : TypeId} (h : w.heap[g]? = some (.cells cs t (0, 0))) (i : Nat) (v : Value) :
    (w.setCell ⟨g, i, none⟩ v).heap[g]? = some (.cells (cs.setIfInBounds i v) t (0, 0)) := heap_setCell_same w g i cs t v h

theorem heap_setCell_ne {w : World} {g : Nat} {a : Addr} {v : Value} {o : Obj} (h : w.heap[g]? = some o) (hn : g ≠ a.block) : (w.setCell a v).heap[g]? = some o := by
  rw [heap_setCell_other w a g v hn]; exact h

theorem icell_ex {w : World} {g : Nat} {k : IntKind} {t : TypeId} {xs : List Int} (h : w.heap[g]? = some (.cells (icells k xs) t (0, 0))) (i : Nat) (hi : i < xs.length) :
    ∃ y, w.cell? ⟨g, i, none⟩ = some (.int k y) := ⟨xs[i], by rw [cell_of_block h, icells_at k xs i hi]⟩

def zeros (n : Nat) : List Int := List.replicate n 0
theorem madeCells_ints (k : IntKind) (n : Nat) : madeCells #[.int k 0] n = icells k (zeros n) := by
  rw [← Array.toList_inj, toList_madeCells_one]
  simp [icells, zeros]

/-- make([]T, n) of integers -/
theorem make_ints {P : Program} (k : IntKind) (t e bytes : Nat) (ht : P.underlying t = some (.slice e)) (hinfo : (P.info? e).map (fun i => (i.zero, i.size, i.bytes)) = some (some (.int k 0), 1, bytes))
    (n : Nat) (hbytes : bytes * n ≤ 281474976710656) (h63 : n ≤ 9223372036854775807) (w : World) :
    (Instr.makeSlice t (.int .i64 (n : Int)) (.int .i64 (n : Int))).run P w = .ok (.slice (some ⟨w.heap.size, 0, none⟩) n n) (w.alloc (.cells (icells k (zeros n)) e)) := by
  rw [← madeCells_ints]
  exact run_make_row' t e (.int k 0) bytes ht hinfo rfl .i64 .i64 n hbytes h63 w

/-- a slice of integers of the call's own, in blocks from 'base' on -/
def Own (k : IntKind) (e base : Nat) (w : World) (v : Value) (xs : List Int) : Prop := w.ownsRow base e 1 v xs.length (xs.map (Value.int k))

theorem Own.nil (k : IntKind) (e base : Nat) (w : World) : Own k e base w (.slice none 0 0) [] := World.ownsRow_nil _ _ _ _

theorem Own.empty (k : IntKind) (e : Nat) (w : World) : Own k e w.heap.size (w.alloc (.cells #[] e)) (.slice (some ⟨w.heap.size, 0, none⟩) 0 0) [] :=
  World.ownsRow_lit (base := w.heap.size) (e := e) (size := 1) w #[] 0 (Nat.le_refl _) (Nat.zero_le _) rfl

theorem Own.mono {k : IntKind} {e base : Nat} {w w' : World} {v : Value} {xs : List Int} (h : Own k e base w v xs) (hb : Below w.heap.size w w') : Own k e base w' v xs := by
  obtain ⟨h1, h2⟩ := h
  refine ⟨h1, ?_⟩
  rcases h2 with h2 | ⟨g, cap, cur, hv, hg, hh, r⟩
  · exact .inl h2
  · exact .inr ⟨g, cap, cur, hv, hg, by rw [hb.block g (lt_heap hh)]; exact hh, r⟩

theorem Own.block {k : IntKind} {e base : Nat} {w : World} {v : Value} {xs : List Int} (h : Own k e base w v xs) :
    (v = .slice none 0 0 ∧ xs = []) ∨ ∃ g cap cur, v = .slice (some ⟨g, 0, none⟩) xs.length cap ∧ base ≤ g ∧ w.heap[g]? = some (.cells cur e (0, 0)) ∧ xs.length ≤ cap ∧ cap ≤ maxLen ∧ cur.size = cap ∧
      cur.toList.take xs.length = xs.map (Value.int k) := by
  obtain ⟨h1, h2⟩ := h
  rcases h2 with ⟨h2, h3⟩ | ⟨g, cap, cur, hv, hg, hh, hn, hc, hs, ht⟩
  · exact .inl ⟨h2, List.eq_nil_of_length_eq_zero h3⟩
  · exact .inr ⟨g, cap, cur, hv, hg, hh, hn, hc, by simpa using hs, by simpa using ht⟩

theorem Own.cell {k : IntKind} {e base : Nat} {w : World} {g cap n : Nat} {xs : List Int} (h : Own k e base w (.slice (some ⟨g, 0, none⟩) n cap) xs) (i : Nat) (hi : i < xs.length) :
    w.cell? ⟨g, i, none⟩ = some (.int k xs[i]) := by
  rcases h.block with ⟨h1, _⟩ | ⟨g', cap', cur, hv, hg, hh, hn, hc, hs, ht⟩
  · cases h1
  · simp only [Value.slice.injEq, Option.some.injEq, Addr.mk.injEq] at hv
    obtain ⟨⟨rfl, _⟩, _, _⟩ := hv
    rw [cell_of_block hh]
    have e1 : (cur.toList.take xs.length)[i]? = (xs.map (Value.int k))[i]? := by rw [ht]
    rw [List.getElem?_take, if_pos hi] at e1
    simp [hi] at e1
    simpa using e1

/-- an element is read, and may be written -/
theorem Own.at {k : IntKind} {e base : Nat} {w : World} {v : Value} {xs : List Int} (h : Own k e base w v xs) (i : Nat) (hi : i < xs.length) :
    ∃ g cap, v = .slice (some ⟨g, 0, none⟩) xs.length cap ∧ base ≤ g ∧ w.cell? ⟨g, i, none⟩ = some (.int k xs[i]) ∧ w.frozen? ⟨g, i, none⟩ = false ∧ g < w.heap.size := by
  rcases h.block with ⟨rfl, rfl⟩ | ⟨g, cap, cur, rfl, hg, hh, hn, hc, hs, ht⟩
  · simp at hi
  · exact ⟨g, cap, rfl, hg, h.cell i hi, free_of_block hh i, lt_heap hh⟩

theorem Own.set {k : IntKind} {e base : Nat} {w : World} {g n cap : Nat} {xs : List Int} (h : Own k e base w (.slice (some ⟨g, 0, none⟩) n cap) xs) (i : Nat) (y : Int) :
    Own k e base (w.setCell ⟨g, i, none⟩ (.int k y)) (.slice (some ⟨g, 0, none⟩) n cap) (xs.set i y) := by
  have hn : n = xs.length := by
    rcases h.block with ⟨h1, _⟩ | ⟨_, _, _, hv, _⟩
    · cases h1
    · simp only [Value.slice.injEq] at hv; exact hv.2.1
  subst hn
  have := (World.ownsRow.stored h i (.int k y)).1
  unfold Own
  rw [List.length_set, List.map_set]
  exact this

/-- append(xs, y) onto a slice of the call's own -/
theorem append_int {P : Program} {w : World} {ops : Array Oper} {rest : List Oper} {o : Oper} {a : Act} {Q : Exit → Act → World → Prop} (hgd : o.guard = none) (s x : Operand) (t : TypeId)
    (ho : o.op = .call { callee := .builtin .append, args := #[s, x], argTypes := #[t, t] })
    (k : IntKind) (e bytes base : Nat) (ht : P.underlying t = some (.slice e)) (hinfo : (P.info? e).map (fun i => (i.zero, i.size, i.bytes)) = some (some (.int k 0), 1, bytes))
    (v : Value) (xs : List Int) (y : Int) (hs : a.eval s = v) (hown : Own k e base w v xs) (g : Nat) (hx : a.eval x = .slice (some ⟨g, 0, none⟩) 1 1) (hg : g = w.heap.size)
    (h63 : xs.length + 1 ≤ maxLen) (hbytes : (xs.length + 1) * bytes ≤ 140737488355328) (hbase : base ≤ w.heap.size)
    (h : ∀ v' w', Own k e base w' v' (xs ++ [y]) → Below base w w' → wpList P ops Q rest (a.put o.dst v') w') :
    wpList P ops Q (o :: rest) a (w.alloc (.cells #[.int k y] e)) := by
  subst hg
  obtain ⟨i0, hi, hz0, hz1, hz2⟩ := info_parts hinfo
  refine wpList_append_own _ hgd s x t ho base e i0 (.int k 0) 1 bytes ht hi hz0 hz1 hz2 rfl (by decide) v _ _ hs (World.ownsRow.alloc hown _) ⟨w.heap.size, 0, none⟩ 1 1 [.int k y] hx rfl ?_ ?_ h63 hbytes (by simp; omega) ?_
  · intro j u hj
    match j, hj with
    | 0, hj => simp at hj; subst hj; simp [Addr.add]
  · intro u hu; simp at hu; subst hu; rfl
  · intro v' w' hown' hg _
    refine h v' w' (by unfold Own; simpa using hown') ?_
    have h1 : Below base w (w.alloc (.cells #[.int k y] e)) := (Below.refl _ _).alloc hbase _
    refine h1.grown hg (by simp; omega) fun j hj => ?_
    exact (World.ownsRow.lt hown j hj).1

/-- append(v, s...) onto a slice of the call's own, s whatever -/
theorem append_ints {P : Program} {w : World} {ops : Array Oper} {rest : List Oper} {o : Oper} {a : Act} {Q : Exit → Act → World → Prop} (hgd : o.guard = none) (s x : Operand) (t : TypeId)
    (ho : o.op = .call { callee := .builtin .append, args := #[s, x], argTypes := #[t, t] })
    (k : IntKind) (e bytes base : Nat) (ht : P.underlying t = some (.slice e)) (hinfo : (P.info? e).map (fun i => (i.zero, i.size, i.bytes)) = some (some (.int k 0), 1, bytes))
    (v : Value) (xs ys : List Int) (ao : Option Addr) (c : Nat) (hs : a.eval s = v) (hown : Own k e base w v xs) (hx : a.eval x = .slice ao ys.length c) (hrow : Row k w ao ys) (hc0 : ao = none → c = 0)
    (h63 : xs.length + ys.length ≤ maxLen) (hbytes : (xs.length + ys.length) * bytes ≤ 140737488355328) (hbase : base ≤ w.heap.size)
    (h : ∀ v' w', Own k e base w' v' (xs ++ ys) → Below base w w' → (v' = .slice none 0 0 → v = .slice none 0 0) → wpList P ops Q rest (a.put o.dst v') w') :
    wpList P ops Q (o :: rest) a w := by
  obtain ⟨i0, hi, hz0, hz1, hz2⟩ := info_parts hinfo
  cases ao with
  | none =>
    have hy : ys = [] := by
      rcases hrow with h | ⟨_, _, h, _⟩
      · exact h
      · cases h
    subst hy
    obtain rfl := hc0 rfl
    refine wpList_plain hgd fun K hK' => ?_
    have hrun := run_append_owned_none (P := P) w base t o.type e i0 1 ht hi _ _ _ hown
    unfold Oper.wp
    simp only [List.length_nil] at hx
    simp [execOp, ho, resolve, invoke, builtin, hs, hx, hrun, Result.andThen]
    exact hK' _ _ (by simpa using h v w (by simpa using hown) (Below.refl _ _) (fun h => h))
  | some ad =>
    refine wpList_append_own _ hgd s x t ho base e i0 (.int k 0) 1 bytes ht hi hz0 hz1 hz2 rfl (by decide) v _ _ hs hown ad ys.length c (ys.map (Value.int k)) hx (by simp) ?_ (ints_oneCell k ys) h63 hbytes hbase ?_
    · intro j u hj
      have hlt : j < ys.length := by simpa using (List.getElem?_eq_some_iff.1 hj).1
      obtain ⟨b, o, hao, hc⟩ := hrow.at j hlt
      obtain rfl := Option.some.inj hao
      have e1 : (⟨b, o, none⟩ : Addr).add j = ⟨b, o + j, none⟩ := by unfold Addr.add; split <;> simp_all
      rw [e1, hc j hlt]
      simpa [hlt] using hj
    · intro v' w' hown' hg hv
      refine h v' w' (by unfold Own; simpa using hown') ?_ (fun h => ((hv.1 h).1))
      exact (Below.refl _ _).grown hg hbase fun j hj => (World.ownsRow.lt hown j hj).1

/-- an own slice, where something is in it or it isn't nil -/
theorem Own.shape' {k : IntKind} {e base : Nat} {w : World} {v : Value} {xs : List Int} (h : Own k e base w v xs) :
    ∃ ao cap, v = .slice ao xs.length cap ∧ xs.length ≤ cap ∧ cap ≤ maxLen ∧ Row k w ao xs ∧ (ao = none → cap = 0) := by
  rcases h.block with ⟨rfl, rfl⟩ | ⟨g, cap, cur, rfl, hg, hh, hn, hc, hs, ht⟩
  · exact ⟨none, 0, rfl, Nat.le_refl _, Nat.zero_le _, .inl rfl, fun _ => rfl⟩
  · exact ⟨_, cap, rfl, hn, hc, .inr ⟨g, 0, rfl, fun i hi => by rw [Nat.zero_add]; exact h.cell i hi⟩, fun h => by cases h⟩

theorem strOfNums_eq (xs ys : List Int) (hx : Byt xs) (hy : Byt ys) : ((strOfNums xs).toList == (strOfNums ys).toList) = (xs == ys) := by
  have key : ∀ (xs ys : List Int), Byt xs → Byt ys → xs.map (fun n => UInt8.ofNat n.toNat) = ys.map (fun n => UInt8.ofNat n.toNat) → xs = ys := by
    intro xs
    induction xs with
    | nil => intro ys _ _ h; cases ys with
      | nil => rfl
      | cons y ys => simp at h
    | cons x xs ih => intro ys hx hy h; cases ys with
      | nil => simp at h
      | cons y ys =>
        simp only [List.map_cons, List.cons.injEq] at h
        have hx0 := hx x (by simp)
        have hy0 := hy y (by simp)
        have h1 : x.toNat % 256 = y.toNat % 256 := by
          have := congrArg UInt8.toNat h.1
          simpa using this
        rw [ih ys (fun a ha => hx a (by simp [ha])) (fun a ha => hy a (by simp [ha])) h.2, show x = y from by omega]
  rw [Bool.eq_iff_iff]
  simp only [beq_iff_eq]
  constructor
  · intro h
    refine key xs ys hx hy ?_
    rw [Lib.strOfNums_toList, Lib.strOfNums_toList] at h
    exact h
  · rintro rfl; rfl

theorem row_open {k : IntKind} {w : World} {x : Addr} {zs : List Int} {len : Nat} (hc : ∀ i, i < zs.length → w.cell? (x.add i) = some (.int k (zs.getD i 0))) : Row k w (some x) (zs.take len) := by
  rcases Nat.eq_zero_or_pos (zs.take len).length with h | h
  · exact .inl (List.eq_nil_of_length_eq_zero h)
  · have h0 : 0 < zs.length := by simp at h; omega
    obtain ⟨b, o, s⟩ := x
    have hs : s = none := by
      have h := hc 0 h0
      unfold World.cell? Addr.add at h
      simp only [if_true] at h
      split at h
      · split at h
        · cases h
        · rename_i hn; simpa using hn
      · cases h
    subst hs
    refine .inr ⟨b, o, rfl, fun i hi => ?_⟩
    have hi' : i < zs.length := by simp at hi; omega
    have e1 : (⟨b, o, none⟩ : Addr).add i = ⟨b, o + i, none⟩ := by unfold Addr.add; split <;> simp_all
    rw [← e1, hc i hi']
    simp [hi']

theorem ret_int {k : IntKind} {a b : Int} (h : a = b) : Ending.returned (.int k a) = .returned (.int k b) := by rw [h]
theorem ret_bool {a b : Bool} (h : a = b) : Ending.returned (.bool a) = .returned (.bool b) := by rw [h]

end Go.Proofs.Ytfmgdjgedhnmeaa
