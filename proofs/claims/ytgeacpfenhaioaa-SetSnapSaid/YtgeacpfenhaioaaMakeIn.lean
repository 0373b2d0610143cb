/- A queue of the call's own: a slice that is cut ahead and grows behind. No program in sight. · rookeryref.MakeIn: a block is made in a store of one's own. -/
import Derived.Test.YtgeacpfenhaioaaPut
import Derived.Deep.AppendSrc
import Derived.Deep.LoopGhost
import Derived.Test.YtgeacpfenhaioaaLoose
import Derived.Test.YtgeacpfenhaioaaFormOf
namespace Go.Proofs.Ytgeacpfenhaioaa
open Go.RowKit
set_option linter.unusedVariables false

def Que (w : World) (base : Nat) (v : Value) (xs : List Int) : Prop :=
  ∃ g o cap, v = .slice (some ⟨g, o, none⟩) xs.length cap ∧ base ≤ g ∧ g < w.heap.size ∧ xs.length ≤ cap ∧ cap ≤ maxLen ∧
    (∀ j, j < cap → (w.cell? ⟨g, o + j, none⟩).isSome = true ∧ w.frozen? ⟨g, o + j, none⟩ = false) ∧ ∀ i (h : i < xs.length), w.cell? ⟨g, o + i, none⟩ = some (.int .i64 xs[i])

theorem Que.mono {w w' : World} {base : Nat} {v : Value} {xs : List Int} (h : Que w base v xs) (hb : Below w.heap.size w w') : Que w' base v xs := by
  obtain ⟨g, o, cap, h1, h2, h3, h4, h5, h6, h7⟩ := h
  obtain ⟨b1, b2⟩ := bcell hb
  exact ⟨g, o, cap, h1, h2, Nat.lt_of_lt_of_le h3 hb.size, h4, h5, fun j hj => by rw [b1 _ _ h3, b2 _ _ h3]; exact h6 j hj, fun i hi => (b1 _ _ h3).trans (h7 i hi)⟩

/-- a cell of another block is written -/
theorem Que.setCell {w : World} {base : Nat} {v : Value} {xs : List Int} (h : Que w base v xs) (p : Addr) (hp : p.block < base) (u : Value) : Que (w.setCell p u) base v xs := by
  obtain ⟨g, o, cap, h1, h2, h3, h4, h5, h6, h7⟩ := h
  have hb : (w.setCell p u).heap[g]? = w.heap[g]? := Below.heap_setCell _ _ _ _ (by omega)
  refine ⟨g, o, cap, h1, h2, by simpa using h3, h4, h5, fun j hj => ?_, fun i hi => ?_⟩
  · rw [World.cell?_of_block (a := ⟨g, o + j, none⟩) hb, World.frozen?_of_block (a := ⟨g, o + j, none⟩) hb]; exact h6 j hj
  · rw [World.cell?_of_block (a := ⟨g, o + i, none⟩) hb]; exact h7 i hi

theorem Que.one {w : World} {base : Nat} {x : Int} {t : TypeId} (hb : base ≤ w.heap.size) : Que (w.alloc (.cells #[.int .i64 x] t)) base (.slice (some ⟨w.heap.size, 0, none⟩) 1 1) [x] := by
  refine ⟨w.heap.size, 0, 1, rfl, hb, by simp, Nat.le_refl _, by unfold maxLen; omega, fun j hj => ?_, fun i hi => ?_⟩
  · obtain rfl : j = 0 := by omega
    simp
  · obtain rfl : i = 0 := by simpa using hi
    simp

/-- the first one is taken -/
theorem Que.tail {w : World} {base g o cap : Nat} {k : Int} {q : List Int} (h : Que w base (.slice (some ⟨g, o, none⟩) (q.length + 1) cap) (k :: q)) :
    base ≤ g ∧ g < w.heap.size ∧ 1 ≤ cap ∧ q.length + 1 ≤ cap ∧ cap ≤ maxLen ∧ w.cell? ⟨g, o, none⟩ = some (.int .i64 k) ∧ Que w base (.slice (some ⟨g, o + 1, none⟩) q.length (cap - 1)) q ∧ (cap = 1 → Que w base (.slice (some ⟨g, o, none⟩) 0 0) q ∧ q = []) := by
  obtain ⟨g', o', cap', h1, h2, h3, h4, h5, h6, h7⟩ := h
  simp only [Value.slice.injEq, Option.some.injEq, Addr.mk.injEq, List.length_cons] at h1
  obtain ⟨⟨rfl, rfl, _⟩, _, rfl⟩ := h1
  simp only [List.length_cons] at h4 h7
  refine ⟨h2, h3, by omega, h4, h5, by simpa using h7 0 (by omega), ⟨g, o + 1, cap - 1, rfl, h2, h3, by omega, by omega, fun j hj => ?_, fun i hi => ?_⟩, fun hc => ?_⟩
  · have := h6 (1 + j) (by omega)
    rw [← Nat.add_assoc] at this
    exact this
  · have := h7 (i + 1) (by omega)
    simp only [List.getElem_cons_succ] at this
    rw [show o + 1 + i = o + (i + 1) from by omega]
    exact this
  · have hq : q = [] := List.eq_nil_of_length_eq_zero (by omega)
    subst hq
    exact ⟨⟨g, o, 0, rfl, h2, h3, Nat.le_refl _, Nat.zero_le _, fun j hj => by omega, fun i hi => by simp at hi⟩, rfl⟩

theorem below_setBoth {a b : World} (h : Below a.heap.size a b) (p : Addr) (v : Value) (hp : p.block < a.heap.size) : Below (a.setCell p v).heap.size (a.setCell p v) (b.setCell p v) := by
  refine ⟨h.os, h.tape, h.output, by simpa using h.size, fun k hk => ?_⟩
  have hk' : k < a.heap.size := by simpa using hk
  have hb := h.block k hk'
  obtain ⟨pb, po, ps⟩ := p
  cases ps <;> simp only [World.setCell, Array.getElem?_modify, hb]

theorem src_row {P : Program} {tx e' : TypeId} (hk : P.underlying tx = some (.slice e')) {w : World} {ao : Option Addr} {ys : List Int} (c : Nat) (hrow : Row .i64 w ao ys) : Src P 1 tx (.slice ao ys.length c) ys.length (ys.map (Value.int .i64)) w := by
  cases ao with
  | none =>
    have hy : ys = [] := by
      rcases hrow with h | ⟨_, _, h, _⟩
      · exact h
      · cases h
    subst hy
    exact Src.ofNil w hk c
  | some ad =>
    refine Src.ofSlice w hk ad ys.length c _ (by simp) ?_ ?_
    · intro j u hj
      have hlt : j < ys.length := by simpa using (List.getElem?_eq_some_iff.1 hj).1
      obtain ⟨b, o, hao, hc⟩ := hrow.at j hlt
      obtain rfl := Option.some.inj hao
      have e1 : (⟨b, o, none⟩ : Addr).add j = ⟨b, o + j, none⟩ := by unfold Addr.add; split <;> simp_all
      rw [e1, hc j hlt]
      simpa [hlt] using hj
    · intro u hu
      obtain ⟨x, _, rfl⟩ := List.mem_map.1 hu
      rfl

theorem grown_setCells {w : World} {g : Nat} (vs : List Value) : ∀ (o : Nat) (w0 : World), w.grownBy w0 (some g) → w.grownBy (w0.setCells g o vs) (some g) := by
  induction vs with
  | nil => intro o w0 h; exact h
  | cons v vs ih =>
    intro o w0 h
    exact ih (o + 1) _ ⟨h.os, h.tape, h.output, by simpa using h.size, fun k hk hne => by
      rw [Below.heap_setCell _ _ _ _ (by intro e; apply hne; rw [e])]; exact h.block k hk hne⟩

theorem isSome_setCells' (b : Nat) : ∀ (vs : List Value) (o : Nat) (w : World) (x : Addr), (w.cell? x).isSome = true → ((w.setCells b o vs).cell? x).isSome = true
  | [], _, _, _, h => h
  | v :: r, o, w, x, h => by
    rw [World.setCells]
    refine isSome_setCells' b r (o + 1) _ x ?_
    obtain ⟨u, hu⟩ := Option.isSome_iff_exists.1 h
    by_cases e : (⟨b, o, none⟩ : Addr) = x
    · subst e; rw [World.cell?_setCell_same _ _ _ hu]; rfl
    · rw [World.cell?_setCell_other _ _ _ _ e, hu]; rfl

/-- append(q, s...) onto a queue of the call's own -/
theorem append_que {P : Program} {w : World} {ops : Array Oper} {rest : List Oper} {o : Oper} {a : Act} {Q : Exit → Act → World → Prop} (hgd : o.guard = none) (s x : Operand) (t : TypeId)
    (ho : o.op = .call { callee := .builtin .append, args := #[s, x], argTypes := #[t, t] })
    (e base : Nat) (ht : P.underlying t = some (.slice e)) (hinfo : (P.info? e).map (fun i => (i.zero, i.size, i.bytes)) = some (some (.int .i64 0), 1, 8))
    (v : Value) (xs ys : List Int) (ao : Option Addr) (c : Nat) (hs : a.eval s = v) (hown : Que w base v xs) (hx : a.eval x = .slice ao ys.length c) (hrow : Row .i64 w ao ys)
    (h63 : xs.length + ys.length ≤ maxLen) (hbytes : (xs.length + ys.length) * 8 ≤ 140737488355328) (hbase : base ≤ w.heap.size)
    (h : ∀ v' w', Que w' base v' (xs ++ ys) → Below base w w' → wpList P ops Q rest (a.put o.dst v') w') :
    wpList P ops Q (o :: rest) a w := by
  obtain ⟨i0, hi, hz0, hz1, hz2⟩ := info_parts hinfo
  obtain ⟨g, qo, cap, hv, h2, h3, h4, h5, h6, h7⟩ := hown
  have hsrc := src_row (P := P) ht c hrow
  rw [← hz1] at hsrc
  have key : ∃ v' w', (Builtin.append_ #[t, t] o.type #[v, .slice ao ys.length c]).run P w = .ok v' w' ∧ Que w' base v' (xs ++ ys) ∧ Below base w w' := by
    subst hv
    by_cases hroom : xs.length + ys.length ≤ cap
    · have hr := run_append_room_src (P := P) w t t o.type e i0 ht hi g qo xs.length cap (.slice ao ys.length c) ys.length _ hsrc hroom
        (fun j hj => by rw [hz1, Nat.mul_one, Nat.add_assoc]; exact (h6 _ (by simp at hj; omega)).1) (fun j hj => by rw [hz1, Nat.mul_one, Nat.add_assoc]; exact (h6 _ (by simp at hj; omega)).2)
      rw [hz1, Nat.mul_one] at hr
      have hgr : w.grownBy (w.setCells g (qo + xs.length) (ys.map (Value.int .i64))) (some g) := grown_setCells _ _ _ (grown_of_below (Below.refl _ _) _)
      refine ⟨_, _, hr, ⟨g, qo, cap, by rw [List.length_append], h2, Nat.lt_of_lt_of_le h3 hgr.size, by rw [List.length_append]; exact hroom, h5, fun j hj => ?_, fun i hi' => ?_⟩, grown_below hgr h2 hbase⟩
      · rw [World.frozen?_setCells]
        exact ⟨isSome_setCells' _ _ _ _ _ (h6 j hj).1, (h6 j hj).2⟩
      · rw [List.length_append] at hi'
        by_cases hlt : i < xs.length
        · rw [World.cell?_setCells_out g _ _ _ _ (fun _ _ => .inl (by simp; omega)), List.getElem_append_left hlt]
          exact h7 i hlt
        · have := World.cell?_setCells_in g (ys.map (Value.int .i64)) (qo + xs.length) w (fun j hj => by rw [Nat.add_assoc]; exact (h6 _ (by simp at hj; omega)).1) (i - xs.length) (by simp; omega)
          rw [show qo + xs.length + (i - xs.length) = qo + i from by omega] at this
          rw [this, List.getElem_append_right (by omega)]
          simp
    · have hold : (Builtin.firstCells i0.size xs.length (.slice (some ⟨g, qo, none⟩) xs.length cap)).run P w.drew = .ok (xs.map (Value.int .i64)).toArray w.drew := by
        rw [hz1]
        refine run_firstCells_some w.drew 1 xs.length ⟨g, qo, none⟩ xs.length cap _ (by simp) fun j u hj => ?_
        have hlt : j < xs.length := by simpa using (List.getElem?_eq_some_iff.1 hj).1
        have e1 : (⟨g, qo, none⟩ : Addr).add j = ⟨g, qo + j, none⟩ := by unfold Addr.add; split <;> simp_all
        rw [e1]
        show w.cell? _ = _
        rw [h7 j hlt]
        simpa [hlt] using hj
      have hr := run_append_grow_src (P := P) w t t o.type e i0 _ ht hi hz0 (some ⟨g, qo, none⟩) xs.length cap _ hold (.slice ao ys.length c) ys.length _ hsrc (by omega) (by unfold maxLen at h63; omega) (growslice_fits (by omega) (by rw [hz2]; exact hbytes))
      have hge := grownCap_ge w (xs.length + ys.length) cap e
      have hcm : grownCap w (xs.length + ys.length) cap e ≤ maxLen := grownCap_le_maxLen w (xs.length + ys.length) cap e h63
      generalize grownCap w (xs.length + ys.length) cap e = gc at *
      refine ⟨_, _, hr, ⟨w.heap.size, 0, gc, by rw [List.length_append], hbase, by simp, by rw [List.length_append]; exact hge, hcm, fun j hj => ?_, fun i hi' => ?_⟩, ((Below.refl _ _).drew).alloc (by simpa using hbase) _⟩
      · rw [Nat.zero_add]
        have hh : (w.drew.alloc (.cells ((xs.map (Value.int .i64) ++ ys.map (Value.int .i64)).toArray ++ Builtin.zeroCells (Value.cells (.int .i64 0)) (gc - (xs.length + ys.length))) e)).heap[w.heap.size]? = some (.cells _ e (0, 0)) := heap_alloc_new w.drew _
        rw [cell_of_block hh, free_of_block hh]
        refine ⟨?_, rfl⟩
        rw [Array.getElem?_eq_getElem (by rw [Array.size_append, size_zeroCells]; simp [Value.cells]; omega)]
        rfl
      · rw [List.length_append] at hi'
        rw [Nat.zero_add]
        have hh : (w.drew.alloc (.cells ((xs.map (Value.int .i64) ++ ys.map (Value.int .i64)).toArray ++ Builtin.zeroCells (Value.cells (.int .i64 0)) (gc - (xs.length + ys.length))) e)).heap[w.heap.size]? = some (.cells _ e (0, 0)) := heap_alloc_new w.drew _
        have hlt : i < (xs ++ ys).length := by rw [List.length_append]; exact hi'
        rw [cell_of_block hh, ← List.map_append, Array.getElem?_append_left (by simp; omega), List.getElem?_toArray, List.getElem?_map, List.getElem?_eq_getElem hlt]
        rfl
  obtain ⟨v', w', hrun, hq, hb⟩ := key
  refine wpList_plain hgd fun K hK' => ?_
  unfold Oper.wp
  simp [execOp, ho, resolve, invoke, builtin, hs, hx, hrun, Result.andThen]
  exact hK' _ _ (h v' w' hq hb)
end Go.Proofs.Ytgeacpfenhaioaa

namespace Go.Proofs.Ytgeacpfenhaioaa
open Go.RowKit
set_option linter.unusedVariables false

/-- the kids are held once more first, or last -/
theorem bump_set (s : List Blk) (i : Nat) (x : Blk) (ks : List Int) (h : ∀ k ∈ ks, 0 < k → (k - 1).toNat ≠ i) : bump (s.set i x) ks = (bump s ks).set i x := by
  have one : ∀ (s : List Blk) (a : Int), (a - 1).toNat ≠ i → addRef (s.set i x) a 1 = (addRef s a 1).set i x := by
    intro s a ha
    unfold addRef
    have e1 : blk (s.set i x) a = blk s a := by rw [blk_set, if_neg (fun e => ha e.1.symm)]
    rw [e1, List.set_comm _ _ (fun e => ha e.symm)]
  induction ks generalizing s with
  | nil => rfl
  | cons a ks ih =>
    simp only [bump, List.foldl_cons]
    have h1 := ih (if 0 < a then addRef s a 1 else s) fun k hk => h k (List.mem_cons_of_mem _ hk)
    simp only [bump] at h1
    rw [← h1]
    congr 1
    split
    · rename_i ha
      exact one s a (h a (List.mem_cons_self ..) ha)
    · rfl

theorem put_kids_ne (s : List Blk) (l : Int) (ks bs : List Int) (h : formE s 1 l ks bs = 0) (hf : freeIx s < s.length) : ∀ k ∈ ks, 0 < k → (k - 1).toNat ≠ freeIx s := by
  intro k hk h0 e
  rcases (form_kids s l ks bs h).2.2 k hk with h1 | ⟨h1, h2, h3⟩
  · omega
  · obtain ⟨j, hj, rfl, hr⟩ := there_in h3
    rw [List.getElem?_eq_getElem hj] at hr
    have e2 : freeIx s = j := by omega
    have := freeIx_refs s hf
    simp only [e2] at this
    simp only [Option.getD_some] at hr
    omega

end Go.Proofs.Ytgeacpfenhaioaa
