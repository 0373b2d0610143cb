/- A queue of the call's own: a slice that is cut ahead and grows behind. No program in sight. · rookeryref.MakeIn: a block is made in a store of one's own. -/
import Derived.Test.YtodogcokljmkmaaPut
import Derived.Deep.AppendSrc
import Derived.Deep.LoopGhost
import Derived.Test.YtodogcokljmkmaaLoose
import Derived.Test.YtodogcokljmkmaaFormOf
namespace Go.Proofs.Ytodogcokljmkmaa
open Go.RowKit
set_option linter.unusedVariables false

def Que (w : World) (base : Nat) (v : Value) (xs : List Int) : Prop :=
  ∃ g o cap, v = .slice (some ⟨g, o, none⟩) xs.length cap ∧ base ≤ g ∧ g < w.heap.size ∧ xs.length ≤ cap ∧ cap ≤ maxLen ∧
    (∀ j, j < cap → (w.cell? ⟨g, o + j, none⟩).isSome = true ∧ w.frozen? ⟨g, o + j, none⟩ = false) ∧ ∀ i (h : i < xs.length), w.cell? ⟨g, o + i, none⟩ = some (.int .i64 xs[i])

theorem Que.mono {w w' : World} {base : Nat} {v : Value} {xs : List Int} (h : Que w base v xs) (hb : Below w.heap.size w w') : Que w' base v xs := by
  obtain ⟨g, o, cap, h1, h2, h3, h4, h5, h6, h7⟩ := h
  obtain ⟨b1, b2⟩ := bcell hb
  exact ⟨g, o, cap, h1, h2, Nat.lt_of_lt_of_le h3 hb.size, h4, h5, fun j hj => by rw [b1 _ _ h3, b2 _ _ h3]; exact h6 j hj, fun i hi => (b1 _ _ h3).trans (h7 i hi)⟩

/-- a cell of another block is written -/
theorem Que.setCell {w : World} {base : Nat} {v : Value} {xs : List Int} (h : Que w base v xs) (p : Addr) (hp : p.block < base) (u : Value) : Que (w.setCell p u) base v xs := by
  obtain ⟨g, o, cap, h1, h2, h3, h4, h5, h6, h7⟩ := h
  have hb : (w.setCell p u).heap[g]? = w.heap[g]? := Below.heap_setCell _ _ _ _ (by omega)
  refine ⟨g, o, cap, h1, h2, by simpa using h3, h4, h5, fun j hj => ?_, fun i hi => ?_⟩
  · rw [World.cell?_of_block (a := ⟨g, o + j, none⟩) hb, World.frozen?_of_block (a := ⟨g, o + j, none⟩) hb]; exact h6 j hj
  · rw [World.cell?_of_block (a := ⟨g, o + i, none⟩) hb]; exact h7 i hi

theorem Que.one {w : World} {base : Nat} {x : Int} {t : TypeId} (hb : base ≤ w.heap.size) : Que (w.alloc (.cells #[.int .i64 x] t)) base (.slice (some ⟨w.heap.size, 0, none⟩) 1 1) [x] := by
  refine ⟨w.heap.size, 0, 1, rfl, hb, by simp, Nat.le_refl _, by unfold maxLen; omega, fun j hj => ?_, fun i hi => ?_⟩
  · obtain rfl : j = 0 := by omega
    simp
  · obtain rfl : i = 0 := by simpa using hi
    simp

/-- the first one is taken -/
theorem Que.tail {w : World} {base g o cap : Nat} {k : Int} {q : List Int} (h : Que w base (.slice (some ⟨g, o, none⟩) (q.length + 1) cap) (k :: q)) :
    base ≤ g ∧ g < w.heap.size ∧ 1 ≤ cap ∧ q.length + 1 ≤ cap ∧ cap ≤ maxLen ∧ w.cell? ⟨g, o, none⟩ = some (.int .i64 k) ∧ Que w base (.slice (some ⟨g, o + 1, none⟩) q.length (cap - 1)) q ∧ (cap = 1 → Que w base (.slice (some ⟨g, o, none⟩) 0 0) q ∧ q = []) := by
  obtain ⟨g', o', cap', h1, h2, h3, h4, h5, h6, h7⟩ := h
  simp only [Value.slice.injEq, Option.some.injEq, Addr.mk.injEq, List.length_cons] at h1
  obtain ⟨⟨rfl, rfl, _⟩, _, rfl⟩ := h1
  simp only [List.length_cons] at h4 h7
  refine ⟨h2, h3, by omega, h4, h5, by simpa using h7 0 (by omega), ⟨g, o + 1, cap - 1, rfl, h2, h3, by omega, by omega, fun j hj => ?_, fun i hi => ?_⟩, fun hc => ?_⟩
  · have := h6 (1 + j) (by omega)
    rw [← Nat.add_assoc] at this
    exact this
  · have := h7 (i + 1) (by omega)
    simp only [List.getElem_cons_succ] at this
    rw [show o + 1 + i = o + (i + 1) from by omega]
    exact this
  · have hq : q = [] := List.eq_nil_of_length_eq_zero (by omega)
    subst hq
    exact ⟨⟨g, o, 0, rfl, h2, h3, Nat.le_refl _, Nat.zero_le _, fun j hj => by omega, fun i hi => by simp at hi⟩, rfl⟩

theorem below_setBoth {a b : World} (h : Below a.heap.size a b) (p : Addr) (v : Value) (hp : p.block < a.heap.size) : Below (a.setCell p v).heap.size (a.setCell p v) (b.setCell p v) := by
  refine ⟨h.os, h.tape, h.output, by simpa using h.size, fun k hk => ?_⟩
  have hk' : k < a.heap.size := by simpa using hk
  have hb := h.block k hk'
  obtain ⟨pb, po, ps⟩ := p
  cases ps <;> simp only [World.setCell, Array.getElem?_modify, hb]

theorem src_row {P : Program} {tx e' : TypeId} (hk : P.underlying tx = some (.slice e')) {w : World} {ao : Option Addr} {ys : List Int} (c : Nat) (hrow : Row .i64 w ao ys) : Src P 1 tx (.slice ao ys.length c) ys.length (ys.map (Value.int .i64)) w := by
  cases ao with
  | none =>
    have hy : ys = [] := by
      rcases hrow with h | ⟨_, _, h, _⟩
      · exact h
      · cases h
    subst hy
    exact Src.ofNil w hk c
  | some ad =>
    refine Src.ofSlice w hk ad ys.length c _ (by simp) ?_ ?_
    · intro j u hj
      have hlt : j < ys.length := by simpa using (List.getElem?_eq_some_iff.1 hj).1
      obtain ⟨b, o, hao, hc⟩ := hrow.at j hlt
      obtain rfl := Option.some.inj hao
      have e1 : (⟨b, o, none⟩ : Addr).add j = ⟨b, o + j, none⟩ := by unfold Addr.add; split <;> simp_all
      rw [e1, hc j hlt]
      simpa [hlt] using hj
    · intro u hu
      obtain ⟨x, _, rfl⟩ := List.mem_map.1 hu
      rfl

theorem grown_setCells {w : World} {g : Nat} (vs : List Value) : ∀ (o : Nat) (w0 : World), w.grownBy w0 (some g) → w.grownBy (w0.setCells g o vs) (some g) := by
  induction vs with
  | nil => intro o w0 h; exact h
  | cons v vs ih =>
    intro o w0 h
    exact ih (o + 1) _ ⟨h.os, h.tape, h.output, by simpa using h.size, fun k hk hne => by
      rw [Below.heap_setCell _ _ _ _ (by intro e; apply hne; rw [e])]; exact h.block k hk hne⟩

theorem isSome_setCells' (b : Nat) : ∀ (vs : List Value) (o : Nat) (w : World) (x : Addr), (w.cell? x).isSome = true → ((w.setCells b o vs).cell? x).isSome = true
  | [], _, _, _, h => h
  | v :: r, o, w, x, h => by
    rw [World.setCells]
    refine isSome_setCells' b r (o + 1) _ x ?_
    obtain ⟨u, hu⟩ := Option.isSome_iff_exists.1 h
    by_cases e : (⟨b, o, none⟩ : Addr) = x
    · subst e; rw [World.cell?_setCell_same _ _ _ hu]; rfl
    · rw [World.cell?_setCell_other _ _ _ _ e, hu]; rfl

/-- append(q, s...) onto a queue of the call's own -/
theorem append_que {P : Program} {w : World} {ops : Array Oper} {rest : List Oper} {o : Oper} {a : Act} {Q : Exit → Act → World → Prop} (hgd : o.guard = none) (s x : Operand) (t : TypeId)
    (ho : o.op = .call { callee := .builtin .append, args := #[s, x], argTypes := #[t, t] })
    (e base : Nat) (ht : P.underlying t = some (.slice e)) (hinfo : (P.info? e).map (fun i => (i.zero, i.size, i.bytes)) = some (some (.int .i64 0), 1, 8))
    (v : Value) (xs ys : List Int) (ao : Option Addr) (c : Nat) (hs : a.eval s = v) (hown : Que w base v xs) (hx : a.eval x = .slice ao ys.length c) (hrow : Row .i64 w ao ys)
    (h63 : xs.length + ys.length ≤ maxLen) (hbytes : (xs.length + ys.length) * 8 ≤ 140737488355328) (hbase : base ≤ w.heap.size)
    (h : ∀ v' w', Que w' base v' (xs ++ ys) → Below base w w' → wpList P ops Q rest (a.put o.dst v') w') :
    wpList P ops Q (o :: rest) a w := by
  obtain ⟨i0, hi, hz0, hz1, hz2⟩ := info_parts hinfo
  obtain ⟨g, qo, cap, hv, h2, h3, h4, h5, h6, h7⟩ := hown
  have hsrc := src_row (P := P) ht c hrow
  rw [← hz1] at hsrc
  have key : ∃ v' w', (Builtin.append_ #[t, t] o.type #[v, .slice ao ys.length c]).run P w = .ok v' w' ∧ Que w' base v' (xs ++ ys) ∧ Below base w w' := by
    subst hv
    by_cases hroom : xs.length + ys.length ≤ cap
    · have hr := run_append_room_src (P := P) w t t o.type e i0 ht hi g qo xs.length cap (.slice ao ys.length c) ys.length _ hsrc hroom
        (fun j hj => by rw [hz1, Nat.mul_one, Nat.add_assoc]; exact (h6 _ (by simp at hj; omega)).1) (fun j hj => by rw [hz1, Nat.mul_one, Nat.add_assoc]; exact (h6 _ (by simp at hj; omega)).2)
      rw [hz1, Nat.mul_one] at hr
      have hgr : w.grownBy (w.setCells g (qo + xs.length) (ys.map (Value.int .i64))) (some g) := grown_setCells _ _ _ (grown_of_below (Below.refl _ _) _)
      refine ⟨_, _, hr, ⟨g, qo, cap, by rw [List.length_append], h2, Nat.lt_of_lt_of_le h3 hgr.size, by rw [List.length_append]; exact hroom, h5, fun j hj => ?_, fun i hi' => ?_⟩, grown_below hgr h2 hbase⟩
      · rw [World.frozen?_setCells]
        exact ⟨isSome_setCells' _ _ _ _ _ (h6 j hj).1, (h6 j hj).2⟩
      · rw [List.length_append] at hi'
        by_cases hlt : i < xs.length
        · rw [World.cell?_setCells_out g _ _ _ _ (fun _ _ => .inl (by simp; omega)), List.getElem_append_left hlt]
          exact h7 i hlt
        · have := World.cell?_setCells_in g (ys.map (Value.int .i64)) (qo + xs.length) w (fun j hj => by rw [Nat.add_assoc]; exact (h6 _ (by simp at hj; omega)).1) (i - xs.length) (by simp; omega)
          rw [show qo + xs.length + (i - xs.length) = qo + i from by omega] at this
          rw [this, List.getElem_append_right (by omega)]
          simp
    · have hold : (Builtin.firstCells i0.size xs.length (.slice (some ⟨g, qo, none⟩) xs.length cap)).run P w.drew = .ok (xs.map (Value.int .i64)).toArray w.drew := by
        rw [hz1]
        refine run_firstCells_some w.drew 1 xs.length ⟨g, qo, none⟩ xs.length cap _ (by simp) fun j u hj => ?_
        have hlt : j < xs.length := by simpa using (List.getElem?_eq_some_iff.1 hj).1
        have e1 : (⟨g, qo, none⟩ : Addr).add j = ⟨g, qo + j, none⟩ := by unfold Addr.add; split <;> simp_all
        rw [e1]
        show w.cell? _ = _
        rw [h7 j hlt]
        simpa [hlt] using hj
      have hr := run_append_grow_src (P := P) w t t o.type e i0 _ ht hi hz0 (some ⟨g, qo, none⟩) xs.length cap _ hold (.slice ao ys.length c) ys.length _ hsrc (by omega) (by unfold maxLen at h63; omega) (growslice_fits (by omega) (by rw [hz2]; exact hbytes))
      have hge := grownCap_ge w (xs.length + ys.length) cap e
      have hcm : grownCap w (xs.length + ys.length) cap e ≤ maxLen := grownCap_le_maxLen w (xs.length + ys.length) cap e h63
      generalize grownCap w (xs.length + ys.length) cap e = gc at *
      refine ⟨_, _, hr, ⟨w.heap.size, 0, gc, by rw [List.length_append], hbase, by simp, by rw [List.length_append]; exact hge, hcm, fun j hj => ?_, fun i hi' => ?_⟩, ((Below.refl _ _).drew).alloc (by simpa using hbase) _⟩
      · rw [Nat.zero_add]
        have hh : (w.drew.alloc (.cells ((xs.map (Value.int .i64) ++ ys.map (Value.int .i64)).toArray ++ Builtin.zeroCells (Value.cells (.int .i64 0)) (gc - (xs.length + ys.length))) e)).heap[w.heap.size]? = some (.cells _ e (0, 0)) := heap_alloc_new w.drew _
        rw [cell_of_block hh, free_of_block hh]
        refine ⟨?_, rfl⟩
        rw [Array.getElem?_eq_getElem (by rw [Array.size_append, size_zeroCells]; simp [Value.cells]; omega)]
        rfl
      · rw [List.length_append] at hi'
        rw [Nat.zero_add]
        have hh : (w.drew.alloc (.cells ((xs.map (Value.int .i64) ++ ys.map (Value.int .i64)).toArray ++ Builtin.zeroCells (Value.cells (.int .i64 0)) (gc - (xs.length + ys.length))) e)).heap[w.heap.size]? = some (.cells _ e (0, 0)) := heap_alloc_new w.drew _
        have hlt : i < (xs ++ ys).length := by rw [List.length_append]; exact hi'
        rw [cell_of_block hh, ← List.map_append, Array.getElem?_append_left (by simp; omega), List.getElem?_toArray, List.getElem?_map, List.getElem?_eq_getElem hlt]
        rfl
  obtain ⟨v', w', hrun, hq, hb⟩ := key
  refine wpList_plain hgd fun K hK' => ?_
  unfold Oper.wp
  simp [execOp, ho, resolve, invoke, builtin, hs, hx, hrun, Result.andThen]
  exact hK' _ _ (h v' w' hq hb)
end Go.Proofs.Ytodogcokljmkmaa

namespace Go.Proofs.Ytodogcokljmkmaa
open Go.RowKit
set_option linter.unusedVariables false

/-- the kids are held once more first, or last -/
theorem bump_set (s : List Blk) (i : Nat) (x : Blk) (ks : List Int) (h : ∀ k ∈ ks, 0 < k → (k - 1).toNat ≠ i) : bump (s.set i x) ks = (bump s ks).set i x := by
  have one : ∀ (s : List Blk) (a : Int), (a - 1).toNat ≠ i → addRef (s.set i x) a 1 = (addRef s a 1).set i x := by
    intro s a ha
    unfold addRef
    have e1 : blk (s.set i x) a = blk s a := by rw [blk_set, if_neg (fun e => ha e.1.symm)]
    rw [e1, List.set_comm _ _ (fun e => ha e.symm)]
  induction ks generalizing s with
  | nil => rfl
  | cons a ks ih =>
    simp only [bump, List.foldl_cons]
    have h1 := ih (if 0 < a then addRef s a 1 else s) fun k hk => h k (List.mem_cons_of_mem _ hk)
    simp only [bump] at h1
    rw [← h1]
    congr 1
    split
    · rename_i ha
      exact one s a (h a (List.mem_cons_self ..) ha)
    · rfl

theorem put_kids_ne (s : List Blk) (l : Int) (ks bs : List Int) (h : formE s 1 l ks bs = 0) (hf : freeIx s < s.length) : ∀ k ∈ ks, 0 < k → (k - 1).toNat ≠ freeIx s := by
  intro k hk h0 e
  rcases (form_kids s l ks bs h).2.2 k hk with h1 | ⟨h1, h2, h3⟩
  · omega
  · obtain ⟨j, hj, rfl, hr⟩ := there_in h3
    rw [List.getElem?_eq_getElem hj] at hr
    have e2 : freeIx s = j := by omega
    have := freeIx_refs s hf
    simp only [e2] at this
    simp only [Option.getD_some] at hr
    omega

set_option maxRecDepth 100000 in
set_option maxHeartbeats 4000000 in
theorem makeIn_any (w : World) (pb base : Nat) (ao ka ba : Option Addr) (n cap nk kc nb bc : Nat) (s : List Blk) (r0 l : Int) (ks bs : List Int) (hn : s.length = n) (h400 : n ≤ 400)
    (hbox : w.heap[pb]? = some (.cells #[.slice ao n cap] 24 (0, 0))) (ho : OwnSto w base (.slice ao n cap) s) (hpn : ∀ g, s ≠ [] → ao = some ⟨g, 0, none⟩ → pb ≠ g) (hbs : base ≤ w.heap.size) (hwf : WfS s) (hrb : RefsB s 1000000000)
    (hk : ks.length = nk) (hb : bs.length = nb) (hkr : ∀ g, s ≠ [] → ao = some ⟨g, 0, none⟩ → FarRow g .i64 w ka ks) (hbr : ∀ g, s ≠ [] → ao = some ⟨g, 0, none⟩ → FarRow g .u8 w ba bs) (hkr0 : Row .i64 w ka ks) (hbr0 : Row .u8 w ba bs) (hka : Capd ka nk kc) (hba : Capd ba nb bc) (hkw : ∀ k ∈ ks, I64 k) (hnk : nk ≤ 17592186044416) (hnb : nb ≤ 140737488351232) :
    Calls Try.prog 102 #[.pointer (some ⟨pb, 0, none⟩), .agg #[.int .i64 r0, .int .i64 l, .slice ka nk kc, .slice ba nb bc]] w fun e w' =>
      e = .returned (.tuple #[.int .i64 (putR s l ks bs).2.1, .int .i64 (putR s l ks bs).2.2]) ∧ OwnSto w' base (.slice ao n cap) (putR s l ks bs).1 ∧ Below base w w' ∧ ∀ b, b < w.heap.size → (∀ g, s ≠ [] → ao = some ⟨g, 0, none⟩ → b ≠ g) → w'.heap[b]? = w.heap[b]? := by
  have HN := Lib.hid hn
  have HK := Lib.hid hk
  have HB := Lib.hid hb
  have HKA := Lib.hid hka
  have HBA := Lib.hid hba
  have hpw : pb < w.heap.size := lt_heap hbox
  have hb0 : Below w.heap.size w (w.alloc (.cells #[.int .i64 1, .int .i64 l, .slice ka nk kc, .slice ba nb bc] 87)) := (Below.refl _ _).alloc (Nat.le_refl _) _
  have p0 : (w.alloc (.cells #[.int .i64 1, .int .i64 l, .slice ka nk kc, .slice ba nb bc] 87)).heap[w.heap.size]? = some (.cells #[.int .i64 1, .int .i64 l, .slice ka nk kc, .slice ba nb bc] 87 (0, 0)) := heap_alloc_new _ _
  have HNK := Lib.hid hnk
  have HNB := Lib.hid hnb
  clear hn hk hb hka hba hnk hnb
  go_enter Try.func102, Try.ntmps102
  go_wp2_with fail
  have p1 := (hb0.block _ (lt_heap hbox)).trans hbox
  have ho1 := ho.mono hb0
  generalize w.alloc (Obj.cells #[Value.int .i64 1, Value.int .i64 l, Value.slice ka nk kc, Value.slice ba nb bc] 87) = W1 at *
  obtain ⟨ao', cap', hv', hcd', hsr⟩ := ho1.sto
  rw [HN.out] at hv'
  simp only [Value.slice.injEq, true_and] at hv'
  obtain ⟨rfl, rfl⟩ := hv'
  have c0 := cell_of_block p0 0
  have c1 := cell_of_block p0 1
  have c2 := cell_of_block p0 2
  have c3 := cell_of_block p0 3
  simp at c0 c1 c2 c3
  have c4 := cell_of_one p1
  have l0 := lt_heap p0
  have l1 := lt_heap p1
  have hkr1 := hkr0.mono hb0
  refine wp_region_mix (by kernel_rfl) (by kernel_rfl) ?_
  repeat (go_big_quiet_step ((refine calls_mix (v := .int .i64 (formE s 1 l ks bs)) ?_; exact formOf_any _ _ _ _ _ _ _ _ _ _ s 1 l ks bs HN.out (by omega) (hsr.mono (mix_below _ _)) hwf (hkr1.mono (mix_below _ _)) hkw HK.out HB.out)))
  refine wpQuiet_nil ?_
  intro w2 hb2
  have hb02 := below_step hb0 hb2
  by_cases hfe : formE s 1 l ks bs = 0
  rotate_left
  · have hx1 : (formE s 1 l ks bs != 0) = true := by rw [bne_iff_ne]; exact hfe
    have hx2 : (formE s 1 l ks bs == 0) = false := by rw [beq_eq_false_iff_ne]; exact hfe
    have HR := Lib.hid (putR_bad s l ks bs hfe)
    clear hfe c0 c1 c2 c3 c4
    go_wp2
    go_ret2
    exact ⟨by rw [HR.out]; rfl, by rw [HR.out]; exact ho1.mono hb2, hb02.mono hbs, fun b hb _ => hb02.block b hb⟩
  · have hx2 : (formE s 1 l ks bs == 0) = true := by rw [hfe]; rfl
    obtain ⟨hk4, hbl4, hkin⟩ := form_kids s l ks bs hfe
    have HFE := Lib.hid hfe
    have q1 := (hb2.block _ (lt_heap p1)).trans p1
    have q0 := (hb2.block _ (lt_heap p0)).trans p0
    have d4 := cell_of_one q1
    have l2 := lt_heap q1
    have ho2 := ho1.mono hb2
    clear hfe c0 c1 c2 c3 c4 hsr
    go_wp2_with fail
    go_loop [24] (fun i => ∃ k : Nat, k ≤ n ∧ i = .int .i64 k ∧ Hid (∀ j (hj : j < s.length), j < k → s[j].refs ≠ 0)) (fun i => n - (intOf i).toNat)
    case atStart => exact ⟨0, Nat.zero_le _, rfl, Lib.hid fun j _ hj => absurd hj (Nat.not_lt_zero _)⟩
    case round =>
      obtain ⟨k, hkn, rfl, HNO⟩ := hrel
      by_cases hlt : k < n
      · have hks : k < s.length := by have := HN.out; omega
        obtain ⟨g, cap2, hv2, hR⟩ := ho2.at k hks
        rw [HN.out] at hv2
        simp only [Value.slice.injEq, true_and] at hv2
        obtain ⟨rfl, rfl⟩ := hv2
        have hB := hR.blks k hks
        have g0 := hB.refs
        have lg := hR.lt
        by_cases h0 : s[k].refs = 0
        · have hfx := freeIx_at s k hks h0 (fun j hj => HNO.out j (by omega) hj)
          have hR0 := putR_ok s l ks bs HFE.out (by omega)
          have hbs2 := bump_set s (freeIx s) ⟨1, l, ks, bs⟩ ks (put_kids_ne s l ks bs HFE.out (by omega))
          rw [hbs2, hfx] at hR0
          have HR := Lib.hid hR0
          have h00 : (s[k].refs == 0) = true := by rw [h0]; rfl
          have e0 := cell_of_block q0 0
          have e1 := cell_of_block q0 1
          have e2 := cell_of_block q0 2
          have e3 := cell_of_block q0 3
          simp at e0 e1 e2 e3
          have z0 := lt_heap q0
          have hlgw : g < w.heap.size := by
            obtain ⟨g', cap', hv, hRw⟩ := ho.at k hks
            simp only [Value.slice.injEq, Option.some.injEq, Addr.mk.injEq] at hv
            obtain ⟨⟨rfl, _⟩, _, _⟩ := hv
            exact hRw.lt
          have hle := hR.le
          have hne0 : s ≠ [] := fun e => by rw [e] at hks; simp at hks
          have hpg : pb ≠ g := hpn g hne0 rfl
          have hfk := (hkr g hne0 rfl).keep (w' := w2) fun b _ hl => hb02.block b hl
          have hfb := (hbr g hne0 rfl).keep (w' := w2) fun b _ hl => hb02.block b hl
          have hkn0 : (0 : Int) ≤ k := by omega
          have hkn1 : (k : Int) < n := by omega
          clear h0 hfx hR0 hbs2 hkr hbr ho ho1 ho2 hpn
          go_wp2_with fail
          go_loopw [39] (fun i wr => ∃ m : Nat, m ≤ ks.length ∧ i = .int .i64 m ∧ OwnR wr base g (bump s (ks.take m)) ∧ w2.grownBy wr (some g) ∧ FarRow g .i64 wr ka ks ∧ FarRow g .u8 wr ba bs) (fun i _ => ks.length - (intOf i).toNat)
          case atStart => exact ⟨0, Nat.zero_le _, rfl, hR, grown_of_below (Below.refl _ _) _, hfk, hfb⟩
          case round =>
            clear hR hB g0 lg hfk hfb e0 e1 e2 e3 d4
            obtain ⟨m, hm, rfl, hR, hg, hf4, hf5⟩ := hrel
            have x1 := (hg.block pb l2 (by simp [hpg])).trans q1
            have d1 := cell_of_one x1
            have dl := lt_heap x1
            have lg := hR.lt
            have r0 := (hg.block w.heap.size z0 (by simp; omega)).trans q0
            by_cases hlt : m < ks.length
            · have hm4 : m ≤ 4 := by omega
              have hmk : (m : Int) < nk := by have := HK.out; omega
              have hbl : (bump s (ks.take m)).length = n := by rw [bump_length]; exact HN.out
              have hrbm := bump_refsB hrb (by omega) (ks.take m)
              have hsn := bump_snoc s (ks.take m) ks[m]
              rw [← List.take_succ_eq_append_getElem hlt] at hsn
              obtain ⟨kb, ko, rfl, hkg, hkc⟩ : ∃ b o, ka = some ⟨b, o, none⟩ ∧ b ≠ g ∧ ∀ i (h : i < ks.length), wr.cell? ⟨b, o + i, none⟩ = some (.int .i64 ks[i]) := by
                rcases hf4 with h | h
                · rw [h] at hlt; simp at hlt
                · exact h
              have hck := hkc m hlt
              have hlk := World.block_lt_of_cell? _ _ hck
              have hki := hkin _ (List.getElem_mem hlt)
              have HSN := Lib.hid hsn
              have HF4 := Lib.hid hf4
              have HF5 := Lib.hid hf5
              clear hsn hkc hf4 hf5
              generalize ks[m] = y at *
              rcases hki with rfl | ⟨hy1, hy2, _⟩
              · go_wp2
                go_roundw
                case rel => exact ⟨m + 1, by omega, by go_num, by rw [HSN.out, if_neg (by omega)]; exact hR, hg, HF4.out, HF5.out⟩
                case measure => simp [intOf]; omega
              · obtain ⟨j, rfl⟩ : ∃ j : Nat, y = j + 1 := ⟨(y - 1).toNat, by omega⟩
                have hj : j < n := by have := HN.out; omega
                have hjs : j < (bump s (ks.take m)).length := by omega
                have hR2 := hR.setRefs j hjs ((bump s (ks.take m))[j].refs + 1)
                have hsn := HSN.out
                rw [if_pos (by omega), addRef_at _ j hjs] at hsn
                rw [← hsn] at hR2
                have cj := (hR.blks j hjs).refs
                have fj := hR.free (j * 4)
                have hbj := hrbm _ (List.getElem_mem hjs)
                have hlm : ((ks.take m).length : Int) ≤ 4 := by simp; omega
                have hb1 := hbj.1
                have hb2 : (bump s (ks.take m))[j].refs ≤ 1000000004 := by omega
                have HR2 := Lib.hid hR2
                have hjn : (j : Int) < n := by omega
                have hj1 : ((j : Int) + 1 != 0) = true := by rw [bne_iff_ne]; omega
                clear hsn hR2 hbj hrbm hR hlm hbl hy1 hy2
                generalize (bump s (ks.take m))[j].refs = rj at *
                have HG := Lib.hid (grown_set hg ⟨g, j * 4, none⟩ rfl (.int .i64 (rj + 1)))
                have HF6 := Lib.hid (HF4.out.keep (w' := wr.setCell ⟨g, j * 4, none⟩ (.int .i64 (rj + 1))) fun b hb _ => Below.heap_setCell _ _ _ _ hb)
                have HF7 := Lib.hid (HF5.out.keep (w' := wr.setCell ⟨g, j * 4, none⟩ (.int .i64 (rj + 1))) fun b hb _ => Below.heap_setCell _ _ _ _ hb)
                go_wp2
                go_roundw
                case rel => exact ⟨m + 1, by omega, by go_num, HR2.out, HG.out, HF6.out, HF7.out⟩
                case measure => simp [intOf]; omega
            · obtain rfl : m = ks.length := by omega
              rw [List.take_length] at hR
              have hmk : ¬ ((ks.length : Int) < nk) := by have := HK.out; omega
              have e0 := cell_of_block r0 0
              have e1 := cell_of_block r0 1
              have e2 := cell_of_block r0 2
              have e3 := cell_of_block r0 3
              simp at e0 e1 e2 e3
              have lr := lt_heap r0
              have hbl : k < (bump s ks).length := by rw [bump_length]; exact hks
              have hB := hR.blks k hbl
              have g0 := hB.refs
              have g1 := hB.level
              obtain ⟨kv, g2, -⟩ := hB.kids
              obtain ⟨bv, g3, -⟩ := hB.bytes
              have gf := hR.free
              have s4 : SlX g .i64 wr (.slice ka nk kc) ks := ⟨ka, kc, by rw [HK.out], hf4, by rw [HK.out]; exact HKA.out⟩
              have s5 : SlX g .u8 wr (.slice ba nb bc) bs := ⟨ba, bc, by rw [HB.out], hf5, by rw [HB.out]; exact HBA.out⟩
              have hR7 := hR.setBlk k hbl ⟨1, l, ks, bs⟩ _ _ s4 s5
              have hg7 := grown_set (grown_set (grown_set (grown_set hg ⟨g, k * 4, none⟩ rfl (.int .i64 1)) ⟨g, k * 4 + 1, none⟩ rfl (.int .i64 l)) ⟨g, k * 4 + 2, none⟩ rfl (.slice ka nk kc)) ⟨g, k * 4 + 3, none⟩ rfl (.slice ba nb bc)
              have HR7 := Lib.hid hR7
              have HG7 := Lib.hid hg7
              clear hR7 hg7 hB s4 s5 hR hg hf4 hf5
              go_wp2_with fail
              go_region
              go_wp2
              go_ret2
              have hhb := hb02.size
              refine ⟨by rw [HR.out]; rfl, ?_, ((hb02.mono hbs).trans (grown_below HG7.out hle (by omega))).drew, fun b hb hn => (HG7.out.block b (by omega) (by simpa using hn g hne0 rfl)).trans (hb02.block b hb)⟩
              rw [HR.out]
              exact (HR7.out.own (n := n) (cap := cap) (by rw [List.length_set, bump_length]; exact HN.out) (by have := hcd'.1; have := HN.out; omega)).mono (Below.refl _ _).drew
        · have hbq : (s[k].refs == 0) = false := by rw [beq_eq_false_iff_ne]; exact h0
          have H0 := Lib.hid h0
          clear h0
          go_wp2
          go_round
          case rel =>
            refine ⟨k + 1, by omega, by go_num, Lib.hid fun j hj hjk => ?_⟩
            rcases (show j < k ∨ j = k from by omega) with e | rfl
            · exact HNO.out j hj e
            · exact H0.out
          case measure => simp [intOf]; omega
      · obtain rfl : k = n := by omega
        have hfx := freeIx_none s (fun j hj => HNO.out j hj (by have := HN.out; omega))
        have HR := Lib.hid (putR_full s l ks bs HFE.out hfx)
        clear hfx
        go_wp2
        go_ret2
        exact ⟨by rw [HR.out]; rfl, by rw [HR.out]; exact ho2, hb02.mono hbs, fun b hb _ => hb02.block b hb⟩
end Go.Proofs.Ytodogcokljmkmaa
