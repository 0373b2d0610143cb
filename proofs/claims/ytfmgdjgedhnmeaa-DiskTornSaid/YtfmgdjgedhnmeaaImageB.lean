/- Rows that are built by append, with what hangs on them. No program in sight. -/
import Derived.Test.YtfmgdjgedhnmeaaPoolRow
import Derived.Test.YtfmgdjgedhnmeaaImageW
import Derived.Maps.AppendAt
namespace Go.Proofs.Ytfmgdjgedhnmeaa
open Go.RowKit
set_option linter.unusedVariables false

/-- what was there in some blocks is there still -/
def StillT (ty : TypeId → Bool) (base : Nat) (w w' : World) : Prop := w.heap.size ≤ w'.heap.size ∧ ∀ b, base ≤ b → b < w.heap.size → ∀ cs t f, w.heap[b]? = some (.cells cs t f) → ty t = true → w'.heap[b]? = w.heap[b]?
theorem StillT.sub {ty ty' : TypeId → Bool} {base base' : Nat} {w w' : World} (h : StillT ty base w w') (hs : ∀ t, ty' t = true → ty t = true) (hb : base ≤ base') : StillT ty' base' w w' := ⟨h.1, fun b h1 h2 cs t f h3 h4 => h.2 b (Nat.le_trans hb h1) h2 cs t f h3 (hs t h4)⟩
theorem StillT.of_keep {ty : TypeId → Bool} {base : Nat} {w w' : World} (hs : w.heap.size ≤ w'.heap.size) (h : ∀ b, base ≤ b → b < w.heap.size → w'.heap[b]? = w.heap[b]?) : StillT ty base w w' := ⟨hs, fun b h1 h2 _ _ _ _ _ => h b h1 h2⟩
theorem StillT.of_below {ty : TypeId → Bool} {base : Nat} {w w' : World} (h : Below w.heap.size w w') : StillT ty base w w' := .of_keep h.size fun b _ h2 => h.block b h2

/-- what an element stands for -/
structure Rep (α β : Type) where
  K : Kind α
  R : World → Nat → α → β → Prop
  sub : TypeId → Bool
  apart : sub K.elem = false
  keep : ∀ {w w' : World} {base : Nat} {a : α} {x : β}, R w base a x → StillT sub base w w' → R w' base a x
  weaken : ∀ {w : World} {base base' : Nat} {a : α} {x : β}, R w base a x → base' ≤ base → R w base' a x
section
variable {α β : Type} (M : Rep α β)
def Rep.tys (t : TypeId) : Bool := M.sub t || t == M.K.elem
/-- a list that is built -/
def Rep.Grow (w : World) (base : Nat) (v : Value) (l : List β) : Prop :=
  ∃ vs : List α, w.ownsRow base M.K.elem M.K.k v vs.length (M.K.all vs) ∧ vs.length = l.length ∧ ∀ i (h : i < vs.length) (h' : i < l.length), M.R w base vs[i] l[i]
variable {M}
theorem Rep.Grow.nil (w : World) (base : Nat) : M.Grow w base (.slice none 0 0) [] := ⟨[], World.ownsRow_nil _ _ _ _, rfl, fun i h => absurd h (by simp)⟩
theorem owns_keep {w w' : World} {base e size n : Nat} {v : Value} {xs : List Value} (h : w.ownsRow base e size v n xs) (hk : ∀ g, base ≤ g → g < w.heap.size → ∀ cs f, w.heap[g]? = some (.cells cs e f) → w'.heap[g]? = w.heap[g]?) : w'.ownsRow base e size v n xs := by
  obtain ⟨h1, h2⟩ := h
  refine ⟨h1, ?_⟩
  rcases h2 with h2 | ⟨g, cap, cur, hv, hg, hh, r⟩
  · exact .inl h2
  · exact .inr ⟨g, cap, cur, hv, hg, by rw [hk g hg (lt_heap hh) _ _ hh]; exact hh, r⟩
theorem owns_weaken {w : World} {base base' e size n : Nat} {v : Value} {xs : List Value} (h : w.ownsRow base e size v n xs) (hb : base' ≤ base) : w.ownsRow base' e size v n xs := by
  obtain ⟨h1, h2⟩ := h
  refine ⟨h1, ?_⟩
  rcases h2 with h2 | ⟨g, cap, cur, hv, hg, r⟩
  · exact .inl h2
  · exact .inr ⟨g, cap, cur, hv, Nat.le_trans hb hg, r⟩
theorem Rep.Grow.keep {w w' : World} {base : Nat} {v : Value} {l : List β} (h : M.Grow w base v l) (hk : StillT M.tys base w w') : M.Grow w' base v l := by
  obtain ⟨vs, h1, h2, h3⟩ := h
  refine ⟨vs, owns_keep h1 fun g hg hl cs f hc => hk.2 g hg hl cs _ f hc (by simp [Rep.tys]), h2, fun i a b => M.keep (h3 i a b) (hk.sub (fun t ht => by simp [Rep.tys, ht]) (Nat.le_refl _))⟩
theorem Rep.Grow.mono {w w' : World} {base : Nat} {v : Value} {l : List β} (h : M.Grow w base v l) (hb : Below w.heap.size w w') : M.Grow w' base v l := h.keep (.of_below hb)
theorem Rep.Grow.weaken {w : World} {base base' : Nat} {v : Value} {l : List β} (h : M.Grow w base v l) (hb : base' ≤ base) : M.Grow w base' v l := by
  obtain ⟨vs, h1, h2, h3⟩ := h
  exact ⟨vs, owns_weaken h1 hb, h2, fun i a b => M.weaken (h3 i a b) hb⟩
theorem Rep.Grow.shape {w : World} {base : Nat} {v : Value} {l : List β} (h : M.Grow w base v l) : ∃ ao cap, v = .slice ao l.length cap ∧ Capd ao l.length cap ∧ (∀ g, v.ownBlock = some g → base ≤ g ∧ g < w.heap.size ∧ ∃ cs, w.heap[g]? = some (.cells cs M.K.elem (0, 0))) ∧
    ∃ vs : List α, vs.length = l.length ∧ M.K.Row w ao vs ∧ ∀ i (h : i < vs.length) (h' : i < l.length), M.R w base vs[i] l[i] := by
  obtain ⟨vs, ⟨h1, h2⟩, h3, h4⟩ := h
  rcases h2 with ⟨rfl, h2⟩ | ⟨g, cap, cur, rfl, hg, hh, hn, hc, hs, ht⟩
  · have e : l = [] := List.eq_nil_of_length_eq_zero (by omega)
    have e2 : vs = [] := List.eq_nil_of_length_eq_zero h2
    subst e e2
    exact ⟨none, 0, rfl, ⟨Nat.le_refl _, fun _ => rfl⟩, (fun g h => by cases h), [], rfl, .inl rfl, h4⟩
  · refine ⟨_, cap, by rw [h3], ⟨by omega, fun h => by cases h⟩, (fun g' h => ?_), vs, h3, .inr ⟨g, 0, rfl, fun j v hj => ?_⟩, h4⟩
    · simp only [Value.ownBlock, Option.some.injEq] at h
      subst h
      exact ⟨hg, lt_heap hh, cur, hh⟩
    · rw [cell_of_block hh, Nat.zero_add]
      have hjl := (List.getElem?_eq_some_iff.1 hj).1
      rw [M.K.all_len] at hjl
      have e1 : (cur.toList.take (vs.length * M.K.k))[j]? = (M.K.all vs)[j]? := by rw [ht]
      rw [List.getElem?_take, if_pos hjl, hj] at e1
      simpa using e1
/-- one element more -/
theorem Rep.Grow.snoc {w w' : World} {base : Nat} {v v' : Value} {l : List β} {a : α} {x : β} (h : M.Grow w base v l) (hR : M.R w base a x)
    (hown : ∀ vs : List α, w.ownsRow base M.K.elem M.K.k v vs.length (M.K.all vs) → w'.ownsRow base M.K.elem M.K.k v' (vs.length + 1) (M.K.all vs ++ M.K.cells a)) (hg : w.grownBy w' v.ownBlock) : M.Grow w' base v' (l ++ [x]) := by
  have hst : StillT M.sub base w w' := by
    obtain ⟨ao, cap, rfl, -, hb, -⟩ := h.shape
    refine ⟨hg.size, fun b h1 h2 cs t f h3 h4 => hg.block b h2 fun e => ?_⟩
    obtain ⟨-, -, cs2, h5⟩ := hb b e.symm
    rw [h3] at h5
    simp only [Option.some.injEq, Obj.cells.injEq] at h5
    rw [h5.2.1, M.apart] at h4
    cases h4
  obtain ⟨vs, h1, h2, h3⟩ := h
  refine ⟨vs ++ [a], ?_, by simp [h2], fun i hi hi' => ?_⟩
  · have := hown vs h1
    rw [M.K.all_append, List.length_append, List.length_singleton]
    simpa [Kind.all] using this
  · by_cases hlt : i < vs.length
    · rw [List.getElem_append_left hlt, List.getElem_append_left (by omega)]
      exact M.keep (h3 i hlt (by omega)) hst
    · have e1 : i = vs.length := by simp at hi; omega
      subst e1
      simp only [List.getElem_append_right (Nat.le_refl _), Nat.sub_self, List.getElem_singleton]
      have : (l ++ [x])[vs.length]'hi' = x := by
        rw [List.getElem_append_right (by omega)]
        simp
      rw [this]
      exact M.keep hR hst

theorem grown_from {w u w' : World} {r : Option Nat} (h : Below w.heap.size w u) (k : u.grownBy w' r) : w.grownBy w' r :=
  ⟨k.os.trans h.os, k.tape.trans h.tape, k.output.trans h.output, Nat.le_trans h.size k.size, fun b hb hr => (k.block b (Nat.lt_of_lt_of_le hb h.size) hr).trans (h.block b hb)⟩

/-- append of one element that was laid for it -/
theorem Rep.run_append {P : Program} {w : World} {base : Nat} {v : Value} {l : List β} {a : α} {x : β} (t ty : TypeId) (z : Value) (bytes : Nat) (ht : P.underlying t = some (.slice M.K.elem)) (hinfo : (P.info? M.K.elem).map (fun i => (i.zero, i.size, i.bytes)) = some (some z, M.K.k, bytes)) (hz : z.cells.size = M.K.k)
    (h : M.Grow w base v l) (hR : M.R w base a x) (hlen : l.length ≤ 100000) (hby : bytes ≤ 1000) (hbase : base ≤ w.heap.size) (cs : Array Value) (hcs : cs = (M.K.cells a).toArray) :
    ∃ v' w', (Builtin.append_ #[t, t] ty #[v, .slice (some ⟨w.heap.size, 0, none⟩) 1 1]).run P (w.alloc (.cells cs M.K.elem)) = .ok v' w' ∧ M.Grow w' base v' (l ++ [x]) ∧ w.grownBy w' v.ownBlock ∧ (v'.ownBlock = v.ownBlock ∨ ∃ g, v'.ownBlock = some g ∧ w.heap.size ≤ g) := by
  subst hcs
  have hb : Below w.heap.size w (w.alloc (.cells (M.K.cells a).toArray M.K.elem)) := (Below.refl _ _).alloc (Nat.le_refl _) _
  have h' := h.mono hb
  have hR' : M.R (w.alloc (.cells (M.K.cells a).toArray M.K.elem)) base a x := M.keep hR (.of_below hb)
  obtain ⟨i0, hi, hz0, hz1, hz2⟩ := info_parts hinfo
  have hnews : ∀ j u, (M.K.cells a)[j]? = some u → (w.alloc (.cells (M.K.cells a).toArray M.K.elem)).cell? ((⟨w.heap.size, 0, none⟩ : Addr).add j) = some u := fun j u hj => by
    rw [add_plain, cell_of_block (heap_alloc_new w (.cells (M.K.cells a).toArray M.K.elem)), Nat.zero_add, List.getElem?_toArray]
    exact hj
  obtain ⟨vs, h1, h2, h3⟩ := h'
  have h1' := h1
  obtain ⟨v', w', hr, g1, g2, g3, g4⟩ := run_append_own_at (P := P) _ base t ty M.K.elem i0 z M.K.k bytes ht hi hz0 hz1 hz2 hz M.K.pos v _ _ h1 ⟨w.heap.size, 0, none⟩ 1 1 (M.K.cells a) (by rw [M.K.len, Nat.one_mul]) hnews (M.K.one a) (by unfold maxLen; omega) (by
    have : (vs.length + 1) * bytes ≤ 100001 * 1000 := Nat.mul_le_mul (by omega) hby
    omega) (by simp; omega)
  refine ⟨v', w', hr, ?_, grown_from hb g2, ?_⟩
  · refine Rep.Grow.snoc ⟨vs, h1', h2, h3⟩ hR' (fun vs2 h2' => ?_) g2
    have e : M.K.all vs2 = M.K.all vs ∧ vs2.length = vs.length := by
      obtain ⟨k1, k2⟩ := h1'
      obtain ⟨k3, k4⟩ := h2'
      have hl : vs2.length = vs.length := by
        rcases k2 with ⟨e1, e2⟩ | ⟨g, cap, cur, e1, _, _, _, _, _, _⟩
        · rcases k4 with ⟨_, e3⟩ | ⟨g2, cap2, cur2, e3, _⟩
          · omega
          · rw [e1] at e3; cases e3
        · rcases k4 with ⟨e3, _⟩ | ⟨g2, cap2, cur2, e3, _⟩
          · rw [e1] at e3; cases e3
          · rw [e1] at e3
            simp only [Value.slice.injEq] at e3
            omega
      refine ⟨?_, hl⟩
      rcases k2 with ⟨e1, e2⟩ | ⟨g, cap, cur, e1, _, hh, _, _, _, ht1⟩
      · have a1 : vs = [] := List.eq_nil_of_length_eq_zero e2
        have a2 : vs2 = [] := List.eq_nil_of_length_eq_zero (by omega)
        rw [a1, a2]
      · rcases k4 with ⟨e3, _⟩ | ⟨g2, cap2, cur2, e3, _, hh2, _, _, _, ht2⟩
        · rw [e1] at e3; cases e3
        · rw [e1] at e3
          simp only [Value.slice.injEq, Option.some.injEq, Addr.mk.injEq, and_true] at e3
          rw [e3.1, hh2] at hh
          simp only [Option.some.injEq, Obj.cells.injEq] at hh
          rw [← ht1, ← ht2, hl, hh.1]
    rw [e.1, e.2]
    exact g1
  · refine g4.imp id fun e => ⟨_, e, by simp⟩

/-- the same at a step of a region that draws its order -/
theorem Rep.step_append {P : Program} {w : World} {ops : Array Oper} {o : Oper} {act : Act} {C : Act → World → Prop} {Q : Exit → Act → World → Prop} {E : Prop} (hgd : o.guard = none) (s y : Operand) (t : TypeId)
    (ho : o.op = .call { callee := .builtin .append, args := #[s, y], argTypes := #[t, t] })
    {base : Nat} {v : Value} {l : List β} {a : α} {x : β} (z : Value) (bytes : Nat) (ht : P.underlying t = some (.slice M.K.elem)) (hinfo : (P.info? M.K.elem).map (fun i => (i.zero, i.size, i.bytes)) = some (some z, M.K.k, bytes)) (hz : z.cells.size = M.K.k)
    (h : M.Grow w base v l) (hR : M.R w base a x) (hlen : l.length ≤ 100000) (hby : bytes ≤ 1000) (hbase : base ≤ w.heap.size) (cs : Array Value) (hcs : cs = (M.K.cells a).toArray)
    (hs : act.eval s = v) (hy : act.eval y = .slice (some ⟨w.heap.size, 0, none⟩) 1 1)
    (hK : ∀ v' w', M.Grow w' base v' (l ++ [x]) → w.grownBy w' v.ownBlock → (v'.ownBlock = v.ownBlock ∨ ∃ g, v'.ownBlock = some g ∧ w.heap.size ≤ g) → C (act.put o.dst v') w') :
    if Region.wanted o (yielded ops act.tmps) = true then Oper.wp P o act (w.alloc (.cells cs M.K.elem)) C Q else E := by
  have hw : Region.wanted o (yielded ops act.tmps) = true := by simp [Region.wanted, hgd]
  rw [if_pos hw]
  obtain ⟨v', w', hr, h2, h3, h4⟩ := Rep.run_append (P := P) t o.type z bytes ht hinfo hz h hR hlen hby hbase cs hcs
  unfold Oper.wp execOp
  simp only [ho, resolve, invoke, builtin, Sem.run_bind, Sem.run_pure, Result.andThen_ok, List.map_toArray, List.map_cons, List.map_nil, hs, hy, hr]
  exact hK v' w' h2 h3 h4
/-- the same in a list of operations -/
theorem Rep.list_append {P : Program} {w : World} {ops : Array Oper} {rest : List Oper} {o : Oper} {act : Act} {Q : Exit → Act → World → Prop} (hgd : o.guard = none) (s y : Operand) (t : TypeId)
    (ho : o.op = .call { callee := .builtin .append, args := #[s, y], argTypes := #[t, t] })
    {base : Nat} {v : Value} {l : List β} {a : α} {x : β} (z : Value) (bytes : Nat) (ht : P.underlying t = some (.slice M.K.elem)) (hinfo : (P.info? M.K.elem).map (fun i => (i.zero, i.size, i.bytes)) = some (some z, M.K.k, bytes)) (hz : z.cells.size = M.K.k)
    (h : M.Grow w base v l) (hR : M.R w base a x) (hlen : l.length ≤ 100000) (hby : bytes ≤ 1000) (hbase : base ≤ w.heap.size) (cs : Array Value) (hcs : cs = (M.K.cells a).toArray)
    (hs : act.eval s = v) (hy : act.eval y = .slice (some ⟨w.heap.size, 0, none⟩) 1 1)
    (hK : ∀ v' w', M.Grow w' base v' (l ++ [x]) → w.grownBy w' v.ownBlock → (v'.ownBlock = v.ownBlock ∨ ∃ g, v'.ownBlock = some g ∧ w.heap.size ≤ g) → wpList P ops Q rest (act.put o.dst v') w') :
    wpList P ops Q (o :: rest) act (w.alloc (.cells cs M.K.elem)) := by
  refine wpList_plain hgd fun K hK' => ?_
  obtain ⟨v', w', hr, h2, h3, h4⟩ := Rep.run_append (P := P) t o.type z bytes ht hinfo hz h hR hlen hby hbase cs hcs
  unfold Oper.wp execOp
  simp only [ho, resolve, invoke, builtin, Sem.run_bind, Sem.run_pure, Result.andThen_ok, List.map_toArray, List.map_cons, List.map_nil, hs, hy, hr]
  exact hK' _ _ (hK v' w' h2 h3 h4)
end

/-- entries, snaps, sets, tenants, blocks -/
def entRep : Rep Ent Ent where
  K := entK
  R _ _ a x := a = x
  sub _ := false
  apart := rfl
  keep h _ := h
  weaken h _ := h
def snpRep : Rep Snv Snp where
  K := snvK
  R w base a x := a.nm = x.nm ∧ entRep.Grow w base (.slice a.ao a.n a.cap) x.files
  sub := entRep.tys
  apart := by decide
  keep h k := ⟨h.1, h.2.keep k⟩
  weaken h k := ⟨h.1, h.2.weaken k⟩
def stvRep : Rep Stv SetV where
  K := stvK
  R w base a x := a.nm = x.nm ∧ entRep.Grow w base (.slice a.fo a.fn a.fc) x.files ∧ snpRep.Grow w base (.slice a.so a.sn a.sc) x.snaps
  sub := snpRep.tys
  apart := by decide
  keep h k := ⟨h.1, h.2.1.keep (k.sub (fun t ht => by
    unfold Rep.tys at ht ⊢
    rw [show snpRep.sub t = entRep.tys t from rfl]
    unfold Rep.tys
    rw [ht]
    rfl) (Nat.le_refl _)), h.2.2.keep k⟩
  weaken h k := ⟨h.1, h.2.1.weaken k, h.2.2.weaken k⟩
def tnvRep : Rep Tnv TenV where
  K := tnvK
  R w base a x := a.key = x.key ∧ a.quota = x.quota ∧ stvRep.Grow w base (.slice a.ao a.n a.cap) x.sets
  sub := stvRep.tys
  apart := by decide
  keep h k := ⟨h.1, h.2.1, h.2.2.keep k⟩
  weaken h k := ⟨h.1, h.2.1, h.2.2.weaken k⟩
/-- a block as it lies in a row -/
structure Bkv where
  refs : Int
  level : Int
  ko : Option Addr
  kn : Nat
  kc : Nat
  bo : Option Addr
  bn : Nat
  bc : Nat
def bkvK : Kind Bkv where
  cells x := [.int .i64 x.refs, .int .i64 x.level, .slice x.ko x.kn x.kc, .slice x.bo x.bn x.bc]
  k := 4
  zero := ⟨0, 0, none, 0, 0, none, 0, 0⟩
  elem := 93
  pos := by omega
  len _ := rfl
  one x v hv := by
    simp only [List.mem_cons, List.not_mem_nil, or_false] at hv
    rcases hv with rfl | rfl | rfl | rfl <;> rfl
theorem own_still {k : IntKind} {e base : Nat} {w w' : World} {v : Value} {xs : List Int} {ty : TypeId → Bool} (h : Own k e base w v xs) (hk : StillT ty base w w') (he : ty e = true) : Own k e base w' v xs :=
  owns_keep h fun g hg hl cs f hc => hk.2 g hg hl cs _ f hc he
def bkvRep : Rep Bkv Blk where
  K := bkvK
  R w base a x := a.refs = x.refs ∧ a.level = x.level ∧ Own .i64 3 base w (.slice a.ko a.kn a.kc) x.kids ∧ Own .u8 5 base w (.slice a.bo a.bn a.bc) x.bytes
  sub t := t == 3 || t == 5
  apart := by decide
  keep h k := ⟨h.1, h.2.1, own_still h.2.2.1 k (by decide), own_still h.2.2.2 k (by decide)⟩
  weaken h k := ⟨h.1, h.2.1, h.2.2.1.weaken k, h.2.2.2.weaken k⟩

theorem slice_n {ao : Option Addr} {n c : Nat} {m : Nat} {ao' : Option Addr} {c' : Nat} (h : (Value.slice ao n c) = .slice ao' m c') : ao = ao' ∧ n = m ∧ c = c' := by
  simp only [Value.slice.injEq] at h
  exact h
theorem ent_of {w : World} {base n cap : Nat} {ao : Option Addr} {l : List Ent} (h : entRep.Grow w base (.slice ao n cap) l) : l.length = n ∧ EntRow w ao l ∧ Capd ao n cap := by
  obtain ⟨ao', cap', e, hc, -, vs, h1, h2, h3⟩ := h.shape
  obtain ⟨rfl, rfl, rfl⟩ := slice_n e
  have : vs = l := List.ext_getElem h1 fun i a b => h3 i a b
  subst this
  exact ⟨rfl, h2, hc⟩
theorem snp_of {w : World} {base n cap : Nat} {ao : Option Addr} {l : List Snp} (h : snpRep.Grow w base (.slice ao n cap) l) : l.length = n ∧ SnpRow w ao l ∧ Capd ao n cap := by
  obtain ⟨ao', cap', e, hc, -, vs, h1, h2, h3⟩ := h.shape
  obtain ⟨rfl, rfl, rfl⟩ := slice_n e
  refine ⟨rfl, ⟨vs, h1, h2, fun i a b => ?_⟩, hc⟩
  obtain ⟨e1, e2⟩ := h3 i a b
  obtain ⟨f1, f2, f3⟩ := ent_of e2
  exact ⟨e1, f1.symm, f2, f3⟩
theorem sets_of {w : World} {base n cap : Nat} {ao : Option Addr} {l : List SetV} (h : stvRep.Grow w base (.slice ao n cap) l) : l.length = n ∧ SetRow w ao l ∧ Capd ao n cap := by
  obtain ⟨ao', cap', e, hc, -, vs, h1, h2, h3⟩ := h.shape
  obtain ⟨rfl, rfl, rfl⟩ := slice_n e
  refine ⟨rfl, ⟨vs, h1, h2, fun i a b => ?_⟩, hc⟩
  obtain ⟨e1, e2, e3⟩ := h3 i a b
  obtain ⟨f1, f2, f3⟩ := ent_of e2
  obtain ⟨g1, g2, g3⟩ := snp_of e3
  exact ⟨e1, f1, g1, f2, g2, f3, g3⟩
theorem tens_of {w : World} {base n cap : Nat} {ao : Option Addr} {l : List TenV} (h : tnvRep.Grow w base (.slice ao n cap) l) : l.length = n ∧ TenRow w ao l ∧ Capd ao n cap := by
  obtain ⟨ao', cap', e, hc, -, vs, h1, h2, h3⟩ := h.shape
  obtain ⟨rfl, rfl, rfl⟩ := slice_n e
  refine ⟨rfl, ⟨vs, h1, h2, fun i a b => ?_⟩, hc⟩
  obtain ⟨e1, e2, e3⟩ := h3 i a b
  obtain ⟨f1, f2, f3⟩ := sets_of e3
  exact ⟨e1, e2, f1, f2, f3⟩
theorem own_sl {k : IntKind} {e base n cap : Nat} {w : World} {ao : Option Addr} {xs : List Int} (h : Own k e base w (.slice ao n cap) xs) : Sl k w (.slice ao n cap) xs := by
  obtain ⟨a, c, e, h1, -, h3, h4⟩ := h.shape'
  obtain ⟨rfl, rfl, rfl⟩ := slice_n e
  exact ⟨_, _, rfl, h3, h1, h4⟩
theorem blks_of {w : World} {base n cap : Nat} {ao : Option Addr} {l : List Blk} (h : bkvRep.Grow w base (.slice ao n cap) l) : l.length = n ∧ StoRow w ao l ∧ Capd ao n cap := by
  obtain ⟨ao', cap', e, hc, -, vs, h1, h2, h3⟩ := h.shape
  obtain ⟨rfl, rfl, rfl⟩ := slice_n e
  refine ⟨rfl, ?_, hc⟩
  by_cases hl : vs = []
  · subst hl
    exact .inl (List.eq_nil_of_length_eq_zero h1.symm)
  obtain ⟨b, o, rfl, -, hr⟩ := Kind.Row.at h2 (List.length_pos_iff.2 hl)
  refine .inr ⟨b, o, rfl, fun i hi => ?_⟩
  have hiv : i < vs.length := by omega
  obtain ⟨e1, e2, e3, e4⟩ := h3 i hiv hi
  have key : ∀ j, j < 4 → ∀ v, (bkvK.cells vs[i])[j]? = some v → w.cell? ⟨b, o + i * 4 + j, none⟩ = some v := by
    intro j hj v hv
    rw [Nat.add_assoc]
    exact hr _ v ((bkvK.all_at vs i hiv j hj).trans hv)
  refine ⟨?_, ?_, ⟨_, key 2 (by omega) _ rfl, own_sl e3⟩, ⟨_, key 3 (by omega) _ rfl, own_sl e4⟩⟩
  · rw [← e1]; exact key 0 (by omega) _ rfl
  · rw [← e2]; exact key 1 (by omega) _ rfl
end Go.Proofs.Ytfmgdjgedhnmeaa
