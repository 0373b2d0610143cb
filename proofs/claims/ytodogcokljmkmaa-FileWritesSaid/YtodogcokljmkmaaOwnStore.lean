/- rookeryref.OwnStore: a store in memory of its own. -/
import Derived.Test.YtodogcokljmkmaaPut
import Derived.Maps.AppendAt
import Derived.Deep.RegionLaw
import Derived.Deep.DeepCutAuto
namespace Go.Proofs.Ytodogcokljmkmaa
open Go.RowKit
set_option linter.unusedVariables false

/-- the integers lie in another block than v's own -/
def OffSl (k : IntKind) (w : World) (v kv : Value) (xs : List Int) : Prop :=
  ∃ ao cap, kv = .slice ao xs.length cap ∧ Capd ao xs.length cap ∧ (xs = [] ∨ ∃ b o, ao = some ⟨b, o, none⟩ ∧ v.ownBlock ≠ some b ∧ ∀ i (h : i < xs.length), w.cell? ⟨b, o + i, none⟩ = some (.int k xs[i]))

/-- a store that grows -/
def GrowS (w : World) (base : Nat) (v : Value) (s : List Blk) : Prop :=
  ∃ cs, w.ownsRow base 87 4 v s.length cs ∧ ∀ i (h : i < s.length), ∃ kv bv, cs[i * 4]? = some (.int .i64 s[i].refs) ∧ cs[i * 4 + 1]? = some (.int .i64 s[i].level) ∧ cs[i * 4 + 2]? = some kv ∧ cs[i * 4 + 3]? = some bv ∧
    OffSl .i64 w v kv s[i].kids ∧ OffSl .u8 w v bv s[i].bytes

theorem OffSl.turn {k : IntKind} {w w' : World} {v v' kv : Value} {xs : List Int} (h : OffSl k w v kv xs) (hg : w.grownBy w' v.ownBlock) (hv : v'.ownBlock = v.ownBlock ∨ v'.ownBlock = some w.heap.size) : OffSl k w' v' kv xs := by
  obtain ⟨ao, cap, h1, h2, h3⟩ := h
  refine ⟨ao, cap, h1, h2, ?_⟩
  rcases h3 with h3 | ⟨b, o, rfl, hb, hc⟩
  · exact .inl h3
  · rcases Nat.eq_zero_or_pos xs.length with h0 | h0
    · exact .inl (List.eq_nil_of_length_eq_zero h0)
    · have lb : b < w.heap.size := World.block_lt_of_cell? _ _ (hc 0 h0)
      refine .inr ⟨b, o, rfl, ?_, fun i hi => ?_⟩
      · rcases hv with e | e
        · rw [e]; exact hb
        · rw [e]; intro e2; simp at e2; omega
      · rw [World.cell?_of_block (a := ⟨b, o + i, none⟩) (hg.block b lb (Ne.symm hb))]; exact hc i hi

theorem OffSl.mono {k : IntKind} {w w' : World} {v kv : Value} {xs : List Int} (h : OffSl k w v kv xs) (hb : Below w.heap.size w w') : OffSl k w' v kv xs := by
  obtain ⟨ao, cap, h1, h2, h3⟩ := h
  refine ⟨ao, cap, h1, h2, ?_⟩
  rcases h3 with h3 | ⟨b, o, rfl, hn, hc⟩
  · exact .inl h3
  · refine .inr ⟨b, o, rfl, hn, fun i hi => ?_⟩
    rw [(bcell hb).1 b _ (World.block_lt_of_cell? _ _ (hc i hi))]; exact hc i hi

/-- a slice that was made behind v's own block -/
theorem Own.off {k : IntKind} {e base : Nat} {w : World} {v kv : Value} {xs : List Int} (h : Own k e base w kv xs) (hv : ∀ g, v.ownBlock = some g → g < base) : OffSl k w v kv xs := by
  rcases h.block with ⟨rfl, rfl⟩ | ⟨b, cap, cur, rfl, hb, hh, hn, hc, hs, ht⟩
  · exact ⟨none, 0, rfl, ⟨Nat.le_refl _, fun _ => rfl⟩, .inl rfl⟩
  · exact ⟨_, cap, rfl, ⟨hn, fun h => by cases h⟩, .inr ⟨b, 0, rfl, fun e => by have := hv b e; omega, fun i hi => by rw [Nat.zero_add]; exact h.cell i hi⟩⟩

theorem GrowS.nil (w : World) (base : Nat) : GrowS w base (.slice none 0 0) [] := ⟨[], World.ownsRow_nil _ _ _ _, fun i h => by simp at h⟩

theorem GrowS.mono {w w' : World} {base : Nat} {v : Value} {s : List Blk} (h : GrowS w base v s) (hb : Below w.heap.size w w') : GrowS w' base v s := by
  obtain ⟨cs, ⟨h1, h2⟩, h3⟩ := h
  refine ⟨cs, ⟨h1, ?_⟩, fun i hi => ?_⟩
  · rcases h2 with h2 | ⟨g, cap, cur, hv, hg, hh, r⟩
    · exact .inl h2
    · exact .inr ⟨g, cap, cur, hv, hg, by rw [hb.block g (lt_heap hh)]; exact hh, r⟩
  · obtain ⟨kv, bv, c0, c1, c2, c3, o1, o2⟩ := h3 i hi
    exact ⟨kv, bv, c0, c1, c2, c3, o1.mono hb, o2.mono hb⟩

/-- one more is appended -/
theorem GrowS.snoc {w w' : World} {base : Nat} {v v' : Value} {s : List Blk} {x : Blk} {cs : List Value} {kv bv : Value} (h : ∀ i (h : i < s.length), ∃ kv bv, cs[i * 4]? = some (.int .i64 s[i].refs) ∧ cs[i * 4 + 1]? = some (.int .i64 s[i].level) ∧ cs[i * 4 + 2]? = some kv ∧ cs[i * 4 + 3]? = some bv ∧
    OffSl .i64 w v kv s[i].kids ∧ OffSl .u8 w v bv s[i].bytes) (hl : cs.length = s.length * 4) (hk : OffSl .i64 w v kv x.kids) (hb : OffSl .u8 w v bv x.bytes) (hg : w.grownBy w' v.ownBlock) (hv : v'.ownBlock = v.ownBlock ∨ v'.ownBlock = some w.heap.size)
    (hown : w'.ownsRow base 87 4 v' (s.length + 1) (cs ++ [.int .i64 x.refs, .int .i64 x.level, kv, bv])) : GrowS w' base v' (s ++ [x]) := by
  refine ⟨_, by rw [List.length_append]; exact hown, fun i hi => ?_⟩
  by_cases hlt : i < s.length
  · obtain ⟨kv', bv', c0, c1, c2, c3, o1, o2⟩ := h i hlt
    rw [List.getElem_append_left hlt]
    exact ⟨kv', bv', by rw [List.getElem?_append_left (by omega)]; exact c0, by rw [List.getElem?_append_left (by omega)]; exact c1, by rw [List.getElem?_append_left (by omega)]; exact c2, by rw [List.getElem?_append_left (by omega)]; exact c3, o1.turn hg hv, o2.turn hg hv⟩
  · rw [List.length_append] at hi
    simp only [List.length_cons, List.length_nil] at hi
    obtain rfl : i = s.length := by omega
    rw [List.getElem_append_right (by omega)]
    simp only [Nat.sub_self, List.getElem_cons_zero]
    refine ⟨kv, bv, ?_, ?_, ?_, ?_, hk.turn hg hv, hb.turn hg hv⟩
    · rw [List.getElem?_append_right (by omega), hl, show s.length * 4 - s.length * 4 = 0 from by omega]; rfl
    · rw [List.getElem?_append_right (by omega), hl, show s.length * 4 + 1 - s.length * 4 = 1 from by omega]; rfl
    · rw [List.getElem?_append_right (by omega), hl, show s.length * 4 + 2 - s.length * 4 = 2 from by omega]; rfl
    · rw [List.getElem?_append_right (by omega), hl, show s.length * 4 + 3 - s.length * 4 = 3 from by omega]; rfl

theorem OffSl.slx {k : IntKind} {w : World} {g n cap : Nat} {kv : Value} {xs : List Int} (h : OffSl k w (.slice (some ⟨g, 0, none⟩) n cap) kv xs) : SlX g k w kv xs := by
  obtain ⟨ao, c, h1, h2, h3⟩ := h
  refine ⟨ao, c, h1, ?_, h2⟩
  rcases h3 with h3 | ⟨b, o, rfl, hb, hc⟩
  · exact .inl h3
  · exact .inr ⟨b, o, rfl, fun e => hb (by rw [e]; rfl), hc⟩

theorem GrowS.own {w : World} {base : Nat} {v : Value} {s : List Blk} (h : GrowS w base v s) : OwnSto w base v s := by
  obtain ⟨cs, ⟨h1, h2⟩, h3⟩ := h
  rcases h2 with ⟨rfl, h2⟩ | ⟨g, cap, cur, rfl, hg, hh, hn, hc, hs, ht⟩
  · have hss : s = [] := List.eq_nil_of_length_eq_zero h2
    subst hss
    exact OwnSto.none _ _
  · refine ⟨_, cap, rfl, ⟨hn, fun h => by cases h⟩, .inr ⟨g, rfl, ⟨hg, ⟨cur, hh⟩, fun i hi => ?_⟩⟩⟩
    obtain ⟨kv, bv, c0, c1, c2, c3, o1, o2⟩ := h3 i hi
    have key : ∀ r, r < 4 → ∀ u, cs[i * 4 + r]? = some u → w.cell? ⟨g, i * 4 + r, none⟩ = some u := by
      intro r hr u hu
      rw [cell_of_block hh]
      have e1 : (cur.toList.take (s.length * 4))[i * 4 + r]? = cs[i * 4 + r]? := by rw [ht]
      rw [List.getElem?_take, if_pos (by omega), hu] at e1
      simpa using e1
    exact ⟨key 0 (by omega) _ c0, key 1 (by omega) _ c1, ⟨kv, key 2 (by omega) _ c2, o1.slx⟩, ⟨bv, key 3 (by omega) _ c3, o2.slx⟩⟩

theorem OffSl.box {k : IntKind} {w : World} {v kv : Value} {xs : List Int} {pb : Nat} {a : Option Addr} {n c : Nat} {t : TypeId} (h : OffSl k w v kv xs) (hp : w.heap[pb]? = some (.cells #[.slice a n c] t (0, 0))) (u : Value) : OffSl k (w.setCell ⟨pb, 0, none⟩ u) v kv xs := by
  obtain ⟨ao, cap, h1, h2, h3⟩ := h
  refine ⟨ao, cap, h1, h2, ?_⟩
  rcases h3 with h3 | ⟨b, o, rfl, hb, hc⟩
  · exact .inl h3
  · refine .inr ⟨b, o, rfl, hb, fun i hi => ?_⟩
    have h4 := hc i hi
    have hne : b ≠ pb := by
      intro e
      subst e
      rw [cell_of_block hp] at h4
      rcases Nat.eq_zero_or_pos (o + i) with h0 | h0
      · rw [h0] at h4; simp at h4
      · rw [Array.getElem?_eq_none (by simp; omega)] at h4; cases h4
    rw [World.cell?_of_block (a := ⟨b, o + i, none⟩) (Below.heap_setCell _ _ _ _ (show b ≠ pb from hne))]
    exact h4

/-- a box below is written -/
theorem GrowS.box {w : World} {base pb : Nat} {v0 : Value} {s : List Blk} {a : Option Addr} {n c : Nat} {t : TypeId} (h : GrowS w base v0 s) (hp : w.heap[pb]? = some (.cells #[.slice a n c] t (0, 0))) (hpg : pb < base) (v : Value) : GrowS (w.setCell ⟨pb, 0, none⟩ v) base v0 s := by
  obtain ⟨cs, ⟨h1, h2⟩, h3⟩ := h
  refine ⟨cs, ⟨h1, ?_⟩, fun i hi => ?_⟩
  · rcases h2 with h2 | ⟨g, cap, cur, hv, hg, hh, r⟩
    · exact .inl h2
    · exact .inr ⟨g, cap, cur, hv, hg, heap_setCell_ne hh (show g ≠ pb by omega), r⟩
  · obtain ⟨kv, bv, c0, c1, c2, c3, o1, o2⟩ := h3 i hi
    exact ⟨kv, bv, c0, c1, c2, c3, o1.box hp v, o2.box hp v⟩

theorem GrowS.shape {w : World} {base : Nat} {v : Value} {s : List Blk} (h : GrowS w base v s) : ∃ ao cap, v = .slice ao s.length cap ∧ ∀ g, v.ownBlock = some g → base ≤ g ∧ g < w.heap.size := by
  obtain ⟨cs, ⟨h1, h2⟩, h3⟩ := h
  rcases h2 with ⟨rfl, h2⟩ | ⟨g, cap, cur, rfl, hg, hh, hn, hc, hs, ht⟩
  · exact ⟨none, 0, by rw [h2], fun g h => by cases h⟩
  · exact ⟨_, cap, rfl, fun g' h => by
      simp only [Value.ownBlock, Option.some.injEq] at h
      subst h
      exact ⟨hg, lt_heap hh⟩⟩

/-- append(v, s...) onto a slice of the call's own, at a step of a region that draws its order -/
theorem step_append_ints {P : Program} {w : World} {ops : Array Oper} {o : Oper} {a : Act} {K : Act → World → Prop} {Q : Exit → Act → World → Prop} {E : Prop} (hgd : o.guard = none) (s x : Operand) (t : TypeId)
    (ho : o.op = .call { callee := .builtin .append, args := #[s, x], argTypes := #[t, t] })
    (k : IntKind) (e bytes base : Nat) (ht : P.underlying t = some (.slice e)) (hinfo : (P.info? e).map (fun i => (i.zero, i.size, i.bytes)) = some (some (.int k 0), 1, bytes))
    (v : Value) (xs ys : List Int) (ao : Option Addr) (c : Nat) (hs : a.eval s = v) (hown : Own k e base w v xs) (hx : a.eval x = .slice ao ys.length c) (hrow : Row k w ao ys) (hc0 : ao = none → c = 0)
    (h63 : xs.length + ys.length ≤ maxLen) (hbytes : (xs.length + ys.length) * bytes ≤ 140737488355328) (hbase : base ≤ w.heap.size)
    (h : ∀ v' w', Own k e base w' v' (xs ++ ys) → w.grownBy w' v.ownBlock → (v'.ownBlock = v.ownBlock ∨ v'.ownBlock = some w.heap.size) → K (a.put o.dst v') w') :
    if Region.wanted o (yielded ops a.tmps) = true then Oper.wp P o a w K Q else E := by
  have hw : Region.wanted o (yielded ops a.tmps) = true := by simp [Region.wanted, hgd]
  rw [if_pos hw]
  obtain ⟨i0, hi, hz0, hz1, hz2⟩ := info_parts hinfo
  have key : ∃ v' w', (Builtin.append_ #[t, t] o.type #[v, .slice ao ys.length c]).run P w = .ok v' w' ∧ Own k e base w' v' (xs ++ ys) ∧ w.grownBy w' v.ownBlock ∧ (v'.ownBlock = v.ownBlock ∨ v'.ownBlock = some w.heap.size) := by
    cases ao with
    | none =>
      have hy : ys = [] := by
        rcases hrow with h | ⟨_, _, h, _⟩
        · exact h
        · cases h
      subst hy
      obtain rfl := hc0 rfl
      exact ⟨v, w, run_append_owned_none (P := P) w base t o.type e i0 1 ht hi _ _ _ hown, by simpa using hown, ⟨rfl, rfl, rfl, Nat.le_refl _, fun _ _ _ => rfl⟩, .inl rfl⟩
    | some ad =>
      obtain ⟨v', w', hr, h2, h3, h4, h5⟩ := run_append_own_at (P := P) w base t o.type e i0 (.int k 0) 1 bytes ht hi hz0 hz1 hz2 rfl (by decide) v _ _ hown ad ys.length c (ys.map (Value.int k)) (by simp) (by
        intro j u hj
        have hlt : j < ys.length := by simpa using (List.getElem?_eq_some_iff.1 hj).1
        obtain ⟨b, o, hao, hc⟩ := hrow.at j hlt
        obtain rfl := Option.some.inj hao
        have e1 : (⟨b, o, none⟩ : Addr).add j = ⟨b, o + j, none⟩ := by unfold Addr.add; split <;> simp_all
        rw [e1, hc j hlt]
        simpa [hlt] using hj) (ints_oneCell k ys) h63 hbytes hbase
      exact ⟨v', w', hr, by unfold Own; simpa using h2, h3, h5⟩
  obtain ⟨v', w', hr, h2, h3, h4⟩ := key
  unfold Oper.wp execOp
  simp only [ho, resolve, invoke, builtin, Sem.run_bind, Sem.run_pure, Result.andThen_ok, List.map_toArray, List.map_cons, List.map_nil, hs, hx, hr]
  exact h v' w' h2 h3 h4

theorem news_blk {w : World} {B : Nat} {cs : Array Value} {t : TypeId} (hb : w.heap[B]? = some (.cells cs t (0, 0))) : ∀ j u, cs.toList[j]? = some u → w.cell? ((⟨B, 0, none⟩ : Addr).add j) = some u := by
  intro j u hu
  have e1 : (⟨B, 0, none⟩ : Addr).add j = ⟨B, j, none⟩ := by unfold Addr.add; split <;> simp_all
  rw [e1, cell_of_block hb]
  simpa using hu

theorem own_lit (k : IntKind) (e base : Nat) (w : World) (h : Nat) (hh : w.heap[h]? = some (.cells #[] e (0, 0))) (hb : base ≤ h) : Own k e base w (.slice (some ⟨h, 0, none⟩) 0 0) [] :=
  ⟨by simp, .inr ⟨h, 0, #[], rfl, hb, hh, Nat.le_refl _, Nat.zero_le _, rfl, by simp⟩⟩

/-- a slice in new blocks -/
def NewSl (k : IntKind) (w : World) (base : Nat) (v : Value) (xs : List Int) : Prop :=
  ∃ ao cap, v = .slice ao xs.length cap ∧ Capd ao xs.length cap ∧ (xs = [] ∨ ∃ b o, ao = some ⟨b, o, none⟩ ∧ base ≤ b ∧ ∀ i (h : i < xs.length), w.cell? ⟨b, o + i, none⟩ = some (.int k xs[i]))
theorem Own.new {k : IntKind} {e base : Nat} {w : World} {v : Value} {xs : List Int} (h : Own k e base w v xs) : NewSl k w base v xs := by
  rcases h.block with ⟨rfl, rfl⟩ | ⟨b, cap, cur, rfl, hb, hh, hn, hc, hs, ht⟩
  · exact ⟨none, 0, rfl, ⟨Nat.le_refl _, fun _ => rfl⟩, .inl rfl⟩
  · exact ⟨_, cap, rfl, ⟨hn, fun h => by cases h⟩, .inr ⟨b, 0, rfl, hb, fun i hi => by rw [Nat.zero_add]; exact h.cell i hi⟩⟩
theorem NewSl.keep {k : IntKind} {w w' : World} {base : Nat} {v : Value} {xs : List Int} (h : NewSl k w base v xs) {r : Option Nat} (hg : w.grownBy w' r) (hr : v.ownBlock = none ∨ v.ownBlock ≠ r) : NewSl k w' base v xs := by
  obtain ⟨ao, cap, rfl, h2, h3⟩ := h
  refine ⟨ao, cap, rfl, h2, ?_⟩
  rcases h3 with h3 | ⟨b, o, rfl, hb, hc⟩
  · exact .inl h3
  · refine .inr ⟨b, o, rfl, hb, fun i hi => ?_⟩
    rw [World.cell?_of_block (a := ⟨b, o + i, none⟩) (hg.block b (World.block_lt_of_cell? _ _ (hc i hi)) ?_)]
    · exact hc i hi
    · rcases hr with hr | hr
      · cases hr
      · exact hr
theorem own_ne {v : Value} {l0 z l : Nat} (h : v.ownBlock = (Value.slice (some ⟨l0, 0, none⟩) 0 0).ownBlock ∨ v.ownBlock = some z) (h1 : l0 ≠ l) (h2 : z ≠ l) : v.ownBlock ≠ some l := by
  intro e
  rcases h with h | h
  · rw [e] at h; simp [Value.ownBlock] at h; omega
  · rw [e] at h; simp at h; omega
theorem NewSl.off {k : IntKind} {w : World} {base : Nat} {v kv : Value} {xs : List Int} (h : NewSl k w base kv xs) (hv : ∀ g, v.ownBlock = some g → g < base) : OffSl k w v kv xs := by
  obtain ⟨ao, cap, h1, h2, h3⟩ := h
  refine ⟨ao, cap, h1, h2, h3.imp id ?_⟩
  rintro ⟨b, o, rfl, hb, hc⟩
  exact ⟨b, o, rfl, fun e => by have := hv b e; omega, hc⟩
theorem NewSl.setCell {k : IntKind} {w : World} {base : Nat} {v : Value} {xs : List Int} (h : NewSl k w base v xs) (p : Addr) (hp : p.block < base) (u : Value) : NewSl k (w.setCell p u) base v xs := by
  obtain ⟨ao, cap, rfl, h2, h3⟩ := h
  refine ⟨ao, cap, rfl, h2, h3.imp id ?_⟩
  rintro ⟨b, o, rfl, hb, hc⟩
  refine ⟨b, o, rfl, hb, fun i hi => ?_⟩
  rw [World.cell?_of_block (a := ⟨b, o + i, none⟩) (Below.heap_setCell _ _ _ _ (show b ≠ p.block by omega))]
  exact hc i hi
theorem NewSl.mono {k : IntKind} {w w' : World} {base : Nat} {v : Value} {xs : List Int} (h : NewSl k w base v xs) (hb : Below w.heap.size w w') : NewSl k w' base v xs := by
  obtain ⟨ao, cap, rfl, h2, h3⟩ := h
  refine ⟨ao, cap, rfl, h2, h3.imp id ?_⟩
  rintro ⟨b, o, rfl, hb', hc⟩
  exact ⟨b, o, rfl, hb', fun i hi => ((bcell hb).1 b _ (World.block_lt_of_cell? _ _ (hc i hi))).trans (hc i hi)⟩
theorem grown_on {B : Nat} {a b c : World} {h : Nat} (h0 : Below B a b) (hg : b.grownBy c (some h)) (hh : B ≤ h) (hB : B ≤ b.heap.size) : Below B a c := h0.trans (grown_below hg hh hB)

/-- what stands behind the two copies -/
def CutAt (B : Nat) (W1 : World) (x : Blk) (s5 : Value) (wx : World) : Prop :=
  s5 = .pointer (some ⟨B, 0, none⟩) ∧ ∃ a4 c4 a5 c5, wx.heap[B]? = some (.cells #[.int .i64 x.refs, .int .i64 x.level, .slice a4 x.kids.length c4, .slice a5 x.bytes.length c5] 87 (0, 0)) ∧
    NewSl .i64 wx W1.heap.size (.slice a4 x.kids.length c4) x.kids ∧ NewSl .u8 wx W1.heap.size (.slice a5 x.bytes.length c5) x.bytes ∧ Below B W1 wx
theorem CutAt.mk {B : Nat} {W1 w5 : World} {x : Blk} {ka ba a4 a5 : Option Addr} {kc bc c4 c5 : Nat} (s2 : W1.heap[B]? = some (.cells #[.int .i64 x.refs, .int .i64 x.level, .slice ka x.kids.length kc, .slice ba x.bytes.length bc] 87 (0, 0))) (hB : B < W1.heap.size) (hb : Below W1.heap.size W1 w5)
    (n4 : NewSl .i64 w5 W1.heap.size (.slice a4 x.kids.length c4) x.kids) (n5 : NewSl .u8 w5 W1.heap.size (.slice a5 x.bytes.length c5) x.bytes) :
    CutAt B W1 x (.pointer (some ⟨B, 0, none⟩)) ((w5.setCell ⟨B, 2, none⟩ (.slice a4 x.kids.length c4)).setCell ⟨B, 3, none⟩ (.slice a5 x.bytes.length c5)) := by
  refine ⟨rfl, a4, c4, a5, c5, ?_, (n4.setCell ⟨B, 2, none⟩ hB _).setCell ⟨B, 3, none⟩ hB _, (n5.setCell ⟨B, 2, none⟩ hB _).setCell ⟨B, 3, none⟩ hB _, ((hb.mono (Nat.le_of_lt hB)).setCell (p := ⟨B, 2, none⟩) (Nat.le_refl _) _).setCell (p := ⟨B, 3, none⟩) (Nat.le_refl _) _⟩
  have h1 := heap_setCell_same' ((hb.block B hB).trans s2) 2 (.slice a4 x.kids.length c4)
  have h2 := heap_setCell_same' h1 3 (.slice a5 x.bytes.length c5)
  exact h2

theorem rowShape {w : World} {base e size n : Nat} {v : Value} {xs : List Value} (h : w.ownsRow base e size v n xs) (hn : 0 < n) : ∃ ao cap, v = .slice ao n cap := by
  rcases h.2 with ⟨_, h⟩ | ⟨g, cap', cur, hv, _⟩
  · omega
  · exact ⟨_, _, hv⟩
theorem grow_low {wc wa w' : World} {v : Value} {B0 : Nat} (hba : Below wc.heap.size wc wa) (hgrow : wa.grownBy w' v.ownBlock) {q : Nat → Prop} (hvb : ∀ g, v.ownBlock = some g → B0 ≤ g ∧ q g) {b : Nat} (h1 : b < wc.heap.size) (h2 : b < B0) : w'.heap[b]? = wc.heap[b]? := by
  rw [hgrow.block b (Nat.lt_of_lt_of_le h1 hba.size) ?_, hba.block b h1]
  intro e
  have := (hvb b e.symm).1
  omega

set_option maxRecDepth 100000 in
set_option maxHeartbeats 8000000 in
theorem ownStore_any (w : World) (ao : Option Addr) (n cap : Nat) (s : List Blk) (hn : s.length = n) (h63 : n ≤ 2199023255552) (hs : StoRow w ao s) (hwf : WfS s) :
    Calls Try.prog 29 #[.agg #[.slice ao n cap]] w fun e w' => ∃ v, e = .returned (.agg #[v]) ∧ OwnSto w' w.heap.size v s ∧ Below w.heap.size w w' := by
  have HN := Lib.hid hn
  clear hn
  have hb0 : Below w.heap.size w (((w.alloc (.cells #[.slice ao n cap] 24)).alloc (.cells #[.slice none 0 0] 24)).alloc (.cells #[.slice none 0 0] 24)) := (((Below.refl _ _).alloc (Nat.le_refl _) _).alloc (by simp) _).alloc (by simp; omega) _
  have h1 : (((w.alloc (.cells #[.slice ao n cap] 24)).alloc (.cells #[.slice none 0 0] 24)).alloc (.cells #[.slice none 0 0] 24)).heap[w.heap.size + 1]? = some (.cells #[.slice none 0 0] 24 (0, 0)) := (Below.heap_alloc _ _ _ (by simp)).trans (heap_alloc2_new _ _ _)
  have h2 : (((w.alloc (.cells #[.slice ao n cap] 24)).alloc (.cells #[.slice none 0 0] 24)).alloc (.cells #[.slice none 0 0] 24)).heap[w.heap.size + 2]? = some (.cells #[.slice none 0 0] 24 (0, 0)) := by simpa using heap_alloc_new ((w.alloc (.cells #[.slice ao n cap] 24)).alloc (.cells #[.slice none 0 0] 24)) (.cells #[.slice none 0 0] 24)
  have hz : (((w.alloc (.cells #[.slice ao n cap] 24)).alloc (.cells #[.slice none 0 0] 24)).alloc (.cells #[.slice none 0 0] 24)).heap.size = w.heap.size + 3 := by simp
  have HZ := Lib.hid hz
  clear hz
  go_enter Try.func29, Try.ntmps29
  go_wp2
  generalize ((w.alloc (Obj.cells #[Value.slice ao n cap] 24)).alloc (Obj.cells #[Value.slice none 0 0] 24)).alloc (Obj.cells #[Value.slice none 0 0] 24) = W0 at *
  go_loopw [9] (fun i wr => ∃ k v, k ≤ n ∧ i = .int .i64 (k : Nat) ∧ wr.heap[w.heap.size + 2]? = some (.cells #[v] 24 (0, 0)) ∧ wr.heap[w.heap.size + 1]? = some (.cells #[.slice none 0 0] 24 (0, 0)) ∧ GrowS wr W0.heap.size v (s.take k) ∧ Below w.heap.size w wr ∧ W0.heap.size ≤ wr.heap.size) (fun i _ => n - (intOf i).toNat)
  case atStart => exact ⟨0, _, Nat.zero_le _, rfl, h2, h1, GrowS.nil _ _, hb0, Nat.le_refl _⟩
  case round =>
    clear h1 h2
    obtain ⟨k, v, hkn, rfl, q2, q1, hgs, hbel, hzz⟩ := hrel
    have hs := hs.mono hbel
    by_cases hlt : k < n
    · have hks : k < s.length := by have := HN.out; omega
      obtain ⟨b, o, rfl, hq⟩ := hs.at k hks
      have hB := hq k hks
      have lb := hB.lt
      have c0 := hB.refs
      have c1 := hB.level
      obtain ⟨v2, c2, kao, kcap, rfl, hrow, hcd⟩ := hB.kids
      obtain ⟨v3, c3, bao, bcap, rfl, hrow3, hcd3⟩ := hB.bytes
      clear hq hB
      have hk1 := (hwf.at k hks).klen
      have hk2 := (hwf.at k hks).blen
      generalize hx : s[k] = x at *
      have HX := Lib.hid hx
      clear hx
      have hb1 : Below (wr.heap.size + 1) (wr.alloc (.cells #[.int .i64 x.refs, .int .i64 x.level, .slice kao x.kids.length kcap, .slice bao x.bytes.length bcap] 87)) (wr.alloc (.cells #[.int .i64 x.refs, .int .i64 x.level, .slice kao x.kids.length kcap, .slice bao x.bytes.length bcap] 87)) := Below.refl _ _
      have hrow := hrow.mono (w' := wr.alloc (.cells #[.int .i64 x.refs, .int .i64 x.level, .slice kao x.kids.length kcap, .slice bao x.bytes.length bcap] 87)) ((Below.refl _ _).alloc (Nat.le_refl _) _)
      have hrow3 := hrow3.mono (w' := wr.alloc (.cells #[.int .i64 x.refs, .int .i64 x.level, .slice kao x.kids.length kcap, .slice bao x.bytes.length bcap] 87)) ((Below.refl _ _).alloc (Nat.le_refl _) _)
      have hbx : Below wr.heap.size wr (wr.alloc (.cells #[.int .i64 x.refs, .int .i64 x.level, .slice kao x.kids.length kcap, .slice bao x.bytes.length bcap] 87)) := (Below.refl _ _).alloc (Nat.le_refl _) _
      have s2 : (wr.alloc (.cells #[.int .i64 x.refs, .int .i64 x.level, .slice kao x.kids.length kcap, .slice bao x.bytes.length bcap] 87)).heap[wr.heap.size]? = some (.cells #[.int .i64 x.refs, .int .i64 x.level, .slice kao x.kids.length kcap, .slice bao x.bytes.length bcap] 87 (0, 0)) := heap_alloc_new _ _
      have hz1 : (wr.alloc (.cells #[.int .i64 x.refs, .int .i64 x.level, .slice kao x.kids.length kcap, .slice bao x.bytes.length bcap] 87)).heap.size = wr.heap.size + 1 := by simp
      have HZ1 := Lib.hid hz1
      rw [← hz1] at hb1
      clear hz1
      have p2 : (wr.alloc (.cells #[.int .i64 x.refs, .int .i64 x.level, .slice kao x.kids.length kcap, .slice bao x.bytes.length bcap] 87)).cell? ⟨wr.heap.size, 2, none⟩ = some (.slice kao x.kids.length kcap) := cell_of_block s2 2
      have p3 : (wr.alloc (.cells #[.int .i64 x.refs, .int .i64 x.level, .slice kao x.kids.length kcap, .slice bao x.bytes.length bcap] 87)).cell? ⟨wr.heap.size, 3, none⟩ = some (.slice bao x.bytes.length bcap) := cell_of_block s2 3
      have fr2 := free_of_block s2 2
      have fr3 := free_of_block s2 3
      go_upto_region 5 with fail
      generalize wr.alloc (.cells #[.int .i64 x.refs, .int .i64 x.level, .slice kao x.kids.length kcap, .slice bao x.bytes.length bcap] 87) = W1 at *
      go_cut [5] (fun s5 wx => CutAt wr.heap.size W1 x s5 wx)
      have hl0 : wr.heap.size < W1.heap.size := by have := HZ1.out; omega
      have hx1 : ([] : List Int).length + x.kids.length ≤ maxLen := by unfold maxLen; simp; omega
      have hx2 : (([] : List Int).length + x.kids.length) * 8 ≤ 140737488355328 := by simp; omega
      have hx3 : ([] : List Int).length + x.bytes.length ≤ maxLen := by unfold maxLen; simp; omega
      have hx4 : (([] : List Int).length + x.bytes.length) * 1 ≤ 140737488355328 := by simp; omega
      have bA : Below W1.heap.size W1 (W1.alloc (.cells #[] 3)).drew := ((Below.refl _ _).alloc (Nat.le_refl _) _).drew
      have bB : Below W1.heap.size W1 ((W1.alloc (.cells #[] 3)).alloc (.cells #[] 5)).drew := (((Below.refl _ _).alloc (Nat.le_refl _) _).alloc (by simp) _).drew
      have bD : Below W1.heap.size W1 ((W1.alloc (.cells #[] 5)).alloc (.cells #[] 3)).drew := (((Below.refl _ _).alloc (Nat.le_refl _) _).alloc (by simp) _).drew
      have oA : Own .i64 3 W1.heap.size (W1.alloc (.cells #[] 3)).drew (.slice (some ⟨W1.heap.size, 0, none⟩) 0 0) [] := own_lit _ _ _ _ _ (heap_alloc_new _ _) (Nat.le_refl _)
      have oB : Own .i64 3 W1.heap.size ((W1.alloc (.cells #[] 3)).alloc (.cells #[] 5)).drew (.slice (some ⟨W1.heap.size, 0, none⟩) 0 0) [] := own_lit _ _ _ _ _ ((Below.heap_alloc _ _ _ (by simp)).trans (heap_alloc_new _ _)) (Nat.le_refl _)
      have oD : Own .i64 3 W1.heap.size ((W1.alloc (.cells #[] 5)).alloc (.cells #[] 3)).drew (.slice (some ⟨W1.heap.size + 1, 0, none⟩) 0 0) [] := own_lit _ _ _ _ _ (by have h := heap_alloc_new (W1.alloc (.cells #[] 5)) (.cells #[] 3); rw [show (W1.alloc (.cells #[] 5)).heap.size = W1.heap.size + 1 from by simp] at h; exact h) (by omega)
      have hB2 : (((W1.alloc (.cells #[] 3)).alloc (.cells #[] 5)).drew).heap[W1.heap.size + 1]? = some (.cells #[] 5 (0, 0)) := by
        have h := heap_alloc_new (W1.alloc (.cells #[] 3)) (.cells #[] 5)
        rw [show (W1.alloc (.cells #[] 3)).heap.size = W1.heap.size + 1 from by simp] at h
        exact h
      have hD2 : (((W1.alloc (.cells #[] 5)).alloc (.cells #[] 3)).drew).heap[W1.heap.size]? = some (.cells #[] 5 (0, 0)) := (Below.heap_alloc _ _ _ (by simp)).trans (heap_alloc_new _ _)
      have zA : ((W1.alloc (.cells #[] 3)).drew).heap.size = W1.heap.size + 1 := by simp
      have zB : (((W1.alloc (.cells #[] 3)).alloc (.cells #[] 5)).drew).heap.size = W1.heap.size + 2 := by simp
      have zD : (((W1.alloc (.cells #[] 5)).alloc (.cells #[] 3)).drew).heap.size = W1.heap.size + 2 := by simp
      have ZA := Lib.hid zA
      have ZB := Lib.hid zB
      have ZD := Lib.hid zD
      clear zA zB zD
      case first =>
        go_region_law
          (first
            | (refine step_append_ints (w := ((W1.alloc (.cells #[] 3)).alloc (.cells #[] 5)).drew) (by rfl) _ _ _ (by rfl) .i64 3 8 W1.heap.size Try.underlying36 info_int _ [] x.kids kao kcap (by rfl) oB (by rfl) (hrow.mono bB) hcd.2 hx1 hx2 (by first | (have := ZA.out; omega) | (have := ZB.out; omega) | (have := ZD.out; omega)) ?_; intro v4 w4 hown4 hg4 hat4; simp only [List.nil_append] at hown4; obtain ⟨a4, c4, rfl, -, -, -, -⟩ := hown4.shape'; have hl4 : W1.heap.size + 2 ≤ w4.heap.size := (by have := hg4.size; have := ZB.out; omega); have hl5 : wr.heap.size < w4.heap.size := (by omega); have hb4 : Below W1.heap.size W1 w4 := grown_on (h := W1.heap.size) bB hg4 (Nat.le_refl _) (by have := ZB.out; omega); have nk := own_ne (l := W1.heap.size + 1) hat4 (by omega) (by have := ZB.out; omega); have o5 : Own .u8 5 W1.heap.size w4 (.slice (some ⟨W1.heap.size + 1, 0, none⟩) 0 0) [] := own_lit _ _ _ _ _ ((hg4.block _ (by have := ZB.out; omega) (by simp [Value.ownBlock])).trans hB2) (by omega); have k1 := (hb4.cell (p := ⟨wr.heap.size, 2, none⟩) hl0).trans p2; have k2 := (hb4.cell (p := ⟨wr.heap.size, 3, none⟩) hl0).trans p3)
            | (refine step_append_ints (w := ((W1.alloc (.cells #[] 5)).alloc (.cells #[] 3)).drew) (by rfl) _ _ _ (by rfl) .i64 3 8 W1.heap.size Try.underlying36 info_int _ [] x.kids kao kcap (by rfl) oD (by rfl) (hrow.mono bD) hcd.2 hx1 hx2 (by first | (have := ZA.out; omega) | (have := ZB.out; omega) | (have := ZD.out; omega)) ?_; intro v4 w4 hown4 hg4 hat4; simp only [List.nil_append] at hown4; obtain ⟨a4, c4, rfl, -, -, -, -⟩ := hown4.shape'; have hl4 : W1.heap.size + 2 ≤ w4.heap.size := (by have := hg4.size; have := ZD.out; omega); have hl5 : wr.heap.size < w4.heap.size := (by omega); have hb4 : Below W1.heap.size W1 w4 := grown_on (h := W1.heap.size + 1) bD hg4 (by omega) (by have := ZD.out; omega); have nk := own_ne (l := W1.heap.size) hat4 (by omega) (by have := ZD.out; omega); have o5 : Own .u8 5 W1.heap.size w4 (.slice (some ⟨W1.heap.size, 0, none⟩) 0 0) [] := own_lit _ _ _ _ _ ((hg4.block _ (by have := ZD.out; omega) (by simp [Value.ownBlock])).trans hD2) (by omega); have k1 := (hb4.cell (p := ⟨wr.heap.size, 2, none⟩) hl0).trans p2; have k2 := (hb4.cell (p := ⟨wr.heap.size, 3, none⟩) hl0).trans p3)
            | (refine step_append_ints (w := (W1.alloc (.cells #[] 3)).drew) (by rfl) _ _ _ (by rfl) .i64 3 8 W1.heap.size Try.underlying36 info_int _ [] x.kids kao kcap (by rfl) oA (by rfl) (hrow.mono bA) hcd.2 hx1 hx2 (by first | (have := ZA.out; omega) | (have := ZB.out; omega) | (have := ZD.out; omega)) ?_; intro v4 w4 hown4 hg4 hat4; simp only [List.nil_append] at hown4; obtain ⟨a4, c4, rfl, -, -, -, -⟩ := hown4.shape'; have hl4 : W1.heap.size + 1 ≤ w4.heap.size := (by have := hg4.size; have := ZA.out; omega); have hl5 : wr.heap.size < w4.heap.size := (by omega); have hb4 : Below W1.heap.size W1 w4 := grown_on (h := W1.heap.size) bA hg4 (Nat.le_refl _) (by have := ZA.out; omega); have o5 : Own .u8 5 W1.heap.size (w4.alloc (.cells #[] 5)) (.slice (some ⟨w4.heap.size, 0, none⟩) 0 0) [] := own_lit _ _ _ _ _ (heap_alloc_new _ _) (by omega); have k1 := (hb4.cell (p := ⟨wr.heap.size, 2, none⟩) hl0).trans p2; have k2 := (hb4.cell (p := ⟨wr.heap.size, 3, none⟩) hl0).trans p3)
            | (refine step_append_ints (w := w4) (by rfl) _ _ _ (by rfl) .u8 5 1 W1.heap.size Try.underlying32 info_u8 _ [] x.bytes bao bcap (by rfl) o5 (by rfl) (hrow3.mono hb4) hcd3.2 hx3 hx4 hb4.size ?_; intro v5 w5 hown5 hg5 hat5; simp only [List.nil_append] at hown5; obtain ⟨a5, c5, rfl, -, -, -, -⟩ := hown5.shape'; have n4 : NewSl .i64 w5 W1.heap.size (.slice a4 x.kids.length c4) x.kids := hown4.new.keep hg5 (.inr nk); have n5 := hown5.new; have hb5 : Below W1.heap.size W1 w5 := (by first | exact grown_on (h := W1.heap.size) hb4 hg5 (by omega) hb4.size | exact grown_on (h := W1.heap.size + 1) hb4 hg5 (by omega) hb4.size); have k1 := (hb5.cell (p := ⟨wr.heap.size, 2, none⟩) hl0).trans p2; have k2 := (hb5.cell (p := ⟨wr.heap.size, 3, none⟩) hl0).trans p3; have g1 := (hb5.frozen (p := ⟨wr.heap.size, 2, none⟩) hl0).trans fr2; have g2 := (hb5.frozen (p := ⟨wr.heap.size, 3, none⟩) hl0).trans fr3)
            | (refine step_append_ints (w := (w4.alloc (.cells #[] 5))) (by rfl) _ _ _ (by rfl) .u8 5 1 W1.heap.size Try.underlying32 info_u8 _ [] x.bytes bao bcap (by rfl) o5 (by rfl) (hrow3.mono (hb4.alloc hb4.size _)) hcd3.2 hx3 hx4 (hb4.alloc hb4.size _).size ?_; intro v5 w5 hown5 hg5 hat5; simp only [List.nil_append] at hown5; obtain ⟨a5, c5, rfl, -, -, -, -⟩ := hown5.shape'; have n4 : NewSl .i64 w5 W1.heap.size (.slice a4 x.kids.length c4) x.kids := hown4.new.mono (grown_on (h := w4.heap.size) ((Below.refl _ _).alloc (Nat.le_refl _) _) hg5 (Nat.le_refl _) (by simp)); have n5 := hown5.new; have hb5 : Below W1.heap.size W1 w5 := grown_on (h := w4.heap.size) (hb4.alloc hb4.size _) hg5 hb4.size (hb4.alloc hb4.size _).size; have k1 := (hb5.cell (p := ⟨wr.heap.size, 2, none⟩) hl0).trans p2; have k2 := (hb5.cell (p := ⟨wr.heap.size, 3, none⟩) hl0).trans p3; have g1 := (hb5.frozen (p := ⟨wr.heap.size, 2, none⟩) hl0).trans fr2; have g2 := (hb5.frozen (p := ⟨wr.heap.size, 3, none⟩) hl0).trans fr3))
        all_goals
          go_wp2_with fail
          go_meet
          exact CutAt.mk s2 hl0 hb5 n4 n5
      case rest =>
        clear p2 p3 fr2 fr3 s2
        obtain ⟨rfl, a4, c4, a5, c5, hbox, n4, n5, hbb⟩ := hcut
        have hbw : Below wr.heap.size wr wc := hbx.trans hbb
        have r2 := (hbw.block _ (lt_heap q2)).trans q2
        have r1 := (hbw.block _ (lt_heap q1)).trans q1
        have hgx := hgs.mono hbw
        have hlk : (s.take k).length = k := by simp; omega
        obtain ⟨va, vc, rfl, hvb⟩ := hgs.shape
        rw [hlk] at r2 hgx hvb
        have hba : Below wc.heap.size wc (wc.alloc (.cells #[.int .i64 x.refs, .int .i64 x.level, .slice a4 x.kids.length c4, .slice a5 x.bytes.length c5] 87)) := (Below.refl _ _).alloc (Nat.le_refl _) _
        obtain ⟨cs, hown, heach⟩ := hgx.mono hba
        rw [hlk] at hown
        have hcl : cs.length = (s.take k).length * 4 := by rw [hlk]; exact hown.1
        have ok4 := ((n4.mono hba).off (v := .slice va k vc) (fun g hg => by have := (hvb g hg).2; have := HZ1.out; omega))
        have ok5 := ((n5.mono hba).off (v := .slice va k vc) (fun g hg => by have := (hvb g hg).2; have := HZ1.out; omega))
        obtain ⟨i0, hi, hz0, hz1, hz2⟩ := info_parts info_blk
        have b0 := cell_of_block hbox 0
        have b1 := cell_of_block hbox 1
        have b2 := cell_of_block hbox 2
        have b3 := cell_of_block hbox 3
        simp only [List.getElem?_toArray, List.getElem?_cons_zero, List.getElem?_cons_succ] at b0 b1 b2 b3
        have lb := lt_heap hbox
        have d2 := cell_of_one r2
        have f2 := free_of_one r2
        have l2 := lt_heap r2
        have l1 := lt_heap r1
        have l3 : w.heap.size + 2 < W0.heap.size := by have := HZ.out; omega
        have l3' : w.heap.size + 1 < W0.heap.size := by omega
        have HLK := Lib.hid hlk
        have HGX := Lib.hid heach
        have hzx : W0.heap.size ≤ (wc.alloc (.cells #[.int .i64 x.refs, .int .i64 x.level, .slice a4 x.kids.length c4, .slice a5 x.bytes.length c5] 87)).heap.size := by have := hbw.size; have := hba.size; omega
        have hts : s.take (k + 1) = s.take k ++ [x] := by rw [List.take_succ_eq_append_getElem hks, HX.out]
        have HTS := Lib.hid hts
        clear hlk heach hts hgs hgx
        go_wp2_with (first
          | (at_builtin; go_loud (refine wpList_append_own_at _ rfl (.tmp 24) (.tmp 26) _ rfl W0.heap.size 87 i0 _ 4 64 Try.underlying22 hi hz0 hz1 hz2 rfl (by decide) _ k cs rfl hown ⟨wc.heap.size, 0, none⟩ 1 1 [.int .i64 x.refs, .int .i64 x.level, .slice a4 x.kids.length c4, .slice a5 x.bytes.length c5] rfl rfl (news_blk (heap_alloc_new wc _)) ?_ ?_ ?_ hzx ?_; rotate_right; intro v' w' hown' hgrow hnil hat; obtain ⟨va', vc', rfl⟩ := rowShape hown' (by omega); have e2 := (grow_low hba hgrow hvb l2 l3).trans r2; have e1 := (grow_low hba hgrow hvb l1 l3').trans r1; have d3 := cell_of_one e2; have f3 := free_of_one e2; have l4 := lt_heap e2)))
        · go_roundw
          case rel =>
            have hsn := GrowS.snoc HGX.out hcl ok4 ok5 hgrow hat (by rw [HLK.out]; exact hown')
            have hgz := hgrow.size
            have hbb1 : Below w.heap.size w w' := by
              have h1 : Below w.heap.size wr wc := hbw.mono hbel.size
              have h2 : Below w.heap.size wc (wc.alloc (.cells #[.int .i64 x.refs, .int .i64 x.level, .slice a4 x.kids.length c4, .slice a5 x.bytes.length c5] 87)) := hba.mono (by have := hbw.size; have := hbel.size; omega)
              refine ((hbel.trans h1).trans h2).grown hgrow (by have := hbw.size; have := hbel.size; simp; omega) fun j hj => ?_
              have := (hvb j hj).1
              omega
            refine ⟨k + 1, .slice va' (k + 1) vc', by omega, by go_num, one_setCell e2, heap_setCell_ne e1 (show w.heap.size + 1 ≠ w.heap.size + 2 by omega), ?_, hbb1.setCell (by simp; omega) _, ?_⟩
            · rw [HTS.out]
              exact hsn.box e2 (by omega) _
            · simp at hgz ⊢; have := hbw.size; omega
          case measure => simp [intOf]; omega
        · simp [Value.oneCell']
        · unfold maxLen; omega
        · omega
    · obtain rfl : k = n := by omega
      have hts : s.take k = s := List.take_of_length_le (by have := HN.out; omega)
      rw [hts] at hgs
      have d2 := cell_of_one q2
      have d1 := cell_of_one q1
      have f1 := free_of_one q1
      have l1 := lt_heap q1
      have l2 := lt_heap q2
      obtain ⟨va, vc, rfl, _⟩ := hgs.shape
      rw [HN.out] at q2 d2
      have HO := Lib.hid (hgs.box q1 (by have := HZ.out; omega) (.slice va k vc)).own
      clear hts hgs
      go_wp2
      refine bodyPost_ret (v := .agg #[.slice va k vc]) (by simp [results, Try.results29, go_sem, d1]) rfl ⟨_, rfl, (by have h := HO.out; rw [HN.out] at h; exact h.weaken (by have := HZ.out; omega)), hbel.setCell (by simp) _⟩
end Go.Proofs.Ytodogcokljmkmaa
