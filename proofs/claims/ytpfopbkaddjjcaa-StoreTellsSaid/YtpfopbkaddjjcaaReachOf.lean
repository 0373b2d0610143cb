/- rookeryref.ReachOf: what is reached, level by level. -/
import Derived.Test.YtpfopbkaddjjcaaReachP
import Derived.Test.YtpfopbkaddjjcaaSame
import Derived.Test.YtpfopbkaddjjcaaLists
import Derived.Test.YtpfopbkaddjjcaaSorts
namespace Go.Proofs.Ytpfopbkaddjjcaa
open Go.RowKit
set_option linter.unusedVariables false

/-- what is told already, and what waits: the blocks seen are l; next waits, of which t are done; more waits for the next round -/
structure Gone (s : List Blk) (roots : List Int) (L : Int) (l next more : List Int) (t : Nat) : Prop where
  nodup : l.Nodup
  there : ∀ x ∈ l, thereB s x = true
  only : ∀ x ∈ l, x ∈ allF s roots
  next0 : ∀ x ∈ next, x = 0 ∨ (thereB s x = true ∧ (blk s x).level ≤ L ∧ x ∈ allF s roots)
  more0 : ∀ x ∈ more, x = 0 ∨ (thereB s x = true ∧ (blk s x).level ≤ L - 1 ∧ x ∈ allF s roots)
  kids : ∀ x ∈ l, ∀ k ∈ (blk s x).kids, k = 0 ∨ k ∈ l ∨ k ∈ next.drop t ∨ k ∈ more
  root : ∀ x ∈ roots, x = 0 ∨ x ∈ l ∨ x ∈ next.drop t ∨ x ∈ more
  few : more.length ≤ 4 * l.length
  small : more.length ≤ 1600
  low : L ≤ 0 → more = []
  tail : L < 0 → next = []

theorem len_there {s : List Blk} {l : List Int} (hn : l.Nodup) (h : ∀ x ∈ l, thereB s x = true) : l.length ≤ s.length := seen_len hn h

theorem Gone.start {s : List Blk} (hc : Tiers s) {roots : List Int} (hr : rootsOk s roots = true) : Gone s roots 3 [] roots [] 0 := by
  refine ⟨List.nodup_nil, by simp, by simp, fun x hx => ?_, by simp, by simp, fun x hx => .inr (.inr (.inl (by simpa using hx))), by simp, by simp, fun _ => rfl, fun h => by omega⟩
  have := List.all_eq_true.1 hr x hx
  simp only [Bool.or_eq_true, decide_eq_true_eq] at this
  rcases this with h0 | h0
  · exact .inl h0
  · exact .inr ⟨h0, (hc.lev x h0).2, List.mem_flatMap.2 ⟨x, hx, reach_self hc h0⟩⟩

/-- a place that is passed over: nothing, or seen -/
theorem Gone.pass {s : List Blk} {roots : List Int} {L : Int} {l next more : List Int} {t : Nat} (h : Gone s roots L l next more t) (ht : t < next.length) (hp : next[t] = 0 ∨ next[t] ∈ l) : Gone s roots L l next more (t + 1) := by
  have key : ∀ k, k ∈ next.drop t → k = 0 ∨ k ∈ l ∨ k ∈ next.drop (t + 1) := by
    intro k hk
    rw [List.drop_eq_getElem_cons ht] at hk
    rcases List.mem_cons.1 hk with e | e
    · rw [e]; rcases hp with h0 | h0
      · exact .inl h0
      · exact .inr (.inl h0)
    · exact .inr (.inr e)
  refine ⟨h.nodup, h.there, h.only, h.next0, h.more0, fun x hx k hk => ?_, fun x hx => ?_, h.few, h.small, h.low, h.tail⟩
  · rcases h.kids x hx k hk with e | e | e | e
    · exact .inl e
    · exact .inr (.inl e)
    · rcases key k e with e | e | e
      · exact .inl e
      · exact .inr (.inl e)
      · exact .inr (.inr (.inl e))
    · exact .inr (.inr (.inr e))
  · rcases h.root x hx with e | e | e | e
    · exact .inl e
    · exact .inr (.inl e)
    · rcases key x e with e | e | e
      · exact .inl e
      · exact .inr (.inl e)
      · exact .inr (.inr (.inl e))
    · exact .inr (.inr (.inr e))

/-- a place that is new -/
theorem Gone.take {s : List Blk} (hc : Tiers s) (h400 : s.length ≤ 400) {roots : List Int} {L : Int} {l next more : List Int} {t : Nat} (hk4 : ∀ a, thereB s a = true → (blk s a).kids.length ≤ 4) (hro : rootsOk s roots = true) (h : Gone s roots L l next more t) (ht : t < next.length) (h0 : next[t] ≠ 0) (hl : next[t] ∉ l) :
    thereB s next[t] = true ∧ Gone s roots L (l ++ [next[t]]) next (more ++ (blk s next[t]).kids) (t + 1) := by
  obtain ⟨h1, h2, h3⟩ := (h.next0 _ (List.getElem_mem ht)).resolve_left h0
  refine ⟨h1, ?_⟩
  have hnd : (l ++ [next[t]]).Nodup := List.nodup_append.2 ⟨h.nodup, by simp, by
    intro x hx y hy e
    simp at hy
    subst hy
    subst e
    exact hl hx⟩
  have hth : ∀ x ∈ l ++ [next[t]], thereB s x = true := by
    intro x hx
    rcases List.mem_append.1 hx with e | e
    · exact h.there x e
    · simp at e; rw [e]; exact h1
  have hlen := seen_len hnd hth
  have hkl := hk4 _ h1
  have key : ∀ k, k ∈ next.drop t → k ∈ l ++ [next[t]] ∨ k ∈ next.drop (t + 1) := by
    intro k hk
    rw [List.drop_eq_getElem_cons ht] at hk
    rcases List.mem_cons.1 hk with e | e
    · exact .inl (by rw [e]; simp)
    · exact .inr e
  refine ⟨hnd, hth, fun x hx => ?_, h.next0, fun x hx => ?_, fun x hx k hk => ?_, fun x hx => ?_, ?_, ?_, fun hL => ?_, h.tail⟩
  · rcases List.mem_append.1 hx with e | e
    · exact h.only x e
    · simp at e; rw [e]; exact h3
  · rcases List.mem_append.1 hx with e | e
    · exact h.more0 x e
    · rcases hc.kid _ h1 x e with e0 | ⟨e1, e2⟩
      · exact .inl e0
      · refine .inr ⟨e1, by omega, ?_⟩
        obtain ⟨r, hr, hx2⟩ := List.mem_flatMap.1 h3
        refine List.mem_flatMap.2 ⟨r, hr, ?_⟩
        have hrt := List.all_eq_true.1 hro r hr
        simp only [Bool.or_eq_true, decide_eq_true_eq] at hrt
        rcases hrt with hz | hz
        · rw [hz, reach_zero] at hx2; cases hx2
        · exact reach_trans hc r hz _ hx2 _ (reach_kid hc h1 e e1)
  · rcases List.mem_append.1 hx with e | e
    · rcases h.kids x e k hk with e | e | e | e
      · exact .inl e
      · exact .inr (.inl (List.mem_append.2 (.inl e)))
      · rcases key k e with e | e
        · exact .inr (.inl e)
        · exact .inr (.inr (.inl e))
      · exact .inr (.inr (.inr (List.mem_append.2 (.inl e))))
    · simp at e
      rw [e] at hk
      exact .inr (.inr (.inr (List.mem_append.2 (.inr hk))))
  · rcases h.root x hx with e | e | e | e
    · exact .inl e
    · exact .inr (.inl (List.mem_append.2 (.inl e)))
    · rcases key x e with e | e
      · exact .inr (.inl e)
      · exact .inr (.inr (.inl e))
    · exact .inr (.inr (.inr (List.mem_append.2 (.inl e))))
  · have := h.few
    simp only [List.length_append, List.length_cons, List.length_nil]
    omega
  · have := h.few
    simp only [List.length_append, List.length_cons, List.length_nil] at hlen ⊢
    omega
  · rw [h.low hL, hc.leaf _ h1 (by have := (hc.lev _ h1).1; omega)]
    rfl

/-- the next round -/
theorem Gone.round {s : List Blk} {roots : List Int} {L : Int} {l next more : List Int} (h : Gone s roots L l next more next.length) : Gone s roots (L - 1) l more [] 0 := by
  refine ⟨h.nodup, h.there, h.only, h.more0, by simp, fun x hx k hk => ?_, fun x hx => ?_, by simp, by simp, fun _ => rfl, fun hL => h.low (by omega)⟩
  · rcases h.kids x hx k hk with e | e | e | e
    · exact .inl e
    · exact .inr (.inl e)
    · simp at e
    · exact .inr (.inr (.inl (by simpa using e)))
  · rcases h.root x hx with e | e | e | e
    · exact .inl e
    · exact .inr (.inl e)
    · simp at e
    · exact .inr (.inr (.inl (by simpa using e)))

/-- where nothing waits all is told -/
theorem Gone.all {s : List Blk} (hc : Tiers s) {roots : List Int} (hro : rootsOk s roots = true) {L : Int} {l : List Int} (h : Gone s roots L l [] [] 0) : ∀ x, x ∈ l ↔ x ∈ allF s roots := by
  intro x
  refine ⟨h.only x, fun hx => ?_⟩
  obtain ⟨r, hr, hx⟩ := List.mem_flatMap.1 hx
  have hrt := List.all_eq_true.1 hro r hr
  simp only [Bool.or_eq_true, decide_eq_true_eq] at hrt
  rcases hrt with hz | hz
  · rw [hz, reach_zero] at hx; cases hx
  · have hrl : r ∈ l := by
      rcases h.root r hr with e | e | e | e
      · exact absurd e (there_ne hz)
      · exact e
      · simp at e
      · simp at e
    exact reach_ind hc (fun y => y ∈ l) (fun a ha hal k hk hkt => by
      rcases h.kids a hal k hk with e | e | e | e
      · exact absurd e (there_ne hkt)
      · exact e
      · simp at e
      · simp at e) r hz hrl x hx

/-- two rising lists of the same members are one -/
theorem sorted_unique : ∀ (a b : List Int), a.Pairwise (· < ·) → b.Pairwise (· < ·) → (∀ x, x ∈ a ↔ x ∈ b) → a = b
  | [], [], _, _, _ => rfl
  | [], y :: b, _, _, h => by have := (h y).2 (List.mem_cons_self ..); cases this
  | x :: a, [], _, _, h => by have := (h x).1 (List.mem_cons_self ..); cases this
  | x :: a, y :: b, ha, hb, h => by
    rw [List.pairwise_cons] at ha hb
    have hxy : x = y := by
      rcases List.mem_cons.1 ((h x).1 (List.mem_cons_self ..)) with e | e
      · exact e
      · rcases List.mem_cons.1 ((h y).2 (List.mem_cons_self ..)) with e2 | e2
        · exact e2.symm
        · have h1 := hb.1 x e
          have h2 := ha.1 y e2
          omega
    subst hxy
    have := sorted_unique a b ha.2 hb.2 (fun z => by
      constructor
      · intro hz
        rcases List.mem_cons.1 ((h z).1 (List.mem_cons_of_mem _ hz)) with e | e
        · have := ha.1 z hz; omega
        · exact e
      · intro hz
        rcases List.mem_cons.1 ((h z).2 (List.mem_cons_of_mem _ hz)) with e | e
        · have := hb.1 z hz; omega
        · exact e)
    rw [this]

/-- sorted, the told ones are the list -/
theorem told_sorted {s : List Blk} (hc : Tiers s) {roots : List Int} (hro : rootsOk s roots = true) {l : List Int} (hn : l.Nodup) (h : ∀ x, x ∈ l ↔ x ∈ allF s roots) : (l.mergeSort fun x y => decide (x ≤ y)) = reachL s roots := by
  have hp := List.mergeSort_perm l (fun x y => decide (x ≤ y))
  have hs := List.pairwise_mergeSort (le := fun x y : Int => decide (x ≤ y)) (fun a b c h1 h2 => by simp at *; omega) (fun a b => by simp; omega) l
  have hnd : (l.mergeSort fun x y => decide (x ≤ y)).Nodup := hp.nodup_iff.2 hn
  refine sorted_unique _ _ ?_ ?_ (fun x => ?_)
  · have h2 : (l.mergeSort fun x y => decide (x ≤ y)).Pairwise (· ≠ ·) := hnd
    exact (hs.and h2).imp fun {a b} ⟨e1, e2⟩ => by simp at e1; omega
  · unfold reachL addrs
    refine List.Pairwise.filter _ ?_
    rw [List.pairwise_map]
    exact (List.pairwise_lt_range (n := s.length)).imp fun h => by omega
  · rw [hp.mem_iff, h x]
    unfold reachL addrs
    simp only [List.mem_filter, List.mem_map, List.mem_range, decide_eq_true_eq]
    refine ⟨fun hx => ⟨?_, hx⟩, fun hx => hx.2⟩
    obtain ⟨r, hr, hx2⟩ := List.mem_flatMap.1 hx
    have hrt := List.all_eq_true.1 hro r hr
    simp only [Bool.or_eq_true, decide_eq_true_eq] at hrt
    rcases hrt with hz | hz
    · rw [hz, reach_zero] at hx2; cases hx2
    · obtain ⟨k, hk, rfl, _⟩ := there_in (reach_there hc r hz x hx2)
      exact ⟨k, hk, rfl⟩

/-- append, at the operation, by what it does there -/
theorem append_runs {P : Program} {w w' : World} {ops : Array Oper} {rest : List Oper} {o : Oper} {a : Act} {Q : Exit → Act → World → Prop} (hgd : o.guard = none) (s x : Operand) (t u ty : TypeId) (hty : o.type = ty) (ho : o.op = .call { callee := .builtin .append, args := #[s, x], argTypes := #[t, u] })
    {vs vx v : Value} (hs : a.eval s = vs) (hx : a.eval x = vx) (hrun : (Builtin.append_ #[t, u] ty #[vs, vx]).run P w = .ok v w') (hK : wpList P ops Q rest (a.put o.dst v) w') : wpList P ops Q (o :: rest) a w := by
  refine wpList_plain hgd fun K' hK' => ?_
  unfold Oper.wp execOp
  simp only [ho, hty, resolve, invoke, builtin, Sem.run_bind, Sem.run_pure, Result.andThen_ok, List.map_toArray, List.map_cons, List.map_nil, hs, hx, hrun]
  exact hK' _ _ hK

theorem app_own (w : World) (ty : TypeId) (base : Nat) (v : Value) (xs ys : List Int) (ao : Option Addr) (m c : Nat) (hown : Own .i64 3 base w v xs) (hm : ys.length = m) (hrow : Row .i64 w ao ys) (hc : Capd ao m c) (hl : xs.length + m ≤ 1000000) (hbase : base ≤ w.heap.size) :
    ∃ v' w', (Builtin.append_ #[24, 24] ty #[v, .slice ao m c]).run Try.prog w = .ok v' w' ∧ Own .i64 3 base w' v' (xs ++ ys) ∧ w.grownBy w' v.ownBlock ∧ (v'.ownBlock = v.ownBlock ∨ v'.ownBlock = some w.heap.size) := by
  obtain ⟨i0, hi, hz0, hz1, hz2⟩ := info_parts info_int
  have ht := Try.underlying24
  subst hm
  cases ao with
  | none =>
    have hy : ys = [] := by
      rcases hrow with h | ⟨_, _, h, _⟩
      · exact h
      · cases h
    subst hy
    obtain rfl := hc.2 rfl
    exact ⟨v, w, run_append_owned_none (P := Try.prog) w base _ ty 3 i0 1 ht hi _ _ _ hown, by simpa using hown, ⟨rfl, rfl, rfl, Nat.le_refl _, fun _ _ _ => rfl⟩, .inl rfl⟩
  | some ad =>
    obtain ⟨v', w', hr, h2, h3, h4, h5⟩ := run_append_own_at (P := Try.prog) w base _ ty 3 i0 (.int .i64 0) 1 8 ht hi hz0 hz1 hz2 rfl (by decide) v _ _ hown ad ys.length c (ys.map (Value.int .i64)) (by simp) (by
      intro j u hj
      have hlt : j < ys.length := by simpa using (List.getElem?_eq_some_iff.1 hj).1
      obtain ⟨b, o, hao, hcc⟩ := hrow.at j hlt
      obtain rfl := Option.some.inj hao
      have e1 : (⟨b, o, none⟩ : Addr).add j = ⟨b, o + j, none⟩ := by unfold Addr.add; split <;> simp_all
      rw [e1, hcc j hlt]
      simpa [hlt] using hj) (by
      intro u hu
      obtain ⟨y, _, rfl⟩ := List.mem_map.1 hu
      rfl) (by unfold maxLen; omega) (by omega) hbase
    exact ⟨v', w', hr, by unfold Own; simpa using h2, h3, h5⟩

theorem Own.turnOther {k : IntKind} {e base : Nat} {w w' : World} {v : Value} {xs : List Int} {r : Option Nat} (h : Own k e base w v xs) (hg : w.grownBy w' r) (hne : ∀ q, v.ownBlock = some q → r ≠ some q) : Own k e base w' v xs := by
  obtain ⟨h1, h2⟩ := h
  refine ⟨h1, ?_⟩
  rcases h2 with h2 | ⟨g, cap, cur, hv, hb, hh, rr⟩
  · exact .inl h2
  · refine .inr ⟨g, cap, cur, hv, hb, ?_, rr⟩
    have hvb : v.ownBlock = some g := by rw [hv]; rfl
    rw [hg.block g (lt_heap hh) (fun e => hne g hvb e.symm)]
    exact hh
theorem Own.ltSize {k : IntKind} {e base : Nat} {w : World} {v : Value} {xs : List Int} (h : Own k e base w v xs) : ∀ q, v.ownBlock = some q → q < w.heap.size := by
  intro q hq
  rcases h.block with ⟨rfl, _⟩ | ⟨b, cap, cur, rfl, hb, hh, _⟩
  · cases hq
  · simp only [Value.ownBlock, Option.some.injEq] at hq
    have := lt_heap hh
    omega
theorem Row.turnOther {k : IntKind} {w w' : World} {ao : Option Addr} {xs : List Int} {r : Option Nat} (h : Row k w ao xs) (hg : w.grownBy w' r) (hne : ∀ b o, ao = some ⟨b, o, none⟩ → xs ≠ [] → r ≠ some b) : Row k w' ao xs := by
  rcases h with h | ⟨b, o, rfl, hc⟩
  · exact .inl h
  · rcases Nat.eq_zero_or_pos xs.length with h0 | h0
    · exact .inl (List.eq_nil_of_length_eq_zero h0)
    · have hx : xs ≠ [] := fun e => by rw [e] at h0; simp at h0
      refine .inr ⟨b, o, rfl, fun i hi => ?_⟩
      rw [World.cell?_of_block (a := ⟨b, o + i, none⟩) (hg.block b (World.block_lt_of_cell? _ _ (hc i hi)) (fun e => hne b o rfl hx e.symm))]
      exact hc i hi

set_option maxRecDepth 100000 in
set_option maxHeartbeats 4000000 in
theorem reachOf_any (w : World) (ao ro : Option Addr) (n cap m rc : Nat) (s : List Blk) (roots : List Int) (hn : s.length = n) (h400 : n ≤ 400) (hs : StoRow w ao s) (hwf : WfS s) (ht : Tiers s) (hk4 : ∀ a, thereB s a = true → (blk s a).kids.length ≤ 4) (hro : rootsOk s roots = true) (hm : roots.length = m) (hm63 : m ≤ 1152921504606846976) (hr : Row .i64 w ro roots) :
    Calls Try.prog 61 #[.agg #[.slice ao n cap], .slice ro m rc] w fun e w' => ∃ ao' cap', e = .returned (.slice ao' (reachL s roots).length cap') ∧ Row .i64 w' ao' (reachL s roots) ∧ Below w.heap.size w w' := by
  have HN := Lib.hid hn
  have HM := Lib.hid hm
  have hb0 : Below w.heap.size w (w.alloc (.cells #[.slice ao n cap] 40)) := (Below.refl _ _).alloc (Nat.le_refl _) _
  have p2 : (w.alloc (.cells #[.slice ao n cap] 40)).heap[w.heap.size]? = some (.cells #[.slice ao n cap] 40 (0, 0)) := heap_alloc_new _ _
  clear hn hm
  go_enter Try.func61, Try.ntmps61
  go_wp2
  have hs := hs.mono hb0
  have hr := hr.mono hb0
  generalize w.alloc (Obj.cells #[Value.slice ao n cap] 40) = W0 at *
  go_loopg [5, 6] 4 (fun gk vl vn wr => ∃ (L : Int) (l next : List Int) (an : Option Addr) (cn q : Nat), gk = (L + 1).toNat ∧ -1 ≤ L ∧ L ≤ 3 ∧ Own .i64 3 W0.heap.size wr vl l ∧ vn = .slice an q cn ∧ Hid (next.length = q) ∧ q ≤ 1152921504606846976 ∧ Row .i64 wr an next ∧ (∀ b o, an = some ⟨b, o, none⟩ → next ≠ [] → vl.ownBlock ≠ some b) ∧ Gone s roots L l next [] 0 ∧ Below W0.heap.size W0 wr)
  case atStart => exact ⟨3, [], roots, ro, rc, m, rfl, by omega, by omega, Own.nil _ _ _ _, rfl, HM, hm63, hr, (fun _ _ _ _ h => by cases h), Gone.start ht hro, Below.refl _ _⟩
  case round =>
    obtain ⟨L, l, next, an, cn, q, hgk, hL1, hL2, hown, rfl, HQ, hq63, hrow, hap, hgo, hbel⟩ := hrel
    have hll : l.length ≤ 400 := by have := seen_len hgo.nodup hgo.there; have := HN.out; omega
    have HGK := Lib.hid hgk
    clear hgk
    rcases Nat.eq_zero_or_pos q with hq0 | hq0
    · subst hq0
      have hnil := List.eq_nil_of_length_eq_zero HQ.out
      subst hnil
      have hall := hgo.all ht hro
      have HT := Lib.hid (told_sorted ht hro hgo.nodup hall)
      obtain ⟨al, cl, rfl, _, _, _, _⟩ := hown.shape'
      have hsz := hbel.size
      clear hall hap hrow
      go_wp2_with fail
      refine (sort_any _ W0.heap.size _ l hown (by omega) hsz).mono ?_
      rintro e w2 ⟨rfl, ao2, cap2, hv2, hrow2, hb2⟩
      simp only [Value.slice.injEq, true_and] at hv2
      obtain ⟨rfl, rfl⟩ := hv2
      rw [HT.out] at hrow2
      have hl2 : l.length = (reachL s roots).length := by rw [← HT.out]; simp [List.length_mergeSort]
      have HL2 := Lib.hid hl2
      have hbw := hb0.trans ((hbel.trans hb2).mono hb0.size)
      clear hl2 hown
      go_wp2
      go_ret
      exact ⟨al, cl, by rw [← HL2.out]; rfl, hrow2, hbw⟩
    · have hne : next ≠ [] := fun e => by have := HQ.out; rw [e] at this; simp at this; omega
      have hL0 : 0 ≤ L := by
        apply Classical.byContradiction
        intro h
        exact hne (hgo.tail (by omega))
      generalize wr = w1 at *
      go_wp2
      go_loopw [5, 7, 16] (fun vl vm i wr => ∃ (t : Nat) (l more : List Int), t ≤ q ∧ i = .int .i64 t ∧ Own .i64 3 W0.heap.size wr vl l ∧ Own .i64 3 W0.heap.size wr vm more ∧ (∀ b, vl.ownBlock = some b → vm.ownBlock ≠ some b) ∧ (∀ b o, an = some ⟨b, o, none⟩ → next ≠ [] → vl.ownBlock ≠ some b ∧ vm.ownBlock ≠ some b) ∧ Row .i64 wr an next ∧ Gone s roots L l next more t ∧ Below W0.heap.size W0 wr) (fun _ _ i _ => q - (intOf i).toNat)
      case atStart => exact ⟨0, l, [], Nat.zero_le _, rfl, hown, Own.nil _ _ _ _, (fun _ _ h => by cases h), (fun b o h1 h2 => ⟨hap b o h1 h2, fun h => by cases h⟩), hrow, hgo, hbel⟩
      case round =>
        clear hown hap hrow hgo hbel hll
        obtain ⟨t, l, more, htq, rfl, howl, howm, hap, hap2, hrow, hgo, hbel⟩ := hrel
        have hll : l.length ≤ 400 := by have := seen_len hgo.nodup hgo.there; have := HN.out; omega
        have hmm := hgo.small
        by_cases hlt : t < q
        · have htn : t < next.length := by have := HQ.out; omega
          obtain ⟨nb, no, rfl, hnc⟩ := hrow.at t htn
          have hck := hnc t htn
          have lk := World.block_lt_of_cell? _ _ hck
          have htq2 : (t : Int) < q := by omega
          have hpass : ∀ hp : next[t] = 0 ∨ next[t] ∈ l, Gone s roots L l next more (t + 1) := fun hp => hgo.pass htn hp
          have HP := Lib.hid hpass
          have htake : ∀ (h0 : next[t] ≠ 0) (hl : next[t] ∉ l), thereB s next[t] = true ∧ Gone s roots L (l ++ [next[t]]) next (more ++ (blk s next[t]).kids) (t + 1) := fun h0 hl => hgo.take ht (by have := HN.out; omega) hk4 hro htn h0 hl
          have HTK := Lib.hid htake
          clear hnc hgo hpass htake
          generalize next[t] = y at *
          by_cases h0 : y = 0
          · subst h0
            have HG := Lib.hid (HP.out (.inl rfl))
            clear HP HTK
            go_wp2
            go_roundw
            case rel => exact ⟨t + 1, l, more, by omega, by go_num, howl, howm, hap, hap2, hrow, HG.out, hbel⟩
            case measure => simp [intOf]; omega
          · have hb1 : (y != 0) = true := by rw [bne_iff_ne]; exact h0
            obtain ⟨al, cl, rfl, _, _, hlr, _⟩ := howl.shape'
            go_wp2_with fail
            refine (contains_int _ _ _ _ l y rfl (by omega) hlr).mono ?_
            rintro e w2 ⟨rfl, rfl⟩
            by_cases hin : y ∈ l
            · rw [decide_eq_true hin]
              have HG := Lib.hid (HP.out (.inr hin))
              clear HP HTK hin hlr
              go_wp2
              go_roundw
              case rel => exact ⟨t + 1, l, more, by omega, by go_num, howl, howm, hap, hap2, hrow, HG.out, hbel⟩
              case measure => simp [intOf]; omega
            · rw [decide_eq_false hin]
              obtain ⟨hyt, hgn⟩ := HTK.out h0 hin
              obtain ⟨j, hj, rfl, -⟩ := there_in hyt
              rw [blk_at s j hj] at hgn
              have HG := Lib.hid hgn
              clear HP HTK hin hlr hgn h0
              have hkl : s[j].kids.length ≤ 4 := by have := hk4 _ hyt; rwa [blk_at s j hj] at this
              have hjn : (j : Int) < n := by have := HN.out; omega
              have hbA : Below w2.heap.size w2 (w2.alloc (.cells #[.int .i64 ((j : Int) + 1)] 3)) := (Below.refl _ _).alloc (Nat.le_refl _) _
              have hzA : (w2.alloc (.cells #[.int .i64 ((j : Int) + 1)] 3)).heap.size = w2.heap.size + 1 := by simp
              have hrA : Row .i64 (w2.alloc (.cells #[.int .i64 ((j : Int) + 1)] 3)) (some ⟨w2.heap.size, 0, none⟩) [(j : Int) + 1] := .inr ⟨w2.heap.size, 0, rfl, fun i hi => by
                obtain rfl : i = 0 := by simp at hi; exact hi
                exact cell_of_block (heap_alloc_new _ _) 0⟩
              have hsz := hbel.size
              obtain ⟨v3, w3, hrun3, hown3, hg3, hat3⟩ := app_own _ 24 W0.heap.size _ l [(j : Int) + 1] _ 1 1 (howl.mono hbA) rfl hrA ⟨Nat.le_refl _, fun h => by cases h⟩ (by omega) (by omega)
              have howm3 := (howm.mono hbA).turnOther hg3 (fun b hb e => hap b e hb)
              have hrow3 := (hrow.mono hbA).turnOther hg3 (fun b o h1 h2 => (hap2 b o h1 h2).1)
              have hbel3 : Below W0.heap.size W0 w3 := (below_step hbel hbA).grown hg3 (by omega) (howl.mono hbA).above
              have hsz3 := hbel3.size
              have hz3 := hg3.size
              obtain ⟨sb, so, rfl, hsB⟩ := (hs.mono hbel3).at j hj
              have hB := hsB j hj
              obtain ⟨ka, kc, ba, bc, x2, -, hv⟩ := hB.v
              have lB := hB.lt
              obtain ⟨_, krow, kcd⟩ := hv.kids.at
              have p3 := (hbel3.block _ (lt_heap p2)).trans p2
              have c3 := cell_of_one p3
              have l3 := lt_heap p3
              obtain ⟨v4, w4, hrun4, hown4, hg4, hat4⟩ := app_own w3 24 W0.heap.size _ more s[j].kids ka s[j].kids.length kc howm3 rfl krow kcd (by omega) hsz3
              have hap3 : ∀ b, v3.ownBlock = some b → ∀ vm : Value, (∀ q, vm.ownBlock = some q → q < w2.heap.size) → (∀ b, (Value.slice al l.length cl).ownBlock = some b → vm.ownBlock ≠ some b) → vm.ownBlock ≠ some b := by
                intro b hb vm h1 h2 h3
                rcases hat3 with e | e
                · exact h2 b (e ▸ hb) h3
                · rw [hb] at e
                  have := h1 b h3
                  simp only [Option.some.injEq] at e
                  omega
              have hmv := hap3
              have hown34 := hown3.turnOther hg4 (fun q hq => hap3 q hq _ howm.ltSize hap)
              have hrow4 := hrow3.turnOther hg4 (fun b o h1 h2 => (hap2 b o h1 h2).2)
              have hbel4 : Below W0.heap.size W0 w4 := hbel3.grown hg4 hsz3 howm3.above
              have hapN : ∀ b, v3.ownBlock = some b → v4.ownBlock ≠ some b := by
                intro b hb h4
                rcases hat4 with e | e
                · exact hap3 b hb _ howm.ltSize hap (e ▸ h4)
                · rw [h4] at e
                  have := hown3.ltSize b hb
                  simp only [Option.some.injEq] at e
                  omega
              have hap2N : ∀ b o, (some ⟨nb, no, none⟩ : Option Addr) = some ⟨b, o, none⟩ → next ≠ [] → v3.ownBlock ≠ some b ∧ v4.ownBlock ≠ some b := by
                intro b o h1 h2
                obtain ⟨e1, e2⟩ := hap2 b o h1 h2
                simp only [Option.some.injEq, Addr.mk.injEq] at h1
                obtain ⟨rfl, _⟩ := h1
                refine ⟨fun h => ?_, fun h => ?_⟩
                · rcases hat3 with e | e
                  · exact e1 (e ▸ h)
                  · rw [h] at e
                    simp only [Option.some.injEq] at e
                    omega
                · rcases hat4 with e | e
                  · exact e2 (e ▸ h)
                  · rw [h] at e
                    simp only [Option.some.injEq] at e
                    omega
              have HR3 := Lib.hid hrun3
              have HR4 := Lib.hid hrun4
              clear hrun3 hrun4 hap3 hmv hown3 howm3 hrow3 hbel3 howl howm hap hap2 hrow hbel hsB hB hv krow kcd hbA hzA hrA hat3 hat4 hg3 hg4 hyt
              go_wp2_with (first
                | (at_builtin; refine append_runs rfl (.tmp 28) (.tmp 30) 24 24 24 rfl rfl rfl rfl HR3.out ?_)
                | (at_builtin; refine append_runs rfl (.tmp 32) (.tmp 39) 24 24 24 rfl rfl rfl rfl HR4.out ?_))
              go_roundw
              case rel => exact ⟨t + 1, _, _, by omega, by go_num, hown34, hown4, hapN, hap2N, hrow4, HG.out, hbel4⟩
              case measure => simp [intOf]; omega
        · obtain rfl : t = q := by omega
          have hgr : Gone s roots (L - 1) l more [] 0 := by
            have h := hgo
            rw [← HQ.out] at h
            exact h.round
          obtain ⟨am, cm, rfl, _, _, hmr, _⟩ := howm.shape'
          have hap4 : ∀ b o, am = some ⟨b, o, none⟩ → more ≠ [] → _ := fun b o h (_ : more ≠ []) => fun hv => hap b hv (by rw [h]; rfl)
          clear hgo howm hap2 hrow
          go_wp2
          go_roundg ((L - 1 + 1).toNat)
          case measure => have := HGK.out; omega
          case rel => exact ⟨L - 1, l, more, am, cm, more.length, rfl, by omega, by omega, howl, rfl, Lib.hid rfl, by omega, hmr, hap4, hgr, hbel⟩
end Go.Proofs.Ytpfopbkaddjjcaa
