/- slices.Contains, ContainsFunc, IsSorted over integers. -/
import Derived.Test.YtpfopbkaddjjcaaQue
import Derived.Lib.AppendZerosOnto
namespace Go.Proofs.Ytpfopbkaddjjcaa
open Go.RowKit
set_option linter.unusedVariables false

theorem mem_at {xs : List Int} {k : Nat} (h : k < xs.length) {x : Int} (e : xs[k] = x) : x ∈ xs := e ▸ List.getElem_mem h

set_option maxRecDepth 100000 in
set_option maxHeartbeats 1000000 in
theorem index_int (w : World) (ao : Option Addr) (n cap : Nat) (xs : List Int) (x : Int) (hn : xs.length = n) (h63 : n ≤ 1152921504606846976) (hr : Row .i64 w ao xs) :
    Calls Try.prog 80 #[.slice ao n cap, .int .i64 x] w fun e w' => ∃ r : Int, e = .returned (.int .i64 r) ∧ (0 ≤ r ↔ x ∈ xs) ∧ w' = w := by
  have HN := Lib.hid hn
  clear hn
  go_enter Try.func80, Try.ntmps80
  go_wp2
  go_loop [8] (fun i => ∃ k : Nat, k ≤ n ∧ i = .int .i64 k ∧ Hid (∀ j (hj : j < xs.length), j < k → xs[j] ≠ x)) (fun i => n - (intOf i).toNat)
  case atStart => exact ⟨0, Nat.zero_le _, rfl, Lib.hid fun j _ hj => absurd hj (Nat.not_lt_zero _)⟩
  case round =>
    obtain ⟨k, hkn, rfl, HNO⟩ := hrel
    by_cases hlt : k < n
    · have hks : k < xs.length := by have := HN.out; omega
      obtain ⟨b, o, rfl, hq⟩ := hr.at k hks
      have hck := hq k hks
      have lb := World.block_lt_of_cell? _ _ hck
      by_cases h0 : xs[k] = x
      · have hb : (x == xs[k]) = true := by rw [h0]; simp
        have HF := Lib.hid (mem_at hks h0)
        clear h0 hq
        go_wp2
        go_ret
        exact ⟨_, rfl, ⟨fun _ => HF.out, fun _ => by omega⟩, rfl⟩
      · have hb : (x == xs[k]) = false := by rw [beq_eq_false_iff_ne]; exact fun e => h0 e.symm
        have H0 := Lib.hid h0
        clear h0 hq
        go_wp2
        go_round
        case rel =>
          refine ⟨k + 1, by omega, by go_num, Lib.hid fun j hj hjk => ?_⟩
          rcases (show j < k ∨ j = k from by omega) with e | rfl
          · exact HNO.out j hj e
          · exact H0.out
        case measure => simp [intOf]; omega
    · obtain rfl : k = n := by omega
      have HF := Lib.hid (show ¬ x ∈ xs by
        intro h
        obtain ⟨j, hj, e⟩ := List.getElem_of_mem h
        exact HNO.out j hj (by have := HN.out; omega) e)
      go_wp2
      go_ret
      exact ⟨_, rfl, ⟨fun h => by omega, fun h => absurd h HF.out⟩, rfl⟩

set_option maxRecDepth 100000 in
theorem contains_int (w : World) (ao : Option Addr) (n cap : Nat) (xs : List Int) (x : Int) (hn : xs.length = n) (h63 : n ≤ 1152921504606846976) (hr : Row .i64 w ao xs) :
    Calls Try.prog 48 #[.slice ao n cap, .int .i64 x] w fun e w' => e = .returned (.bool (decide (x ∈ xs))) ∧ w' = w := by
  have HN := Lib.hid hn
  clear hn
  go_enter Try.func48, Try.ntmps48
  go_wp2_with fail
  refine (index_int _ _ _ _ xs x HN.out h63 hr).mono ?_
  rintro e w1 ⟨r, rfl, hrr, rfl⟩
  have HR := Lib.hid hrr
  clear hrr
  go_wp2
  go_ret
  exact ⟨by rw [show decide (x ∈ xs) = decide (0 ≤ r) from by rw [decide_eq_decide]; exact HR.out.symm]; rfl, rfl⟩

set_option maxRecDepth 100000 in
theorem notin_one (w : World) (ao : Option Addr) (n cap bx : Nat) (xs : List Int) (x : Int) (hn : xs.length = n) (h63 : n ≤ 1152921504606846976) (hr : Row .i64 w ao xs) (hb : w.heap[bx]? = some (.cells #[.slice ao n cap] 24 (0, 0))) :
    Calls Try.prog 47 #[.int .i64 x, .pointer (some ⟨bx, 0, none⟩)] w fun e w' => e = .returned (.bool (!decide (x ∈ xs))) ∧ w' = w := by
  have HN := Lib.hid hn
  have c1 := cell_of_one hb
  clear hn
  go_enter Try.func47, Try.ntmps47
  go_wp2_with fail
  refine (contains_int _ _ _ _ xs x HN.out h63 hr).mono ?_
  rintro e w1 ⟨rfl, rfl⟩
  go_wp2
  go_ret
  exact ⟨rfl, rfl⟩

/-- is all of ys in xs? -/
theorem index_notin (w : World) (ao bo : Option Addr) (n cap m bc bx : Nat) (xs ys : List Int) (hn : xs.length = n) (h63 : n ≤ 1152921504606846976) (hr : Row .i64 w ao xs) (hb : w.heap[bx]? = some (.cells #[.slice ao n cap] 24 (0, 0)))
    (hm : ys.length = m) (m63 : m ≤ 1152921504606846976) (hs : Row .i64 w bo ys) (hall : ∀ y ∈ ys, y ∈ xs) :
    Calls Try.prog 79 #[.slice bo m bc, .func (.func 47) #[] #[.pointer (some ⟨bx, 0, none⟩)]] w fun e w' => e = .returned (.int .i64 (-1)) ∧ w' = w := by
  have HN := Lib.hid hn
  have HM := Lib.hid hm
  clear hn hm
  go_enter Try.func79, Try.ntmps79
  go_wp2
  go_loop [8] (fun i => ∃ k : Nat, k ≤ m ∧ i = .int .i64 k) (fun i => m - (intOf i).toNat)
  case atStart => exact ⟨0, Nat.zero_le _, rfl⟩
  case round =>
    obtain ⟨k, hkn, rfl⟩ := hrel
    by_cases hlt : k < m
    · have hks : k < ys.length := by have := HM.out; omega
      obtain ⟨b, o, rfl, hq⟩ := hs.at k hks
      have hck := hq k hks
      have lb := World.block_lt_of_cell? _ _ hck
      have hin := hall _ (List.getElem_mem hks)
      clear hq
      go_wp2_with fail
      refine (notin_one _ _ _ _ _ xs ys[k] HN.out h63 hr hb).mono ?_
      rw [decide_eq_true hin]
      rintro e w1 ⟨rfl, rfl⟩
      go_wp2
      go_round
      case rel => exact ⟨k + 1, by omega, by go_num⟩
      case measure => simp [intOf]; omega
    · obtain rfl : k = m := by omega
      go_wp2
      go_ret
      exact ⟨rfl, rfl⟩

theorem none_notin (w : World) (ao bo : Option Addr) (n cap m bc bx : Nat) (xs ys : List Int) (hn : xs.length = n) (h63 : n ≤ 1152921504606846976) (hr : Row .i64 w ao xs) (hb : w.heap[bx]? = some (.cells #[.slice ao n cap] 24 (0, 0)))
    (hm : ys.length = m) (m63 : m ≤ 1152921504606846976) (hs : Row .i64 w bo ys) (hall : ∀ y ∈ ys, y ∈ xs) :
    Calls Try.prog 46 #[.slice bo m bc, .func (.func 47) #[] #[.pointer (some ⟨bx, 0, none⟩)]] w fun e w' => e = .returned (.bool false) ∧ w' = w := by
  have HN := Lib.hid hn
  have HM := Lib.hid hm
  clear hn hm
  go_enter Try.func46, Try.ntmps46
  go_wp2_with fail
  refine (index_notin _ _ _ _ _ _ _ _ xs ys HN.out h63 hr hb HM.out m63 hs hall).mono ?_
  rintro e w1 ⟨rfl, rfl⟩
  go_wp2
  go_ret
  exact ⟨rfl, rfl⟩

theorem less_int (w : World) (a b : Int) :
    Calls Try.prog 81 #[.int .i64 a, .int .i64 b] w fun e w' => e = .returned (.bool (decide (a < b))) ∧ Below w.heap.size w w' := by
  have isn : ∀ x : Int, Calls Try.prog 95 #[.int .i64 x] w fun e w' => e = .returned (.bool false) ∧ w' = w := by
    intro x
    go_enter Try.func95, Try.ntmps95
    go_wp2
    go_ret
    exact ⟨by simp, rfl⟩
  go_enter Try.func81, Try.ntmps81
  go_wp2_with fail
  refine (isn a).mono ?_
  rintro e w1 ⟨rfl, rfl⟩
  go_wp2
  go_ret
  exact ⟨rfl, Below.refl _ _⟩

set_option maxRecDepth 100000 in
set_option maxHeartbeats 1000000 in
theorem sorted_int (w : World) (ao : Option Addr) (n cap : Nat) (xs : List Int) (hn : xs.length = n) (h63 : n ≤ 1152921504606846976) (hr : Row .i64 w ao xs) (hs : xs.Pairwise (· < ·)) :
    Calls Try.prog 49 #[.slice ao n cap] w fun e w' => e = .returned (.bool true) ∧ Below w.heap.size w w' := by
  have HN := Lib.hid hn
  have hp : ∀ i j (hi : i < xs.length) (hj : j < xs.length), i < j → xs[i] < xs[j] := fun i j hi hj h => List.pairwise_iff_getElem.1 hs i j hi hj h
  have HP := Lib.hid hp
  clear hn hs hp
  go_enter Try.func49, Try.ntmps49
  go_wp2
  go_loopw [3] (fun i wr => ∃ z : Int, -1 ≤ z ∧ z < n ∧ i = .int .i64 z ∧ Below w.heap.size w wr) (fun i _ => (intOf i).toNat)
  case atStart => exact ⟨(n : Int) - 1, by omega, by omega, by go_num, Below.refl _ _⟩
  case round =>
    obtain ⟨z, hz1, hz2, rfl, hbel⟩ := hrel
    by_cases hlt : 0 < z
    · obtain ⟨k, rfl⟩ : ∃ k : Nat, z = (k : Int) + 1 := ⟨(z - 1).toNat, by omega⟩
      have hk1 : k + 1 < xs.length := by have := HN.out; omega
      have hrw := hr.mono hbel
      obtain ⟨b, o, rfl, hq⟩ := hrw.at k (by omega)
      have hc0 := hq k (by omega)
      have hc1 := hq (k + 1) hk1
      have lb := World.block_lt_of_cell? _ _ hc0
      have hlt2 := HP.out k (k + 1) (by omega) hk1 (by omega)
      have hd : decide (xs[k + 1] < xs[k]) = false := by simp; omega
      have HD := Lib.hid hd
      clear hq hlt2 hd
      generalize xs[k + 1] = y1 at *
      generalize xs[k] = y0 at *
      go_wp2_with fail
      refine wp_region_mix (by kernel_rfl) (by kernel_rfl) ?_
      repeat (go_big_quiet_step ((refine calls_mix (v := .bool (decide (y1 < y0))) ?_; exact less_int _ y1 y0)))
      refine wpQuiet_nil ?_
      intro w2 hb2
      have hbb := below_step hbel hb2
      clear hc0 hc1
      go_wp2
      · exact absurd HD.out (by simp; omega)
      · go_roundw
        case rel => exact ⟨(k : Int), by omega, by omega, by go_num, hbb⟩
        case measure => simp [intOf]
    · have hz : z = 0 ∨ z = -1 := by omega
      rcases hz with rfl | rfl
      · go_wp2
        go_ret
        exact ⟨rfl, hbel⟩
      · go_wp2
        go_ret
        exact ⟨rfl, hbel⟩

/-- append, at the operation, by what it does -/
theorem append_run {P : Program} {w w' : World} {ops : Array Oper} {rest : List Oper} {o : Oper} {a : Act} {Q : Exit → Act → World → Prop} (hgd : o.guard = none) (s x : Operand) (t u : TypeId) (ho : o.op = .call { callee := .builtin .append, args := #[s, x], argTypes := #[t, u] })
    {vs vx v : Value} (hs : a.eval s = vs) (hx : a.eval x = vx) (hrun : ∀ ty, (Builtin.append_ #[t, u] ty #[vs, vx]).run P w = .ok v w') (hK : wpList P ops Q rest (a.put o.dst v) w') : wpList P ops Q (o :: rest) a w := by
  refine wpList_plain hgd fun K' hK' => ?_
  unfold Oper.wp execOp
  simp only [ho, resolve, invoke, builtin, Sem.run_bind, Sem.run_pure, Result.andThen_ok, List.map_toArray, List.map_cons, List.map_nil, hs, hx, hrun]
  exact hK' _ _ hK

set_option maxRecDepth 100000 in
set_option maxHeartbeats 2000000 in
/-- room for m integers -/
theorem grow_nil (w : World) (m : Nat) (h0 : 0 < m) (hm : m ≤ 35184372088832) :
    Calls Try.prog 78 #[.slice none 0 0, .int .i64 m] w fun e w' => ∃ cap cur, e = .returned (.slice (some ⟨w.heap.size, 0, none⟩) 0 cap) ∧ m ≤ cap ∧ cap ≤ 9223372036854775807 ∧ cap = cur.size ∧ w'.heap[w.heap.size]? = some (.cells cur 3 (0, 0)) ∧ Below w.heap.size w w' := by
  obtain ⟨i0, hi, hz0, hz1, hz2⟩ := info_parts info_int
  have hr : ∀ ty, (Builtin.append_ #[24, 3] ty #[.slice none 0 0, .int .i64 (m : Int)]).run Try.prog w = .ok (.slice (some ⟨w.heap.size, 0, none⟩) (0 + m) (grownCap w (0 + m) 0 3)) (w.drew.alloc (.cells ((#[] : Array Value) ++ Builtin.zeroCells (Value.int .i64 0).cells m ++ Builtin.zeroCells (Value.int .i64 0).cells (grownCap w (0 + m) 0 3 - (0 + m))) 3)) := fun ty => by
    have h := Lib.run_append_grow_zeros w 24 3 ty 3 i0 (.int .i64 0) .i64 .i64 Try.underlying24 Try.underlying3 hi hz0 none 0 0 [] (run_firstCells_none w.drew i0.size 0 0 0) m (by omega) (by omega) (by omega) (by omega) (by rw [hz2]; omega) (by rw [Nat.zero_add, nextslicecap_zero h0, hz2]; omega)
    exact h
  rw [Nat.zero_add] at hr
  have hG := grownCap_ge w m 0 3
  have hG2 := grownCap_le_maxLen w m 0 3 (by unfold maxLen; omega)
  unfold maxLen at hG2
  generalize grownCap w m 0 3 = G at *
  have HR := Lib.hid hr
  have hsz : ((#[] : Array Value) ++ Builtin.zeroCells (Value.int .i64 0).cells m ++ Builtin.zeroCells (Value.int .i64 0).cells (G - m)).size = G := by
    simp [Builtin.zeroCells, Value.cells]
    omega
  have HSZ := Lib.hid hsz
  clear hr hsz
  generalize ((#[] : Array Value) ++ Builtin.zeroCells (Value.int .i64 0).cells m ++ Builtin.zeroCells (Value.int .i64 0).cells (G - m)) = cur at *
  have hm0 : (0 : Int) < m := by omega
  have hbw : Below w.heap.size w (w.drew.alloc (.cells cur 3)) := ((Below.refl _ _).drew).alloc (by simp) _
  have hnew : (w.drew.alloc (.cells cur 3)).heap[w.heap.size]? = some (.cells cur 3 (0, 0)) := heap_alloc_new w.drew (.cells cur 3)
  go_enter Try.func78, Try.ntmps78
  go_wp2_with (first
    | (at_builtin; refine append_run rfl (.tmp 20) (.tmp 21) 24 3 rfl rfl rfl HR.out ?_))
  go_ret
  exact ⟨_, cur, rfl, hG, hG2, HSZ.out.symm, hnew, hbw⟩

theorem grow_zero (w : World) : Calls Try.prog 78 #[.slice none 0 0, .int .i64 0] w fun e w' => e = .returned (.slice none 0 0) ∧ w' = w := by
  go_enter Try.func78, Try.ntmps78
  go_wp2
  go_ret
  exact ⟨rfl, rfl⟩
theorem grow_any (w : World) (z : Int) (t : Nat) (hz : z = (t : Int)) (ht : t ≤ 35184372088832) :
    Calls Try.prog 78 #[.slice none 0 0, .int .i64 z] w fun e w' => ∃ v, e = .returned v ∧ Own .i64 3 w.heap.size w' v [] ∧ Below w.heap.size w w' ∧ ((v = .slice none 0 0 ∧ t = 0) ∨ ∃ g cap, v = .slice (some ⟨g, 0, none⟩) 0 cap ∧ t ≤ cap) := by
  subst hz
  rcases Nat.eq_zero_or_pos t with h0 | h0
  · subst h0
    refine (grow_zero w).mono ?_
    rintro e w' ⟨rfl, rfl⟩
    exact ⟨_, rfl, Own.nil _ _ _ _, Below.refl _ _, .inl ⟨rfl, rfl⟩⟩
  · refine (grow_nil w t h0 ht).mono ?_
    rintro e w' ⟨cap, cur, rfl, h1, h2, h3, h4, h5⟩
    refine ⟨_, rfl, ⟨by simp, .inr ⟨_, cap, cur, rfl, Nat.le_refl _, h4, Nat.zero_le _, by unfold maxLen; omega, by omega, by simp⟩⟩, h5, .inr ⟨_, cap, rfl, h1⟩⟩
theorem Own.above {k : IntKind} {e base : Nat} {w : World} {v : Value} {zs : List Int} (h : Own k e base w v zs) : ∀ q, v.ownBlock = some q → base ≤ q := by
  intro q hq
  rcases h.block with ⟨rfl, _⟩ | ⟨b, cap, cur, rfl, hb, _⟩
  · cases hq
  · simp only [Value.ownBlock, Option.some.injEq] at hq
    omega
/-- append into the room that there is -/
theorem app_room (w : World) (base : Nat) (v : Value) (zs ys : List Int) (bo : Option Addr) (m c : Nat) (hown : Own .i64 3 base w v zs) (hm : ys.length = m) (hs : Row .i64 w bo ys) (hc : Capd bo m c)
    (hroom : (v = .slice none 0 0 ∧ m = 0) ∨ ∃ g cap, v = .slice (some ⟨g, 0, none⟩) zs.length cap ∧ zs.length + m ≤ cap) :
    ∃ v' w', (∀ ty, (Builtin.append_ #[24, 24] ty #[v, .slice bo m c]).run Try.prog w = .ok v' w') ∧ Own .i64 3 base w' v' (zs ++ ys) ∧ w.grownBy w' v.ownBlock ∧
      ((v' = .slice none 0 0 ∧ v = .slice none 0 0 ∧ m = 0) ∨ ∃ g cap, v = .slice (some ⟨g, 0, none⟩) zs.length cap ∧ v' = .slice (some ⟨g, 0, none⟩) (zs.length + m) cap) := by
  obtain ⟨i0, hi, hz0, hz1, hz2⟩ := info_parts info_int
  have ht := Try.underlying24
  subst hm
  have triv : w.grownBy w v.ownBlock := ⟨rfl, rfl, rfl, Nat.le_refl _, fun _ _ _ => rfl⟩
  rcases hroom with ⟨rfl, h0⟩ | ⟨g, cap, rfl, hr⟩
  · have hy := List.eq_nil_of_length_eq_zero h0
    subst hy
    have hz : zs = [] := by
      obtain ⟨ao, cap, hv, _, _, _, _⟩ := hown.shape'
      simp only [Value.slice.injEq] at hv
      exact List.eq_nil_of_length_eq_zero hv.2.1.symm
    subst hz
    refine ⟨.slice none 0 0, w, fun ty => ?_, by simpa using hown, triv, .inl ⟨rfl, rfl, rfl⟩⟩
    cases bo with
    | none =>
      obtain rfl := hc.2 rfl
      exact run_append_owned_none (P := Try.prog) w base _ ty 3 i0 1 ht hi _ _ _ hown
    | some a => simp [Builtin.append_, run_underlying ht, sizeOf, typeInfo, hi, Builtin.lenOf, Builtin.firstCells, loadCells, loadCellsFrom]
  · cases bo with
    | none =>
      have hy : ys = [] := by
        rcases hs with h | ⟨_, _, h, _⟩
        · exact h
        · cases h
      subst hy
      obtain rfl := hc.2 rfl
      exact ⟨_, w, fun ty => run_append_owned_none (P := Try.prog) w base _ ty 3 i0 1 ht hi _ _ _ hown, by simpa using hown, triv, .inr ⟨g, cap, rfl, rfl⟩⟩
    | some a =>
      have hown' := hown
      obtain ⟨hcl, hown2⟩ := hown
      rcases hown2 with ⟨h1, _⟩ | ⟨g', cap', cur, hv, hbg, hg, hnc, hcm, hcs, htake⟩
      · cases h1
      · simp only [Value.slice.injEq, Option.some.injEq, Addr.mk.injEq] at hv
        obtain ⟨⟨rfl, _⟩, _, rfl⟩ := hv
        have hnews : ∀ j u, (ys.map (Value.int .i64))[j]? = some u → w.cell? (a.add j) = some u := by
          intro j u hj
          have hlt : j < ys.length := by simpa using (List.getElem?_eq_some_iff.1 hj).1
          obtain ⟨b, o, hao, hcc⟩ := hs.at j hlt
          obtain rfl := Option.some.inj hao
          have e1 : (⟨b, o, none⟩ : Addr).add j = ⟨b, o + j, none⟩ := by unfold Addr.add; split <;> simp_all
          rw [e1, hcc j hlt]
          simpa [hlt] using hj
        have hfit : zs.length * i0.size + (ys.map (Value.int .i64)).length ≤ cur.size := by rw [hcs, hz1]; simp; omega
        refine ⟨_, _, fun ty => run_append_room (P := Try.prog) w 24 ty 3 i0 ht hi g zs.length cap cur hg a ys.length c (ys.map (Value.int .i64)) (by rw [hz1]; simp) hnews (by
          intro u hu
          obtain ⟨y, _, rfl⟩ := List.mem_map.1 hu
          rfl) hr hfit, ?_, ⟨rfl, rfl, rfl, by simp, fun k _ hk => setRow_other w g k _ (fun e => hk (by simp [Value.ownBlock, e]))⟩, .inr ⟨g, cap, rfl, rfl⟩⟩
        have e2 : (zs ++ ys).length = zs.length + ys.length := by simp
        unfold Own
        rw [e2, List.map_append]
        refine ⟨by simp, .inr ⟨g, cap, _, rfl, hbg, setRow_heap w g cur _ 3 _ hg, hr, hcm, ?_, ?_⟩⟩
        · rw [hz1] at hfit ⊢
          simp only [List.size_toArray, List.length_append, List.length_take, List.length_drop, Array.length_toList, List.length_map] at *
          omega
        · rw [hz1, htake]
          have e3 : (zs.length + ys.length) * 1 = (zs.map (Value.int .i64) ++ ys.map (Value.int .i64)).length := by simp
          rw [e3]
          exact List.take_left

/-- the parts of a concatenation -/
def partsTo (xs ys : List Int) (k : Nat) : List Int := if k = 0 then [] else if k = 1 then xs else xs ++ ys

set_option maxRecDepth 100000 in
set_option maxHeartbeats 4000000 in
theorem concat_two (w : World) (g0 : Nat) (ao bo : Option Addr) (n ac m bc : Nat) (xs ys : List Int) (hn : xs.length = n) (hm : ys.length = m) (hn44 : n ≤ 17592186044416) (hm44 : m ≤ 17592186044416) (hr : Row .i64 w ao xs) (hs : Row .i64 w bo ys) (ha : Capd ao n ac) (hb : Capd bo m bc)
    (hg : w.heap[g0]? = some (.cells #[.slice ao n ac, .slice bo m bc] 24 (0, 0))) :
    Calls Try.prog 45 #[.slice (some ⟨g0, 0, none⟩) 2 2] w fun e w' => ∃ v, e = .returned v ∧ Own .i64 3 w.heap.size w' v (xs ++ ys) ∧ Below w.heap.size w w' := by
  have HN := Lib.hid hn
  have HM := Lib.hid hm
  have c0 := cell_of_block hg 0
  have c1 := cell_of_block hg 1
  simp at c0 c1
  have l0 := lt_heap hg
  clear hn hm
  go_enter Try.func45, Try.ntmps45
  go_wp2
  go_loop [3, 11] (fun u i => (u = .int .i64 0 ∧ i = .int .i64 0) ∨ (u = .int .i64 n ∧ i = .int .i64 1) ∨ (u = .int .i64 ((n : Int) + m) ∧ i = .int .i64 2)) (fun _ i => 2 - (intOf i).toNat)
  case atStart => exact .inl ⟨rfl, rfl⟩
  case round =>
    rcases hrel with ⟨rfl, rfl⟩ | ⟨rfl, rfl⟩ | ⟨rfl, rfl⟩
    · go_wp2
      go_round
      case rel => exact .inr (.inl ⟨by go_num, by go_num⟩)
      case measure => simp [intOf]
    · go_wp2
      go_round
      case rel => exact .inr (.inr ⟨by go_num, by go_num⟩)
      case measure => simp [intOf]
    · go_wp2_with fail
      refine (grow_any w ((n : Int) + m) (n + m) (by omega) (by omega)).mono ?_
      rintro e w1 ⟨v, rfl, hown, hb1, hroom⟩
      clear hg
      go_wp2
      go_loopw [6, 27] (fun v i wr => ∃ k : Nat, k ≤ 2 ∧ i = .int .i64 k ∧ Own .i64 3 w.heap.size wr v (partsTo xs ys k) ∧ Below w.heap.size w1 wr ∧ ((v = .slice none 0 0 ∧ n + m = 0) ∨ ∃ g cap, v = .slice (some ⟨g, 0, none⟩) (partsTo xs ys k).length cap ∧ n + m ≤ cap)) (fun _ i _ => 2 - (intOf i).toNat)
      case atStart => exact ⟨0, by omega, rfl, hown, Below.refl _ _, hroom⟩
      case round =>
        clear hown hroom
        obtain ⟨k, hk, rfl, hown, hbel, hroom⟩ := hrel
        have hbw := hb1.trans hbel
        have d0 := (hbw.cell (p := ⟨g0, 0, none⟩) l0).trans c0
        have d1 := (hbw.cell (p := ⟨g0, 1, none⟩) l0).trans c1
        have l1 := Nat.lt_of_lt_of_le l0 hbw.size
        rcases (show k = 0 ∨ k = 1 ∨ k = 2 from by omega) with rfl | rfl | rfl
        · have hroom2 := hroom
          obtain ⟨v', w', hrun, hown', hg', hsh⟩ := app_room wr w.heap.size _ (partsTo xs ys 0) xs ao n ac hown HN.out (hr.mono hbw) ha (by
            rcases hroom with ⟨h1, h2⟩ | ⟨g, cap, h1, h2⟩
            · exact .inl ⟨h1, by omega⟩
            · exact .inr ⟨g, cap, h1, by simp [partsTo]; omega⟩)
          have hbel' := hbel.grown hg' hbw.size hown.above
          have HR := Lib.hid hrun
          have hsh2 : (v' = .slice none 0 0 ∧ n + m = 0) ∨ ∃ g cap, v' = .slice (some ⟨g, 0, none⟩) (partsTo xs ys 1).length cap ∧ n + m ≤ cap := by
            rcases hroom2 with ⟨h1, h2⟩ | ⟨g, cap, h1, h2⟩ <;> rcases hsh with ⟨e1, e2, e3⟩ | ⟨g', cap', e1, e2⟩
            · exact .inl ⟨e1, h2⟩
            · rw [h1] at e1; cases e1
            · rw [h1] at e2; cases e2
            · rw [h1] at e1
              simp only [Value.slice.injEq, Option.some.injEq, Addr.mk.injEq] at e1
              obtain ⟨⟨rfl, _⟩, _, rfl⟩ := e1
              exact .inr ⟨g, cap, by rw [e2]; simp [partsTo, HN.out], h2⟩
          have HS := Lib.hid hsh2
          clear hsh hsh2 hroom hroom2 hrun hown
          go_wp2_with (first
            | (at_builtin; refine append_run rfl (.tmp 31) (.tmp 32) 24 24 rfl rfl rfl HR.out ?_))
          go_roundw
          case rel => exact ⟨1, by omega, by go_num, hown', hbel', HS.out⟩
          case measure => simp [intOf]
        · have hroom2 := hroom
          obtain ⟨v', w', hrun, hown', hg', hsh⟩ := app_room wr w.heap.size _ (partsTo xs ys 1) ys bo m bc hown HM.out (hs.mono hbw) hb (by
            rcases hroom with ⟨h1, h2⟩ | ⟨g, cap, h1, h2⟩
            · exact .inl ⟨h1, by omega⟩
            · exact .inr ⟨g, cap, h1, by have := HN.out; simp [partsTo]; omega⟩)
          have hbel' := hbel.grown hg' hbw.size hown.above
          have HR := Lib.hid hrun
          have hsh2 : (v' = .slice none 0 0 ∧ n + m = 0) ∨ ∃ g cap, v' = .slice (some ⟨g, 0, none⟩) (partsTo xs ys 2).length cap ∧ n + m ≤ cap := by
            rcases hroom2 with ⟨h1, h2⟩ | ⟨g, cap, h1, h2⟩ <;> rcases hsh with ⟨e1, e2, e3⟩ | ⟨g', cap', e1, e2⟩
            · exact .inl ⟨e1, h2⟩
            · rw [h1] at e1; cases e1
            · rw [h1] at e2; cases e2
            · rw [h1] at e1
              simp only [Value.slice.injEq, Option.some.injEq, Addr.mk.injEq] at e1
              obtain ⟨⟨rfl, _⟩, _, rfl⟩ := e1
              exact .inr ⟨g, cap, by rw [e2]; simp [partsTo, HM.out], h2⟩
          have HS := Lib.hid hsh2
          clear hsh hsh2 hroom hroom2 hrun hown
          go_wp2_with (first
            | (at_builtin; refine append_run rfl (.tmp 31) (.tmp 32) 24 24 rfl rfl rfl HR.out ?_))
          go_roundw
          case rel => exact ⟨2, by omega, by go_num, hown', hbel', HS.out⟩
          case measure => simp [intOf]
        · have HO := Lib.hid hown
          clear hroom hown
          go_wp2
          go_ret
          exact ⟨_, rfl, HO.out, hbw⟩
end Go.Proofs.Ytpfopbkaddjjcaa
