/- rookeryref.CheckRoot: the same as tree.check. slices.Max of four. · Rows of byte slices; rookeryref.LeavesOf. · tree.All; slices.EqualFunc over rows of bytes. -/
import Derived.Test.YtodogcokljmkmaaTreeGet
import Derived.Test.YtodogcokljmkmaaDiffer
import Derived.Deep.AppendLies
import Derived.Deep.Onto
namespace Go.Proofs.Ytodogcokljmkmaa
open Go.RowKit
set_option linter.unusedVariables false

theorem power_any (w : World) (l : Int) (h0 : 0 ≤ l) (h3 : l ≤ 3) : Calls Try.prog 97 #[.int .i64 l] w fun e w' => e = .returned (.int .i64 (p4 l.toNat)) ∧ w' = w := by
  rcases (show l = 0 ∨ l = 1 ∨ l = 2 ∨ l = 3 from by omega) with rfl | rfl | rfl | rfl
  all_goals
    go_enter Try.func97, Try.ntmps97
    go_wp2
    go_ret
    exact ⟨rfl, rfl⟩

set_option maxRecDepth 100000 in
set_option maxHeartbeats 4000000 in
theorem checkRoot_any (w : World) (ao : Option Addr) (n cap : Nat) (s : List Blk) (root l i : Int) (hn : s.length = n) (hn63 : n ≤ 1152921504606846976) (hs : StoRow w ao s) (hwf : WfS s) :
    Calls Try.prog 67 #[.agg #[.slice ao n cap], .int .i64 root, .int .i64 l, .int .i64 i] w fun e w' => e = .returned (.int .i64 (checkT s root l i)) ∧ Below w.heap.size w w' := by
  have HN := Lib.hid hn
  have hb0 : Below w.heap.size w (w.alloc (.cells #[.slice ao n cap] 24)) := (Below.refl _ _).alloc (Nat.le_refl _) _
  have p4 : (w.alloc (.cells #[.slice ao n cap] 24)).heap[w.heap.size]? = some (.cells #[.slice ao n cap] 24 (0, 0)) := heap_alloc_new _ _
  clear hn
  go_enter Try.func67, Try.ntmps67
  go_wp2_with fail
  have hs := hs.mono hb0
  generalize w.alloc (Obj.cells #[Value.slice ao n cap] 24) = W0 at *
  refine (checkStore_any _ _ _ _ s HN.out hn63 hs hwf).mono ?_
  rintro e w1 ⟨rfl, hb1⟩
  replace p4 := (hb1.block _ (lt_heap p4)).trans p4
  have hbw := below_step hb0 hb1
  replace hs := hs.mono hb1
  by_cases hce : checkE s = 0
  rotate_left
  · have HR := Lib.hid (show checkT s root l i = checkE s by unfold checkT; rw [if_pos hce])
    have he1 : (checkE s != 0) = true := by rw [bne_iff_ne]; exact hce
    generalize hcc : checkE s = ce at *
    replace hcc := Lib.hid hcc
    clear hce hs
    go_wp2
    go_ret
    exact ⟨by rw [HR.out]; rfl, hbw⟩
  have he1 : (checkE s != 0) = false := by rw [hce]; rfl
  have he0 : (checkE s == 0) = true := by rw [hce]; rfl
  have h400 : n ≤ 400 := by have := (checkE_zero s hce).1; have := HN.out; omega
  have hri := (checkE_zero s hce).2.2.2.1
  have HCE := Lib.hid hce
  clear hce
  by_cases hlv : l < 0 ∨ 3 < l
  · have HR := Lib.hid (show checkT s root l i = 3 by unfold checkT; rw [if_neg (by simp [HCE.out]), if_pos hlv])
    by_cases hl0 : l < 0
    · clear hlv hs hri
      go_wp2
      go_ret
      exact ⟨by rw [HR.out]; rfl, hbw⟩
    · have hl3 : 3 < l := by omega
      clear hlv hs hri
      go_wp2
      go_ret
      exact ⟨by rw [HR.out]; rfl, hbw⟩
  have hl0 : ¬ l < 0 := by omega
  have hl3 : ¬ 3 < l := by omega
  have c4 := cell_of_one p4
  have l4 := lt_heap p4
  have hq := p4_pos l.toNat
  have hpw : ∀ u, Calls Try.prog 97 #[.int .i64 l] u fun e w' => e = .returned (.int .i64 (Go.Proofs.Ytodogcokljmkmaa.p4 l.toNat)) ∧ w' = u := fun u => power_any u l (by omega) (by omega)
  have HPW := Lib.hid hpw
  clear hpw
  have HLV := Lib.hid hlv
  clear hlv
  have tailR : ∀ (hroot : root = 0 ∨ (thereB s root = true ∧ (blk s root).level = l)), checkT s root l i = if i < 0 ∨ Go.Proofs.Ytodogcokljmkmaa.p4 l.toNat ≤ i then 3 else 0 := by
    intro hroot
    unfold checkT
    rw [if_neg (by simp [HCE.out]), if_neg HLV.out, if_neg, if_neg]
    · rintro ⟨h1, h2⟩
      rcases hroot with h | ⟨_, h⟩
      · exact h1 h
      · exact h2 h
    · rintro ⟨h1, h2⟩
      rcases hroot with h | ⟨h, _⟩
      · exact h1 h
      · rw [h] at h2; cases h2
  have HT := Lib.hid tailR
  clear tailR
  by_cases hr0 : root = 0
  · subst hr0
    have HR := Lib.hid (HT.out (.inl rfl))
    clear HT hs hri
    generalize Go.Proofs.Ytodogcokljmkmaa.p4 l.toNat = q at *
    by_cases hi1 : i < 0
    · go_wp2
      go_ret
      exact ⟨by rw [HR.out, if_pos (by omega)]; rfl, hbw⟩
    · by_cases hi2 : q ≤ i
      · go_wp2_with fail
        refine (HPW.out _).mono ?_
        rintro e w7 ⟨rfl, rfl⟩
        go_wp2
        go_ret
        exact ⟨by rw [HR.out, if_pos (by omega)]; rfl, hbw⟩
      · go_wp2_with fail
        refine (HPW.out _).mono ?_
        rintro e w7 ⟨rfl, rfl⟩
        go_wp2
        go_ret
        exact ⟨by rw [HR.out, if_neg (by omega)]; rfl, hbw⟩
  · have hr1 : (root != 0) = true := by rw [bne_iff_ne]; exact hr0
    have H5 : thereB s root = false → Hid (checkT s root l i = 5) := fun h => Lib.hid (by unfold checkT; rw [if_neg (by simp [HCE.out]), if_neg HLV.out, if_pos ⟨hr0, h⟩])
    cases ht : thereB s root with
    | false =>
      have HR := H5 ht
      clear H5 HT hri
      go_wp2_with fail
      refine (ref_there_is _ _ _ _ s root false ht HN.out hn63 hs).mono ?_
      rintro e w3 ⟨rfl, hb3⟩
      have hbw := below_step hbw hb3
      clear hs
      go_wp2
      go_ret
      exact ⟨by rw [HR.out]; rfl, hbw⟩
    | true =>
      go_wp2_with fail
      refine (ref_there_is _ _ _ _ s root true ht HN.out hn63 hs).mono ?_
      rintro e w3 ⟨rfl, hb3⟩
      replace hbw := below_step hbw hb3
      replace hs := hs.mono hb3
      replace p4 := (hb3.block _ (lt_heap p4)).trans p4
      replace c4 := cell_of_one p4
      replace l4 := lt_heap p4
      obtain ⟨j, hj, rfl, -⟩ := there_in ht
      have hjn : (j : Int) < n := by have := HN.out; omega
      obtain ⟨sb, so, rfl, hsB⟩ := hs.at j hj
      have hB := hsB j hj
      have x0 := hB.refs
      have x1 := hB.level
      have lB := hB.lt
      have hbj := blk_at s j hj
      rw [hbj] at HT
      have H4 : s[j].level ≠ l → Hid (checkT s ((j : Int) + 1) l i = 4) := fun h2 => Lib.hid (by
        unfold checkT
        rw [if_neg (by simp [HCE.out]), if_neg HLV.out, if_neg (by rw [ht]; simp), if_pos ⟨hr0, by rw [hbj]; exact h2⟩])
      have HT2 : s[j].level = l → Hid (checkT s ((j : Int) + 1) l i = if i < 0 ∨ Go.Proofs.Ytodogcokljmkmaa.p4 l.toNat ≤ i then 3 else 0) := fun h2 => Lib.hid (HT.out (.inr ⟨ht, h2⟩))
      clear hsB hB hbj hs hri HT H5 ht
      generalize s[j] = x at *
      obtain ⟨rr, lv, kk, bb⟩ := x
      simp only at *
      by_cases hl : lv = l
      · have hl1 : (lv != l) = false := by rw [hl]; simp
        have HR := HT2 hl
        clear H4 HT2 hl
        generalize Go.Proofs.Ytodogcokljmkmaa.p4 l.toNat = q at *
        by_cases hi1 : i < 0
        · go_wp2
          go_ret
          exact ⟨by rw [HR.out, if_pos (by omega)]; rfl, hbw⟩
        · by_cases hi2 : q ≤ i
          · go_wp2_with fail
            refine (HPW.out _).mono ?_
            rintro e w7 ⟨rfl, rfl⟩
            go_wp2
            go_ret
            exact ⟨by rw [HR.out, if_pos (by omega)]; rfl, hbw⟩
          · go_wp2_with fail
            refine (HPW.out _).mono ?_
            rintro e w7 ⟨rfl, rfl⟩
            go_wp2
            go_ret
            exact ⟨by rw [HR.out, if_neg (by omega)]; rfl, hbw⟩
      · have hl1 : (lv != l) = true := by rw [bne_iff_ne]; exact hl
        have HR := H4 hl
        clear H4 HT2 hl
        go_wp2
        go_ret
        exact ⟨by rw [HR.out]; rfl, hbw⟩
end Go.Proofs.Ytodogcokljmkmaa

namespace Go.Proofs.Ytodogcokljmkmaa
open Go.RowKit
set_option linter.unusedVariables false

theorem info_ys : (Try.prog.info? 32).map (fun i => (i.zero, i.size, i.bytes)) = some (some (.slice none 0 0), 1, 24) := by kernel_rfl

/-- values that read as bytes; nothing is nil -/
structure LV (w : World) (vs : List Value) (L : List (List Int)) : Prop where
  len : vs.length = L.length
  each : ∀ i (h : i < vs.length) (h' : i < L.length), Sl .u8 w vs[i] L[i] ∧ (L[i] = [] → vs[i] = .slice none 0 0)

theorem LV.nil (w : World) : LV w [] [] := ⟨rfl, fun i h => by simp at h⟩
theorem Sl.mono' {k : IntKind} {w w' : World} {v : Value} {xs : List Int} (h : Sl k w v xs) (hb : Below w.heap.size w w') : Sl k w' v xs := by
  obtain ⟨ao, cap, h1, h2, h3⟩ := h
  exact ⟨ao, cap, h1, h2.mono hb, h3⟩
theorem LV.mono {w w' : World} {vs : List Value} {L : List (List Int)} (h : LV w vs L) (hb : Below w.heap.size w w') : LV w' vs L :=
  ⟨h.len, fun i h1 h2 => ⟨(h.each i h1 h2).1.mono' hb, (h.each i h1 h2).2⟩⟩
theorem LV.app {w : World} {vs us : List Value} {L K : List (List Int)} (h : LV w vs L) (k : LV w us K) : LV w (vs ++ us) (L ++ K) := by
  have h1 := h.len
  have h2 := k.len
  refine ⟨by simp only [List.length_append]; omega, fun i hi hi' => ?_⟩
  by_cases e : i < vs.length
  · simp only [List.getElem_append_left e, List.getElem_append_left (show i < L.length by omega)]
    exact h.each i e (by omega)
  · simp only [List.getElem_append_right (show vs.length ≤ i by omega), List.getElem_append_right (show L.length ≤ i by omega)]
    simp only [List.length_append] at hi hi'
    have e2 : i - vs.length = i - L.length := by omega
    have := k.each (i - vs.length) (by omega) (by omega)
    simp only [e2] at this ⊢
    exact this
theorem LV.one {w : World} {vs : List Value} {L : List (List Int)} (h : LV w vs L) : ∀ u ∈ vs, u.oneCell' = true := by
  intro u hu
  obtain ⟨i, hi, rfl⟩ := List.getElem_of_mem hu
  obtain ⟨ao, cap, e, _⟩ := (h.each i hi (by have := h.len; omega)).1
  rw [e]; rfl
theorem LV.nils (w : World) (n : Nat) : LV w (List.replicate n (.slice none 0 0)) (List.replicate n []) :=
  ⟨by simp, fun i h h' => by simp only [List.getElem_replicate]; exact ⟨⟨none, 0, rfl, .inl rfl, Nat.le_refl _, fun _ => rfl⟩, fun _ => trivial⟩⟩

theorem leavesF_len (m : Nat) (s : List Blk) (a : Int) : (leavesF m s a).length = p4n m := by simp [leavesF]
theorem leavesF_none (m : Nat) (s : List Blk) : leavesF m s 0 = List.replicate (p4n m) [] := by
  unfold leavesF
  rw [List.eq_replicate_iff]
  refine ⟨by simp, fun x hx => ?_⟩
  obtain ⟨i, _, rfl⟩ := List.mem_map.1 hx
  exact leafB_zero m s i
theorem leavesF_succ (m : Nat) (hm : m < 3) (s : List Blk) (a : Int) : leavesF (m + 1) s a = (List.range 4).flatMap fun k => leavesF m s (kidF s a k) := by
  have hpp := p4n_pos m
  unfold leavesF
  rw [p4n_succ m hm, range_four, List.map_flatMap]
  congr 1
  funext k
  rw [List.map_map]
  apply List.map_congr_left
  intro i hi
  have hi := List.mem_range.1 hi
  simp only [Function.comp]
  have e1 : (k * p4n m + i) / p4n m = k := by
    rw [Nat.mul_comm, Nat.mul_add_div hpp, Nat.div_eq_of_lt hi]; omega
  have e2 : (k * p4n m + i) % p4n m = i := by
    rw [Nat.mul_comm, Nat.mul_add_mod, Nat.mod_eq_of_lt hi]
  rw [leafB_succ, e1, e2]
theorem leavesF_get (m : Nat) (s : List Blk) (a : Int) (i : Nat) (h : i < (leavesF m s a).length) : (leavesF m s a)[i] = leafB m s a i := by simp [leavesF]

/-- the leaves below the first of four -/
def leavesTo (m : Nat) (s : List Blk) (a : Int) (k : Nat) : List (List Int) := (List.range k).flatMap fun q => leavesF m s (kidF s a q)
theorem leavesTo_succ (m : Nat) (s : List Blk) (a : Int) (k : Nat) : leavesTo m s a (k + 1) = leavesTo m s a k ++ leavesF m s (kidF s a k) := by
  unfold leavesTo
  rw [List.range_succ, List.flatMap_append]
  simp
theorem leavesTo_len (m : Nat) (s : List Blk) (a : Int) : ∀ k, (leavesTo m s a k).length = k * p4n m := by
  intro k
  induction k with
  | zero => simp [leavesTo]
  | succ k ih => rw [leavesTo_succ, List.length_append, ih, leavesF_len, Nat.succ_mul]

theorem owned_one (w : World) (base : Nat) (v : Value) (hb : base ≤ w.heap.size) : (w.alloc (.cells #[v] 32)).ownsRow base 32 1 (.slice (some ⟨w.heap.size, 0, none⟩) 1 1) 1 [v] :=
  World.ownsRow_lit (base := base) (e := 32) (size := 1) w #[v] 1 hb (by unfold maxLen; omega) rfl
theorem owned_nils (w : World) (base n : Nat) (hb : base ≤ w.heap.size) (hn : n ≤ maxLen) : (w.alloc (.cells (madeCells #[.slice none 0 0] n) 32)).ownsRow base 32 1 (.slice (some ⟨w.heap.size, 0, none⟩) n n) n (List.replicate n (.slice none 0 0)) := by
  have h := World.ownsRow_lit (base := base) (e := 32) (size := 1) w (madeCells #[.slice none 0 0] n) n hb hn (by rw [← Array.length_toList, toList_madeCells_one]; simp)
  rw [toList_madeCells_one] at h
  exact h

theorem ownsRow_mono {w w' : World} {base e size n : Nat} {v : Value} {xs : List Value} (h : w.ownsRow base e size v n xs) (hb : Below w.heap.size w w') : w'.ownsRow base e size v n xs := by
  obtain ⟨h1, h2⟩ := h
  refine ⟨h1, ?_⟩
  rcases h2 with h2 | ⟨g, cap, cur, hv, hg, hh, r⟩
  · exact .inl h2
  · exact .inr ⟨g, cap, cur, hv, hg, by rw [hb.block g (lt_heap hh)]; exact hh, r⟩

def LeavesAt (m : Nat) : Prop := ∀ (w0 w : World) (ao : Option Addr) (n cap : Nat) (s : List Blk) (root : Int), Below w0.heap.size w0 w → s.length = n → n ≤ 400 → StoRow w0 ao s → formsE s s = 0 → RootAt s m root →
    Calls Try.prog 68 #[.agg #[.slice ao n cap], .int .i64 root, .int .i64 (m : Int)] w fun e w' => ∃ v vs, e = .returned v ∧ w'.ownsRow w.heap.size 32 1 v vs.length vs ∧ LV w0 vs (leavesF m s root) ∧ Below w.heap.size w w'

set_option maxRecDepth 100000 in
set_option maxHeartbeats 4000000 in
theorem leaves_none (w0 w : World) (ao : Option Addr) (n cap : Nat) (s : List Blk) (m : Nat) (hm : m ≤ 3) :
    Calls Try.prog 68 #[.agg #[.slice ao n cap], .int .i64 0, .int .i64 (m : Int)] w fun e w' => ∃ v vs, e = .returned v ∧ w'.ownsRow w.heap.size 32 1 v vs.length vs ∧ LV w0 vs (leavesF m s 0) ∧ Below w.heap.size w w' := by
  have hb0 : Below w.heap.size w (w.alloc (.cells #[.slice ao n cap] 24)) := (Below.refl _ _).alloc (Nat.le_refl _) _
  have hp64 : p4n m ≤ 64 := by unfold p4n; (repeat' split) <;> omega
  have HP : Hid (∀ u : World, Calls Try.prog 97 #[.int .i64 (m : Int)] u fun e w' => e = .returned (.int .i64 ((p4n m : Nat) : Int)) ∧ w' = u) := Lib.hid fun u => by
    refine (power_any u m (by omega) (by omega)).mono ?_
    rintro e w' ⟨rfl, rfl⟩
    exact ⟨by rw [Int.toNat_natCast, p4n_int], rfl⟩
  have HL := Lib.hid (leavesF_none m s)
  generalize p4n m = q at *
  go_enter Try.func68, Try.ntmps68
  go_wp2_with fail
  generalize w.alloc (Obj.cells #[Value.slice ao n cap] 24) = W0 at *
  refine (HP.out W0).mono ?_
  rintro e w1 ⟨rfl, rfl⟩
  have hmk : (Instr.makeSlice 100 (.int .i64 (q : Int)) (.int .i64 (q : Int))).run Try.prog w1 = .ok (.slice (some ⟨w1.heap.size, 0, none⟩) q q) (w1.alloc (.cells (madeCells #[.slice none 0 0] q) 32)) :=
    run_make_row' 100 32 (.slice none 0 0) 24 Try.underlying100 info_ys rfl .i64 .i64 q (by omega) (by omega) w1
  have hO := owned_nils w1 w.heap.size q hb0.size (by unfold maxLen; omega)
  have hbw := hb0.alloc hb0.size (.cells (madeCells #[.slice none 0 0] q) 32)
  have HO := Lib.hid hO
  clear hO hb0
  generalize w1.alloc (.cells (madeCells #[.slice none 0 0] q) 32) = W2 at *
  go_wp2
  go_ret
  exact ⟨_, _, rfl, by rw [List.length_replicate]; exact HO.out, by rw [HL.out]; exact LV.nils _ _, hbw⟩

set_option maxRecDepth 100000 in
set_option maxHeartbeats 4000000 in
theorem leaves_leaf (w0 w : World) (ao : Option Addr) (n cap : Nat) (s : List Blk) (root : Int) (hbw : Below w0.heap.size w0 w) (hn : s.length = n) (h400 : n ≤ 400) (hs : StoRow w0 ao s) (hf : formsE s s = 0) (ht : thereB s root = true) (hl : (blk s root).level = 0) :
    Calls Try.prog 68 #[.agg #[.slice ao n cap], .int .i64 root, .int .i64 0] w fun e w' => ∃ v vs, e = .returned v ∧ w'.ownsRow w.heap.size 32 1 v vs.length vs ∧ LV w0 vs (leavesF 0 s root) ∧ Below w.heap.size w w' := by
  have HN := Lib.hid hn
  have h4 := four_bytes hf ht hl
  obtain ⟨j, hj, rfl, -⟩ := there_in ht
  rw [blk_at s j hj] at h4
  have hb1 : ((j : Int) + 1 == 0) = false := by rw [beq_eq_false_iff_ne]; omega
  have hjn : (j : Int) < n := by omega
  have HL := Lib.hid (show leavesF 0 s ((j : Int) + 1) = [s[j].bytes] by
    show [leafB 0 s ((j : Int) + 1) 0] = _
    unfold leafB leafA
    rw [if_neg (by omega), blk_at s j hj])
  obtain ⟨b, o, rfl, hB0⟩ := hs.at j hj
  obtain ⟨v3, x3, hv3⟩ := (hB0 j hj).bytes
  have HV := Lib.hid hv3
  have hB := (hs.mono hbw).at j hj
  obtain ⟨b', o', e, hB⟩ := hB
  simp only [Option.some.injEq, Addr.mk.injEq, and_true] at e
  obtain ⟨rfl, rfl⟩ := e
  have hb0 : Below w.heap.size w (w.alloc (.cells #[.slice (some ⟨b, o, none⟩) n cap] 24)) := (Below.refl _ _).alloc (Nat.le_refl _) _
  have p0 : (w.alloc (.cells #[.slice (some ⟨b, o, none⟩) n cap] 24)).heap[w.heap.size]? = some (.cells #[.slice (some ⟨b, o, none⟩) n cap] 24 (0, 0)) := heap_alloc_new _ _
  have hBj := hB j hj
  have lB := hBj.lt
  have tr := fun (q : Nat) => (bcell hb0).1 b q lB
  have c0 := (tr _).trans hBj.refs
  have c1 := (tr _).trans hBj.level
  obtain ⟨kv, c2, ka, kc, rfl, -, -⟩ := hBj.kids
  have c2 := (tr _).trans c2
  have c3 := (tr _).trans (((bcell hbw).1 b _ (World.block_lt_of_cell? _ _ x3)).trans x3)
  obtain ⟨ba, bc, rfl, -, -⟩ := hv3
  have lB0 := Nat.lt_of_lt_of_le lB hb0.size
  have cp := cell_of_one p0
  have lp := lt_heap p0
  clear hB hBj hB0 tr x3 hn ht hl
  generalize s[j].refs = y0 at *
  generalize s[j].level = y1 at *
  generalize s[j].kids.length = y2 at *
  rw [h4] at c3
  go_enter Try.func68, Try.ntmps68
  have HH := Lib.hid h4
  have hA2 : Below w.heap.size w (((w.alloc (.cells #[.slice (some ⟨b, o, none⟩) n cap] 24)).alloc (.cells #[.int .i64 y0, .int .i64 y1, .slice ka y2 kc, .slice ba 4 bc] 87)).alloc (.cells #[.slice ba 4 bc] 32)) :=
    (hb0.alloc hb0.size _).alloc (by simp; omega) _
  have hO := owned_one ((w.alloc (.cells #[.slice (some ⟨b, o, none⟩) n cap] 24)).alloc (.cells #[.int .i64 y0, .int .i64 y1, .slice ka y2 kc, .slice ba 4 bc] 87)) w.heap.size (.slice ba 4 bc) (by simp; omega)
  rw [show ((w.alloc (.cells #[.slice (some ⟨b, o, none⟩) n cap] 24)).alloc (.cells #[.int .i64 y0, .int .i64 y1, .slice ka y2 kc, .slice ba 4 bc] 87)).heap.size = w.heap.size + 1 + 1 from by simp] at hO
  have HO := Lib.hid hO
  clear hO h4
  go_wp2_with fail
  go_ret
  refine ⟨_, [.slice ba 4 bc], rfl, HO.out, ?_, hA2⟩
  rw [HL.out]
  refine ⟨rfl, fun i h h' => ?_⟩
  obtain rfl : i = 0 := by simp at h; omega
  have hv := HV.out
  rw [HH.out] at hv
  exact ⟨hv, fun e => by simp only [List.getElem_cons_zero] at e; have := HH.out; rw [e] at this; simp at this⟩

set_option maxRecDepth 100000 in
set_option maxHeartbeats 4000000 in
theorem leaves_succ (m : Nat) (hm : m ≤ 2) (ih : LeavesAt m) : LeavesAt (m + 1) := by
  intro w0 w ao n cap s root hbw hn h400 hs hf hr
  by_cases h0 : root = 0
  · subst h0
    exact leaves_none w0 w ao n cap s (m + 1) (by omega)
  have HN := Lib.hid hn
  obtain ⟨ht, hl⟩ := hr.resolve_left h0
  have h4 := four_kids hf ht (by omega)
  have hKR := fun k (hk : k < 4) => kidF_root hf hr k hk
  have HKR := Lib.hid hKR
  have HL := Lib.hid (leavesF_succ m (by omega) s root)
  have HS := Lib.hid (leavesTo_succ m s root)
  have HLN := Lib.hid (leavesTo_len m s root)
  have HFL := Lib.hid (fun q => leavesF_len m s q)
  have HTO : Hid (leavesF (m + 1) s root = leavesTo m s root 4) := Lib.hid HL.out
  have HZ : Hid (leavesTo m s root 0 = []) := Lib.hid rfl
  have HKD := Lib.hid (fun k => kidF_ne s root k h0)
  have hpp := p4n_pos m
  have hp64 : p4n m ≤ 16 := by unfold p4n; (repeat' split) <;> omega
  obtain ⟨j, hj, rfl, -⟩ := there_in ht
  rw [blk_at s j hj] at h4
  have hb1 : ((j : Int) + 1 == 0) = false := by rw [beq_eq_false_iff_ne]; omega
  have hjn : (j : Int) < n := by omega
  have hz0 : ((m : Int) + 1 == 0) = false := by rw [beq_eq_false_iff_ne]; omega
  have HIH := Lib.hid (fun (u : World) (k : Nat) (hk : k < 4) (h : Below w0.heap.size w0 u) => ih w0 u ao n cap s (kidF s ((j : Int) + 1) k) h HN.out h400 hs hf (HKR.out k hk))
  have HKC : Hid (∀ k (hk : k < s[j].kids.length), s[j].kids[k] = kidF s ((j : Int) + 1) k) := Lib.hid fun k hk => by
    rw [HKD.out k, blk_at s j hj, List.getElem?_eq_getElem hk]; rfl
  obtain ⟨b, o, rfl, hB⟩ := (hs.mono hbw).at j hj
  have hb0 : Below w.heap.size w (w.alloc (.cells #[.slice (some ⟨b, o, none⟩) n cap] 24)) := (Below.refl _ _).alloc (Nat.le_refl _) _
  have p0 : (w.alloc (.cells #[.slice (some ⟨b, o, none⟩) n cap] 24)).heap[w.heap.size]? = some (.cells #[.slice (some ⟨b, o, none⟩) n cap] 24 (0, 0)) := heap_alloc_new _ _
  have hBj := hB j hj
  have lB := hBj.lt
  have tr := fun (q : Nat) => (bcell hb0).1 b q lB
  have c0 := (tr _).trans hBj.refs
  have c1 := (tr _).trans hBj.level
  obtain ⟨kv, c2, ka, kc, rfl, hkr, -⟩ := hBj.kids
  have c2 := (tr _).trans c2
  obtain ⟨bv, c3, ba, bc, rfl, -, -⟩ := hBj.bytes
  have c3 := (tr _).trans c3
  have lB0 := Nat.lt_of_lt_of_le lB hb0.size
  have cp := cell_of_one p0
  have lp := lt_heap p0
  have hA1 := hb0.alloc hb0.size (.cells #[.int .i64 s[j].refs, .int .i64 s[j].level, .slice ka 4 kc, .slice ba s[j].bytes.length bc] 87)
  have p1 : ((w.alloc (.cells #[.slice (some ⟨b, o, none⟩) n cap] 24)).alloc (.cells #[.int .i64 s[j].refs, .int .i64 s[j].level, .slice ka 4 kc, .slice ba s[j].bytes.length bc] 87)).heap[w.heap.size]? = some (.cells #[.slice (some ⟨b, o, none⟩) n cap] 24 (0, 0)) := heap_alloc2_old _ _ _
  have p2 : ((w.alloc (.cells #[.slice (some ⟨b, o, none⟩) n cap] 24)).alloc (.cells #[.int .i64 s[j].refs, .int .i64 s[j].level, .slice ka 4 kc, .slice ba s[j].bytes.length bc] 87)).heap[w.heap.size + 1]? = some (.cells #[.int .i64 s[j].refs, .int .i64 s[j].level, .slice ka 4 kc, .slice ba s[j].bytes.length bc] 87 (0, 0)) := heap_alloc2_new _ _ _
  have hkr2 := hkr.mono hA1
  rw [h4] at c2
  have HK4 := Lib.hid h4
  clear hB hBj tr hn ht hl h0 hr hKR h4 hkr p0
  generalize s[j].refs = y0 at *
  generalize s[j].level = y1 at *
  generalize s[j].bytes.length = y2 at *
  generalize s[j].kids = K at *
  generalize leavesF (m + 1) s ((j : Int) + 1) = LL at *
  generalize leavesTo m s ((j : Int) + 1) = TO at *
  rw [show ((m + 1 : Nat) : Int) = (m : Int) + 1 from rfl]
  go_enter Try.func68, Try.ntmps68
  go_wp2_with fail
  have hsA := hA1.size
  have hbA0 := hbw.trans (hA1.mono hbw.size)
  have hzA : w.heap.size + 1 < ((w.alloc (.cells #[.slice (some ⟨b, o, none⟩) n cap] 24)).alloc (.cells #[.int .i64 y0, .int .i64 y1, .slice ka 4 kc, .slice ba y2 bc] 87)).heap.size := lt_heap p2
  generalize (w.alloc (Obj.cells #[Value.slice (some ⟨b, o, none⟩) n cap] 24)).alloc (Obj.cells #[Value.int .i64 y0, Value.int .i64 y1, Value.slice ka 4 kc, Value.slice ba y2 bc] 87) = W1 at *
  clear c0 c1 c2 c3 cp lp lB0 p2 hb0
  go_loopw [8, 30] (fun v x wr => ∃ k : Nat, k ≤ 4 ∧ x = .int .i64 k ∧ Below W1.heap.size W1 wr ∧ ∃ vs, wr.ownsRow W1.heap.size 32 1 v vs.length vs ∧ LV w0 vs (TO k)) (fun _ x _ => 4 - (intOf x).toNat)
  case atStart => exact ⟨0, by omega, rfl, Below.refl _ _, [], World.ownsRow_nil _ _ _ _, by rw [HZ.out]; exact LV.nil _⟩
  case round =>
    obtain ⟨k, hk, rfl, hbel, vs, hown, hLV⟩ := hrel
    by_cases hlt : k < 4
    · have hkl : k < K.length := by have := HK4.out; omega
      obtain ⟨kb, ko, rfl, hkc⟩ := (hkr2.mono hbel).at k hkl
      have hck := hkc k hkl
      rw [HKC.out k hkl] at hck
      have lk := World.block_lt_of_cell? _ _ hck
      have q1 := (hbel.block _ (lt_heap p1)).trans p1
      have d1 := cell_of_one q1
      have e1 := lt_heap q1
      have hI := HIH.out wr k hlt (hbA0.trans (hbel.mono hbA0.size))
      have hs1 := HS.out k
      have hfl := HFL.out (kidF s ((j : Int) + 1) k)
      have hln := HLN.out k
      have HSS := Lib.hid hs1
      have hvl := hLV.len
      have HLV := Lib.hid hLV
      have HOWN := Lib.hid hown
      have hszr := hbel.size
      clear hkc hs1 hLV hown
      generalize kidF s ((j : Int) + 1) k = y at *
      generalize leavesF m s y = LF at *
      have hk4 : (k : Int) < 4 := by omega
      go_wp2_with fail
      refine hI.mono ?_
      rintro e w3 ⟨u, us, rfl, hu, hLu, hb3⟩
      have hul := hLu.len
      obtain ⟨gu, cu, rfl, hgu, hgl⟩ := hu.form (by omega)
      have hcu := hu.cells (g := gu) rfl
      have hone := hLu.one
      have hown3 := ownsRow_mono HOWN.out hb3
      obtain ⟨i0, hi, hz0', hz1, hz2⟩ := info_parts info_ys
      have hsz3 := hb3.size
      have hkq : k * p4n m ≤ 3 * p4n m := Nat.mul_le_mul_right _ (by omega)
      have HB3 := Lib.hid hb3
      have HLU := Lib.hid hLu
      have hmx : vs.length + us.length ≤ 200 := by omega
      clear hb3 hLu hu hln hfl hvl hul hkq d1 e1
      go_wp2_with (first
        | (at_builtin; refine wpList_append_own _ rfl (.tmp 34) (.tmp 39) 100 rfl W1.heap.size 32 i0 (.slice none 0 0) 1 24 Try.underlying100 hi hz0' hz1 hz2 rfl (by decide) _ vs.length vs rfl hown3 ⟨gu, 0, none⟩ us.length cu us rfl (by simp) hcu hone ?_ ?_ (by omega) ?_; rotate_right; intro v' w4 hown4 hg4 hv4; clear hv4 hcu hone hi hz0' hz1 hz2))
      · have hb4 : Below W1.heap.size W1 w4 := ((hbel.trans (HB3.out.mono hszr)).grown hg4 (by omega) fun q hq => (World.ownsRow.lt hown3 q hq).1)
        go_roundw
        case rel => exact ⟨k + 1, by omega, by go_num, hb4, vs ++ us, by rw [List.length_append]; exact hown4, by rw [HSS.out]; exact HLV.out.app HLU.out⟩
        case measure => simp [intOf]; omega
      · unfold maxLen; omega
      · omega
    · obtain rfl : k = 4 := by omega
      have HO := Lib.hid (World.ownsRow.mono hown (base' := w.heap.size) (by omega))
      have HLV := Lib.hid hLV
      clear hown hLV
      go_wp2
      go_ret
      exact ⟨_, vs, rfl, HO.out, by rw [HTO.out]; exact HLV.out, hA1.trans (hbel.mono hsA)⟩

theorem leavesOf_any : ∀ m : Nat, m ≤ 3 → LeavesAt m := by
  intro m
  induction m with
  | zero =>
    intro _ w0 w ao n cap s root hbw hn h400 hs hf hr
    rcases hr with rfl | ⟨ht, hl⟩
    · exact leaves_none w0 w ao n cap s 0 (by omega)
    · exact leaves_leaf w0 w ao n cap s root hbw hn h400 hs hf ht hl
  | succ m ih => intro h; exact leaves_succ m (by omega) (ih (by omega))
end Go.Proofs.Ytodogcokljmkmaa

namespace Go.Proofs.Ytodogcokljmkmaa
open Go.RowKit
set_option linter.unusedVariables false

/-- values that read as bytes -/
structure LW (w : World) (vs : List Value) (L : List (List Int)) : Prop where
  len : vs.length = L.length
  each : ∀ i (h : i < vs.length) (h' : i < L.length), Sl .u8 w vs[i] L[i]
theorem LV.lw {w : World} {vs : List Value} {L : List (List Int)} (h : LV w vs L) : LW w vs L := ⟨h.len, fun i h1 h2 => (h.each i h1 h2).1⟩
theorem LW.mono {w w' : World} {vs : List Value} {L : List (List Int)} (h : LW w vs L) (hb : Below w.heap.size w w') : LW w' vs L :=
  ⟨h.len, fun i h1 h2 => (h.each i h1 h2).mono' hb⟩

/-- a row of byte slices, read -/
def Rows2 (w : World) (ao : Option Addr) (L : List (List Int)) : Prop :=
  L = [] ∨ ∃ b o, ao = some ⟨b, o, none⟩ ∧ ∀ i (h : i < L.length), ∃ u, w.cell? ⟨b, o + i, none⟩ = some u ∧ Sl .u8 w u L[i]
theorem Rows2.mono {w w' : World} {ao : Option Addr} {L : List (List Int)} (h : Rows2 w ao L) (hb : Below w.heap.size w w') : Rows2 w' ao L := by
  rcases h with h | ⟨b, o, rfl, h⟩
  · exact .inl h
  · refine .inr ⟨b, o, rfl, fun i hi => ?_⟩
    obtain ⟨u, h1, h2⟩ := h i hi
    exact ⟨u, ((bcell hb).1 _ _ (World.block_lt_of_cell? _ _ h1)).trans h1, h2.mono' hb⟩
theorem rows2_of {w : World} {base n : Nat} {v : Value} {vs : List Value} {L : List (List Int)} (h : w.ownsRow base 32 1 v n vs) (hn : vs.length = n) (hL : LW w vs L) : ∃ ao cap, v = .slice ao n cap ∧ Rows2 w ao L := by
  have hl := hL.len
  obtain ⟨h1, ⟨rfl, h3⟩ | ⟨g, cap, cur, rfl, hb, hg, hle, hm, hs, ht⟩⟩ := h
  · exact ⟨none, 0, by rw [h3], .inl (List.eq_nil_of_length_eq_zero (by omega))⟩
  · refine ⟨some ⟨g, 0, none⟩, cap, rfl, .inr ⟨g, 0, rfl, fun i hi => ?_⟩⟩
    have hiv : i < vs.length := by omega
    refine ⟨vs[i], ?_, hL.each i hiv hi⟩
    rw [Nat.zero_add, cell_of_block hg]
    have e : (cur.toList.take (n * 1))[i]? = vs[i]? := by rw [ht]
    rw [List.getElem?_take, if_pos (by omega), List.getElem?_eq_getElem hiv] at e
    simpa using e

theorem blk_byt {s : List Blk} (hw : WfS s) (a : Int) : Byt (blk s a).bytes := by
  unfold blk
  cases h : s[(a - 1).toNat]? with
  | none => intro x hx; simp [noBlk] at hx
  | some y => exact (hw y (List.mem_of_getElem? h)).bytes
theorem leafB_byt {s : List Blk} (hw : WfS s) (m : Nat) (a : Int) (i : Nat) : Byt (leafB m s a i) := by
  unfold leafB
  split
  · intro x hx; cases hx
  · exact blk_byt hw _
theorem leavesF_byt {s : List Blk} (hw : WfS s) (m : Nat) (a : Int) : ∀ x ∈ leavesF m s a, Byt x := by
  intro x hx
  obtain ⟨i, _, rfl⟩ := List.mem_map.1 hx
  exact leafB_byt hw m a i

def allR (s : List Blk) (root l : Int) : List (List Int) × Int := if checkT s root l 0 ≠ 0 then ([], checkT s root l 0) else (leavesF l.toNat s root, 0)

/-- values that read as bytes, in no block up to B -/
structure LX (w : World) (B : Nat) (vs : List Value) (L : List (List Int)) : Prop where
  len : vs.length = L.length
  each : ∀ i (h : i < vs.length) (h' : i < L.length), ∀ g, g ≤ B → SlX g .u8 w vs[i] L[i]
theorem LX.mono {w w' : World} {B : Nat} {vs : List Value} {L : List (List Int)} (h : LX w B vs L) (hb : Below w.heap.size w w') : LX w' B vs L :=
  ⟨h.len, fun i h1 h2 g hg => (h.each i h1 h2 g hg).keep fun b _ hlt => hb.block b hlt⟩

/-- a row of clones, as far as it is filled -/
def RowTo (w : World) (kb q k : Nat) (L : Nat → List Int) : Prop :=
  ∃ vs : List Value, vs.length = q ∧ w.heap[kb]? = some (.cells vs.toArray 32 (0, 0)) ∧ ∀ i (h : i < vs.length), i < k → ∀ g, g ≤ kb → SlX g .u8 w vs[i] (L i)

theorem RowTo.mono {w w' : World} {kb q k : Nat} {L : Nat → List Int} (h : RowTo w kb q k L) (hb : Below w.heap.size w w') : RowTo w' kb q k L := by
  obtain ⟨vs, h1, h2, h3⟩ := h
  exact ⟨vs, h1, (hb.block _ (lt_heap h2)).trans h2, fun i hi hk g hg => (h3 i hi hk g hg).keep fun b _ hlt => hb.block b hlt⟩
theorem SlX.setOff {g kb i : Nat} {k : IntKind} {w : World} {v u : Value} {xs : List Int} (h : SlX g k w v xs) (h2 : SlX kb k w v xs) : SlX g k (w.setCell ⟨kb, i, none⟩ u) v xs := by
  obtain ⟨ao, cap, rfl, hf, hc⟩ := h
  obtain ⟨ao', cap', e, hf2, _⟩ := h2
  simp only [Value.slice.injEq, true_and] at e
  obtain ⟨rfl, rfl⟩ := e
  refine ⟨ao, cap, rfl, ?_, hc⟩
  rcases hf with hf | ⟨b, o, rfl, hb, hcell⟩
  · exact .inl hf
  · rcases hf2 with hf2 | ⟨b', o', e, hb', _⟩
    · exact .inl hf2
    · simp only [Option.some.injEq, Addr.mk.injEq, and_true] at e
      obtain ⟨rfl, rfl⟩ := e
      refine .inr ⟨b, o, rfl, hb, fun q hq => ?_⟩
      rw [World.cell?_of_block (a := ⟨b, o + q, none⟩) (Below.heap_setCell _ _ _ _ hb')]
      exact hcell q hq
theorem RowTo.put {w : World} {kb q k : Nat} {L : Nat → List Int} {v : Value} (h : RowTo w kb q k L) (hk : k < q) (hv : ∀ g, g ≤ kb → SlX g .u8 w v (L k)) : RowTo (w.setCell ⟨kb, k, none⟩ v) kb q (k + 1) L := by
  obtain ⟨vs, h1, h2, h3⟩ := h
  refine ⟨vs.set k v, by rw [List.length_set]; exact h1, ?_, fun i hi hik g hg => ?_⟩
  · have := heap_setCell_same' h2 k v
    simpa using this
  · rw [List.length_set] at hi
    rw [List.getElem_set]
    by_cases e : k = i
    · subst e
      rw [if_pos rfl]
      exact (hv g hg).setOff (hv kb (Nat.le_refl _))
    · rw [if_neg e]
      exact (h3 i hi (by omega) g hg).setOff (h3 i hi (by omega) kb (Nat.le_refl _))
theorem RowTo.free {w : World} {kb q k : Nat} {L : Nat → List Int} (h : RowTo w kb q k L) (hk : k < q) : (∃ u, w.cell? ⟨kb, k, none⟩ = some u) ∧ w.frozen? ⟨kb, k, none⟩ = false ∧ kb < w.heap.size := by
  obtain ⟨vs, h1, h2, h3⟩ := h
  refine ⟨⟨vs[k]'(by omega), ?_⟩, free_of_block h2 k, lt_heap h2⟩
  rw [cell_of_block h2]
  simp [h1, hk]
theorem RowTo.done {w : World} {base kb q : Nat} {L : Nat → List Int} (h : RowTo w kb q q L) (hb : base ≤ kb) (hq : q ≤ maxLen) :
    ∃ vs : List Value, vs.length = q ∧ w.ownsRow base 32 1 (.slice (some ⟨kb, 0, none⟩) q q) q vs ∧ LX w base vs ((List.range q).map L) := by
  obtain ⟨vs, h1, h2, h3⟩ := h
  refine ⟨vs, h1, ⟨by simp [h1], .inr ⟨kb, q, vs.toArray, rfl, hb, h2, Nat.le_refl _, hq, by simp [h1], ?_⟩⟩, ⟨by simp [h1], fun i hi hi' g hg => ?_⟩⟩
  · rw [Nat.mul_one, ← h1]
    simp
  · have := h3 i hi (by omega) g (by omega)
    simpa using this

set_option maxRecDepth 100000 in
set_option maxHeartbeats 4000000 in
theorem all_new (w : World) (ao : Option Addr) (n cap : Nat) (s : List Blk) (root l : Int) (hn : s.length = n) (hn63 : n ≤ 1152921504606846976) (hs : StoRow w ao s) (hwf : WfS s) :
    Calls Try.prog 56 #[.agg #[.slice ao n cap], .int .i64 root, .int .i64 l] w fun e w' => ∃ v vs, e = .returned (.tuple #[v, .int .i64 (allR s root l).2]) ∧ w'.ownsRow w.heap.size 32 1 v vs.length vs ∧ LX w' w.heap.size vs (allR s root l).1 ∧ Below w.heap.size w w' := by
  have HN := Lib.hid hn
  have hb0 : Below w.heap.size w (w.alloc (.cells #[.slice ao n cap] 24)) := (Below.refl _ _).alloc (Nat.le_refl _) _
  have q4 : (w.alloc (.cells #[.slice ao n cap] 24)).heap[w.heap.size]? = some (.cells #[.slice ao n cap] 24 (0, 0)) := heap_alloc_new _ _
  clear hn
  go_enter Try.func56, Try.ntmps56
  go_wp2_with fail
  have hs := hs.mono hb0
  generalize w.alloc (Obj.cells #[Value.slice ao n cap] 24) = W0 at *
  refine (treeCheck_any _ _ _ _ s root l 0 HN.out hn63 hs hwf).mono ?_
  rintro e w1 ⟨rfl, hb1⟩
  replace q4 := (hb1.block _ (lt_heap q4)).trans q4
  have hbw := below_step hb0 hb1
  replace hs := hs.mono hb1
  by_cases hc : checkT s root l 0 = 0
  rotate_left
  · have HR := Lib.hid (show allR s root l = ([], checkT s root l 0) by unfold allR; rw [if_pos hc])
    have he1 : (checkT s root l 0 != 0) = true := by rw [bne_iff_ne]; exact hc
    generalize hcc : checkT s root l 0 = ce at *
    replace hcc := Lib.hid hcc
    clear hc hs
    go_wp2
    go_ret2
    exact ⟨_, [], by rw [HR.out]; rfl, World.ownsRow_nil _ _ _ _, by rw [HR.out]; exact ⟨rfl, fun i h => by simp at h⟩, hbw⟩
  · obtain ⟨hce, m, rfl, hm, hroot, -, -⟩ := checkT_ok hc
    have hf := (checkE_zero s hce).2.1
    have h400 : n ≤ 400 := by have := (checkE_zero s hce).1; have := HN.out; omega
    have HR := Lib.hid (show allR s root m = ((List.range (p4n m)).map (leafB m s root), 0) by unfold allR; rw [if_neg (by simp [hc])]; rfl)
    have he1 : (checkT s root m 0 != 0) = false := by rw [hc]; rfl
    have hl1 : lvN (m : Int) = (((p4n m : Nat) : Int), 0) := by
      unfold lvN
      rw [if_neg (by omega), ← p4n_int]; rfl
    have hp64 : p4n m ≤ 64 := by unfold p4n; (repeat' split) <;> omega
    have HGL := Lib.hid (fun i (hi : i < p4n m) => (leafB_len hf m root i hm hroot hi).1)
    have HGT := Lib.hid (fun (u : World) (hu : StoRow u ao s) (i : Nat) (hi : i < p4n m) => treeget_any u ao n cap s root m i HN.out h400 hu hwf hf hm hroot hi)
    clear hc hce
    generalize hcc : checkT s root m 0 = ce at *
    replace hcc := Lib.hid hcc
    go_wp2_with fail
    refine (leaves_any _ _).mono ?_
    rw [hl1]
    rintro e w2 ⟨rfl, rfl⟩
    generalize p4n m = q at *
    generalize leafB m s root = LB at *
    have hmk : (Instr.makeSlice 100 (.int .i64 (q : Int)) (.int .i64 (q : Int))).run Try.prog w2 = .ok (.slice (some ⟨w2.heap.size, 0, none⟩) q q) (w2.alloc (.cells (madeCells #[.slice none 0 0] q) 32)) :=
      run_make_row' 100 32 (.slice none 0 0) 24 Try.underlying100 info_ys rfl .i64 .i64 q (by omega) (by omega) w2
    have hRT : RowTo (w2.alloc (.cells (madeCells #[.slice none 0 0] q) 32)) w2.heap.size q 0 LB := by
      refine ⟨List.replicate q (.slice none 0 0), by simp, ?_, fun i _ h => by omega⟩
      have h := heap_alloc_new w2 (.cells (madeCells #[.slice none 0 0] q) 32)
      rw [h, ← toList_madeCells_one]
    have hbA : Below w2.heap.size w2 (w2.alloc (.cells (madeCells #[.slice none 0 0] q) 32)) := (Below.refl _ _).alloc (Nat.le_refl _) _
    go_wp2
    generalize w2.alloc (Obj.cells (madeCells #[Value.slice none 0 0] q) 32) = W3 at *
    have lq := lt_heap q4
    go_loopw [28] (fun x wr => ∃ k : Nat, k ≤ q ∧ x = .int .i64 k ∧ Below w2.heap.size w2 wr ∧ RowTo wr w2.heap.size q k LB) (fun x _ => q - (intOf x).toNat)
    case atStart => exact ⟨0, Nat.zero_le _, rfl, hbA, hRT⟩
    case round =>
      obtain ⟨k, hk, rfl, hbel, hT⟩ := hrel
      by_cases hlt : k < q
      · have p1 := (hbel.block _ lq).trans q4
        have c1 := cell_of_one p1
        have l1 := lt_heap p1
        have hkq : (k : Int) < q := by omega
        have hll := HGL.out k hlt
        have hG := HGT.out wr (hs.mono hbel) k hlt
        obtain ⟨-, -, hlr⟩ := hT.free hlt
        have HT := Lib.hid hT
        have HBE := Lib.hid hbel
        have hszr := hbel.size
        clear hT hbel
        obtain ⟨xs, hxs⟩ : ∃ xs, LB k = xs := ⟨_, rfl⟩
        rw [hxs] at hll hG
        have HXS := Lib.hid hxs
        clear hxs
        go_wp2_with fail
        refine hG.mono ?_
        rintro e w4 ⟨v4, rfl, hsl, hb4⟩
        obtain ⟨ba, bc, rfl, hbr, hbc⟩ := hsl
        obtain ⟨xn, hxn⟩ : ∃ xn, xs.length = xn := ⟨_, rfl⟩
        rw [hxn] at hbc hll ⊢
        have HXN := Lib.hid hxn
        clear hxn
        have hsz4 := hb4.size
        go_wp2_with fail
        refine (clone_bytes_n _ _ _ xs _ HXN.out hbr hbc.2 (by omega)).mono ?_
        rintro e w5 ⟨v5, rfl, hown5, -, hb5⟩
        obtain ⟨a5, c5, rfl, -, -, -, -⟩ := hown5.shape'
        have hT5 := (HT.out.mono hb4).mono hb5
        obtain ⟨⟨u5, hu5⟩, hf5, hl5⟩ := hT5.free hlt
        have hsx : ∀ g, g ≤ w2.heap.size → SlX g .u8 w5 (.slice a5 xs.length c5) (LB k) := fun g hg => by rw [HXS.out]; exact hown5.slx (by omega)
        rw [HXN.out] at hsx
        have HT6 := Lib.hid (hT5.put hlt hsx)
        rw [HXN.out]
        have hb6 := ((HBE.out.trans (hb4.mono hszr)).trans (hb5.mono (Nat.le_trans hszr hsz4))).setCell (p := ⟨w2.heap.size, k, none⟩) (Nat.le_refl _) (.slice a5 xn c5)
        clear hT5 hsx hown5 hbr hbc hb4 hb5
        go_wp2_with fail
        go_roundw
        case rel => exact ⟨k + 1, by omega, by go_num, hb6, HT6.out⟩
        case measure => simp [intOf]; omega
      · obtain rfl : k = q := by omega
        have hsw := hbw.size
        obtain ⟨vs, hvl, hvo, hvw⟩ := hT.done (base := w.heap.size) hsw (by unfold maxLen; omega)
        have HVO := Lib.hid hvo
        have HVW := Lib.hid hvw
        have HVL := Lib.hid hvl
        have hbz := below_step hbw hbel
        clear hvo hvw hvl hT
        go_wp2
        go_ret2
        exact ⟨_, vs, by rw [HR.out]; rfl, by rw [HVL.out]; exact HVO.out, by rw [HR.out]; exact HVW.out, hbz⟩

theorem all_any (w : World) (ao : Option Addr) (n cap : Nat) (s : List Blk) (root l : Int) (hn : s.length = n) (hn63 : n ≤ 1152921504606846976) (hs : StoRow w ao s) (hwf : WfS s) :
    Calls Try.prog 56 #[.agg #[.slice ao n cap], .int .i64 root, .int .i64 l] w fun e w' => ∃ v vs, e = .returned (.tuple #[v, .int .i64 (allR s root l).2]) ∧ w'.ownsRow w.heap.size 32 1 v vs.length vs ∧ LW w' vs (allR s root l).1 ∧ Below w.heap.size w w' := by
  have hz := all_new w ao n cap s root l hn hn63 hs hwf
  refine hz.mono ?_
  rintro e w' ⟨v, vs, h1, h2, h3, h4⟩
  refine ⟨v, vs, h1, h2, ⟨h3.len, fun i hi hi' => ?_⟩, h4⟩
  exact (h3.each i hi hi' w.heap.size (Nat.le_refl _)).sl
end Go.Proofs.Ytodogcokljmkmaa
