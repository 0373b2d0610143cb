/- Rows of byte slices; rookeryref.LeavesOf. -/
import Derived.Test.YtpfopbkaddjjcaaDiffer
import Derived.Test.YtpfopbkaddjjcaaTreeRef
import Derived.Deep.AppendLies
import Derived.Deep.Onto
namespace Go.Proofs.Ytpfopbkaddjjcaa
open Go.RowKit
set_option linter.unusedVariables false

theorem info_ys : (Try.prog.info? 27).map (fun i => (i.zero, i.size, i.bytes)) = some (some (.slice none 0 0), 1, 24) := by kernel_rfl

/-- values that read as bytes; nothing is nil -/
structure LV (w : World) (vs : List Value) (L : List (List Int)) : Prop where
  len : vs.length = L.length
  each : ∀ i (h : i < vs.length) (h' : i < L.length), Sl .u8 w vs[i] L[i] ∧ (L[i] = [] → vs[i] = .slice none 0 0)

theorem LV.nil (w : World) : LV w [] [] := ⟨rfl, fun i h => by simp at h⟩
theorem Sl.mono' {k : IntKind} {w w' : World} {v : Value} {xs : List Int} (h : Sl k w v xs) (hb : Below w.heap.size w w') : Sl k w' v xs := by
  obtain ⟨ao, cap, h1, h2, h3⟩ := h
  exact ⟨ao, cap, h1, h2.mono hb, h3⟩
theorem LV.mono {w w' : World} {vs : List Value} {L : List (List Int)} (h : LV w vs L) (hb : Below w.heap.size w w') : LV w' vs L :=
  ⟨h.len, fun i h1 h2 => ⟨(h.each i h1 h2).1.mono' hb, (h.each i h1 h2).2⟩⟩
theorem LV.app {w : World} {vs us : List Value} {L K : List (List Int)} (h : LV w vs L) (k : LV w us K) : LV w (vs ++ us) (L ++ K) := by
  have h1 := h.len
  have h2 := k.len
  refine ⟨by simp only [List.length_append]; omega, fun i hi hi' => ?_⟩
  by_cases e : i < vs.length
  · simp only [List.getElem_append_left e, List.getElem_append_left (show i < L.length by omega)]
    exact h.each i e (by omega)
  · simp only [List.getElem_append_right (show vs.length ≤ i by omega), List.getElem_append_right (show L.length ≤ i by omega)]
    simp only [List.length_append] at hi hi'
    have e2 : i - vs.length = i - L.length := by omega
    have := k.each (i - vs.length) (by omega) (by omega)
    simp only [e2] at this ⊢
    exact this
theorem LV.one {w : World} {vs : List Value} {L : List (List Int)} (h : LV w vs L) : ∀ u ∈ vs, u.oneCell' = true := by
  intro u hu
  obtain ⟨i, hi, rfl⟩ := List.getElem_of_mem hu
  obtain ⟨ao, cap, e, _⟩ := (h.each i hi (by have := h.len; omega)).1
  rw [e]; rfl
theorem LV.nils (w : World) (n : Nat) : LV w (List.replicate n (.slice none 0 0)) (List.replicate n []) :=
  ⟨by simp, fun i h h' => by simp only [List.getElem_replicate]; exact ⟨⟨none, 0, rfl, .inl rfl, Nat.le_refl _, fun _ => rfl⟩, fun _ => trivial⟩⟩

theorem leavesF_len (m : Nat) (s : List Blk) (a : Int) : (leavesF m s a).length = p4n m := by simp [leavesF]
theorem leavesF_none (m : Nat) (s : List Blk) : leavesF m s 0 = List.replicate (p4n m) [] := by
  unfold leavesF
  rw [List.eq_replicate_iff]
  refine ⟨by simp, fun x hx => ?_⟩
  obtain ⟨i, _, rfl⟩ := List.mem_map.1 hx
  exact leafB_zero m s i
theorem leavesF_succ (m : Nat) (hm : m < 3) (s : List Blk) (a : Int) : leavesF (m + 1) s a = (List.range 4).flatMap fun k => leavesF m s (kidF s a k) := by
  have hpp := p4n_pos m
  unfold leavesF
  rw [p4n_succ m hm, range_four, List.map_flatMap]
  congr 1
  funext k
  rw [List.map_map]
  apply List.map_congr_left
  intro i hi
  have hi := List.mem_range.1 hi
  simp only [Function.comp]
  have e1 : (k * p4n m + i) / p4n m = k := by
    rw [Nat.mul_comm, Nat.mul_add_div hpp, Nat.div_eq_of_lt hi]; omega
  have e2 : (k * p4n m + i) % p4n m = i := by
    rw [Nat.mul_comm, Nat.mul_add_mod, Nat.mod_eq_of_lt hi]
  rw [leafB_succ, e1, e2]
theorem leavesF_get (m : Nat) (s : List Blk) (a : Int) (i : Nat) (h : i < (leavesF m s a).length) : (leavesF m s a)[i] = leafB m s a i := by simp [leavesF]

/-- the leaves below the first of four -/
def leavesTo (m : Nat) (s : List Blk) (a : Int) (k : Nat) : List (List Int) := (List.range k).flatMap fun q => leavesF m s (kidF s a q)
theorem leavesTo_succ (m : Nat) (s : List Blk) (a : Int) (k : Nat) : leavesTo m s a (k + 1) = leavesTo m s a k ++ leavesF m s (kidF s a k) := by
  unfold leavesTo
  rw [List.range_succ, List.flatMap_append]
  simp
theorem leavesTo_len (m : Nat) (s : List Blk) (a : Int) : ∀ k, (leavesTo m s a k).length = k * p4n m := by
  intro k
  induction k with
  | zero => simp [leavesTo]
  | succ k ih => rw [leavesTo_succ, List.length_append, ih, leavesF_len, Nat.succ_mul]

theorem owned_one (w : World) (base : Nat) (v : Value) (hb : base ≤ w.heap.size) : (w.alloc (.cells #[v] 27)).ownsRow base 27 1 (.slice (some ⟨w.heap.size, 0, none⟩) 1 1) 1 [v] :=
  World.ownsRow_lit (base := base) (e := 27) (size := 1) w #[v] 1 hb (by unfold maxLen; omega) rfl
theorem owned_nils (w : World) (base n : Nat) (hb : base ≤ w.heap.size) (hn : n ≤ maxLen) : (w.alloc (.cells (madeCells #[.slice none 0 0] n) 27)).ownsRow base 27 1 (.slice (some ⟨w.heap.size, 0, none⟩) n n) n (List.replicate n (.slice none 0 0)) := by
  have h := World.ownsRow_lit (base := base) (e := 27) (size := 1) w (madeCells #[.slice none 0 0] n) n hb hn (by rw [← Array.length_toList, toList_madeCells_one]; simp)
  rw [toList_madeCells_one] at h
  exact h

theorem ownsRow_mono {w w' : World} {base e size n : Nat} {v : Value} {xs : List Value} (h : w.ownsRow base e size v n xs) (hb : Below w.heap.size w w') : w'.ownsRow base e size v n xs := by
  obtain ⟨h1, h2⟩ := h
  refine ⟨h1, ?_⟩
  rcases h2 with h2 | ⟨g, cap, cur, hv, hg, hh, r⟩
  · exact .inl h2
  · exact .inr ⟨g, cap, cur, hv, hg, by rw [hb.block g (lt_heap hh)]; exact hh, r⟩

def LeavesAt (m : Nat) : Prop := ∀ (w0 w : World) (ao : Option Addr) (n cap : Nat) (s : List Blk) (root : Int), Below w0.heap.size w0 w → s.length = n → n ≤ 400 → StoRow w0 ao s → formsE s s = 0 → RootAt s m root →
    Calls Try.prog 58 #[.agg #[.slice ao n cap], .int .i64 root, .int .i64 (m : Int)] w fun e w' => ∃ v vs, e = .returned v ∧ w'.ownsRow w.heap.size 27 1 v vs.length vs ∧ LV w0 vs (leavesF m s root) ∧ Below w.heap.size w w'

set_option maxRecDepth 100000 in
set_option maxHeartbeats 4000000 in
theorem leaves_none (w0 w : World) (ao : Option Addr) (n cap : Nat) (s : List Blk) (m : Nat) (hm : m ≤ 3) :
    Calls Try.prog 58 #[.agg #[.slice ao n cap], .int .i64 0, .int .i64 (m : Int)] w fun e w' => ∃ v vs, e = .returned v ∧ w'.ownsRow w.heap.size 27 1 v vs.length vs ∧ LV w0 vs (leavesF m s 0) ∧ Below w.heap.size w w' := by
  have hb0 : Below w.heap.size w (w.alloc (.cells #[.slice ao n cap] 40)) := (Below.refl _ _).alloc (Nat.le_refl _) _
  have hp64 : p4n m ≤ 64 := by unfold p4n; (repeat' split) <;> omega
  have HP : Hid (∀ u : World, Calls Try.prog 84 #[.int .i64 (m : Int)] u fun e w' => e = .returned (.int .i64 ((p4n m : Nat) : Int)) ∧ w' = u) := Lib.hid fun u => by
    refine (power_any u m (by omega) (by omega)).mono ?_
    rintro e w' ⟨rfl, rfl⟩
    exact ⟨by rw [Int.toNat_natCast, p4n_int], rfl⟩
  have HL := Lib.hid (leavesF_none m s)
  generalize p4n m = q at *
  go_enter Try.func58, Try.ntmps58
  go_wp2_with fail
  generalize w.alloc (Obj.cells #[Value.slice ao n cap] 40) = W0 at *
  refine (HP.out W0).mono ?_
  rintro e w1 ⟨rfl, rfl⟩
  have hmk : (Instr.makeSlice 77 (.int .i64 (q : Int)) (.int .i64 (q : Int))).run Try.prog w1 = .ok (.slice (some ⟨w1.heap.size, 0, none⟩) q q) (w1.alloc (.cells (madeCells #[.slice none 0 0] q) 27)) :=
    run_make_row' 77 27 (.slice none 0 0) 24 Try.underlying77 info_ys rfl .i64 .i64 q (by omega) (by omega) w1
  have hO := owned_nils w1 w.heap.size q hb0.size (by unfold maxLen; omega)
  have hbw := hb0.alloc hb0.size (.cells (madeCells #[.slice none 0 0] q) 27)
  have HO := Lib.hid hO
  clear hO hb0
  generalize w1.alloc (.cells (madeCells #[.slice none 0 0] q) 27) = W2 at *
  go_wp2
  go_ret
  exact ⟨_, _, rfl, by rw [List.length_replicate]; exact HO.out, by rw [HL.out]; exact LV.nils _ _, hbw⟩

set_option maxRecDepth 100000 in
set_option maxHeartbeats 4000000 in
theorem leaves_leaf (w0 w : World) (ao : Option Addr) (n cap : Nat) (s : List Blk) (root : Int) (hbw : Below w0.heap.size w0 w) (hn : s.length = n) (h400 : n ≤ 400) (hs : StoRow w0 ao s) (hf : formsE s s = 0) (ht : thereB s root = true) (hl : (blk s root).level = 0) :
    Calls Try.prog 58 #[.agg #[.slice ao n cap], .int .i64 root, .int .i64 0] w fun e w' => ∃ v vs, e = .returned v ∧ w'.ownsRow w.heap.size 27 1 v vs.length vs ∧ LV w0 vs (leavesF 0 s root) ∧ Below w.heap.size w w' := by
  have HN := Lib.hid hn
  have h4 := four_bytes hf ht hl
  obtain ⟨j, hj, rfl, -⟩ := there_in ht
  rw [blk_at s j hj] at h4
  have hb1 : ((j : Int) + 1 == 0) = false := by rw [beq_eq_false_iff_ne]; omega
  have hjn : (j : Int) < n := by omega
  have HL := Lib.hid (show leavesF 0 s ((j : Int) + 1) = [s[j].bytes] by
    show [leafB 0 s ((j : Int) + 1) 0] = _
    unfold leafB leafA
    rw [if_neg (by omega), blk_at s j hj])
  obtain ⟨b, o, rfl, hB0⟩ := hs.at j hj
  obtain ⟨v3, x3, hv3⟩ := (hB0 j hj).bytes
  have HV := Lib.hid hv3
  have hB := (hs.mono hbw).at j hj
  obtain ⟨b', o', e, hB⟩ := hB
  simp only [Option.some.injEq, Addr.mk.injEq, and_true] at e
  obtain ⟨rfl, rfl⟩ := e
  have hb0 : Below w.heap.size w (w.alloc (.cells #[.slice (some ⟨b, o, none⟩) n cap] 40)) := (Below.refl _ _).alloc (Nat.le_refl _) _
  have p0 : (w.alloc (.cells #[.slice (some ⟨b, o, none⟩) n cap] 40)).heap[w.heap.size]? = some (.cells #[.slice (some ⟨b, o, none⟩) n cap] 40 (0, 0)) := heap_alloc_new _ _
  have hBj := hB j hj
  have lB := hBj.lt
  have tr := fun (q : Nat) => (bcell hb0).1 b q lB
  have c0 := (tr _).trans hBj.refs
  have c1 := (tr _).trans hBj.level
  obtain ⟨kv, c2, ka, kc, rfl, -, -⟩ := hBj.kids
  have c2 := (tr _).trans c2
  have c3 := (tr _).trans (((bcell hbw).1 b _ (World.block_lt_of_cell? _ _ x3)).trans x3)
  obtain ⟨ba, bc, rfl, -, -⟩ := hv3
  have lB0 := Nat.lt_of_lt_of_le lB hb0.size
  have cp := cell_of_one p0
  have lp := lt_heap p0
  clear hB hBj hB0 tr x3 hn ht hl
  generalize s[j].refs = y0 at *
  generalize s[j].level = y1 at *
  generalize s[j].kids.length = y2 at *
  rw [h4] at c3
  go_enter Try.func58, Try.ntmps58
  have HH := Lib.hid h4
  have hA2 : Below w.heap.size w (((w.alloc (.cells #[.slice (some ⟨b, o, none⟩) n cap] 40)).alloc (.cells #[.int .i64 y0, .int .i64 y1, .slice ka y2 kc, .slice ba 4 bc] 50)).alloc (.cells #[.slice ba 4 bc] 27)) :=
    (hb0.alloc hb0.size _).alloc (by simp; omega) _
  have hO := owned_one ((w.alloc (.cells #[.slice (some ⟨b, o, none⟩) n cap] 40)).alloc (.cells #[.int .i64 y0, .int .i64 y1, .slice ka y2 kc, .slice ba 4 bc] 50)) w.heap.size (.slice ba 4 bc) (by simp; omega)
  rw [show ((w.alloc (.cells #[.slice (some ⟨b, o, none⟩) n cap] 40)).alloc (.cells #[.int .i64 y0, .int .i64 y1, .slice ka y2 kc, .slice ba 4 bc] 50)).heap.size = w.heap.size + 1 + 1 from by simp] at hO
  have HO := Lib.hid hO
  clear hO h4
  go_wp2_with fail
  go_ret
  refine ⟨_, [.slice ba 4 bc], rfl, HO.out, ?_, hA2⟩
  rw [HL.out]
  refine ⟨rfl, fun i h h' => ?_⟩
  obtain rfl : i = 0 := by simp at h; omega
  have hv := HV.out
  rw [HH.out] at hv
  exact ⟨hv, fun e => by simp only [List.getElem_cons_zero] at e; have := HH.out; rw [e] at this; simp at this⟩

set_option maxRecDepth 100000 in
set_option maxHeartbeats 4000000 in
theorem leaves_succ (m : Nat) (hm : m ≤ 2) (ih : LeavesAt m) : LeavesAt (m + 1) := by
  intro w0 w ao n cap s root hbw hn h400 hs hf hr
  by_cases h0 : root = 0
  · subst h0
    exact leaves_none w0 w ao n cap s (m + 1) (by omega)
  have HN := Lib.hid hn
  obtain ⟨ht, hl⟩ := hr.resolve_left h0
  have h4 := four_kids hf ht (by omega)
  have hKR := fun k (hk : k < 4) => kidF_root hf hr k hk
  have HKR := Lib.hid hKR
  have HL := Lib.hid (leavesF_succ m (by omega) s root)
  have HS := Lib.hid (leavesTo_succ m s root)
  have HLN := Lib.hid (leavesTo_len m s root)
  have HFL := Lib.hid (fun q => leavesF_len m s q)
  have HTO : Hid (leavesF (m + 1) s root = leavesTo m s root 4) := Lib.hid HL.out
  have HZ : Hid (leavesTo m s root 0 = []) := Lib.hid rfl
  have HKD := Lib.hid (fun k => kidF_ne s root k h0)
  have hpp := p4n_pos m
  have hp64 : p4n m ≤ 16 := by unfold p4n; (repeat' split) <;> omega
  obtain ⟨j, hj, rfl, -⟩ := there_in ht
  rw [blk_at s j hj] at h4
  have hb1 : ((j : Int) + 1 == 0) = false := by rw [beq_eq_false_iff_ne]; omega
  have hjn : (j : Int) < n := by omega
  have hz0 : ((m : Int) + 1 == 0) = false := by rw [beq_eq_false_iff_ne]; omega
  have HIH := Lib.hid (fun (u : World) (k : Nat) (hk : k < 4) (h : Below w0.heap.size w0 u) => ih w0 u ao n cap s (kidF s ((j : Int) + 1) k) h HN.out h400 hs hf (HKR.out k hk))
  have HKC : Hid (∀ k (hk : k < s[j].kids.length), s[j].kids[k] = kidF s ((j : Int) + 1) k) := Lib.hid fun k hk => by
    rw [HKD.out k, blk_at s j hj, List.getElem?_eq_getElem hk]; rfl
  obtain ⟨b, o, rfl, hB⟩ := (hs.mono hbw).at j hj
  have hb0 : Below w.heap.size w (w.alloc (.cells #[.slice (some ⟨b, o, none⟩) n cap] 40)) := (Below.refl _ _).alloc (Nat.le_refl _) _
  have p0 : (w.alloc (.cells #[.slice (some ⟨b, o, none⟩) n cap] 40)).heap[w.heap.size]? = some (.cells #[.slice (some ⟨b, o, none⟩) n cap] 40 (0, 0)) := heap_alloc_new _ _
  have hBj := hB j hj
  have lB := hBj.lt
  have tr := fun (q : Nat) => (bcell hb0).1 b q lB
  have c0 := (tr _).trans hBj.refs
  have c1 := (tr _).trans hBj.level
  obtain ⟨kv, c2, ka, kc, rfl, hkr, -⟩ := hBj.kids
  have c2 := (tr _).trans c2
  obtain ⟨bv, c3, ba, bc, rfl, -, -⟩ := hBj.bytes
  have c3 := (tr _).trans c3
  have lB0 := Nat.lt_of_lt_of_le lB hb0.size
  have cp := cell_of_one p0
  have lp := lt_heap p0
  have hA1 := hb0.alloc hb0.size (.cells #[.int .i64 s[j].refs, .int .i64 s[j].level, .slice ka 4 kc, .slice ba s[j].bytes.length bc] 50)
  have p1 : ((w.alloc (.cells #[.slice (some ⟨b, o, none⟩) n cap] 40)).alloc (.cells #[.int .i64 s[j].refs, .int .i64 s[j].level, .slice ka 4 kc, .slice ba s[j].bytes.length bc] 50)).heap[w.heap.size]? = some (.cells #[.slice (some ⟨b, o, none⟩) n cap] 40 (0, 0)) := heap_alloc2_old _ _ _
  have p2 : ((w.alloc (.cells #[.slice (some ⟨b, o, none⟩) n cap] 40)).alloc (.cells #[.int .i64 s[j].refs, .int .i64 s[j].level, .slice ka 4 kc, .slice ba s[j].bytes.length bc] 50)).heap[w.heap.size + 1]? = some (.cells #[.int .i64 s[j].refs, .int .i64 s[j].level, .slice ka 4 kc, .slice ba s[j].bytes.length bc] 50 (0, 0)) := heap_alloc2_new _ _ _
  have hkr2 := hkr.mono hA1
  rw [h4] at c2
  have HK4 := Lib.hid h4
  clear hB hBj tr hn ht hl h0 hr hKR h4 hkr p0
  generalize s[j].refs = y0 at *
  generalize s[j].level = y1 at *
  generalize s[j].bytes.length = y2 at *
  generalize s[j].kids = K at *
  generalize leavesF (m + 1) s ((j : Int) + 1) = LL at *
  generalize leavesTo m s ((j : Int) + 1) = TO at *
  rw [show ((m + 1 : Nat) : Int) = (m : Int) + 1 from rfl]
  go_enter Try.func58, Try.ntmps58
  go_wp2_with fail
  have hsA := hA1.size
  have hbA0 := hbw.trans (hA1.mono hbw.size)
  have hzA : w.heap.size + 1 < ((w.alloc (.cells #[.slice (some ⟨b, o, none⟩) n cap] 40)).alloc (.cells #[.int .i64 y0, .int .i64 y1, .slice ka 4 kc, .slice ba y2 bc] 50)).heap.size := lt_heap p2
  generalize (w.alloc (Obj.cells #[Value.slice (some ⟨b, o, none⟩) n cap] 40)).alloc (Obj.cells #[Value.int .i64 y0, Value.int .i64 y1, Value.slice ka 4 kc, Value.slice ba y2 bc] 50) = W1 at *
  clear c0 c1 c2 c3 cp lp lB0 p2 hb0
  go_loopw [8, 30] (fun v x wr => ∃ k : Nat, k ≤ 4 ∧ x = .int .i64 k ∧ Below W1.heap.size W1 wr ∧ ∃ vs, wr.ownsRow W1.heap.size 27 1 v vs.length vs ∧ LV w0 vs (TO k)) (fun _ x _ => 4 - (intOf x).toNat)
  case atStart => exact ⟨0, by omega, rfl, Below.refl _ _, [], World.ownsRow_nil _ _ _ _, by rw [HZ.out]; exact LV.nil _⟩
  case round =>
    obtain ⟨k, hk, rfl, hbel, vs, hown, hLV⟩ := hrel
    by_cases hlt : k < 4
    · have hkl : k < K.length := by have := HK4.out; omega
      obtain ⟨kb, ko, rfl, hkc⟩ := (hkr2.mono hbel).at k hkl
      have hck := hkc k hkl
      rw [HKC.out k hkl] at hck
      have lk := World.block_lt_of_cell? _ _ hck
      have q1 := (hbel.block _ (lt_heap p1)).trans p1
      have d1 := cell_of_one q1
      have e1 := lt_heap q1
      have hI := HIH.out wr k hlt (hbA0.trans (hbel.mono hbA0.size))
      have hs1 := HS.out k
      have hfl := HFL.out (kidF s ((j : Int) + 1) k)
      have hln := HLN.out k
      have HSS := Lib.hid hs1
      have hvl := hLV.len
      have HLV := Lib.hid hLV
      have HOWN := Lib.hid hown
      have hszr := hbel.size
      clear hkc hs1 hLV hown
      generalize kidF s ((j : Int) + 1) k = y at *
      generalize leavesF m s y = LF at *
      have hk4 : (k : Int) < 4 := by omega
      go_wp2_with fail
      refine hI.mono ?_
      rintro e w3 ⟨u, us, rfl, hu, hLu, hb3⟩
      have hul := hLu.len
      obtain ⟨gu, cu, rfl, hgu, hgl⟩ := hu.form (by omega)
      have hcu := hu.cells (g := gu) rfl
      have hone := hLu.one
      have hown3 := ownsRow_mono HOWN.out hb3
      obtain ⟨i0, hi, hz0', hz1, hz2⟩ := info_parts info_ys
      have hsz3 := hb3.size
      have hkq : k * p4n m ≤ 3 * p4n m := Nat.mul_le_mul_right _ (by omega)
      have HB3 := Lib.hid hb3
      have HLU := Lib.hid hLu
      have hmx : vs.length + us.length ≤ 200 := by omega
      clear hb3 hLu hu hln hfl hvl hul hkq d1 e1
      go_wp2_with (first
        | (at_builtin; refine wpList_append_own _ rfl (.tmp 34) (.tmp 39) 77 rfl W1.heap.size 27 i0 (.slice none 0 0) 1 24 Try.underlying77 hi hz0' hz1 hz2 rfl (by decide) _ vs.length vs rfl hown3 ⟨gu, 0, none⟩ us.length cu us rfl (by simp) hcu hone ?_ ?_ (by omega) ?_; rotate_right; intro v' w4 hown4 hg4 hv4; clear hv4 hcu hone hi hz0' hz1 hz2))
      · have hb4 : Below W1.heap.size W1 w4 := ((hbel.trans (HB3.out.mono hszr)).grown hg4 (by omega) fun q hq => (World.ownsRow.lt hown3 q hq).1)
        go_roundw
        case rel => exact ⟨k + 1, by omega, by go_num, hb4, vs ++ us, by rw [List.length_append]; exact hown4, by rw [HSS.out]; exact HLV.out.app HLU.out⟩
        case measure => simp [intOf]; omega
      · unfold maxLen; omega
      · omega
    · obtain rfl : k = 4 := by omega
      have HO := Lib.hid (World.ownsRow.mono hown (base' := w.heap.size) (by omega))
      have HLV := Lib.hid hLV
      clear hown hLV
      go_wp2
      go_ret
      exact ⟨_, vs, rfl, HO.out, by rw [HTO.out]; exact HLV.out, hA1.trans (hbel.mono hsA)⟩

theorem leavesOf_any : ∀ m : Nat, m ≤ 3 → LeavesAt m := by
  intro m
  induction m with
  | zero =>
    intro _ w0 w ao n cap s root hbw hn h400 hs hf hr
    rcases hr with rfl | ⟨ht, hl⟩
    · exact leaves_none w0 w ao n cap s 0 (by omega)
    · exact leaves_leaf w0 w ao n cap s root hbw hn h400 hs hf ht hl
  | succ m ih => intro h; exact leaves_succ m (by omega) (ih (by omega))
end Go.Proofs.Ytpfopbkaddjjcaa
