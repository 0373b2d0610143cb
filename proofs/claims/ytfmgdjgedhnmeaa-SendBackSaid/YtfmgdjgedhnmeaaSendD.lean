/- send.Diff: how one set comes to be another. -/
import Derived.Deep.RegionWith
import Derived.Deep.DeepCutAuto
import Derived.Test.YtfmgdjgedhnmeaaSendPlace
import Derived.Test.YtfmgdjgedhnmeaaSendB
namespace Go.Proofs.Ytfmgdjgedhnmeaa
open Go.RowKit
set_option linter.unusedVariables false
set_option linter.unusedSimpArgs false

/-- what isn't a row of changes stays -/
theorem grown_type {w w' : World} {r : Option Nat} (h : w.grownBy w' r) (hr : ∀ g, r = some g → ∃ cs, w.heap[g]? = some (.cells cs chvK.elem (0, 0))) {b : Nat} {cs : Array Value} {t : Nat} (hb : w.heap[b]? = some (.cells cs t (0, 0))) (ht : t ≠ chvK.elem) : w'.heap[b]? = some (.cells cs t (0, 0)) :=
  (h.block b (lt_heap hb) fun e => by
    obtain ⟨cs2, h2⟩ := hr b (by first | exact e | exact e.symm)
    rw [hb] at h2
    simp only [Option.some.injEq, Obj.cells.injEq] at h2
    exact ht h2.2.1).trans hb
/-- one change more -/
theorem ChsIn.one {w : World} {base : Nat} {v : Value} {l : List ChgV} (h : ChsIn w base v l) (hl : l.length ≤ 900) (hb : base ≤ w.heap.size) (kd : Int) (nm : ByteArray) (k : Int) :
    ∃ a n c w', (∀ ty, (Builtin.append_ #[29, 29] ty #[v, .slice (some ⟨w.heap.size, 0, none⟩) 1 1]).run Try.prog (w.alloc (.cells #[.int .i64 kd, .string nm, .int .i64 k, .slice none 0 0] 81)) = .ok (.slice a n c) w') ∧
      ChsIn w' base (.slice a n c) (l ++ [⟨kd, nm, k, []⟩]) ∧ Below base w w' ∧ ∀ (b : Nat) cs (t : Nat), w.heap[b]? = some (.cells cs t (0, 0)) → t ≠ chvK.elem → w'.heap[b]? = some (.cells cs t (0, 0)) := by
  have hbn : Below w.heap.size w (w.alloc (.cells #[.int .i64 kd, .string nm, .int .i64 k, .slice none 0 0] 81)) := (Below.refl _ _).alloc (Nat.le_refl _) _
  obtain ⟨a7, n7, c7, w7, hrun0, hch7, hg7, hown7⟩ := ChsIn.append (w := w.alloc (.cells #[.int .i64 kd, .string nm, .int .i64 k, .slice none 0 0] 81)) (h.mono hbn) (ms := [⟨kd, nm, k, none, 0, 0⟩]) (cs := [⟨kd, nm, k, []⟩]) (by simp) rfl (fun i h h' => by
    obtain rfl : i = 0 := by simp at h; omega
    exact ⟨rfl, rfl, rfl, rfl, .inl rfl, ⟨Nat.le_refl _, fun _ => rfl⟩⟩) ⟨w.heap.size, 0, none⟩ 1 (fun j u hj => by
    rw [add_start, Nat.zero_add, cell_of_block (heap_alloc_new w _), List.getElem?_toArray]
    simpa [Kind.all, chvK] using hj) (by simp; omega) (by simp; omega)
  exact ⟨a7, n7, c7, w7, hrun0, hch7, (hbn.mono hb).trans (grown_all hg7 (fun g e => (hown7 g e).1.1) (by simp; omega)), fun b cs t hb ht => grown_type hg7 (fun g e => (hown7 g e).2) ((hbn.block _ (lt_heap hb)).trans hb) ht⟩
/-- many more, out of a list of their own -/
theorem ChsIn.many {w : World} {base b2 : Nat} {v u : Value} {l cs : List ChgV} (h : ChsIn w base v l) (hu : ChsIn w b2 u cs) (hl : l.length + cs.length ≤ 900) (hb : base ≤ w.heap.size) :
    ∃ a n c w', (∀ ty, (Builtin.append_ #[29, 29] ty #[v, u]).run Try.prog w = .ok (.slice a n c) w') ∧ ChsIn w' base (.slice a n c) (l ++ cs) ∧ Below base w w' ∧ ∀ (b : Nat) cs (t : Nat), w.heap[b]? = some (.cells cs t (0, 0)) → t ≠ chvK.elem → w'.heap[b]? = some (.cells cs t (0, 0)) := by
  obtain ⟨ms, h1, h2, h3⟩ := hu
  obtain ⟨i0, z, hi0, hz0, hsz, hby, hzc⟩ := zero_chvs
  obtain ⟨ua, uc, rfl, hrow, hle, hun⟩ := h1.row
  rcases Nat.eq_zero_or_pos ms.length with h0 | h0
  · have e1 : ms = [] := List.eq_nil_of_length_eq_zero h0
    have e2 : cs = [] := List.eq_nil_of_length_eq_zero (by omega)
    subst e1 e2
    obtain ⟨a, c, rfl, hc, -⟩ := h.shape
    refine ⟨a, _, c, w, fun ty => run_append_nothing w 29 29 ty chvK.elem i0 Try.underlying29 hi0 a _ c hc _ ?_, by simpa using h, Below.refl _ _, fun _ _ _ h _ => h⟩
    rw [h0]
    cases ua with
    | none => exact Src.ofNil w Try.underlying29 _
    | some ad => exact Src.ofSlice w Try.underlying29 ad 0 _ [] (by simp) (by simp) (by simp)
  · obtain ⟨b, o, rfl, -, hc⟩ := Kind.Row.at hrow h0
    obtain ⟨a7, n7, c7, w7, hrun0, hch7, hg7, hown7⟩ := h.append h0 h2 h3 ⟨b, o, none⟩ uc (fun j x hj => by
      have := hc j x hj
      unfold Addr.add
      split <;> simp_all) (by omega) hb
    exact ⟨a7, n7, c7, w7, hrun0, hch7, grown_all hg7 (fun g e => (hown7 g e).1.1) hb, fun b cs t hb ht => grown_type hg7 (fun g e => (hown7 g e).2) hb ht⟩

/-- what goes, of the first k files -/
def goneTo (a b : SetV) (k : Nat) : List ChgV := ((a.files.take k).filter fun x => !placeB (b.files.map Ent.nm) x.nm).map fun x => ⟨1, x.nm, 0, []⟩
theorem goneTo_len (a b : SetV) (k : Nat) : (goneTo a b k).length ≤ k := by
  unfold goneTo
  rw [List.length_map]
  exact Nat.le_trans (List.length_filter_le _ _) (by rw [List.length_take]; omega)
theorem goneTo_succ (a b : SetV) (k : Nat) (h : k < a.files.length) : goneTo a b (k + 1) = goneTo a b k ++ (if placeB (b.files.map Ent.nm) a.files[k].nm = false then [⟨1, a.files[k].nm, 0, []⟩] else []) := by
  unfold goneTo
  rw [List.take_succ_eq_append_getElem h, List.filter_append, List.map_append]
  congr 1
  cases hp : placeB (b.files.map Ent.nm) a.files[k].nm with
  | true => simp [hp]
  | false => simp [hp]
theorem goneTo_all (a b : SetV) : goneTo a b a.files.length = goneC a b := by unfold goneTo goneC; rw [List.take_length]
def eachTo (s : List Blk) (key : Int) (a b : SetV) (k : Nat) : List ChgV := goneC a b ++ (b.files.take k).flatMap (eachC s key a)
theorem eachTo_succ (s : List Blk) (key : Int) (a b : SetV) (k : Nat) (h : k < b.files.length) : eachTo s key a b (k + 1) = (eachTo s key a b k ++ (if placeB (a.files.map Ent.nm) b.files[k].nm = false ∨ (oldE a b.files[k].nm).2 ≠ b.files[k].size then [⟨2, b.files[k].nm, b.files[k].size, []⟩] else [])) ++ bytesC s key b.files[k].nm (oldE a b.files[k].nm).1 b.files[k].root b.files[k].size := by
  unfold eachTo
  rw [List.take_succ_eq_append_getElem h, List.flatMap_append, List.flatMap_cons, List.flatMap_nil, List.append_nil, List.append_assoc, List.append_assoc]
  rfl
theorem index_sets (nx ny : ByteArray) (a1 a2 b1 b2 : Option Addr) (l1 l2 c1 c2 m1 m2 d1 d2 : Nat) (u : World) :
    (Instr.index 77 (.agg #[.string nx, .slice a1 l1 c1, .slice a2 l2 c2, .string ny, .slice b1 m1 d1, .slice b2 m2 d2]) (.int .i64 0)).run Try.prog u = .ok (.agg #[.string nx, .slice a1 l1 c1, .slice a2 l2 c2]) u ∧
    (Instr.index 77 (.agg #[.string nx, .slice a1 l1 c1, .slice a2 l2 c2, .string ny, .slice b1 m1 d1, .slice b2 m2 d2]) (.int .i64 1)).run Try.prog u = .ok (.agg #[.string ny, .slice b1 m1 d1, .slice b2 m2 d2]) u := by
  have h : Try.prog.underlying 77 = some (.array 2 28) := Try.underlying77
  constructor
  · simp [Instr.index, asIntOf, run_underlying h, go_sem]
  · simp [Instr.index, asIntOf, run_underlying h, go_sem]
/-- a file that was there, or none -/
theorem old_right {s : List Blk} {key : Int} {a : SetV} (h : RightX s key a) (nm : ByteArray) : checkT s (oldE a nm).1 3 0 = 0 ∧ I64 (oldE a nm).2 := by
  unfold oldE
  split
  · rename_i hp
    obtain ⟨-, h1, -⟩ := placeB_lt hp
    rw [List.length_map] at h1
    have e : entAt a.files (placeN (a.files.map Ent.nm) nm) = a.files[placeN (a.files.map Ent.nm) nm] := by unfold entAt; rw [List.getElem?_eq_getElem h1]; rfl
    rw [e]
    obtain ⟨-, h2, h3, h4, -⟩ := fileE_ok (h.files.each _ (List.getElem_mem h1)).2
    exact ⟨h4, by unfold I64; simp only; omega⟩
  · exact ⟨checkT_mk (m := 3) h.chk (by omega) (.inl rfl) (show 0 < p4n 3 by decide), by unfold I64; simp only; omega⟩

/-- a box of two integers is written -/
theorem put_ints {X : World} {b t : Nat} {x y : Int} (p : X.heap[b]? = some (.cells #[.int .i64 x, .int .i64 y] t (0, 0))) (u0 u1 : Value) :
    ((X.setCell ⟨b, 0, none⟩ u0).setCell ⟨b, 1, none⟩ u1).heap[b]? = some (.cells #[u0, u1] t (0, 0)) ∧ ∀ B w0, Below B w0 X → B ≤ b → Below B w0 ((X.setCell ⟨b, 0, none⟩ u0).setCell ⟨b, 1, none⟩ u1) := by
  have r0 := heap_setCell_same' p 0 u0
  have r1 := heap_setCell_same' r0 1 u1
  simp only [List.setIfInBounds_toArray, List.set_cons_zero, List.set_cons_succ] at r1
  exact ⟨r1, fun B w0 h hb => (h.setCell (p := ⟨b, 0, none⟩) hb _).setCell (p := ⟨b, 1, none⟩) hb _⟩
/-- changes stay where a file's box is written -/
theorem ChsIn.other {w w' : World} {base : Nat} {v : Value} {l : List ChgV} (h : ChsIn w base v l) {q t : Nat} {a b : Int} (hq : w.heap[q]? = some (.cells #[.int .i64 a, .int .i64 b] t (0, 0))) (ht : t ≠ chvK.elem) (hk : ∀ b, b < w.heap.size → b ≠ q → w'.heap[b]? = w.heap[b]?) : ChsIn w' base v l := by
  obtain ⟨vs, h1, h2, h3⟩ := h
  have hno : ∀ o x, w.cell? ⟨q, o, none⟩ ≠ some (.int .u8 x) := fun o x e => by
    rw [cell_of_block hq, List.getElem?_toArray] at e
    match o with
    | 0 => cases e
    | 1 => cases e
    | _ + 2 => cases e
  refine ⟨vs, ?_, h2, fun i p1 p2 => ?_⟩
  · rcases h1 with ⟨e1, e2⟩ | ⟨g, cap, sp, e1, hg, hc, hh⟩
    · exact .inl ⟨e1, e2⟩
    · refine .inr ⟨g, cap, sp, e1, hg, hc, (hk g (lt_heap hh) fun e => ?_).trans hh⟩
      rw [e, hq] at hh
      simp only [Option.some.injEq, Obj.cells.injEq] at hh
      exact ht hh.2.1
  · obtain ⟨k1, k2, k3, k4, k5, k6⟩ := h3 i p1 p2
    refine ⟨k1, k2, k3, k4, ?_, k6⟩
    rcases k5 with h0 | ⟨b, o, e, h1⟩
    · exact .inl h0
    · refine .inr ⟨b, o, e, fun j hj => ?_⟩
      have hv := h1 j hj
      have hlt := World.block_lt_of_cell? _ _ hv
      exact (World.cell?_of_block (w := w) (hk b hlt fun e2 => hno _ _ (e2 ▸ hv))).trans hv
theorem runsL_len : ∀ (f : Nat) (l : List Int), (runsL f l).length ≤ f
  | 0, _ => Nat.le_refl _
  | _ + 1, [] => Nat.zero_le _
  | f + 1, x :: l => by
    unfold runsL
    have := runsL_len f (l.drop (runC (x + 1) l))
    simp only [List.length_cons]
    omega
theorem bytesC_len (s : List Blk) (key : Int) (nm : ByteArray) (r1 r2 z : Int) : (bytesC s key nm r1 r2 z).length ≤ 64 := by
  unfold bytesC
  rw [List.length_map]
  exact runsL_len _ _
theorem eachTo_len (s : List Blk) (key : Int) (a b : SetV) : ∀ k, (eachTo s key a b k).length ≤ a.files.length + 65 * k
  | 0 => by
    unfold eachTo goneC
    simp only [List.take_zero, List.flatMap_nil, List.append_nil, List.length_map]
    exact Nat.le_trans (List.length_filter_le _ _) (by omega)
  | k + 1 => by
    have ih := eachTo_len s key a b k
    by_cases h : k < b.files.length
    · rw [eachTo_succ _ _ _ _ _ h, List.length_append, List.length_append]
      have h1 := bytesC_len s key b.files[k].nm (oldE a b.files[k].nm).1 b.files[k].root b.files[k].size
      have h2 : (if placeB (a.files.map Ent.nm) b.files[k].nm = false ∨ (oldE a b.files[k].nm).2 ≠ b.files[k].size then [(⟨2, b.files[k].nm, b.files[k].size, []⟩ : ChgV)] else []).length ≤ 1 := by split <;> simp
      omega
    · unfold eachTo at ih ⊢
      rw [List.take_of_length_le (by omega)] at ih ⊢
      omega

set_option maxRecDepth 100000 in
set_option maxHeartbeats 8000000 in
theorem diff_any (w : World) (ao fo so go uo : Option Addr) (n cap fn fc sn sc gn gc un uc : Nat) (s : List Blk) (key : Int) (x y : SetV) (hn : s.length = n) (hn63 : n ≤ 1152921504606846976) (hs : StoRow w ao s) (hwf : WfS s) (hc : Capd ao n cap)
    (hx : SetIn w fo fn fc so sn sc x) (hwx : WfX x) (hy : SetIn w go gn gc uo un uc y) (hwy : WfX y) :
    Calls Try.prog 10 #[.agg #[.slice ao n cap], .int .i64 key, .agg #[.string x.nm, .slice fo fn fc, .slice so sn sc], .agg #[.string y.nm, .slice go gn gc, .slice uo un uc]] w fun e w' => ∃ v, e = .returned (.tuple #[v, .int .i64 (diffR s key x y).2]) ∧ ChsIn w' w.heap.size v (diffR s key x y).1 ∧ Below w.heap.size w w' := by
  have hb0 : Below w.heap.size w (((w.alloc (.cells #[.slice ao n cap] 24)).alloc (.cells #[.string x.nm, .slice fo fn fc, .slice so sn sc] 28)).alloc (.cells #[.string y.nm, .slice go gn gc, .slice uo un uc] 28)) := (((Below.refl _ _).alloc (Nat.le_refl _) _).alloc (by simp) _).alloc (by simp; omega) _
  have p4 : (((w.alloc (.cells #[.slice ao n cap] 24)).alloc (.cells #[.string x.nm, .slice fo fn fc, .slice so sn sc] 28)).alloc (.cells #[.string y.nm, .slice go gn gc, .slice uo un uc] 28)).heap[w.heap.size]? = some (.cells #[.slice ao n cap] 24 (0, 0)) := (heap_alloc_old _ _ (by simp; omega)).trans (heap_alloc2_old _ _ _)
  have p6 : (((w.alloc (.cells #[.slice ao n cap] 24)).alloc (.cells #[.string x.nm, .slice fo fn fc, .slice so sn sc] 28)).alloc (.cells #[.string y.nm, .slice go gn gc, .slice uo un uc] 28)).heap[w.heap.size + 1]? = some (.cells #[.string x.nm, .slice fo fn fc, .slice so sn sc] 28 (0, 0)) := (heap_alloc_old _ _ (by simp)).trans (heap_alloc2_new _ _ _)
  have p7 : (((w.alloc (.cells #[.slice ao n cap] 24)).alloc (.cells #[.string x.nm, .slice fo fn fc, .slice so sn sc] 28)).alloc (.cells #[.string y.nm, .slice go gn gc, .slice uo un uc] 28)).heap[w.heap.size + 1 + 1]? = some (.cells #[.string y.nm, .slice go gn gc, .slice uo un uc] 28 (0, 0)) := by
    have := heap_alloc_new ((w.alloc (.cells #[.slice ao n cap] 24)).alloc (.cells #[.string x.nm, .slice fo fn fc, .slice so sn sc] 28)) (.cells #[.string y.nm, .slice go gn gc, .slice uo un uc] 28)
    simpa using this
  have HN := Lib.hid hn
  have HC := Lib.hid hc
  have HS := Lib.hid hs
  have HW := Lib.hid hwf
  have HX := Lib.hid hx
  have HY := Lib.hid hy
  have HWX := Lib.hid hwx
  have HWY := Lib.hid hwy
  obtain ⟨RD, hRD⟩ : ∃ RD, diffR s key x y = RD := ⟨_, rfl⟩
  rw [hRD]
  have HRD := Lib.hid hRD
  clear hn hc hs hwf hx hy hwx hwy hRD
  have c6 := fun j => cell_of_block p6 j
  have c7 := fun j => cell_of_block p7 j
  have k60 := c6 0
  have k61 := c6 1
  have k62 := c6 2
  have k70 := c7 0
  have k71 := c7 1
  have k72 := c7 2
  simp only [List.getElem?_toArray, List.getElem?_cons_succ, List.getElem?_cons_zero] at k60 k61 k62 k70 k71 k72
  clear c6 c7
  go_enter Try.func10, Try.ntmps10
  go_wp2_with fail
  have HB0 := Lib.hid hb0
  generalize hWW : ((w.alloc (.cells #[.slice ao n cap] 24)).alloc (.cells #[.string x.nm, .slice fo fn fc, .slice so sn sc] 28)).alloc (.cells #[.string y.nm, .slice go gn gc, .slice uo un uc] 28) = W0 at *
  clear hWW hb0
  go_loopw [26] (fun i wr => Below W0.heap.size W0 wr ∧ (i = .int .i64 0 ∨ (i = .int .i64 1 ∧ Hid (setE s key x = 0)) ∨ (i = .int .i64 2 ∧ Hid (setE s key x = 0 ∧ setE s key y = 0)))) (fun i _ => 2 - (intOf i).toNat)
  case atStart => exact ⟨Below.refl _ _, .inl rfl⟩
  case round =>
    obtain ⟨hbel, hi⟩ := hrel
    clear k60 k61 k62 k70 k71 k72
    have q4 := (hbel.block _ (lt_heap p4)).trans p4
    have q6 := (hbel.block _ (lt_heap p6)).trans p6
    have q7 := (hbel.block _ (lt_heap p7)).trans p7
    have hbw := below_step HB0.out hbel
    have c4 := cell_of_one q4
    have l4 := lt_heap q4
    obtain ⟨hi0, hi1⟩ := index_sets x.nm y.nm fo so go uo fn sn fc sc gn un gc uc wr
    have HBW := Lib.hid hbw
    have HBEL := Lib.hid hbel
    clear hbw hbel
    rcases hi with rfl | ⟨rfl, HCA⟩ | ⟨rfl, HCA⟩
    · have hba : Below wr.heap.size wr (wr.alloc (.cells #[.string x.nm, .slice fo fn fc, .slice so sn sc] 28)) := (Below.refl _ _).alloc (Nat.le_refl _) _
      have HCK := Lib.hid (setCheck_any (wr.alloc (.cells #[.string x.nm, .slice fo fn fc, .slice so sn sc] 28)) ao fo so n cap fn fc sn sc s key x HN.out hn63 (HS.out.mono (below_step HBW.out hba)) HW.out (HX.out.mono (below_step HBW.out hba)) HWX.out)
      have HBA := Lib.hid hba
      clear hba
      go_wp2_with fail
      refine HCK.out.mono ?_
      rintro e w1 ⟨rfl, hb1⟩
      have HB1 := Lib.hid (below_step HBA.out hb1)
      by_cases hc : setE s key x = 0
      · have HC2 := Lib.hid hc
        rw [hc]
        clear hc HCK hb1
        go_wp2_with fail
        go_roundw
        case rel => exact ⟨below_step HBEL.out HB1.out, .inr (.inl ⟨rfl, HC2⟩)⟩
        case measure => simp [intOf]
      · have HR : Hid (RD = ([], setE s key x)) := Lib.hid (by rw [← HRD.out]; unfold diffR; rw [if_pos hc])
        have he1 : (setE s key x != 0) = true := by rw [bne_iff_ne]; exact hc
        generalize setE s key x = ce at *
        clear hc HCK hb1
        go_wp2_with fail
        go_ret2
        exact ⟨_, by rw [HR.out]; rfl, by rw [HR.out]; exact ChsIn.nil _ _, below_step HBW.out HB1.out⟩
    · have hba : Below wr.heap.size wr (wr.alloc (.cells #[.string y.nm, .slice go gn gc, .slice uo un uc] 28)) := (Below.refl _ _).alloc (Nat.le_refl _) _
      have HCK := Lib.hid (setCheck_any (wr.alloc (.cells #[.string y.nm, .slice go gn gc, .slice uo un uc] 28)) ao go uo n cap gn gc un uc s key y HN.out hn63 (HS.out.mono (below_step HBW.out hba)) HW.out (HY.out.mono (below_step HBW.out hba)) HWY.out)
      have HBA := Lib.hid hba
      clear hba
      go_wp2_with fail
      refine HCK.out.mono ?_
      rintro e w1 ⟨rfl, hb1⟩
      have HB1 := Lib.hid (below_step HBA.out hb1)
      by_cases hc : setE s key y = 0
      · have HC2 := Lib.hid hc
        rw [hc]
        clear hc HCK hb1
        go_wp2_with fail
        go_roundw
        case rel => exact ⟨below_step HBEL.out HB1.out, .inr (.inr ⟨rfl, Lib.hid ⟨HCA.out, HC2.out⟩⟩)⟩
        case measure => simp [intOf]
      · have HR : Hid (RD = ([], setE s key y)) := Lib.hid (by rw [← HRD.out]; unfold diffR; rw [if_neg (not_not_intro HCA.out), if_pos hc])
        have he1 : (setE s key y != 0) = true := by rw [bne_iff_ne]; exact hc
        generalize setE s key y = ce at *
        clear hc HCK hb1
        go_wp2_with fail
        go_ret2
        exact ⟨_, by rw [HR.out]; rfl, by rw [HR.out]; exact ChsIn.nil _ _, below_step HBW.out HB1.out⟩
    · have HR : Hid (RD = if 40 < (goneC x y ++ y.files.flatMap (eachC s key x)).length then ([], 2) else (goneC x y ++ y.files.flatMap (eachC s key x), 0)) := Lib.hid (by rw [← HRD.out]; unfold diffR; rw [if_neg (not_not_intro HCA.out.1), if_neg (not_not_intro HCA.out.2)])
      have HRX := Lib.hid (setE_ok HCA.out.1)
      have HRY := Lib.hid (setE_ok HCA.out.2)
      clear hi0 hi1 c4 l4 HRD HCA
      have k61 := cell_of_block q6 1
      simp only [List.getElem?_toArray, List.getElem?_cons_succ, List.getElem?_cons_zero] at k61
      have l6 := lt_heap q6
      go_wp2_with fail
      clear k61 l6
      generalize wr = w5 at *
      have HNFX : Hid (fn ≤ 6) := Lib.hid (by have h1 := HRX.out.files.len; have h2 := HX.out.flen; omega)
      have HNFY : Hid (gn ≤ 6) := Lib.hid (by have h1 := HRY.out.files.len; have h2 := HY.out.flen; omega)
      go_loopw [13, 40] (fun v i wr => ∃ k : Nat, k ≤ fn ∧ i = .int .i64 k ∧ Hid (ChsIn wr w5.heap.size v (goneTo x y k)) ∧ Hid (Below w5.heap.size w5 wr)) (fun _ i _ => fn - (intOf i).toNat)
      case atStart => exact ⟨0, Nat.zero_le _, rfl, Lib.hid (by show ChsIn w5 w5.heap.size _ []; exact ChsIn.nil _ _), Lib.hid (Below.refl _ _)⟩
      case round =>
        obtain ⟨k, hkn, rfl, HCH, HB5⟩ := hrel
        have hfn6 := HNFX.out
        by_cases hlt : k < fn
        · have hlt' : (k : Int) < fn := by omega
          have hkl : k < x.files.length := by have := HX.out.flen; omega
          obtain ⟨b, o, rfl, hq⟩ := HX.out.frow.at k hkl
          have hE := (hq k hkl).mono (below_step HBW.out HB5.out)
          have HGS := Lib.hid (goneTo_succ x y k hkl)
          generalize x.files[k] = E at *
          have e0 := hE.nm
          have e1 := hE.root
          have e2 := hE.size
          have lb := hE.lt
          have hb1 : Below _ wr (wr.alloc (.cells #[.string E.nm, .int .i64 E.root, .int .i64 E.size] 37)) := (Below.refl _ _).alloc (Nat.le_refl _) _
          have rE := heap_alloc_new wr (.cells #[.string E.nm, .int .i64 E.root, .int .i64 E.size] 37)
          have HB6 := Lib.hid (below_step HB5.out hb1)
          have HCH6 := Lib.hid (HCH.out.mono hb1)
          have HRE := Lib.hid rE
          clear hq rE hE hb1 HCH
          go_upto_region 12 with fail
          generalize wr.alloc (.cells #[.string E.nm, .int .i64 E.root, .int .i64 E.size] 37) = W6 at *
          clear e0 e1 e2 lb
          have r7 := (HB6.out.block _ (lt_heap q7)).trans q7
          have k71 := cell_of_block r7 1
          have d0 := cell_of_block HRE.out 0
          simp only [List.getElem?_toArray, List.getElem?_cons_succ, List.getElem?_cons_zero] at k71 d0
          have l7 := lt_heap r7
          have lE := lt_heap HRE.out
          have HPL := Lib.hid (splace_any W6 go gn gc y.files E.nm HY.out.flen (by have := HNFY.out; omega) (HY.out.frow.mono (below_step HBW.out HB6.out)) HRY.out.files.rise)
          generalize placeN (y.files.map Ent.nm) E.nm = PN at *
          cases hpb : placeB (y.files.map Ent.nm) E.nm with
          | true =>
            have HGS2 : Hid (goneTo x y (k + 1) = goneTo x y k) := Lib.hid (by rw [HGS.out, hpb]; simp)
            rw [hpb] at HPL
            clear hpb HGS
            go_wp2_with fail
            refine HPL.out.mono ?_
            rintro e w7 ⟨rfl, hb7⟩
            have HB7 := Lib.hid (below_step HB6.out hb7)
            have HC7 : Hid (ChsIn w7 w5.heap.size u13 (goneTo x y (k + 1))) := Lib.hid (by rw [HGS2.out]; exact HCH6.out.mono hb7)
            clear hb7 HPL HCH6 k71 d0 l7 lE
            go_wp2_with fail
            go_roundw
            case rel => exact ⟨k + 1, by omega, by go_num, HC7, HB7⟩
            case measure => simp [intOf]; omega
          | false =>
            have HGS2 : Hid (goneTo x y (k + 1) = goneTo x y k ++ [⟨1, E.nm, 0, []⟩]) := Lib.hid (by rw [HGS.out, hpb]; simp)
            rw [hpb] at HPL
            clear hpb HGS
            go_wp2_with fail
            refine HPL.out.mono ?_
            rintro e w7 ⟨rfl, hb7⟩
            have HB7 := Lib.hid (below_step HB6.out hb7)
            have HC7 := Lib.hid (HCH6.out.mono hb7)
            have r8 := (hb7.block _ lE).trans HRE.out
            have d0 := cell_of_block r8 0
            simp only [List.getElem?_toArray, List.getElem?_cons_succ, List.getElem?_cons_zero] at d0
            have lE := lt_heap r8
            obtain ⟨a9, n9, c9, w9, hrun, hch9, hb9, -⟩ := HC7.out.one (by have := goneTo_len x y k; omega) HB7.out.size 1 E.nm 0
            have HB9 := Lib.hid (HB7.out.trans hb9)
            have HC9 : Hid (ChsIn w9 w5.heap.size (.slice a9 n9 c9) (goneTo x y (k + 1))) := Lib.hid (by rw [HGS2.out]; exact hch9)
            clear hb7 HPL HCH6 k71 l7 hch9 hb9 r8
            go_wp2_with (at_builtin; refine app_run rfl (.tmp 54) (.tmp 58) _ _ rfl rfl rfl hrun ?_)
            go_roundw
            case rel => exact ⟨k + 1, by omega, by go_num, HC9, HB9⟩
            case measure => simp [intOf]; omega
        · obtain rfl : fn = k := by omega
          have hlt' : ¬ (fn : Int) < fn := by omega
          have HC6 : Hid (ChsIn wr w5.heap.size u13 (eachTo s key x y 0)) := Lib.hid (by
            have h1 := HCH.out
            rw [show fn = x.files.length from HX.out.flen.symm, goneTo_all] at h1
            unfold eachTo
            simpa using h1)
          have r7 := (HB5.out.block _ (lt_heap q7)).trans q7
          have k71 := cell_of_block r7 1
          simp only [List.getElem?_toArray, List.getElem?_cons_succ, List.getElem?_cons_zero] at k71
          have l7 := lt_heap r7
          clear HCH
          go_wp2_with fail
          clear k71 l7 r7
          generalize wr = w6 at *
          go_loopw [13, 64] (fun v i wr => ∃ k : Nat, k ≤ gn ∧ i = .int .i64 k ∧ Hid (ChsIn wr w5.heap.size v (eachTo s key x y k)) ∧ Hid (Below w5.heap.size w5 wr)) (fun _ i _ => gn - (intOf i).toNat)
          case atStart => exact ⟨0, Nat.zero_le _, rfl, HC6, HB5⟩
          case round =>
            clear HC6 HB5
            obtain ⟨k, hkn, rfl, HCH, HB5⟩ := hrel
            have hgn6 := HNFY.out
            by_cases hlt : k < gn
            · have hlt' : (k : Int) < gn := by omega
              have hkl : k < y.files.length := by have := HY.out.flen; omega
              obtain ⟨b, o, rfl, hq⟩ := HY.out.frow.at k hkl
              have hE := (hq k hkl).mono (below_step HBW.out HB5.out)
              have HES := Lib.hid (eachTo_succ s key x y k hkl)
              have HLN : Hid ((eachTo s key x y k).length ≤ 396) := Lib.hid (by have := eachTo_len s key x y k; have := HRX.out.files.len; omega)
              have HFE := Lib.hid (HRY.out.files.each _ (List.getElem_mem hkl)).2
              generalize y.files[k] = E at *
              have e0 := hE.nm
              have e1 := hE.root
              have e2 := hE.size
              have lb := hE.lt
              have hb1 : Below _ wr ((wr.alloc (.cells #[.string E.nm, .int .i64 E.root, .int .i64 E.size] 37)).alloc (.cells #[.int .i64 0, .int .i64 0] 35)) := ((Below.refl _ _).alloc (Nat.le_refl _) _).alloc (by simp) _
              have rE := heap_alloc2_old wr (.cells #[.string E.nm, .int .i64 E.root, .int .i64 E.size] 37) (.cells #[.int .i64 0, .int .i64 0] 35)
              have rF := heap_alloc2_new wr (.cells #[.string E.nm, .int .i64 E.root, .int .i64 E.size] 37) (.cells #[.int .i64 0, .int .i64 0] 35)
              have HB6 := Lib.hid (below_step HB5.out hb1)
              have HCH6 := Lib.hid (HCH.out.mono hb1)
              have HRE := Lib.hid rE
              have HRF := Lib.hid rF
              have HWRS : Hid (w5.heap.size ≤ wr.heap.size) := Lib.hid HB5.out.size
              clear hq rE rF hE hb1 HCH
              go_upto_region 20 with fail
              generalize (wr.alloc (.cells #[.string E.nm, .int .i64 E.root, .int .i64 E.size] 37)).alloc (.cells #[.int .i64 0, .int .i64 0] 35) = W6 at *
              clear e0 e1 e2 lb
              have r6 := (HB6.out.block _ (lt_heap q6)).trans q6
              have k61 := cell_of_block r6 1
              have d0 := cell_of_block HRE.out 0
              simp only [List.getElem?_toArray, List.getElem?_cons_succ, List.getElem?_cons_zero] at k61 d0
              have l6 := lt_heap r6
              have lE := lt_heap HRE.out
              have lF := lt_heap HRF.out
              have HPL := Lib.hid (splace_any W6 _ _ fc x.files E.nm HX.out.flen (by have := HNFX.out; omega) (HX.out.frow.mono (below_step HBW.out HB6.out)) HRX.out.files.rise)
              obtain ⟨PN, hPN⟩ : ∃ PN, placeN (x.files.map Ent.nm) E.nm = PN := ⟨_, rfl⟩
              obtain ⟨PB, hPB⟩ : ∃ PB, placeB (x.files.map Ent.nm) E.nm = PB := ⟨_, rfl⟩
              rw [hPN, hPB] at HPL
              have HPN := Lib.hid hPN
              have HPB := Lib.hid hPB
              clear hPN hPB
              go_wp2_with fail
              refine HPL.out.mono ?_
              rintro e w7 ⟨rfl, hb7⟩
              have HB7 := Lib.hid (below_step HB6.out hb7)
              have HC7 := Lib.hid (HCH6.out.mono hb7)
              have rF7 := (hb7.block _ lF).trans HRF.out
              have HRE7 := Lib.hid ((hb7.block _ lE).trans HRE.out)
              have HNEF : Hid (wr.heap.size ≠ wr.heap.size + 1) := Lib.hid (by omega)
              have HOLD := Lib.hid (old_right HRX.out E.nm)
              obtain ⟨OR, hOR⟩ : ∃ OR, (oldE x E.nm).1 = OR := ⟨_, rfl⟩
              obtain ⟨OZ, hOZ⟩ : ∃ OZ, (oldE x E.nm).2 = OZ := ⟨_, rfl⟩
              have HOE : Hid (oldE x E.nm = (OR, OZ)) := Lib.hid (by rw [← hOR, ← hOZ])
              rw [hOR, hOZ] at HOLD
              rw [hOR, hOZ] at HES
              generalize hfb : wr.heap.size + 1 = fb at *
              generalize heb : wr.heap.size = eb at *
              have HFB : Hid (w5.heap.size ≤ fb ∧ w5.heap.size ≤ eb) := Lib.hid ⟨by have := HWRS.out; omega, HWRS.out⟩
              clear hb7 HPL HCH6 k61 d0 l6 lE lF HRF HRE r6 hOR hOZ hfb heb HB6
              go_upto_if 76 with fail
              go_cut [] (fun wx => Hid (wx.heap[fb]? = some (.cells #[.int .i64 OR, .int .i64 OZ] 35 (0, 0)) ∧ (∀ b, b < w7.heap.size → b ≠ fb → wx.heap[b]? = w7.heap[b]?) ∧ Below w5.heap.size w5 wx))
              case first =>
                cases PB with
                | false =>
                  have HR0 : Hid (OR = 0 ∧ OZ = 0) := Lib.hid (by
                    have h := HOE.out
                    unfold oldE at h
                    rw [if_neg (by rw [HPB.out]; simp)] at h
                    exact ⟨(Prod.mk.inj h).1.symm, (Prod.mk.inj h).2.symm⟩)
                  go_wp2_with fail
                  go_meet
                  exact Lib.hid ⟨by rw [HR0.out.1, HR0.out.2]; exact rF7, fun _ _ _ => rfl, HB7.out⟩
                | true =>
                  obtain ⟨-, hpl, -⟩ := placeB_lt HPB.out
                  rw [HPN.out, List.length_map] at hpl
                  obtain ⟨b2, o2, hfo, hq2⟩ := HX.out.frow.at PN hpl
                  subst hfo
                  have hE2 := (hq2 PN hpl).mono (below_step HBW.out HB7.out)
                  have HR0 : Hid (OR = x.files[PN].root ∧ OZ = x.files[PN].size) := Lib.hid (by
                    have h := HOE.out
                    have e : entAt x.files PN = x.files[PN] := by unfold entAt; rw [List.getElem?_eq_getElem hpl]; rfl
                    unfold oldE at h
                    rw [if_pos HPB.out, HPN.out, e] at h
                    exact ⟨(Prod.mk.inj h).1.symm, (Prod.mk.inj h).2.symm⟩)
                  have hpl2 : (PN : Int) < fn := by have := HX.out.flen; omega
                  generalize x.files[PN] = A at *
                  have e1 := hE2.root
                  have e2 := hE2.size
                  have lb2 := hE2.lt
                  have r6 := (HB7.out.block _ (lt_heap q6)).trans q6
                  have k61 := cell_of_block r6 1
                  have f0 := cell_of_block rF7 0
                  have f1 := cell_of_block rF7 1
                  simp only [List.getElem?_toArray, List.getElem?_cons_succ, List.getElem?_cons_zero] at k61 f0 f1
                  have ff := fun j => free_of_block rF7 j
                  have lF := lt_heap rF7
                  have l6 := lt_heap r6
                  have HPU := Lib.hid (put_ints rF7 (.int .i64 A.root) (.int .i64 A.size))
                  clear hq2 hE2 r6
                  go_wp2_with fail
                  go_meet
                  exact Lib.hid ⟨by rw [HR0.out.1, HR0.out.2]; exact HPU.out.1, fun b _ hb => (Below.heap_setCell _ _ _ _ hb).trans (Below.heap_setCell _ _ _ _ hb), HPU.out.2 _ _ HB7.out HFB.out.1⟩
              case rest =>
                generalize wc = w8 at *
                have HF8 := Lib.hid hcut.out.1
                have HB8 := Lib.hid hcut.out.2.2
                have HKB := Lib.hid hcut.out.2.1
                have hne : eb ≠ fb := HNEF.out
                have HE8 := Lib.hid ((HKB.out eb (lt_heap HRE7.out) hne).trans HRE7.out)
                have HC8 := Lib.hid (HC7.out.other (w' := w8) rF7 (by decide) fun b hl hb => HKB.out b hl hb)
                clear HC7 rF7 HRE7 HKB hcut HB7
                have f1 := cell_of_block HF8.out 1
                have d2 := cell_of_block HE8.out 2
                simp only [List.getElem?_toArray, List.getElem?_cons_succ, List.getElem?_cons_zero] at f1 d2
                have lF := lt_heap HF8.out
                have lE := lt_heap HE8.out
                go_upto_region 23 with fail
                go_cut [92] (fun u wx => ∃ D : Bool, u = .bool D ∧ Hid (D = true ↔ PB = false ∨ OZ ≠ E.size) ∧ Below w8.heap.size w8 wx)
                case first =>
                  cases PB with
                  | false =>
                    go_wp2_with fail
                    go_meet
                    exact ⟨_, rfl, Lib.hid (by simp), Below.refl _ _⟩
                  | true =>
                    by_cases hzz : OZ = E.size
                    · have hz1 : (OZ != E.size) = false := by rw [hzz, bne_self_eq_false]
                      have HZZ := Lib.hid hzz
                      clear hzz
                      go_wp2_with fail
                      go_meet
                      exact ⟨_, rfl, Lib.hid ⟨fun h => (by cases h), fun h => h.elim (fun h => (by cases h)) fun h => absurd HZZ.out h⟩, Below.refl _ _⟩
                    · have hz1 : (OZ != E.size) = true := by rw [bne_iff_ne]; exact hzz
                      have HZZ := Lib.hid hzz
                      clear hzz
                      go_wp2_with fail
                      go_meet
                      exact ⟨_, rfl, Lib.hid ⟨fun _ => .inr HZZ.out, fun _ => rfl⟩, Below.refl _ _⟩
                case rest =>
                  obtain ⟨D, rfl, HD, hb9⟩ := hcut
                  have HF9 := Lib.hid ((hb9.block _ lF).trans HF8.out)
                  have HE9 := Lib.hid ((hb9.block _ lE).trans HE8.out)
                  have HC9 := Lib.hid (HC8.out.mono hb9)
                  have HB9 := Lib.hid (below_step HB8.out hb9)
                  generalize wc = w9 at *
                  clear hb9 HF8 HE8 HC8 HB8 f1 d2 lF lE
                  go_upto_if 92 with fail
                  go_cut [13] (fun v wx => Hid (ChsIn wx w5.heap.size v (eachTo s key x y k ++ (if PB = false ∨ OZ ≠ E.size then [⟨2, E.nm, E.size, []⟩] else [])) ∧ wx.heap[fb]? = some (.cells #[.int .i64 OR, .int .i64 OZ] 35 (0, 0)) ∧ wx.heap[eb]? = some (.cells #[.string E.nm, .int .i64 E.root, .int .i64 E.size] 37 (0, 0)) ∧ Below w5.heap.size w5 wx))
                  case first =>
                    cases D with
                    | false =>
                      go_wp2_with fail
                      go_meet
                      exact Lib.hid ⟨by rw [if_neg (fun h => absurd (HD.out.2 h) (by decide)), List.append_nil]; exact HC9.out, HF9.out, HE9.out, HB9.out⟩
                    | true =>
                      have d0 := cell_of_block HE9.out 0
                      have d2 := cell_of_block HE9.out 2
                      simp only [List.getElem?_toArray, List.getElem?_cons_succ, List.getElem?_cons_zero] at d0 d2
                      have lE := lt_heap HE9.out
                      obtain ⟨a9, n9, c9, w10, hrun, hch10, hb10, ht10⟩ := HC9.out.one (by have := HLN.out; omega) HB9.out.size 2 E.nm E.size
                      have HCH10 := Lib.hid hch10
                      have HB10 := Lib.hid (HB9.out.trans hb10)
                      have HT10 := Lib.hid (And.intro (ht10 _ _ _ HF9.out (by decide)) (ht10 _ _ _ HE9.out (by decide)))
                      clear hch10 hb10 ht10
                      go_wp2_with (at_builtin; refine app_run rfl (.tmp 93) (.tmp 100) _ _ rfl rfl rfl hrun ?_)
                      go_meet
                      exact Lib.hid ⟨by rw [if_pos (HD.out.1 (by trivial))]; exact HCH10.out, HT10.out.1, HT10.out.2, HB10.out⟩
                  case rest =>
                    have HC10 := Lib.hid hcut.out.1
                    have HF10 := Lib.hid hcut.out.2.1
                    have HE10 := Lib.hid hcut.out.2.2.1
                    have HB10 := Lib.hid hcut.out.2.2.2
                    generalize wc = w10 at *
                    clear hcut HC9 HF9 HE9 HB9 HD
                    have HES2 : Hid (eachTo s key x y (k + 1) = (eachTo s key x y k ++ (if PB = false ∨ OZ ≠ E.size then [⟨2, E.nm, E.size, []⟩] else [])) ++ bytesC s key E.nm OR E.root E.size) := Lib.hid (by rw [HES.out, HPB.out])
                    have HL10 : Hid ((eachTo s key x y k ++ (if PB = false ∨ OZ ≠ E.size then [(⟨2, E.nm, E.size, []⟩ : ChgV)] else [])).length ≤ 397) := Lib.hid (by
                      rw [List.length_append]
                      have h1 := HLN.out
                      split
                      · simp; omega
                      · simp; omega)
                    generalize (eachTo s key x y k ++ (if PB = false ∨ OZ ≠ E.size then [(⟨2, E.nm, E.size, []⟩ : ChgV)] else [])) = LL at *
                    have r4 := (HB10.out.block _ (lt_heap q4)).trans q4
                    have c4 := cell_of_one r4
                    have d0 := cell_of_block HE10.out 0
                    have d1 := cell_of_block HE10.out 1
                    have d2 := cell_of_block HE10.out 2
                    have f0 := cell_of_block HF10.out 0
                    have f1 := cell_of_block HF10.out 1
                    simp only [List.getElem?_toArray, List.getElem?_cons_succ, List.getElem?_cons_zero] at d0 d1 d2 f0 f1
                    have l4 := lt_heap r4
                    have lE := lt_heap HE10.out
                    have lF := lt_heap HF10.out
                    obtain ⟨-, hz0, hz2, hct, -⟩ := fileE_ok HFE.out
                    have HSB := Lib.hid (sbytes_any w10 ao n cap s key E.nm OR OZ E.root E.size HN.out hn63 (HS.out.mono (below_step HBW.out HB10.out)) HW.out HC.out (by unfold I64; omega) HOLD.out.1 hct)
                    clear hz0 hz2 hct r4
                    go_wp2_with fail
                    refine HSB.out.mono ?_
                    rintro e w11 ⟨v11, rfl, hch11, hl11, hb11⟩
                    have HC11 := Lib.hid (HC10.out.mono hb11)
                    have HB11 := Lib.hid (below_step HB10.out hb11)
                    have hch11 := hch11
                    obtain ⟨a12, n12, c12, w12, hrun, hch12, hb12, -⟩ := HC11.out.many hch11 (by have := HL10.out; omega) HB11.out.size
                    have HC12 : Hid (ChsIn w12 w5.heap.size (.slice a12 n12 c12) (eachTo s key x y (k + 1))) := Lib.hid (by rw [HES2.out]; exact hch12)
                    have HB12 := Lib.hid (HB11.out.trans hb12)
                    clear hch11 hl11 hb11 hch12 hb12 HSB HC10 HF10 HE10 HB10 c4 d0 d1 d2 f0 f1 l4 lE lF
                    go_wp2_with (at_builtin; refine app_run rfl (.tmp 102) (.tmp 110) _ _ rfl rfl rfl hrun ?_)
                    go_roundw
                    case rel => exact ⟨k + 1, by omega, by go_num, HC12, HB12⟩
                    case measure => simp [intOf]; omega
            · obtain rfl : gn = k := by omega
              have hlt' : ¬ (gn : Int) < gn := by omega
              have hch := HCH.out
              have HEND : Hid (ChsIn wr w5.heap.size u13 (goneC x y ++ y.files.flatMap (eachC s key x)) ∧ Below w.heap.size w wr) := Lib.hid ⟨by
                rw [show gn = y.files.length from HY.out.flen.symm] at hch
                unfold eachTo at hch
                rw [List.take_length] at hch
                exact hch, below_step HBW.out HB5.out⟩
              obtain ⟨ua, uc, rfl, -, -⟩ := HEND.out.1.shape
              have HWB : Hid (w.heap.size ≤ w5.heap.size) := Lib.hid HBW.out.size
              generalize goneC x y ++ y.files.flatMap (eachC s key x) = LL at *
              clear hch HCH
              by_cases h40 : (40 : Int) < LL.length
              · have HR2 : Hid (RD = ([], 2)) := Lib.hid (by rw [HR.out, if_pos (by omega)])
                generalize LL.length = ll at *
                go_wp2_with fail
                go_ret2
                exact ⟨_, by rw [HR2.out]; rfl, by rw [HR2.out]; exact ChsIn.nil _ _, HEND.out.2⟩
              · have HR2 : Hid (RD = (LL, 0)) := Lib.hid (by rw [HR.out, if_neg (by omega)])
                generalize LL.length = ll at *
                have hn40 : ¬ 40 < ll := by omega
                have hd40 : decide ((40 : Int) < ll) = false := decide_eq_false h40
                have he40 : decide (40 < ll) = false := decide_eq_false hn40
                go_wp2_with fail
                go_ret2
                exact ⟨_, by rw [HR2.out]; rfl, by rw [HR2.out]; exact HEND.out.1.weaken HWB.out, HEND.out.2⟩
end Go.Proofs.Ytfmgdjgedhnmeaa
