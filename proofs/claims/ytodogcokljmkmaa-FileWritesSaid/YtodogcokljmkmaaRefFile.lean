/- rookeryref.CheckFile, BytesOf. -/
import Derived.Test.YtodogcokljmkmaaFileBytes
import Derived.Test.YtodogcokljmkmaaRefP
import Derived.Test.YtodogcokljmkmaaCount
namespace Go.Proofs.Ytodogcokljmkmaa
open Go.RowKit
set_option linter.unusedVariables false

/-- a row of byte slices, read; what holds nothing is nil -/
def Rows3 (w : World) (ao : Option Addr) (L : List (List Int)) : Prop :=
  L = [] ∨ ∃ b o, ao = some ⟨b, o, none⟩ ∧ ∀ i (h : i < L.length), ∃ ba bc, w.cell? ⟨b, o + i, none⟩ = some (.slice ba L[i].length bc) ∧ Row .u8 w ba L[i] ∧ (L[i] = [] → ba = none ∧ bc = 0)
theorem Rows3.mono {w w' : World} {ao : Option Addr} {L : List (List Int)} (h : Rows3 w ao L) (hb : Below w.heap.size w w') : Rows3 w' ao L := by
  rcases h with h | ⟨b, o, rfl, h⟩
  · exact .inl h
  · refine .inr ⟨b, o, rfl, fun i hi => ?_⟩
    obtain ⟨ba, bc, h1, h2, h3⟩ := h i hi
    exact ⟨ba, bc, ((bcell hb).1 _ _ (World.block_lt_of_cell? _ _ h1)).trans h1, h2.mono hb, h3⟩
theorem rows3_of {w : World} {base n : Nat} {v : Value} {vs : List Value} {L : List (List Int)} (h : w.ownsRow base 32 1 v n vs) (hn : vs.length = n) (hL : LV w vs L) : ∃ ao cap, v = .slice ao n cap ∧ Rows3 w ao L := by
  have hl := hL.len
  obtain ⟨h1, ⟨rfl, h3⟩ | ⟨g, cap, cur, rfl, hb, hg, hle, hm, hs, ht⟩⟩ := h
  · exact ⟨none, 0, by rw [h3], .inl (List.eq_nil_of_length_eq_zero (by omega))⟩
  · refine ⟨some ⟨g, 0, none⟩, cap, rfl, .inr ⟨g, 0, rfl, fun i hi => ?_⟩⟩
    have hiv : i < vs.length := by omega
    obtain ⟨⟨ba, bc, hv, hr, -⟩, hnil⟩ := hL.each i hiv hi
    refine ⟨ba, bc, ?_, hr, fun h0 => ?_⟩
    · rw [Nat.zero_add, cell_of_block hg, ← hv]
      have e : (cur.toList.take (n * 1))[i]? = vs[i]? := by rw [ht]
      rw [List.getElem?_take, if_pos (by omega), List.getElem?_eq_getElem hiv] at e
      simpa using e
    · have := hnil h0
      rw [hv] at this
      simp only [Value.slice.injEq] at this
      exact ⟨this.1, this.2.2⟩
theorem Rows3.get {w : World} {ao : Option Addr} {L : List (List Int)} (h : Rows3 w ao L) (i : Nat) (hi : i < L.length) : ∃ b o, ao = some ⟨b, o, none⟩ ∧ ∃ ba bc, w.cell? ⟨b, o + i, none⟩ = some (.slice ba L[i].length bc) ∧ Row .u8 w ba L[i] ∧ (L[i] = [] → ba = none ∧ bc = 0) := by
  obtain ⟨b, o, rfl, hc⟩ := h.resolve_left (fun e => by rw [e] at hi; simp at hi)
  obtain ⟨ba, bc, x, hr, hn⟩ := hc i hi
  exact ⟨b, o, rfl, ba, bc, x, hr, hn⟩

theorem leaves3 (u : World) (ao : Option Addr) (n cap : Nat) (s : List Blk) (root : Int) (hn : s.length = n) (h400 : n ≤ 400) (hs : StoRow u ao s) (hf : formsE s s = 0) (hr : RootAt s 3 root) :
    Calls Try.prog 68 #[.agg #[.slice ao n cap], .int .i64 root, .int .i64 3] u fun e w' => ∃ ro rc, e = .returned (.slice ro 64 rc) ∧ Rows3 w' ro (leavesF 3 s root) ∧ Below u.heap.size u w' := by
  have h := leavesOf_any 3 (by omega) u u ao n cap s root (Below.refl _ _) hn h400 hs hf hr
  have h : Calls Try.prog 68 #[.agg #[.slice ao n cap], .int .i64 root, .int .i64 3] u _ := h
  refine h.mono ?_
  rintro e w' ⟨v, vs, rfl, ho, hL, hb⟩
  have hl := hL.len
  rw [leavesF_len] at hl
  obtain ⟨ro, rc, rfl, h2⟩ := rows3_of ho rfl (hL.mono hb)
  exact ⟨ro, rc, by rw [hl]; rfl, h2, hb⟩

set_option maxRecDepth 100000 in
set_option maxHeartbeats 8000000 in
theorem refBytes_any (w : World) (ao : Option Addr) (n cap : Nat) (s : List Blk) (key root : Int) (z : Nat) (hn : s.length = n) (hs : StoRow w ao s) (hwf : WfS s) (hok : fileE s key root z = 0) :
    Calls Try.prog 26 #[.agg #[.slice ao n cap], .int .i64 key, .agg #[.int .i64 root, .int .i64 z]] w fun e w' =>
      ∃ g c, e = .returned (.slice (some ⟨g, 0, none⟩) z c) ∧ z ≤ c ∧ w.heap.size ≤ g ∧ g < w'.heap.size ∧ Row .u8 w' (some ⟨g, 0, none⟩) (fileB s key root z) ∧ Below w.heap.size w w' := by
  obtain ⟨hk, -, hz256, hc, -⟩ := fileE_ok hok
  obtain ⟨hce, m, hm3, hm, hroot, -, -⟩ := checkT_ok hc
  obtain rfl : m = 3 := by omega
  have hf := (checkE_zero s hce).2.1
  have h400 : n ≤ 400 := by have := (checkE_zero s hce).1; omega
  have HN := Lib.hid hn
  have HKU := Lib.hid (fun (i : Nat) (hi : i < 64) => keyE_up hk hi)
  have HL4 := Lib.hid (leaf_four hf (by omega) hroot)
  have HBY := Lib.hid (leavesF_byt hwf 3 root)
  have HLL : Hid ((leavesF 3 s root).length = 64) := Lib.hid (leavesF_len 3 s root)
  have HLV := Lib.hid (fun (u : World) (h : StoRow u ao s) => leaves3 u ao n cap s root hn h400 h hf hroot)
  have HFB : Hid (fileB s key root z = (bytesTo key (leavesF 3 s root) 64).take z) := Lib.hid rfl
  have HBL := Lib.hid (fun k => bytesTo_len (key := key) (leaf_four hf (by omega) hroot) k)
  have hb0 : Below w.heap.size w ((w.alloc (.cells #[.slice ao n cap] 24)).alloc (.cells #[.int .i64 root, .int .i64 z] 26)) := ((Below.refl _ _).alloc (Nat.le_refl _) _).alloc (by simp) _
  have p0 : ((w.alloc (.cells #[.slice ao n cap] 24)).alloc (.cells #[.int .i64 root, .int .i64 z] 26)).heap[w.heap.size]? = some (.cells #[.slice ao n cap] 24 (0, 0)) := heap_alloc2_old _ _ _
  have p1 : ((w.alloc (.cells #[.slice ao n cap] 24)).alloc (.cells #[.int .i64 root, .int .i64 z] 26)).heap[w.heap.size + 1]? = some (.cells #[.int .i64 root, .int .i64 z] 26 (0, 0)) := heap_alloc2_new _ _ _
  clear hn hok hk hc hce hm3 hm hroot hwf hf
  generalize leavesF 3 s root = LL at *
  generalize fileB s key root z = FB at *
  have he := fun w a n c => Lib.run_eql_slice_nil (P := Try.prog) w 32 5 a n c 0 0 Try.underlying32
  go_enter Try.func26, Try.ntmps26
  go_wp2_with fail
  have hs := hs.mono hb0
  generalize (w.alloc (Obj.cells #[Value.slice ao n cap] 24)).alloc (Obj.cells #[Value.int .i64 root, Value.int .i64 z] 26) = W0 at *
  have c0 := cell_of_one p0
  have c10 := cell_of_block p1 0
  simp at c10
  have l0 := lt_heap p0
  have l1 := lt_heap p1
  go_wp2_with fail
  refine (HLV.out W0 hs).mono ?_
  rintro e w2 ⟨ro, rc, rfl, hR, hb2⟩
  have hbw2 := below_step hb0 hb2
  have q1 := (hb2.block _ l1).trans p1
  have hsz2 := hbw2.size
  clear c0 c10 l0 l1 p0 p1 hs
  go_wp2
  go_loopw [7, 15] (fun v x wr => ∃ k : Nat, k ≤ 64 ∧ x = .int .i64 k ∧ Own .u8 5 w2.heap.size wr v (bytesTo key LL k) ∧ Below w2.heap.size w2 wr) (fun _ x _ => 64 - (intOf x).toNat)
  case atStart => exact ⟨0, by omega, rfl, Own.nil _ _ _ _, Below.refl _ _⟩
  case round =>
    obtain ⟨k, hk, rfl, hown, hbel⟩ := hrel
    have hbwr := below_step hbw2 hbel
    have hszr := hbwr.size
    by_cases hlt : k < 64
    · have hkL : k < LL.length := by have := HLL.out; omega
      obtain ⟨bb, oo, rfl, ba, bc, xk, hrow, hnil⟩ := (hR.mono hbel).get k hkL
      have lk := World.block_lt_of_cell? _ _ xk
      have h4 := HL4.out _ (List.getElem_mem hkL)
      have hby := HBY.out _ (List.getElem_mem hkL)
      have hkk := HKU.out k hlt
      have hk64 : (k : Int) < 64 := by omega
      have hbl := HBL.out k
      have hbs := bytesTo_succ key LL k
      rw [List.getD_eq_getElem?_getD, List.getElem?_eq_getElem hkL, Option.getD_some] at hbs
      have HBS := Lib.hid hbs
      have HOWN := Lib.hid hown
      obtain ⟨av, cv, rfl, -, -, -, -⟩ := hown.shape'
      have HBL2 := Lib.hid hbl
      clear hbs
      generalize LL[k] = xs at *
      by_cases hx : xs = []
      · obtain ⟨rfl, rfl⟩ := hnil hx
        have HN2 : Hid (bytesTo key LL (k + 1) = bytesTo key LL k ++ [0, 0, 0, 0]) := Lib.hid (by rw [HBS.out, hx]; rfl)
        rw [hx, List.length_nil] at xk
        have hA : Below w2.heap.size wr (wr.alloc (.cells #[.int .u8 0, .int .u8 0, .int .u8 0, .int .u8 0] 5)) := (Below.refl _ _).alloc hbel.size _
        have hz4 : Row .u8 (wr.alloc (.cells #[.int .u8 0, .int .u8 0, .int .u8 0, .int .u8 0] 5)) (some ⟨wr.heap.size, 0, none⟩) [0, 0, 0, 0] := row_lit .u8 _ wr [0, 0, 0, 0] _ rfl _ rfl
        have ho2 : Hid (Own .u8 5 w2.heap.size (wr.alloc (.cells #[.int .u8 0, .int .u8 0, .int .u8 0, .int .u8 0] 5)) (.slice av (bytesTo key LL k).length cv) (bytesTo key LL k)) := Lib.hid (HOWN.out.mono ((Below.refl _ _).alloc (Nat.le_refl _) _))
        clear hx h4 hby hrow hnil hown hbl
        generalize bytesTo key LL k = BK at *
        obtain ⟨bn, hbn⟩ : ∃ bn, BK.length = bn := ⟨_, rfl⟩
        rw [hbn] at ho2 HOWN ⊢
        have HBN := Lib.hid hbn
        have hbn2 : bn = 4 * k := by have := HBL2.out; omega
        replace hbn2 := Lib.hid hbn2
        clear hbn
        go_wp2_with (first
          | (at_builtin; refine append_ints rfl (.tmp 22) (.tmp 23) _ rfl   .u8 5 1 w2.heap.size Try.underlying32 info_u8 _ BK [0, 0, 0, 0] (some ⟨wr.heap.size, 0, none⟩) 4 rfl ho2.out rfl hz4 (fun h => by cases h) ?_ ?_ ?_ ?_; rotate_right; intro v' w4 hown4 hb4 hnil4; clear hnil4))
        · have hb5 := hbel.trans (hA.trans hb4)
          go_roundw
          case rel => exact ⟨k + 1, by omega, by go_num, by rw [HN2.out]; exact hown4, hb5⟩
          case measure => simp [intOf]; omega
        · have e1 := HBN.out
          have e2 := hbn2.out
          rw [e1]; unfold maxLen; omega
        · have e1 := HBN.out
          have e2 := hbn2.out
          rw [e1]; omega
        · have := hbel.size; omega
      · have hz2 := hbel.size
        have hx4 := h4.resolve_left hx
        have hxa : ∃ a, ba = some a := by
          rcases hrow with e | ⟨b1, o1, e, -⟩
          · exact absurd e hx
          · exact ⟨_, e⟩
        obtain ⟨xa, rfl⟩ := hxa
        rw [hx4] at xk
        have hOp := ref_opened key k (some xa) bc xs wr hkk (by omega) hrow hby
        rw [hx4] at hOp
        have hyl : (openL key k xs).length = 4 := (sealed_length _ _ _ _).trans hx4
        have HN2 : Hid (bytesTo key LL (k + 1) = bytesTo key LL k ++ openL key k xs) := Lib.hid (by rw [HBS.out]; unfold leafBytes; rw [if_neg hx])
        have hop : sealed (-1) key k xs = openL key k xs := rfl
        rw [hop] at hOp
        clear hop hx h4 hrow hnil hby hown hbl
        generalize openL key k xs = ys at *
        generalize bytesTo key LL k = BK at *
        obtain ⟨bn, hbn⟩ : ∃ bn, BK.length = bn := ⟨_, rfl⟩
        rw [hbn] at HOWN ⊢
        have HBN := Lib.hid hbn
        have hbn2 : bn = 4 * k := by have := HBL2.out; omega
        replace hbn2 := Lib.hid hbn2
        have HYL := Lib.hid hyl
        clear hbn hyl
        go_wp2_with fail
        refine hOp.mono ?_
        rintro e w4 ⟨v4, rfl, ho4, hb4⟩
        obtain ⟨ay, cy, rfl, hry, hcy⟩ := own_cap ho4
        rw [HYL.out] at hcy ⊢
        have ho2 := Lib.hid (HOWN.out.mono hb4)
        have hry2 := Lib.hid hry
        clear ho4 hry
        go_wp2_with (first
          | (at_builtin; refine append_ints rfl (.tmp 25) (.tmp 29) _ rfl   .u8 5 1 w2.heap.size Try.underlying32 info_u8 _ BK ys ay cy rfl ho2.out (by rw [HYL.out]; rfl) hry2.out hcy.2 ?_ ?_ ?_ ?_; rotate_right; intro v' w5 hown5 hb5 hnil5; clear hnil5))
        · have hb6 := hbel.trans ((hb4.mono hbel.size).trans hb5)
          go_roundw
          case rel => exact ⟨k + 1, by omega, by go_num, by rw [HN2.out]; exact hown5, hb6⟩
          case measure => simp [intOf]; omega
        · have e1 := HBN.out
          have e2 := hbn2.out
          rw [e1, HYL.out]; unfold maxLen; omega
        · have e1 := HBN.out
          have e2 := hbn2.out
          rw [e1, HYL.out]; omega
        · exact Nat.le_trans hz2 hb4.size
    · obtain rfl : k = 64 := by omega
      have hbl := HBL.out 64
      obtain ⟨g, cv, hv, hg, hco, hfo, hgl⟩ := hown.at 0 (by omega)
      obtain ⟨av, cv2, hv2, hc1, -, hrow, -⟩ := hown.shape'
      have q2 := (hbel.block _ (lt_heap q1)).trans q1
      have d1 := cell_of_block q2 1
      simp at d1
      have dl := lt_heap q2
      rw [hbl] at hv hv2 hc1
      subst hv
      simp only [Value.slice.injEq, true_and] at hv2
      obtain ⟨rfl, rfl⟩ := hv2
      have hzc : z ≤ cv := by omega
      have hzi : (z : Int) ≤ cv := by omega
      have HR : Hid (Row .u8 wr (some ⟨g, 0, none⟩) FB) := Lib.hid (by rw [HFB.out]; exact hrow.take z)
      have hbz := below_step hbw2 hbel
      have hgw : w.heap.size ≤ g := by omega
      clear hown hrow hco hfo hbl hc1 hbel hbwr
      go_wp2_with fail
      go_ret
      exact ⟨g, cv, rfl, hzc, hgw, hgl, HR.out, hbz⟩
set_option maxRecDepth 100000 in
set_option maxHeartbeats 16000000 in
theorem refCheckFile_any (w : World) (ao : Option Addr) (n cap : Nat) (s : List Blk) (key root size : Int) (hn : s.length = n) (hn63 : n ≤ 1152921504606846976) (hs : StoRow w ao s) (hwf : WfS s) (hz : I64 size) :
    Calls Try.prog 24 #[.agg #[.slice ao n cap], .int .i64 key, .agg #[.int .i64 root, .int .i64 size]] w fun e w' => e = .returned (.int .i64 (fileE s key root size)) ∧ Below w.heap.size w w' := by
  have HN := Lib.hid hn
  have hb0 : Below w.heap.size w ((w.alloc (.cells #[.slice ao n cap] 24)).alloc (.cells #[.int .i64 root, .int .i64 size] 26)) := ((Below.refl _ _).alloc (Nat.le_refl _) _).alloc (by simp) _
  have p0 : ((w.alloc (.cells #[.slice ao n cap] 24)).alloc (.cells #[.int .i64 root, .int .i64 size] 26)).heap[w.heap.size]? = some (.cells #[.slice ao n cap] 24 (0, 0)) := heap_alloc2_old _ _ _
  have p1 : ((w.alloc (.cells #[.slice ao n cap] 24)).alloc (.cells #[.int .i64 root, .int .i64 size] 26)).heap[w.heap.size + 1]? = some (.cells #[.int .i64 root, .int .i64 size] 26 (0, 0)) := heap_alloc2_new _ _ _
  clear hn
  have he := fun w a n c => Lib.run_eql_slice_nil (P := Try.prog) w 32 5 a n c 0 0 Try.underlying32
  go_enter Try.func24, Try.ntmps24
  go_wp2_with fail
  have hs := hs.mono hb0
  generalize (w.alloc (Obj.cells #[Value.slice ao n cap] 24)).alloc (Obj.cells #[Value.int .i64 root, Value.int .i64 size] 26) = W0 at *
  refine (ref_checkKey key 0 W0).mono ?_
  rintro e w1 ⟨rfl, rfl⟩
  have c0 := cell_of_one p0
  have c10 := cell_of_block p1 0
  have c11 := cell_of_block p1 1
  simp at c10 c11
  have l0 := lt_heap p0
  have l1 := lt_heap p1
  by_cases hk : keyE key 0 = 0
  rotate_left
  · have HR := Lib.hid (show fileE s key root size = keyE key 0 by unfold fileE; rw [if_pos hk])
    have he1 : (keyE key 0 != 0) = true := by rw [bne_iff_ne]; exact hk
    generalize hcc : keyE key 0 = ce at *
    replace hcc := Lib.hid hcc
    clear hk hs
    go_wp2
    go_ret
    exact ⟨by rw [HR.out]; rfl, hb0⟩
  have he1 : (keyE key 0 != 0) = false := by rw [hk]; rfl
  by_cases hsz : size < 0 ∨ 256 < size
  · have HR := Lib.hid (show fileE s key root size = 3 by unfold fileE; rw [if_neg (by simp [hk]), if_pos hsz])
    generalize hcc : keyE key 0 = ce at *
    replace hcc := Lib.hid hcc
    clear hk hs
    rcases hsz with h | h
    · go_wp2
      go_ret
      exact ⟨by rw [HR.out]; rfl, hb0⟩
    · have h' : ¬ size < 0 := by omega
      go_wp2
      go_ret
      exact ⟨by rw [HR.out]; rfl, hb0⟩
  have hs0 : ¬ size < 0 := by omega
  have hs1 : ¬ 256 < size := by omega
  have HKU := Lib.hid (fun (i : Nat) (hi : i < 64) => keyE_up hk hi)
  have hCR := checkRoot_any W0 ao n cap s root 3 0 HN.out hn63 hs hwf
  clear hsz
  by_cases hc : checkT s root 3 0 = 0
  rotate_left
  · have HR := Lib.hid (show fileE s key root size = checkT s root 3 0 by unfold fileE; rw [if_neg (by simp [hk]), if_neg (by omega), if_pos hc])
    have he2 : (checkT s root 3 0 != 0) = true := by rw [bne_iff_ne]; exact hc
    generalize checkT s root 3 0 = ct at *
    generalize hcc : keyE key 0 = ce at *
    replace hcc := Lib.hid hcc
    clear hk hc hs
    go_wp2_with fail
    refine hCR.mono ?_
    rintro e w2 ⟨rfl, hb2⟩
    have hbw2 := below_step hb0 hb2
    clear hCR
    go_wp2
    go_ret
    exact ⟨by rw [HR.out]; rfl, hbw2⟩
  · obtain ⟨hce, m, hm3, hm, hroot, -, -⟩ := checkT_ok hc
    obtain rfl : m = 3 := by omega
    have hf := (checkE_zero s hce).2.1
    have HR : Hid (fileE s key root size = if filesBad key size (leavesF 3 s root) 64 = true then 4 else 0) := Lib.hid (by unfold fileE; rw [if_neg (by simp [hk]), if_neg (by omega), if_neg (by simp [hc])])
    have HLL : Hid ((leavesF 3 s root).length = 64) := Lib.hid (leavesF_len 3 s root)
    have HL4 := Lib.hid (leaf_four hf (by omega) hroot)
    have HBY := Lib.hid (leavesF_byt hwf 3 root)
    have HLV := Lib.hid (fun (u : World) (h : Below W0.heap.size W0 u) => leaves3 u ao n cap s root HN.out (by have := (checkE_zero s hce).1; have := HN.out; omega) (hs.mono h) hf hroot)
    have he2 : (checkT s root 3 0 != 0) = false := by rw [hc]; rfl
    generalize leavesF 3 s root = LL at *
    generalize hcc : keyE key 0 = ce at *
    replace hcc := Lib.hid hcc
    generalize hct : checkT s root 3 0 = ct at *
    replace hct := Lib.hid hct
    clear hk hc hs hce hf hm3 hm hroot
    go_wp2_with fail
    refine hCR.mono ?_
    rintro e w2 ⟨rfl, hb2⟩
    have hbw2 := below_step hb0 hb2
    have p02 := (hb2.block _ l0).trans p0
    have p12 := (hb2.block _ l1).trans p1
    have c02 := cell_of_one p02
    have c12 := cell_of_block p12 0
    simp at c12
    have l02 := lt_heap p02
    have l12 := lt_heap p12
    clear hCR c0 c10 c11 l0 l1 p0 p1
    go_wp2_with fail
    refine (HLV.out w2 hb2).mono ?_
    rintro e w3 ⟨ro, rc, rfl, hR, hb3⟩
    have hbw3 := below_step hbw2 hb3
    have q1 := (hb3.block _ l12).trans p12
    clear c02 c12 l02 l12 p02 p12 hb2 hb3
    go_wp2
    go_loopw [38] (fun x wr => ∃ k : Nat, k ≤ 64 ∧ x = .int .i64 k ∧ Hid (filesBad key size LL k = false) ∧ Below w3.heap.size w3 wr) (fun x _ => 64 - (intOf x).toNat)
    case atStart => exact ⟨0, by omega, rfl, Lib.hid rfl, Below.refl _ _⟩
    case round =>
      obtain ⟨k, hk, rfl, HF, hbel⟩ := hrel
      have hbwr := below_step hbw3 hbel
      by_cases hlt : k < 64
      · have hkL : k < LL.length := by have := HLL.out; omega
        obtain ⟨bb, oo, rfl, ba, bc, xk, hrow, hnil⟩ := (hR.mono hbel).get k hkL
        have lk := World.block_lt_of_cell? _ _ xk
        have h4 := HL4.out _ (List.getElem_mem hkL)
        have hby := HBY.out _ (List.getElem_mem hkL)
        have hfs := filesBad_succ key size LL k
        rw [HF.out, Bool.false_or, List.getD_eq_getElem?_getD, List.getElem?_eq_getElem hkL, Option.getD_some] at hfs
        have HFA : Hid (leafBad key size k LL[k] = true → filesBad key size LL 64 = true) := Lib.hid fun h => by
          refine filesBad_at hlt ?_
          rw [List.getD_eq_getElem?_getD, List.getElem?_eq_getElem hkL, Option.getD_some]
          exact h
        have HFS := Lib.hid hfs
        have hkk := HKU.out k hlt
        have hk64 : (k : Int) < 64 := by omega
        clear hfs
        generalize LL[k] = xs at *
        by_cases hx : xs = []
        · obtain ⟨rfl, rfl⟩ := hnil hx
          have HN2 : Hid (filesBad key size LL (k + 1) = false) := Lib.hid (by rw [HFS.out, hx]; rfl)
          rw [hx, List.length_nil] at xk
          clear hx h4 hby hrow hnil
          go_wp2
          go_roundw
          case rel => exact ⟨k + 1, by omega, by go_num, HN2, hbel⟩
          case measure => simp [intOf]; omega
        · have hx4 := h4.resolve_left hx
          have hxa : ∃ a, ba = some a := by
            rcases hrow with e | ⟨b1, o1, e, -⟩
            · exact absurd e hx
            · exact ⟨_, e⟩
          obtain ⟨xa, rfl⟩ := hxa
          rw [hx4] at xk
          have hOp := ref_opened key k (some xa) bc xs wr hkk (by omega) hrow hby
          rw [hx4] at hOp
          have hyb : Byt (openL key k xs) := sealed_byt (-1) key k xs
          have hyl : (openL key k xs).length = 4 := (sealed_length _ _ _ _).trans hx4
          have HLB := Lib.hid (leafBad_count (key := key) (size := size) (i := k) hx4)
          have hop : sealed (-1) key k xs = openL key k xs := rfl
          rw [hop] at hOp
          clear hop hx h4 hrow hby hnil
          generalize openL key k xs = ys at *
          have HYL := Lib.hid hyl
          have HYB := Lib.hid hyb
          have HBN : Hid (behindN size k = min 4 (size - 4 * (k : Int)).toNat) := Lib.hid rfl
          have d1 := cell_of_block ((hbel.block _ (lt_heap q1)).trans q1) 1
          simp at d1
          go_wp2_with fail
          refine hOp.mono ?_
          rintro e w4 ⟨v4, rfl, ho4, hb4⟩
          obtain ⟨ay, cy, rfl, hry, hcy⟩ := own_cap ho4
          rw [HYL.out] at hcy ⊢
          have hbz := hbel.trans (hb4.mono hbel.size)
          have hbw4 := below_step hbwr hb4
          have q4 := (hbz.block _ (lt_heap q1)).trans q1
          clear d1 hyl hyb ho4
          have d1 := cell_of_block q4 1
          simp at d1
          have dl := lt_heap q4
          have hA : Below w4.heap.size w4 (w4.alloc (.cells #[.int .u8 0] 5)) := (Below.refl _ _).alloc (Nat.le_refl _) _
          have hA2 : (w4.alloc (.cells #[.int .u8 0] 5)).cell? ⟨w4.heap.size, 0, none⟩ = some (.int .u8 0) := cell_of_one (heap_alloc_new _ _)
          have hryA := hry.mono hA
          have HCN := Lib.hid (count_any (w4.alloc (.cells #[.int .u8 0] 5)) ay 4 cy 1 w4.heap.size ys HYL.out hryA HYB.out hA2)
          go_wp2_with fail
          have hmm : max 0 (min 4 (size - 4 * (k : Int))) = ((behindN size k : Nat) : Int) := by rw [HBN.out]; omega
          rw [hmm]
          have hq4 : behindN size k ≤ 4 := by rw [HBN.out]; omega
          generalize behindN size k = q at *
          generalize w4.alloc (Obj.cells #[Value.int .u8 0] 5) = W5 at *
          have hbz5 := hbz.trans (hA.mono hbz.size)
          have hbw5 := below_step hbw4 hA
          have q5 := (hA.block _ (lt_heap q4)).trans q4
          refine HCN.out.mono ?_
          rintro e w5 ⟨rfl, rfl⟩
          have hc4 := List.count_le_length (a := (0 : Int)) (l := ys)
          have HC4 : Hid (ys.count 0 ≤ 4) := Lib.hid (by rw [← HYL.out]; exact hc4)
          obtain ⟨cn, hcn⟩ : ∃ cn, ys.count 0 = cn := ⟨_, rfl⟩
          rw [hcn] at hc4 HC4 HLB ⊢
          have HCC := Lib.hid hcn
          clear hcn d1 dl hmm HCN hc4
          have HA := Lib.hid hA
          by_cases h4 : cn = 4
          · have HBAD := Lib.hid (HFA.out (by rw [HLB.out, decide_eq_true h4]; rfl))
            subst h4
            clear hA hA2 hry hryA hcy
            go_wp2
            go_ret
            exact ⟨by rw [HR.out, if_pos HBAD.out]; rfl, hbw5⟩
          · have h4b : ((cn : Int) == 4) = false := by rw [beq_eq_false_iff_ne]; omega
            have hq4i : (q : Int) ≤ 4 := by omega
            have hYN : Hid ((ys.drop q).length = 4 - q) := Lib.hid (by rw [List.length_drop, HYL.out])
            have hYB : Hid (Byt (ys.drop q)) := Lib.hid fun x hx => HYB.out x (List.mem_of_mem_drop hx)
            have hg : ∃ g o, ay = some ⟨g, o, none⟩ ∧ Row .u8 w5 (some ⟨g, o + q, none⟩) (ys.drop q) := by
              obtain ⟨g, o, e, hc⟩ := hryA.at 0 (by have := HYL.out; omega)
              refine ⟨g, o, e, .inr ⟨g, o + q, rfl, fun i hi => ?_⟩⟩
              rw [List.length_drop] at hi
              have := hc (q + i) (by omega)
              rw [Nat.add_assoc, this]
              simp
            obtain ⟨g, o, rfl, hrq⟩ := hg
            have hB6 : Below w5.heap.size w5 (w5.alloc (.cells #[.int .u8 0] 5)) := (Below.refl _ _).alloc (Nat.le_refl _) _
            have hB62 : (w5.alloc (.cells #[.int .u8 0] 5)).cell? ⟨w5.heap.size, 0, none⟩ = some (.int .u8 0) := cell_of_one (heap_alloc_new _ _)
            have HC6 : Hid (∀ (a : Option Addr) (c d : Nat), (q < 4 → a = some ⟨g, o + q, none⟩) → Calls Try.prog 70 #[.slice a (4 - q) c, .slice (some ⟨w5.heap.size, 0, none⟩) 1 d] (w5.alloc (.cells #[.int .u8 0] 5)) fun e w' => e = .returned (.int .i64 (((ys.drop q).count 0 : Nat) : Int)) ∧ w' = w5.alloc (.cells #[.int .u8 0] 5)) := Lib.hid fun a c d ha => by
              refine count_any _ a (4 - q) c d w5.heap.size (ys.drop q) hYN.out ?_ hYB.out hB62
              by_cases h : q < 4
              · rw [ha h]; exact hrq.mono hB6
              · exact .inl (List.eq_nil_of_length_eq_zero (by rw [hYN.out]; omega))
            have hbz6 := hbz5.trans (hB6.mono hbz5.size)
            have hbw6 := below_step hbw5 hB6
            have hdc := List.count_le_length (a := (0 : Int)) (l := ys.drop q)
            rw [hYN.out] at hdc
            obtain ⟨dn, hdn⟩ : ∃ dn, (ys.drop q).count 0 = dn := ⟨_, rfl⟩
            rw [hdn] at hdc HC6 HLB
            have hlb : leafBad key size k xs = decide (dn ≠ 4 - q) := by rw [HLB.out, decide_eq_false h4, Bool.false_or]
            have HLB2 := Lib.hid hlb
            have HB6 := Lib.hid hB6
            clear hdn hA2 hry hryA hrq hB62 hB6 hlb HLB
            have hcy4 : 4 ≤ cy := hcy.1
            clear hcy
            by_cases hq : q < 4
            · have hcq : ¬ cy = q := by omega
              go_wp2_with fail
              refine (HC6.out _ _ _ (fun _ => rfl)).mono ?_
              rintro e w7 ⟨rfl, rfl⟩
              by_cases hd : dn = 4 - q
              · have hd2 : ((dn : Int) != 4 - (q : Int)) = false := by rw [bne_eq_false_iff_eq]; omega
                have HN4 : Hid (filesBad key size LL (k + 1) = false) := Lib.hid (by rw [HFS.out, HLB2.out, hd]; simp)
                clear hd hdc
                go_wp2
                go_roundw
                case rel => exact ⟨k + 1, by omega, by go_num, HN4, hbz6⟩
                case measure => simp [intOf]; omega
              · have hd2 : ((dn : Int) != 4 - (q : Int)) = true := by rw [bne_iff_ne]; omega
                have HBAD := Lib.hid (HFA.out (by rw [HLB2.out]; exact decide_eq_true hd))
                clear hd hdc
                go_wp2
                go_ret
                exact ⟨by rw [HR.out, if_pos HBAD.out]; rfl, hbw6⟩
            · obtain rfl : q = 4 := by omega
              obtain rfl : dn = 0 := by omega
              have HN4 : Hid (filesBad key size LL (k + 1) = false) := Lib.hid (by rw [HFS.out, HLB2.out]; rfl)
              clear hdc
              by_cases hcq : cy = 4
              · subst hcq
                go_wp2_with fail
                refine (HC6.out _ _ _ (fun h => absurd h (Nat.lt_irrefl 4))).mono ?_
                rintro e w7 ⟨rfl, rfl⟩
                go_wp2
                go_roundw
                case rel => exact ⟨k + 1, by omega, by go_num, HN4, hbz6⟩
                case measure => simp [intOf]; omega
              · go_wp2_with fail
                refine (HC6.out _ _ _ (fun h => absurd h (Nat.lt_irrefl 4))).mono ?_
                rintro e w7 ⟨rfl, rfl⟩
                go_wp2
                go_roundw
                case rel => exact ⟨k + 1, by omega, by go_num, HN4, hbz6⟩
                case measure => simp [intOf]; omega
      · obtain rfl : k = 64 := by omega
        have HBAD := Lib.hid (show ¬ filesBad key size LL 64 = true by rw [HF.out]; simp)
        clear hR hbel
        go_wp2
        go_ret
        exact ⟨by rw [HR.out, if_neg HBAD.out]; rfl, hbwr⟩
end Go.Proofs.Ytodogcokljmkmaa
