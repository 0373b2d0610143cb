/- file.Check: a file is checked. · file.bytes: the bytes of a right file. -/
import Derived.Laws.CopyOwn
import Derived.Test.YtfmgdjgedhnmeaaTurnF
import Derived.Test.YtfmgdjgedhnmeaaAll
namespace Go.Proofs.Ytfmgdjgedhnmeaa
open Go.RowKit
set_option linter.unusedVariables false

set_option maxRecDepth 100000 in
set_option maxHeartbeats 1000000 in
theorem max_byte (w : World) (ao : Option Addr) (n cap : Nat) (xs : List Int) (hn : xs.length = n) (h1 : 1 ≤ n) (h63 : n ≤ 1000) (hr : Row .u8 w ao xs) (hx : ∀ x ∈ xs, 0 ≤ x ∧ x ≤ 255) :
    Calls Try.prog 79 #[.slice ao n cap] w fun e w' => ∃ r : Int, e = .returned (.int .u8 r) ∧ (r = 0 ↔ ∀ x ∈ xs, x = 0) ∧ w' = w := by
  have HN := Lib.hid hn
  have h0s : 0 < xs.length := by omega
  obtain ⟨b, o, rfl, hq⟩ := hr.at 0 h0s
  have hc0 := hq 0 h0s
  rw [Nat.add_zero] at hc0
  have lb := World.block_lt_of_cell? _ _ hc0
  have hx0 := hx _ (List.getElem_mem h0s)
  have HT1 : Hid (xs.take 1 = [xs[0]]) := Lib.hid (by rw [List.take_succ_eq_append_getElem h0s]; rfl)
  have hn1 : ¬ ((n : Int) < 1) := by omega
  have hn2 : (0 : Int) < n := by omega
  clear hn
  generalize xs[0] = y0 at *
  go_enter Try.func79, Try.ntmps79
  go_wp2
  go_loop [3, 4] (fun u i => ∃ (k : Nat) (v : Int), 1 ≤ k ∧ k ≤ n ∧ i = .int .i64 k ∧ u = .int .u8 v ∧ 0 ≤ v ∧ v ≤ 255 ∧ Hid (v = 0 ↔ ∀ x ∈ xs.take k, x = 0)) (fun _ i => n - (intOf i).toNat)
  case atStart => exact ⟨1, y0, by omega, by omega, rfl, rfl, hx0.1, hx0.2, Lib.hid (by rw [HT1.out]; simp)⟩
  case round =>
    obtain ⟨k, v, hk1, hkn, rfl, rfl, hv0, hv1, HV⟩ := hrel
    by_cases hlt : k < n
    · have hks : k < xs.length := by have := HN.out; omega
      have hck := hq k hks
      have hxk := hx _ (List.getElem_mem hks)
      have hts := List.take_succ_eq_append_getElem hks
      have HTS := Lib.hid hts
      have hkn2 : (k : Int) < n := by omega
      clear hts hc0
      generalize xs[k] = y at *
      have HM : Hid ((if v < y then y else v) = 0 ↔ ∀ x ∈ xs.take (k + 1), x = 0) := Lib.hid (by
        rw [HTS.out]
        simp only [List.mem_append, List.mem_singleton]
        constructor
        · intro h x hxx
          rcases hxx with e | e
          · exact HV.out.1 (by split at h <;> omega) x e
          · rw [e]; split at h <;> omega
        · intro h
          have e1 := HV.out.2 fun x hxx => h x (.inl hxx)
          have e2 := h y (.inr rfl)
          split <;> omega)
      have hb2 : 0 ≤ (if v < y then y else v) ∧ (if v < y then y else v) ≤ 255 := by split <;> omega
      clear hq
      go_wp2
      go_round
      case rel => exact ⟨k + 1, _, by omega, by omega, by go_num, rfl, hb2.1, hb2.2, HM⟩
      case measure => simp [intOf]; omega
    · obtain rfl : k = n := by omega
      have HE := Lib.hid (show v = 0 ↔ ∀ x ∈ xs, x = 0 by
        have := HV.out
        rwa [List.take_of_length_le (by have := HN.out; omega)] at this)
      go_wp2
      go_ret
      exact ⟨_, rfl, HE.out, rfl⟩

theorem rows2_get {w : World} {ao : Option Addr} {L : List (List Int)} (h : Rows2 w ao L) (i : Nat) (hi : i < L.length) : ∃ b o, ao = some ⟨b, o, none⟩ ∧ ∃ ba bc, w.cell? ⟨b, o + i, none⟩ = some (.slice ba L[i].length bc) ∧ Row .u8 w ba L[i] := by
  obtain ⟨b, o, rfl, hc⟩ := h.resolve_left (fun e => by rw [e] at hi; simp at hi)
  obtain ⟨u, x, ba, bc, rfl, hr, -⟩ := hc i hi
  exact ⟨b, o, rfl, ba, bc, x, hr⟩

theorem keyE_up {key : Int} (h : keyE key 0 = 0) {i : Nat} (hi : i < 64) : keyE key (i : Int) = 0 := by
  unfold keyE at h ⊢
  split at h
  · omega
  · rw [if_neg (by omega)]

set_option maxRecDepth 100000 in
set_option maxHeartbeats 8000000 in
theorem fileCheck_any (w : World) (ao : Option Addr) (n cap : Nat) (s : List Blk) (key root size : Int) (hn : s.length = n) (hn63 : n ≤ 1152921504606846976) (hs : StoRow w ao s) (hwf : WfS s) (hz : I64 size) :
    Calls Try.prog 35 #[.agg #[.slice ao n cap], .int .i64 key, .agg #[.int .i64 root, .int .i64 size]] w fun e w' => e = .returned (.int .i64 (fileE s key root size)) ∧ Below w.heap.size w w' := by
  have HN := Lib.hid hn
  have hb0 : Below w.heap.size w ((w.alloc (.cells #[.slice ao n cap] 24)).alloc (.cells #[.int .i64 root, .int .i64 size] 35)) := ((Below.refl _ _).alloc (Nat.le_refl _) _).alloc (by simp) _
  have p0 : ((w.alloc (.cells #[.slice ao n cap] 24)).alloc (.cells #[.int .i64 root, .int .i64 size] 35)).heap[w.heap.size]? = some (.cells #[.slice ao n cap] 24 (0, 0)) := heap_alloc2_old _ _ _
  have p1 : ((w.alloc (.cells #[.slice ao n cap] 24)).alloc (.cells #[.int .i64 root, .int .i64 size] 35)).heap[w.heap.size + 1]? = some (.cells #[.int .i64 root, .int .i64 size] 35 (0, 0)) := heap_alloc2_new _ _ _
  clear hn
  go_enter Try.func35, Try.ntmps35
  go_wp2_with fail
  have hs := hs.mono hb0
  generalize (w.alloc (Obj.cells #[Value.slice ao n cap] 24)).alloc (Obj.cells #[Value.int .i64 root, Value.int .i64 size] 35) = W0 at *
  refine (seal_check key 0 W0).mono ?_
  rintro e w1 ⟨rfl, rfl⟩
  have c0 := cell_of_one p0
  have c10 := cell_of_block p1 0
  have c11 := cell_of_block p1 1
  simp at c10 c11
  have l0 := lt_heap p0
  have l1 := lt_heap p1
  by_cases hk : keyE key 0 = 0
  rotate_left
  · have HR := Lib.hid (show fileE s key root size = keyE key 0 by unfold fileE; rw [if_pos hk])
    have he1 : (keyE key 0 != 0) = true := by rw [bne_iff_ne]; exact hk
    generalize hcc : keyE key 0 = ce at *
    replace hcc := Lib.hid hcc
    clear hk hs
    go_wp2
    go_ret
    exact ⟨by rw [HR.out]; rfl, hb0⟩
  have he1 : (keyE key 0 != 0) = false := by rw [hk]; rfl
  by_cases hsz : size < 0 ∨ 256 < size
  · have HR := Lib.hid (show fileE s key root size = 3 by unfold fileE; rw [if_neg (by simp [hk]), if_pos hsz])
    generalize hcc : keyE key 0 = ce at *
    replace hcc := Lib.hid hcc
    clear hk hs
    rcases hsz with h | h
    · go_wp2
      go_ret
      exact ⟨by rw [HR.out]; rfl, hb0⟩
    · have h' : ¬ size < 0 := by omega
      go_wp2
      go_ret
      exact ⟨by rw [HR.out]; rfl, hb0⟩
  have hs0 : ¬ size < 0 := by omega
  have hs1 : ¬ 256 < size := by omega
  have HKU := Lib.hid (fun (i : Nat) (hi : i < 64) => keyE_up hk hi)
  have hAl := all_any W0 ao n cap s root 3 HN.out hn63 hs hwf
  clear hsz
  by_cases hc : checkT s root 3 0 = 0
  rotate_left
  · have HR := Lib.hid (show fileE s key root size = checkT s root 3 0 by unfold fileE; rw [if_neg (by simp [hk]), if_neg (by omega), if_pos hc])
    have HA : allR s root 3 = ([], checkT s root 3 0) := by unfold allR; rw [if_pos hc]
    rw [HA] at hAl
    have he2 : (checkT s root 3 0 != 0) = true := by rw [bne_iff_ne]; exact hc
    generalize checkT s root 3 0 = ct at *
    generalize hcc : keyE key 0 = ce at *
    replace hcc := Lib.hid hcc
    clear hk hc HA hs
    go_wp2_with fail
    refine hAl.mono ?_
    rintro e w2 ⟨v2, vs2, rfl, ho2, hw2, hb2⟩
    have hl2 : vs2.length = 0 := hw2.len
    rw [hl2] at ho2
    obtain ⟨a2, c2, rfl, -⟩ := rows2_of ho2 hl2 hw2
    have hbw2 := below_step hb0 hb2
    clear ho2 hw2 hl2 hAl
    go_wp2
    go_ret
    exact ⟨by rw [HR.out]; rfl, hbw2⟩
  · obtain ⟨hce, m, hm3, hm, hroot, -, -⟩ := checkT_ok hc
    obtain rfl : m = 3 := by omega
    have hf := (checkE_zero s hce).2.1
    have HR : Hid (fileE s key root size = if filesBad key size (leavesF 3 s root) 64 = true then 4 else 0) := Lib.hid (by unfold fileE; rw [if_neg (by simp [hk]), if_neg (by omega), if_neg (by simp [hc])])
    have HA : allR s root 3 = (leavesF 3 s root, 0) := by unfold allR; rw [if_neg (by simp [hc])]; rfl
    rw [HA] at hAl
    have HLL : Hid ((leavesF 3 s root).length = 64) := Lib.hid (leavesF_len 3 s root)
    have HL4 := Lib.hid (leaf_four hf (by omega) hroot)
    have HBY := Lib.hid (leavesF_byt hwf 3 root)
    generalize leavesF 3 s root = LL at *
    generalize hcc : keyE key 0 = ce at *
    replace hcc := Lib.hid hcc
    clear hk hc HA hs hce hf hm3 hm hroot
    go_wp2_with fail
    refine hAl.mono ?_
    rintro e w2 ⟨v2, vs2, rfl, ho2, hw2, hb2⟩
    have hl2 : vs2.length = 64 := hw2.len.trans HLL.out
    rw [hl2] at ho2
    obtain ⟨a2, c2, rfl, hr2⟩ := rows2_of ho2 hl2 hw2
    have hbw2 := below_step hb0 hb2
    have q1 := (hb2.block _ l1).trans p1
    clear ho2 hw2 hl2 hAl c0 c10 c11 l0 l1 p0
    go_wp2
    go_loopw [39] (fun x wr => ∃ k : Nat, k ≤ 64 ∧ x = .int .i64 k ∧ Hid (filesBad key size LL k = false) ∧ Below w2.heap.size w2 wr) (fun x _ => 64 - (intOf x).toNat)
    case atStart => exact ⟨0, by omega, rfl, Lib.hid rfl, Below.refl _ _⟩
    case round =>
      obtain ⟨k, hk, rfl, HF, hbel⟩ := hrel
      have hbwr := below_step hbw2 hbel
      by_cases hlt : k < 64
      · have hkL : k < LL.length := by have := HLL.out; omega
        obtain ⟨bb, oo, rfl, ba, bc, xk, hrow⟩ := rows2_get (hr2.mono hbel) k hkL
        have lk := World.block_lt_of_cell? _ _ xk
        have h4 := HL4.out _ (List.getElem_mem hkL)
        have hby := HBY.out _ (List.getElem_mem hkL)
        have hfs := filesBad_succ key size LL k
        rw [HF.out, Bool.false_or, List.getD_eq_getElem?_getD, List.getElem?_eq_getElem hkL, Option.getD_some] at hfs
        have HFA : Hid (leafBad key size k LL[k] = true → filesBad key size LL 64 = true) := Lib.hid fun h => by
          refine filesBad_at hlt ?_
          rw [List.getD_eq_getElem?_getD, List.getElem?_eq_getElem hkL, Option.getD_some]
          exact h
        have HFS := Lib.hid hfs
        have hkk := HKU.out k hlt
        have hk64 : (k : Int) < 64 := by omega
        clear hfs
        generalize LL[k] = xs at *
        by_cases hx : xs = []
        · have HN2 : Hid (filesBad key size LL (k + 1) = false) := Lib.hid (by rw [HFS.out, hx]; rfl)
          rw [hx, List.length_nil] at xk
          clear hx h4 hby hrow
          go_wp2
          go_roundw
          case rel => exact ⟨k + 1, by omega, by go_num, HN2, hbel⟩
          case measure => simp [intOf]; omega
        · have hx4 := h4.resolve_left hx
          rw [hx4] at xk
          have hOp := open_ok key k ba bc xs wr hkk (by omega) hrow hby
          rw [hx4] at hOp
          have hyb := sealed_byt (-1) key k xs
          have hyl : (openL key k xs).length = 4 := (sealed_length _ _ _ _).trans hx4
          have HLB : Hid (leafBad key size k xs = (zeroB (openL key k xs) || behindB size k (openL key k xs) 4)) := Lib.hid (by unfold leafBad; rw [hx4, decide_eq_true hx, Bool.true_and])
          have hop : sealed (-1) key k xs = openL key k xs := rfl
          rw [hop] at hOp hyb
          clear hop hx h4 hrow hby
          generalize openL key k xs = ys at *
          have HYL := Lib.hid hyl
          have HYB := Lib.hid hyb
          go_wp2_with fail
          refine hOp.mono ?_
          rintro e w4 ⟨ay, cy, hcy, rfl, hry, hb4⟩
          have hbz := hbel.trans (hb4.mono hbel.size)
          have hbw4 := below_step hbwr hb4
          have q4 := (hbz.block _ (lt_heap q1)).trans q1
          have d1 := cell_of_block q4 1
          simp at d1
          have dl := lt_heap q4
          clear hOp hyl hyb hkk xk lk hb4
          go_wp2_with fail
          refine (max_byte _ _ 4 cy ys HYL.out (by omega) (by omega) hry (fun x hx => by have := HYB.out x hx; omega)).mono ?_
          rintro e w5 ⟨r, rfl, hr0, rfl⟩
          by_cases hz : ∀ x ∈ ys, x = 0
          · obtain rfl : r = 0 := hr0.2 hz
            have HBAD := Lib.hid (HFA.out (by rw [HLB.out, (zeroB_iff ys).2 hz]; rfl))
            clear hz hr0 d1 dl
            go_wp2
            go_ret
            exact ⟨by rw [HR.out, if_pos HBAD.out]; rfl, hbw4⟩
          · have hr1 : (r == 0) = false := by rw [beq_eq_false_iff_ne]; exact fun e => hz (hr0.1 e)
            have HZ : Hid (zeroB ys = false) := Lib.hid (by rw [Bool.eq_false_iff]; exact fun h => hz ((zeroB_iff ys).1 h))
            clear hz hr0
            generalize w5 = W5 at *
            go_wp2
            go_loop [59] (fun x => ∃ q : Nat, q ≤ 4 ∧ x = .int .i64 q ∧ Hid (behindB size k ys q = false)) (fun x => 4 - (intOf x).toNat)
            case atStart => exact ⟨0, by omega, rfl, Lib.hid rfl⟩
            case round =>
              obtain ⟨q, hq, rfl, HB⟩ := hrel
              by_cases hq4 : q < 4
              · have hqy : q < ys.length := by have := HYL.out; omega
                obtain ⟨by1, oy, rfl, hyc⟩ := hry.at q hqy
                have xq := hyc q hqy
                have lq := World.block_lt_of_cell? _ _ xq
                have hbs := behindB_succ size k ys q
                rw [HB.out, Bool.false_or, List.getD_eq_getElem?_getD, List.getElem?_eq_getElem hqy, Option.getD_some] at hbs
                have HBA : Hid (size ≤ (k : Int) * 4 + q → ys[q] ≠ 0 → behindB size k ys 4 = true) := Lib.hid fun h1 h2 => by
                  refine behindB_at hq4 h1 ?_
                  rw [List.getD_eq_getElem?_getD, List.getElem?_eq_getElem hqy, Option.getD_some]
                  exact h2
                have HBS := Lib.hid hbs
                have hyq := HYB.out _ (List.getElem_mem hqy)
                have hq4i : (q : Int) < 4 := by omega
                clear hbs hyc
                generalize ys[q] = y at *
                by_cases h1 : size ≤ (k : Int) * 4 + q
                · by_cases h2 : y = 0
                  · have h2' : (y != 0) = false := by rw [h2]; rfl
                    have HN3 : Hid (behindB size k ys (q + 1) = false) := Lib.hid (by rw [HBS.out, h2]; simp)
                    clear h2
                    go_wp2
                    go_round
                    case rel => exact ⟨q + 1, by omega, by go_num, HN3⟩
                    case measure => simp [intOf]; omega
                  · have h2' : (y != 0) = true := by rw [bne_iff_ne]; exact h2
                    have HBAD := Lib.hid (HFA.out (by rw [HLB.out, HBA.out h1 h2, Bool.or_true]))
                    clear h2
                    go_wp2
                    go_ret
                    exact ⟨by rw [HR.out, if_pos HBAD.out]; rfl, hbw4⟩
                · have HN3 : Hid (behindB size k ys (q + 1) = false) := Lib.hid (by rw [HBS.out, decide_eq_false h1, Bool.false_and])
                  go_wp2
                  go_round
                  case rel => exact ⟨q + 1, by omega, by go_num, HN3⟩
                  case measure => simp [intOf]; omega
              · obtain rfl : q = 4 := by omega
                have HN4 : Hid (filesBad key size LL (k + 1) = false) := Lib.hid (by rw [HFS.out, HLB.out, HZ.out, HB.out]; rfl)
                go_wp2
                go_roundw
                case rel => exact ⟨k + 1, by omega, by go_num, HN4, hbz⟩
                case measure => simp [intOf]; omega
      · obtain rfl : k = 64 := by omega
        go_wp2
        go_ret
        exact ⟨by rw [HR.out, if_neg (by rw [HF.out]; simp)]; rfl, hbwr⟩
end Go.Proofs.Ytfmgdjgedhnmeaa

namespace Go.Proofs.Ytfmgdjgedhnmeaa
open Go.RowKit
set_option linter.unusedVariables false

/-- copy into a row: what else there is stays -/
theorem copy_grown {P : Program} {w : World} {ops : Array Oper} {rest : List Oper} {o : Oper} {a : Act} {Q : Exit → Act → World → Prop} (hgd : o.guard = none) (d s : Operand) (dT sT : TypeId)
    (ho : o.op = .call { callee := .builtin .copy, args := #[d, s], argTypes := #[dT, sT] }) (elem : TypeId) (hu : P.underlying dT = some (.slice elem)) (hsz : (P.info? elem).map (·.size) = some 1)
    (dp sp : Option Addr) (dLen dCap sLen sCap : Nat) (hd : a.eval d = .slice dp dLen dCap) (hs : a.eval s = .slice sp sLen sCap)
    (g off : Nat) (cur : List Value) (t : TypeId) (hg : w.heap[g]? = some (.cells cur.toArray t (0, 0))) (cs : List Value) (hn : cs.length = Nat.min sLen dLen)
    (hpos : 0 < cs.length → dp = some ⟨g, off, none⟩ ∧ ∃ ad, sp = some ad ∧ ∀ j v, cs[j]? = some v → w.cell? (ad.add j) = some v)
    (hfit : off + cs.length ≤ cur.length) (h1 : ∀ v ∈ cs, v.oneCell' = true)
    (h : ∀ w', Hid (w'.heap[g]? = some (.cells (splice cur off cs).toArray t (0, 0))) → w.grownBy w' (some g) → wpList P ops Q rest (a.put o.dst (goInt cs.length)) w') :
    wpList P ops Q (o :: rest) a w := by
  by_cases h0 : cs.length = 0
  · obtain rfl : cs = [] := List.eq_nil_of_length_eq_zero h0
    refine wpList_copy_nothing hgd d s dT sT ho elem hu hsz dp sp dLen dCap sLen sCap hd hs (by simpa using hn.symm) ?_
    exact h w (Lib.hid (by simpa [splice] using hg)) (grown_of_below (Below.refl _ _) _)
  · obtain ⟨rfl, ad, rfl, hsrc⟩ := hpos (by omega)
    refine wpList_copy_own hgd d s dT sT ho elem hu hsz g off dLen dCap ad sLen sCap hd hs cur.toArray t hg cs hn hsrc (by simpa using hfit) h1 ?_
    exact h _ (Lib.hid (by simpa [splice] using setRow_heap w g _ _ t _ hg)) ⟨rfl, rfl, rfl, by simp [World.setRow], fun k hk hne => setRow_other w g k _ (by intro e; subst e; exact hne rfl)⟩

/-- the buffer, as far as it is filled -/
def bufTo (key : Int) (L : List (List Int)) (k : Nat) : List Int := bytesTo key L k ++ zeros (256 - 4 * k)
theorem splice_append {α : Type} (a b c d : List α) (h : b.length = d.length) : splice (a ++ b ++ c) a.length d = a ++ d ++ c := by
  unfold splice
  simp [List.drop_append, h]

theorem bufTo_step {key : Int} {L : List (List Int)} (h4 : ∀ x ∈ L, x = [] ∨ x.length = 4) (k : Nat) (hk : k < 64) (ys : List Int) (hy : ys = [] ∧ L.getD k [] = [] ∨ ys.length = 4 ∧ L.getD k [] ≠ [] ∧ ys = openL key k (L.getD k [])) :
    splice ((bufTo key L k).map (Value.int .u8)) (k * 4) (ys.map (Value.int .u8)) = (bufTo key L (k + 1)).map (Value.int .u8) := by
  have hl := bytesTo_len (key := key) h4 k
  have hz : zeros (256 - 4 * k) = [0, 0, 0, 0] ++ zeros (256 - 4 * (k + 1)) := by
    rw [show 256 - 4 * k = 4 + (256 - 4 * (k + 1)) from by omega]
    unfold zeros
    rw [← List.replicate_append_replicate]
    rfl
  unfold bufTo
  rw [bytesTo_succ, hz]
  rcases hy with ⟨rfl, h2⟩ | ⟨h1, h2, h3⟩
  · rw [h2]
    have : leafBytes key k [] = [0, 0, 0, 0] := by unfold leafBytes; rw [if_pos rfl]
    rw [this, List.append_assoc]
    unfold splice
    simp
  · have : leafBytes key k (L.getD k []) = ys := by unfold leafBytes; rw [if_neg h2, h3]
    rw [this]
    have e := splice_append ((bytesTo key L k).map (Value.int .u8)) ([0, 0, 0, 0].map (Value.int .u8)) ((zeros (256 - 4 * (k + 1))).map (Value.int .u8)) (ys.map (Value.int .u8)) (by simp [h1])
    rw [List.length_map, hl, show 4 * k = k * 4 from by omega] at e
    simpa [List.map_append, List.append_assoc] using e

theorem bufTo_len {key : Int} {L : List (List Int)} (h4 : ∀ x ∈ L, x = [] ∨ x.length = 4) (k : Nat) (hk : k ≤ 64) : (bufTo key L k).length = 256 := by
  unfold bufTo
  rw [List.length_append, bytesTo_len h4]
  simp [zeros]
  omega
theorem bufTo_all {key : Int} {L : List (List Int)} (h4 : ∀ x ∈ L, x = [] ∨ x.length = 4) : bufTo key L 64 = bytesTo key L 64 := by
  unfold bufTo
  have : zeros (256 - 4 * 64) = [] := rfl
  rw [this, List.append_nil]
theorem row_src {w : World} {k : IntKind} {ao : Option Addr} {ys : List Int} (h : Row k w ao ys) (h0 : 0 < ys.length) : ∃ ad, ao = some ad ∧ ∀ j v, (ys.map (Value.int k))[j]? = some v → w.cell? (ad.add j) = some v := by
  obtain ⟨b, o, rfl, hc⟩ := h.at 0 h0
  refine ⟨_, rfl, fun j v hv => ?_⟩
  rw [List.getElem?_map] at hv
  rcases Nat.lt_or_ge j ys.length with hj | hj
  · rw [List.getElem?_eq_getElem hj] at hv
    simp only [Option.map_some, Option.some.injEq] at hv
    subst hv
    have := hc j hj
    unfold Addr.add
    split
    · rename_i hj0
      subst hj0
      exact this
    · exact this
  · rw [List.getElem?_eq_none hj] at hv
    cases hv
theorem ints_one (k : IntKind) (ys : List Int) : ∀ v ∈ ys.map (Value.int k), v.oneCell' = true := by
  intro v hv
  obtain ⟨x, _, rfl⟩ := List.mem_map.1 hv
  rfl
theorem row_part {w : World} {g : Nat} {t : TypeId} {xs : List Int} (h : w.heap[g]? = some (.cells (icells .u8 xs) t (0, 0))) (n : Nat) : Row .u8 w (some ⟨g, 0, none⟩) (xs.take n) := by
  refine .inr ⟨g, 0, rfl, fun i hi => ?_⟩
  have hi2 : i < xs.length := by rw [List.length_take] at hi; omega
  rw [Nat.zero_add, cell_of_block h, icells_at _ _ _ hi2]
  simp

set_option maxRecDepth 100000 in
set_option maxHeartbeats 8000000 in
theorem fileBytes_any (w : World) (ao : Option Addr) (n cap : Nat) (s : List Blk) (key root size : Int) (hn : s.length = n) (hn63 : n ≤ 1152921504606846976) (hs : StoRow w ao s) (hwf : WfS s) (hok : fileE s key root size = 0) :
    Calls Try.prog 36 #[.agg #[.slice ao n cap], .int .i64 key, .agg #[.int .i64 root, .int .i64 size]] w fun e w' => ∃ g c, e = .returned (.slice (some ⟨g, 0, none⟩) size.toNat c) ∧ size.toNat ≤ c ∧ w.heap.size ≤ g ∧ g < w'.heap.size ∧ Row .u8 w' (some ⟨g, 0, none⟩) (fileB s key root size) ∧ Below w.heap.size w w' := by
  obtain ⟨hk, hs0, hs1, hc, -⟩ := fileE_ok hok
  obtain ⟨z, rfl⟩ : ∃ z : Nat, size = z := ⟨size.toNat, by omega⟩
  have HN := Lib.hid hn
  obtain ⟨hce, m, hm3, hm, hroot, -, -⟩ := checkT_ok hc
  obtain rfl : m = 3 := by omega
  have hf := (checkE_zero s hce).2.1
  have HKU := Lib.hid (fun (i : Nat) (hi : i < 64) => keyE_up hk hi)
  have HLL : Hid ((leavesF 3 s root).length = 64) := Lib.hid (leavesF_len 3 s root)
  have HL4 := Lib.hid (leaf_four hf (by omega) hroot)
  have HBY := Lib.hid (leavesF_byt hwf 3 root)
  have HA : Hid (allR s root 3 = (leavesF 3 s root, 0)) := Lib.hid (by unfold allR; rw [if_neg (by simp [hc])]; rfl)
  have HFB : Hid (fileB s key root z = (bufTo key (leavesF 3 s root) 64).take z) := Lib.hid (by rw [bufTo_all (leaf_four hf (by omega) hroot)]; rfl)
  have hb0 : Below w.heap.size w ((w.alloc (.cells #[.slice ao n cap] 24)).alloc (.cells #[.int .i64 root, .int .i64 z] 35)) := ((Below.refl _ _).alloc (Nat.le_refl _) _).alloc (by simp) _
  have p0 : ((w.alloc (.cells #[.slice ao n cap] 24)).alloc (.cells #[.int .i64 root, .int .i64 z] 35)).heap[w.heap.size]? = some (.cells #[.slice ao n cap] 24 (0, 0)) := heap_alloc2_old _ _ _
  have p1 : ((w.alloc (.cells #[.slice ao n cap] 24)).alloc (.cells #[.int .i64 root, .int .i64 z] 35)).heap[w.heap.size + 1]? = some (.cells #[.int .i64 root, .int .i64 z] 35 (0, 0)) := heap_alloc2_new _ _ _
  clear hn hok hk hc hce hf hm3 hm hroot
  generalize leavesF 3 s root = LL at *
  generalize fileB s key root z = FB at *
  go_enter Try.func36, Try.ntmps36
  have hmk : ∀ u : World, (Instr.makeSlice 38 (.int .i64 256) (.int .i64 256)).run Try.prog u = .ok (.slice (some ⟨u.heap.size, 0, none⟩) 256 256) (u.alloc (.cells (icells .u8 (zeros 256)) 5)) := fun u =>
    make_ints (P := Try.prog) .u8 38 5 1 Try.underlying38 info_u8 256 (by omega) (by omega) u
  have hs := hs.mono hb0
  generalize hW : (w.alloc (.cells #[.slice ao n cap] 24)).alloc (.cells #[.int .i64 root, .int .i64 z] 35) = W0 at *
  have hA : Below W0.heap.size W0 (W0.alloc (.cells (icells .u8 (zeros 256)) 5)) := (Below.refl _ _).alloc (Nat.le_refl _) _
  have pb : (W0.alloc (.cells (icells .u8 (zeros 256)) 5)).heap[W0.heap.size]? = some (.cells (icells .u8 (zeros 256)) 5 (0, 0)) := heap_alloc_new _ _
  have q0 := (hA.block _ (lt_heap p0)).trans p0
  have q1 := (hA.block _ (lt_heap p1)).trans p1
  have c0 := cell_of_one q0
  have c10 := cell_of_block q1 0
  have c11 := cell_of_block q1 1
  simp at c10 c11
  have l0 := lt_heap q0
  have l1 := lt_heap q1
  have hs1 := hs.mono hA
  have hbw1 := below_step hb0 hA
  have hszW := hb0.size
  have hszk := lt_heap p1
  go_wp2_with fail
  clear hW hmk
  generalize W0.heap.size = kb at *
  generalize W0.alloc (Obj.cells (icells .u8 (zeros 256)) 5) = W1 at *
  have hAl := all_new W1 ao n cap s root 3 HN.out hn63 hs1 hwf
  rw [HA.out] at hAl
  refine hAl.mono ?_
  rintro e w2 ⟨v2, vs2, rfl, ho2, hw2, hb2⟩
  have hl2 : vs2.length = 64 := hw2.len.trans HLL.out
  rw [hl2] at ho2
  obtain ⟨bo2, c2, rfl, hg2, hl2'⟩ := ho2.form (by omega)
  have hcs := ho2.cells (g := bo2) rfl
  have HCS : Hid (∀ k (h : k < vs2.length), w2.cell? ⟨bo2, k, none⟩ = some vs2[k]) := Lib.hid fun k h => by
    have := hcs k vs2[k] (by rw [List.getElem?_eq_getElem h])
    have e : (⟨bo2, 0, none⟩ : Addr).add k = ⟨bo2, k, none⟩ := by unfold Addr.add; split <;> simp_all
    rw [e] at this
    exact this
  have hbw2 := below_step hbw1 hb2
  have pb2 := (hb2.block _ (lt_heap pb)).trans pb
  have r1 := (hb2.block _ (lt_heap q1)).trans q1
  have hlk := lt_heap pb
  have HLX := Lib.hid hw2
  have HVL := Lib.hid hl2
  clear hAl ho2 hw2 hl2 hcs c0 c10 c11 l0 l1 q0 p0 p1 hs hs1 hA pb
  have hszI : (Try.prog.info? 5).map (·.size) = some 1 := by kernel_rfl
  have hkb2 : kb < w2.heap.size := lt_heap pb2
  go_wp2
  go_loopw [22] (fun x wr => ∃ k : Nat, k ≤ 64 ∧ x = .int .i64 k ∧ w2.grownBy wr (some kb) ∧ wr.heap[kb]? = some (.cells (icells .u8 (bufTo key LL k)) 5 (0, 0))) (fun x _ => 64 - (intOf x).toNat)
  case atStart => exact ⟨0, by omega, rfl, grown_of_below (Below.refl _ _) _, pb2⟩
  case round =>
    obtain ⟨k, hk, rfl, hgr, hbuf⟩ := hrel
    by_cases hlt : k < 64
    · have hkL : k < LL.length := by have := HLL.out; omega
      have hkv : k < vs2.length := by have := HVL.out; omega
      have hsx := (HLX.out.each k hkv hkL kb (by omega)).keep (w' := wr) fun b hb hl => hgr.block b hl (by simpa using hb)
      have hck : wr.cell? ⟨bo2, k, none⟩ = some vs2[k] := (World.cell?_of_block (a := ⟨bo2, k, none⟩) (w := w2) (hgr.block bo2 hl2' (by simp; omega))).trans (HCS.out k hkv)
      have h4 := HL4.out _ (List.getElem_mem hkL)
      have hby := HBY.out _ (List.getElem_mem hkL)
      have hkk := HKU.out k hlt
      have hk64 : (k : Int) < 64 := by omega
      have HST := Lib.hid (fun ys hy => bufTo_step (key := key) HL4.out k hlt ys hy)
      rw [List.getD_eq_getElem?_getD, List.getElem?_eq_getElem hkL, Option.getD_some] at HST
      have HBL := Lib.hid (bufTo_len (key := key) HL4.out k (by omega))
      obtain ⟨ba, bc, hve, hfr, hcp⟩ := hsx
      rw [hve] at hck
      have lbo := World.block_lt_of_cell? _ _ hck
      clear hve
      generalize LL[k] = xs at *
      have hrow := hfr.row
      have hOp := open_ok key k ba bc xs wr hkk (by rcases h4 with e | e <;> simp [e]) hrow hby
      have hop : sealed (-1) key k xs = openL key k xs := rfl
      have hyl : (openL key k xs).length = xs.length := sealed_length _ _ _ _
      have HY : Hid (splice ((bufTo key LL k).map (Value.int .u8)) (k * 4) ((openL key k xs).map (Value.int .u8)) = (bufTo key LL (k + 1)).map (Value.int .u8)) := Lib.hid (HST.out (openL key k xs) (by
        rcases h4 with e | e
        · left
          refine ⟨?_, e⟩
          rw [e]; rfl
        · right
          refine ⟨hyl.trans e, fun e2 => by rw [e2] at e; simp at e, rfl⟩))
      rw [hop] at hOp
      have hx4 : xs.length = 0 ∨ xs.length = 4 := h4.imp (fun e => by rw [e]; rfl) id
      clear hop h4 hby hrow hfr hcp hkk
      generalize openL key k xs = ys at *
      obtain ⟨xn, hxn⟩ : ∃ xn, xs.length = xn := ⟨_, rfl⟩
      rw [hxn] at hOp hyl hx4 hck
      have HYL := Lib.hid hyl
      have hk4 : (k : Int) * 4 < 256 := by omega
      have hk40 : 0 ≤ (k : Int) * 4 := by omega
      have hlkr := lt_heap hbuf
      clear hxn hyl
      go_wp2_with fail
      refine hOp.mono ?_
      rintro e w4 ⟨ay, cy, hcy, rfl, hry, hb4⟩
      have hbuf4 := (hb4.block _ hlkr).trans hbuf
      have hg4 := grown_trans hgr (grown_of_below hb4 (some kb))
      have HBUF : Hid (w4.heap[kb]? = some (.cells ((bufTo key LL k).map (Value.int .u8)).toArray 5 (0, 0))) := Lib.hid hbuf4
      clear hOp hck lbo hbuf hb4 hbuf4
      have hcn : (ys.map (Value.int .u8)).length = Nat.min xn (256 - k * 4) := by
        rw [List.length_map, HYL.out]
        have : xn ≤ 256 - k * 4 := by omega
        exact (Nat.min_eq_left this).symm
      have hfit : k * 4 + (ys.map (Value.int .u8)).length ≤ ((bufTo key LL k).map (Value.int .u8)).length := by
        rw [List.length_map, List.length_map, HYL.out, HBL.out]
        omega
      go_wp2_with (with_reducible refine copy_grown rfl (.tmp 37) (.tmp 38) 38 38 rfl 5 Try.underlying38 hszI (some ⟨kb, k * 4, none⟩) ay (256 - k * 4) (256 - k * 4) xn cy rfl rfl kb (k * 4) ((bufTo key LL k).map (Value.int .u8)) 5 HBUF.out (ys.map (Value.int .u8)) hcn (fun h => ⟨rfl, row_src hry (by simpa using h)⟩) hfit (ints_one _ _) ?_)
      intro w5 HG5 hg5
      have hG5 := HG5.out
      rw [HY.out] at hG5
      have hg45 := grown_trans hg4 hg5
      have HG6 : Hid (w5.heap[kb]? = some (.cells (icells .u8 (bufTo key LL (k + 1))) 5 (0, 0))) := Lib.hid hG5
      clear HG5 hG5 hry hcn hfit HBUF
      go_wp2_with fail
      go_roundw
      case rel => exact ⟨k + 1, by omega, by go_num, hg45, HG6.out⟩
      case measure => simp [intOf]; omega
    · obtain rfl : k = 64 := by omega
      have r5 := (hgr.block _ (lt_heap r1) (by simp; omega)).trans r1
      have d1 := cell_of_block r5 1
      simp at d1
      have dl := lt_heap r5
      have hkw := lt_heap hbuf
      have hbz := hbw2.trans (grown_below hgr (by omega) (by have := hbw2.size; omega))
      have HRW := Lib.hid (row_part hbuf z)
      clear hbuf
      go_wp2_with fail
      go_ret
      exact ⟨kb, z, by rw [Int.toNat_natCast]; rfl, by omega, by omega, hkw, by rw [HFB.out]; exact HRW.out, hbz⟩
end Go.Proofs.Ytfmgdjgedhnmeaa
