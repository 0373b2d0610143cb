/- image.Write: a pool as bytes. -/
import Derived.Test.YtfmgdjgedhnmeaaImageW
namespace Go.Proofs.Ytfmgdjgedhnmeaa
open Go.RowKit
set_option linter.unusedVariables false
set_option linter.unusedSimpArgs false

theorem app_len (a b : List Int) : (a ++ b).length = a.length + b.length := List.length_append
theorem strI_len (s : ByteArray) : (strI s).length = 2 + s.size := by rw [strI, app_len, nb_len, strL_len]
/-- what Write hands back -/
def WriteEnd (e : Ending) (w w' : World) (p : PoolV) : Prop :=
  ∃ v, e = .returned (.tuple #[v, .int .i64 (poolE p)]) ∧ Own .u8 5 w.heap.size w' v (if poolE p = 0 then imageL p else []) ∧ Below w.heap.size w w'

set_option maxRecDepth 100000 in
set_option maxHeartbeats 16000000 in
theorem write_image (w : World) (so ao : Option Addr) (sn sc n cap : Nat) (p : PoolV) (hp : PoolIn w so sn sc ao n cap p) (hw : WfP p) :
    Calls Try.prog 17 #[.agg #[.slice so sn sc, .slice ao n cap]] w fun e w' => WriteEnd e w w' p := by
  have HP := Lib.hid hp
  have HW := Lib.hid hw
  have hb0 : Below w.heap.size w (w.alloc (.cells #[.slice so sn sc, .slice ao n cap] 49)) := (Below.refl _ _).alloc (Nat.le_refl _) _
  have p0 : (w.alloc (.cells #[.slice so sn sc, .slice ao n cap] 49)).heap[w.heap.size]? = some (.cells #[.slice so sn sc, .slice ao n cap] 49 (0, 0)) := heap_alloc_new _ _
  clear hp hw
  go_enter Try.func17, Try.ntmps17
  go_wp2_with fail
  have HP := Lib.hid (HP.out.mono hb0)
  generalize w.alloc (Obj.cells #[Value.slice so sn sc, Value.slice ao n cap] 49) = W0 at *
  refine (poolCheck_any W0 so ao sn sc n cap p HP.out HW.out).mono ?_
  rintro e w1 ⟨rfl, hb1⟩
  have hbw := below_step hb0 hb1
  have p0 := (hb1.block _ (lt_heap p0)).trans p0
  have HP := Lib.hid (HP.out.mono hb1)
  by_cases hpe : poolE p = 0
  rotate_left
  · have HR := Lib.hid (show WriteEnd (.returned (.tuple #[.slice none 0 0, .int .i64 (poolE p)])) w w1 p from ⟨_, rfl, by rw [if_neg hpe]; exact Own.nil _ _ _ _, hbw⟩)
    have he1 : (poolE p != 0) = true := by rw [bne_iff_ne]; exact hpe
    clear hpe
    generalize poolE p = ce at *
    go_wp2
    go_ret2
    exact HR.out
  have HOK := Lib.hid (poolE_ok hpe)
  have HPE := Lib.hid hpe
  rw [hpe]
  clear hpe
  have c00 := cell_of_block p0 0
  have c01 := cell_of_block p0 1
  simp at c00 c01
  have l0 := lt_heap p0
  have hsn : (sn : Int) ≤ 400 := by have := (checkE_zero _ HOK.out.chk).1; have := HP.out.slen; omega
  have hn3 : (n : Int) ≤ 3 := by have := HOK.out.len; have := HP.out.len; omega
  have bW2 : Below w1.heap.size w1 (w1.alloc (.cells #[.slice none 0 0] 109)) := (Below.refl _ _).alloc (Nat.le_refl _) _
  have HWA : Hid (WAt (w1.alloc (.cells #[.slice none 0 0] 109)) w1.heap.size (w1.heap.size + 1) none []) := Lib.hid ⟨.slice none 0 0, heap_alloc_new _ _, Own.nil _ _ _ _, rfl⟩
  have hszA : (w1.alloc (.cells #[.slice none 0 0] 109)).heap.size = w1.heap.size + 1 := by simp
  have hput := wput_new (w1.alloc (.cells #[.slice none 0 0] 109)) w1.heap.size (w1.heap.size + 1) none [] [(sn : Int)] HWA.out (Nat.lt_succ_self _) (by omega) (fun x hx => by simp only [List.mem_singleton] at hx; subst hx; exact ⟨by omega, by omega⟩) (by simp)
  rw [hszA] at hput
  have HPUT := Lib.hid hput
  clear hput
  go_wp2_with fail
  refine HPUT.out.mono ?_
  rintro e w3 ⟨rfl, g3, hW3, hwr3⟩
  have hbel3 := bW2.trans (hwr3.below HWA.out (Nat.le_refl _) (Nat.le_succ _) (by omega))
  have HW3 : Hid (WAt w3 w1.heap.size (w1.heap.size + 1) g3 (nb sn)) := Lib.hid (hW3.same (by simp [nbs]))
  have p3 := (hbel3.block _ l0).trans p0
  have c30 := cell_of_block p3 0
  have c31 := cell_of_block p3 1
  simp at c30 c31
  have l3 := lt_heap p3
  clear HPUT hW3 hwr3 HWA hszA bW2 c00 c01
  go_wp2
  go_loopw [32] (fun i wr => ∃ (k : Nat) (g2 : Option Nat), k ≤ sn ∧ i = .int .i64 k ∧ Hid (WAt wr w1.heap.size (w1.heap.size + 1) g2 (nb sn ++ (p.s.take k).flatMap blkI)) ∧ Below w1.heap.size w1 wr) (fun i _ => sn - (intOf i).toNat)
  case atStart => exact ⟨0, g3, Nat.zero_le _, rfl, Lib.hid (by simpa using HW3.out), hbel3⟩
  case round =>
    clear c30 c31 l3 p3 HW3 hbel3
    obtain ⟨k, g2, hkn, rfl, HK, hbel⟩ := hrel
    by_cases hlt : k < sn
    · have hkl : k < p.s.length := by have := HP.out.slen; omega
      have hlt' : (k : Int) < sn := by omega
      obtain ⟨b, o, rfl, hq⟩ := HP.out.srow.at k hkl
      have hB := hq k hkl
      have lb0 := hB.lt
      have lb : b < wr.heap.size := Nat.lt_of_lt_of_le lb0 hbel.size
      have hbc := (bcell hbel).1
      have c0 := (hbc _ _ lb0).trans hB.refs
      have c1 := (hbc _ _ lb0).trans hB.level
      obtain ⟨v2, c2, kao, kcap, rfl, hrow, hcd⟩ := hB.kids
      obtain ⟨v3, c3, bao, bcap, rfl, hrow3, hcd3⟩ := hB.bytes
      have c2 := (hbc _ _ lb0).trans c2
      have c3 := (hbc _ _ lb0).trans c3
      have HT := Lib.hid (flat_take blkI p.s k hkl)
      have hfit := (HOK.out.fit HW.out.sto).sto _ (List.getElem_mem hkl)
      have HLEN := Lib.hid (show ((p.s.take k).flatMap blkI).length ≤ 6400 by have := take_flen blkI 16 p.s k (blk_len HOK.out.chk); have := HP.out.slen; omega)
      have hbl := blk_len HOK.out.chk _ (List.getElem_mem hkl)
      clear hq hB hbc
      generalize p.s[k] = x at *
      obtain ⟨rf, lv, ks, bs⟩ := x
      simp only at c0 c1 c2 c3 hrow hrow3 hcd hcd3
      have HROW := Lib.hid hrow
      have HROW3 := Lib.hid hrow3
      have HFIT := Lib.hid hfit
      have HBL := Lib.hid (show 8 + 2 * ks.length + bs.length ≤ 16 by simp only [blkI, List.length_append, nbs_len, nb_len, List.length_cons, List.length_nil] at hbl; omega)
      have hsz := hbel.size
      have hb2 : Below wr.heap.size wr (wr.alloc (.cells #[.int .i64 rf, .int .i64 lv, .slice kao ks.length kcap, .slice bao bs.length bcap] 93)) := (Below.refl _ _).alloc (Nat.le_refl _) _
      have q2 : (wr.alloc (.cells #[.int .i64 rf, .int .i64 lv, .slice kao ks.length kcap, .slice bao bs.length bcap] 93)).heap[wr.heap.size]? = some (.cells #[.int .i64 rf, .int .i64 lv, .slice kao ks.length kcap, .slice bao bs.length bcap] 93 (0, 0)) := heap_alloc_new _ _
      have HW2 := Lib.hid (HK.out.mono hb2)
      have hne : some wr.heap.size ≠ g2 := fun e => by have := (HK.out.low _ e).2; omega
      have hwbl := HK.out.box
      have hne2 : wr.heap.size ≠ w1.heap.size := by omega
      have hsz2 : (wr.alloc (.cells #[.int .i64 rf, .int .i64 lv, .slice kao ks.length kcap, .slice bao bs.length bcap] 93)).heap.size = wr.heap.size + 1 := by simp
      have hcl := wput_new _ w1.heap.size (w1.heap.size + 1) g2 _ [rf, lv, (ks.length : Int)] HW2.out (Nat.lt_succ_self _) (by omega) (fun x hx => by
        simp only [List.mem_cons, List.not_mem_nil, or_false] at hx
        rcases hx with rfl | rfl | rfl
        · exact HFIT.out.refs
        · exact HFIT.out.level
        · exact ⟨by omega, by have := HFIT.out.klen; (try simp only at this); omega⟩) (by simp only [List.length_append, nb_len, List.length_cons, List.length_nil]; have := HLEN.out; omega)
      rw [hsz2] at hcl
      have HCL := Lib.hid hcl
      have hks : (ks.length : Int) ≤ 16 := by have := HBL.out; omega
      have hbs : (bs.length : Int) ≤ 16 := by have := HBL.out; omega
      have hbel2 := hbel.trans (hb2.mono hsz)
      clear hcl hrow hrow3 hfit hbl HK
      go_wp2_with fail
      refine HCL.out.mono ?_
      rintro e w4 ⟨rfl, g4, hW4, hwr4⟩
      have q4 := (hwr4.block _ (lt_heap q2) hne2 hne).trans q2
      have hbel4 := hbel2.trans (hwr4.below HW2.out (Nat.le_refl _) (Nat.le_succ _) (by omega))
      have hne4 := hwr4.ne (lt_heap q2) hne
      have d2 := cell_of_block q4 2
      have d3 := cell_of_block q4 3
      simp at d2 d3
      have l4 := lt_heap q4
      have HPK := Lib.hid (wput_any w4 w1.heap.size (w1.heap.size + 1) g4 _ ks kao ks.length kcap hW4 (Nat.lt_succ_self _) (by have := hbel4.size; have := hW4.box; omega) rfl (HROW.out.mono hbel4) (HROW.out.lowOff (Nat.le_refl _) (Nat.lt_succ_self _) hW4) (fun k hk => HFIT.out.kids k hk) (by simp only [List.length_append, nb_len, nbs_len, List.length_cons, List.length_nil]; have := HLEN.out; have := HBL.out; omega))
      have HW4 := Lib.hid hW4
      clear HCL hW4 hwr4 q2 hb2 HW2 hsz2 hne
      generalize wr.alloc (.cells #[.int .i64 rf, .int .i64 lv, .slice kao ks.length kcap, .slice bao bs.length bcap] 93) = W2 at *
      generalize wr.heap.size = B2 at *
      go_wp2_with fail
      refine HPK.out.mono ?_
      rintro e w5 ⟨rfl, g5, hW5, hwr5⟩
      have q5 := (hwr5.block _ l4 hne2 hne4).trans q4
      have hbel5 := hbel4.trans (hwr5.below HW4.out (Nat.le_refl _) (Nat.le_succ _) hbel4.size)
      have e3 := cell_of_block q5 3
      simp at e3
      have l5 := lt_heap q5
      have HPB := Lib.hid (wbytes_any w5 w1.heap.size (w1.heap.size + 1) g5 _ bs bao bs.length bcap hW5 (Nat.lt_succ_self _) (by have := hW5.box; omega) rfl (HROW3.out.mono hbel5) hcd3.2 (HROW3.out.lowOff (Nat.le_refl _) (Nat.lt_succ_self _) hW5) (by have := HBL.out; omega) (by simp only [List.length_append, nb_len, nbs_len, List.length_cons, List.length_nil]; have := HLEN.out; have := HBL.out; omega))
      have HW5 := Lib.hid hW5
      clear HPK hW5 hwr5 q4 d2 d3 l4 hne4 HW4
      go_wp2_with fail
      refine HPB.out.mono ?_
      rintro e w6 ⟨rfl, g6, hW6, hwr6⟩
      have hbel6 := hbel5.trans (hwr6.below HW5.out (Nat.le_refl _) (Nat.le_succ _) hbel5.size)
      have HW6 := Lib.hid hW6
      clear HPB hW6 hwr6 q5 e3 l5 HW5
      go_wp2
      go_roundw
      case rel => exact ⟨k + 1, g6, by omega, by go_num, Lib.hid (HW6.out.same (by rw [HT.out]; simp [blkI, nbs, List.append_assoc])), hbel6⟩
      case measure => simp [intOf]; omega
    · obtain rfl : k = sn := by omega
      have ht : p.s.take k = p.s := List.take_of_length_le (by have := HP.out.slen; omega)
      rw [ht] at HK
      have hlt' : ¬ (k : Int) < k := by omega
      have hal : (nb (k : Int) ++ p.s.flatMap blkI).length ≤ 6402 := by
        have h1 := flat_len blkI 16 p.s (blk_len HOK.out.chk)
        have := HP.out.slen
        rw [List.length_append, nb_len]
        omega
      have HA0 := Lib.hid (show nb (k : Int) ++ p.s.flatMap blkI = nb (p.s.length : Int) ++ p.s.flatMap blkI by rw [HP.out.slen])
      generalize nb (k : Int) ++ p.s.flatMap blkI = A at *
      have HAL := Lib.hid hal
      clear ht hal
      have p3 := (hbel.block _ l0).trans p0
      have c30 := cell_of_block p3 0
      have c31 := cell_of_block p3 1
      simp at c30 c31
      have l3 := lt_heap p3
      generalize wr = w4 at *
      have hwbl := HK.out.box
      have hput := wput_new w4 w1.heap.size (w1.heap.size + 1) g2 A [(n : Int)] HK.out (Nat.lt_succ_self _) (by omega) (fun x hx => by simp only [List.mem_singleton] at hx; subst hx; exact ⟨by omega, by omega⟩) (by simp only [List.length_cons, List.length_nil]; have := HAL.out; omega)
      have HPUT := Lib.hid hput
      clear hput
      go_wp2_with fail
      refine HPUT.out.mono ?_
      rintro e w5 ⟨rfl, g5, hW5, hwr5⟩
      have hbel5 := hbel.trans (hwr5.below HK.out (Nat.le_refl _) (Nat.le_succ _) hbel.size)
      have HW5 : Hid (WAt w5 w1.heap.size (w1.heap.size + 1) g5 (A ++ nb n)) := Lib.hid (hW5.same (by simp [nbs]))
      have p5 := (hbel5.block _ l0).trans p0
      clear HPUT hW5 hwr5 HK c30 c31 l3 p3 hbel hwbl hlt hkn
      have c30 := cell_of_block p5 0
      have c31 := cell_of_block p5 1
      simp at c30 c31
      have l3 := lt_heap p5
      go_wp2
      go_loopw [64] (fun i wr => ∃ (k : Nat) (g2 : Option Nat), k ≤ n ∧ i = .int .i64 k ∧ Hid (WAt wr w1.heap.size (w1.heap.size + 1) g2 (A ++ nb n ++ (p.tens.take k).flatMap tenI)) ∧ Below w1.heap.size w1 wr) (fun i _ => n - (intOf i).toNat)
      case atStart => exact ⟨0, g5, Nat.zero_le _, rfl, Lib.hid (by simpa using HW5.out), hbel5⟩
      case round =>
        clear c30 c31 l3 p5 HW5 hbel5 hlt'
        obtain ⟨q, g2, hqn, rfl, HK, hbel⟩ := hrel
        by_cases hlt : q < n
        · have hkl : q < p.tens.length := by have := HP.out.len; omega
          have hlt' : (q : Int) < n := by omega
          obtain ⟨b, o, qo, qn, qc, rfl, hE, hT1⟩ := HP.out.row.at q hkl
          have hE := hE.mono hbel
          have c0 := hE.key
          have c1 := hE.quota
          have c2 := hE.sl
          have lb := hE.lt
          have HT := Lib.hid (flat_take tenI p.tens q hkl)
          have hTO := HOK.out.ten _ (List.getElem_mem hkl)
          have hft := (HOK.out.fit HW.out.sto).tens _ (List.getElem_mem hkl)
          have HLEN := Lib.hid (show (A ++ nb n ++ (p.tens.take q).flatMap tenI).length ≤ 9900 by
            have h1 : ((p.tens.take q).flatMap tenI).length ≤ 1164 * p.tens.length := by
              have h1 := flat_len tenI 1164 (p.tens.take q) fun x hx => ten_len (HOK.out.ten x (List.mem_of_mem_take hx))
              rw [List.length_take] at h1
              exact Nat.le_trans h1 (Nat.mul_le_mul_left _ (by omega))
            have h2 := HAL.out
            have h3 := HOK.out.len
            rw [List.length_append, List.length_append, nb_len]
            omega)
          have HT1 := Lib.hid hT1
          have HTO := Lib.hid hTO
          have HFT := Lib.hid hft
          clear hE hT1 hTO hft
          generalize p.tens[q] = t at *
          obtain ⟨key, quota, sets⟩ := t
          simp only at c0 c1 c2
          have hsz := hbel.size
          have hb2 : Below wr.heap.size wr (wr.alloc (.cells #[.int .i64 key, .int .i64 quota, .slice qo qn qc] 75)) := (Below.refl _ _).alloc (Nat.le_refl _) _
          have q2 : (wr.alloc (.cells #[.int .i64 key, .int .i64 quota, .slice qo qn qc] 75)).heap[wr.heap.size]? = some (.cells #[.int .i64 key, .int .i64 quota, .slice qo qn qc] 75 (0, 0)) := heap_alloc_new _ _
          have HW2 := Lib.hid (HK.out.mono hb2)
          have hne : some wr.heap.size ≠ g2 := fun e => by have := (HK.out.low _ e).2; omega
          have hwbl := HK.out.box
          have hne2 : wr.heap.size ≠ w1.heap.size := by omega
          have hsz2 : (wr.alloc (.cells #[.int .i64 key, .int .i64 quota, .slice qo qn qc] 75)).heap.size = wr.heap.size + 1 := by simp
          have hqn3 : (qn : Int) ≤ 3 := by have := HT1.out.len; have := HTO.out.len; (try simp only at *); omega
          have hcl := wput_new _ w1.heap.size (w1.heap.size + 1) g2 _ [key, quota, (qn : Int)] HW2.out (Nat.lt_succ_self _) (by omega) (fun x hx => by
            simp only [List.mem_cons, List.not_mem_nil, or_false] at hx
            rcases hx with rfl | rfl | rfl
            · exact HFT.out.key
            · exact HFT.out.quota
            · exact ⟨by omega, by omega⟩) (by simp only [List.length_cons, List.length_nil]; have := HLEN.out; omega)
          rw [hsz2] at hcl
          have HCL := Lib.hid hcl
          have hbel2 := hbel.trans (hb2.mono hsz)
          have HSN := Lib.hid HT1.out.len
          clear hcl HK
          go_wp2_with fail
          refine HCL.out.mono ?_
          rintro e w6 ⟨rfl, g6, hW6, hwr6⟩
          have q6 := (hwr6.block _ (lt_heap q2) hne2 hne).trans q2
          have hbel6 := hbel2.trans (hwr6.below HW2.out (Nat.le_refl _) (Nat.le_succ _) (by omega))
          have d2 := cell_of_block q6 2
          simp at d2
          have l6 := lt_heap q6
          have HX0 : Hid (A ++ nb n ++ (p.tens.take q).flatMap tenI ++ nbs [key, quota, (qn : Int)] ++ sets.flatMap setI = A ++ nb n ++ (p.tens.take (q + 1)).flatMap tenI) := Lib.hid (by rw [HT.out]; simp only [tenI]; have := HSN.out; (try simp only at this); rw [this]; simp [List.append_assoc])
          have HXL : Hid ((A ++ nb n ++ (p.tens.take q).flatMap tenI ++ nbs [key, quota, (qn : Int)]).length ≤ 9906) := Lib.hid (by rw [app_len _ (nbs _), nbs_len]; simp only [List.length_cons, List.length_nil]; have := HLEN.out; omega)
          generalize A ++ nb n ++ (p.tens.take q).flatMap tenI ++ nbs [key, quota, (qn : Int)] = X at *
          have HW6 := Lib.hid hW6
          clear HCL hW6 hwr6 q2 hb2 HW2 hsz2 hne HT HLEN
          generalize wr.alloc (.cells #[.int .i64 key, .int .i64 quota, .slice qo qn qc] 75) = W2 at *
          generalize wr.heap.size = B2 at *
          go_wp2
          go_loopw [81] (fun i wr => ∃ (j : Nat) (g2 : Option Nat), j ≤ qn ∧ i = .int .i64 j ∧ Hid (WAt wr w1.heap.size (w1.heap.size + 1) g2 (X ++ (sets.take j).flatMap setI)) ∧ Below w1.heap.size w1 wr) (fun i _ => qn - (intOf i).toNat)
          case atStart => exact ⟨0, g6, Nat.zero_le _, rfl, Lib.hid (by simpa using HW6.out), hbel6⟩
          case round =>
            clear d2 l6 q6 HW6 hbel6 hbel2 hbel hlt' c0 c1 c2 lb
            obtain ⟨j, g2, hjn, rfl, HK, hbel⟩ := hrel
            by_cases hlj : j < qn
            · have hjl : j < sets.length := by have := HSN.out; (try simp only at this); omega
              have hlj' : (j : Int) < qn := by omega
              obtain ⟨b2, o2, rfl, hq2⟩ := HT1.out.row.at j hjl
              simp only at hq2
              obtain ⟨fo, fn, fc, ss, sm, sk, hE, hX⟩ := hq2 j hjl
              have hE := hE.mono hbel
              have c0 := hE.nm
              have c1 := hE.fl
              have c2 := hE.sl
              have lb := hE.lt
              have HT := Lib.hid (flat_take setI sets j hjl)
              have hR := HTO.out.sets _ (List.getElem_mem hjl)
              have HLEN := Lib.hid (show (X ++ (sets.take j).flatMap setI).length ≤ 11100 by
                have h1 := flat_len setI 386 (sets.take j) fun x hx => set_len (HTO.out.sets x (List.mem_of_mem_take hx))
                have h2 := HXL.out
                have h3 := HTO.out.len
                rw [List.length_take] at h1
                (try simp only at h3)
                rw [List.length_append]
                omega)
              have HXX := Lib.hid hX
              have HR := Lib.hid hR
              clear hE hq2 hX hR
              generalize sets[j] = x at *
              obtain ⟨nm, xf, xs⟩ := x
              simp only at c0 c1 c2
              have hsz := hbel.size
              have hb2 : Below wr.heap.size wr (wr.alloc (.cells #[.string nm, .slice fo fn fc, .slice ss sm sk] 28)) := (Below.refl _ _).alloc (Nat.le_refl _) _
              have q2 : (wr.alloc (.cells #[.string nm, .slice fo fn fc, .slice ss sm sk] 28)).heap[wr.heap.size]? = some (.cells #[.string nm, .slice fo fn fc, .slice ss sm sk] 28 (0, 0)) := heap_alloc_new _ _
              have HW2 := Lib.hid (HK.out.mono hb2)
              have hne : some wr.heap.size ≠ g2 := fun e => by have := (HK.out.low _ e).2; omega
              have hwbl := HK.out.box
              have hne2 : wr.heap.size ≠ w1.heap.size := by omega
              have hsz2 : (wr.alloc (.cells #[.string nm, .slice fo fn fc, .slice ss sm sk] 28)).heap.size = wr.heap.size + 1 := by simp
              have hcv := conv_str (wr.alloc (.cells #[.string nm, .slice fo fn fc, .slice ss sm sk] 28)) nm
              have hnm8 := name_size HR.out.nm
              (try simp only at hnm8)
              have hcl := wname_new _ w1.heap.size (w1.heap.size + 1) g2 _ nm (grownCap (wr.alloc (.cells #[.string nm, .slice fo fn fc, .slice ss sm sk] 28)) nm.size 0 5) HW2.out (Nat.lt_succ_self _) (by omega) (by omega) (by have := HLEN.out; omega)
              rw [hsz2] at hcl
              have HCL := Lib.hid hcl
              have hbel2 := hbel.trans (hb2.mono hsz)
              clear hcl HK
              go_wp2_with fail
              refine HCL.out.mono ?_
              rintro e w7 ⟨rfl, g7, hW7, hwr7⟩
              have q7 := (hwr7.block _ (lt_heap q2) hne2 hne).trans q2
              have hbel7 := hbel2.trans (hwr7.below HW2.out (Nat.le_refl _) (Nat.le_succ _) (by omega))
              have hne7 := hwr7.ne (lt_heap q2) hne
              have d1 := cell_of_block q7 1
              have d2 := cell_of_block q7 2
              simp at d1 d2
              have l7 := lt_heap q7
              have HPE2 := Lib.hid (wents_any w1 w7 w1.heap.size (w1.heap.size + 1) g7 _ xf fo fn fc hbel7 (Nat.le_refl _) hW7 (Nat.lt_succ_self _) (by have := hW7.box; omega) HXX.out.flen HXX.out.frow (ents_sm HOK.out.chk HR.out.files) (by rw [app_len _ (strI nm), strI_len]; have := HLEN.out; omega))
              have HW7 := Lib.hid hW7
              clear HCL hcv hW7 hwr7 q2 hb2 HW2 hsz2 hne
              generalize wr.alloc (.cells #[.string nm, .slice fo fn fc, .slice ss sm sk] 28) = W3 at *
              generalize wr.heap.size = B3 at *
              go_wp2_with fail
              refine HPE2.out.mono ?_
              rintro e w8 ⟨rfl, g8, hW8, hwr8⟩
              have q8 := (hwr8.block _ l7 hne2 hne7).trans q7
              have hbel8 := hbel7.trans (hwr8.below HW7.out (Nat.le_refl _) (Nat.le_succ _) hbel7.size)
              have hne8 := hwr8.ne l7 hne7
              have e2 := cell_of_block q8 2
              simp at e2
              have l8 := lt_heap q8
              have hsm3 : (sm : Int) ≤ 3 := by have := HXX.out.slen; have := HR.out.slen; (try simp only at *); omega
              have HYL : Hid ((X ++ (sets.take j).flatMap setI ++ strI nm ++ entsI xf).length ≤ 11196) := Lib.hid (by
                have h1 := ents_len HR.out.files
                (try simp only at h1)
                rw [app_len _ (entsI xf), app_len _ (strI nm), strI_len]
                have := HLEN.out
                omega)
              have HPS := Lib.hid (wput_new w8 w1.heap.size (w1.heap.size + 1) g8 _ [(sm : Int)] hW8 (Nat.lt_succ_self _) (by have := hW8.box; omega) (fun x hx => by simp only [List.mem_singleton] at hx; subst hx; exact ⟨by omega, by omega⟩) (by simp only [List.length_cons, List.length_nil]; have := HYL.out; omega))
              have HW8 := Lib.hid hW8
              clear HPE2 hW8 hwr8 q7 d1 d2 l7 hne7 HW7
              go_wp2_with fail
              refine HPS.out.mono ?_
              rintro e w9 ⟨rfl, g9, hW9, hwr9⟩
              have q9 := (hwr9.block _ l8 hne2 hne8).trans q8
              have hbel9 := hbel8.trans (hwr9.below HW8.out (Nat.le_refl _) (Nat.le_succ _) hbel8.size)
              have f2 := cell_of_block q9 2
              simp at f2
              have l9 := lt_heap q9
              have HX1 : Hid (X ++ (sets.take j).flatMap setI ++ strI nm ++ entsI xf ++ nbs [(sm : Int)] ++ xs.flatMap snpI = X ++ (sets.take (j + 1)).flatMap setI) := Lib.hid (by rw [HT.out]; simp only [setI]; have := HXX.out.slen; (try simp only at this); rw [this]; simp [nbs, List.append_assoc])
              have HYL2 : Hid ((X ++ (sets.take j).flatMap setI ++ strI nm ++ entsI xf ++ nbs [(sm : Int)]).length ≤ 11198) := Lib.hid (by rw [app_len _ (nbs _), nbs_len]; simp only [List.length_cons, List.length_nil]; have := HYL.out; omega)
              generalize X ++ (sets.take j).flatMap setI ++ strI nm ++ entsI xf ++ nbs [(sm : Int)] = Y at *
              have HW9 := Lib.hid hW9
              clear HPS hW9 hwr9 q8 e2 l8 hne8 HW8 HT HLEN HYL
              go_wp2
              go_loopw [103] (fun i wr => ∃ (m : Nat) (g2 : Option Nat), m ≤ sm ∧ i = .int .i64 m ∧ Hid (WAt wr w1.heap.size (w1.heap.size + 1) g2 (Y ++ (xs.take m).flatMap snpI)) ∧ Below w1.heap.size w1 wr) (fun i _ => sm - (intOf i).toNat)
              case atStart => exact ⟨0, g9, Nat.zero_le _, rfl, Lib.hid (by simpa using HW9.out), hbel9⟩
              case round =>
                clear f2 l9 q9 HW9 hbel9 hbel8 hbel7 hbel2 hbel hlj' c0 c1 c2 lb
                obtain ⟨m, g2, hmn, rfl, HK, hbel⟩ := hrel
                by_cases hlm : m < sm
                · have hml : m < xs.length := by have := HXX.out.slen; (try simp only at this); omega
                  have hlm' : (m : Int) < sm := by omega
                  obtain ⟨vs, hvl, hvr, hvi⟩ := HXX.out.srow
                  simp only at hvl hvi
                  have hmv : m < vs.length := by omega
                  obtain ⟨b3, o3, rfl, hq3⟩ := SnvRow.at hvr m hmv
                  have hE := (hq3 m hmv).mono hbel
                  have hI := hvi m hmv hml
                  have c0 := hE.nm
                  have c1 := hE.sl
                  have lb := hE.lt
                  have HT := Lib.hid (flat_take snpI xs m hml)
                  have hR := HR.out.snaps _ (List.getElem_mem hml)
                  have HLEN := Lib.hid (show (Y ++ (xs.take m).flatMap snpI).length ≤ 11500 by
                    have h1 := flat_len snpI 96 (xs.take m) fun x hx => snp_len (HR.out.snaps x (List.mem_of_mem_take hx)).1 (HR.out.snaps x (List.mem_of_mem_take hx)).2
                    have h2 := HYL2.out
                    have h3 := HR.out.slen
                    rw [List.length_take] at h1
                    (try simp only at h3)
                    rw [List.length_append]
                    omega)
                  clear hE hq3 hvr hvi hvl
                  generalize xs[m] = y at *
                  generalize vs[m] = u at *
                  obtain ⟨ynm, yf⟩ := y
                  obtain ⟨unm, uo, un, uc⟩ := u
                  obtain ⟨h1, h2, h4, h5⟩ := hI
                  simp only at c0 c1 h1 h2 h4 h5
                  subst h1
                  have HU := Lib.hid h2
                  have HRY := Lib.hid hR
                  have HROW := Lib.hid h4
                  clear h2 hR h4
                  have hsz := hbel.size
                  have hb2 : Below wr.heap.size wr (wr.alloc (.cells #[.string unm, .slice uo un uc] 105)) := (Below.refl _ _).alloc (Nat.le_refl _) _
                  have q2 : (wr.alloc (.cells #[.string unm, .slice uo un uc] 105)).heap[wr.heap.size]? = some (.cells #[.string unm, .slice uo un uc] 105 (0, 0)) := heap_alloc_new _ _
                  have HW2 := Lib.hid (HK.out.mono hb2)
                  have hne : some wr.heap.size ≠ g2 := fun e => by have := (HK.out.low _ e).2; omega
                  have hwbl := HK.out.box
                  have hne2 : wr.heap.size ≠ w1.heap.size := by omega
                  have hsz2 : (wr.alloc (.cells #[.string unm, .slice uo un uc] 105)).heap.size = wr.heap.size + 1 := by simp
                  have hcv := conv_str (wr.alloc (.cells #[.string unm, .slice uo un uc] 105)) unm
                  have hnm8 := name_size HRY.out.1
                  (try simp only at hnm8)
                  have hcl := wname_new _ w1.heap.size (w1.heap.size + 1) g2 _ unm (grownCap (wr.alloc (.cells #[.string unm, .slice uo un uc] 105)) unm.size 0 5) HW2.out (Nat.lt_succ_self _) (by omega) (by omega) (by have := HLEN.out; omega)
                  rw [hsz2] at hcl
                  have HCL := Lib.hid hcl
                  have hbel2 := hbel.trans (hb2.mono hsz)
                  clear hcl HK
                  go_wp2_with fail
                  refine HCL.out.mono ?_
                  rintro e w7 ⟨rfl, g7, hW7, hwr7⟩
                  have q7 := (hwr7.block _ (lt_heap q2) hne2 hne).trans q2
                  have hbel7 := hbel2.trans (hwr7.below HW2.out (Nat.le_refl _) (Nat.le_succ _) (by omega))
                  have d1 := cell_of_block q7 1
                  simp at d1
                  have l7 := lt_heap q7
                  have HPE2 := Lib.hid (wents_any w1 w7 w1.heap.size (w1.heap.size + 1) g7 _ yf uo un uc hbel7 (Nat.le_refl _) hW7 (Nat.lt_succ_self _) (by have := hW7.box; omega) HU.out.symm HROW.out (ents_sm HOK.out.chk HRY.out.2) (by rw [app_len _ (strI unm), strI_len]; have := HLEN.out; omega))
                  have HW7 := Lib.hid hW7
                  clear HCL hcv hW7 hwr7 q2 hb2 HW2 hsz2 hne
                  generalize wr.alloc (.cells #[.string unm, .slice uo un uc] 105) = W3 at *
                  generalize wr.heap.size = B3 at *
                  go_wp2_with fail
                  refine HPE2.out.mono ?_
                  rintro e w8 ⟨rfl, g8, hW8, hwr8⟩
                  have hbel8 := hbel7.trans (hwr8.below HW7.out (Nat.le_refl _) (Nat.le_succ _) hbel7.size)
                  have HW8 := Lib.hid hW8
                  clear HPE2 hW8 hwr8 q7 d1 l7 HW7
                  go_wp2
                  go_roundw
                  case rel => exact ⟨m + 1, g8, by omega, by go_num, Lib.hid (HW8.out.same (by rw [HT.out]; simp [snpI, List.append_assoc])), hbel8⟩
                  case measure => simp [intOf]; omega
                · obtain rfl : m = sm := by omega
                  have ht : xs.take m = xs := List.take_of_length_le (by have := HXX.out.slen; (try simp only at this); omega)
                  rw [ht, HX1.out] at HK
                  have hlm' : ¬ (m : Int) < m := by omega
                  clear ht
                  go_wp2
                  go_roundw
                  case rel => exact ⟨j + 1, g2, by omega, by go_num, HK, hbel⟩
                  case measure => simp [intOf]; omega
            · obtain rfl : j = qn := by omega
              have ht : sets.take j = sets := List.take_of_length_le (by have := HSN.out; (try simp only at this); omega)
              rw [ht, HX0.out] at HK
              have hlj' : ¬ (j : Int) < j := by omega
              clear ht
              go_wp2
              go_roundw
              case rel => exact ⟨q + 1, g2, by omega, by go_num, HK, hbel⟩
              case measure => simp [intOf]; omega
        · obtain rfl : q = n := by omega
          have ht : p.tens.take q = p.tens := List.take_of_length_le (by have := HP.out.len; omega)
          rw [ht] at HK
          have hlt' : ¬ (q : Int) < q := by omega
          have HF : Hid (WAt wr w1.heap.size (w1.heap.size + 1) g2 (imageL p)) := Lib.hid (HK.out.same (by unfold imageL; rw [HA0.out, HP.out.len]))
          obtain ⟨v, pv, hv, -⟩ := HF.out
          obtain ⟨va, vn, vc, rfl⟩ := hv.shapeN
          have dv := cell_of_one pv
          have lv := lt_heap pv
          have HV := Lib.hid (hv.weaken (base' := w.heap.size) (by have := hbw.size; omega))
          have hbF := hbw.trans (hbel.mono hbw.size)
          clear ht HK HF hv pv
          go_wp2
          go_ret2
          exact ⟨_, by rw [HPE.out]; rfl, by rw [if_pos HPE.out]; exact HV.out, hbF⟩
end Go.Proofs.Ytfmgdjgedhnmeaa
