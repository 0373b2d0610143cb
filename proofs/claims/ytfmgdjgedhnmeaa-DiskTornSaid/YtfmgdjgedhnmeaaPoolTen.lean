/- pool.tenant: what is wrong with a tenant; its roots. -/
import Derived.Test.YtfmgdjgedhnmeaaPoolP
import Derived.Deep.CutBlock
namespace Go.Proofs.Ytfmgdjgedhnmeaa
open Go.RowKit
set_option linter.unusedVariables false

theorem rootsL_take_len (l : List SetV) (k : Nat) (hk : k ≤ l.length) (h : ∀ x ∈ l, SmallX x) : ((l.take k).flatMap rootsL).length ≤ 24 * k := by
  induction k with
  | zero => simp
  | succ k ih =>
    rw [rootsT_take l k (by omega), List.length_append]
    have h1 := ih (by omega)
    have h2 := (h l[k] (List.getElem_mem _)).roots
    omega

set_option maxRecDepth 100000 in
set_option maxHeartbeats 8000000 in
/-- roots of a tenant -/
theorem troots_any (w : World) (ao : Option Addr) (n cap : Nat) (t : TenV) (ht : TenIn w ao n cap t) (hsm : ∀ x ∈ t.sets, SmallX x) (h3 : t.sets.length ≤ 3) :
    Calls Try.prog 90 #[.agg #[.int .i64 t.key, .int .i64 t.quota, .slice ao n cap]] w fun e w' => ∃ v, e = .returned v ∧ Own .i64 3 w.heap.size w' v (rootsT t) ∧ Below w.heap.size w w' := by
  have HT := Lib.hid ht
  have HSM := Lib.hid hsm
  have hn3 : (n : Int) ≤ 3 := by have := ht.len; omega
  have hb0 : Below w.heap.size w (w.alloc (.cells #[.int .i64 t.key, .int .i64 t.quota, .slice ao n cap] 75)) := (Below.refl _ _).alloc (Nat.le_refl _) _
  have p0 : (w.alloc (.cells #[.int .i64 t.key, .int .i64 t.quota, .slice ao n cap] 75)).heap[w.heap.size]? = some (.cells #[.int .i64 t.key, .int .i64 t.quota, .slice ao n cap] 75 (0, 0)) := heap_alloc_new _ _
  clear ht hsm h3
  go_enter Try.func90, Try.ntmps90
  go_wp2
  have HT := Lib.hid (HT.out.mono hb0)
  generalize w.alloc (Obj.cells #[Value.int .i64 t.key, Value.int .i64 t.quota, Value.slice ao n cap] 75) = W1 at *
  go_loopw [3, 9] (fun v i wr => ∃ k : Nat, k ≤ n ∧ i = .int .i64 k ∧ Own .i64 3 W1.heap.size wr v ((t.sets.take k).flatMap rootsL) ∧ Below W1.heap.size W1 wr) (fun _ i _ => n - (intOf i).toNat)
  case atStart => exact ⟨0, Nat.zero_le _, rfl, Own.nil _ _ _ _, Below.refl _ _⟩
  case round =>
    obtain ⟨k, hkn, rfl, hown, hbel⟩ := hrel
    by_cases hlt : k < n
    · have hkl : k < t.sets.length := by have := HT.out.len; omega
      have hlt' : (k : Int) < n := by omega
      obtain ⟨b, o, rfl, hq⟩ := (HT.out.row.mono hbel).at k hkl
      obtain ⟨fo, fn, fc, so, sn, sc, hE, hX⟩ := hq k hkl
      have c0 := hE.nm
      have c1 := hE.fl
      have c2 := hE.sl
      have lb := hE.lt
      have HKT := Lib.hid (rootsT_take t.sets k hkl)
      have HLEN := Lib.hid (rootsL_take_len t.sets k (by omega) HSM.out)
      have hsx := HSM.out _ (List.getElem_mem hkl)
      clear hq hE
      generalize t.sets[k] = x at *
      obtain ⟨nm, xf, xs⟩ := x
      simp only at c0 c1 c2
      have hb2 : Below wr.heap.size wr (wr.alloc (.cells #[.string nm, .slice fo fn fc, .slice so sn sc] 28)) := (Below.refl _ _).alloc (Nat.le_refl _) _
      have hown2 := hown.mono hb2
      have hX2 := hX.mono hb2
      have hbel2 := below_step hbel hb2
      have q2 : (wr.alloc (.cells #[.string nm, .slice fo fn fc, .slice so sn sc] 28)).heap[wr.heap.size]? = some (.cells #[.string nm, .slice fo fn fc, .slice so sn sc] 28 (0, 0)) := heap_alloc_new _ _
      have d0 := cell_of_block q2 0
      have d1 := cell_of_block q2 1
      have d2 := cell_of_block q2 2
      simp at d0 d1 d2
      have l2 := lt_heap q2
      clear hown hb2 q2 hX hbel
      go_wp2_with fail
      generalize wr.alloc (.cells #[.string nm, .slice fo fn fc, .slice so sn sc] 28) = W2 at *
      refine (roots_any W2 _ _ _ _ _ _ _ hX2 hsx).mono ?_
      rintro e w3 ⟨v3, rfl, ho3, hb3⟩
      have hsr := hsx.roots
      obtain ⟨ro, rc, rfl, _, _, hrow3, hrc3⟩ := ho3.shape'
      have hown3 := hown2.mono hb3
      have hbel3 := below_step hbel2 hb3
      have hsz3 := hbel3.size
      clear hown2 hX2 d0 d1 d2 l2 c0 c1 c2 lb hsx ho3
      go_wp2_with (first
        | (at_builtin; refine append_ints rfl (.tmp 13) (.tmp 15) _ rfl .i64 3 8 W1.heap.size Try.underlying91 info_int _ _ _ _ _ rfl hown3 rfl hrow3 hrc3 ?_ ?_ hsz3 ?_; rotate_right; intro v' w4 hown4 hbel4 hnil4))
      · clear hnil4
        go_roundw
        case rel => exact ⟨k + 1, by omega, by go_num, by rw [HKT.out]; exact hown4, hbel3.trans hbel4⟩
        case measure => simp [intOf]; omega
      · have := HLEN.out; unfold maxLen; omega
      · have := HLEN.out; omega
    · obtain rfl : k = n := by omega
      have ht : t.sets.take k = t.sets := List.take_of_length_le (by have := HT.out.len; omega)
      rw [ht] at hown
      have hbw := hb0.trans (hbel.mono hb0.size)
      have hown' : Own .i64 3 w.heap.size wr _ (rootsT t) := hown.weaken hb0.size
      clear ht hown
      have hlt' : ¬ (k : Int) < k := by omega
      go_wp2
      go_ret
      exact ⟨_, rfl, hown', hbw⟩

/-- is there something that is not nought? -/
def nzB (l : List Int) : Bool := l.any fun n => decide (n ≠ 0)
theorem any_take (l : List Int) (k : Nat) (h : k < l.length) : nzB (l.take (k + 1)) = (nzB (l.take k) || decide (l[k] ≠ 0)) := by
  unfold nzB
  rw [List.take_succ_eq_append_getElem h, List.any_append]
  simp
theorem any_hit (l : List Int) (k : Nat) (h : k < l.length) (hz : l[k] ≠ 0) : nzB l = true := List.any_eq_true.2 ⟨l[k], List.getElem_mem h, by simp [hz]⟩
theorem nz_any (w : World) (x : Int) : Calls Try.prog 92 #[.int .i64 x] w fun e w' => e = .returned (.bool (x != 0)) ∧ w = w' := by
  go_enter Try.func92, Try.ntmps92
  go_wp2
  go_ret
  exact ⟨rfl, rfl⟩
set_option maxRecDepth 100000 in
set_option maxHeartbeats 4000000 in
theorem indexNz (w : World) (ao : Option Addr) (n cap : Nat) (l : List Int) (hn : l.length = n) (hl : n ≤ 400) (hr : Row .i64 w ao l) :
    Calls Try.prog 110 #[.slice ao n cap, .func (.func 92) #[] #[]] w fun e w' => ∃ z, e = .returned (.int .i64 z) ∧ Hid (decide (0 ≤ z) = nzB l) ∧ w = w' := by
  have HN := Lib.hid hn
  clear hn
  have hl' : (n : Int) ≤ 400 := by omega
  go_enter Try.func110, Try.ntmps110
  go_wp2
  go_loopw [8] (fun i wr => ∃ k : Nat, k ≤ n ∧ i = .int .i64 k ∧ Hid (nzB (l.take k) = false) ∧ wr = w) (fun i _ => n - (intOf i).toNat)
  case atStart => exact ⟨0, Nat.zero_le _, rfl, Lib.hid rfl, rfl⟩
  case round =>
    obtain ⟨k, hkn, rfl, HK, rfl⟩ := hrel
    by_cases hlt : k < n
    · have hkl : k < l.length := by have := HN.out; omega
      have hlt' : (k : Int) < n := by omega
      obtain ⟨b, o, rfl, hq⟩ := hr.at k hkl
      have c0 := hq k hkl
      have lb := World.block_lt_of_cell? _ _ c0
      have HT := Lib.hid (any_take l k hkl)
      have HH := Lib.hid (any_hit l k hkl)
      clear hq
      generalize l[k] = x at *
      go_wp2_with fail
      refine (nz_any _ x).mono ?_
      rintro e w2 ⟨rfl, rfl⟩
      by_cases hx : x = 0
      · have hb : (x != 0) = false := by rw [hx]; rfl
        have HK2 := Lib.hid (show nzB (l.take (k + 1)) = false by rw [HT.out, HK.out, hx]; rfl)
        clear hx
        go_wp2
        go_roundw
        case rel => exact ⟨k + 1, by omega, by go_num, HK2, trivial⟩
        case measure => simp [intOf]; omega
      · have hb : (x != 0) = true := by rw [bne_iff_ne]; exact hx
        have HR := Lib.hid (HH.out hx)
        clear hx
        go_wp2
        go_ret
        exact ⟨_, rfl, Lib.hid (by rw [HR.out]; exact decide_eq_true (by omega)), rfl⟩
    · obtain rfl : k = n := by omega
      have ht : l.take k = l := List.take_of_length_le (by have := HN.out; omega)
      rw [ht] at HK
      have hlt' : ¬ (k : Int) < k := by omega
      clear ht
      go_wp2
      go_ret
      exact ⟨_, rfl, Lib.hid (by rw [HK.out]; exact decide_eq_false (by omega)), rfl⟩
set_option maxRecDepth 100000 in
theorem containsNz (w : World) (ao : Option Addr) (n cap : Nat) (l : List Int) (hn : l.length = n) (hl : n ≤ 400) (hr : Row .i64 w ao l) :
    Calls Try.prog 91 #[.slice ao n cap, .func (.func 92) #[] #[]] w fun e w' => e = .returned (.bool (nzB l)) ∧ w = w' := by
  have HI := Lib.hid (indexNz w ao n cap l hn hl hr)
  clear hn hr
  go_enter Try.func91, Try.ntmps91
  go_wp2_with fail
  refine HI.out.mono ?_
  rintro e w2 ⟨z, rfl, HZ, rfl⟩
  go_wp2
  go_ret
  exact ⟨ret_bool HZ.out, rfl⟩

set_option maxRecDepth 100000 in
set_option maxHeartbeats 8000000 in
/-- is a tenant right by itself? -/
theorem tenant_any (w : World) (ao ta : Option Addr) (n cap tn tc : Nat) (s : List Blk) (t : TenV) (hn : s.length = n) (hn63 : n ≤ 1152921504606846976) (hs : StoRow w ao s) (hwf : WfS s) (hc : checkE s = 0) (ht : TenIn w ta tn tc t) (hwt : WfT t) :
    Calls Try.prog 88 #[.agg #[.slice ao n cap], .agg #[.int .i64 t.key, .int .i64 t.quota, .slice ta tn tc]] w fun e w' => e = .returned (.int .i64 (tenE s t)) ∧ Below w.heap.size w w' := by
  have HN := Lib.hid hn
  have HT := Lib.hid ht
  have HWT := Lib.hid hwt
  obtain ⟨RD, hRD⟩ : ∃ RD, tenE s t = RD := ⟨_, rfl⟩
  rw [hRD]
  have HRD := Lib.hid hRD
  have hb0 : Below w.heap.size w ((w.alloc (.cells #[.slice ao n cap] 24)).alloc (.cells #[.int .i64 t.key, .int .i64 t.quota, .slice ta tn tc] 75)) := ((Below.refl _ _).alloc (Nat.le_refl _) _).alloc (by simp) _
  have p0 : ((w.alloc (.cells #[.slice ao n cap] 24)).alloc (.cells #[.int .i64 t.key, .int .i64 t.quota, .slice ta tn tc] 75)).heap[w.heap.size]? = some (.cells #[.slice ao n cap] 24 (0, 0)) := heap_alloc2_old _ _ _
  have p1 : ((w.alloc (.cells #[.slice ao n cap] 24)).alloc (.cells #[.int .i64 t.key, .int .i64 t.quota, .slice ta tn tc] 75)).heap[w.heap.size + 1]? = some (.cells #[.int .i64 t.key, .int .i64 t.quota, .slice ta tn tc] 75 (0, 0)) := heap_alloc2_new _ _ _
  clear hn hRD ht hwt hc
  obtain ⟨key, quota, sets⟩ := t
  simp only at *
  go_enter Try.func88, Try.ntmps88
  go_wp2_with fail
  have hs := hs.mono hb0
  have HT := Lib.hid (HT.out.mono hb0)
  generalize (w.alloc (Obj.cells #[Value.slice ao n cap] 24)).alloc (Obj.cells #[Value.int .i64 key, Value.int .i64 quota, Value.slice ta tn tc] 75) = W0 at *
  refine (seal_check key 0 W0).mono ?_
  rintro e w1 ⟨rfl, rfl⟩
  by_cases hk : keyE key 0 = 0
  rotate_left
  · have HR : Hid (RD = keyE key 0) := Lib.hid (by rw [← HRD.out]; unfold tenE; rw [if_pos hk])
    have he1 : (keyE key 0 != 0) = true := by rw [bne_iff_ne]; exact hk
    generalize keyE key 0 = ce at *
    clear hk hs
    go_wp2
    go_ret
    exact ⟨ret_int HR.out.symm, hb0⟩
  rw [hk]
  have c0 := cell_of_one p0
  have c10 := cell_of_block p1 0
  have c11 := cell_of_block p1 1
  have c12 := cell_of_block p1 2
  simp at c10 c11 c12
  have l0 := lt_heap p0
  have l1 := lt_heap p1
  by_cases hq : quota < 0 ∨ 400 < quota
  · have HR : Hid (RD = 3) := Lib.hid (by rw [← HRD.out]; unfold tenE; rw [if_neg (fun h => h hk), if_pos hq])
    clear hk hs
    rcases (show quota < 0 ∨ (¬ quota < 0 ∧ 400 < quota) from by omega) with hq1 | ⟨hq1, hq2⟩
    · clear hq
      go_wp2
      go_ret
      exact ⟨ret_int HR.out.symm, hb0⟩
    · clear hq
      go_wp2
      go_ret
      exact ⟨ret_int HR.out.symm, hb0⟩
  have hq1 : ¬ quota < 0 := by omega
  have hq2 : ¬ 400 < quota := by omega
  by_cases h3 : 3 < tn
  · have HR : Hid (RD = 2) := Lib.hid (by rw [← HRD.out]; unfold tenE; rw [if_neg (fun h => h hk), if_neg hq, if_pos (by have := HT.out.len; simp only at this ⊢; omega)])
    have h3' : (3 : Int) < tn := by omega
    clear hk hs hq
    go_wp2
    go_ret
    exact ⟨ret_int HR.out.symm, hb0⟩
  have HR0 : Hid (RD = tsetsE s key (prevT sets 0) (sets.drop 0)) := Lib.hid (by rw [← HRD.out]; unfold tenE; rw [if_neg (fun h => h hk), if_neg hq, if_neg (by have := HT.out.len; simp only at this ⊢; omega)]; rfl)
  have h3' : ¬ (3 : Int) < tn := by omega
  clear hk hq
  go_wp2
  go_loopw [30] (fun i wr => ∃ k : Nat, k ≤ tn ∧ i = .int .i64 k ∧ Hid (RD = tsetsE s key (prevT sets k) (sets.drop k)) ∧ Below W0.heap.size W0 wr) (fun i _ => tn - (intOf i).toNat)
  case atStart => exact ⟨0, Nat.zero_le _, rfl, HR0, Below.refl _ _⟩
  case round =>
    clear c0 c10 c11 c12
    obtain ⟨k, hkm, rfl, HK, hbel⟩ := hrel
    have hbw2 := below_step hb0 hbel
    by_cases hlt : k < tn
    · have hkl : k < sets.length := by have := HT.out.len; simp only at this; omega
      have hlt' : (k : Int) < tn := by omega
      obtain ⟨b, o, rfl, hq⟩ := (HT.out.row.mono hbel).at k hkl
      simp only at hq
      obtain ⟨fo, fn, fc, so, sn, sc, hE, hX⟩ := hq k hkl
      have c0 := hE.nm
      have c1 := hE.fl
      have c2 := hE.sl
      have lb := hE.lt
      have hst := tsetsE_step s key sets k hkl
      have hsi := (HWT.out.sets _ (List.getElem_mem hkl)).1
      have hk6 : (k : Int) < 3 := by omega
      have HPV : k ≠ 0 → ∃ q : ByteArray, wr.cell? ⟨b, o + (k - 1) * 3, none⟩ = some (.string q) ∧ prevT sets k = some q := fun h0 => by
        have h2 : k - 1 < sets.length := by omega
        obtain ⟨_, _, _, _, _, _, hE2, _⟩ := hq (k - 1) h2
        exact ⟨_, hE2.nm, by unfold prevT; rw [if_neg h0, List.getElem?_eq_getElem h2]; rfl⟩
      replace HPV := Lib.hid HPV
      have HST := Lib.hid hst
      have hs1 := hs.mono hbel
      have p0' := (hbel.block _ l0).trans p0
      have p1' := (hbel.block _ l1).trans p1
      clear hq hE hst
      generalize sets[k] = x at *
      obtain ⟨nm, xf, xs⟩ := x
      simp only at c0 c1 c2
      have x0 := cell_of_one p0'
      have x1 := cell_of_block p1' 0
      simp at x1
      have y0 := lt_heap p0'
      have y1 := lt_heap p1'
      go_wp2_with fail
      have hb2 : Below wr.heap.size wr (wr.alloc (.cells #[.string nm, .slice fo fn fc, .slice so sn sc] 28)) := (Below.refl _ _).alloc (Nat.le_refl _) _
      have q2 : (wr.alloc (.cells #[.string nm, .slice fo fn fc, .slice so sn sc] 28)).heap[wr.heap.size]? = some (.cells #[.string nm, .slice fo fn fc, .slice so sn sc] 28 (0, 0)) := heap_alloc_new _ _
      have p2 := (hb2.block _ (lt_heap p0')).trans p0'
      have p3 := (hb2.block _ (lt_heap p1')).trans p1'
      have hs2 := hs1.mono hb2
      have hX2 := hX.mono hb2
      have HPV2 : Hid (k ≠ 0 → ∃ q : ByteArray, (wr.alloc (.cells #[.string nm, .slice fo fn fc, .slice so sn sc] 28)).cell? ⟨b, o + (k - 1) * 3, none⟩ = some (.string q) ∧ prevT sets k = some q) := Lib.hid fun h0 => by
        obtain ⟨q, hq, hp⟩ := HPV.out h0
        exact ⟨q, ((bcell hb2).1 _ _ lb).trans hq, hp⟩
      have hbl2 := below_step hbel hb2
      have hbw3 := below_step hbw2 hb2
      have lb2 : b < (wr.alloc (.cells #[.string nm, .slice fo fn fc, .slice so sn sc] 28)).heap.size := Nat.lt_of_lt_of_le lb hb2.size
      clear hb2 hs1 p0' p1' c0 c1 c2 x0 x1 y0 y1 HPV lb hbw2 hbel hX
      generalize hwr : wr.alloc (.cells #[.string nm, .slice fo fn fc, .slice so sn sc] 28) = W2 at *
      clear hwr
      generalize wr.heap.size = B2 at *
      refine (setCheck_any W2 _ _ _ _ _ _ _ _ _ s key ⟨nm, xf, xs⟩ HN.out hn63 hs2 hwf hX2 hsi).mono ?_
      rintro e w3 ⟨rfl, hb3⟩
      by_cases hse : setE s key ⟨nm, xf, xs⟩ = 0
      rotate_left
      · have HR : Hid (RD = setE s key ⟨nm, xf, xs⟩) := Lib.hid (HK.out.trans (HST.out.trans (if_pos hse)))
        have he1 : (setE s key ⟨nm, xf, xs⟩ != 0) = true := by rw [bne_iff_ne]; exact hse
        generalize setE s key ⟨nm, xf, xs⟩ = ce at *
        clear hs hs2 hX2 hse HPV2
        go_wp2
        go_ret
        exact ⟨ret_int HR.out.symm, below_step hbw3 hb3⟩
      have HST2 := Lib.hid (HST.out.trans (if_neg (fun h => h hse)))
      rw [hse]
      have q2 := (hb3.block _ (lt_heap q2)).trans q2
      have p2 := (hb3.block _ (lt_heap p2)).trans p2
      have p3 := (hb3.block _ (lt_heap p3)).trans p3
      have HPV3 : Hid (k ≠ 0 → ∃ q : ByteArray, w3.cell? ⟨b, o + (k - 1) * 3, none⟩ = some (.string q) ∧ prevT sets k = some q) := Lib.hid fun h0 => by
        obtain ⟨q, hq, hp⟩ := HPV2.out h0
        exact ⟨q, ((bcell hb3).1 _ _ lb2).trans hq, hp⟩
      have lb3 : b < w3.heap.size := Nat.lt_of_lt_of_le lb2 hb3.size
      have hbl3 := below_step hbl2 hb3
      have hbw4 := below_step hbw3 hb3
      have d0 := cell_of_block q2 0
      have d3 := cell_of_block p3 2
      simp at d0 d3
      have l2 := lt_heap q2
      have lp3 := lt_heap p3
      clear hse HPV2 hs hs2 hX2 HST lb2 hsi
      have hbd : ∀ nq, Below w3.heap.size w3 (w3.drewN nq) := fun nq => ⟨rfl, rfl, rfl, Nat.le_refl _, fun _ _ => rfl⟩
      by_cases hk0 : k = 0
      · have hpv : prevT sets k = none := by rw [hk0]; rfl
        have hst := HST2.out.trans (if_neg (by rw [hpv]; simp [befB]))
        have HKN : Hid (RD = tsetsE s key (prevT sets (k + 1)) (sets.drop (k + 1))) := Lib.hid (HK.out.trans hst)
        have k0 : ¬ (0 : Int) < k := by omega
        have k1 : decide ((0 : Int) < k) = false := decide_eq_false k0
        have k2 : ¬ 0 < k := by omega
        have k3 : decide (0 < k) = false := decide_eq_false k2
        clear hst HPV3 hpv HST2
        replace hk0 := Lib.hid hk0
        go_wp2_with fail
        go_quiet (fail)
        go_wp2
        go_roundw
        case rel => exact ⟨k + 1, by omega, by go_num, HKN, below_step hbl3 (hbd _)⟩
        case measure => simp [intOf]; omega
      · obtain ⟨q, cq, hp⟩ := HPV3.out hk0
        have k0 : (0 : Int) < k := by omega
        have k1 : decide ((0 : Int) < k) = true := decide_eq_true k0
        have k2 : 0 < k := by omega
        have k3 : decide (0 < k) = true := decide_eq_true k2
        have k4 : (0 : Int) ≤ (k : Int) - 1 := by omega
        have k5 : (k : Int) - 1 < tn := by omega
        have k6 : ((k : Int) - 1).toNat = k - 1 := by omega
        clear HPV3
        cases hbl : Op.bytesLess q.toList nm.toList with
        | false =>
          have HR : Hid (RD = 6) := Lib.hid (HK.out.trans (HST2.out.trans (if_pos (by rw [hp]; simp [befB, hbl]))))
          clear HST2 hp
          go_wp2_with fail
          go_quiet (fail)
          go_wp2
          go_ret
          exact ⟨ret_int HR.out.symm, below_step hbw4 (hbd _)⟩
        | true =>
          have hst := HST2.out.trans (if_neg (by rw [hp]; simp [befB, hbl]))
          have HKN : Hid (RD = tsetsE s key (prevT sets (k + 1)) (sets.drop (k + 1))) := Lib.hid (HK.out.trans hst)
          clear hst hp HST2
          go_wp2_with fail
          go_quiet (fail)
          go_wp2
          go_roundw
          case rel => exact ⟨k + 1, by omega, by go_num, HKN, below_step hbl3 (hbd _)⟩
          case measure => simp [intOf]; omega
    · obtain rfl : k = tn := by omega
      have HR : Hid (RD = 0) := Lib.hid (by rw [HK.out, tsetsE_end s key sets _ (by have := HT.out.len; simp only at this; omega)])
      have hlt' : ¬ (k : Int) < k := by omega
      clear hs
      go_wp2
      go_ret
      exact ⟨ret_int HR.out.symm, hbw2⟩
end Go.Proofs.Ytfmgdjgedhnmeaa
