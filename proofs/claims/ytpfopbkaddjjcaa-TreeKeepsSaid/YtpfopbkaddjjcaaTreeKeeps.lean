/- rookerylaw.TreeKeeps: the walk. -/
import Derived.Test.YtpfopbkaddjjcaaTreeOrder
import Derived.Test.YtpfopbkaddjjcaaSame
import Derived.Test.YtpfopbkaddjjcaaDrop
namespace Go.Proofs.Ytpfopbkaddjjcaa
open Go.RowKit
set_option linter.unusedVariables false

theorem rows2_at {w : World} {ao : Option Addr} {L : List (List Int)} (h : Rows2 w ao L) (i : Nat) (hi : i < L.length) : ∃ b o, ao = some ⟨b, o, none⟩ ∧ ∃ ba bc, w.cell? ⟨b, o + i, none⟩ = some (.slice ba L[i].length bc) ∧ Row .u8 w ba L[i] := by
  obtain ⟨b, o, rfl, hc⟩ := h.resolve_left (fun e => by rw [e] at hi; simp at hi)
  obtain ⟨u, x, ba, bc, rfl, hr, -⟩ := hc i hi
  exact ⟨b, o, rfl, ba, bc, x, hr⟩

theorem sameS_refl (s : List Blk) : sameS s s = true := by simp [sameS]

set_option maxRecDepth 100000 in
set_option maxHeartbeats 4000000 in
theorem law_keeps_crowd (w : World) (ao ba : Option Addr) (n cap nb bc : Nat) (s : List Blk) (root l i : Int) (hn : s.length = n) (h41 : n ≤ 2199023255552) (hs : StoRow w ao s) (hcr : crowdB s = true) :
    Calls Try.prog 15 #[.agg #[.slice ao n cap], .int .i64 root, .int .i64 l, .int .i64 i, .slice ba nb bc] w fun e w' => e = .returned (.bool true) ∧ Below w.heap.size w w' := by
  have HN := Lib.hid hn
  have hb0 : Below w.heap.size w (w.alloc (.cells #[.slice ao n cap] 40)) := (Below.refl _ _).alloc (Nat.le_refl _) _
  clear hn
  go_enter Try.func15, Try.ntmps15
  go_wp2_with fail
  generalize w.alloc (Obj.cells #[Value.slice ao n cap] 40) = W0 at *
  refine (crowded_any W0 ao n cap s HN.out h41 (hs.mono hb0)).mono ?_
  rw [hcr]
  rintro e w1 ⟨rfl, hb1⟩
  have hbw := below_step hb0 hb1
  go_wp2
  go_ret
  exact ⟨rfl, hbw⟩

set_option maxRecDepth 100000 in
set_option maxHeartbeats 4000000 in
theorem law_keeps_stop (w : World) (ao ba : Option Addr) (n cap nb bc : Nat) (s : List Blk) (root l i : Int) (b : List Int) (hn : s.length = n) (h41 : n ≤ 2199023255552) (hs : StoRow w ao s) (hwf : WfS s) (hc : Capd ao n cap)
    (hnb : b.length = nb) (hbr : Row .u8 w ba b) (hbc : Capd ba nb bc) (hby : Byt b) (hb47 : nb ≤ 140737488351232) (hcr : crowdB s = false) (hstop : (tputR s root l i b).2.2 ≠ 0) :
    Calls Try.prog 15 #[.agg #[.slice ao n cap], .int .i64 root, .int .i64 l, .int .i64 i, .slice ba nb bc] w fun e w' => e = .returned (.bool true) ∧ Below w.heap.size w w' := by
  have HN := Lib.hid hn
  have h1 := fun (u : World) (h : Below w.heap.size w u) => treePut_any u ao ba n cap nb bc s root l i b hn (by omega) (hs.mono h) hwf hc hnb (hbr.mono h) hbc hby hb47
  generalize tputR s root l i b = T at *
  obtain ⟨t, a, te⟩ := T
  simp only at h1 hstop
  have HP1 := Lib.hid h1
  have ht1 : (te != 0) = true := by rw [bne_iff_ne]; exact hstop
  have hb0 : Below w.heap.size w (w.alloc (.cells #[.slice ao n cap] 40)) := (Below.refl _ _).alloc (Nat.le_refl _) _
  have p0 : (w.alloc (.cells #[.slice ao n cap] 40)).heap[w.heap.size]? = some (.cells #[.slice ao n cap] 40 (0, 0)) := heap_alloc_new _ _
  clear hn hc hnb hbc hbr h1 hstop
  go_enter Try.func15, Try.ntmps15
  go_wp2_with fail
  generalize w.alloc (Obj.cells #[Value.slice ao n cap] 40) = W0 at *
  refine (crowded_any W0 ao n cap s HN.out h41 (hs.mono hb0)).mono ?_
  rw [hcr]
  rintro e w1 ⟨rfl, hb1⟩
  have hbw1 := below_step hb0 hb1
  replace p0 := (hb1.block _ (lt_heap p0)).trans p0
  have c0 := cell_of_one p0
  have l0 := lt_heap p0
  go_wp2_with fail
  refine (HP1.out w1 hbw1).mono ?_
  rintro e w2 ⟨v2, rfl, ho2, hb2⟩
  obtain ⟨a2, c2, rfl, -, -⟩ := ho2.sto
  generalize t.length = n2 at *
  have hA : Below w2.heap.size w2 (w2.alloc (.cells #[.slice a2 n2 c2] 40)) := (Below.refl _ _).alloc (Nat.le_refl _) _
  have hbw2 := below_step (below_step hbw1 hb2) hA
  clear ho2 c0 l0 HP1
  go_wp2_with fail
  generalize w2.alloc (Obj.cells #[Value.slice a2 n2 c2] 40) = W2 at *
  refine (rooted_any _).mono ?_
  rintro e w4 ⟨rfl, hb4⟩
  have hbw4 := below_step hbw2 hb4
  go_wp2_with fail
  refine (rooted_any _).mono ?_
  rintro e w5 ⟨rfl, hb5⟩
  have hbw5 := below_step hbw4 hb5
  go_wp2
  go_ret
  exact ⟨rfl, hbw5⟩

set_option maxRecDepth 100000 in
set_option maxHeartbeats 8000000 in
theorem law_keeps_go (w : World) (ao ba : Option Addr) (n cap nb bc : Nat) (s t : List Blk) (root l a : Int) (j : Nat) (b : List Int) (L0 L1 : List (List Int)) (q : Nat) (hn : s.length = n) (h41 : n ≤ 2199023255552) (hs : StoRow w ao s) (hwf : WfS s) (hc : Capd ao n cap)
    (hnb : b.length = nb) (hbr : Row .u8 w ba b) (hbc : Capd ba nb bc) (hby : Byt b) (hb47 : nb ≤ 140737488351232) (hcr : crowdB s = false)
    (H1 : tputR s root l j b = (t, a, 0)) (HA0 : allR s root l = (L0, 0)) (HA1 : allR t root l = (L0, 0)) (HA2 : allR t a l = (L1, 0)) (N0 : L0.length = q) (N1 : L1.length = q) (hq : q ≤ 64) (hjq : j < q) (hLj : L1[j]? = some b) (hLo : ∀ k, k < q → k ≠ j → L1[k]? = L0[k]?)
    (hct : checkE t = 0) (wt : WfS t) (hz : a = 0 → t = s) (hd : a ≠ 0 → dropR t a = (s, 0)) (BL0 : ∀ x ∈ L0, Byt x) (BL1 : ∀ x ∈ L1, Byt x) (h400 : n ≤ 400) :
    Calls Try.prog 15 #[.agg #[.slice ao n cap], .int .i64 root, .int .i64 l, .int .i64 j, .slice ba nb bc] w fun e w' => e = .returned (.bool true) ∧ Below w.heap.size w w' := by
  have HN := Lib.hid hn
  obtain ⟨n1, hn1⟩ : ∃ n1, t.length = n1 := ⟨_, rfl⟩
  have F1 : n1 ≤ 400 := by have := (checkE_zero t hct).1; omega
  have h1 := fun (u : World) (h : Below w.heap.size w u) => treePut_any u ao ba n cap nb bc s root l j b hn (by omega) (hs.mono h) hwf hc hnb (hbr.mono h) hbc hby hb47
  rw [H1] at h1
  have h2 := fun (u : World) (h : Below w.heap.size w u) => all_any u ao n cap s root l hn (by omega) (hs.mono h) hwf
  rw [HA0] at h2
  have h3 := fun (u : World) (ax : Option Addr) (cx : Nat) (h : StoRow u ax t) => all_any u ax n1 cx t root l hn1 (by omega) h wt
  rw [HA1] at h3
  have h4 := fun (u : World) (ax : Option Addr) (cx : Nat) (h : StoRow u ax t) => all_any u ax n1 cx t a l hn1 (by omega) h wt
  rw [HA2] at h4
  have h5 := fun (u : World) (ax : Option Addr) (cx : Nat) (h : StoRow u ax t) => check_any u ax n1 cx t hn1 (by omega) h wt
  rw [hct] at h5
  have h6 := fun (u : World) (h : Below w.heap.size w u) (ax : Option Addr) (cx : Nat) (hx : StoRow u ax t) => same_any u ax ao n1 cx n cap t s hn1 hn (by omega) (by omega) hx (hs.mono h) wt hwf
  have h7 := fun (u : World) (ax : Option Addr) (cx : Nat) (hx : StoRow u ax t) (hcx : Capd ax n1 cx) => drop_any u ax n1 cx t a hn1 (by omega) hx wt hcx
  have h8 := fun (u : World) (h : Below w.heap.size w u) (ax : Option Addr) (cx : Nat) (hx : StoRow u ax s) => same_any u ax ao n cx n cap s s hn hn (by omega) (by omega) hx (hs.mono h) hwf hwf
  rw [sameS_refl] at h8
  have HP := Lib.hid h1
  have HL0 := Lib.hid h2
  have HL1 := Lib.hid h3
  have HL2 := Lib.hid h4
  have HCK := Lib.hid h5
  have HSM := Lib.hid h6
  have HDR := Lib.hid h7
  have HSS := Lib.hid h8
  have HN1 := Lib.hid hn1
  have HQ0 := Lib.hid N0
  have HQ1 := Lib.hid N1
  have HB0 := Lib.hid BL0
  have HB1 := Lib.hid BL1
  have HNB := Lib.hid hnb
  have HLJ := Lib.hid hLj
  have HLO := Lib.hid hLo
  have HZ := Lib.hid hz
  have HD := Lib.hid hd
  have HBR := Lib.hid hbr
  have hb0 : Below w.heap.size w (w.alloc (.cells #[.slice ao n cap] 40)) := (Below.refl _ _).alloc (Nat.le_refl _) _
  have p0 : (w.alloc (.cells #[.slice ao n cap] 40)).heap[w.heap.size]? = some (.cells #[.slice ao n cap] 40 (0, 0)) := heap_alloc_new _ _
  clear hn hc hnb hbc hbr H1 HA0 HA1 HA2 N0 N1 hLj hLo hz hd BL0 BL1 hn1 h1 h2 h3 h4 h5 h6 h7 h8 hct wt
  go_enter Try.func15, Try.ntmps15
  go_wp2_with fail
  generalize w.alloc (Obj.cells #[Value.slice ao n cap] 40) = W0 at *
  refine (crowded_any W0 ao n cap s HN.out h41 (hs.mono hb0)).mono ?_
  rw [hcr]
  rintro e w1 ⟨rfl, hb1⟩
  have hbw1 := below_step hb0 hb1
  replace p0 := (hb1.block _ (lt_heap p0)).trans p0
  have c0 := cell_of_one p0
  have l0 := lt_heap p0
  go_wp2_with fail
  refine (HP.out w1 hbw1).mono ?_
  rintro e w2 ⟨v2, rfl, ho2, hb2⟩
  obtain ⟨a2, c2, rfl, hc2, hs2⟩ := ho2.sto
  simp only at hs2 hc2 ⊢
  rw [HN1.out] at hc2 ⊢
  replace p0 := (hb2.block _ (lt_heap p0)).trans p0
  have hA : Below w2.heap.size w2 (w2.alloc (.cells #[.slice a2 n1 c2] 40)) := (Below.refl _ _).alloc (Nat.le_refl _) _
  have pm : (w2.alloc (.cells #[.slice a2 n1 c2] 40)).heap[w2.heap.size]? = some (.cells #[.slice a2 n1 c2] 40 (0, 0)) := heap_alloc_new _ _
  replace p0 := (hA.block _ (lt_heap p0)).trans p0
  replace hs2 := hs2.mono hA
  have hbw2 := below_step (below_step hbw1 hb2) hA
  clear ho2 c0 l0 HP
  go_wp2_with fail
  generalize w2.alloc (Obj.cells #[Value.slice a2 n1 c2] 40) = W2 at *
  refine (rooted_any _).mono ?_
  rintro e w3 ⟨rfl, hb3⟩
  replace p0 := (hb3.block _ (lt_heap p0)).trans p0
  replace pm := (hb3.block _ (lt_heap pm)).trans pm
  replace hs2 := hs2.mono hb3
  have hbw3 := below_step hbw2 hb3
  have c0 := cell_of_one p0
  have l0 := lt_heap p0
  go_wp2_with fail
  refine (HL0.out w3 hbw3).mono ?_
  rintro e w4 ⟨v4, vs4, rfl, hov4, hw4, hb4⟩
  have hl4 : vs4.length = q := hw4.len.trans HQ0.out
  rw [hl4] at hov4
  obtain ⟨a4, c4, rfl, hr4⟩ := rows2_of hov4 hl4 hw4
  simp only at hr4 ⊢
  replace p0 := (hb4.block _ (lt_heap p0)).trans p0
  replace pm := (hb4.block _ (lt_heap pm)).trans pm
  replace hs2 := hs2.mono hb4
  have hbw4 := below_step hbw3 hb4
  clear c0 l0 hov4 hw4 hl4
  have cm := cell_of_one pm
  have lm := lt_heap pm
  go_wp2_with fail
  refine (HL1.out w4 a2 c2 hs2).mono ?_
  rintro e w5 ⟨v5, vs5, rfl, hov5, hw5, hb5⟩
  have hl5 : vs5.length = q := hw5.len.trans HQ0.out
  rw [hl5] at hov5
  obtain ⟨a5, c5, rfl, hr5⟩ := rows2_of hov5 hl5 hw5
  simp only at hr5 ⊢
  replace p0 := (hb5.block _ (lt_heap p0)).trans p0
  replace pm := (hb5.block _ (lt_heap pm)).trans pm
  replace hs2 := hs2.mono hb5
  replace hr4 := hr4.mono hb5
  have hbw5 := below_step hbw4 hb5
  clear cm lm hov5 hw5 hl5
  have cm := cell_of_one pm
  have lm := lt_heap pm
  go_wp2_with fail
  refine (HL2.out w5 a2 c2 hs2).mono ?_
  rintro e w6 ⟨v6, vs6, rfl, hov6, hw6, hb6⟩
  have hl6 : vs6.length = q := hw6.len.trans HQ1.out
  rw [hl6] at hov6
  obtain ⟨a6, c6, rfl, hr6⟩ := rows2_of hov6 hl6 hw6
  simp only at hr6 ⊢
  replace p0 := (hb6.block _ (lt_heap p0)).trans p0
  replace pm := (hb6.block _ (lt_heap pm)).trans pm
  replace hs2 := hs2.mono hb6
  replace hr4 := hr4.mono hb6
  replace hr5 := hr5.mono hb6
  have hbw6 := below_step hbw5 hb6
  clear cm lm hov6 hw6 hl6
  have hj0 : ¬ (j : Int) < 0 := by omega
  have hjq1 : ¬ (q : Int) ≤ j := by omega
  have hjq2 : (j : Int) < q := by omega
  have cm := cell_of_one pm
  have lm := lt_heap pm
  go_wp2_with fail
  refine (equalRows w6 a4 a5 q c4 q c5 L0 L0 HQ0.out HQ0.out (by omega) (by omega) hr4 hr5 HB0.out HB0.out).mono ?_
  rw [decide_eq_true (rfl : L0 = L0)]
  rintro e w7 ⟨rfl, rfl⟩
  have hj1 : j < L1.length := by have := HQ1.out; omega
  have hLj : L1[j] = b := by have := HLJ.out; rw [List.getElem?_eq_getElem hj1] at this; simpa using this
  obtain ⟨b6, o6, rfl, ba6, bc6, x6, hrj⟩ := rows2_at hr6 j hj1
  rw [hLj] at x6 hrj
  rw [HNB.out] at x6
  have l6 := World.block_lt_of_cell? _ _ x6
  have hrb := HBR.out.mono hbw6
  clear hLj hr5
  go_wp2_with fail
  refine (bytes_equal_n ba6 ba nb nb bc6 bc b b w7 HNB.out HNB.out hrj hrb hby hby).mono ?_
  rw [beq_self_eq_true]
  rintro e w8 ⟨rfl, rfl⟩
  go_wp2_with fail
  refine (HCK.out w7 a2 c2 hs2).mono ?_
  rintro e w9 ⟨rfl, hb9⟩
  replace p0 := (hb9.block _ (lt_heap p0)).trans p0
  replace pm := (hb9.block _ (lt_heap pm)).trans pm
  replace hs2 := hs2.mono hb9
  replace hr4 := hr4.mono hb9
  replace hr6 := hr6.mono hb9
  have hbw9 := below_step hbw6 hb9
  have HR4 := Lib.hid hr4
  have HR6 := Lib.hid hr6
  clear cm lm hr4 hr6 x6 l6 hrj hrb
  generalize w9 = W9 at *
  go_wp2
  go_loop [104] (fun x => ∃ k : Nat, k ≤ q ∧ x = .int .i64 k) (fun x => q - (intOf x).toNat)
  case atStart => exact ⟨0, Nat.zero_le _, rfl⟩
  case round =>
    obtain ⟨k, hk, rfl⟩ := hrel
    by_cases hlt : k < q
    · have hk1 : k < L1.length := by have := HQ1.out; omega
      have hk0 : k < L0.length := by have := HQ0.out; omega
      obtain ⟨by1, oy1, e1, bay1, bcy1, xy1, hry1⟩ := rows2_at HR6.out k hk1
      simp only [Option.some.injEq, Addr.mk.injEq, and_true] at e1
      obtain ⟨rfl, rfl⟩ := e1
      have ly1 := World.block_lt_of_cell? _ _ xy1
      have hkq : (k : Int) < q := by omega
      by_cases hkj : k = j
      · subst hkj
        have hne : ((k : Int) != k) = false := by simp
        generalize L1[k].length = y1 at *
        go_wp2
        go_round
        case rel => exact ⟨k + 1, by omega, by go_num⟩
        case measure => simp [intOf]; omega
      · have hne : ((k : Int) != j) = true := by rw [bne_iff_ne]; omega
        obtain ⟨bx, ox, rfl, bax, bcx, xx, hrx⟩ := rows2_at HR4.out k hk0
        have lx := World.block_lt_of_cell? _ _ xx
        have hE : L1[k] = L0[k] := by
          have := HLO.out k hlt hkj
          rw [List.getElem?_eq_getElem hk1, List.getElem?_eq_getElem hk0] at this
          simpa using this
        have hbx := HB0.out _ (List.getElem_mem hk0)
        rw [hE] at xy1 hry1
        clear hE
        generalize L0[k] = xs at *
        obtain ⟨xn, hxn⟩ : ∃ xn, xs.length = xn := ⟨_, rfl⟩
        rw [hxn] at xx xy1
        have HXN := Lib.hid hxn
        clear hxn
        go_wp2_with fail
        refine (bytes_equal_n bay1 bax xn xn bcy1 bcx xs xs W9 HXN.out HXN.out hry1 hrx hbx hbx).mono ?_
        rw [beq_self_eq_true]
        rintro e w10 ⟨rfl, rfl⟩
        go_wp2
        go_round
        case rel => exact ⟨k + 1, by omega, by go_num⟩
        case measure => simp [intOf]; omega
    · obtain rfl : k = q := by omega
      have c0 := cell_of_one p0
      have l0 := lt_heap p0
      have cm := cell_of_one pm
      have lm := lt_heap pm
      by_cases ha : a = 0
      · have hts := HZ.out ha
        have ha0 : (a == 0) = true := by rw [beq_iff_eq]; exact ha
        have hSM := HSM.out W9 hbw9 a2 c2 hs2
        rw [hts, sameS_refl] at hSM
        clear ha hts
        go_wp2_with fail
        refine hSM.mono ?_
        rintro e w11 ⟨rfl, hb11⟩
        have hbw11 := below_step hbw9 hb11
        go_wp2
        go_ret
        exact ⟨rfl, hbw11⟩
      · have ha0 : (a == 0) = false := by rw [beq_eq_false_iff_ne]; exact ha
        have hD := HDR.out W9 a2 c2 hs2 hc2
        rw [HD.out ha] at hD
        clear ha
        go_wp2_with fail
        refine hD.mono ?_
        rintro e w11 ⟨v11, rfl, ho11, hb11⟩
        obtain ⟨a11, c11, rfl, hc11, hs11⟩ := ho11.sto
        simp only at hs11 ⊢
        rw [HN.out]
        have p011 := (hb11.block _ l0).trans p0
        have hB : Below w11.heap.size w11 (w11.alloc (.cells #[.slice a11 n c11] 40)) := (Below.refl _ _).alloc (Nat.le_refl _) _
        have p012 := (hB.block _ (lt_heap p011)).trans p011
        have hs12 := hs11.mono hB
        have hbw12 := below_step (below_step hbw9 hb11) hB
        have c012 := cell_of_one p012
        have l012 := lt_heap p012
        clear hD ho11 c0 l0 cm lm
        go_wp2_with fail
        generalize w11.alloc (Obj.cells #[Value.slice a11 n c11] 40) = W12 at *
        refine (HSS.out W12 hbw12 a11 c11 hs12).mono ?_
        rintro e w13 ⟨rfl, hb13⟩
        have hbw13 := below_step hbw12 hb13
        go_wp2
        go_ret
        exact ⟨rfl, hbw13⟩

theorem leavesF_some (m : Nat) (s : List Blk) (a : Int) (k : Nat) (h : k < p4n m) : (leavesF m s a)[k]? = some (leafB m s a k) := by
  rw [List.getElem?_eq_getElem (by rw [leavesF_len]; exact h), leavesF_get]

theorem law_keeps (w : World) (ao ba : Option Addr) (n cap nb bc : Nat) (s : List Blk) (root l i : Int) (b : List Int) (hn : s.length = n) (h41 : n ≤ 2199023255552) (hs : StoRow w ao s) (hwf : WfS s) (hc : Capd ao n cap)
    (hnb : b.length = nb) (hbr : Row .u8 w ba b) (hbc : Capd ba nb bc) (hby : Byt b) (hb47 : nb ≤ 140737488351232) :
    Calls Try.prog 15 #[.agg #[.slice ao n cap], .int .i64 root, .int .i64 l, .int .i64 i, .slice ba nb bc] w fun e w' => e = .returned (.bool true) ∧ Below w.heap.size w w' := by
  cases hcr : crowdB s with
  | true => exact law_keeps_crowd w ao ba n cap nb bc s root l i hn h41 hs hcr
  | false =>
    by_cases h1 : (tputR s root l i b).2.2 = 0
    rotate_left
    · exact law_keeps_stop w ao ba n cap nb bc s root l i b hn h41 hs hwf hc hnb hbr hbc hby hb47 hcr h1
    obtain ⟨q1, q2, q3, q4⟩ := tput_ok h1
    obtain ⟨hce, m, rfl, hm, hra, hi0, him⟩ := checkT_ok q1
    obtain ⟨j, rfl⟩ : ∃ k : Nat, i = k := ⟨i.toNat, by omega⟩
    rw [p4n_int] at him
    rw [Int.toNat_natCast, Int.toNat_natCast] at q3 q4
    have hfew := crowdB_few hcr
    have hjq : j < p4n m := by omega
    have hX := set_ok m s root j b hm hce hwf hfew hra hjq hby (by omega) q3
    obtain ⟨-, -, -, -, -, b6, b7⟩ := set_okM 999000 (by omega) (by omega) m s root j b hm hce hwf hfew hra hjq hby (by omega) q3
    have hOld : leavesF m (setF m s root j b).1 root = leavesF m s root := by
      unfold leavesF
      apply List.map_congr_left
      intro k hk
      exact b7 k (List.mem_range.1 hk)
    have hA1 := allR_mk hX.chk hm hX.old
    rw [hOld] at hA1
    refine law_keeps_go w ao ba n cap nb bc s (setF m s root j b).1 root m (setF m s root j b).2.1 j b (leavesF m s root) (leavesF m (setF m s root j b).1 (setF m s root j b).2.1) (p4n m) hn h41 hs hwf hc hnb hbr hbc hby hb47 hcr ?_ (allR_mk hce hm hra) hA1 (allR_mk hX.chk hm hX.new) (leavesF_len _ _ _) (leavesF_len _ _ _) (by unfold p4n; (repeat' split) <;> omega) hjq ?_ ?_
      hX.chk hX.wf hX.none hX.drop (leavesF_byt hwf m root) (leavesF_byt hX.wf m _) (by have := (checkE_zero s hce).1; omega)
    · rw [q4]
      exact Prod.ext rfl (Prod.ext rfl q3)
    · rw [leavesF_some m _ _ j hjq, b6 j hjq, if_pos rfl]
    · intro k hk hkj
      rw [leavesF_some m _ _ k hk, leavesF_some m _ _ k hk, b6 k hk, if_neg hkj]
end Go.Proofs.Ytpfopbkaddjjcaa
