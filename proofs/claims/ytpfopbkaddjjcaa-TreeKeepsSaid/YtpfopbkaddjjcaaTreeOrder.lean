/- rookerylaw.TreeOrder: the walk. -/
import Derived.Test.YtpfopbkaddjjcaaRooted
import Derived.Test.YtpfopbkaddjjcaaSetY
import Derived.Test.YtpfopbkaddjjcaaCrowd
import Derived.Test.YtpfopbkaddjjcaaTreeDiffers
namespace Go.Proofs.Ytpfopbkaddjjcaa
open Go.RowKit
set_option linter.unusedVariables false

set_option maxRecDepth 100000 in
set_option maxHeartbeats 4000000 in
theorem law_order_crowd (w : World) (ao ba ca : Option Addr) (n cap nb bc nc cc : Nat) (s : List Blk) (root l i j : Int) (hn : s.length = n) (h41 : n ≤ 2199023255552) (hs : StoRow w ao s) (hcr : crowdB s = true) :
    Calls Try.prog 14 #[.agg #[.slice ao n cap], .int .i64 root, .int .i64 l, .int .i64 i, .slice ba nb bc, .int .i64 j, .slice ca nc cc] w fun e w' => e = .returned (.bool true) ∧ Below w.heap.size w w' := by
  have HN := Lib.hid hn
  have hb0 : Below w.heap.size w (w.alloc (.cells #[.slice ao n cap] 40)) := (Below.refl _ _).alloc (Nat.le_refl _) _
  clear hn
  go_enter Try.func14, Try.ntmps14
  go_wp2_with fail
  generalize w.alloc (Obj.cells #[Value.slice ao n cap] 40) = W0 at *
  refine (crowded_any W0 ao n cap s HN.out h41 (hs.mono hb0)).mono ?_
  rw [hcr]
  rintro e w1 ⟨rfl, hb1⟩
  have hbw := below_step hb0 hb1
  go_wp2
  go_ret
  exact ⟨rfl, hbw⟩

set_option maxRecDepth 100000 in
set_option maxHeartbeats 8000000 in
theorem law_order_stop (w : World) (ao ba ca : Option Addr) (n cap nb bc nc cc : Nat) (s : List Blk) (root l i j : Int) (b c : List Int) (hn : s.length = n) (h41 : n ≤ 2199023255552) (hs : StoRow w ao s) (hwf : WfS s) (hc : Capd ao n cap)
    (hnb : b.length = nb) (hbr : Row .u8 w ba b) (hbc : Capd ba nb bc) (hby : Byt b) (hb47 : nb ≤ 140737488351232) (hnc : c.length = nc) (hcr2 : Row .u8 w ca c) (hcc : Capd ca nc cc) (hcy : Byt c) (hc47 : nc ≤ 140737488351232) (hcr : crowdB s = false)
    (hstop : ((tputR s root l i b).2.2 != 0) = true ∨ (((tputR s root l i b).2.2 != 0) = false ∧ ((tputR s root l j c).2.2 != 0) = true) ∨ (((tputR s root l i b).2.2 != 0) = false ∧ ((tputR s root l j c).2.2 != 0) = false ∧ (i == j) = true)) :
    Calls Try.prog 14 #[.agg #[.slice ao n cap], .int .i64 root, .int .i64 l, .int .i64 i, .slice ba nb bc, .int .i64 j, .slice ca nc cc] w fun e w' => e = .returned (.bool true) ∧ Below w.heap.size w w' := by
  have HN := Lib.hid hn
  have HP1 := Lib.hid (fun (u : World) (h : Below w.heap.size w u) => treePut_any u ao ba n cap nb bc s root l i b hn (by omega) (hs.mono h) hwf hc hnb (hbr.mono h) hbc hby hb47)
  have HP2 := Lib.hid (fun (u : World) (h : Below w.heap.size w u) => treePut_any u ao ca n cap nc cc s root l j c hn (by omega) (hs.mono h) hwf hc hnc (hcr2.mono h) hcc hcy hc47)
  have hb0 : Below w.heap.size w (w.alloc (.cells #[.slice ao n cap] 40)) := (Below.refl _ _).alloc (Nat.le_refl _) _
  have p0 : (w.alloc (.cells #[.slice ao n cap] 40)).heap[w.heap.size]? = some (.cells #[.slice ao n cap] 40 (0, 0)) := heap_alloc_new _ _
  clear hn hc hnb hbc hnc hcc hbr hcr2
  go_enter Try.func14, Try.ntmps14
  go_wp2_with fail
  generalize w.alloc (Obj.cells #[Value.slice ao n cap] 40) = W0 at *
  refine (crowded_any W0 ao n cap s HN.out h41 (hs.mono hb0)).mono ?_
  rw [hcr]
  rintro e w1 ⟨rfl, hb1⟩
  have hbw1 := below_step hb0 hb1
  replace p0 := (hb1.block _ (lt_heap p0)).trans p0
  have c0 := cell_of_one p0
  have l0 := lt_heap p0
  go_wp2_with fail
  have h1 := HP1.out w1 hbw1
  have h2 := HP2.out
  generalize tputR s root l i b = T1 at *
  generalize tputR s root l j c = T2 at *
  obtain ⟨t1, x1, e1⟩ := T1
  obtain ⟨t2, x2, e2⟩ := T2
  simp only at h1 h2 hstop
  have H2 := Lib.hid h2
  refine h1.mono ?_
  rintro e w2 ⟨v2, rfl, ho2, hb2⟩
  obtain ⟨a2, c2, rfl, -, -⟩ := ho2.sto
  generalize t1.length = n2 at *
  replace p0 := (hb2.block _ (lt_heap p0)).trans p0
  have hA : Below w2.heap.size w2 (w2.alloc (.cells #[.slice a2 n2 c2] 40)) := (Below.refl _ _).alloc (Nat.le_refl _) _
  have p0' := (hA.block _ (lt_heap p0)).trans p0
  have hbw2 := below_step (below_step hbw1 hb2) hA
  clear h1 h2 ho2 c0 l0 HP1 HP2
  have c0 := cell_of_one p0'
  have l0 := lt_heap p0'
  go_wp2_with fail
  generalize w2.alloc (Obj.cells #[Value.slice a2 n2 c2] 40) = W2 at *
  refine (H2.out W2 hbw2).mono ?_
  rintro e w3 ⟨v3, rfl, ho3, hb3⟩
  obtain ⟨a3, c3, rfl, -, -⟩ := ho3.sto
  generalize t2.length = n3 at *
  have hB : Below w3.heap.size w3 (w3.alloc (.cells #[.slice a3 n3 c3] 40)) := (Below.refl _ _).alloc (Nat.le_refl _) _
  have hbw3 := below_step (below_step hbw2 hb3) hB
  clear ho3 c0 l0 H2
  go_wp2_with fail
  generalize w3.alloc (Obj.cells #[Value.slice a3 n3 c3] 40) = W3 at *
  refine (rooted_any _).mono ?_
  rintro e w4 ⟨rfl, hb4⟩
  have hbw4 := below_step hbw3 hb4
  rcases hstop with h | ⟨h', h⟩ | ⟨h', h'', h⟩
  all_goals
    go_wp2_with fail
    refine (rooted_any _).mono ?_
    rintro e w5 ⟨rfl, hb5⟩
    have hbw5 := below_step hbw4 hb5
    go_wp2
    go_ret
    exact ⟨rfl, hbw5⟩

set_option maxRecDepth 100000 in
set_option maxHeartbeats 8000000 in
theorem law_order_go (w : World) (ao ba ca : Option Addr) (n cap nb bc nc cc : Nat) (s t1 t2 t3 t4 : List Blk) (root l i j x1 x2 x3 x4 e3 e4 : Int) (b c : List Int) (LL : List (List Int)) (hn : s.length = n) (h41 : n ≤ 2199023255552) (hs : StoRow w ao s) (hwf : WfS s) (hc : Capd ao n cap)
    (hnb : b.length = nb) (hbr : Row .u8 w ba b) (hbc : Capd ba nb bc) (hby : Byt b) (hb47 : nb ≤ 140737488351232) (hnc : c.length = nc) (hcr2 : Row .u8 w ca c) (hcc : Capd ca nc cc) (hcy : Byt c) (hc47 : nc ≤ 140737488351232) (hcr : crowdB s = false)
    (H1 : tputR s root l i b = (t1, x1, 0)) (H2 : tputR s root l j c = (t2, x2, 0)) (hij : (i == j) = false) (W1 : WfS t1) (W2 : WfS t2) (F1 : t1.length ≤ 400) (F2 : t2.length ≤ 400) (H3 : tputR t1 x1 l j c = (t3, x3, e3)) (H4 : tputR t2 x2 l i b = (t4, x4, e4))
    (E3 : e3 = 0 ∨ e3 = 8) (E4 : e4 = 0 ∨ e4 = 8) (A3 : e3 = 0 → WfS t3 ∧ t3.length ≤ 400 ∧ allR t3 x3 l = (LL, 0)) (A4 : e4 = 0 → WfS t4 ∧ t4.length ≤ 400 ∧ allR t4 x4 l = (LL, 0)) (BL : ∀ x ∈ LL, Byt x) (NL : LL.length ≤ 1000) :
    Calls Try.prog 14 #[.agg #[.slice ao n cap], .int .i64 root, .int .i64 l, .int .i64 i, .slice ba nb bc, .int .i64 j, .slice ca nc cc] w fun e w' => e = .returned (.bool true) ∧ Below w.heap.size w w' := by
  have HN := Lib.hid hn
  obtain ⟨n1, hn1⟩ : ∃ n1, t1.length = n1 := ⟨_, rfl⟩
  obtain ⟨n2, hn2⟩ : ∃ n2, t2.length = n2 := ⟨_, rfl⟩
  obtain ⟨n3, hn3⟩ : ∃ n3, t3.length = n3 := ⟨_, rfl⟩
  obtain ⟨n4, hn4⟩ : ∃ n4, t4.length = n4 := ⟨_, rfl⟩
  obtain ⟨q, hq⟩ : ∃ q, LL.length = q := ⟨_, rfl⟩
  rw [hn1] at F1
  rw [hn2] at F2
  rw [hn3] at A3
  rw [hn4] at A4
  rw [hq] at NL
  have h1 := fun (u : World) (h : Below w.heap.size w u) => treePut_any u ao ba n cap nb bc s root l i b hn (by omega) (hs.mono h) hwf hc hnb (hbr.mono h) hbc hby hb47
  have h2 := fun (u : World) (h : Below w.heap.size w u) => treePut_any u ao ca n cap nc cc s root l j c hn (by omega) (hs.mono h) hwf hc hnc (hcr2.mono h) hcc hcy hc47
  have h3 := fun (u : World) (h : Below w.heap.size w u) (a : Option Addr) (k : Nat) (hs : StoRow u a t1) (hc : Capd a n1 k) => treePut_any u a ca n1 k nc cc t1 x1 l j c hn1 (by omega) hs W1 hc hnc (hcr2.mono h) hcc hcy hc47
  have h4 := fun (u : World) (h : Below w.heap.size w u) (a : Option Addr) (k : Nat) (hs : StoRow u a t2) (hc : Capd a n2 k) => treePut_any u a ba n2 k nb bc t2 x2 l i b hn2 (by omega) hs W2 hc hnb (hbr.mono h) hbc hby hb47
  rw [H1] at h1
  rw [H2] at h2
  rw [H3] at h3
  rw [H4] at h4
  have HP1 := Lib.hid h1
  have HP2 := Lib.hid h2
  have HP3 := Lib.hid h3
  have HP4 := Lib.hid h4
  have HA3 := Lib.hid A3
  have HA4 := Lib.hid A4
  have HN1 := Lib.hid hn1
  have HN2 := Lib.hid hn2
  have HN3 := Lib.hid hn3
  have HN4 := Lib.hid hn4
  have HQ := Lib.hid hq
  have HBL := Lib.hid BL
  have hb0 : Below w.heap.size w (w.alloc (.cells #[.slice ao n cap] 40)) := (Below.refl _ _).alloc (Nat.le_refl _) _
  have p0 : (w.alloc (.cells #[.slice ao n cap] 40)).heap[w.heap.size]? = some (.cells #[.slice ao n cap] 40 (0, 0)) := heap_alloc_new _ _
  clear hn hc hnb hbc hnc hcc hbr hcr2 H1 H2 H3 H4 h1 h2 h3 h4 A3 A4 hn1 hn2 hn3 hn4 hq BL W1 W2
  go_enter Try.func14, Try.ntmps14
  go_wp2_with fail
  generalize w.alloc (Obj.cells #[Value.slice ao n cap] 40) = W0 at *
  refine (crowded_any W0 ao n cap s HN.out h41 (hs.mono hb0)).mono ?_
  rw [hcr]
  rintro e w1 ⟨rfl, hb1⟩
  have hbw1 := below_step hb0 hb1
  replace p0 := (hb1.block _ (lt_heap p0)).trans p0
  have c0 := cell_of_one p0
  have l0 := lt_heap p0
  go_wp2_with fail
  refine (HP1.out w1 hbw1).mono ?_
  rintro e w2 ⟨v2, rfl, ho2, hb2⟩
  obtain ⟨a2, c2, rfl, hc2, -⟩ := ho2.sto
  simp only at ho2 hc2 ⊢
  rw [HN1.out] at ho2 hc2 ⊢
  replace p0 := (hb2.block _ (lt_heap p0)).trans p0
  have hA : Below w2.heap.size w2 (w2.alloc (.cells #[.slice a2 n1 c2] 40)) := (Below.refl _ _).alloc (Nat.le_refl _) _
  have pm : (w2.alloc (.cells #[.slice a2 n1 c2] 40)).heap[w2.heap.size]? = some (.cells #[.slice a2 n1 c2] 40 (0, 0)) := heap_alloc_new _ _
  have p0' := (hA.block _ (lt_heap p0)).trans p0
  have ho2' := ho2.mono hA
  have hbw2 := below_step (below_step hbw1 hb2) hA
  clear c0 l0 ho2
  have c0 := cell_of_one p0'
  have l0 := lt_heap p0'
  go_wp2_with fail
  generalize w2.alloc (Obj.cells #[Value.slice a2 n1 c2] 40) = W2' at *
  have lm := lt_heap pm
  refine (HP2.out W2' hbw2).mono ?_
  rintro e w3 ⟨v3, rfl, ho3, hb3⟩
  obtain ⟨a3, c3, rfl, hc3, -⟩ := ho3.sto
  simp only at ho3 hc3 ⊢
  rw [HN2.out] at ho3 hc3 ⊢
  replace pm := (hb3.block _ lm).trans pm
  replace ho2' := ho2'.mono hb3
  have hB : Below w3.heap.size w3 (w3.alloc (.cells #[.slice a3 n2 c3] 40)) := (Below.refl _ _).alloc (Nat.le_refl _) _
  have pn : (w3.alloc (.cells #[.slice a3 n2 c3] 40)).heap[w3.heap.size]? = some (.cells #[.slice a3 n2 c3] 40 (0, 0)) := heap_alloc_new _ _
  replace pm := (hB.block _ (lt_heap pm)).trans pm
  replace ho2' := ho2'.mono hB
  replace ho3 := ho3.mono hB
  have hbw3 := below_step (below_step hbw2 hb3) hB
  have hlmn : w2.heap.size < w3.heap.size := by have := hb3.size; omega
  clear c0 l0 p0 p0'
  go_wp2_with fail
  generalize w3.alloc (Obj.cells #[Value.slice a3 n2 c3] 40) = W3 at *
  refine (rooted_any _).mono ?_
  rintro e w4 ⟨rfl, hb4⟩
  have lnn := lt_heap pn
  replace pm := (hb4.block _ (lt_heap pm)).trans pm
  replace pn := (hb4.block _ lnn).trans pn
  replace ho2' := ho2'.mono hb4
  replace ho3 := ho3.mono hb4
  have hbw4 := below_step hbw3 hb4
  have lm4 := lt_heap pm
  have ln4 := lt_heap pn
  have cm := cell_of_one pm
  have cn := cell_of_one pn
  have fm := free_of_one pm
  obtain ⟨_, _, hv2, _, hsr2⟩ := ho2'.sto
  rw [HN1.out] at hv2
  simp only [Value.slice.injEq, true_and] at hv2
  obtain ⟨rfl, rfl⟩ := hv2
  go_wp2_with fail
  refine (HP3.out w4 hbw4 a2 c2 hsr2 hc2).mono ?_
  rintro e w5 ⟨v5, rfl, ho5, hb5⟩
  obtain ⟨a5, c5, rfl, hc5, -⟩ := ho5.sto
  simp only at ho5 hc5 ⊢
  rw [HN3.out] at ho5 hc5 ⊢
  have pm5 := (hb5.block _ lm4).trans pm
  have pn5 := (hb5.block _ ln4).trans pn
  have ho35 := (ho3.mono hb5).box pm5 (by omega) (.slice a5 n3 c5)
  have ho55 := ho5.box pm5 lm4 (.slice a5 n3 c5)
  have pm6 := one_setCell (u := .slice a5 n3 c5) pm5
  have pn6 : (w5.setCell ⟨w2.heap.size, 0, none⟩ (.slice a5 n3 c5)).heap[w3.heap.size]? = _ := heap_setCell_ne pn5 (by simp; omega)
  have hbw5 := (below_step hbw4 hb5).setCell (p := ⟨w2.heap.size, 0, none⟩) (by have := (below_step hbw1 hb2).size; simp only; omega) (.slice a5 n3 c5)
  have cm5 := cell_of_one pm5
  have fm5 := free_of_one pm5
  have lm5 := lt_heap pm5
  have cn6 := cell_of_one pn6
  have ln6 := lt_heap pn6
  clear cm cn fm hsr2 ho2' ho5 ho3
  go_wp2_with fail
  generalize w5.setCell ⟨w2.heap.size, 0, none⟩ (Value.slice a5 n3 c5) = W5 at *
  obtain ⟨_, _, hv3, _, hsr3⟩ := ho35.sto
  rw [HN2.out] at hv3
  simp only [Value.slice.injEq, true_and] at hv3
  obtain ⟨rfl, rfl⟩ := hv3
  refine (HP4.out W5 hbw5 a3 c3 hsr3 hc3).mono ?_
  rintro e w6 ⟨v6, rfl, ho6, hb6⟩
  obtain ⟨a6, c6, rfl, hc6, -⟩ := ho6.sto
  simp only at ho6 hc6 ⊢
  rw [HN4.out] at ho6 hc6 ⊢
  have pm7 := (hb6.block _ (lt_heap pm6)).trans pm6
  have pn7 := (hb6.block _ ln6).trans pn6
  have ho56 := (ho55.mono hb6).box pn7 (by omega) (.slice a6 n4 c6)
  have ho66 := ho6.box pn7 ln6 (.slice a6 n4 c6)
  have pn8 := one_setCell (u := .slice a6 n4 c6) pn7
  have pm8 : (w6.setCell ⟨w3.heap.size, 0, none⟩ (.slice a6 n4 c6)).heap[w2.heap.size]? = _ := heap_setCell_ne pm7 (by simp; omega)
  have hbw6 := (below_step hbw5 hb6).setCell (p := ⟨w3.heap.size, 0, none⟩) (by have := (below_step hbw2 hb3).size; simp only; omega) (.slice a6 n4 c6)
  have cn7 := cell_of_one pn7
  have fn7 := free_of_one pn7
  have ln7 := lt_heap pn7
  clear cm5 fm5 lm5 cn6 hsr3 ho35 ho55 ho6
  rcases E3 with rfl | rfl
  rotate_left
  · rcases E4 with rfl | rfl
    all_goals
      go_wp2
      go_ret
      exact ⟨rfl, hbw6⟩
  · rcases E4 with rfl | rfl
    rotate_left
    · go_wp2
      go_ret
      exact ⟨rfl, hbw6⟩
    · obtain ⟨w3', f3, al3⟩ := HA3.out rfl
      obtain ⟨w4', f4, al4⟩ := HA4.out rfl
      have HL3 := Lib.hid al3
      have HL4 := Lib.hid al4
      have cm8 := cell_of_one pm8
      have lm8 := lt_heap pm8
      obtain ⟨_, _, hv5, _, hsr5⟩ := ho56.sto
      rw [HN3.out] at hv5
      simp only [Value.slice.injEq, true_and] at hv5
      obtain ⟨rfl, rfl⟩ := hv5
      obtain ⟨_, _, hv6, _, hsr6⟩ := ho66.sto
      rw [HN4.out] at hv6
      simp only [Value.slice.injEq, true_and] at hv6
      obtain ⟨rfl, rfl⟩ := hv6
      clear al3 al4 ho56 ho66
      go_wp2_with fail
      generalize w6.setCell ⟨w3.heap.size, 0, none⟩ (Value.slice a6 n4 c6) = W6 at *
      have hA3 := all_any W6 a5 n3 c5 t3 x3 l HN3.out (by omega) hsr5 w3'
      rw [HL3.out] at hA3
      refine hA3.mono ?_
      rintro e w7 ⟨v7, vs7, rfl, hov7, hw7, hb7⟩
      have hl7 : vs7.length = q := hw7.len.trans HQ.out
      rw [hl7] at hov7
      obtain ⟨a7, c7, rfl, hr7⟩ := rows2_of hov7 hl7 hw7
      simp only at hr7 ⊢
      have pn9 := (hb7.block _ (lt_heap pn8)).trans pn8
      have cn9 := cell_of_one pn9
      have ln9 := lt_heap pn9
      have hsr67 := hsr6.mono hb7
      have hbw7 := below_step hbw6 hb7
      clear hA3 hov7 hw7 hl7 cm8 lm8
      go_wp2_with fail
      have hA4 := all_any w7 a6 n4 c6 t4 x4 l HN4.out (by omega) hsr67 w4'
      rw [HL4.out] at hA4
      refine hA4.mono ?_
      rintro e w8 ⟨v8, vs8, rfl, hov8, hw8, hb8⟩
      have hl8 : vs8.length = q := hw8.len.trans HQ.out
      rw [hl8] at hov8
      obtain ⟨a8, c8, rfl, hr8⟩ := rows2_of hov8 hl8 hw8
      simp only at hr8 ⊢
      have hr78 := hr7.mono hb8
      have hbw8 := below_step hbw7 hb8
      clear hA4 hov8 hw8 hl8 cn9 ln9
      go_wp2_with fail
      refine (equalRows w8 a7 a8 q c7 q c8 LL LL HQ.out HQ.out (by omega) (by omega) hr78 hr8 HBL.out HBL.out).mono ?_
      rw [decide_eq_true (rfl : LL = LL)]
      rintro e w9 ⟨rfl, rfl⟩
      go_wp2
      go_ret
      exact ⟨rfl, hbw8⟩

theorem tput_mk {t : List Blk} (hc : checkE t = 0) {m : Nat} (hm : m ≤ 3) {x : Int} (hr : RootAt t m x) {j : Nat} (hj : j < p4n m) {c : List Int} (h4 : c.length = 0 ∨ c.length = 4) :
    tputR t x m j c = if (setF m t x j c).2.2 ≠ 0 then ([], 0, (setF m t x j c).2.2) else setF m t x j c := by
  unfold tputR
  rw [if_neg (by simpa using checkT_mk hc hm hr hj), if_neg (by omega)]
  rfl
theorem allR_mk {t : List Blk} (hc : checkE t = 0) {m : Nat} (hm : m ≤ 3) {x : Int} (hr : RootAt t m x) : allR t x m = (leavesF m t x, 0) := by
  unfold allR
  rw [if_neg (by simpa using checkT_mk hc hm hr (p4n_pos m))]
  rfl

/-- the second Put of two, and all leaves behind it -/
theorem second_put (m : Nat) (s : List Blk) (root : Int) (i j : Nat) (b c : List Int) (hm : m ≤ 3) (hc : checkE s = 0) (hw : WfS s) (hfew : ∀ x ∈ s, x.refs ≤ 999000) (hr : RootAt s m root) (hi : i < p4n m) (hj : j < p4n m) (hij : i ≠ j) (hb : Byt b) (hb4 : b.length = 0 ∨ b.length = 4) (hcb : Byt c) (hc4 : c.length = 0 ∨ c.length = 4)
    (h1 : (setF m s root i b).2.2 = 0) :
    let t := (setF m s root i b).1
    let x := (setF m s root i b).2.1
    WfS t ∧ t.length ≤ 400 ∧ ((tputR t x m j c).2.2 = 0 ∨ (tputR t x m j c).2.2 = 8) ∧
      ((tputR t x m j c).2.2 = 0 → WfS (tputR t x m j c).1 ∧ (tputR t x m j c).1.length ≤ 400 ∧ allR (tputR t x m j c).1 (tputR t x m j c).2.1 m = ((List.range (p4n m)).map (fun k => if k = j then c else if k = i then b else leafB m s root k), 0)) := by
  intro t x
  obtain ⟨a1, a2, a3, a4, a5⟩ := set_two m s root i j b c hm hc hw hfew hr hi hj hij hb hb4 hcb hc4 h1 t x rfl rfl
  have hmk := tput_mk a1 hm a3 hj hc4
  refine ⟨a2, (checkE_zero t a1).1, ?_, fun h => ?_⟩
  · rw [hmk]
    by_cases e : (setF m t x j c).2.2 = 0
    · rw [if_neg (by simpa using e)]; exact .inl e
    · rw [if_pos e]; exact .inr (a4.resolve_left e)
  · have e : (setF m t x j c).2.2 = 0 := by
      apply Classical.byContradiction
      intro e
      rw [hmk, if_pos e] at h
      exact e h
    obtain ⟨b1, b2, b3, b4⟩ := a5 e
    rw [hmk, if_neg (by simpa using e)]
    exact ⟨b2, (checkE_zero _ b1).1, by rw [allR_mk b1 hm b3, b4]⟩

theorem law_order (w : World) (ao ba ca : Option Addr) (n cap nb bc nc cc : Nat) (s : List Blk) (root l i j : Int) (b c : List Int) (hn : s.length = n) (h41 : n ≤ 2199023255552) (hs : StoRow w ao s) (hwf : WfS s) (hc : Capd ao n cap)
    (hnb : b.length = nb) (hbr : Row .u8 w ba b) (hbc : Capd ba nb bc) (hby : Byt b) (hb47 : nb ≤ 140737488351232) (hnc : c.length = nc) (hcr2 : Row .u8 w ca c) (hcc : Capd ca nc cc) (hcy : Byt c) (hc47 : nc ≤ 140737488351232) :
    Calls Try.prog 14 #[.agg #[.slice ao n cap], .int .i64 root, .int .i64 l, .int .i64 i, .slice ba nb bc, .int .i64 j, .slice ca nc cc] w fun e w' => e = .returned (.bool true) ∧ Below w.heap.size w w' := by
  cases hcr : crowdB s with
  | true => exact law_order_crowd w ao ba ca n cap nb bc nc cc s root l i j hn h41 hs hcr
  | false =>
    have stop := law_order_stop w ao ba ca n cap nb bc nc cc s root l i j b c hn h41 hs hwf hc hnb hbr hbc hby hb47 hnc hcr2 hcc hcy hc47 hcr
    by_cases h1 : (tputR s root l i b).2.2 = 0
    rotate_left
    · exact stop (.inl (bne_iff_ne.2 h1))
    have g1 : ((tputR s root l i b).2.2 != 0) = false := by rw [h1]; rfl
    by_cases h2 : (tputR s root l j c).2.2 = 0
    rotate_left
    · exact stop (.inr (.inl ⟨g1, bne_iff_ne.2 h2⟩))
    have g2 : ((tputR s root l j c).2.2 != 0) = false := by rw [h2]; rfl
    by_cases hij : i = j
    · exact stop (.inr (.inr ⟨g1, g2, beq_iff_eq.2 hij⟩))
    obtain ⟨q1, q2, q3, q4⟩ := tput_ok h1
    obtain ⟨r1, r2, r3, r4⟩ := tput_ok h2
    obtain ⟨hce, m, rfl, hm, hra, hi0, him⟩ := checkT_ok q1
    obtain ⟨-, m2, e2, -, -, hj0, hjm⟩ := checkT_ok r1
    obtain rfl : m = m2 := by omega
    obtain ⟨i, rfl⟩ : ∃ k : Nat, i = k := ⟨i.toNat, by omega⟩
    obtain ⟨j, rfl⟩ : ∃ k : Nat, j = k := ⟨j.toNat, by omega⟩
    rw [p4n_int] at him hjm
    rw [Int.toNat_natCast, Int.toNat_natCast] at q3 q4 r3 r4
    have hne : i ≠ j := fun e => hij (by rw [e])
    have hfew := crowdB_few hcr
    obtain ⟨A1, A2, A3, A4⟩ := second_put m s root i j b c hm hce hwf hfew hra (by omega) (by omega) hne hby q2 hcy r2 q3
    obtain ⟨B1, B2, B3, B4⟩ := second_put m s root j i c b hm hce hwf hfew hra (by omega) (by omega) (Ne.symm hne) hcy r2 hby q2 r3
    have hLL : (List.range (p4n m)).map (fun k => if k = i then b else if k = j then c else leafB m s root k) = (List.range (p4n m)).map (fun k => if k = j then c else if k = i then b else leafB m s root k) := by
      apply List.map_congr_left
      intro k _
      by_cases e1 : k = i
      · rw [if_pos e1, if_neg (by omega), if_pos e1]
      · rw [if_neg e1]
        by_cases e2 : k = j
        · rw [if_pos e2, if_pos e2]
        · rw [if_neg e2, if_neg e2, if_neg e1]
    rw [hLL] at B4
    refine law_order_go w ao ba ca n cap nb bc nc cc s (setF m s root i b).1 (setF m s root j c).1 _ _ root m i j (setF m s root i b).2.1 (setF m s root j c).2.1 _ _ _ _ b c _ hn h41 hs hwf hc hnb hbr hbc hby hb47 hnc hcr2 hcc hcy hc47 hcr ?_ ?_ (beq_eq_false_iff_ne.2 hij) A1 B1 A2 B2 rfl rfl A3 B3 A4 B4 ?_ ?_
    · rw [q4]
      exact Prod.ext rfl (Prod.ext rfl q3)
    · rw [r4]
      exact Prod.ext rfl (Prod.ext rfl r3)
    · intro x hx
      obtain ⟨k, _, rfl⟩ := List.mem_map.1 hx
      split
      · exact hcy
      · split
        · exact hby
        · exact leafB_byt hwf m root k
    · rw [List.length_map, List.length_range]
      unfold p4n
      (repeat' split) <;> omega
end Go.Proofs.Ytpfopbkaddjjcaa
