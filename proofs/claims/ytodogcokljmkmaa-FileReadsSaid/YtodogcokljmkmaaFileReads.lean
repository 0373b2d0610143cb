/- rookerylaw.FileReads: the walk. -/
import Derived.Test.YtodogcokljmkmaaFiled
import Derived.Test.YtodogcokljmkmaaRefFile
import Derived.Test.YtodogcokljmkmaaRefOver
namespace Go.Proofs.Ytodogcokljmkmaa
open Go.RowKit
set_option linter.unusedVariables false

theorem readR_cases (s : List Blk) (key root size at_ k : Int) :
    (fileE s key root size ≠ 0 ∧ readR s key root size at_ k = ([], fileE s key root size)) ∨ (fileE s key root size = 0 ∧ (at_ < 0 ∨ k < 0 ∨ 256 < at_ ∨ 256 < k) ∧ readR s key root size at_ k = ([], 3)) ∨
      (fileE s key root size = 0 ∧ ∃ q l z : Nat, at_ = q ∧ k = l ∧ size = z ∧ q ≤ 256 ∧ l ≤ 256 ∧ z ≤ 256 ∧ (fileB s key root z).length = z ∧ readR s key root size at_ k = (((fileB s key root z).take (min (q + l) z)).drop (min q z), 0)) := by
  unfold readR
  by_cases h : fileE s key root size = 0
  · right
    rw [if_neg (fun h1 => h1 h)]
    by_cases h1 : at_ < 0 ∨ k < 0 ∨ 256 < at_ ∨ 256 < k
    · left
      exact ⟨h, h1, by rw [if_pos h1]⟩
    · right
      obtain ⟨-, hz0, hz1, -, -⟩ := fileE_ok h
      obtain ⟨z, rfl⟩ : ∃ z : Nat, size = z := ⟨size.toNat, by omega⟩
      obtain ⟨q, rfl⟩ : ∃ q : Nat, at_ = q := ⟨at_.toNat, by omega⟩
      obtain ⟨l, rfl⟩ : ∃ l : Nat, k = l := ⟨k.toNat, by omega⟩
      have hl := fileB_len h
      refine ⟨h, q, l, z, rfl, rfl, rfl, by omega, by omega, by omega, hl, ?_⟩
      rw [if_neg h1, show ((q : Int) + (l : Int)).toNat = q + l from by omega, Int.toNat_natCast]
      congr 1
      generalize fileB s key root z = F at *
      refine ext_getD (by rw [List.length_drop, List.length_drop, List.length_take, List.length_take]; omega) fun j hj => ?_
      rw [List.length_drop, List.length_take] at hj
      rw [drop_getD, drop_getD, take_getD, take_getD, if_pos (by omega), if_pos (by omega)]
      congr 1
      omega
  · left
    exact ⟨h, by rw [if_pos h]⟩

set_option maxRecDepth 100000 in
set_option maxHeartbeats 16000000 in
theorem law_reads (w : World) (ao ba ma : Option Addr) (n cap nb bc nm mc : Nat) (s : List Blk) (key root size at_ k : Int) (b more : List Int) (hn : s.length = n) (h41 : n ≤ 2199023255552) (hs : StoRow w ao s) (hwf : WfS s) (hc : Capd ao n cap) (hz : I64 size)
    (hnb : b.length = nb) (hbr : Row .u8 w ba b) (hby : Byt b) (hb47 : nb ≤ 140737488351232) (hbc : Capd ba nb bc) (hnm : more.length = nm) (hmr : Row .u8 w ma more) (hmy : Byt more) (hm47 : nm ≤ 140737488351232) (hmc : Capd ma nm mc) :
    Calls Try.prog 6 #[.agg #[.slice ao n cap], .int .i64 key, .agg #[.int .i64 root, .int .i64 size], .int .i64 at_, .int .i64 k, .slice ba nb bc, .slice ma nm mc] w fun e w' => e = .returned (.bool true) ∧ Below w.heap.size w w' := by
  have HN := Lib.hid hn
  have hb0 : Below w.heap.size w ((w.alloc (.cells #[.slice ao n cap] 24)).alloc (.cells #[.int .i64 root, .int .i64 size] 26)) := ((Below.refl _ _).alloc (Nat.le_refl _) _).alloc (by simp) _
  have p0 : ((w.alloc (.cells #[.slice ao n cap] 24)).alloc (.cells #[.int .i64 root, .int .i64 size] 26)).heap[w.heap.size]? = some (.cells #[.slice ao n cap] 24 (0, 0)) := heap_alloc2_old _ _ _
  have p1 : ((w.alloc (.cells #[.slice ao n cap] 24)).alloc (.cells #[.int .i64 root, .int .i64 size] 26)).heap[w.heap.size + 1]? = some (.cells #[.int .i64 root, .int .i64 size] 26 (0, 0)) := heap_alloc2_new _ _ _
  have HRD := Lib.hid (fun (u : World) (h : Below w.heap.size w u) => read_any u ao n cap s key root size at_ k hn (by omega) (hs.mono h) hwf hz hc)
  have HOV := Lib.hid (fun (u : World) (h : Below w.heap.size w u) => over_any u ba ma nb bc nm mc b more at_ hnb hnm (hbr.mono h) (hmr.mono h) hbc hmc hb47 hm47)
  have HRC := Lib.hid (fun (u : World) (h : Below w.heap.size w u) => refCheckFile_any u ao n cap s key root size hn (by omega) (hs.mono h) hwf hz)
  have HFC := Lib.hid (fun (u : World) (h : Below w.heap.size w u) => fileCheck_any u ao n cap s key root size hn (by omega) (hs.mono h) hwf hz)
  have HRO := Lib.hid (fun (u : World) (h : Below w.heap.size w u) => refOver_any u ba ma nb bc nm mc b more at_ hnb hnm (hbr.mono h) (hmr.mono h) hbc hmc hmy hb47 hm47)
  have HRB := Lib.hid (fun (z : Nat) (h0 : fileE s key root z = 0) (u : World) (h : Below w.heap.size w u) => refBytes_any u ao n cap s key root z hn (hs.mono h) hwf h0)
  have HOB : Hid (Byt (overR b at_ more).1) := Lib.hid (overR_byt hby hmy)
  have hca := readR_cases s key root size at_ k
  have HFY := Lib.hid (fun (z : Nat) => fileB_byt s key root z)
  clear hn hs hwf hc hz hnb hbr hby hbc hnm hmr hmy hmc hb47 hm47
  generalize readR s key root size at_ k = RR at *
  generalize overR b at_ more = RO at *
  obtain ⟨ol, oe⟩ := RO
  obtain ⟨rl, re⟩ := RR
  obtain ⟨fe, hfe⟩ : ∃ fe, fileE s key root size = fe := ⟨_, rfl⟩
  rw [hfe] at HRC HFC hca
  have HFE := Lib.hid hfe
  have HCA := Lib.hid hca
  clear hfe hca
  simp only at HRD HOV HRO HOB
  go_enter Try.func6, Try.ntmps6
  go_wp2_with fail
  generalize (w.alloc (.cells #[.slice ao n cap] 24)).alloc (.cells #[.int .i64 root, .int .i64 size] 26) = W0 at *
  refine (HRD.out W0 hb0).mono ?_
  rintro e w1 ⟨xa, xn, xc, rfl, hxn, hxr, hxc, hb1⟩
  simp only at hxn hxr ⊢
  have HXN := Lib.hid hxn
  have hbw1 := below_step hb0 hb1
  replace p0 := (hb1.block _ (lt_heap p0)).trans p0
  replace p1 := (hb1.block _ (lt_heap p1)).trans p1
  clear hxn hxc hb1
  go_wp2_with fail
  refine (HOV.out w1 hbw1).mono ?_
  rintro e w2 ⟨ya, yn, yc, rfl, hyn, hyr, hyc, hb2⟩
  simp only at hyn hyr ⊢
  have HYN := Lib.hid hyn
  have hbw2 := below_step hbw1 hb2
  replace p0 := (hb2.block _ (lt_heap p0)).trans p0
  replace p1 := (hb2.block _ (lt_heap p1)).trans p1
  replace hxr := hxr.mono hb2
  have c0 := cell_of_one p0
  have c10 := cell_of_block p1 0
  have c11 := cell_of_block p1 1
  simp at c10 c11
  have l0 := lt_heap p0
  have l1 := lt_heap p1
  clear hyn hyc hb2
  go_wp2_with fail
  refine (HRC.out w2 hbw2).mono ?_
  rintro e w3 ⟨rfl, hb3⟩
  have hbw3 := below_step hbw2 hb3
  replace p0 := (hb3.block _ (lt_heap p0)).trans p0
  replace p1 := (hb3.block _ (lt_heap p1)).trans p1
  replace hxr := hxr.mono hb3
  replace hyr := hyr.mono hb3
  clear c0 c10 c11 l0 l1 hb3
  go_wp2_with fail
  refine (filed_any w3).mono ?_
  rintro e w4 ⟨rfl, hb4⟩
  have hbw4 := below_step hbw3 hb4
  replace p0 := (hb4.block _ (lt_heap p0)).trans p0
  replace p1 := (hb4.block _ (lt_heap p1)).trans p1
  replace hxr := hxr.mono hb4
  replace hyr := hyr.mono hb4
  have c0 := cell_of_one p0
  have c10 := cell_of_block p1 0
  have c11 := cell_of_block p1 1
  simp at c10 c11
  have l0 := lt_heap p0
  have l1 := lt_heap p1
  clear hb4
  go_wp2_with fail
  refine (HFC.out w4 hbw4).mono ?_
  rintro e w5 ⟨rfl, hb5⟩
  have hbw5 := below_step hbw4 hb5
  replace p0 := (hb5.block _ (lt_heap p0)).trans p0
  replace p1 := (hb5.block _ (lt_heap p1)).trans p1
  replace hxr := hxr.mono hb5
  replace hyr := hyr.mono hb5
  clear c0 c10 c11 l0 l1 hb5
  go_wp2_with fail
  refine (HRO.out w5 hbw5).mono ?_
  rintro e w6 ⟨va, vn, vc, rfl, hvn, hvr, hvc, hb6, -⟩
  simp only at hvn hvr ⊢
  have hbw6 := below_step hbw5 hb6
  replace p0 := (hb6.block _ (lt_heap p0)).trans p0
  replace p1 := (hb6.block _ (lt_heap p1)).trans p1
  replace hxr := hxr.mono hb6
  replace hyr := hyr.mono hb6
  have hEQ := bytes_equal_n ya va yn vn yc vc ol ol w6 HYN.out hvn hyr hvr HOB.out HOB.out
  rw [beq_self_eq_true] at hEQ
  clear hvn hvc hb6 hyr hvr
  go_wp2_with fail
  refine hEQ.mono ?_
  rintro e w7 ⟨rfl, rfl⟩
  clear hEQ
  have c0 := cell_of_one p0
  have c10 := cell_of_block p1 0
  have c11 := cell_of_block p1 1
  simp at c10 c11
  have l0 := lt_heap p0
  have l1 := lt_heap p1
  rcases HCA.out with ⟨h0, h1⟩ | ⟨h0, h1, h2⟩ | ⟨h0, q, l, z, rfl, rfl, rfl, hq, hl, hz, hFL, h1⟩
  · obtain ⟨rfl, rfl⟩ := Prod.mk.inj h1
    obtain rfl : xn = 0 := by have := HXN.out; simpa using this.symm
    have e1 : (re == 0) = false := by rw [beq_eq_false_iff_ne]; exact h0
    have e2 : (re != 0) = true := by rw [bne_iff_ne]; exact h0
    clear h0 h1 hxr
    go_wp2_with fail
    go_ret
    exact ⟨rfl, hbw6⟩
  · subst h0
    obtain ⟨rfl, rfl⟩ := Prod.mk.inj h2
    obtain rfl : xn = 0 := by have := HXN.out; simpa using this.symm
    clear h2 hxr
    by_cases e1 : at_ < 0 <;> by_cases e2 : k < 0 <;> by_cases e3 : 256 < at_ <;> by_cases e4 : 256 < k
    all_goals try (exfalso; omega)
    all_goals
      clear h1
      go_wp2_with fail
      go_ret
      exact ⟨rfl, hbw6⟩
  · subst h0
    obtain ⟨rfl, rfl⟩ := Prod.mk.inj h1
    have e1 : ¬ ((q : Int) < 0) := by omega
    have e2 : ¬ ((l : Int) < 0) := by omega
    have e3 : ¬ ((256 : Int) < q) := by omega
    have e4 : ¬ ((256 : Int) < l) := by omega
    clear h1
    go_wp2_with fail
    refine (HRB.out z HFE.out w6 hbw6).mono ?_
    rintro e w8 ⟨g, c, rfl, hzc, hg1, hg2, hrow, hb8⟩
    have hbw8 := below_step hbw6 hb8
    replace hxr := hxr.mono hb8
    have HFYZ := Lib.hid (HFY.out z)
    generalize fileB s key root z = F at *
    have HFL := Lib.hid hFL
    obtain ⟨a, ha⟩ : ∃ a, min q z = a := ⟨_, rfl⟩
    obtain ⟨d, hd⟩ : ∃ d, min (q + l) z = d := ⟨_, rfl⟩
    rw [ha, hd] at hxr HXN
    have m1 : min (q : Int) (z : Int) = (a : Int) := by omega
    have m2 : min ((q : Int) + (l : Int)) (z : Int) = (d : Int) := by omega
    have hbyt : Byt ((F.take d).drop a) := fun x hx => HFYZ.out x (List.mem_of_mem_take (List.mem_of_mem_drop hx))
    have hlen : ((F.take d).drop a).length = d - a := by rw [List.length_drop, List.length_take, hFL]; omega
    have i1 : (a : Int) ≤ d := by omega
    have i2 : (d : Int) ≤ c := by omega
    have HEQ := Lib.hid (fun (ca : Option Addr) (cc : Nat) (hr : Row .u8 w8 ca ((F.take d).drop a)) => bytes_equal_n xa ca xn (d - a) xc cc _ _ w8 HXN.out hlen hxr hr hbyt hbyt)
    have HROW := Lib.hid (row_drop hrow a d)
    have hle : a ≤ d ∧ d ≤ c := by omega
    have HNONE : Hid (c = a → ((F.take d).drop a) = []) := Lib.hid fun e => List.eq_nil_of_length_eq_zero (by omega)
    clear hFL hbyt hlen hxr hrow ha hd c0 c10 c11 l0 l1
    generalize (F.take d).drop a = RL at *
    obtain ⟨hle1, hle2⟩ := hle
    by_cases hca : c = a
    · obtain rfl : d = a := by omega
      go_wp2_with fail
      have hE := HEQ.out (some ⟨g, 0, none⟩) 0 (.inl (HNONE.out hca))
      rw [beq_self_eq_true, Nat.sub_self] at hE
      refine hE.mono ?_
      rintro e w9 ⟨rfl, rfl⟩
      go_wp2_with fail
      go_ret
      exact ⟨rfl, hbw8⟩
    · go_wp2_with fail
      have hE := HEQ.out (some ⟨g, a, none⟩) (c - a) HROW.out
      rw [beq_self_eq_true] at hE
      refine hE.mono ?_
      rintro e w9 ⟨rfl, rfl⟩
      go_wp2_with fail
      go_ret
      exact ⟨rfl, hbw8⟩
end Go.Proofs.Ytodogcokljmkmaa
