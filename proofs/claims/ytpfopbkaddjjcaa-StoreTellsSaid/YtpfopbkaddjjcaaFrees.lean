/- rookerylaw.StoreFrees: the walk. -/
import Derived.Test.YtpfopbkaddjjcaaFreesP
import Derived.Test.YtpfopbkaddjjcaaSealLaw2
namespace Go.Proofs.Ytpfopbkaddjjcaa
open Go.RowKit
set_option linter.unusedVariables false

def HeldL (s : List Blk) (j : Nat) (hl : List Int) : Prop :=
  hl.length ≤ j ∧ (∀ a ∈ hl, ∃ p : Nat, p < s.length ∧ a = (p : Int) + 1 ∧ 0 < outA s p) ∧ (hl = [] → ∀ q, q < j → q < s.length → outA s q ≤ 0)
theorem HeldL.zero (s : List Blk) : HeldL s 0 [] := ⟨Nat.le_refl _, by simp, fun _ q h _ => by omega⟩
theorem HeldL.add {s : List Blk} {j : Nat} {hl : List Int} (h : HeldL s j hl) (hj : j < s.length) (ho : 0 < outA s j) : HeldL s (j + 1) (hl ++ [(j : Int) + 1]) := by
  refine ⟨by simp; exact h.1, fun a ha => ?_, fun e => by simp at e⟩
  rcases List.mem_append.1 ha with h1 | h1
  · exact h.2.1 a h1
  · simp at h1; exact ⟨j, hj, h1, ho⟩
theorem HeldL.skip {s : List Blk} {j : Nat} {hl : List Int} (h : HeldL s j hl) (ho : outA s j ≤ 0) : HeldL s (j + 1) hl := by
  refine ⟨by have := h.1; omega, h.2.1, fun e q hq hs => ?_⟩
  by_cases e2 : q = j
  · rw [e2]; exact ho
  · exact h.2.2 e q (by omega) hs

/-- what is dropped fits -/
theorem loose_wf (s : List Blk) (k : Nat) (hk : k < s.length) (hc : checkE s = 0) (ho : 0 < outA s k) (hw : WfS s) : WfS (looseF 4 s ((k : Int) + 1)) := by
  obtain ⟨h4, hf, _, hri, hnn⟩ := checkE_zero s hc
  have hlv := lv_of s hf
  have q := looseOut 4 s ((k : Int) + 1) [] hlv.1 (live_of s hf) (.inr ⟨by omega, by omega, by rw [blk_at s k hk]; have := hlv.2 _ (List.getElem_mem hk); omega⟩) (fun j hj => by
    have hj' : j < (outL s).length := by rw [outL_length]; exact hj
    have h1 := hnn _ (List.getElem_mem hj')
    rw [outA_eq s j hj hj'] at h1
    by_cases e : j = k
    · subst e; simp; omega
    · rw [List.count_cons_of_ne (by omega)]; simpa using h1)
  intro x hx
  obtain ⟨j, hj, rfl⟩ := List.getElem_of_mem hx
  have hjs : j < s.length := by have := q.sub.len; omega
  rcases q.sub.each j hjs hj with h1 | ⟨h1, h2, h3⟩
  · rw [h1]; exact sd0_wf noBlk (by simp [sd0])
  · have hx := hw _ (List.getElem_mem hjs)
    have hr := hx.refs
    rw [h3]
    exact ⟨by unfold I64 at *; simp only; omega, hx.level, hx.kids, hx.bytes, hx.klen, hx.blen⟩

set_option maxRecDepth 100000 in
set_option maxHeartbeats 4000000 in
theorem law_frees_bad (w : World) (ao oo : Option Addr) (n cap m oc : Nat) (s : List Blk) (hn : s.length = n) (hn63 : n ≤ 1152921504606846976) (hs : StoRow w ao s) (hwf : WfS s) (hce : checkE s ≠ 0) :
    Calls Try.prog 7 #[.agg #[.slice ao n cap], .slice oo m oc] w fun e w' => e = .returned (.bool true) ∧ Below w.heap.size w w' := by
  have HN := Lib.hid hn
  have he1 : (checkE s != 0) = true := by rw [bne_iff_ne]; exact hce
  have he0 : (checkE s == 0) = false := by rw [beq_eq_false_iff_ne]; exact hce
  clear hn
  have hb0 : Below w.heap.size w (w.alloc (.cells #[.slice ao n cap] 40)) := (Below.refl _ _).alloc (Nat.le_refl _) _
  have p0 : (w.alloc (.cells #[.slice ao n cap] 40)).heap[w.heap.size]? = some (.cells #[.slice ao n cap] 40 (0, 0)) := heap_alloc_new _ _
  go_enter Try.func7, Try.ntmps7
  go_wp2_with fail
  have hs := hs.mono hb0
  generalize w.alloc (Obj.cells #[Value.slice ao n cap] 40) = W0 at *
  refine (stored_any W0).mono ?_
  rintro e w1 ⟨rfl, hb1⟩
  have p1 := (hb1.block _ (lt_heap p0)).trans p0
  have c1 := cell_of_one p1
  have l1 := lt_heap p1
  have hs := hs.mono hb1
  have hbw := below_step hb0 hb1
  clear hce
  go_wp2_with fail
  refine (check_any _ _ _ _ s HN.out hn63 hs hwf).mono ?_
  rintro e w2 ⟨rfl, hb2⟩
  have hbw := below_step hbw hb2
  clear hs
  go_wp2_with fail
  refine (stored_any w2).mono ?_
  rintro e w3 ⟨rfl, hb3⟩
  have hbw := below_step hbw hb3
  go_wp2
  go_ret
  exact ⟨rfl, hbw⟩

set_option maxRecDepth 100000 in
set_option maxHeartbeats 4000000 in
theorem law_frees_ok (w : World) (ao oo : Option Addr) (n cap m oc : Nat) (s : List Blk) (os : List Int) (hn : s.length = n) (hn63 : n ≤ 1152921504606846976) (hs : StoRow w ao s) (hwf : WfS s) (hc : Capd ao n cap)
    (hm : os.length = m) (ho : Row .i64 w oo os) (how : ∀ k ∈ os, I64 k) (hm63 : m ≤ 1152921504606846976) (hce : checkE s = 0) :
    Calls Try.prog 7 #[.agg #[.slice ao n cap], .slice oo m oc] w fun e w' => e = .returned (.bool true) ∧ Below w.heap.size w w' := by
  have HN := Lib.hid hn
  have HC := Lib.hid hc
  have HM := Lib.hid hm
  have h400 : n ≤ 400 := by have := (checkE_zero s hce).1; omega
  have hb0 : Below w.heap.size w (w.alloc (.cells #[.slice ao n cap] 40)) := (Below.refl _ _).alloc (Nat.le_refl _) _
  have p0 : (w.alloc (.cells #[.slice ao n cap] 40)).heap[w.heap.size]? = some (.cells #[.slice ao n cap] 40 (0, 0)) := heap_alloc_new _ _
  clear hn hc hm
  go_enter Try.func7, Try.ntmps7
  go_wp2_with fail
  have hs := hs.mono hb0
  generalize w.alloc (Obj.cells #[Value.slice ao n cap] 40) = W0 at *
  refine (stored_any W0).mono ?_
  rintro e w1 ⟨rfl, hb1⟩
  have p1 := (hb1.block _ (lt_heap p0)).trans p0
  have c1 := cell_of_one p1
  have l1 := lt_heap p1
  have hs := hs.mono hb1
  have hbw := below_step hb0 hb1
  have he1 : (checkE s != 0) = false := by rw [hce]; rfl
  have he0 : (checkE s == 0) = true := by rw [hce]; rfl
  have HCE := Lib.hid hce
  clear hce
  go_wp2_with fail
  refine (check_any _ _ _ _ s HN.out hn63 hs hwf).mono ?_
  rintro e w2 ⟨rfl, hb2⟩
  have p2 := (hb2.block _ (lt_heap p1)).trans p1
  have hs := hs.mono hb2
  have hbw := below_step hbw hb2
  clear c1 l1 p0 p1
  go_wp2_with fail
  go_loopw [5] (fun i wr => ∃ (k : Nat) (a' : Option Addr) (cap' : Nat) (s' : List Blk), k ≤ 3001 ∧ i = .int .i64 k ∧ wr.heap[w.heap.size]? = some (.cells #[.slice a' n cap'] 40 (0, 0)) ∧ StoRow wr a' s' ∧ WfS s' ∧ Capd a' n cap' ∧ s'.length = n ∧ checkE s' = 0 ∧ Below w.heap.size w wr) (fun i _ => 3002 - (intOf i).toNat)
  case atStart => exact ⟨0, ao, cap, s, by omega, rfl, p2, hs, hwf, HC.out, HN.out, HCE.out, hbw⟩
  case round =>
    clear hs hwf p2 hbw
    obtain ⟨k, a', cap', s', hk, rfl, p, hs, hwf, hc, hn, hce, hbw⟩ := hrel
    have HN' := Lib.hid hn
    have HC' := Lib.hid hc
    have HCE' := Lib.hid hce
    have c0 := cell_of_one p
    have l0 := lt_heap p
    clear hn hc hce
    go_wp2_with fail
    refine (outside_ok _ _ _ _ s' HN'.out hs hwf HCE'.out).mono ?_
    rintro e w3 ⟨qo, rfl, hown, hb3⟩
    have p3 := (hb3.block _ (lt_heap p)).trans p
    have hs := hs.mono hb3
    have hbw := below_step hbw hb3
    obtain ⟨q2, qc, hqv, _, _, hqr, _⟩ := hown.shape'
    simp only [Value.slice.injEq] at hqv
    obtain ⟨hq1, hq2, hq3⟩ := hqv
    subst hq1
    clear hq2 hq3
    clear hown c0 l0
    go_wp2_with fail
    go_loopw [8, 34] (fun v i wr => ∃ (j : Nat) (hl : List Int), j ≤ n ∧ i = .int .i64 j ∧ Own .i64 3 w3.heap.size wr v hl ∧ HeldL s' j hl ∧ Below w3.heap.size w3 wr) (fun _ i _ => n - (intOf i).toNat)
    case atStart => exact ⟨0, [], Nat.zero_le _, rfl, Own.nil _ _ _ _, HeldL.zero _, Below.refl _ _⟩
    case round =>
      obtain ⟨j, hl, hj, rfl, hown, hheld, hbel⟩ := hrel
      by_cases hlt : j < n
      · have hjs : j < s'.length := by have := HN'.out; omega
        have hjo : j < (outL s').length := by rw [outL_length]; exact hjs
        have hoA := outA_eq s' j hjs hjo
        obtain ⟨b, o, rfl, hq⟩ : ∃ b o, qo = some ⟨b, o, none⟩ ∧ ∀ i (h : i < (outL s').length), w3.cell? ⟨b, o + i, none⟩ = some (.int .i64 (outL s')[i]) := by
          rcases hqr with h | h
          · rw [h] at hjo; simp at hjo
          · exact h
        have hck := hq j hjo
        have lb := World.block_lt_of_cell? _ _ hck
        have hck := ((bcell hbel).1 _ _ lb).trans hck
        have lb := Nat.lt_of_lt_of_le lb hbel.size
        rw [hoA] at hck
        have hh1 := hheld.1
        by_cases hpos : 0 < outA s' j
        · have HH := Lib.hid (hheld.add hjs hpos)
          have hd : decide (0 < outA s' j) = true := by simpa using hpos
          have hsz := hbel.size
          have HLEN := Lib.hid hh1
          clear hheld hq hqr hs hoA hh1
          generalize outA s' j = oj at *
          go_wp2_with (first
            | (at_builtin; refine append_int rfl (.tmp 41) (.tmp 44) _ rfl .i64 3 8 w3.heap.size Try.underlying24 info_int _ _ _ rfl hown _ rfl (by simp) ?_ ?_ hsz ?_; rotate_right; intro v' w4 hown4 hbel4))
          · go_roundw
            case rel => exact ⟨j + 1, _, by omega, by go_num, hown4, HH.out, hbel.trans hbel4⟩
            case measure => simp [intOf]; omega
          · have := HLEN.out; unfold maxLen; omega
          · have := HLEN.out; omega
        · have HH := Lib.hid (hheld.skip (by omega : outA s' j ≤ 0))
          have hd : decide (0 < outA s' j) = false := by simpa using hpos
          clear hheld hq hqr hs hoA hh1
          generalize outA s' j = oj at *
          go_wp2
          go_roundw
          case rel => exact ⟨j + 1, _, by omega, by go_num, hown, HH.out, hbel⟩
          case measure => simp [intOf]; omega
      · obtain rfl : j = n := by omega
        have hs := hs.mono hbel
        have p4 := (hbel.block _ (lt_heap p3)).trans p3
        have hbw := below_step hbw hbel
        have c4 := cell_of_one p4
        have l4 := lt_heap p4
        obtain ⟨h2, hc2, rfl, hll, _, hhr, _⟩ := hown.shape'
        have hl400 : hl.length ≤ 400 := by have := hheld.1; omega
        have hnn := (checkE_zero s' HCE'.out).2.2.2.2
        rcases Nat.eq_zero_or_pos hl.length with hz | hz
        · have hnil := List.eq_nil_of_length_eq_zero hz
          have hu := nobody s' HCE'.out (fun x hx => by
            obtain ⟨q, hq, rfl⟩ := List.getElem_of_mem hx
            have hqs : q < s'.length := by rw [← outL_length]; exact hq
            have h1 := hnn _ (List.getElem_mem hq)
            have h2 := hheld.2.2 hnil q (by have := HN'.out; omega) hqs
            rw [outA_eq s' q hqs hq] at h1 ⊢
            omega)
          clear hheld hown hqr hnn hnil hhr
          rw [hz]
          go_wp2_with fail
          refine (used_ok _ _ _ _ s' HN'.out hs hwf HCE'.out).mono ?_
          rintro e w5 ⟨rfl, hb5⟩
          rw [hu]
          have hbw := below_step hbw hb5
          go_wp2
          go_ret
          exact ⟨rfl, hbw⟩
        · have hz0 : ((hl.length : Int) == 0) = false := by rw [beq_eq_false_iff_ne]; omega
          have hh := hheld.2.1
          obtain ⟨hb, hof, rfl, hcells⟩ : ∃ b o, h2 = some ⟨b, o, none⟩ ∧ ∀ i (h : i < hl.length), wr.cell? ⟨b, o + i, none⟩ = some (.int .i64 hl[i]) := by
            rcases hhr with h | h
            · rw [h] at hz; simp at hz
            · exact h
          rcases Nat.eq_zero_or_pos m with hm0 | hm0
          · subst hm0
            have hr : 0 < hl.length := hz
            have har := hh _ (List.getElem_mem hr)
            obtain ⟨pp, hps, hpe, hpo⟩ := har
            have hcr := hcells 0 hr
            rw [Nat.add_zero] at hcr
            rw [hpe] at hcr
            have lr := World.block_lt_of_cell? _ _ hcr
            by_cases hk3 : 3000 < k
            · have hd3 : decide (3000 < (k : Int)) = true := by simp; omega
              clear hcells hh hpe hpo hs hnn hheld hown hqr hhr
              go_wp2
              go_ret
              exact ⟨rfl, hbw⟩
            · have hd3 : decide (3000 < (k : Int)) = false := by simp; omega
              have htb : thereB s' ((pp : Int) + 1) = true := by
                rw [there_at s' pp hps]
                have : 0 < s'[pp].refs := by unfold outA at hpo; rw [blk_at s' pp hps] at hpo; omega
                simpa using this
              have hdr : dropR s' ((pp : Int) + 1) = (looseF 4 s' ((pp : Int) + 1), 0) := by
                have hpl : pp < (outL s').length := by rw [outL_length]; exact hps
                unfold dropR
                rw [if_neg (by simp [HCE'.out]), htb, if_neg (by simp), if_neg]
                rw [show ((pp : Int) + 1 - 1).toNat = pp from by omega, List.getElem?_eq_getElem hpl, Option.getD_some, outA_eq s' pp hps hpl]
                omega
              have hdc := drop_check s' pp hps HCE'.out hpo
              have hdw : WfS (looseF 4 s' ((pp : Int) + 1)) := loose_wf s' pp hps HCE'.out hpo hwf
              have hdl : (looseF 4 s' ((pp : Int) + 1)).length = j := ((loosed 4 s' ((pp : Int) + 1) 0 (lv_of s' (checkE_zero s' HCE'.out).2.1).1 (refsL_of s' HCE'.out) (Int.le_refl _)).len).trans HN'.out
              have HD := Lib.hid (drop_any wr a' j cap' s' ((pp : Int) + 1) HN'.out hn63 hs hwf HC'.out)
              rw [hdr] at HD
              have HDC := Lib.hid hdc
              have HDW := Lib.hid hdw
              have HDL := Lib.hid hdl
              clear hcells hh hpe hpo hs hnn hheld hown hqr hhr hdc hdw hdl hdr htb
              generalize looseF 4 s' ((pp : Int) + 1) = s9 at *
              go_wp2_with fail
              refine HD.out.mono ?_
              rintro e w9 ⟨v9, rfl, ho9, hb9⟩
              have p9 := (hb9.block _ l4).trans p4
              have c9 := cell_of_one p9
              have f9 := free_of_one p9
              have l9 := lt_heap p9
              have ho9 := ho9.box p9 l4 v9
              obtain ⟨a9, cap9, hv9, hcap9, hs9⟩ := ho9.sto
              rw [HDL.out] at hv9 hcap9
              subst hv9
              have q9 := one_setCell (u := .slice a9 j cap9) p9
              have hbw9 := (below_step hbw hb9).setCell (p := ⟨w.heap.size, 0, none⟩) (Nat.le_refl _) (.slice a9 j cap9)
              clear c4 l4 p4 ho9
              go_wp2
              go_roundw
              case rel => exact ⟨k + 1, a9, cap9, s9, by omega, by go_num, q9, hs9, HDW.out, hcap9, HDL.out, HDC.out, hbw9⟩
              case measure => simp [intOf]; omega
          · have hm1 : decide (0 < (m : Int)) = true := by simp; omega
            have hmod : (k : Int).tmod (m : Int) = ((k % m : Nat) : Int) := by
              rw [Int.tmod_eq_emod_of_nonneg (by omega)]; rfl
            have hkm : k % m < m := Nat.mod_lt _ hm0
            have hko : k % m < os.length := by have := HM.out; omega
            obtain ⟨ob, oof, rfl, hoc⟩ : ∃ b o, oo = some ⟨b, o, none⟩ ∧ ∀ i (h : i < os.length), wr.cell? ⟨b, o + i, none⟩ = some (.int .i64 os[i]) := by
              rcases ho.mono hbw with h | h
              · rw [h] at hko; simp at hko
              · exact h
            have hock := hoc _ hko
            have hokw := how _ (List.getElem_mem hko)
            have lo := World.block_lt_of_cell? _ _ hock
            clear hoc
            have hm64 : (m : Int) ≤ 1152921504606846976 := by omega
            go_wp2_with fail
            refine (law_at os[k % m] hl.length wr hz (by omega) hokw.1 hokw.2).mono ?_
            rintro e w' ⟨r, hr, rfl, rfl⟩
            have har := hh _ (List.getElem_mem hr)
            obtain ⟨pp, hps, hpe, hpo⟩ := har
            have hcr := hcells r hr
            rw [hpe] at hcr
            have lr := World.block_lt_of_cell? _ _ hcr
            by_cases hk3 : 3000 < k
            · have hd3 : decide (3000 < (k : Int)) = true := by simp; omega
              clear hcells hh hpe hpo hs hnn hheld hown hqr hhr
              go_wp2
              go_ret
              exact ⟨rfl, hbw⟩
            · have hd3 : decide (3000 < (k : Int)) = false := by simp; omega
              have htb : thereB s' ((pp : Int) + 1) = true := by
                rw [there_at s' pp hps]
                have : 0 < s'[pp].refs := by unfold outA at hpo; rw [blk_at s' pp hps] at hpo; omega
                simpa using this
              have hdr : dropR s' ((pp : Int) + 1) = (looseF 4 s' ((pp : Int) + 1), 0) := by
                have hpl : pp < (outL s').length := by rw [outL_length]; exact hps
                unfold dropR
                rw [if_neg (by simp [HCE'.out]), htb, if_neg (by simp), if_neg]
                rw [show ((pp : Int) + 1 - 1).toNat = pp from by omega, List.getElem?_eq_getElem hpl, Option.getD_some, outA_eq s' pp hps hpl]
                omega
              have hdc := drop_check s' pp hps HCE'.out hpo
              have hdw : WfS (looseF 4 s' ((pp : Int) + 1)) := loose_wf s' pp hps HCE'.out hpo hwf
              have hdl : (looseF 4 s' ((pp : Int) + 1)).length = j := ((loosed 4 s' ((pp : Int) + 1) 0 (lv_of s' (checkE_zero s' HCE'.out).2.1).1 (refsL_of s' HCE'.out) (Int.le_refl _)).len).trans HN'.out
              have HD := Lib.hid (drop_any wr a' j cap' s' ((pp : Int) + 1) HN'.out hn63 hs hwf HC'.out)
              rw [hdr] at HD
              have HDC := Lib.hid hdc
              have HDW := Lib.hid hdw
              have HDL := Lib.hid hdl
              clear hcells hh hpe hpo hs hnn hheld hown hqr hhr hdc hdw hdl hdr htb
              generalize looseF 4 s' ((pp : Int) + 1) = s9 at *
              go_wp2_with fail
              refine HD.out.mono ?_
              rintro e w9 ⟨v9, rfl, ho9, hb9⟩
              have p9 := (hb9.block _ l4).trans p4
              have c9 := cell_of_one p9
              have f9 := free_of_one p9
              have l9 := lt_heap p9
              have ho9 := ho9.box p9 l4 v9
              obtain ⟨a9, cap9, hv9, hcap9, hs9⟩ := ho9.sto
              rw [HDL.out] at hv9 hcap9
              subst hv9
              have q9 := one_setCell (u := .slice a9 j cap9) p9
              have hbw9 := (below_step hbw hb9).setCell (p := ⟨w.heap.size, 0, none⟩) (Nat.le_refl _) (.slice a9 j cap9)
              clear c4 l4 p4 ho9
              go_wp2
              go_roundw
              case rel => exact ⟨k + 1, a9, cap9, s9, by omega, by go_num, q9, hs9, HDW.out, hcap9, HDL.out, HDC.out, hbw9⟩
              case measure => simp [intOf]; omega
end Go.Proofs.Ytpfopbkaddjjcaa
