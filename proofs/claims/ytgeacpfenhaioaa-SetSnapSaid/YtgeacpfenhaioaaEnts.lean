/- set.entries: what is wrong with entries. -/
import Derived.Test.YtgeacpfenhaioaaFileBytes
import Derived.Test.YtgeacpfenhaioaaEntsP
namespace Go.Proofs.Ytgeacpfenhaioaa
open Go.RowKit
set_option linter.unusedVariables false

/-- numbers of entries fit their kinds -/
def WfL (l : List Ent) : Prop := ∀ x ∈ l, I64 x.root ∧ I64 x.size
theorem WfL.at {l : List Ent} (h : WfL l) (i : Nat) (hi : i < l.length) : I64 l[i].root ∧ I64 l[i].size := h _ (List.getElem_mem hi)

/-- not rising -/
def befB (p : Option ByteArray) (nm : ByteArray) : Bool := match p with | none => false | some q => !Op.bytesLess q.toList nm.toList
/-- what is wrong with the first of entries that isn't right -/
def entL (s : List Blk) (key : Int) : Option ByteArray → List Ent → Int
  | _, [] => 0
  | p, x :: l => if nameB x.nm = false then 1 else if befB p x.nm = true then 6 else if fileE s key x.root x.size ≠ 0 then fileE s key x.root x.size else entL s key (some x.nm) l
def entE (s : List Blk) (key : Int) (l : List Ent) : Int := if 6 < l.length then 2 else entL s key none l
def prevN (l : List Ent) (k : Nat) : Option ByteArray := if k = 0 then none else (l[k - 1]?).map Ent.nm

theorem entL_step (s : List Blk) (key : Int) (l : List Ent) (k : Nat) (h : k < l.length) :
    entL s key (prevN l k) (l.drop k) = if nameB l[k].nm = false then 1 else if befB (prevN l k) l[k].nm = true then 6 else if fileE s key l[k].root l[k].size ≠ 0 then fileE s key l[k].root l[k].size else entL s key (prevN l (k + 1)) (l.drop (k + 1)) := by
  rw [List.drop_eq_getElem_cons h]
  have e : prevN l (k + 1) = some l[k].nm := by simp [prevN, h]
  rw [e]
  rfl
theorem entL_end (s : List Blk) (key : Int) (l : List Ent) (k : Nat) (h : k = l.length) (p : Option ByteArray) : entL s key p (l.drop k) = 0 := by
  subst h
  rw [List.drop_length]
  rfl

set_option maxRecDepth 100000 in
set_option maxHeartbeats 8000000 in
theorem entries_any (w : World) (ao eo : Option Addr) (n cap m ec : Nat) (s : List Blk) (key : Int) (l : List Ent) (hn : s.length = n) (hn63 : n ≤ 1152921504606846976) (hs : StoRow w ao s) (hwf : WfS s) (hm : l.length = m) (he : EntRow w eo l) (hwl : WfL l) :
    Calls Try.prog 51 #[.agg #[.slice ao n cap], .int .i64 key, .slice eo m ec] w fun e w' => e = .returned (.int .i64 (entE s key l)) ∧ Below w.heap.size w w' := by
  have HN := Lib.hid hn
  have HM := Lib.hid hm
  obtain ⟨RD, hRD⟩ : ∃ RD, entE s key l = RD := ⟨_, rfl⟩
  rw [hRD]
  have HRD := Lib.hid hRD
  have hb0 : Below w.heap.size w (w.alloc (.cells #[.slice ao n cap] 24)) := (Below.refl _ _).alloc (Nat.le_refl _) _
  have p0 : (w.alloc (.cells #[.slice ao n cap] 24)).heap[w.heap.size]? = some (.cells #[.slice ao n cap] 24 (0, 0)) := heap_alloc_new _ _
  clear hn hm hRD
  by_cases h6 : 6 < m
  · have HR : Hid (RD = 2) := Lib.hid (by rw [← HRD.out]; unfold entE; rw [if_pos (by rw [HM.out]; exact h6)])
    have h6' : (6 : Int) < m := by omega
    clear hs he hwl
    go_enter Try.func51, Try.ntmps51
    go_wp2
    go_ret
    exact ⟨ret_int HR.out.symm, hb0⟩
  have HR0 : Hid (RD = entL s key (prevN l 0) (l.drop 0)) := Lib.hid (by rw [← HRD.out]; unfold entE; rw [if_neg (by rw [HM.out]; exact h6)]; rfl)
  have h6' : ¬ (6 : Int) < m := by omega
  go_enter Try.func51, Try.ntmps51
  go_wp2
  have hs := hs.mono hb0
  have he := he.mono hb0
  generalize w.alloc (Obj.cells #[Value.slice ao n cap] 24) = W0 at *
  have l0 := lt_heap p0
  go_loopw [15] (fun i wr => ∃ k : Nat, k ≤ m ∧ i = .int .i64 k ∧ Hid (RD = entL s key (prevN l k) (l.drop k)) ∧ Below W0.heap.size W0 wr) (fun i _ => m - (intOf i).toNat)
  case atStart => exact ⟨0, Nat.zero_le _, rfl, HR0, Below.refl _ _⟩
  case round =>
    obtain ⟨k, hkm, rfl, HK, hbel⟩ := hrel
    have hbw := below_step hb0 hbel
    by_cases hlt : k < m
    · have hkl : k < l.length := by have := HM.out; omega
      have hlt' : (k : Int) < m := by omega
      obtain ⟨b, o, rfl, hq⟩ := he.at k hkl
      have hE := hq k hkl
      have c0 := (hE.mono hbel).nm
      have c1 := (hE.mono hbel).root
      have c2 := (hE.mono hbel).size
      have lb : b < wr.heap.size := Nat.lt_of_lt_of_le hE.lt hbel.size
      have hst := entL_step s key l k hkl
      have hsi := (hwl.at k hkl).2
      have hk6 : (k : Int) < 6 := by omega
      have HPV : k ≠ 0 → ∃ q : ByteArray, wr.cell? ⟨b, o + (k - 1) * 3, none⟩ = some (.string q) ∧ prevN l k = some q := fun h0 => by
        have h1 : k - 1 < l.length := by omega
        exact ⟨_, ((hq (k - 1) h1).mono hbel).nm, by unfold prevN; rw [if_neg h0, List.getElem?_eq_getElem h1]; rfl⟩
      replace HPV := Lib.hid HPV
      have HST := Lib.hid hst
      have hs1 := hs.mono hbel
      have p1 := (hbel.block _ l0).trans p0
      clear hq hE hst
      generalize l[k] = x at *
      obtain ⟨nm, root, size⟩ := x
      simp only at c0 c1 c2 hsi
      go_wp2_with fail
      have hb2 : Below wr.heap.size wr (wr.alloc (.cells #[.string nm, .int .i64 root, .int .i64 size] 47)) := (Below.refl _ _).alloc (Nat.le_refl _) _
      have q2 : (wr.alloc (.cells #[.string nm, .int .i64 root, .int .i64 size] 47)).heap[wr.heap.size]? = some (.cells #[.string nm, .int .i64 root, .int .i64 size] 47 (0, 0)) := heap_alloc_new _ _
      have p2 := (hb2.block _ (lt_heap p1)).trans p1
      have hs2 := hs1.mono hb2
      have HPV2 : Hid (k ≠ 0 → ∃ q : ByteArray, (wr.alloc (.cells #[.string nm, .int .i64 root, .int .i64 size] 47)).cell? ⟨b, o + (k - 1) * 3, none⟩ = some (.string q) ∧ prevN l k = some q) := Lib.hid fun h0 => by
        obtain ⟨q, hq, hp⟩ := HPV.out h0
        exact ⟨q, ((bcell hb2).1 _ _ lb).trans hq, hp⟩
      have hbl2 := below_step hbel hb2
      have hbw2 := below_step hbw hb2
      have lb2 : b < (wr.alloc (.cells #[.string nm, .int .i64 root, .int .i64 size] 47)).heap.size := Nat.lt_of_lt_of_le lb hb2.size
      clear hb2 hs1 p1 c0 c1 c2 HPV lb hbw hbel
      generalize hwr : wr.alloc (.cells #[.string nm, .int .i64 root, .int .i64 size] 47) = W2 at *
      clear hwr
      generalize wr.heap.size = B2 at *
      have d0 := cell_of_block q2 0
      have d1 := cell_of_block q2 1
      have d2 := cell_of_block q2 2
      simp at d0 d1 d2
      have l2 := lt_heap q2
      have lp := lt_heap p2
      have cp := cell_of_one p2
      have hbd : ∀ nq, Below W2.heap.size W2 (W2.drewN nq) := fun nq => ⟨rfl, rfl, rfl, Nat.le_refl _, fun _ _ => rfl⟩
      refine (name_any _ _).mono ?_
      rintro e w' ⟨rfl, rfl⟩
      cases hnb : nameB nm with
      | false =>
        have HR : Hid (RD = 1) := Lib.hid (HK.out.trans (HST.out.trans (if_pos hnb)))
        clear HPV2 hs he hs2 hwl
        go_wp2
        go_ret
        exact ⟨ret_int HR.out.symm, hbw2⟩
      | true =>
        have hst := HST.out.trans (if_neg (by show ¬ nameB nm = false; rw [hnb]; simp))
        have HST2 := Lib.hid hst
        clear hst HST
        replace hnb := Lib.hid hnb
        by_cases hk0 : k = 0
        · have hpv : prevN l k = none := by rw [hk0]; rfl
          have hst := HST2.out.trans (if_neg (by rw [hpv]; simp [befB]))
          have HST3 := Lib.hid hst
          have k0 : ¬ (0 : Int) < k := by omega
          have k1 : decide ((0 : Int) < k) = false := decide_eq_false k0
          have k2 : ¬ 0 < k := by omega
          have k3 : decide (0 < k) = false := decide_eq_false k2
          clear hst HPV2 hpv HST2
          replace hk0 := Lib.hid hk0
          go_wp2_with fail
          go_quiet (fail)
          go_wp2_with fail
          refine (fileCheck_any _ _ _ _ s key root size HN.out hn63 (hs2.mono (hbd _)) hwf hsi).mono ?_
          rintro e w3 ⟨rfl, hb3⟩
          have hb4 := below_step (hbd _) hb3
          have hbw4 := below_step hbw2 hb4
          have hbl4 := below_step hbl2 hb4
          by_cases hfe : fileE s key root size = 0
          · have HKN : Hid (RD = entL s key (prevN l (k + 1)) (l.drop (k + 1))) := Lib.hid (HK.out.trans (HST3.out.trans (if_neg (fun h => h hfe))))
            rw [hfe]
            clear hs he hs2 hwl hfe hb3 hb4 HST3
            go_wp2_with fail
            go_roundw
            case rel => exact ⟨k + 1, by omega, by go_num, HKN, hbl4⟩
            case measure => simp [intOf]; omega
          · have HR : Hid (RD = fileE s key root size) := Lib.hid (HK.out.trans (HST3.out.trans (if_pos hfe)))
            have he1 : (fileE s key root size != 0) = true := by rw [bne_iff_ne]; exact hfe
            generalize fileE s key root size = ce at *
            clear hs he hs2 hwl hfe hb3 hb4 HST3
            go_wp2
            go_ret
            exact ⟨ret_int HR.out.symm, hbw4⟩
        · obtain ⟨q, cq, hp⟩ := HPV2.out hk0
          have k0 : (0 : Int) < k := by omega
          have k1 : decide ((0 : Int) < k) = true := decide_eq_true k0
          have k2 : 0 < k := by omega
          have k3 : decide (0 < k) = true := decide_eq_true k2
          have k4 : (0 : Int) ≤ (k : Int) - 1 := by omega
          have k5 : (k : Int) - 1 < m := by omega
          have k6 : ((k : Int) - 1).toNat = k - 1 := by omega
          clear HPV2
          cases hbl : Op.bytesLess q.toList nm.toList with
          | false =>
            have HR : Hid (RD = 6) := Lib.hid (HK.out.trans (HST2.out.trans (if_pos (by rw [hp]; simp [befB, hbl]))))
            clear hs he hs2 hwl HST2 hp
            go_wp2_with fail
            go_quiet (fail)
            go_wp2
            go_ret
            exact ⟨ret_int HR.out.symm, hbw2.trans ⟨rfl, rfl, rfl, Nat.le_refl _, fun _ _ => rfl⟩⟩
          | true =>
            have hst := HST2.out.trans (if_neg (by rw [hp]; simp [befB, hbl]))
            have HST3 := Lib.hid hst
            clear hst hp HST2
            go_wp2_with fail
            go_quiet (fail)
            go_wp2_with fail
            refine (fileCheck_any _ _ _ _ s key root size HN.out hn63 (hs2.mono (hbd _)) hwf hsi).mono ?_
            rintro e w3 ⟨rfl, hb3⟩
            have hb4 := below_step (hbd _) hb3
            have hbw4 := below_step hbw2 hb4
            have hbl4 := below_step hbl2 hb4
            by_cases hfe : fileE s key root size = 0
            · have HKN : Hid (RD = entL s key (prevN l (k + 1)) (l.drop (k + 1))) := Lib.hid (HK.out.trans (HST3.out.trans (if_neg (fun h => h hfe))))
              rw [hfe]
              clear hs he hs2 hwl hfe hb3 hb4 HST3
              go_wp2_with fail
              go_roundw
              case rel => exact ⟨k + 1, by omega, by go_num, HKN, hbl4⟩
              case measure => simp [intOf]; omega
            · have HR : Hid (RD = fileE s key root size) := Lib.hid (HK.out.trans (HST3.out.trans (if_pos hfe)))
              have he1 : (fileE s key root size != 0) = true := by rw [bne_iff_ne]; exact hfe
              generalize fileE s key root size = ce at *
              clear hs he hs2 hwl hfe hb3 hb4 HST3
              go_wp2
              go_ret
              exact ⟨ret_int HR.out.symm, hbw4⟩
    · obtain rfl : k = m := by omega
      have HR : Hid (RD = 0) := Lib.hid (by rw [HK.out, entL_end s key l _ HM.out.symm])
      have hlt' : ¬ (k : Int) < k := by omega
      clear hs he hwl
      go_wp2
      go_ret
      exact ⟨ret_int HR.out.symm, hbw⟩
end Go.Proofs.Ytgeacpfenhaioaa
