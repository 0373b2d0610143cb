/- set.entries: what is wrong with entries. · set.Check: what is wrong with a set. -/
import Derived.Test.YtfmgdjgedhnmeaaFileBytes
import Derived.Test.YtfmgdjgedhnmeaaEntsP
namespace Go.Proofs.Ytfmgdjgedhnmeaa
open Go.RowKit
set_option linter.unusedVariables false

/-- numbers of entries fit their kinds -/
def WfL (l : List Ent) : Prop := ∀ x ∈ l, I64 x.root ∧ I64 x.size
theorem WfL.at {l : List Ent} (h : WfL l) (i : Nat) (hi : i < l.length) : I64 l[i].root ∧ I64 l[i].size := h _ (List.getElem_mem hi)

/-- not rising -/
def befB (p : Option ByteArray) (nm : ByteArray) : Bool := match p with | none => false | some q => !Op.bytesLess q.toList nm.toList
/-- what is wrong with the first of entries that isn't right -/
def entL (s : List Blk) (key : Int) : Option ByteArray → List Ent → Int
  | _, [] => 0
  | p, x :: l => if nameB x.nm = false then 1 else if befB p x.nm = true then 6 else if fileE s key x.root x.size ≠ 0 then fileE s key x.root x.size else entL s key (some x.nm) l
def entE (s : List Blk) (key : Int) (l : List Ent) : Int := if 6 < l.length then 2 else entL s key none l
def prevN (l : List Ent) (k : Nat) : Option ByteArray := if k = 0 then none else (l[k - 1]?).map Ent.nm

theorem entL_step (s : List Blk) (key : Int) (l : List Ent) (k : Nat) (h : k < l.length) :
    entL s key (prevN l k) (l.drop k) = if nameB l[k].nm = false then 1 else if befB (prevN l k) l[k].nm = true then 6 else if fileE s key l[k].root l[k].size ≠ 0 then fileE s key l[k].root l[k].size else entL s key (prevN l (k + 1)) (l.drop (k + 1)) := by
  rw [List.drop_eq_getElem_cons h]
  have e : prevN l (k + 1) = some l[k].nm := by simp [prevN, h]
  rw [e]
  rfl
theorem entL_end (s : List Blk) (key : Int) (l : List Ent) (k : Nat) (h : k = l.length) (p : Option ByteArray) : entL s key p (l.drop k) = 0 := by
  subst h
  rw [List.drop_length]
  rfl

set_option maxRecDepth 100000 in
set_option maxHeartbeats 8000000 in
theorem entries_any (w : World) (ao eo : Option Addr) (n cap m ec : Nat) (s : List Blk) (key : Int) (l : List Ent) (hn : s.length = n) (hn63 : n ≤ 1152921504606846976) (hs : StoRow w ao s) (hwf : WfS s) (hm : l.length = m) (he : EntRow w eo l) (hwl : WfL l) :
    Calls Try.prog 47 #[.agg #[.slice ao n cap], .int .i64 key, .slice eo m ec] w fun e w' => e = .returned (.int .i64 (entE s key l)) ∧ Below w.heap.size w w' := by
  have HN := Lib.hid hn
  have HM := Lib.hid hm
  obtain ⟨RD, hRD⟩ : ∃ RD, entE s key l = RD := ⟨_, rfl⟩
  rw [hRD]
  have HRD := Lib.hid hRD
  have hb0 : Below w.heap.size w (w.alloc (.cells #[.slice ao n cap] 24)) := (Below.refl _ _).alloc (Nat.le_refl _) _
  have p0 : (w.alloc (.cells #[.slice ao n cap] 24)).heap[w.heap.size]? = some (.cells #[.slice ao n cap] 24 (0, 0)) := heap_alloc_new _ _
  clear hn hm hRD
  by_cases h6 : 6 < m
  · have HR : Hid (RD = 2) := Lib.hid (by rw [← HRD.out]; unfold entE; rw [if_pos (by rw [HM.out]; exact h6)])
    have h6' : (6 : Int) < m := by omega
    clear hs he hwl
    go_enter Try.func47, Try.ntmps47
    go_wp2
    go_ret
    exact ⟨ret_int HR.out.symm, hb0⟩
  have HR0 : Hid (RD = entL s key (prevN l 0) (l.drop 0)) := Lib.hid (by rw [← HRD.out]; unfold entE; rw [if_neg (by rw [HM.out]; exact h6)]; rfl)
  have h6' : ¬ (6 : Int) < m := by omega
  go_enter Try.func47, Try.ntmps47
  go_wp2
  have hs := hs.mono hb0
  have he := he.mono hb0
  generalize w.alloc (Obj.cells #[Value.slice ao n cap] 24) = W0 at *
  have l0 := lt_heap p0
  go_loopw [15] (fun i wr => ∃ k : Nat, k ≤ m ∧ i = .int .i64 k ∧ Hid (RD = entL s key (prevN l k) (l.drop k)) ∧ Below W0.heap.size W0 wr) (fun i _ => m - (intOf i).toNat)
  case atStart => exact ⟨0, Nat.zero_le _, rfl, HR0, Below.refl _ _⟩
  case round =>
    obtain ⟨k, hkm, rfl, HK, hbel⟩ := hrel
    have hbw := below_step hb0 hbel
    by_cases hlt : k < m
    · have hkl : k < l.length := by have := HM.out; omega
      have hlt' : (k : Int) < m := by omega
      obtain ⟨b, o, rfl, hq⟩ := he.at k hkl
      have hE := hq k hkl
      have c0 := (hE.mono hbel).nm
      have c1 := (hE.mono hbel).root
      have c2 := (hE.mono hbel).size
      have lb : b < wr.heap.size := Nat.lt_of_lt_of_le hE.lt hbel.size
      have hst := entL_step s key l k hkl
      have hsi := (hwl.at k hkl).2
      have hk6 : (k : Int) < 6 := by omega
      have HPV : k ≠ 0 → ∃ q : ByteArray, wr.cell? ⟨b, o + (k - 1) * 3, none⟩ = some (.string q) ∧ prevN l k = some q := fun h0 => by
        have h1 : k - 1 < l.length := by omega
        exact ⟨_, ((hq (k - 1) h1).mono hbel).nm, by unfold prevN; rw [if_neg h0, List.getElem?_eq_getElem h1]; rfl⟩
      replace HPV := Lib.hid HPV
      have HST := Lib.hid hst
      have hs1 := hs.mono hbel
      have p1 := (hbel.block _ l0).trans p0
      clear hq hE hst
      generalize l[k] = x at *
      obtain ⟨nm, root, size⟩ := x
      simp only at c0 c1 c2 hsi
      go_wp2_with fail
      have hb2 : Below wr.heap.size wr (wr.alloc (.cells #[.string nm, .int .i64 root, .int .i64 size] 37)) := (Below.refl _ _).alloc (Nat.le_refl _) _
      have q2 : (wr.alloc (.cells #[.string nm, .int .i64 root, .int .i64 size] 37)).heap[wr.heap.size]? = some (.cells #[.string nm, .int .i64 root, .int .i64 size] 37 (0, 0)) := heap_alloc_new _ _
      have p2 := (hb2.block _ (lt_heap p1)).trans p1
      have hs2 := hs1.mono hb2
      have HPV2 : Hid (k ≠ 0 → ∃ q : ByteArray, (wr.alloc (.cells #[.string nm, .int .i64 root, .int .i64 size] 37)).cell? ⟨b, o + (k - 1) * 3, none⟩ = some (.string q) ∧ prevN l k = some q) := Lib.hid fun h0 => by
        obtain ⟨q, hq, hp⟩ := HPV.out h0
        exact ⟨q, ((bcell hb2).1 _ _ lb).trans hq, hp⟩
      have hbl2 := below_step hbel hb2
      have hbw2 := below_step hbw hb2
      have lb2 : b < (wr.alloc (.cells #[.string nm, .int .i64 root, .int .i64 size] 37)).heap.size := Nat.lt_of_lt_of_le lb hb2.size
      clear hb2 hs1 p1 c0 c1 c2 HPV lb hbw hbel
      generalize hwr : wr.alloc (.cells #[.string nm, .int .i64 root, .int .i64 size] 37) = W2 at *
      clear hwr
      generalize wr.heap.size = B2 at *
      have d0 := cell_of_block q2 0
      have d1 := cell_of_block q2 1
      have d2 := cell_of_block q2 2
      simp at d0 d1 d2
      have l2 := lt_heap q2
      have lp := lt_heap p2
      have cp := cell_of_one p2
      have hbd : ∀ nq, Below W2.heap.size W2 (W2.drewN nq) := fun nq => ⟨rfl, rfl, rfl, Nat.le_refl _, fun _ _ => rfl⟩
      refine (name_any _ _).mono ?_
      rintro e w' ⟨rfl, rfl⟩
      cases hnb : nameB nm with
      | false =>
        have HR : Hid (RD = 1) := Lib.hid (HK.out.trans (HST.out.trans (if_pos hnb)))
        clear HPV2 hs he hs2 hwl
        go_wp2
        go_ret
        exact ⟨ret_int HR.out.symm, hbw2⟩
      | true =>
        have hst := HST.out.trans (if_neg (by show ¬ nameB nm = false; rw [hnb]; simp))
        have HST2 := Lib.hid hst
        clear hst HST
        replace hnb := Lib.hid hnb
        by_cases hk0 : k = 0
        · have hpv : prevN l k = none := by rw [hk0]; rfl
          have hst := HST2.out.trans (if_neg (by rw [hpv]; simp [befB]))
          have HST3 := Lib.hid hst
          have k0 : ¬ (0 : Int) < k := by omega
          have k1 : decide ((0 : Int) < k) = false := decide_eq_false k0
          have k2 : ¬ 0 < k := by omega
          have k3 : decide (0 < k) = false := decide_eq_false k2
          clear hst HPV2 hpv HST2
          replace hk0 := Lib.hid hk0
          go_wp2_with fail
          go_quiet (fail)
          go_wp2_with fail
          refine (fileCheck_any _ _ _ _ s key root size HN.out hn63 (hs2.mono (hbd _)) hwf hsi).mono ?_
          rintro e w3 ⟨rfl, hb3⟩
          have hb4 := below_step (hbd _) hb3
          have hbw4 := below_step hbw2 hb4
          have hbl4 := below_step hbl2 hb4
          by_cases hfe : fileE s key root size = 0
          · have HKN : Hid (RD = entL s key (prevN l (k + 1)) (l.drop (k + 1))) := Lib.hid (HK.out.trans (HST3.out.trans (if_neg (fun h => h hfe))))
            rw [hfe]
            clear hs he hs2 hwl hfe hb3 hb4 HST3
            go_wp2_with fail
            go_roundw
            case rel => exact ⟨k + 1, by omega, by go_num, HKN, hbl4⟩
            case measure => simp [intOf]; omega
          · have HR : Hid (RD = fileE s key root size) := Lib.hid (HK.out.trans (HST3.out.trans (if_pos hfe)))
            have he1 : (fileE s key root size != 0) = true := by rw [bne_iff_ne]; exact hfe
            generalize fileE s key root size = ce at *
            clear hs he hs2 hwl hfe hb3 hb4 HST3
            go_wp2
            go_ret
            exact ⟨ret_int HR.out.symm, hbw4⟩
        · obtain ⟨q, cq, hp⟩ := HPV2.out hk0
          have k0 : (0 : Int) < k := by omega
          have k1 : decide ((0 : Int) < k) = true := decide_eq_true k0
          have k2 : 0 < k := by omega
          have k3 : decide (0 < k) = true := decide_eq_true k2
          have k4 : (0 : Int) ≤ (k : Int) - 1 := by omega
          have k5 : (k : Int) - 1 < m := by omega
          have k6 : ((k : Int) - 1).toNat = k - 1 := by omega
          clear HPV2
          cases hbl : Op.bytesLess q.toList nm.toList with
          | false =>
            have HR : Hid (RD = 6) := Lib.hid (HK.out.trans (HST2.out.trans (if_pos (by rw [hp]; simp [befB, hbl]))))
            clear hs he hs2 hwl HST2 hp
            go_wp2_with fail
            go_quiet (fail)
            go_wp2
            go_ret
            exact ⟨ret_int HR.out.symm, hbw2.trans ⟨rfl, rfl, rfl, Nat.le_refl _, fun _ _ => rfl⟩⟩
          | true =>
            have hst := HST2.out.trans (if_neg (by rw [hp]; simp [befB, hbl]))
            have HST3 := Lib.hid hst
            clear hst hp HST2
            go_wp2_with fail
            go_quiet (fail)
            go_wp2_with fail
            refine (fileCheck_any _ _ _ _ s key root size HN.out hn63 (hs2.mono (hbd _)) hwf hsi).mono ?_
            rintro e w3 ⟨rfl, hb3⟩
            have hb4 := below_step (hbd _) hb3
            have hbw4 := below_step hbw2 hb4
            have hbl4 := below_step hbl2 hb4
            by_cases hfe : fileE s key root size = 0
            · have HKN : Hid (RD = entL s key (prevN l (k + 1)) (l.drop (k + 1))) := Lib.hid (HK.out.trans (HST3.out.trans (if_neg (fun h => h hfe))))
              rw [hfe]
              clear hs he hs2 hwl hfe hb3 hb4 HST3
              go_wp2_with fail
              go_roundw
              case rel => exact ⟨k + 1, by omega, by go_num, HKN, hbl4⟩
              case measure => simp [intOf]; omega
            · have HR : Hid (RD = fileE s key root size) := Lib.hid (HK.out.trans (HST3.out.trans (if_pos hfe)))
              have he1 : (fileE s key root size != 0) = true := by rw [bne_iff_ne]; exact hfe
              generalize fileE s key root size = ce at *
              clear hs he hs2 hwl hfe hb3 hb4 HST3
              go_wp2
              go_ret
              exact ⟨ret_int HR.out.symm, hbw4⟩
    · obtain rfl : k = m := by omega
      have HR : Hid (RD = 0) := Lib.hid (by rw [HK.out, entL_end s key l _ HM.out.symm])
      have hlt' : ¬ (k : Int) < k := by omega
      clear hs he hwl
      go_wp2
      go_ret
      exact ⟨ret_int HR.out.symm, hbw⟩
end Go.Proofs.Ytfmgdjgedhnmeaa

namespace Go.Proofs.Ytfmgdjgedhnmeaa
open Go.RowKit
set_option linter.unusedVariables false

def snpL (s : List Blk) (key : Int) : Option ByteArray → List Snp → Int
  | _, [] => 0
  | p, y :: l => if nameB y.nm = false then 1 else if befB p y.nm = true then 6 else if entE s key y.files ≠ 0 then entE s key y.files else snpL s key (some y.nm) l
/-- what is wrong with a set -/
def setE (s : List Blk) (key : Int) (x : SetV) : Int :=
  if keyE key 0 ≠ 0 then keyE key 0 else if checkE s ≠ 0 then checkE s else if nameB x.nm = false then 1 else if entE s key x.files ≠ 0 then entE s key x.files else if 3 < x.snaps.length then 2 else snpL s key none x.snaps
def prevS (l : List Snp) (k : Nat) : Option ByteArray := if k = 0 then none else (l[k - 1]?).map Snp.nm
theorem snpL_step (s : List Blk) (key : Int) (l : List Snp) (k : Nat) (h : k < l.length) :
    snpL s key (prevS l k) (l.drop k) = if nameB l[k].nm = false then 1 else if befB (prevS l k) l[k].nm = true then 6 else if entE s key l[k].files ≠ 0 then entE s key l[k].files else snpL s key (prevS l (k + 1)) (l.drop (k + 1)) := by
  rw [List.drop_eq_getElem_cons h]
  have e : prevS l (k + 1) = some l[k].nm := by simp [prevS, h]
  rw [e]
  rfl
theorem snpL_end (s : List Blk) (key : Int) (l : List Snp) (k : Nat) (h : k = l.length) (p : Option ByteArray) : snpL s key p (l.drop k) = 0 := by
  subst h
  rw [List.drop_length]
  rfl

/-- numbers of a set fit their kinds -/
structure WfX (x : SetV) : Prop where
  files : WfL x.files
  snaps : ∀ y ∈ x.snaps, WfL y.files

/-- a set as a value -/
structure SetIn (w : World) (fo : Option Addr) (fn fc : Nat) (so : Option Addr) (sn sc : Nat) (x : SetV) : Prop where
  flen : x.files.length = fn
  slen : x.snaps.length = sn
  frow : EntRow w fo x.files
  srow : SnpRow w so x.snaps
  fcap : Capd fo fn fc
  scap : Capd so sn sc
theorem SetIn.mono {w w' : World} {fo : Option Addr} {fn fc : Nat} {so : Option Addr} {sn sc : Nat} {x : SetV} (h : SetIn w fo fn fc so sn sc x) (hb : Below w.heap.size w w') : SetIn w' fo fn fc so sn sc x :=
  ⟨h.flen, h.slen, h.frow.mono hb, h.srow.mono hb, h.fcap, h.scap⟩

set_option maxRecDepth 100000 in
set_option maxHeartbeats 8000000 in
theorem setCheck_any (w : World) (ao fo so : Option Addr) (n cap fn fc sn sc : Nat) (s : List Blk) (key : Int) (x : SetV) (hn : s.length = n) (hn63 : n ≤ 1152921504606846976) (hs : StoRow w ao s) (hwf : WfS s) (hx : SetIn w fo fn fc so sn sc x) (hwx : WfX x) :
    Calls Try.prog 16 #[.agg #[.slice ao n cap], .int .i64 key, .agg #[.string x.nm, .slice fo fn fc, .slice so sn sc]] w fun e w' => e = .returned (.int .i64 (setE s key x)) ∧ Below w.heap.size w w' := by
  have HN := Lib.hid hn
  have HX := Lib.hid hx
  obtain ⟨RD, hRD⟩ : ∃ RD, setE s key x = RD := ⟨_, rfl⟩
  rw [hRD]
  have HRD := Lib.hid hRD
  have hb0 : Below w.heap.size w ((w.alloc (.cells #[.slice ao n cap] 24)).alloc (.cells #[.string x.nm, .slice fo fn fc, .slice so sn sc] 28)) := ((Below.refl _ _).alloc (Nat.le_refl _) _).alloc (by simp) _
  have p0 : ((w.alloc (.cells #[.slice ao n cap] 24)).alloc (.cells #[.string x.nm, .slice fo fn fc, .slice so sn sc] 28)).heap[w.heap.size]? = some (.cells #[.slice ao n cap] 24 (0, 0)) := heap_alloc2_old _ _ _
  have p1 : ((w.alloc (.cells #[.slice ao n cap] 24)).alloc (.cells #[.string x.nm, .slice fo fn fc, .slice so sn sc] 28)).heap[w.heap.size + 1]? = some (.cells #[.string x.nm, .slice fo fn fc, .slice so sn sc] 28 (0, 0)) := heap_alloc2_new _ _ _
  clear hn hRD hx
  go_enter Try.func16, Try.ntmps16
  go_wp2_with fail
  have hs := hs.mono hb0
  have HX := Lib.hid (HX.out.mono hb0)
  generalize (w.alloc (Obj.cells #[Value.slice ao n cap] 24)).alloc (Obj.cells #[Value.string x.nm, Value.slice fo fn fc, Value.slice so sn sc] 28) = W0 at *
  refine (seal_check key 0 W0).mono ?_
  rintro e w1 ⟨rfl, rfl⟩
  by_cases hk : keyE key 0 = 0
  rotate_left
  · have HR : Hid (RD = keyE key 0) := Lib.hid (by rw [← HRD.out]; unfold setE; rw [if_pos hk])
    have he1 : (keyE key 0 != 0) = true := by rw [bne_iff_ne]; exact hk
    generalize keyE key 0 = ce at *
    clear hk hs hwx
    go_wp2
    go_ret
    exact ⟨ret_int HR.out.symm, hb0⟩
  rw [hk]
  have c0 := cell_of_one p0
  have c10 := cell_of_block p1 0
  have c11 := cell_of_block p1 1
  have c12 := cell_of_block p1 2
  simp at c10 c11 c12
  have l0 := lt_heap p0
  have l1 := lt_heap p1
  go_wp2_with fail
  refine (check_any _ _ _ _ s HN.out hn63 hs hwf).mono ?_
  rintro e w2 ⟨rfl, hb2⟩
  have p0 := (hb2.block _ l0).trans p0
  have p1 := (hb2.block _ l1).trans p1
  have hs := hs.mono hb2
  have HX := Lib.hid (HX.out.mono hb2)
  have hbw := below_step hb0 hb2
  clear c0 c10 c11 c12 l0 l1
  have c0 := cell_of_one p0
  have c10 := cell_of_block p1 0
  have c11 := cell_of_block p1 1
  have c12 := cell_of_block p1 2
  simp at c10 c11 c12
  have l0 := lt_heap p0
  have l1 := lt_heap p1
  by_cases hce : checkE s = 0
  rotate_left
  · have HR : Hid (RD = checkE s) := Lib.hid (by rw [← HRD.out]; unfold setE; rw [if_neg (fun h => h hk), if_pos hce])
    have he1 : (checkE s != 0) = true := by rw [bne_iff_ne]; exact hce
    generalize checkE s = ce at *
    clear hk hs hwx hce
    go_wp2
    go_ret
    exact ⟨ret_int HR.out.symm, hbw⟩
  rw [hce]
  go_wp2_with fail
  refine (name_any _ _).mono ?_
  rintro e w' ⟨rfl, rfl⟩
  cases hnb : nameB x.nm with
  | false =>
    have HR : Hid (RD = 1) := Lib.hid (by rw [← HRD.out]; unfold setE; rw [if_neg (fun h => h hk), if_neg (fun h => h hce), if_pos hnb])
    clear hk hs hwx hce
    go_wp2
    go_ret
    exact ⟨ret_int HR.out.symm, hbw⟩
  | true =>
    go_wp2_with fail
    refine (entries_any _ _ _ _ _ _ _ s key x.files HN.out hn63 hs hwf HX.out.flen HX.out.frow hwx.files).mono ?_
    rintro e w3 ⟨rfl, hb3⟩
    have p0 := (hb3.block _ l0).trans p0
    have p1 := (hb3.block _ l1).trans p1
    have hs := hs.mono hb3
    have HX := Lib.hid (HX.out.mono hb3)
    have hbw := below_step hbw hb3
    clear c0 c10 c11 c12 l0 l1
    have c0 := cell_of_one p0
    have c12 := cell_of_block p1 2
    simp at c12
    have l0 := lt_heap p0
    have l1 := lt_heap p1
    by_cases hee : entE s key x.files = 0
    rotate_left
    · have HR : Hid (RD = entE s key x.files) := Lib.hid (by rw [← HRD.out]; unfold setE; rw [if_neg (fun h => h hk), if_neg (fun h => h hce), if_neg (by rw [hnb]; simp), if_pos hee])
      have he1 : (entE s key x.files != 0) = true := by rw [bne_iff_ne]; exact hee
      generalize entE s key x.files = ce at *
      clear hk hs hwx hce hee
      go_wp2
      go_ret
      exact ⟨ret_int HR.out.symm, hbw⟩
    rw [hee]
    by_cases h3 : 3 < sn
    · have HR : Hid (RD = 2) := Lib.hid (by rw [← HRD.out]; unfold setE; rw [if_neg (fun h => h hk), if_neg (fun h => h hce), if_neg (by rw [hnb]; simp), if_neg (fun h => h hee), if_pos (by rw [HX.out.slen]; exact h3)])
      have h3' : (3 : Int) < sn := by omega
      clear hk hs hwx hce hee
      go_wp2
      go_ret
      exact ⟨ret_int HR.out.symm, hbw⟩
    have HR0 : Hid (RD = snpL s key (prevS x.snaps 0) (x.snaps.drop 0)) := Lib.hid (by rw [← HRD.out]; unfold setE; rw [if_neg (fun h => h hk), if_neg (fun h => h hce), if_neg (by rw [hnb]; simp), if_neg (fun h => h hee), if_neg (by rw [HX.out.slen]; exact h3)]; rfl)
    have h3' : ¬ (3 : Int) < sn := by omega
    clear hk hce hee
    replace hnb := Lib.hid hnb
    go_wp2
    go_loopw [42] (fun i wr => ∃ k : Nat, k ≤ sn ∧ i = .int .i64 k ∧ Hid (RD = snpL s key (prevS x.snaps k) (x.snaps.drop k)) ∧ Below w3.heap.size w3 wr) (fun i _ => sn - (intOf i).toNat)
    case atStart => exact ⟨0, Nat.zero_le _, rfl, HR0, Below.refl _ _⟩
    case round =>
      obtain ⟨k, hkm, rfl, HK, hbel⟩ := hrel
      have hbw2 := below_step hbw hbel
      by_cases hlt : k < sn
      · have hkl : k < x.snaps.length := by have := HX.out.slen; omega
        have hlt' : (k : Int) < sn := by omega
        obtain ⟨vs, hvl, hvr, hvi⟩ := HX.out.srow.mono hbel
        have hkv : k < vs.length := by omega
        obtain ⟨b, o, rfl, hq⟩ := SnvRow.at hvr k hkv
        have hE := hq k hkv
        have hI := hvi k hkv hkl
        have c0 := hE.nm
        have c1 := hE.sl
        have lb := hE.lt
        have hst := snpL_step s key x.snaps k hkl
        have hsi := hwx.snaps _ (List.getElem_mem hkl)
        have hk6 : (k : Int) < 3 := by omega
        have HPV : k ≠ 0 → ∃ q : ByteArray, wr.cell? ⟨b, o + (k - 1) * 2, none⟩ = some (.string q) ∧ prevS x.snaps k = some q := fun h0 => by
          have h1 : k - 1 < vs.length := by omega
          have h2 : k - 1 < x.snaps.length := by omega
          exact ⟨_, (hq (k - 1) h1).nm, by unfold prevS; rw [if_neg h0, List.getElem?_eq_getElem h2, (hvi (k - 1) h1 h2).1]; rfl⟩
        replace HPV := Lib.hid HPV
        have HST := Lib.hid hst
        have hs1 := hs.mono hbel
        have p1' := (hbel.block _ l0).trans p0
        have p1'' := (hbel.block _ l1).trans p1
        clear hq hE hst hvr hvi
        generalize x.snaps[k] = y at *
        generalize vs[k] = u at *
        obtain ⟨nm, fls⟩ := y
        obtain ⟨unm, uo, un, uc⟩ := u
        obtain ⟨h1, h2, h4, h5⟩ := hI
        simp only at c0 c1 hsi h1 h2 h4 h5
        subst h1
        have HU := Lib.hid h2
        clear h2
        go_wp2_with fail
        have hb2 : Below wr.heap.size wr (wr.alloc (.cells #[.string unm, .slice uo un uc] 105)) := (Below.refl _ _).alloc (Nat.le_refl _) _
        have q2 : (wr.alloc (.cells #[.string unm, .slice uo un uc] 105)).heap[wr.heap.size]? = some (.cells #[.string unm, .slice uo un uc] 105 (0, 0)) := heap_alloc_new _ _
        have p2 := (hb2.block _ (lt_heap p1')).trans p1'
        have p3 := (hb2.block _ (lt_heap p1'')).trans p1''
        have hs2 := hs1.mono hb2
        have he2 := h4.mono hb2
        have HPV2 : Hid (k ≠ 0 → ∃ q : ByteArray, (wr.alloc (.cells #[.string unm, .slice uo un uc] 105)).cell? ⟨b, o + (k - 1) * 2, none⟩ = some (.string q) ∧ prevS x.snaps k = some q) := Lib.hid fun h0 => by
          obtain ⟨q, hq, hp⟩ := HPV.out h0
          exact ⟨q, ((bcell hb2).1 _ _ lb).trans hq, hp⟩
        have hbl2 := below_step hbel hb2
        have hbw3 := below_step hbw2 hb2
        have lb2 : b < (wr.alloc (.cells #[.string unm, .slice uo un uc] 105)).heap.size := Nat.lt_of_lt_of_le lb hb2.size
        clear hb2 hs1 p1' p1'' c0 c1 HPV lb hbw2 hbel h4
        generalize hwr : wr.alloc (.cells #[.string unm, .slice uo un uc] 105) = W2 at *
        clear hwr
        generalize wr.heap.size = B2 at *
        have d0 := cell_of_block q2 0
        have d1 := cell_of_block q2 1
        have d3 := cell_of_block p3 2
        simp at d0 d1 d3
        have l2 := lt_heap q2
        have lp := lt_heap p2
        have lp3 := lt_heap p3
        have cp := cell_of_one p2
        have hbd : ∀ nq, Below W2.heap.size W2 (W2.drewN nq) := fun nq => ⟨rfl, rfl, rfl, Nat.le_refl _, fun _ _ => rfl⟩
        refine (name_any _ _).mono ?_
        rintro e w' ⟨rfl, rfl⟩
        cases hnb2 : nameB unm with
        | false =>
          have HR : Hid (RD = 1) := Lib.hid (HK.out.trans (HST.out.trans (if_pos hnb2)))
          clear HPV2 hs hs2 he2 hwx
          go_wp2
          go_ret
          exact ⟨ret_int HR.out.symm, hbw3⟩
        | true =>
          have hst := HST.out.trans (if_neg (by show ¬ nameB unm = false; rw [hnb2]; simp))
          have HST2 := Lib.hid hst
          clear hst HST
          replace hnb2 := Lib.hid hnb2
          by_cases hk0 : k = 0
          · have hpv : prevS x.snaps k = none := by rw [hk0]; rfl
            have hst := HST2.out.trans (if_neg (by rw [hpv]; simp [befB]))
            have HST3 := Lib.hid hst
            have k0 : ¬ (0 : Int) < k := by omega
            have k1 : decide ((0 : Int) < k) = false := decide_eq_false k0
            have k2 : ¬ 0 < k := by omega
            have k3 : decide (0 < k) = false := decide_eq_false k2
            clear hst HPV2 hpv HST2
            replace hk0 := Lib.hid hk0
            go_wp2_with fail
            go_quiet (fail)
            go_wp2_with fail
            refine (entries_any _ _ _ _ _ _ _ s key fls HN.out hn63 (hs2.mono (hbd _)) hwf HU.out.symm (he2.mono (hbd _)) hsi).mono ?_
            rintro e w4 ⟨rfl, hb3⟩
            have hb4 := below_step (hbd _) hb3
            have hbw4 := below_step hbw3 hb4
            have hbl4 := below_step hbl2 hb4
            by_cases hfe : entE s key fls = 0
            · have HKN : Hid (RD = snpL s key (prevS x.snaps (k + 1)) (x.snaps.drop (k + 1))) := Lib.hid (HK.out.trans (HST3.out.trans (if_neg (fun h => h hfe))))
              rw [hfe]
              clear hs hs2 he2 hwx hfe hb3 hb4 HST3
              go_wp2_with fail
              go_roundw
              case rel => exact ⟨k + 1, by omega, by go_num, HKN, hbl4⟩
              case measure => simp [intOf]; omega
            · have HR : Hid (RD = entE s key fls) := Lib.hid (HK.out.trans (HST3.out.trans (if_pos hfe)))
              have he1 : (entE s key fls != 0) = true := by rw [bne_iff_ne]; exact hfe
              generalize entE s key fls = ce at *
              clear hs hs2 he2 hwx hfe hb3 hb4 HST3
              go_wp2
              go_ret
              exact ⟨ret_int HR.out.symm, hbw4⟩
          · obtain ⟨q, cq, hp⟩ := HPV2.out hk0
            have k0 : (0 : Int) < k := by omega
            have k1 : decide ((0 : Int) < k) = true := decide_eq_true k0
            have k2 : 0 < k := by omega
            have k3 : decide (0 < k) = true := decide_eq_true k2
            have k4 : (0 : Int) ≤ (k : Int) - 1 := by omega
            have k5 : (k : Int) - 1 < sn := by omega
            have k6 : ((k : Int) - 1).toNat = k - 1 := by omega
            clear HPV2
            cases hbl : Op.bytesLess q.toList unm.toList with
            | false =>
              have HR : Hid (RD = 6) := Lib.hid (HK.out.trans (HST2.out.trans (if_pos (by rw [hp]; simp [befB, hbl]))))
              clear hs hs2 he2 hwx HST2 hp
              go_wp2_with fail
              go_quiet (fail)
              go_wp2
              go_ret
              exact ⟨ret_int HR.out.symm, hbw3.trans ⟨rfl, rfl, rfl, Nat.le_refl _, fun _ _ => rfl⟩⟩
            | true =>
              have hst := HST2.out.trans (if_neg (by rw [hp]; simp [befB, hbl]))
              have HST3 := Lib.hid hst
              clear hst hp HST2
              go_wp2_with fail
              go_quiet (fail)
              go_wp2_with fail
              refine (entries_any _ _ _ _ _ _ _ s key fls HN.out hn63 (hs2.mono (hbd _)) hwf HU.out.symm (he2.mono (hbd _)) hsi).mono ?_
              rintro e w4 ⟨rfl, hb3⟩
              have hb4 := below_step (hbd _) hb3
              have hbw4 := below_step hbw3 hb4
              have hbl4 := below_step hbl2 hb4
              by_cases hfe : entE s key fls = 0
              · have HKN : Hid (RD = snpL s key (prevS x.snaps (k + 1)) (x.snaps.drop (k + 1))) := Lib.hid (HK.out.trans (HST3.out.trans (if_neg (fun h => h hfe))))
                rw [hfe]
                clear hs hs2 he2 hwx hfe hb3 hb4 HST3
                go_wp2_with fail
                go_roundw
                case rel => exact ⟨k + 1, by omega, by go_num, HKN, hbl4⟩
                case measure => simp [intOf]; omega
              · have HR : Hid (RD = entE s key fls) := Lib.hid (HK.out.trans (HST3.out.trans (if_pos hfe)))
                have he1 : (entE s key fls != 0) = true := by rw [bne_iff_ne]; exact hfe
                generalize entE s key fls = ce at *
                clear hs hs2 he2 hwx hfe hb3 hb4 HST3
                go_wp2
                go_ret
                exact ⟨ret_int HR.out.symm, hbw4⟩
      · obtain rfl : k = sn := by omega
        have HR : Hid (RD = 0) := Lib.hid (by rw [HK.out, snpL_end s key x.snaps _ HX.out.slen.symm])
        have hlt' : ¬ (k : Int) < k := by omega
        clear hs hwx
        go_wp2
        go_ret
        exact ⟨ret_int HR.out.symm, hbw2⟩
end Go.Proofs.Ytfmgdjgedhnmeaa
