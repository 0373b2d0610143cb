/- rookerylaw.StoreBack: the walk. -/
import Derived.Test.YtpfopbkaddjjcaaMakes
import Derived.Test.YtpfopbkaddjjcaaBackQ
import Derived.Test.YtpfopbkaddjjcaaReach
import Derived.Test.YtpfopbkaddjjcaaCrowd
namespace Go.Proofs.Ytpfopbkaddjjcaa
open Go.RowKit
set_option linter.unusedVariables false

theorem alike_yes (w : World) (ao bo : Option Addr) (n cap m cap' : Nat) (s : List Blk) (hn : s.length = n) (hm : s.length = m) (h63 : n ≤ 1152921504606846976) (hs : StoRow w ao s) (ht : StoRow w bo s) (ws : WfS s) :
    Calls Try.prog 43 #[.agg #[.slice ao n cap], .agg #[.slice bo m cap']] w fun e w' => e = .returned (.bool true) ∧ Below w.heap.size w w' := by
  have h := same_any w ao bo n cap m cap' s s hn hm h63 (by omega) hs ht ws ws
  rwa [sameS_self] at h
theorem makeR_put {s : List Blk} {l : Int} {ks bs : List Int} (h : (makeR s l ks bs).2.2 = 0) : (makeR s l ks bs).1 = (putR s l ks bs).1 := by
  unfold makeR at h ⊢
  split at h
  · rename_i h1; exact absurd h h1
  · rename_i h1
    rw [if_neg h1]
    split at h
    · rename_i h2; exact absurd h h2
    · rename_i h2; rw [if_neg h2]
def stillP (s : List Blk) (k i : Nat) : Bool := decide (1 < outA s i) || (decide (outA s i = 1) && decide (i ≠ k))
theorem stillP_sel (s : List Blk) (k : Nat) : selTo (stillP s k) s.length = stillL s k := rfl
theorem stillP_more {s : List Blk} {k i : Nat} (h : 1 < outA s i) : stillP s k i = true := by simp [stillP, h]
theorem stillP_one {s : List Blk} {k i : Nat} (h : outA s i = 1) (hk : i ≠ k) : stillP s k i = true := by simp [stillP, h, hk]
theorem stillP_self {s : List Blk} {k : Nat} (h : ¬ 1 < outA s k) : stillP s k k = false := by simp [stillP]; omega
theorem stillP_less {s : List Blk} {k i : Nat} (h : ¬ 1 < outA s i) (h1 : outA s i ≠ 1) : stillP s k i = false := by simp [stillP, h1]; omega
/-- two blocks, read into boxes -/
def TwoBox (B : Nat) (W0 : World) (x y : Blk) (kx bx ky bY u v : Value) (wx : World) : Prop :=
  ∃ b1 b2, u = .pointer (some ⟨b1, 0, none⟩) ∧ v = .pointer (some ⟨b2, 0, none⟩) ∧ wx.heap[b1]? = some (.cells #[.int .i64 x.refs, .int .i64 x.level, kx, bx] 50 (0, 0)) ∧ wx.heap[b2]? = some (.cells #[.int .i64 y.refs, .int .i64 y.level, ky, bY] 50 (0, 0)) ∧ Below B W0 wx
theorem TwoBox.drew {B : Nat} {W0 : World} {x y : Blk} {kx bx ky bY u v : Value} {wx : World} (h : TwoBox B W0 x y kx bx ky bY u v wx) : TwoBox B W0 x y kx bx ky bY u v wx.drew := by
  obtain ⟨b1, b2, h1, h2, h3, h4, h5⟩ := h
  exact ⟨b1, b2, h1, h2, h3, h4, h5.drew⟩
theorem TwoBox.fore (W : World) (x y : Blk) (kx bx ky bY : Value) : TwoBox W.heap.size W x y kx bx ky bY (.pointer (some ⟨W.heap.size, 0, none⟩)) (.pointer (some ⟨W.heap.size + 1, 0, none⟩)) ((W.alloc (.cells #[.int .i64 x.refs, .int .i64 x.level, kx, bx] 50)).alloc (.cells #[.int .i64 y.refs, .int .i64 y.level, ky, bY] 50)) :=
  ⟨_, _, rfl, rfl, heap_alloc2_old _ _ _, heap_alloc2_new _ _ _, ((Below.refl _ _).alloc (Nat.le_refl _) _).alloc (by simp) _⟩
theorem TwoBox.back (W : World) (x y : Blk) (kx bx ky bY : Value) : TwoBox W.heap.size W x y kx bx ky bY (.pointer (some ⟨W.heap.size + 1, 0, none⟩)) (.pointer (some ⟨W.heap.size, 0, none⟩)) ((W.alloc (.cells #[.int .i64 y.refs, .int .i64 y.level, ky, bY] 50)).alloc (.cells #[.int .i64 x.refs, .int .i64 x.level, kx, bx] 50)) :=
  ⟨_, _, rfl, rfl, heap_alloc2_new _ _ _, heap_alloc2_old _ _ _, ((Below.refl _ _).alloc (Nat.le_refl _) _).alloc (by simp) _⟩

set_option maxRecDepth 100000 in
set_option maxHeartbeats 8000000 in
theorem law_back_crowd (w : World) (ao ka ba : Option Addr) (n cap nk kc nb bc : Nat) (s : List Blk) (r0 l a : Int) (ks bs : List Int) (hn : s.length = n) (h41 : n ≤ 2199023255552) (hs : StoRow w ao s) (hwf : WfS s) (hc : Capd ao n cap)
    (hk : ks.length = nk) (hb : bs.length = nb) (hkr : Row .i64 w ka ks) (hbr : Row .u8 w ba bs) (hka : Capd ka nk kc) (hba : Capd ba nb bc) (hwb : WfB ⟨r0, l, ks, bs⟩) (hnk : nk ≤ 17592186044416) (hnb : nb ≤ 140737488351232) (hcr : crowdB s = true) :
    Calls Try.prog 9 #[.agg #[.slice ao n cap], .agg #[.int .i64 r0, .int .i64 l, .slice ka nk kc, .slice ba nb bc], .int .i64 a] w fun e w' => e = .returned (.bool true) ∧ Below w.heap.size w w' := by
  have HN := Lib.hid hn
  have HC := Lib.hid hc
  have HK := Lib.hid hk
  have HB := Lib.hid hb
  have HNK := Lib.hid hnk
  have HNB := Lib.hid hnb
  have HKA := Lib.hid hka
  have HBA := Lib.hid hba
  have hs0 := hs
  have hn63 : n ≤ 1152921504606846976 := by omega
  have hkw := hwb.kids
  clear hn hc hk hb hnk hnb hka hba hs
  have hbw : Below w.heap.size w ((w.alloc (.cells #[.slice ao n cap] 40)).alloc (.cells #[.int .i64 r0, .int .i64 l, .slice ka nk kc, .slice ba nb bc] 50)) := ((Below.refl _ _).alloc (Nat.le_refl _) _).alloc (by simp) _
  have p3 : ((w.alloc (.cells #[.slice ao n cap] 40)).alloc (.cells #[.int .i64 r0, .int .i64 l, .slice ka nk kc, .slice ba nb bc] 50)).heap[w.heap.size]? = some (.cells #[.slice ao n cap] 40 (0, 0)) := heap_alloc2_old _ _ _
  have p4 : ((w.alloc (.cells #[.slice ao n cap] 40)).alloc (.cells #[.int .i64 r0, .int .i64 l, .slice ka nk kc, .slice ba nb bc] 50)).heap[w.heap.size + 1]? = some (.cells #[.int .i64 r0, .int .i64 l, .slice ka nk kc, .slice ba nb bc] 50 (0, 0)) := heap_alloc2_new _ _ _
  go_enter Try.func9, Try.ntmps9
  go_wp2_with fail
  generalize (w.alloc (Obj.cells #[Value.slice ao n cap] 40)).alloc (Obj.cells #[Value.int .i64 r0, Value.int .i64 l, Value.slice ka nk kc, Value.slice ba nb bc] 50) = W0 at *
  have hs := hs0.mono hbw
  refine (crowded_any _ _ _ _ s HN.out h41 hs).mono ?_
  rintro e w1 ⟨rfl, hb1⟩
  clear hs
  replace p3 := (hb1.block _ (lt_heap p3)).trans p3
  replace p4 := (hb1.block _ (lt_heap p4)).trans p4
  replace hbw := below_step hbw hb1
  rw [hcr]
  go_wp2
  go_ret
  exact ⟨rfl, hbw⟩
  
set_option maxRecDepth 100000 in
set_option maxHeartbeats 8000000 in
theorem law_back_eee (w : World) (ao ka ba : Option Addr) (n cap nk kc nb bc : Nat) (s : List Blk) (r0 l a : Int) (ks bs : List Int) (hn : s.length = n) (h41 : n ≤ 2199023255552) (hs : StoRow w ao s) (hwf : WfS s) (hc : Capd ao n cap)
    (hk : ks.length = nk) (hb : bs.length = nb) (hkr : Row .i64 w ka ks) (hbr : Row .u8 w ba bs) (hka : Capd ka nk kc) (hba : Capd ba nb bc) (hwb : WfB ⟨r0, l, ks, bs⟩) (hnk : nk ≤ 17592186044416) (hnb : nb ≤ 140737488351232) {mL hL dL : List Blk} {mk me he de : Int} {nm nh nd : Nat} (hmr : makeR s l ks bs = (mL, mk, me)) (hhr : keepR s a = (hL, he)) (hdr : dropR s a = (dL, de)) (hml : Hid (mL.length = nm)) (hhl : Hid (hL.length = nh)) (hdl : Hid (dL.length = nd)) (hcr : crowdB s = false) (HME : Hid (me ≠ 0)) (HHE : Hid (he ≠ 0)) (HDE : Hid (de ≠ 0)) :
    Calls Try.prog 9 #[.agg #[.slice ao n cap], .agg #[.int .i64 r0, .int .i64 l, .slice ka nk kc, .slice ba nb bc], .int .i64 a] w fun e w' => e = .returned (.bool true) ∧ Below w.heap.size w w' := by
  have HN := Lib.hid hn
  have HC := Lib.hid hc
  have HK := Lib.hid hk
  have HB := Lib.hid hb
  have HNK := Lib.hid hnk
  have HNB := Lib.hid hnb
  have HKA := Lib.hid hka
  have HBA := Lib.hid hba
  have hs0 := hs
  have hn63 : n ≤ 1152921504606846976 := by omega
  have hkw := hwb.kids
  clear hn hc hk hb hnk hnb hka hba hs
  have hbw : Below w.heap.size w ((w.alloc (.cells #[.slice ao n cap] 40)).alloc (.cells #[.int .i64 r0, .int .i64 l, .slice ka nk kc, .slice ba nb bc] 50)) := ((Below.refl _ _).alloc (Nat.le_refl _) _).alloc (by simp) _
  have p3 : ((w.alloc (.cells #[.slice ao n cap] 40)).alloc (.cells #[.int .i64 r0, .int .i64 l, .slice ka nk kc, .slice ba nb bc] 50)).heap[w.heap.size]? = some (.cells #[.slice ao n cap] 40 (0, 0)) := heap_alloc2_old _ _ _
  have p4 : ((w.alloc (.cells #[.slice ao n cap] 40)).alloc (.cells #[.int .i64 r0, .int .i64 l, .slice ka nk kc, .slice ba nb bc] 50)).heap[w.heap.size + 1]? = some (.cells #[.int .i64 r0, .int .i64 l, .slice ka nk kc, .slice ba nb bc] 50 (0, 0)) := heap_alloc2_new _ _ _
  go_enter Try.func9, Try.ntmps9
  go_wp2_with fail
  generalize (w.alloc (Obj.cells #[Value.slice ao n cap] 40)).alloc (Obj.cells #[Value.int .i64 r0, Value.int .i64 l, Value.slice ka nk kc, Value.slice ba nb bc] 50) = W0 at *
  have hs := hs0.mono hbw
  refine (crowded_any _ _ _ _ s HN.out h41 hs).mono ?_
  rintro e w1 ⟨rfl, hb1⟩
  clear hs
  replace p3 := (hb1.block _ (lt_heap p3)).trans p3
  replace p4 := (hb1.block _ (lt_heap p4)).trans p4
  replace hbw := below_step hbw hb1
  rw [hcr]
  have e0 := cell_of_block p4 0
  have e1 := cell_of_block p4 1
  have e2 := cell_of_block p4 2
  have e3 := cell_of_block p4 3
  simp at e0 e1 e2 e3
  have e4 := lt_heap p4
  have cp3 := cell_of_one p3
  have lp3 := lt_heap p3
  have hs := hs0.mono hbw
  go_wp2_with fail
  clear e0 e1 e2 e3 e4
  clear cp3 lp3
  have HM := make_any w1 ao ka ba n cap nk kc nb bc s r0 l ks bs HN.out hn63 hs hwf HC.out HK.out HB.out (hkr.mono hbw) (hbr.mono hbw) HKA.out HBA.out hkw HNK.out HNB.out
  rw [hmr] at HM
  refine HM.mono ?_
  rintro e w2 ⟨v2, rfl, ho, hb2⟩
  clear HM hs p4
  replace p3 := (hb2.block _ (lt_heap p3)).trans p3
  replace hbw := below_step hbw hb2
  obtain ⟨am, cm, hv, hcm, hsm⟩ := ho.sto
  rw [hml.out] at hv hcm
  subst hv
  clear ho
  have hq1 : (me == 0) = false := by rw [beq_eq_false_iff_ne]; exact HME.out
  have hA : Below w2.heap.size w2 (w2.alloc (.cells #[.slice am nm cm] 40)) := (Below.refl _ _).alloc (Nat.le_refl _) _
  have p7 : (w2.alloc (.cells #[.slice am nm cm] 40)).heap[w2.heap.size]? = some (.cells #[.slice am nm cm] 40 (0, 0)) := heap_alloc_new _ _
  have cp3 := cell_of_one p3
  have lp3 := lt_heap p3
  go_wp2_with fail
  clear cp3 lp3
  replace p3 := (hA.block _ (lt_heap p3)).trans p3
  replace hbw := below_step hbw hA
  generalize w2.alloc (Obj.cells #[Value.slice am nm cm] 40) = W9 at *
  clear hA hq1 p7 hsm
  have hs := hs0.mono hbw
  have HM := keep_any W9 ao n cap s a HN.out hn63 hs hwf HC.out
  rw [hhr] at HM
  refine HM.mono ?_
  rintro e w10 ⟨v10, rfl, ho, hb10⟩
  clear HM hs
  replace p3 := (hb10.block _ (lt_heap p3)).trans p3
  replace hbw := below_step hbw hb10
  obtain ⟨ah, ch, hv, hch, hsh⟩ := ho.sto
  rw [hhl.out] at hv hch
  subst hv
  clear ho
  have hA : Below w10.heap.size w10 (w10.alloc (.cells #[.slice ah nh ch] 40)) := (Below.refl _ _).alloc (Nat.le_refl _) _
  have p16 : (w10.alloc (.cells #[.slice ah nh ch] 40)).heap[w10.heap.size]? = some (.cells #[.slice ah nh ch] 40 (0, 0)) := heap_alloc_new _ _
  have hq1 : (he == 0) = false := by rw [beq_eq_false_iff_ne]; exact HHE.out
  have cp3 := cell_of_one p3
  have lp3 := lt_heap p3
  go_wp2_with fail
  clear cp3 lp3
  replace p3 := (hA.block _ (lt_heap p3)).trans p3
  replace hbw := below_step hbw hA
  generalize w10.alloc (Obj.cells #[Value.slice ah nh ch] 40) = W12 at *
  clear hA hq1 p16 hsh
  have hs := hs0.mono hbw
  have HM := drop_any W12 ao n cap s a HN.out hn63 hs hwf HC.out
  rw [hdr] at HM
  refine HM.mono ?_
  rintro e w13 ⟨v13, rfl, ho, hb13⟩
  clear HM hs
  replace p3 := (hb13.block _ (lt_heap p3)).trans p3
  replace hbw := below_step hbw hb13
  obtain ⟨ad, cd, hv, hcd, hsd⟩ := ho.sto
  rw [hdl.out] at hv hcd
  subst hv
  clear ho
  go_wp2_with fail
  have hA : Below w13.heap.size w13 (w13.alloc (.cells #[.slice ad nd cd] 40)) := (Below.refl _ _).alloc (Nat.le_refl _) _
  have p20 : (w13.alloc (.cells #[.slice ad nd cd] 40)).heap[w13.heap.size]? = some (.cells #[.slice ad nd cd] 40 (0, 0)) := heap_alloc_new _ _
  replace p3 := (hA.block _ (lt_heap p3)).trans p3
  replace hsd := hsd.mono hA
  replace hbw := below_step hbw hA
  generalize w13.alloc (Obj.cells #[Value.slice ad nd cd] 40) = W13 at *
  clear hA
  refine (stored_any _).mono ?_
  rintro e w14 ⟨rfl, hb14⟩
  replace p3 := (hb14.block _ (lt_heap p3)).trans p3
  replace p20 := (hb14.block _ (lt_heap p20)).trans p20
  replace hsd := hsd.mono hb14
  replace hbw := below_step hbw hb14
  have hq1 : (de != 0) = true := by rw [bne_iff_ne]; exact HDE.out
  go_wp2_with fail
  refine (stored_any _).mono ?_
  rintro e w15 ⟨rfl, hb15⟩
  have hbw := below_step hbw hb15
  go_wp2
  go_ret
  exact ⟨rfl, hbw⟩

set_option maxRecDepth 100000 in
set_option maxHeartbeats 8000000 in
theorem law_back_oee (w : World) (ao ka ba : Option Addr) (n cap nk kc nb bc : Nat) (s : List Blk) (r0 l a : Int) (ks bs : List Int) (hn : s.length = n) (h41 : n ≤ 2199023255552) (hs : StoRow w ao s) (hwf : WfS s) (hc : Capd ao n cap)
    (hk : ks.length = nk) (hb : bs.length = nb) (hkr : Row .i64 w ka ks) (hbr : Row .u8 w ba bs) (hka : Capd ka nk kc) (hba : Capd ba nb bc) (hwb : WfB ⟨r0, l, ks, bs⟩) (hnk : nk ≤ 17592186044416) (hnb : nb ≤ 140737488351232) {mL hL dL : List Blk} {mk me he de : Int} {nm nh nd : Nat} (hmr : makeR s l ks bs = (mL, mk, me)) (hhr : keepR s a = (hL, he)) (hdr : dropR s a = (dL, de)) (hml : Hid (mL.length = nm)) (hhl : Hid (hL.length = nh)) (hdl : Hid (dL.length = nd)) (hcr : crowdB s = false) (HCE : Hid (checkE s = 0)) (HNM : Hid (nm ≤ 1152921504606846976)) (HWM : Hid (WfS mL)) (HDM : Hid (dropR mL mk = (s, 0))) (HCM : Hid (checkE mL = 0)) (HUM : Hid (usedN mL = usedN s + 1)) (HME : Hid (me = 0)) (HHE : Hid (he ≠ 0)) (HDE : Hid (de ≠ 0)) :
    Calls Try.prog 9 #[.agg #[.slice ao n cap], .agg #[.int .i64 r0, .int .i64 l, .slice ka nk kc, .slice ba nb bc], .int .i64 a] w fun e w' => e = .returned (.bool true) ∧ Below w.heap.size w w' := by
  have HN := Lib.hid hn
  have HC := Lib.hid hc
  have HK := Lib.hid hk
  have HB := Lib.hid hb
  have HNK := Lib.hid hnk
  have HNB := Lib.hid hnb
  have HKA := Lib.hid hka
  have HBA := Lib.hid hba
  have hs0 := hs
  have hn63 : n ≤ 1152921504606846976 := by omega
  have hkw := hwb.kids
  clear hn hc hk hb hnk hnb hka hba hs
  have hbw : Below w.heap.size w ((w.alloc (.cells #[.slice ao n cap] 40)).alloc (.cells #[.int .i64 r0, .int .i64 l, .slice ka nk kc, .slice ba nb bc] 50)) := ((Below.refl _ _).alloc (Nat.le_refl _) _).alloc (by simp) _
  have p3 : ((w.alloc (.cells #[.slice ao n cap] 40)).alloc (.cells #[.int .i64 r0, .int .i64 l, .slice ka nk kc, .slice ba nb bc] 50)).heap[w.heap.size]? = some (.cells #[.slice ao n cap] 40 (0, 0)) := heap_alloc2_old _ _ _
  have p4 : ((w.alloc (.cells #[.slice ao n cap] 40)).alloc (.cells #[.int .i64 r0, .int .i64 l, .slice ka nk kc, .slice ba nb bc] 50)).heap[w.heap.size + 1]? = some (.cells #[.int .i64 r0, .int .i64 l, .slice ka nk kc, .slice ba nb bc] 50 (0, 0)) := heap_alloc2_new _ _ _
  go_enter Try.func9, Try.ntmps9
  go_wp2_with fail
  generalize (w.alloc (Obj.cells #[Value.slice ao n cap] 40)).alloc (Obj.cells #[Value.int .i64 r0, Value.int .i64 l, Value.slice ka nk kc, Value.slice ba nb bc] 50) = W0 at *
  have hs := hs0.mono hbw
  refine (crowded_any _ _ _ _ s HN.out h41 hs).mono ?_
  rintro e w1 ⟨rfl, hb1⟩
  clear hs
  replace p3 := (hb1.block _ (lt_heap p3)).trans p3
  replace p4 := (hb1.block _ (lt_heap p4)).trans p4
  replace hbw := below_step hbw hb1
  rw [hcr]
  have h400 : n ≤ 400 := by have := (checkE_zero s HCE.out).1; have := HN.out; omega
  have e0 := cell_of_block p4 0
  have e1 := cell_of_block p4 1
  have e2 := cell_of_block p4 2
  have e3 := cell_of_block p4 3
  simp at e0 e1 e2 e3
  have e4 := lt_heap p4
  have cp3 := cell_of_one p3
  have lp3 := lt_heap p3
  have hs := hs0.mono hbw
  go_wp2_with fail
  clear e0 e1 e2 e3 e4
  clear cp3 lp3
  have HM := make_any w1 ao ka ba n cap nk kc nb bc s r0 l ks bs HN.out hn63 hs hwf HC.out HK.out HB.out (hkr.mono hbw) (hbr.mono hbw) HKA.out HBA.out hkw HNK.out HNB.out
  rw [hmr] at HM
  refine HM.mono ?_
  rintro e w2 ⟨v2, rfl, ho, hb2⟩
  clear HM hs p4
  replace p3 := (hb2.block _ (lt_heap p3)).trans p3
  replace hbw := below_step hbw hb2
  obtain ⟨am, cm, hv, hcm, hsm⟩ := ho.sto
  rw [hml.out] at hv hcm
  subst hv
  clear ho
  obtain rfl : me = 0 := HME.out
  have hA : Below w2.heap.size w2 (w2.alloc (.cells #[.slice am nm cm] 40)) := (Below.refl _ _).alloc (Nat.le_refl _) _
  have p7 : (w2.alloc (.cells #[.slice am nm cm] 40)).heap[w2.heap.size]? = some (.cells #[.slice am nm cm] 40 (0, 0)) := heap_alloc_new _ _
  go_wp2_with fail
  replace p3 := (hA.block _ (lt_heap p3)).trans p3
  replace hsm := hsm.mono hA
  replace hbw := below_step hbw hA
  generalize w2.alloc (Obj.cells #[Value.slice am nm cm] 40) = W2 at *
  clear hA
  have HM := drop_any W2 am nm cm mL mk hml.out HNM.out hsm HWM.out hcm
  rw [HDM.out] at HM
  refine HM.mono ?_
  rintro e w3 ⟨v3, rfl, ho, hb3⟩
  clear HM
  replace p3 := (hb3.block _ (lt_heap p3)).trans p3
  replace p7 := (hb3.block _ (lt_heap p7)).trans p7
  replace hsm := hsm.mono hb3
  replace hbw := below_step hbw hb3
  obtain ⟨ad, cd, hv, hcd, hsd⟩ := ho.sto
  rw [HN.out] at hv hcd
  subst hv
  clear ho
  have cp3 := cell_of_one p3
  have lp3 := lt_heap p3
  go_wp2_with fail
  clear cp3 lp3
  have hA : Below w3.heap.size w3 (w3.alloc (.cells #[.slice ad n cd] 40)) := (Below.refl _ _).alloc (Nat.le_refl _) _
  have p10 : (w3.alloc (.cells #[.slice ad n cd] 40)).heap[w3.heap.size]? = some (.cells #[.slice ad n cd] 40 (0, 0)) := heap_alloc_new _ _
  replace p3 := (hA.block _ (lt_heap p3)).trans p3
  replace p7 := (hA.block _ (lt_heap p7)).trans p7
  replace hsm := hsm.mono hA
  replace hsd := hsd.mono hA
  replace hbw := below_step hbw hA
  generalize w3.alloc (Obj.cells #[Value.slice ad n cd] 40) = W3 at *
  clear hA
  have hs := hs0.mono hbw
  refine (used_ok _ _ _ _ s HN.out hs hwf HCE.out).mono ?_
  rintro e w4 ⟨rfl, hb4⟩
  clear hs
  replace p3 := (hb4.block _ (lt_heap p3)).trans p3
  replace p7 := (hb4.block _ (lt_heap p7)).trans p7
  replace p10 := (hb4.block _ (lt_heap p10)).trans p10
  replace hsm := hsm.mono hb4
  replace hsd := hsd.mono hb4
  replace hbw := below_step hbw hb4
  have cp7 := cell_of_one p7
  have lp7 := lt_heap p7
  go_wp2_with fail
  clear cp7 lp7
  refine (used_ok _ _ _ _ mL hml.out hsm HWM.out HCM.out).mono ?_
  rintro e w5 ⟨rfl, hb5⟩
  replace p3 := (hb5.block _ (lt_heap p3)).trans p3
  replace p7 := (hb5.block _ (lt_heap p7)).trans p7
  replace p10 := (hb5.block _ (lt_heap p10)).trans p10
  replace hsm := hsm.mono hb5
  replace hsd := hsd.mono hb5
  replace hbw := below_step hbw hb5
  rw [HUM.out]
  have hub := usedN_bd s
  have hub2 : usedN s ≤ 400 := by have := HN.out; omega
  have hub1 := hub.1
  clear hub
  generalize usedN s = us at *
  have cp10 := cell_of_one p10
  have lp10 := lt_heap p10
  have cp3 := cell_of_one p3
  have lp3 := lt_heap p3
  have hs := hs0.mono hbw
  go_wp2_with fail
  clear cp10 lp10 cp3 lp3
  refine (alike_yes _ _ _ _ _ _ _ s HN.out HN.out hn63 hsd hs hwf).mono ?_
  rintro e w6 ⟨rfl, hb6⟩
  clear hs hsd p10
  replace p3 := (hb6.block _ (lt_heap p3)).trans p3
  replace p7 := (hb6.block _ (lt_heap p7)).trans p7
  replace hsm := hsm.mono hb6
  replace hbw := below_step hbw hb6
  have cp7 := cell_of_one p7
  have lp7 := lt_heap p7
  go_wp2_with fail
  clear cp7 lp7
  refine (check_any _ _ _ _ mL hml.out HNM.out hsm HWM.out).mono ?_
  rintro e w7 ⟨rfl, hb7⟩
  rw [HCM.out]
  replace p3 := (hb7.block _ (lt_heap p3)).trans p3
  replace hbw := below_step hbw hb7
  have cp3 := cell_of_one p3
  have lp3 := lt_heap p3
  go_wp2_with fail
  clear cp3 lp3
  clear hsm p7 hub1 hub2
  generalize w7 = W9 at *
  have hs := hs0.mono hbw
  have HM := keep_any W9 ao n cap s a HN.out hn63 hs hwf HC.out
  rw [hhr] at HM
  refine HM.mono ?_
  rintro e w10 ⟨v10, rfl, ho, hb10⟩
  clear HM hs
  replace p3 := (hb10.block _ (lt_heap p3)).trans p3
  replace hbw := below_step hbw hb10
  obtain ⟨ah, ch, hv, hch, hsh⟩ := ho.sto
  rw [hhl.out] at hv hch
  subst hv
  clear ho
  have hA : Below w10.heap.size w10 (w10.alloc (.cells #[.slice ah nh ch] 40)) := (Below.refl _ _).alloc (Nat.le_refl _) _
  have p16 : (w10.alloc (.cells #[.slice ah nh ch] 40)).heap[w10.heap.size]? = some (.cells #[.slice ah nh ch] 40 (0, 0)) := heap_alloc_new _ _
  have hq1 : (he == 0) = false := by rw [beq_eq_false_iff_ne]; exact HHE.out
  have cp3 := cell_of_one p3
  have lp3 := lt_heap p3
  go_wp2_with fail
  clear cp3 lp3
  replace p3 := (hA.block _ (lt_heap p3)).trans p3
  replace hbw := below_step hbw hA
  generalize w10.alloc (Obj.cells #[Value.slice ah nh ch] 40) = W12 at *
  clear hA hq1 p16 hsh
  have hs := hs0.mono hbw
  have HM := drop_any W12 ao n cap s a HN.out hn63 hs hwf HC.out
  rw [hdr] at HM
  refine HM.mono ?_
  rintro e w13 ⟨v13, rfl, ho, hb13⟩
  clear HM hs
  replace p3 := (hb13.block _ (lt_heap p3)).trans p3
  replace hbw := below_step hbw hb13
  obtain ⟨ad, cd, hv, hcd, hsd⟩ := ho.sto
  rw [hdl.out] at hv hcd
  subst hv
  clear ho
  go_wp2_with fail
  have hA : Below w13.heap.size w13 (w13.alloc (.cells #[.slice ad nd cd] 40)) := (Below.refl _ _).alloc (Nat.le_refl _) _
  have p20 : (w13.alloc (.cells #[.slice ad nd cd] 40)).heap[w13.heap.size]? = some (.cells #[.slice ad nd cd] 40 (0, 0)) := heap_alloc_new _ _
  replace p3 := (hA.block _ (lt_heap p3)).trans p3
  replace hsd := hsd.mono hA
  replace hbw := below_step hbw hA
  generalize w13.alloc (Obj.cells #[Value.slice ad nd cd] 40) = W13 at *
  clear hA
  refine (stored_any _).mono ?_
  rintro e w14 ⟨rfl, hb14⟩
  replace p3 := (hb14.block _ (lt_heap p3)).trans p3
  replace p20 := (hb14.block _ (lt_heap p20)).trans p20
  replace hsd := hsd.mono hb14
  replace hbw := below_step hbw hb14
  have hq1 : (de != 0) = true := by rw [bne_iff_ne]; exact HDE.out
  go_wp2_with fail
  refine (stored_any _).mono ?_
  rintro e w15 ⟨rfl, hb15⟩
  have hbw := below_step hbw hb15
  go_wp2
  go_ret
  exact ⟨rfl, hbw⟩

set_option maxRecDepth 100000 in
set_option maxHeartbeats 8000000 in
theorem law_back_eoe (w : World) (ao ka ba : Option Addr) (n cap nk kc nb bc : Nat) (s : List Blk) (r0 l a : Int) (ks bs : List Int) (hn : s.length = n) (h41 : n ≤ 2199023255552) (hs : StoRow w ao s) (hwf : WfS s) (hc : Capd ao n cap)
    (hk : ks.length = nk) (hb : bs.length = nb) (hkr : Row .i64 w ka ks) (hbr : Row .u8 w ba bs) (hka : Capd ka nk kc) (hba : Capd ba nb bc) (hwb : WfB ⟨r0, l, ks, bs⟩) (hnk : nk ≤ 17592186044416) (hnb : nb ≤ 140737488351232) {mL hL dL : List Blk} {mk me he de : Int} {nm nh nd : Nat} (hmr : makeR s l ks bs = (mL, mk, me)) (hhr : keepR s a = (hL, he)) (hdr : dropR s a = (dL, de)) (hml : Hid (mL.length = nm)) (hhl : Hid (hL.length = nh)) (hdl : Hid (dL.length = nd)) (hcr : crowdB s = false) (HME : Hid (me ≠ 0)) (HNH : Hid (nh ≤ 1152921504606846976)) (HWH : Hid (WfS hL)) (HDH : Hid (dropR hL a = (s, 0))) (HHE : Hid (he = 0)) (HDE : Hid (de ≠ 0)) :
    Calls Try.prog 9 #[.agg #[.slice ao n cap], .agg #[.int .i64 r0, .int .i64 l, .slice ka nk kc, .slice ba nb bc], .int .i64 a] w fun e w' => e = .returned (.bool true) ∧ Below w.heap.size w w' := by
  have HN := Lib.hid hn
  have HC := Lib.hid hc
  have HK := Lib.hid hk
  have HB := Lib.hid hb
  have HNK := Lib.hid hnk
  have HNB := Lib.hid hnb
  have HKA := Lib.hid hka
  have HBA := Lib.hid hba
  have hs0 := hs
  have hn63 : n ≤ 1152921504606846976 := by omega
  have hkw := hwb.kids
  clear hn hc hk hb hnk hnb hka hba hs
  have hbw : Below w.heap.size w ((w.alloc (.cells #[.slice ao n cap] 40)).alloc (.cells #[.int .i64 r0, .int .i64 l, .slice ka nk kc, .slice ba nb bc] 50)) := ((Below.refl _ _).alloc (Nat.le_refl _) _).alloc (by simp) _
  have p3 : ((w.alloc (.cells #[.slice ao n cap] 40)).alloc (.cells #[.int .i64 r0, .int .i64 l, .slice ka nk kc, .slice ba nb bc] 50)).heap[w.heap.size]? = some (.cells #[.slice ao n cap] 40 (0, 0)) := heap_alloc2_old _ _ _
  have p4 : ((w.alloc (.cells #[.slice ao n cap] 40)).alloc (.cells #[.int .i64 r0, .int .i64 l, .slice ka nk kc, .slice ba nb bc] 50)).heap[w.heap.size + 1]? = some (.cells #[.int .i64 r0, .int .i64 l, .slice ka nk kc, .slice ba nb bc] 50 (0, 0)) := heap_alloc2_new _ _ _
  go_enter Try.func9, Try.ntmps9
  go_wp2_with fail
  generalize (w.alloc (Obj.cells #[Value.slice ao n cap] 40)).alloc (Obj.cells #[Value.int .i64 r0, Value.int .i64 l, Value.slice ka nk kc, Value.slice ba nb bc] 50) = W0 at *
  have hs := hs0.mono hbw
  refine (crowded_any _ _ _ _ s HN.out h41 hs).mono ?_
  rintro e w1 ⟨rfl, hb1⟩
  clear hs
  replace p3 := (hb1.block _ (lt_heap p3)).trans p3
  replace p4 := (hb1.block _ (lt_heap p4)).trans p4
  replace hbw := below_step hbw hb1
  rw [hcr]
  have e0 := cell_of_block p4 0
  have e1 := cell_of_block p4 1
  have e2 := cell_of_block p4 2
  have e3 := cell_of_block p4 3
  simp at e0 e1 e2 e3
  have e4 := lt_heap p4
  have cp3 := cell_of_one p3
  have lp3 := lt_heap p3
  have hs := hs0.mono hbw
  go_wp2_with fail
  clear e0 e1 e2 e3 e4
  clear cp3 lp3
  have HM := make_any w1 ao ka ba n cap nk kc nb bc s r0 l ks bs HN.out hn63 hs hwf HC.out HK.out HB.out (hkr.mono hbw) (hbr.mono hbw) HKA.out HBA.out hkw HNK.out HNB.out
  rw [hmr] at HM
  refine HM.mono ?_
  rintro e w2 ⟨v2, rfl, ho, hb2⟩
  clear HM hs p4
  replace p3 := (hb2.block _ (lt_heap p3)).trans p3
  replace hbw := below_step hbw hb2
  obtain ⟨am, cm, hv, hcm, hsm⟩ := ho.sto
  rw [hml.out] at hv hcm
  subst hv
  clear ho
  have hq1 : (me == 0) = false := by rw [beq_eq_false_iff_ne]; exact HME.out
  have hA : Below w2.heap.size w2 (w2.alloc (.cells #[.slice am nm cm] 40)) := (Below.refl _ _).alloc (Nat.le_refl _) _
  have p7 : (w2.alloc (.cells #[.slice am nm cm] 40)).heap[w2.heap.size]? = some (.cells #[.slice am nm cm] 40 (0, 0)) := heap_alloc_new _ _
  have cp3 := cell_of_one p3
  have lp3 := lt_heap p3
  go_wp2_with fail
  clear cp3 lp3
  replace p3 := (hA.block _ (lt_heap p3)).trans p3
  replace hbw := below_step hbw hA
  generalize w2.alloc (Obj.cells #[Value.slice am nm cm] 40) = W9 at *
  clear hA hq1 p7 hsm
  have hs := hs0.mono hbw
  have HM := keep_any W9 ao n cap s a HN.out hn63 hs hwf HC.out
  rw [hhr] at HM
  refine HM.mono ?_
  rintro e w10 ⟨v10, rfl, ho, hb10⟩
  clear HM hs
  replace p3 := (hb10.block _ (lt_heap p3)).trans p3
  replace hbw := below_step hbw hb10
  obtain ⟨ah, ch, hv, hch, hsh⟩ := ho.sto
  rw [hhl.out] at hv hch
  subst hv
  clear ho
  have hA : Below w10.heap.size w10 (w10.alloc (.cells #[.slice ah nh ch] 40)) := (Below.refl _ _).alloc (Nat.le_refl _) _
  have p16 : (w10.alloc (.cells #[.slice ah nh ch] 40)).heap[w10.heap.size]? = some (.cells #[.slice ah nh ch] 40 (0, 0)) := heap_alloc_new _ _
  obtain rfl : he = 0 := HHE.out
  go_wp2_with fail
  replace p3 := (hA.block _ (lt_heap p3)).trans p3
  replace hsh := hsh.mono hA
  replace hbw := below_step hbw hA
  generalize w10.alloc (Obj.cells #[Value.slice ah nh ch] 40) = W10 at *
  clear hA
  have HM := drop_any W10 ah nh ch hL a hhl.out HNH.out hsh HWH.out hch
  rw [HDH.out] at HM
  refine HM.mono ?_
  rintro e w11 ⟨v11, rfl, ho, hb11⟩
  clear HM p16 hsh
  replace p3 := (hb11.block _ (lt_heap p3)).trans p3
  replace hbw := below_step hbw hb11
  obtain ⟨ad, cd, hv, hcd, hsd⟩ := ho.sto
  rw [HN.out] at hv hcd
  subst hv
  clear ho
  have cp3 := cell_of_one p3
  have lp3 := lt_heap p3
  have hA : Below w11.heap.size w11 (w11.alloc (.cells #[.slice ad n cd] 40)) := (Below.refl _ _).alloc (Nat.le_refl _) _
  have p18 : (w11.alloc (.cells #[.slice ad n cd] 40)).heap[w11.heap.size]? = some (.cells #[.slice ad n cd] 40 (0, 0)) := heap_alloc_new _ _
  go_wp2_with fail
  clear cp3 lp3
  replace p3 := (hA.block _ (lt_heap p3)).trans p3
  replace hsd := hsd.mono hA
  replace hbw := below_step hbw hA
  generalize w11.alloc (Obj.cells #[Value.slice ad n cd] 40) = W11 at *
  clear hA
  have hs := hs0.mono hbw
  refine (alike_yes _ _ _ _ _ _ _ s HN.out HN.out hn63 hsd hs hwf).mono ?_
  rintro e w12 ⟨rfl, hb12⟩
  clear hs hsd p18
  replace p3 := (hb12.block _ (lt_heap p3)).trans p3
  replace hbw := below_step hbw hb12
  have cp3 := cell_of_one p3
  have lp3 := lt_heap p3
  go_wp2_with fail
  clear cp3 lp3
  generalize w12 = W12 at *
  have hs := hs0.mono hbw
  have HM := drop_any W12 ao n cap s a HN.out hn63 hs hwf HC.out
  rw [hdr] at HM
  refine HM.mono ?_
  rintro e w13 ⟨v13, rfl, ho, hb13⟩
  clear HM hs
  replace p3 := (hb13.block _ (lt_heap p3)).trans p3
  replace hbw := below_step hbw hb13
  obtain ⟨ad, cd, hv, hcd, hsd⟩ := ho.sto
  rw [hdl.out] at hv hcd
  subst hv
  clear ho
  go_wp2_with fail
  have hA : Below w13.heap.size w13 (w13.alloc (.cells #[.slice ad nd cd] 40)) := (Below.refl _ _).alloc (Nat.le_refl _) _
  have p20 : (w13.alloc (.cells #[.slice ad nd cd] 40)).heap[w13.heap.size]? = some (.cells #[.slice ad nd cd] 40 (0, 0)) := heap_alloc_new _ _
  replace p3 := (hA.block _ (lt_heap p3)).trans p3
  replace hsd := hsd.mono hA
  replace hbw := below_step hbw hA
  generalize w13.alloc (Obj.cells #[Value.slice ad nd cd] 40) = W13 at *
  clear hA
  refine (stored_any _).mono ?_
  rintro e w14 ⟨rfl, hb14⟩
  replace p3 := (hb14.block _ (lt_heap p3)).trans p3
  replace p20 := (hb14.block _ (lt_heap p20)).trans p20
  replace hsd := hsd.mono hb14
  replace hbw := below_step hbw hb14
  have hq1 : (de != 0) = true := by rw [bne_iff_ne]; exact HDE.out
  go_wp2_with fail
  refine (stored_any _).mono ?_
  rintro e w15 ⟨rfl, hb15⟩
  have hbw := below_step hbw hb15
  go_wp2
  go_ret
  exact ⟨rfl, hbw⟩

set_option maxRecDepth 100000 in
set_option maxHeartbeats 8000000 in
theorem law_back_ooe (w : World) (ao ka ba : Option Addr) (n cap nk kc nb bc : Nat) (s : List Blk) (r0 l a : Int) (ks bs : List Int) (hn : s.length = n) (h41 : n ≤ 2199023255552) (hs : StoRow w ao s) (hwf : WfS s) (hc : Capd ao n cap)
    (hk : ks.length = nk) (hb : bs.length = nb) (hkr : Row .i64 w ka ks) (hbr : Row .u8 w ba bs) (hka : Capd ka nk kc) (hba : Capd ba nb bc) (hwb : WfB ⟨r0, l, ks, bs⟩) (hnk : nk ≤ 17592186044416) (hnb : nb ≤ 140737488351232) {mL hL dL : List Blk} {mk me he de : Int} {nm nh nd : Nat} (hmr : makeR s l ks bs = (mL, mk, me)) (hhr : keepR s a = (hL, he)) (hdr : dropR s a = (dL, de)) (hml : Hid (mL.length = nm)) (hhl : Hid (hL.length = nh)) (hdl : Hid (dL.length = nd)) (hcr : crowdB s = false) (HCE : Hid (checkE s = 0)) (HNM : Hid (nm ≤ 1152921504606846976)) (HWM : Hid (WfS mL)) (HDM : Hid (dropR mL mk = (s, 0))) (HCM : Hid (checkE mL = 0)) (HUM : Hid (usedN mL = usedN s + 1)) (HME : Hid (me = 0)) (HNH : Hid (nh ≤ 1152921504606846976)) (HWH : Hid (WfS hL)) (HDH : Hid (dropR hL a = (s, 0))) (HHE : Hid (he = 0)) (HDE : Hid (de ≠ 0)) :
    Calls Try.prog 9 #[.agg #[.slice ao n cap], .agg #[.int .i64 r0, .int .i64 l, .slice ka nk kc, .slice ba nb bc], .int .i64 a] w fun e w' => e = .returned (.bool true) ∧ Below w.heap.size w w' := by
  have HN := Lib.hid hn
  have HC := Lib.hid hc
  have HK := Lib.hid hk
  have HB := Lib.hid hb
  have HNK := Lib.hid hnk
  have HNB := Lib.hid hnb
  have HKA := Lib.hid hka
  have HBA := Lib.hid hba
  have hs0 := hs
  have hn63 : n ≤ 1152921504606846976 := by omega
  have hkw := hwb.kids
  clear hn hc hk hb hnk hnb hka hba hs
  have hbw : Below w.heap.size w ((w.alloc (.cells #[.slice ao n cap] 40)).alloc (.cells #[.int .i64 r0, .int .i64 l, .slice ka nk kc, .slice ba nb bc] 50)) := ((Below.refl _ _).alloc (Nat.le_refl _) _).alloc (by simp) _
  have p3 : ((w.alloc (.cells #[.slice ao n cap] 40)).alloc (.cells #[.int .i64 r0, .int .i64 l, .slice ka nk kc, .slice ba nb bc] 50)).heap[w.heap.size]? = some (.cells #[.slice ao n cap] 40 (0, 0)) := heap_alloc2_old _ _ _
  have p4 : ((w.alloc (.cells #[.slice ao n cap] 40)).alloc (.cells #[.int .i64 r0, .int .i64 l, .slice ka nk kc, .slice ba nb bc] 50)).heap[w.heap.size + 1]? = some (.cells #[.int .i64 r0, .int .i64 l, .slice ka nk kc, .slice ba nb bc] 50 (0, 0)) := heap_alloc2_new _ _ _
  go_enter Try.func9, Try.ntmps9
  go_wp2_with fail
  generalize (w.alloc (Obj.cells #[Value.slice ao n cap] 40)).alloc (Obj.cells #[Value.int .i64 r0, Value.int .i64 l, Value.slice ka nk kc, Value.slice ba nb bc] 50) = W0 at *
  have hs := hs0.mono hbw
  refine (crowded_any _ _ _ _ s HN.out h41 hs).mono ?_
  rintro e w1 ⟨rfl, hb1⟩
  clear hs
  replace p3 := (hb1.block _ (lt_heap p3)).trans p3
  replace p4 := (hb1.block _ (lt_heap p4)).trans p4
  replace hbw := below_step hbw hb1
  rw [hcr]
  have h400 : n ≤ 400 := by have := (checkE_zero s HCE.out).1; have := HN.out; omega
  have e0 := cell_of_block p4 0
  have e1 := cell_of_block p4 1
  have e2 := cell_of_block p4 2
  have e3 := cell_of_block p4 3
  simp at e0 e1 e2 e3
  have e4 := lt_heap p4
  have cp3 := cell_of_one p3
  have lp3 := lt_heap p3
  have hs := hs0.mono hbw
  go_wp2_with fail
  clear e0 e1 e2 e3 e4
  clear cp3 lp3
  have HM := make_any w1 ao ka ba n cap nk kc nb bc s r0 l ks bs HN.out hn63 hs hwf HC.out HK.out HB.out (hkr.mono hbw) (hbr.mono hbw) HKA.out HBA.out hkw HNK.out HNB.out
  rw [hmr] at HM
  refine HM.mono ?_
  rintro e w2 ⟨v2, rfl, ho, hb2⟩
  clear HM hs p4
  replace p3 := (hb2.block _ (lt_heap p3)).trans p3
  replace hbw := below_step hbw hb2
  obtain ⟨am, cm, hv, hcm, hsm⟩ := ho.sto
  rw [hml.out] at hv hcm
  subst hv
  clear ho
  obtain rfl : me = 0 := HME.out
  have hA : Below w2.heap.size w2 (w2.alloc (.cells #[.slice am nm cm] 40)) := (Below.refl _ _).alloc (Nat.le_refl _) _
  have p7 : (w2.alloc (.cells #[.slice am nm cm] 40)).heap[w2.heap.size]? = some (.cells #[.slice am nm cm] 40 (0, 0)) := heap_alloc_new _ _
  go_wp2_with fail
  replace p3 := (hA.block _ (lt_heap p3)).trans p3
  replace hsm := hsm.mono hA
  replace hbw := below_step hbw hA
  generalize w2.alloc (Obj.cells #[Value.slice am nm cm] 40) = W2 at *
  clear hA
  have HM := drop_any W2 am nm cm mL mk hml.out HNM.out hsm HWM.out hcm
  rw [HDM.out] at HM
  refine HM.mono ?_
  rintro e w3 ⟨v3, rfl, ho, hb3⟩
  clear HM
  replace p3 := (hb3.block _ (lt_heap p3)).trans p3
  replace p7 := (hb3.block _ (lt_heap p7)).trans p7
  replace hsm := hsm.mono hb3
  replace hbw := below_step hbw hb3
  obtain ⟨ad, cd, hv, hcd, hsd⟩ := ho.sto
  rw [HN.out] at hv hcd
  subst hv
  clear ho
  have cp3 := cell_of_one p3
  have lp3 := lt_heap p3
  go_wp2_with fail
  clear cp3 lp3
  have hA : Below w3.heap.size w3 (w3.alloc (.cells #[.slice ad n cd] 40)) := (Below.refl _ _).alloc (Nat.le_refl _) _
  have p10 : (w3.alloc (.cells #[.slice ad n cd] 40)).heap[w3.heap.size]? = some (.cells #[.slice ad n cd] 40 (0, 0)) := heap_alloc_new _ _
  replace p3 := (hA.block _ (lt_heap p3)).trans p3
  replace p7 := (hA.block _ (lt_heap p7)).trans p7
  replace hsm := hsm.mono hA
  replace hsd := hsd.mono hA
  replace hbw := below_step hbw hA
  generalize w3.alloc (Obj.cells #[Value.slice ad n cd] 40) = W3 at *
  clear hA
  have hs := hs0.mono hbw
  refine (used_ok _ _ _ _ s HN.out hs hwf HCE.out).mono ?_
  rintro e w4 ⟨rfl, hb4⟩
  clear hs
  replace p3 := (hb4.block _ (lt_heap p3)).trans p3
  replace p7 := (hb4.block _ (lt_heap p7)).trans p7
  replace p10 := (hb4.block _ (lt_heap p10)).trans p10
  replace hsm := hsm.mono hb4
  replace hsd := hsd.mono hb4
  replace hbw := below_step hbw hb4
  have cp7 := cell_of_one p7
  have lp7 := lt_heap p7
  go_wp2_with fail
  clear cp7 lp7
  refine (used_ok _ _ _ _ mL hml.out hsm HWM.out HCM.out).mono ?_
  rintro e w5 ⟨rfl, hb5⟩
  replace p3 := (hb5.block _ (lt_heap p3)).trans p3
  replace p7 := (hb5.block _ (lt_heap p7)).trans p7
  replace p10 := (hb5.block _ (lt_heap p10)).trans p10
  replace hsm := hsm.mono hb5
  replace hsd := hsd.mono hb5
  replace hbw := below_step hbw hb5
  rw [HUM.out]
  have hub := usedN_bd s
  have hub2 : usedN s ≤ 400 := by have := HN.out; omega
  have hub1 := hub.1
  clear hub
  generalize usedN s = us at *
  have cp10 := cell_of_one p10
  have lp10 := lt_heap p10
  have cp3 := cell_of_one p3
  have lp3 := lt_heap p3
  have hs := hs0.mono hbw
  go_wp2_with fail
  clear cp10 lp10 cp3 lp3
  refine (alike_yes _ _ _ _ _ _ _ s HN.out HN.out hn63 hsd hs hwf).mono ?_
  rintro e w6 ⟨rfl, hb6⟩
  clear hs hsd p10
  replace p3 := (hb6.block _ (lt_heap p3)).trans p3
  replace p7 := (hb6.block _ (lt_heap p7)).trans p7
  replace hsm := hsm.mono hb6
  replace hbw := below_step hbw hb6
  have cp7 := cell_of_one p7
  have lp7 := lt_heap p7
  go_wp2_with fail
  clear cp7 lp7
  refine (check_any _ _ _ _ mL hml.out HNM.out hsm HWM.out).mono ?_
  rintro e w7 ⟨rfl, hb7⟩
  rw [HCM.out]
  replace p3 := (hb7.block _ (lt_heap p3)).trans p3
  replace hbw := below_step hbw hb7
  have cp3 := cell_of_one p3
  have lp3 := lt_heap p3
  go_wp2_with fail
  clear cp3 lp3
  clear hsm p7 hub1 hub2
  generalize w7 = W9 at *
  have hs := hs0.mono hbw
  have HM := keep_any W9 ao n cap s a HN.out hn63 hs hwf HC.out
  rw [hhr] at HM
  refine HM.mono ?_
  rintro e w10 ⟨v10, rfl, ho, hb10⟩
  clear HM hs
  replace p3 := (hb10.block _ (lt_heap p3)).trans p3
  replace hbw := below_step hbw hb10
  obtain ⟨ah, ch, hv, hch, hsh⟩ := ho.sto
  rw [hhl.out] at hv hch
  subst hv
  clear ho
  have hA : Below w10.heap.size w10 (w10.alloc (.cells #[.slice ah nh ch] 40)) := (Below.refl _ _).alloc (Nat.le_refl _) _
  have p16 : (w10.alloc (.cells #[.slice ah nh ch] 40)).heap[w10.heap.size]? = some (.cells #[.slice ah nh ch] 40 (0, 0)) := heap_alloc_new _ _
  obtain rfl : he = 0 := HHE.out
  go_wp2_with fail
  replace p3 := (hA.block _ (lt_heap p3)).trans p3
  replace hsh := hsh.mono hA
  replace hbw := below_step hbw hA
  generalize w10.alloc (Obj.cells #[Value.slice ah nh ch] 40) = W10 at *
  clear hA
  have HM := drop_any W10 ah nh ch hL a hhl.out HNH.out hsh HWH.out hch
  rw [HDH.out] at HM
  refine HM.mono ?_
  rintro e w11 ⟨v11, rfl, ho, hb11⟩
  clear HM p16 hsh
  replace p3 := (hb11.block _ (lt_heap p3)).trans p3
  replace hbw := below_step hbw hb11
  obtain ⟨ad, cd, hv, hcd, hsd⟩ := ho.sto
  rw [HN.out] at hv hcd
  subst hv
  clear ho
  have cp3 := cell_of_one p3
  have lp3 := lt_heap p3
  have hA : Below w11.heap.size w11 (w11.alloc (.cells #[.slice ad n cd] 40)) := (Below.refl _ _).alloc (Nat.le_refl _) _
  have p18 : (w11.alloc (.cells #[.slice ad n cd] 40)).heap[w11.heap.size]? = some (.cells #[.slice ad n cd] 40 (0, 0)) := heap_alloc_new _ _
  go_wp2_with fail
  clear cp3 lp3
  replace p3 := (hA.block _ (lt_heap p3)).trans p3
  replace hsd := hsd.mono hA
  replace hbw := below_step hbw hA
  generalize w11.alloc (Obj.cells #[Value.slice ad n cd] 40) = W11 at *
  clear hA
  have hs := hs0.mono hbw
  refine (alike_yes _ _ _ _ _ _ _ s HN.out HN.out hn63 hsd hs hwf).mono ?_
  rintro e w12 ⟨rfl, hb12⟩
  clear hs hsd p18
  replace p3 := (hb12.block _ (lt_heap p3)).trans p3
  replace hbw := below_step hbw hb12
  have cp3 := cell_of_one p3
  have lp3 := lt_heap p3
  go_wp2_with fail
  clear cp3 lp3
  generalize w12 = W12 at *
  have hs := hs0.mono hbw
  have HM := drop_any W12 ao n cap s a HN.out hn63 hs hwf HC.out
  rw [hdr] at HM
  refine HM.mono ?_
  rintro e w13 ⟨v13, rfl, ho, hb13⟩
  clear HM hs
  replace p3 := (hb13.block _ (lt_heap p3)).trans p3
  replace hbw := below_step hbw hb13
  obtain ⟨ad, cd, hv, hcd, hsd⟩ := ho.sto
  rw [hdl.out] at hv hcd
  subst hv
  clear ho
  go_wp2_with fail
  have hA : Below w13.heap.size w13 (w13.alloc (.cells #[.slice ad nd cd] 40)) := (Below.refl _ _).alloc (Nat.le_refl _) _
  have p20 : (w13.alloc (.cells #[.slice ad nd cd] 40)).heap[w13.heap.size]? = some (.cells #[.slice ad nd cd] 40 (0, 0)) := heap_alloc_new _ _
  replace p3 := (hA.block _ (lt_heap p3)).trans p3
  replace hsd := hsd.mono hA
  replace hbw := below_step hbw hA
  generalize w13.alloc (Obj.cells #[Value.slice ad nd cd] 40) = W13 at *
  clear hA
  refine (stored_any _).mono ?_
  rintro e w14 ⟨rfl, hb14⟩
  replace p3 := (hb14.block _ (lt_heap p3)).trans p3
  replace p20 := (hb14.block _ (lt_heap p20)).trans p20
  replace hsd := hsd.mono hb14
  replace hbw := below_step hbw hb14
  have hq1 : (de != 0) = true := by rw [bne_iff_ne]; exact HDE.out
  go_wp2_with fail
  refine (stored_any _).mono ?_
  rintro e w15 ⟨rfl, hb15⟩
  have hbw := below_step hbw hb15
  go_wp2
  go_ret
  exact ⟨rfl, hbw⟩

set_option maxRecDepth 100000 in
set_option maxHeartbeats 8000000 in
theorem law_back_eoo (w : World) (ao ka ba : Option Addr) (n cap nk kc nb bc : Nat) (s : List Blk) (r0 l a : Int) (ks bs : List Int) (hn : s.length = n) (h41 : n ≤ 2199023255552) (hs : StoRow w ao s) (hwf : WfS s) (hc : Capd ao n cap)
    (hk : ks.length = nk) (hb : bs.length = nb) (hkr : Row .i64 w ka ks) (hbr : Row .u8 w ba bs) (hka : Capd ka nk kc) (hba : Capd ba nb bc) (hwb : WfB ⟨r0, l, ks, bs⟩) (hnk : nk ≤ 17592186044416) (hnb : nb ≤ 140737488351232) {mL hL dL : List Blk} {mk me he de : Int} {nm nh nd : Nat} (hmr : makeR s l ks bs = (mL, mk, me)) (hhr : keepR s a = (hL, he)) (hdr : dropR s a = (dL, de)) (hml : Hid (mL.length = nm)) (hhl : Hid (hL.length = nh)) (hdl : Hid (dL.length = nd)) (hcr : crowdB s = false) (HME : Hid (me ≠ 0)) (HNH : Hid (nh ≤ 1152921504606846976)) (HWH : Hid (WfS hL)) (HDH : Hid (dropR hL a = (s, 0))) (HHE : Hid (he = 0)) (HCE : Hid (checkE s = 0)) (HND : Hid (nd ≤ 1152921504606846976)) (HWD : Hid (WfS dL)) {k : Nat} (HST : Hid (Still s dL (stillL s k))) (HST2 : Hid (dL.length = s.length)) (hkn : k < n) (HDE : Hid (de = 0)) (hak : a = (k : Int) + 1) :
    Calls Try.prog 9 #[.agg #[.slice ao n cap], .agg #[.int .i64 r0, .int .i64 l, .slice ka nk kc, .slice ba nb bc], .int .i64 a] w fun e w' => e = .returned (.bool true) ∧ Below w.heap.size w w' := by
  subst hak
  have HN := Lib.hid hn
  have HC := Lib.hid hc
  have HK := Lib.hid hk
  have HB := Lib.hid hb
  have HNK := Lib.hid hnk
  have HNB := Lib.hid hnb
  have HKA := Lib.hid hka
  have HBA := Lib.hid hba
  have hs0 := hs
  have hn63 : n ≤ 1152921504606846976 := by omega
  have hkw := hwb.kids
  clear hn hc hk hb hnk hnb hka hba hs
  have hbw : Below w.heap.size w ((w.alloc (.cells #[.slice ao n cap] 40)).alloc (.cells #[.int .i64 r0, .int .i64 l, .slice ka nk kc, .slice ba nb bc] 50)) := ((Below.refl _ _).alloc (Nat.le_refl _) _).alloc (by simp) _
  have p3 : ((w.alloc (.cells #[.slice ao n cap] 40)).alloc (.cells #[.int .i64 r0, .int .i64 l, .slice ka nk kc, .slice ba nb bc] 50)).heap[w.heap.size]? = some (.cells #[.slice ao n cap] 40 (0, 0)) := heap_alloc2_old _ _ _
  have p4 : ((w.alloc (.cells #[.slice ao n cap] 40)).alloc (.cells #[.int .i64 r0, .int .i64 l, .slice ka nk kc, .slice ba nb bc] 50)).heap[w.heap.size + 1]? = some (.cells #[.int .i64 r0, .int .i64 l, .slice ka nk kc, .slice ba nb bc] 50 (0, 0)) := heap_alloc2_new _ _ _
  go_enter Try.func9, Try.ntmps9
  go_wp2_with fail
  generalize (w.alloc (Obj.cells #[Value.slice ao n cap] 40)).alloc (Obj.cells #[Value.int .i64 r0, Value.int .i64 l, Value.slice ka nk kc, Value.slice ba nb bc] 50) = W0 at *
  have hs := hs0.mono hbw
  refine (crowded_any _ _ _ _ s HN.out h41 hs).mono ?_
  rintro e w1 ⟨rfl, hb1⟩
  clear hs
  replace p3 := (hb1.block _ (lt_heap p3)).trans p3
  replace p4 := (hb1.block _ (lt_heap p4)).trans p4
  replace hbw := below_step hbw hb1
  rw [hcr]
  have h400 : n ≤ 400 := by have := (checkE_zero s HCE.out).1; have := HN.out; omega
  have e0 := cell_of_block p4 0
  have e1 := cell_of_block p4 1
  have e2 := cell_of_block p4 2
  have e3 := cell_of_block p4 3
  simp at e0 e1 e2 e3
  have e4 := lt_heap p4
  have cp3 := cell_of_one p3
  have lp3 := lt_heap p3
  have hs := hs0.mono hbw
  go_wp2_with fail
  clear e0 e1 e2 e3 e4
  clear cp3 lp3
  have HM := make_any w1 ao ka ba n cap nk kc nb bc s r0 l ks bs HN.out hn63 hs hwf HC.out HK.out HB.out (hkr.mono hbw) (hbr.mono hbw) HKA.out HBA.out hkw HNK.out HNB.out
  rw [hmr] at HM
  refine HM.mono ?_
  rintro e w2 ⟨v2, rfl, ho, hb2⟩
  clear HM hs p4
  replace p3 := (hb2.block _ (lt_heap p3)).trans p3
  replace hbw := below_step hbw hb2
  obtain ⟨am, cm, hv, hcm, hsm⟩ := ho.sto
  rw [hml.out] at hv hcm
  subst hv
  clear ho
  have hq1 : (me == 0) = false := by rw [beq_eq_false_iff_ne]; exact HME.out
  have hA : Below w2.heap.size w2 (w2.alloc (.cells #[.slice am nm cm] 40)) := (Below.refl _ _).alloc (Nat.le_refl _) _
  have p7 : (w2.alloc (.cells #[.slice am nm cm] 40)).heap[w2.heap.size]? = some (.cells #[.slice am nm cm] 40 (0, 0)) := heap_alloc_new _ _
  have cp3 := cell_of_one p3
  have lp3 := lt_heap p3
  go_wp2_with fail
  clear cp3 lp3
  replace p3 := (hA.block _ (lt_heap p3)).trans p3
  replace hbw := below_step hbw hA
  generalize w2.alloc (Obj.cells #[Value.slice am nm cm] 40) = W9 at *
  clear hA hq1 p7 hsm
  have hs := hs0.mono hbw
  have HM := keep_any W9 ao n cap s ((k : Int) + 1) HN.out hn63 hs hwf HC.out
  rw [hhr] at HM
  refine HM.mono ?_
  rintro e w10 ⟨v10, rfl, ho, hb10⟩
  clear HM hs
  replace p3 := (hb10.block _ (lt_heap p3)).trans p3
  replace hbw := below_step hbw hb10
  obtain ⟨ah, ch, hv, hch, hsh⟩ := ho.sto
  rw [hhl.out] at hv hch
  subst hv
  clear ho
  have hA : Below w10.heap.size w10 (w10.alloc (.cells #[.slice ah nh ch] 40)) := (Below.refl _ _).alloc (Nat.le_refl _) _
  have p16 : (w10.alloc (.cells #[.slice ah nh ch] 40)).heap[w10.heap.size]? = some (.cells #[.slice ah nh ch] 40 (0, 0)) := heap_alloc_new _ _
  obtain rfl : he = 0 := HHE.out
  go_wp2_with fail
  replace p3 := (hA.block _ (lt_heap p3)).trans p3
  replace hsh := hsh.mono hA
  replace hbw := below_step hbw hA
  generalize w10.alloc (Obj.cells #[Value.slice ah nh ch] 40) = W10 at *
  clear hA
  have HM := drop_any W10 ah nh ch hL ((k : Int) + 1) hhl.out HNH.out hsh HWH.out hch
  rw [HDH.out] at HM
  refine HM.mono ?_
  rintro e w11 ⟨v11, rfl, ho, hb11⟩
  clear HM p16 hsh
  replace p3 := (hb11.block _ (lt_heap p3)).trans p3
  replace hbw := below_step hbw hb11
  obtain ⟨ad, cd, hv, hcd, hsd⟩ := ho.sto
  rw [HN.out] at hv hcd
  subst hv
  clear ho
  have cp3 := cell_of_one p3
  have lp3 := lt_heap p3
  have hA : Below w11.heap.size w11 (w11.alloc (.cells #[.slice ad n cd] 40)) := (Below.refl _ _).alloc (Nat.le_refl _) _
  have p18 : (w11.alloc (.cells #[.slice ad n cd] 40)).heap[w11.heap.size]? = some (.cells #[.slice ad n cd] 40 (0, 0)) := heap_alloc_new _ _
  go_wp2_with fail
  clear cp3 lp3
  replace p3 := (hA.block _ (lt_heap p3)).trans p3
  replace hsd := hsd.mono hA
  replace hbw := below_step hbw hA
  generalize w11.alloc (Obj.cells #[Value.slice ad n cd] 40) = W11 at *
  clear hA
  have hs := hs0.mono hbw
  refine (alike_yes _ _ _ _ _ _ _ s HN.out HN.out hn63 hsd hs hwf).mono ?_
  rintro e w12 ⟨rfl, hb12⟩
  clear hs hsd p18
  replace p3 := (hb12.block _ (lt_heap p3)).trans p3
  replace hbw := below_step hbw hb12
  have cp3 := cell_of_one p3
  have lp3 := lt_heap p3
  go_wp2_with fail
  clear cp3 lp3
  generalize w12 = W12 at *
  have hs := hs0.mono hbw
  have HM := drop_any W12 ao n cap s ((k : Int) + 1) HN.out hn63 hs hwf HC.out
  rw [hdr] at HM
  refine HM.mono ?_
  rintro e w13 ⟨v13, rfl, ho, hb13⟩
  clear HM hs
  replace p3 := (hb13.block _ (lt_heap p3)).trans p3
  replace hbw := below_step hbw hb13
  obtain ⟨ad, cd, hv, hcd, hsd⟩ := ho.sto
  rw [hdl.out] at hv hcd
  subst hv
  clear ho
  go_wp2_with fail
  have hA : Below w13.heap.size w13 (w13.alloc (.cells #[.slice ad nd cd] 40)) := (Below.refl _ _).alloc (Nat.le_refl _) _
  have p20 : (w13.alloc (.cells #[.slice ad nd cd] 40)).heap[w13.heap.size]? = some (.cells #[.slice ad nd cd] 40 (0, 0)) := heap_alloc_new _ _
  replace p3 := (hA.block _ (lt_heap p3)).trans p3
  replace hsd := hsd.mono hA
  replace hbw := below_step hbw hA
  generalize w13.alloc (Obj.cells #[Value.slice ad nd cd] 40) = W13 at *
  clear hA
  refine (stored_any _).mono ?_
  rintro e w14 ⟨rfl, hb14⟩
  replace p3 := (hb14.block _ (lt_heap p3)).trans p3
  replace p20 := (hb14.block _ (lt_heap p20)).trans p20
  replace hsd := hsd.mono hb14
  replace hbw := below_step hbw hb14
  obtain rfl : de = 0 := HDE.out
  have cp3 := cell_of_one p3
  have lp3 := lt_heap p3
  have hs := hs0.mono hbw
  go_wp2_with fail
  clear cp3 lp3
  refine (outside_ok _ _ _ _ s HN.out hs hwf HCE.out).mono ?_
  rintro e w15 ⟨qo, rfl, hown, hb15⟩
  clear hs
  replace p3 := (hb15.block _ (lt_heap p3)).trans p3
  replace p20 := (hb15.block _ (lt_heap p20)).trans p20
  replace hsd := hsd.mono hb15
  replace hbw := below_step hbw hb15
  obtain ⟨q2, qc, hqv, _, _, hqr, _⟩ := hown.shape'
  simp only [Value.slice.injEq] at hqv
  obtain ⟨hq1, hq2, hq3⟩ := hqv
  subst hq1
  clear hq2 hq3 hown
  have cp20 := cell_of_one p20
  have lp20 := lt_heap p20
  go_wp2_with fail
  clear cp20 lp20
  refine (check_any _ _ _ _ dL hdl.out HND.out hsd HWD.out).mono ?_
  rintro e w16 ⟨rfl, hb16⟩
  rw [HST.out.chk]
  replace hqr := hqr.mono hb16
  replace p3 := (hb16.block _ (lt_heap p3)).trans p3
  replace p20 := (hb16.block _ (lt_heap p20)).trans p20
  replace hsd := hsd.mono hb16
  replace hbw := below_step hbw hb16
  go_wp2_with fail
  go_loopw [23, 136] (fun v i wr => ∃ j : Nat, j ≤ n ∧ i = .int .i64 j ∧ Own .i64 3 w16.heap.size wr v (selTo (stillP s k) j) ∧ Below w16.heap.size w16 wr) (fun _ i _ => n - (intOf i).toNat)
  case atStart => exact ⟨0, Nat.zero_le _, rfl, Own.nil _ _ _ _, Below.refl _ _⟩
  case round =>
    obtain ⟨j, hj, rfl, hown, hbel⟩ := hrel
    by_cases hlt : j < n
    · have hjs : j < s.length := by have := HN.out; omega
      have hjo : j < (outL s).length := by rw [outL_length]; exact hjs
      have hoA := outA_eq s j hjs hjo
      obtain ⟨b, o, rfl, hq⟩ := hqr.at j hjo
      have hck := hq j hjo
      have lb := World.block_lt_of_cell? _ _ hck
      have hck := ((bcell hbel).1 _ _ lb).trans hck
      have lb := Nat.lt_of_lt_of_le lb hbel.size
      rw [hoA] at hck
      have hse := selTo_succ (stillP s k) j
      have hll := selTo_len (stillP s k) j
      have hsz := hbel.size
      have hjn : (j : Int) < n := by omega
      by_cases h1 : 1 < outA s j
      · have hd1 : decide (1 < outA s j) = true := by simpa using h1
        rw [if_pos (stillP_more h1)] at hse
        clear h1
        have HSE := Lib.hid hse
        clear hse hq hqr hoA
        generalize outA s j = oj at *
        go_wp2_with (first
          | (at_builtin; refine append_int rfl (.tmp 153) (.tmp 156) _ rfl .i64 3 8 w16.heap.size Try.underlying24 info_int _ _ _ rfl hown _ rfl (by simp) ?_ ?_ hsz ?_; rotate_right; intro v' w4 hown4 hbel4))
        · go_roundw
          case rel => exact ⟨j + 1, by omega, by go_num, by rw [HSE.out]; exact hown4, hbel.trans hbel4⟩
          case measure => simp [intOf]; omega
        · unfold maxLen; omega
        · omega
      · have hd1 : decide (1 < outA s j) = false := by simpa using h1
        by_cases h2 : outA s j = 1
        · have hd2 : (outA s j == 1) = true := by rw [h2]; rfl
          by_cases h3 : j = k
          · subst h3
            rw [if_neg (by simp [stillP_self h1]), List.append_nil] at hse
            clear h1 h2
            have HSE := Lib.hid hse
            clear hse hq hqr hoA
            generalize outA s j = oj at *
            go_wp2
            go_roundw
            case rel => exact ⟨j + 1, by omega, by go_num, by rw [HSE.out]; exact hown, hbel⟩
            case measure => simp [intOf]; omega
          · have hd3 : ((j : Int) != (k : Int)) = true := by rw [bne_iff_ne]; omega
            rw [if_pos (stillP_one h2 h3)] at hse
            clear h1 h2 h3
            have HSE := Lib.hid hse
            clear hse hq hqr hoA
            generalize outA s j = oj at *
            go_wp2_with (first
              | (at_builtin; refine append_int rfl (.tmp 153) (.tmp 156) _ rfl .i64 3 8 w16.heap.size Try.underlying24 info_int _ _ _ rfl hown _ rfl (by simp) ?_ ?_ hsz ?_; rotate_right; intro v' w4 hown4 hbel4))
            · go_roundw
              case rel => exact ⟨j + 1, by omega, by go_num, by rw [HSE.out]; exact hown4, hbel.trans hbel4⟩
              case measure => simp [intOf]; omega
            · unfold maxLen; omega
            · omega
        · have hd2 : (outA s j == 1) = false := by rw [beq_eq_false_iff_ne]; exact h2
          rw [if_neg (by simp [stillP_less h1 h2]), List.append_nil] at hse
          clear h1 h2
          have HSE := Lib.hid hse
          clear hse hq hqr hoA
          generalize outA s j = oj at *
          go_wp2
          go_roundw
          case rel => exact ⟨j + 1, by omega, by go_num, by rw [HSE.out]; exact hown, hbel⟩
          case measure => simp [intOf]; omega
    · obtain rfl : j = n := by omega
      have hrw : selTo (stillP s k) j = stillL s k := by rw [← stillP_sel, HN.out]
      rw [hrw] at hown
      clear hrw hqr
      generalize wr = w17 at *
      have hI : ∀ x ∈ stillL s k, I64 x := by
        intro x hx
        obtain ⟨i, hi, _, rfl⟩ := (selTo_mem _ _ _).1 hx
        unfold I64
        have := HN.out
        omega
      have HHL : Hid ((stillL s k).length ≤ 400) := Lib.hid (by have := HN.out; have := selTo_len (stillP s k) s.length; rw [← stillP_sel]; omega)
      replace p3 := (hbel.block _ (lt_heap p3)).trans p3
      replace p20 := (hbel.block _ (lt_heap p20)).trans p20
      replace hsd := hsd.mono hbel
      replace hbw := below_step hbw hbel
      obtain ⟨h2, hc2, rfl, _, _, hhr, _⟩ := hown.shape'
      clear hown
      have cp3 := cell_of_one p3
      have lp3 := lt_heap p3
      have hs := hs0.mono hbw
      go_wp2_with fail
      clear cp3 lp3
      have HM := reach_any w17 ao h2 j cap (stillL s k).length hc2 s (stillL s k) HN.out hn63 hs hwf rfl (by have := HHL.out; omega) hhr hI
      rw [show reachR s (stillL s k) = (reachL s (stillL s k), 0) from by unfold reachR; rw [if_neg (by simp [HCE.out]), if_neg (by simp [HST.out.ok])]] at HM
      refine HM.mono ?_
      rintro e w18 ⟨v18, rfl, hown, hb18⟩
      clear HM hs
      replace hhr := hhr.mono hb18
      replace p3 := (hb18.block _ (lt_heap p3)).trans p3
      replace p20 := (hb18.block _ (lt_heap p20)).trans p20
      replace hsd := hsd.mono hb18
      replace hbw := below_step hbw hb18
      obtain ⟨l2, lc2, rfl, _, _, hlr, _⟩ := hown.shape'
      clear hown
      have cp20 := cell_of_one p20
      have lp20 := lt_heap p20
      go_wp2_with fail
      clear cp20 lp20
      have HM := reach_any w18 ad h2 nd cd (stillL s k).length hc2 dL (stillL s k) hdl.out HND.out hsd HWD.out rfl (by have := HHL.out; omega) hhr hI
      rw [show reachR dL (stillL s k) = (reachL s (stillL s k), 0) from by unfold reachR; rw [if_neg (by simp [HST.out.chk]), if_neg (by simp [HST.out.ok']), HST.out.same]] at HM
      refine HM.mono ?_
      rintro e w19 ⟨v19, rfl, hown, hb19⟩
      clear HM hhr hI
      replace hlr := hlr.mono hb19
      replace p3 := (hb19.block _ (lt_heap p3)).trans p3
      replace p20 := (hb19.block _ (lt_heap p20)).trans p20
      replace hsd := hsd.mono hb19
      replace hbw := below_step hbw hb19
      obtain ⟨m2, mc2, rfl, _, _, hmr2, _⟩ := hown.shape'
      clear hown
      have HLL : Hid ((reachL s (stillL s k)).length ≤ 400) := Lib.hid (by rw [reachL_sel]; have := selTo_len (fun i => decide ((i : Int) + 1 ∈ allF s (stillL s k))) s.length; have := HN.out; omega)
      have hEach := HST.out.each
      have HEACH := Lib.hid hEach
      clear hEach
      generalize hrl : reachL s (stillL s k) = rl at *
      clear hrl
      have hrl4 : rl.length ≤ 400 := HLL.out
      go_wp2_with fail
      refine (slices_equal_int _ _ _ _ _ _ rl rl _ rfl rfl hlr hmr2 (by have := HLL.out; omega)).mono ?_
      rw [show (rl == rl) = true from by simp]
      rintro e w20 ⟨rfl, hb20⟩
      clear hmr2
      replace hlr := hlr.mono hb20
      replace p3 := (hb20.block _ (lt_heap p3)).trans p3
      replace p20 := (hb20.block _ (lt_heap p20)).trans p20
      replace hsd := hsd.mono hb20
      replace hbw := below_step hbw hb20
      go_wp2_with fail
      go_loopw [185] (fun i wr => ∃ q : Nat, q ≤ rl.length ∧ i = .int .i64 q ∧ Below w20.heap.size w20 wr) (fun i _ => rl.length - (intOf i).toNat)
      case atStart => exact ⟨0, Nat.zero_le _, rfl, Below.refl _ _⟩
      case round =>
        obtain ⟨q, hq, rfl, hbel⟩ := hrel
        by_cases hlt : q < rl.length
        · have hr3 := hlr.mono hbel
          obtain ⟨rb, ro, rfl, hrc⟩ := hr3.at q hlt
          have hck := hrc q hlt
          have lb := World.block_lt_of_cell? _ _ hck
          obtain ⟨ht, e1, e2, e3⟩ := HEACH.out _ (List.getElem_mem hlt)
          have hql : (q : Int) < rl.length := by omega
          clear hrc hr3
          generalize rl[q] = x at *
          obtain ⟨i, hi, rfl, -⟩ := there_in ht
          have hisx : i < s.length := by have := HST2.out; omega
          rw [blk_at s i hisx, blk_at dL i hi] at e1 e2 e3
          have hs3 := (hs0.mono hbw).mono hbel
          have hd3 := hsd.mono hbel
          obtain ⟨sb, so, rfl, hsB⟩ := hs3.at i hisx
          obtain ⟨db, do_, rfl, hdB⟩ := hd3.at i hi
          have hB := hsB i hisx
          have hD := hdB i hi
          have x0 := hB.refs
          have x1 := hB.level
          obtain ⟨ka3, kc3, ba3, bc3, x2, x3, hv⟩ := hB.v
          have y0 := hD.refs
          have y1 := hD.level
          obtain ⟨ka4, kc4, ba4, bc4, y2, y3, hv4⟩ := hD.v
          have lx := hB.lt
          have ly := hD.lt
          have hin : (i : Int) < j := by have := HN.out; omega
          have hin2 : (i : Int) < nd := by have := hdl.out; omega
          have z3 := (hbel.block _ (lt_heap p3)).trans p3
          have z20 := (hbel.block _ (lt_heap p20)).trans p20
          have c3 := cell_of_one z3
          have c20 := cell_of_one z20
          have k3 := lt_heap z3
          have k20 := lt_heap z20
          have HV := Lib.hid hv
          have HV4 := Lib.hid hv4
          have E1 := Lib.hid e1
          have E2 := Lib.hid e2
          have E3 := Lib.hid e3
          have HWX := Lib.hid (hwf.at i hisx)
          have HWY := Lib.hid (HWD.out.at i hi)
          clear hsB hdB hB hD hv hv4 e1 e2 e3 hs3 hd3 ht
          go_upto_region 35 with fail
          generalize hw21 : wr = W21 at *
          clear hw21
          go_cut [31, 32] (fun u v wx => TwoBox W21.heap.size W21 s[i] dL[i] (.slice ka3 s[i].kids.length kc3) (.slice ba3 s[i].bytes.length bc3) (.slice ka4 dL[i].kids.length kc4) (.slice ba4 dL[i].bytes.length bc4) u v wx)
          case first =>
            have hz1 : ∀ o : Obj, (W21.alloc o).heap.size = W21.heap.size + 1 := fun o => by simp
            go_region
            all_goals go_wp2_with fail
            all_goals go_meet
            all_goals first | exact TwoBox.fore _ _ _ _ _ _ _ | exact TwoBox.back _ _ _ _ _ _ _ | exact (TwoBox.fore _ _ _ _ _ _ _).drew | exact (TwoBox.back _ _ _ _ _ _ _).drew
          case rest =>
            obtain ⟨b1, b2, rfl, rfl, q1, q2, hb21⟩ := hcut
            clear x0 x1 x2 x3 y0 y1 y2 y3 c3 c20 z3 z20 k3 k20 lx ly hck lb
            have f1 := cell_of_block q1 1
            have f2 := cell_of_block q1 2
            have f3 := cell_of_block q1 3
            have g1 := cell_of_block q2 1
            have g2 := cell_of_block q2 2
            have g3 := cell_of_block q2 3
            simp only [List.getElem?_toArray, List.getElem?_cons_zero, List.getElem?_cons_succ] at f1 f2 f3 g1 g2 g3
            have m1 := lt_heap q1
            have m2 := lt_heap q2
            have hne1 : (s[i].level != dL[i].level) = false := by rw [E1.out]; simp
            go_wp2_with fail
            clear f1 f2 g1 g2
            obtain ⟨hk1, hkr1, _⟩ := HV.out.kids.at
            obtain ⟨hk2, hkr2, _⟩ := HV4.out.kids.at
            obtain ⟨_, hbr1, _⟩ := HV.out.bytes.at
            obtain ⟨_, hbr2, _⟩ := HV4.out.bytes.at
            refine (slices_equal_int _ _ _ _ _ _ s[i].kids dL[i].kids _ rfl rfl (hkr1.mono hb21) (hkr2.mono hb21) (by have := HWX.out.klen; omega)).mono ?_
            rw [show (s[i].kids == dL[i].kids) = true from by rw [E2.out]; simp]
            rintro e w22 ⟨rfl, hb22⟩
            have f3 := ((bcell hb22).1 _ 3 m1).trans f3
            have g3 := ((bcell hb22).1 _ 3 m2).trans g3
            have m1 := Nat.lt_of_lt_of_le m1 hb22.size
            have m2 := Nat.lt_of_lt_of_le m2 hb22.size
            go_wp2_with fail
            refine (bytes_equal_n _ _ _ _ _ _ s[i].bytes dL[i].bytes _ rfl rfl ((hbr1.mono hb21).mono hb22) ((hbr2.mono hb21).mono hb22) HWX.out.bytes HWY.out.bytes).mono ?_
            rw [show (s[i].bytes == dL[i].bytes) = true from by rw [E3.out]; simp]
            rintro e w23 ⟨rfl, rfl⟩
            have hbz := below_step hbel (below_step hb21 hb22)
            go_wp2
            go_roundw
            case rel => exact ⟨q + 1, by omega, by go_num, hbz⟩
            case measure => simp [intOf]; omega
        · obtain rfl : q = rl.length := by omega
          have hbw := below_step hbw hbel
          go_wp2
          go_ret
          exact ⟨rfl, hbw⟩

set_option maxRecDepth 100000 in
set_option maxHeartbeats 8000000 in
theorem law_back_ooo (w : World) (ao ka ba : Option Addr) (n cap nk kc nb bc : Nat) (s : List Blk) (r0 l a : Int) (ks bs : List Int) (hn : s.length = n) (h41 : n ≤ 2199023255552) (hs : StoRow w ao s) (hwf : WfS s) (hc : Capd ao n cap)
    (hk : ks.length = nk) (hb : bs.length = nb) (hkr : Row .i64 w ka ks) (hbr : Row .u8 w ba bs) (hka : Capd ka nk kc) (hba : Capd ba nb bc) (hwb : WfB ⟨r0, l, ks, bs⟩) (hnk : nk ≤ 17592186044416) (hnb : nb ≤ 140737488351232) {mL hL dL : List Blk} {mk me he de : Int} {nm nh nd : Nat} (hmr : makeR s l ks bs = (mL, mk, me)) (hhr : keepR s a = (hL, he)) (hdr : dropR s a = (dL, de)) (hml : Hid (mL.length = nm)) (hhl : Hid (hL.length = nh)) (hdl : Hid (dL.length = nd)) (hcr : crowdB s = false) (HCE : Hid (checkE s = 0)) (HNM : Hid (nm ≤ 1152921504606846976)) (HWM : Hid (WfS mL)) (HDM : Hid (dropR mL mk = (s, 0))) (HCM : Hid (checkE mL = 0)) (HUM : Hid (usedN mL = usedN s + 1)) (HME : Hid (me = 0)) (HNH : Hid (nh ≤ 1152921504606846976)) (HWH : Hid (WfS hL)) (HDH : Hid (dropR hL a = (s, 0))) (HHE : Hid (he = 0)) (HND : Hid (nd ≤ 1152921504606846976)) (HWD : Hid (WfS dL)) {k : Nat} (HST : Hid (Still s dL (stillL s k))) (HST2 : Hid (dL.length = s.length)) (hkn : k < n) (HDE : Hid (de = 0)) (hak : a = (k : Int) + 1) :
    Calls Try.prog 9 #[.agg #[.slice ao n cap], .agg #[.int .i64 r0, .int .i64 l, .slice ka nk kc, .slice ba nb bc], .int .i64 a] w fun e w' => e = .returned (.bool true) ∧ Below w.heap.size w w' := by
  subst hak
  have HN := Lib.hid hn
  have HC := Lib.hid hc
  have HK := Lib.hid hk
  have HB := Lib.hid hb
  have HNK := Lib.hid hnk
  have HNB := Lib.hid hnb
  have HKA := Lib.hid hka
  have HBA := Lib.hid hba
  have hs0 := hs
  have hn63 : n ≤ 1152921504606846976 := by omega
  have hkw := hwb.kids
  clear hn hc hk hb hnk hnb hka hba hs
  have hbw : Below w.heap.size w ((w.alloc (.cells #[.slice ao n cap] 40)).alloc (.cells #[.int .i64 r0, .int .i64 l, .slice ka nk kc, .slice ba nb bc] 50)) := ((Below.refl _ _).alloc (Nat.le_refl _) _).alloc (by simp) _
  have p3 : ((w.alloc (.cells #[.slice ao n cap] 40)).alloc (.cells #[.int .i64 r0, .int .i64 l, .slice ka nk kc, .slice ba nb bc] 50)).heap[w.heap.size]? = some (.cells #[.slice ao n cap] 40 (0, 0)) := heap_alloc2_old _ _ _
  have p4 : ((w.alloc (.cells #[.slice ao n cap] 40)).alloc (.cells #[.int .i64 r0, .int .i64 l, .slice ka nk kc, .slice ba nb bc] 50)).heap[w.heap.size + 1]? = some (.cells #[.int .i64 r0, .int .i64 l, .slice ka nk kc, .slice ba nb bc] 50 (0, 0)) := heap_alloc2_new _ _ _
  go_enter Try.func9, Try.ntmps9
  go_wp2_with fail
  generalize (w.alloc (Obj.cells #[Value.slice ao n cap] 40)).alloc (Obj.cells #[Value.int .i64 r0, Value.int .i64 l, Value.slice ka nk kc, Value.slice ba nb bc] 50) = W0 at *
  have hs := hs0.mono hbw
  refine (crowded_any _ _ _ _ s HN.out h41 hs).mono ?_
  rintro e w1 ⟨rfl, hb1⟩
  clear hs
  replace p3 := (hb1.block _ (lt_heap p3)).trans p3
  replace p4 := (hb1.block _ (lt_heap p4)).trans p4
  replace hbw := below_step hbw hb1
  rw [hcr]
  have h400 : n ≤ 400 := by have := (checkE_zero s HCE.out).1; have := HN.out; omega
  have e0 := cell_of_block p4 0
  have e1 := cell_of_block p4 1
  have e2 := cell_of_block p4 2
  have e3 := cell_of_block p4 3
  simp at e0 e1 e2 e3
  have e4 := lt_heap p4
  have cp3 := cell_of_one p3
  have lp3 := lt_heap p3
  have hs := hs0.mono hbw
  go_wp2_with fail
  clear e0 e1 e2 e3 e4
  clear cp3 lp3
  have HM := make_any w1 ao ka ba n cap nk kc nb bc s r0 l ks bs HN.out hn63 hs hwf HC.out HK.out HB.out (hkr.mono hbw) (hbr.mono hbw) HKA.out HBA.out hkw HNK.out HNB.out
  rw [hmr] at HM
  refine HM.mono ?_
  rintro e w2 ⟨v2, rfl, ho, hb2⟩
  clear HM hs p4
  replace p3 := (hb2.block _ (lt_heap p3)).trans p3
  replace hbw := below_step hbw hb2
  obtain ⟨am, cm, hv, hcm, hsm⟩ := ho.sto
  rw [hml.out] at hv hcm
  subst hv
  clear ho
  obtain rfl : me = 0 := HME.out
  have hA : Below w2.heap.size w2 (w2.alloc (.cells #[.slice am nm cm] 40)) := (Below.refl _ _).alloc (Nat.le_refl _) _
  have p7 : (w2.alloc (.cells #[.slice am nm cm] 40)).heap[w2.heap.size]? = some (.cells #[.slice am nm cm] 40 (0, 0)) := heap_alloc_new _ _
  go_wp2_with fail
  replace p3 := (hA.block _ (lt_heap p3)).trans p3
  replace hsm := hsm.mono hA
  replace hbw := below_step hbw hA
  generalize w2.alloc (Obj.cells #[Value.slice am nm cm] 40) = W2 at *
  clear hA
  have HM := drop_any W2 am nm cm mL mk hml.out HNM.out hsm HWM.out hcm
  rw [HDM.out] at HM
  refine HM.mono ?_
  rintro e w3 ⟨v3, rfl, ho, hb3⟩
  clear HM
  replace p3 := (hb3.block _ (lt_heap p3)).trans p3
  replace p7 := (hb3.block _ (lt_heap p7)).trans p7
  replace hsm := hsm.mono hb3
  replace hbw := below_step hbw hb3
  obtain ⟨ad, cd, hv, hcd, hsd⟩ := ho.sto
  rw [HN.out] at hv hcd
  subst hv
  clear ho
  have cp3 := cell_of_one p3
  have lp3 := lt_heap p3
  go_wp2_with fail
  clear cp3 lp3
  have hA : Below w3.heap.size w3 (w3.alloc (.cells #[.slice ad n cd] 40)) := (Below.refl _ _).alloc (Nat.le_refl _) _
  have p10 : (w3.alloc (.cells #[.slice ad n cd] 40)).heap[w3.heap.size]? = some (.cells #[.slice ad n cd] 40 (0, 0)) := heap_alloc_new _ _
  replace p3 := (hA.block _ (lt_heap p3)).trans p3
  replace p7 := (hA.block _ (lt_heap p7)).trans p7
  replace hsm := hsm.mono hA
  replace hsd := hsd.mono hA
  replace hbw := below_step hbw hA
  generalize w3.alloc (Obj.cells #[Value.slice ad n cd] 40) = W3 at *
  clear hA
  have hs := hs0.mono hbw
  refine (used_ok _ _ _ _ s HN.out hs hwf HCE.out).mono ?_
  rintro e w4 ⟨rfl, hb4⟩
  clear hs
  replace p3 := (hb4.block _ (lt_heap p3)).trans p3
  replace p7 := (hb4.block _ (lt_heap p7)).trans p7
  replace p10 := (hb4.block _ (lt_heap p10)).trans p10
  replace hsm := hsm.mono hb4
  replace hsd := hsd.mono hb4
  replace hbw := below_step hbw hb4
  have cp7 := cell_of_one p7
  have lp7 := lt_heap p7
  go_wp2_with fail
  clear cp7 lp7
  refine (used_ok _ _ _ _ mL hml.out hsm HWM.out HCM.out).mono ?_
  rintro e w5 ⟨rfl, hb5⟩
  replace p3 := (hb5.block _ (lt_heap p3)).trans p3
  replace p7 := (hb5.block _ (lt_heap p7)).trans p7
  replace p10 := (hb5.block _ (lt_heap p10)).trans p10
  replace hsm := hsm.mono hb5
  replace hsd := hsd.mono hb5
  replace hbw := below_step hbw hb5
  rw [HUM.out]
  have hub := usedN_bd s
  have hub2 : usedN s ≤ 400 := by have := HN.out; omega
  have hub1 := hub.1
  clear hub
  generalize usedN s = us at *
  have cp10 := cell_of_one p10
  have lp10 := lt_heap p10
  have cp3 := cell_of_one p3
  have lp3 := lt_heap p3
  have hs := hs0.mono hbw
  go_wp2_with fail
  clear cp10 lp10 cp3 lp3
  refine (alike_yes _ _ _ _ _ _ _ s HN.out HN.out hn63 hsd hs hwf).mono ?_
  rintro e w6 ⟨rfl, hb6⟩
  clear hs hsd p10
  replace p3 := (hb6.block _ (lt_heap p3)).trans p3
  replace p7 := (hb6.block _ (lt_heap p7)).trans p7
  replace hsm := hsm.mono hb6
  replace hbw := below_step hbw hb6
  have cp7 := cell_of_one p7
  have lp7 := lt_heap p7
  go_wp2_with fail
  clear cp7 lp7
  refine (check_any _ _ _ _ mL hml.out HNM.out hsm HWM.out).mono ?_
  rintro e w7 ⟨rfl, hb7⟩
  rw [HCM.out]
  replace p3 := (hb7.block _ (lt_heap p3)).trans p3
  replace hbw := below_step hbw hb7
  have cp3 := cell_of_one p3
  have lp3 := lt_heap p3
  go_wp2_with fail
  clear cp3 lp3
  clear hsm p7 hub1 hub2
  generalize w7 = W9 at *
  have hs := hs0.mono hbw
  have HM := keep_any W9 ao n cap s ((k : Int) + 1) HN.out hn63 hs hwf HC.out
  rw [hhr] at HM
  refine HM.mono ?_
  rintro e w10 ⟨v10, rfl, ho, hb10⟩
  clear HM hs
  replace p3 := (hb10.block _ (lt_heap p3)).trans p3
  replace hbw := below_step hbw hb10
  obtain ⟨ah, ch, hv, hch, hsh⟩ := ho.sto
  rw [hhl.out] at hv hch
  subst hv
  clear ho
  have hA : Below w10.heap.size w10 (w10.alloc (.cells #[.slice ah nh ch] 40)) := (Below.refl _ _).alloc (Nat.le_refl _) _
  have p16 : (w10.alloc (.cells #[.slice ah nh ch] 40)).heap[w10.heap.size]? = some (.cells #[.slice ah nh ch] 40 (0, 0)) := heap_alloc_new _ _
  obtain rfl : he = 0 := HHE.out
  go_wp2_with fail
  replace p3 := (hA.block _ (lt_heap p3)).trans p3
  replace hsh := hsh.mono hA
  replace hbw := below_step hbw hA
  generalize w10.alloc (Obj.cells #[Value.slice ah nh ch] 40) = W10 at *
  clear hA
  have HM := drop_any W10 ah nh ch hL ((k : Int) + 1) hhl.out HNH.out hsh HWH.out hch
  rw [HDH.out] at HM
  refine HM.mono ?_
  rintro e w11 ⟨v11, rfl, ho, hb11⟩
  clear HM p16 hsh
  replace p3 := (hb11.block _ (lt_heap p3)).trans p3
  replace hbw := below_step hbw hb11
  obtain ⟨ad, cd, hv, hcd, hsd⟩ := ho.sto
  rw [HN.out] at hv hcd
  subst hv
  clear ho
  have cp3 := cell_of_one p3
  have lp3 := lt_heap p3
  have hA : Below w11.heap.size w11 (w11.alloc (.cells #[.slice ad n cd] 40)) := (Below.refl _ _).alloc (Nat.le_refl _) _
  have p18 : (w11.alloc (.cells #[.slice ad n cd] 40)).heap[w11.heap.size]? = some (.cells #[.slice ad n cd] 40 (0, 0)) := heap_alloc_new _ _
  go_wp2_with fail
  clear cp3 lp3
  replace p3 := (hA.block _ (lt_heap p3)).trans p3
  replace hsd := hsd.mono hA
  replace hbw := below_step hbw hA
  generalize w11.alloc (Obj.cells #[Value.slice ad n cd] 40) = W11 at *
  clear hA
  have hs := hs0.mono hbw
  refine (alike_yes _ _ _ _ _ _ _ s HN.out HN.out hn63 hsd hs hwf).mono ?_
  rintro e w12 ⟨rfl, hb12⟩
  clear hs hsd p18
  replace p3 := (hb12.block _ (lt_heap p3)).trans p3
  replace hbw := below_step hbw hb12
  have cp3 := cell_of_one p3
  have lp3 := lt_heap p3
  go_wp2_with fail
  clear cp3 lp3
  generalize w12 = W12 at *
  have hs := hs0.mono hbw
  have HM := drop_any W12 ao n cap s ((k : Int) + 1) HN.out hn63 hs hwf HC.out
  rw [hdr] at HM
  refine HM.mono ?_
  rintro e w13 ⟨v13, rfl, ho, hb13⟩
  clear HM hs
  replace p3 := (hb13.block _ (lt_heap p3)).trans p3
  replace hbw := below_step hbw hb13
  obtain ⟨ad, cd, hv, hcd, hsd⟩ := ho.sto
  rw [hdl.out] at hv hcd
  subst hv
  clear ho
  go_wp2_with fail
  have hA : Below w13.heap.size w13 (w13.alloc (.cells #[.slice ad nd cd] 40)) := (Below.refl _ _).alloc (Nat.le_refl _) _
  have p20 : (w13.alloc (.cells #[.slice ad nd cd] 40)).heap[w13.heap.size]? = some (.cells #[.slice ad nd cd] 40 (0, 0)) := heap_alloc_new _ _
  replace p3 := (hA.block _ (lt_heap p3)).trans p3
  replace hsd := hsd.mono hA
  replace hbw := below_step hbw hA
  generalize w13.alloc (Obj.cells #[Value.slice ad nd cd] 40) = W13 at *
  clear hA
  refine (stored_any _).mono ?_
  rintro e w14 ⟨rfl, hb14⟩
  replace p3 := (hb14.block _ (lt_heap p3)).trans p3
  replace p20 := (hb14.block _ (lt_heap p20)).trans p20
  replace hsd := hsd.mono hb14
  replace hbw := below_step hbw hb14
  obtain rfl : de = 0 := HDE.out
  have cp3 := cell_of_one p3
  have lp3 := lt_heap p3
  have hs := hs0.mono hbw
  go_wp2_with fail
  clear cp3 lp3
  refine (outside_ok _ _ _ _ s HN.out hs hwf HCE.out).mono ?_
  rintro e w15 ⟨qo, rfl, hown, hb15⟩
  clear hs
  replace p3 := (hb15.block _ (lt_heap p3)).trans p3
  replace p20 := (hb15.block _ (lt_heap p20)).trans p20
  replace hsd := hsd.mono hb15
  replace hbw := below_step hbw hb15
  obtain ⟨q2, qc, hqv, _, _, hqr, _⟩ := hown.shape'
  simp only [Value.slice.injEq] at hqv
  obtain ⟨hq1, hq2, hq3⟩ := hqv
  subst hq1
  clear hq2 hq3 hown
  have cp20 := cell_of_one p20
  have lp20 := lt_heap p20
  go_wp2_with fail
  clear cp20 lp20
  refine (check_any _ _ _ _ dL hdl.out HND.out hsd HWD.out).mono ?_
  rintro e w16 ⟨rfl, hb16⟩
  rw [HST.out.chk]
  replace hqr := hqr.mono hb16
  replace p3 := (hb16.block _ (lt_heap p3)).trans p3
  replace p20 := (hb16.block _ (lt_heap p20)).trans p20
  replace hsd := hsd.mono hb16
  replace hbw := below_step hbw hb16
  go_wp2_with fail
  go_loopw [23, 136] (fun v i wr => ∃ j : Nat, j ≤ n ∧ i = .int .i64 j ∧ Own .i64 3 w16.heap.size wr v (selTo (stillP s k) j) ∧ Below w16.heap.size w16 wr) (fun _ i _ => n - (intOf i).toNat)
  case atStart => exact ⟨0, Nat.zero_le _, rfl, Own.nil _ _ _ _, Below.refl _ _⟩
  case round =>
    obtain ⟨j, hj, rfl, hown, hbel⟩ := hrel
    by_cases hlt : j < n
    · have hjs : j < s.length := by have := HN.out; omega
      have hjo : j < (outL s).length := by rw [outL_length]; exact hjs
      have hoA := outA_eq s j hjs hjo
      obtain ⟨b, o, rfl, hq⟩ := hqr.at j hjo
      have hck := hq j hjo
      have lb := World.block_lt_of_cell? _ _ hck
      have hck := ((bcell hbel).1 _ _ lb).trans hck
      have lb := Nat.lt_of_lt_of_le lb hbel.size
      rw [hoA] at hck
      have hse := selTo_succ (stillP s k) j
      have hll := selTo_len (stillP s k) j
      have hsz := hbel.size
      have hjn : (j : Int) < n := by omega
      by_cases h1 : 1 < outA s j
      · have hd1 : decide (1 < outA s j) = true := by simpa using h1
        rw [if_pos (stillP_more h1)] at hse
        clear h1
        have HSE := Lib.hid hse
        clear hse hq hqr hoA
        generalize outA s j = oj at *
        go_wp2_with (first
          | (at_builtin; refine append_int rfl (.tmp 153) (.tmp 156) _ rfl .i64 3 8 w16.heap.size Try.underlying24 info_int _ _ _ rfl hown _ rfl (by simp) ?_ ?_ hsz ?_; rotate_right; intro v' w4 hown4 hbel4))
        · go_roundw
          case rel => exact ⟨j + 1, by omega, by go_num, by rw [HSE.out]; exact hown4, hbel.trans hbel4⟩
          case measure => simp [intOf]; omega
        · unfold maxLen; omega
        · omega
      · have hd1 : decide (1 < outA s j) = false := by simpa using h1
        by_cases h2 : outA s j = 1
        · have hd2 : (outA s j == 1) = true := by rw [h2]; rfl
          by_cases h3 : j = k
          · subst h3
            rw [if_neg (by simp [stillP_self h1]), List.append_nil] at hse
            clear h1 h2
            have HSE := Lib.hid hse
            clear hse hq hqr hoA
            generalize outA s j = oj at *
            go_wp2
            go_roundw
            case rel => exact ⟨j + 1, by omega, by go_num, by rw [HSE.out]; exact hown, hbel⟩
            case measure => simp [intOf]; omega
          · have hd3 : ((j : Int) != (k : Int)) = true := by rw [bne_iff_ne]; omega
            rw [if_pos (stillP_one h2 h3)] at hse
            clear h1 h2 h3
            have HSE := Lib.hid hse
            clear hse hq hqr hoA
            generalize outA s j = oj at *
            go_wp2_with (first
              | (at_builtin; refine append_int rfl (.tmp 153) (.tmp 156) _ rfl .i64 3 8 w16.heap.size Try.underlying24 info_int _ _ _ rfl hown _ rfl (by simp) ?_ ?_ hsz ?_; rotate_right; intro v' w4 hown4 hbel4))
            · go_roundw
              case rel => exact ⟨j + 1, by omega, by go_num, by rw [HSE.out]; exact hown4, hbel.trans hbel4⟩
              case measure => simp [intOf]; omega
            · unfold maxLen; omega
            · omega
        · have hd2 : (outA s j == 1) = false := by rw [beq_eq_false_iff_ne]; exact h2
          rw [if_neg (by simp [stillP_less h1 h2]), List.append_nil] at hse
          clear h1 h2
          have HSE := Lib.hid hse
          clear hse hq hqr hoA
          generalize outA s j = oj at *
          go_wp2
          go_roundw
          case rel => exact ⟨j + 1, by omega, by go_num, by rw [HSE.out]; exact hown, hbel⟩
          case measure => simp [intOf]; omega
    · obtain rfl : j = n := by omega
      have hrw : selTo (stillP s k) j = stillL s k := by rw [← stillP_sel, HN.out]
      rw [hrw] at hown
      clear hrw hqr
      generalize wr = w17 at *
      have hI : ∀ x ∈ stillL s k, I64 x := by
        intro x hx
        obtain ⟨i, hi, _, rfl⟩ := (selTo_mem _ _ _).1 hx
        unfold I64
        have := HN.out
        omega
      have HHL : Hid ((stillL s k).length ≤ 400) := Lib.hid (by have := HN.out; have := selTo_len (stillP s k) s.length; rw [← stillP_sel]; omega)
      replace p3 := (hbel.block _ (lt_heap p3)).trans p3
      replace p20 := (hbel.block _ (lt_heap p20)).trans p20
      replace hsd := hsd.mono hbel
      replace hbw := below_step hbw hbel
      obtain ⟨h2, hc2, rfl, _, _, hhr, _⟩ := hown.shape'
      clear hown
      have cp3 := cell_of_one p3
      have lp3 := lt_heap p3
      have hs := hs0.mono hbw
      go_wp2_with fail
      clear cp3 lp3
      have HM := reach_any w17 ao h2 j cap (stillL s k).length hc2 s (stillL s k) HN.out hn63 hs hwf rfl (by have := HHL.out; omega) hhr hI
      rw [show reachR s (stillL s k) = (reachL s (stillL s k), 0) from by unfold reachR; rw [if_neg (by simp [HCE.out]), if_neg (by simp [HST.out.ok])]] at HM
      refine HM.mono ?_
      rintro e w18 ⟨v18, rfl, hown, hb18⟩
      clear HM hs
      replace hhr := hhr.mono hb18
      replace p3 := (hb18.block _ (lt_heap p3)).trans p3
      replace p20 := (hb18.block _ (lt_heap p20)).trans p20
      replace hsd := hsd.mono hb18
      replace hbw := below_step hbw hb18
      obtain ⟨l2, lc2, rfl, _, _, hlr, _⟩ := hown.shape'
      clear hown
      have cp20 := cell_of_one p20
      have lp20 := lt_heap p20
      go_wp2_with fail
      clear cp20 lp20
      have HM := reach_any w18 ad h2 nd cd (stillL s k).length hc2 dL (stillL s k) hdl.out HND.out hsd HWD.out rfl (by have := HHL.out; omega) hhr hI
      rw [show reachR dL (stillL s k) = (reachL s (stillL s k), 0) from by unfold reachR; rw [if_neg (by simp [HST.out.chk]), if_neg (by simp [HST.out.ok']), HST.out.same]] at HM
      refine HM.mono ?_
      rintro e w19 ⟨v19, rfl, hown, hb19⟩
      clear HM hhr hI
      replace hlr := hlr.mono hb19
      replace p3 := (hb19.block _ (lt_heap p3)).trans p3
      replace p20 := (hb19.block _ (lt_heap p20)).trans p20
      replace hsd := hsd.mono hb19
      replace hbw := below_step hbw hb19
      obtain ⟨m2, mc2, rfl, _, _, hmr2, _⟩ := hown.shape'
      clear hown
      have HLL : Hid ((reachL s (stillL s k)).length ≤ 400) := Lib.hid (by rw [reachL_sel]; have := selTo_len (fun i => decide ((i : Int) + 1 ∈ allF s (stillL s k))) s.length; have := HN.out; omega)
      have hEach := HST.out.each
      have HEACH := Lib.hid hEach
      clear hEach
      generalize hrl : reachL s (stillL s k) = rl at *
      clear hrl
      have hrl4 : rl.length ≤ 400 := HLL.out
      go_wp2_with fail
      refine (slices_equal_int _ _ _ _ _ _ rl rl _ rfl rfl hlr hmr2 (by have := HLL.out; omega)).mono ?_
      rw [show (rl == rl) = true from by simp]
      rintro e w20 ⟨rfl, hb20⟩
      clear hmr2
      replace hlr := hlr.mono hb20
      replace p3 := (hb20.block _ (lt_heap p3)).trans p3
      replace p20 := (hb20.block _ (lt_heap p20)).trans p20
      replace hsd := hsd.mono hb20
      replace hbw := below_step hbw hb20
      go_wp2_with fail
      go_loopw [185] (fun i wr => ∃ q : Nat, q ≤ rl.length ∧ i = .int .i64 q ∧ Below w20.heap.size w20 wr) (fun i _ => rl.length - (intOf i).toNat)
      case atStart => exact ⟨0, Nat.zero_le _, rfl, Below.refl _ _⟩
      case round =>
        obtain ⟨q, hq, rfl, hbel⟩ := hrel
        by_cases hlt : q < rl.length
        · have hr3 := hlr.mono hbel
          obtain ⟨rb, ro, rfl, hrc⟩ := hr3.at q hlt
          have hck := hrc q hlt
          have lb := World.block_lt_of_cell? _ _ hck
          obtain ⟨ht, e1, e2, e3⟩ := HEACH.out _ (List.getElem_mem hlt)
          have hql : (q : Int) < rl.length := by omega
          clear hrc hr3
          generalize rl[q] = x at *
          obtain ⟨i, hi, rfl, -⟩ := there_in ht
          have hisx : i < s.length := by have := HST2.out; omega
          rw [blk_at s i hisx, blk_at dL i hi] at e1 e2 e3
          have hs3 := (hs0.mono hbw).mono hbel
          have hd3 := hsd.mono hbel
          obtain ⟨sb, so, rfl, hsB⟩ := hs3.at i hisx
          obtain ⟨db, do_, rfl, hdB⟩ := hd3.at i hi
          have hB := hsB i hisx
          have hD := hdB i hi
          have x0 := hB.refs
          have x1 := hB.level
          obtain ⟨ka3, kc3, ba3, bc3, x2, x3, hv⟩ := hB.v
          have y0 := hD.refs
          have y1 := hD.level
          obtain ⟨ka4, kc4, ba4, bc4, y2, y3, hv4⟩ := hD.v
          have lx := hB.lt
          have ly := hD.lt
          have hin : (i : Int) < j := by have := HN.out; omega
          have hin2 : (i : Int) < nd := by have := hdl.out; omega
          have z3 := (hbel.block _ (lt_heap p3)).trans p3
          have z20 := (hbel.block _ (lt_heap p20)).trans p20
          have c3 := cell_of_one z3
          have c20 := cell_of_one z20
          have k3 := lt_heap z3
          have k20 := lt_heap z20
          have HV := Lib.hid hv
          have HV4 := Lib.hid hv4
          have E1 := Lib.hid e1
          have E2 := Lib.hid e2
          have E3 := Lib.hid e3
          have HWX := Lib.hid (hwf.at i hisx)
          have HWY := Lib.hid (HWD.out.at i hi)
          clear hsB hdB hB hD hv hv4 e1 e2 e3 hs3 hd3 ht
          go_upto_region 35 with fail
          generalize hw21 : wr = W21 at *
          clear hw21
          go_cut [31, 32] (fun u v wx => TwoBox W21.heap.size W21 s[i] dL[i] (.slice ka3 s[i].kids.length kc3) (.slice ba3 s[i].bytes.length bc3) (.slice ka4 dL[i].kids.length kc4) (.slice ba4 dL[i].bytes.length bc4) u v wx)
          case first =>
            have hz1 : ∀ o : Obj, (W21.alloc o).heap.size = W21.heap.size + 1 := fun o => by simp
            go_region
            all_goals go_wp2_with fail
            all_goals go_meet
            all_goals first | exact TwoBox.fore _ _ _ _ _ _ _ | exact TwoBox.back _ _ _ _ _ _ _ | exact (TwoBox.fore _ _ _ _ _ _ _).drew | exact (TwoBox.back _ _ _ _ _ _ _).drew
          case rest =>
            obtain ⟨b1, b2, rfl, rfl, q1, q2, hb21⟩ := hcut
            clear x0 x1 x2 x3 y0 y1 y2 y3 c3 c20 z3 z20 k3 k20 lx ly hck lb
            have f1 := cell_of_block q1 1
            have f2 := cell_of_block q1 2
            have f3 := cell_of_block q1 3
            have g1 := cell_of_block q2 1
            have g2 := cell_of_block q2 2
            have g3 := cell_of_block q2 3
            simp only [List.getElem?_toArray, List.getElem?_cons_zero, List.getElem?_cons_succ] at f1 f2 f3 g1 g2 g3
            have m1 := lt_heap q1
            have m2 := lt_heap q2
            have hne1 : (s[i].level != dL[i].level) = false := by rw [E1.out]; simp
            go_wp2_with fail
            clear f1 f2 g1 g2
            obtain ⟨hk1, hkr1, _⟩ := HV.out.kids.at
            obtain ⟨hk2, hkr2, _⟩ := HV4.out.kids.at
            obtain ⟨_, hbr1, _⟩ := HV.out.bytes.at
            obtain ⟨_, hbr2, _⟩ := HV4.out.bytes.at
            refine (slices_equal_int _ _ _ _ _ _ s[i].kids dL[i].kids _ rfl rfl (hkr1.mono hb21) (hkr2.mono hb21) (by have := HWX.out.klen; omega)).mono ?_
            rw [show (s[i].kids == dL[i].kids) = true from by rw [E2.out]; simp]
            rintro e w22 ⟨rfl, hb22⟩
            have f3 := ((bcell hb22).1 _ 3 m1).trans f3
            have g3 := ((bcell hb22).1 _ 3 m2).trans g3
            have m1 := Nat.lt_of_lt_of_le m1 hb22.size
            have m2 := Nat.lt_of_lt_of_le m2 hb22.size
            go_wp2_with fail
            refine (bytes_equal_n _ _ _ _ _ _ s[i].bytes dL[i].bytes _ rfl rfl ((hbr1.mono hb21).mono hb22) ((hbr2.mono hb21).mono hb22) HWX.out.bytes HWY.out.bytes).mono ?_
            rw [show (s[i].bytes == dL[i].bytes) = true from by rw [E3.out]; simp]
            rintro e w23 ⟨rfl, rfl⟩
            have hbz := below_step hbel (below_step hb21 hb22)
            go_wp2
            go_roundw
            case rel => exact ⟨q + 1, by omega, by go_num, hbz⟩
            case measure => simp [intOf]; omega
        · obtain rfl : q = rl.length := by omega
          have hbw := below_step hbw hbel
          go_wp2
          go_ret
          exact ⟨rfl, hbw⟩

theorem law_back (w : World) (ao ka ba : Option Addr) (n cap nk kc nb bc : Nat) (s : List Blk) (r0 l a : Int) (ks bs : List Int) (hn : s.length = n) (h41 : n ≤ 2199023255552) (hs : StoRow w ao s) (hwf : WfS s) (hc : Capd ao n cap)
    (hk : ks.length = nk) (hb : bs.length = nb) (hkr : Row .i64 w ka ks) (hbr : Row .u8 w ba bs) (hka : Capd ka nk kc) (hba : Capd ba nb bc) (hwb : WfB ⟨r0, l, ks, bs⟩) (hnk : nk ≤ 17592186044416) (hnb : nb ≤ 140737488351232) :
    Calls Try.prog 9 #[.agg #[.slice ao n cap], .agg #[.int .i64 r0, .int .i64 l, .slice ka nk kc, .slice ba nb bc], .int .i64 a] w fun e w' => e = .returned (.bool true) ∧ Below w.heap.size w w' := by
  cases hcr : crowdB s with
  | true => exact law_back_crowd w ao ka ba n cap nk kc nb bc s r0 l a ks bs hn h41 hs hwf hc hk hb hkr hbr hka hba hwb hnk hnb hcr
  | false =>
    have hfew := crowdB_few hcr
    have hM : (makeR s l ks bs).2.2 = 0 → checkE s = 0 ∧ (makeR s l ks bs).1.length ≤ 1152921504606846976 ∧ WfS (makeR s l ks bs).1 ∧ dropR (makeR s l ks bs).1 (makeR s l ks bs).2.1 = (s, 0) ∧ checkE (makeR s l ks bs).1 = 0 ∧ usedN (makeR s l ks bs).1 = usedN s + 1 := by
      intro hme
      obtain ⟨hp, he⟩ := makeR_ok s l ks bs hme hfew
      refine ⟨hp.chk, ?_, ?_, ?_, ?_, ?_⟩
      · rw [makeR_put hme, putR_length]; omega
      · rw [makeR_put hme]; exact wf_putR hwf (refsB_chk hp.chk) ⟨by unfold I64; simp only; omega, hwb.level, hwb.kids, hwb.bytes, hwb.klen, hwb.blen⟩
      · rw [he]; exact hp.drop
      · rw [he]; exact hp.check
      · rw [he]; exact hp.used
    have hH : (keepR s a).2 = 0 → (keepR s a).1.length ≤ 1152921504606846976 ∧ WfS (keepR s a).1 ∧ dropR (keepR s a).1 a = (s, 0) := by
      intro hhe
      obtain ⟨hce, k, hk, rfl, hr, he⟩ := keepR_ok s a hhe
      rw [he]
      rw [blk_at s k hk] at hr
      have hf := hfew _ (List.getElem_mem hk)
      exact ⟨by simp only [addRef_length]; omega, wf_more hwf (fun x hx => by have := refsB_chk hce x hx; omega) _, keep_drop s k hk hce hr (by omega)⟩
    have hD : (dropR s a).2 = 0 → checkE s = 0 ∧ (keepR s a).2 = 0 ∧ ∃ k : Nat, k < n ∧ a = (k : Int) + 1 ∧ (dropR s a).1.length ≤ 1152921504606846976 ∧ WfS (dropR s a).1 ∧ Still s (dropR s a).1 (stillL s k) ∧ (dropR s a).1.length = s.length := by
      intro hde
      obtain ⟨hce, k, hk, rfl, ho, he⟩ := dropR_ok s a hde
      have hll := (loosed 4 s ((k : Int) + 1) 0 (lv_of s (checkE_zero s hce).2.1).1 (refsL_of s hce) (Int.le_refl _)).len
      have ht := held_there hce k hk ho
      rw [he]
      exact ⟨hce, by unfold keepR; rw [if_neg (by simp [hce]), if_neg (by simp [ht])], k, by omega, rfl, by simp only; omega, loose_wf s k hk hce ho hwf, still_of s k hk hce ho, hll⟩
    have hbase : ∀ x : Int, x = 0 ∨ x ≠ 0 := fun x => by omega
    rcases hbase (dropR s a).2 with h3 | h3
    · obtain ⟨hce, h2, k, hkn, hak, d1, d2, d3, d4⟩ := hD h3
      rcases hbase (makeR s l ks bs).2.2 with h1 | h1
      · exact law_back_ooo w ao ka ba n cap nk kc nb bc s r0 l a ks bs hn h41 hs hwf hc hk hb hkr hbr hka hba hwb hnk hnb (mL := (makeR s l ks bs).1) (mk := (makeR s l ks bs).2.1) (me := (makeR s l ks bs).2.2) (hL := (keepR s a).1) (he := (keepR s a).2) (dL := (dropR s a).1) (de := (dropR s a).2) (hmr := rfl) (hhr := rfl) (hdr := rfl) (hml := Lib.hid rfl) (hhl := Lib.hid rfl) (hdl := Lib.hid rfl) (hcr := hcr) (HCE := Lib.hid (hM h1).1) (HNM := Lib.hid (hM h1).2.1) (HWM := Lib.hid (hM h1).2.2.1) (HDM := Lib.hid (hM h1).2.2.2.1) (HCM := Lib.hid (hM h1).2.2.2.2.1) (HUM := Lib.hid (hM h1).2.2.2.2.2) (HME := Lib.hid h1) (HNH := Lib.hid (hH h2).1) (HWH := Lib.hid (hH h2).2.1) (HDH := Lib.hid (hH h2).2.2) (HHE := Lib.hid h2) (HND := Lib.hid d1) (HWD := Lib.hid d2) (HST := Lib.hid d3) (HST2 := Lib.hid d4) (hkn := hkn) (HDE := Lib.hid h3) (hak := hak)
      · exact law_back_eoo w ao ka ba n cap nk kc nb bc s r0 l a ks bs hn h41 hs hwf hc hk hb hkr hbr hka hba hwb hnk hnb (mL := (makeR s l ks bs).1) (mk := (makeR s l ks bs).2.1) (me := (makeR s l ks bs).2.2) (hL := (keepR s a).1) (he := (keepR s a).2) (dL := (dropR s a).1) (de := (dropR s a).2) (hmr := rfl) (hhr := rfl) (hdr := rfl) (hml := Lib.hid rfl) (hhl := Lib.hid rfl) (hdl := Lib.hid rfl) (hcr := hcr) (HME := Lib.hid h1) (HCE := Lib.hid hce) (HNH := Lib.hid (hH h2).1) (HWH := Lib.hid (hH h2).2.1) (HDH := Lib.hid (hH h2).2.2) (HHE := Lib.hid h2) (HND := Lib.hid d1) (HWD := Lib.hid d2) (HST := Lib.hid d3) (HST2 := Lib.hid d4) (hkn := hkn) (HDE := Lib.hid h3) (hak := hak)
    · rcases hbase (keepR s a).2 with h2 | h2 <;> rcases hbase (makeR s l ks bs).2.2 with h1 | h1
      · exact law_back_ooe w ao ka ba n cap nk kc nb bc s r0 l a ks bs hn h41 hs hwf hc hk hb hkr hbr hka hba hwb hnk hnb (mL := (makeR s l ks bs).1) (mk := (makeR s l ks bs).2.1) (me := (makeR s l ks bs).2.2) (hL := (keepR s a).1) (he := (keepR s a).2) (dL := (dropR s a).1) (de := (dropR s a).2) (hmr := rfl) (hhr := rfl) (hdr := rfl) (hml := Lib.hid rfl) (hhl := Lib.hid rfl) (hdl := Lib.hid rfl) (hcr := hcr) (HCE := Lib.hid (hM h1).1) (HNM := Lib.hid (hM h1).2.1) (HWM := Lib.hid (hM h1).2.2.1) (HDM := Lib.hid (hM h1).2.2.2.1) (HCM := Lib.hid (hM h1).2.2.2.2.1) (HUM := Lib.hid (hM h1).2.2.2.2.2) (HME := Lib.hid h1) (HNH := Lib.hid (hH h2).1) (HWH := Lib.hid (hH h2).2.1) (HDH := Lib.hid (hH h2).2.2) (HHE := Lib.hid h2) (HDE := Lib.hid h3)
      · exact law_back_eoe w ao ka ba n cap nk kc nb bc s r0 l a ks bs hn h41 hs hwf hc hk hb hkr hbr hka hba hwb hnk hnb (mL := (makeR s l ks bs).1) (mk := (makeR s l ks bs).2.1) (me := (makeR s l ks bs).2.2) (hL := (keepR s a).1) (he := (keepR s a).2) (dL := (dropR s a).1) (de := (dropR s a).2) (hmr := rfl) (hhr := rfl) (hdr := rfl) (hml := Lib.hid rfl) (hhl := Lib.hid rfl) (hdl := Lib.hid rfl) (hcr := hcr) (HME := Lib.hid h1) (HNH := Lib.hid (hH h2).1) (HWH := Lib.hid (hH h2).2.1) (HDH := Lib.hid (hH h2).2.2) (HHE := Lib.hid h2) (HDE := Lib.hid h3)
      · exact law_back_oee w ao ka ba n cap nk kc nb bc s r0 l a ks bs hn h41 hs hwf hc hk hb hkr hbr hka hba hwb hnk hnb (mL := (makeR s l ks bs).1) (mk := (makeR s l ks bs).2.1) (me := (makeR s l ks bs).2.2) (hL := (keepR s a).1) (he := (keepR s a).2) (dL := (dropR s a).1) (de := (dropR s a).2) (hmr := rfl) (hhr := rfl) (hdr := rfl) (hml := Lib.hid rfl) (hhl := Lib.hid rfl) (hdl := Lib.hid rfl) (hcr := hcr) (HCE := Lib.hid (hM h1).1) (HNM := Lib.hid (hM h1).2.1) (HWM := Lib.hid (hM h1).2.2.1) (HDM := Lib.hid (hM h1).2.2.2.1) (HCM := Lib.hid (hM h1).2.2.2.2.1) (HUM := Lib.hid (hM h1).2.2.2.2.2) (HME := Lib.hid h1) (HHE := Lib.hid h2) (HDE := Lib.hid h3)
      · exact law_back_eee w ao ka ba n cap nk kc nb bc s r0 l a ks bs hn h41 hs hwf hc hk hb hkr hbr hka hba hwb hnk hnb (mL := (makeR s l ks bs).1) (mk := (makeR s l ks bs).2.1) (me := (makeR s l ks bs).2.2) (hL := (keepR s a).1) (he := (keepR s a).2) (dL := (dropR s a).1) (de := (dropR s a).2) (hmr := rfl) (hhr := rfl) (hdr := rfl) (hml := Lib.hid rfl) (hhl := Lib.hid rfl) (hdl := Lib.hid rfl) (hcr := hcr) (HME := Lib.hid h1) (HHE := Lib.hid h2) (HDE := Lib.hid h3)
end Go.Proofs.Ytpfopbkaddjjcaa
