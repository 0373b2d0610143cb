/- rookerylaw.FileFresh: the walk. -/
import Derived.Test.YtodogcokljmkmaaFiled
import Derived.Test.YtodogcokljmkmaaFileLaw
import Derived.Test.YtodogcokljmkmaaCrowd
import Derived.Test.YtodogcokljmkmaaDiffer
namespace Go.Proofs.Ytodogcokljmkmaa
open Go.RowKit
set_option linter.unusedVariables false

/-- what is written anew -/
theorem fresh_facts {s : List Blk} (hw : WfS s) {key root : Int} {z : Nat} (hok : fileE s key root z = 0) (hfew : ∀ x ∈ s, x.refs ≤ 999000) :
    writeR s key 0 0 0 (fileB s key root z) = ([], (0, 0), 8) ∨ ∃ t rt, writeR s key 0 0 0 (fileB s key root z) = (t, (rt, (z : Int)), 0) ∧ WfS t ∧ t.length ≤ 400 ∧ differR t root rt 3 = ([], 0) := by
  obtain ⟨hk, -, hz, hct, -⟩ := fileE_ok hok
  obtain ⟨hce, m, hm3, hm, hroot, -, -⟩ := checkT_ok hct
  obtain rfl : m = 3 := by omega
  have hl := fileB_len hok
  have hby := fileB_byt s key root z
  have hlv := fun j hj => file_leaves hok hw j hj
  have hg := Good.of_check hce hw
  obtain ⟨he0, hb0⟩ := file_empty (key := key) hce hk
  have he0' : fileE s key 0 0 = 0 := he0
  have hb0' : fileB s key 0 0 = [] := hb0
  generalize fileB s key root z = b at *
  have hW : writeR s key 0 0 0 b = turnedR s key 0 0 b := by
    unfold writeR
    rw [if_neg (by simp [he0']), hb0', overR_fresh b (by omega), if_neg (by simp)]
  rw [hW]
  have hT : turnR s key 0 0 b = turnR s key 0 ((0 : Nat) : Int) b := congrArg (fun z => turnR s key 0 z b) (show (0 : Int) = ((0 : Nat) : Int) from rfl)
  by_cases he : (turnR s key 0 0 b).2.2 = 0
  · right
    have he' := he
    rw [hT] at he'
    have h1 := turnR_ok hw he0 hfew (by omega) (by omega) hby (by omega) he'
    rw [← hT] at h1
    have hchk := h1.at_.chk hce (by omega)
    refine ⟨_, _, by rw [turnedR_ok he, hl], h1.at_.good.wf, (checkE_zero _ hchk).1, ?_⟩
    refine differ_none hchk (h1.at_.keeps.root hroot) h1.at_.rt fun j hj => ?_
    rw [leaf_keeps hg h1.at_.keeps 3 root j (by omega) hroot hj, hlv j hj, h1.leaf j hj]
  · left
    rw [turnedR_err he]
    have h2 := turnR_err hw he0 hby (b := b) (by omega)
    rw [← hT] at h2
    rw [h2.resolve_left he]

set_option maxRecDepth 100000 in
set_option maxHeartbeats 8000000 in
theorem law_fresh (w : World) (ao : Option Addr) (n cap : Nat) (s : List Blk) (key root size : Int) (hn : s.length = n) (h41 : n ≤ 2199023255552) (hs : StoRow w ao s) (hwf : WfS s) (hc : Capd ao n cap) (hz : I64 size) :
    Calls Try.prog 4 #[.agg #[.slice ao n cap], .int .i64 key, .agg #[.int .i64 root, .int .i64 size]] w fun e w' => e = .returned (.bool true) ∧ Below w.heap.size w w' := by
  have HN := Lib.hid hn
  have hb0 : Below w.heap.size w ((w.alloc (.cells #[.slice ao n cap] 24)).alloc (.cells #[.int .i64 root, .int .i64 size] 26)) := ((Below.refl _ _).alloc (Nat.le_refl _) _).alloc (by simp) _
  have p0 : ((w.alloc (.cells #[.slice ao n cap] 24)).alloc (.cells #[.int .i64 root, .int .i64 size] 26)).heap[w.heap.size]? = some (.cells #[.slice ao n cap] 24 (0, 0)) := heap_alloc2_old _ _ _
  have p1 : ((w.alloc (.cells #[.slice ao n cap] 24)).alloc (.cells #[.int .i64 root, .int .i64 size] 26)).heap[w.heap.size + 1]? = some (.cells #[.int .i64 root, .int .i64 size] 26 (0, 0)) := heap_alloc2_new _ _ _
  have HCR := Lib.hid (fun (u : World) (h : Below w.heap.size w u) => crowded_any u ao n cap s hn h41 (hs.mono h))
  have HRD := Lib.hid (fun (u : World) (h : Below w.heap.size w u) => read_any u ao n cap s key root size 0 256 hn (by omega) (hs.mono h) hwf hz hc)
  have HWR := Lib.hid (fun (fb : List Int) (fa : Option Addr) (fn fc : Nat) (h1 : fb.length = fn) (h2 : fn ≤ 256) (h3 : Byt fb) (u : World) (h : Below w.heap.size w u) (hr : Row .u8 u fa fb) (hcp : Capd fa fn fc) => write_any u ao fa n cap fn fc s key 0 0 0 fb hn (by omega) (hs.mono h) hwf (by unfold I64; omega) hc h1 hr hcp h3 (by omega))
  have HFF := Lib.hid (fun (z : Nat) (h0 : fileE s key root z = 0) (hcr : crowdB s = false) => fresh_facts hwf h0 (crowdB_few hcr))
  have HBY := Lib.hid (fun (z : Nat) => fileB_byt s key root z)
  have HBL := Lib.hid (fun (z : Nat) (h0 : fileE s key root z = 0) => fileB_len h0)
  have hca := readR_cases s key root size 0 256
  clear hn hs hwf hc hz
  generalize readR s key root size 0 256 = RR at *
  obtain ⟨rl, re⟩ := RR
  have HCA := Lib.hid hca
  clear hca
  obtain ⟨cb, hcb⟩ : ∃ cb, crowdB s = cb := ⟨_, rfl⟩
  rw [hcb] at HCR HFF
  replace hcb := Lib.hid hcb
  go_enter Try.func4, Try.ntmps4
  go_wp2_with fail
  generalize (w.alloc (.cells #[.slice ao n cap] 24)).alloc (.cells #[.int .i64 root, .int .i64 size] 26) = W0 at *
  refine (HCR.out W0 hb0).mono ?_
  rintro e w1 ⟨rfl, hb1⟩
  have hbw1 := below_step hb0 hb1
  replace p0 := (hb1.block _ (lt_heap p0)).trans p0
  replace p1 := (hb1.block _ (lt_heap p1)).trans p1
  clear hb1
  cases cb with
  | true =>
    go_wp2
    go_ret
    exact ⟨rfl, hbw1⟩
  | false =>
    have c0 := cell_of_one p0
    have c10 := cell_of_block p1 0
    have c11 := cell_of_block p1 1
    simp at c10 c11
    have l0 := lt_heap p0
    have l1 := lt_heap p1
    go_wp2_with fail
    refine (HRD.out w1 hbw1).mono ?_
    rintro e w2 ⟨xa, xn, xc, rfl, hxn, hxr, hxc, hb2⟩
    simp only at hxn hxr ⊢
    have HXN := Lib.hid hxn
    have hbw2 := below_step hbw1 hb2
    replace p0 := (hb2.block _ (lt_heap p0)).trans p0
    replace p1 := (hb2.block _ (lt_heap p1)).trans p1
    clear hxn hb2 c0 c10 c11 l0 l1
    go_wp2_with fail
    refine (filed_any w2).mono ?_
    rintro e w3 ⟨rfl, hb3⟩
    have hbw3 := below_step hbw2 hb3
    replace p0 := (hb3.block _ (lt_heap p0)).trans p0
    replace p1 := (hb3.block _ (lt_heap p1)).trans p1
    replace hxr := hxr.mono hb3
    clear hb3
    rcases HCA.out with ⟨h0, h1⟩ | ⟨h0, h1, h2⟩ | ⟨h0, q, l, z, hq, hl, rfl, -, -, hz, -, h1⟩
    · obtain ⟨hr1, hr2⟩ := Prod.mk.inj h1
      subst hr1
      rw [← hr2] at h0
      clear hr2
      have e2 : (re != 0) = true := by rw [bne_iff_ne]; exact h0
      clear h0 h1 hxr
      go_wp2_with fail
      refine (filed_any w3).mono ?_
      rintro e w4 ⟨rfl, hb4⟩
      have hbw4 := below_step hbw3 hb4
      go_wp2
      go_ret
      exact ⟨rfl, hbw4⟩
    · omega
    · obtain rfl : q = 0 := by omega
      obtain rfl : l = 256 := by omega
      have hBL := HBL.out z h0
      have hrl : rl = fileB s key root z := by
        have := (Prod.mk.inj h1).1
        rw [this, Nat.zero_min, List.drop_zero, List.take_of_length_le (by omega)]
      obtain rfl := (Prod.mk.inj h1).2
      have hBY := HBY.out z
      have hff := HFF.out z h0 trivial
      clear h1
      rw [← hrl] at hBL hBY hff
      obtain rfl : xn = z := HXN.out.symm.trans hBL
      have HWZ := Lib.hid (fun (u : World) (h : Below w.heap.size w u) (hr : Row .u8 u xa rl) => HWR.out rl xa xn xc HXN.out hz hBY u h hr hxc)
      have HFFZ := Lib.hid hff
      clear hBL hBY hff hrl hxc h0 hq hl
      have c0 := cell_of_one p0
      have l0 := lt_heap p0
      go_wp2_with fail
      refine (HWZ.out w3 hbw3 hxr).mono ?_
      generalize writeR s key 0 0 0 rl = WR at *
      rintro e w4 ⟨v4, rfl, ho4, hb4⟩
      have hbw4 := below_step hbw3 hb4
      rcases HFFZ.out with rfl | ⟨t, rt, rfl, wt, ht4, hD⟩
      · simp only at ho4 ⊢
        obtain ⟨mo, mc, rfl, -, -⟩ := ho4.sto
        simp only [List.length_nil]
        have hA : Below w4.heap.size w4 ((w4.alloc (.cells #[.slice mo 0 mc] 24)).alloc (.cells #[.int .i64 0, .int .i64 0] 26)) := ((Below.refl _ _).alloc (Nat.le_refl _) _).alloc (by simp) _
        have hbwA := below_step hbw4 hA
        clear c0 l0 ho4
        go_wp2_with fail
        go_ret
        exact ⟨rfl, hbwA⟩
      · simp only at ho4 ⊢
        obtain ⟨mo, mc, rfl, -, hms⟩ := ho4.sto
        obtain ⟨mn, hmn⟩ : ∃ mn, t.length = mn := ⟨_, rfl⟩
        rw [hmn]
        have hA : Below w4.heap.size w4 ((w4.alloc (.cells #[.slice mo mn mc] 24)).alloc (.cells #[.int .i64 rt, .int .i64 xn] 26)) := ((Below.refl _ _).alloc (Nat.le_refl _) _).alloc (by simp) _
        have q9 : ((w4.alloc (.cells #[.slice mo mn mc] 24)).alloc (.cells #[.int .i64 rt, .int .i64 xn] 26)).heap[w4.heap.size]? = some (.cells #[.slice mo mn mc] 24 (0, 0)) := heap_alloc2_old _ _ _
        have q10 : ((w4.alloc (.cells #[.slice mo mn mc] 24)).alloc (.cells #[.int .i64 rt, .int .i64 xn] 26)).heap[w4.heap.size + 1]? = some (.cells #[.int .i64 rt, .int .i64 xn] 26 (0, 0)) := heap_alloc2_new _ _ _
        have hB4 := hb4.trans (hA.mono hb4.size)
        have hbwA := below_step hbw4 hA
        have p1' := (hB4.block _ (lt_heap p1)).trans p1
        have hDF := differ_any ((w4.alloc (.cells #[.slice mo mn mc] 24)).alloc (.cells #[.int .i64 rt, .int .i64 xn] 26)) mo mn mc t root rt 3 hmn (by omega) (hms.mono hA) wt
        rw [hD] at hDF
        have d0 := cell_of_block p1' 0
        have d1 := cell_of_block p1' 1
        simp at d0 d1
        have d2 := lt_heap p1'
        clear c0 l0 ho4 hms hmn wt ht4 hD
        go_wp2_with fail
        clear d0 d1 d2
        generalize (w4.alloc (.cells #[.slice mo mn mc] 24)).alloc (.cells #[.int .i64 rt, .int .i64 xn] 26) = W4 at *
        refine hDF.mono ?_
        rintro e w5 ⟨v5, rfl, ho5, hb5⟩
        obtain ⟨da, dc, rfl, -, -, -, -⟩ := ho5.shape'
        simp only [List.length_nil]
        have hbw5 := below_step hbwA hb5
        have q105 := (hb5.block _ (lt_heap q10)).trans q10
        have p15 := (hb5.block _ (lt_heap p1')).trans p1'
        have d0 := cell_of_block p15 0
        have d1 := cell_of_block p15 1
        have d2 := cell_of_block q105 0
        have d3 := cell_of_block q105 1
        simp at d0 d1 d2 d3
        have d4 := lt_heap p15
        have d5 := lt_heap q105
        clear ho5 hDF
        go_wp2_with fail
        go_ret
        exact ⟨rfl, hbw5⟩
end Go.Proofs.Ytodogcokljmkmaa
