/- file.Read. · file.Write, file.Cut. -/
import Derived.Test.YtodogcokljmkmaaFileOver
namespace Go.Proofs.Ytodogcokljmkmaa
open Go.RowKit
set_option linter.unusedVariables false

/-- what Read gives -/
def readR (s : List Blk) (key root z at_ k : Int) : List Int × Int :=
  if fileE s key root z ≠ 0 then ([], fileE s key root z) else if at_ < 0 ∨ k < 0 ∨ 256 < at_ ∨ 256 < k then ([], 3) else (((fileB s key root z).take (at_ + k).toNat).drop at_.toNat, 0)

theorem fileB_len {s : List Blk} {key root : Int} {z : Nat} (hok : fileE s key root z = 0) : (fileB s key root z).length = z := by
  obtain ⟨hk, -, hz256, hc, -⟩ := fileE_ok hok
  obtain ⟨hce, m, hm3, hm, hroot, -, -⟩ := checkT_ok hc
  obtain rfl : m = 3 := by omega
  unfold fileB
  rw [List.length_take, bytesTo_len (leaf_four (checkE_zero s hce).2.1 (by omega) hroot), Int.toNat_natCast]
  omega

theorem row_drop {k : IntKind} {w : World} {g : Nat} {xs : List Int} (h : Row k w (some ⟨g, 0, none⟩) xs) (q m : Nat) : Row k w (some ⟨g, q, none⟩) ((xs.take m).drop q) := by
  rcases Nat.eq_zero_or_pos xs.length with h0 | h0
  · exact .inl (by rw [List.eq_nil_of_length_eq_zero h0]; simp)
  · obtain ⟨b, o, he, hc⟩ := h.at 0 h0
    simp only [Option.some.injEq, Addr.mk.injEq, and_true] at he
    obtain ⟨rfl, rfl⟩ := he
    refine .inr ⟨g, q, rfl, fun i hi => ?_⟩
    have hi2 : q + i < xs.length := by rw [List.length_drop, List.length_take] at hi; omega
    have := hc (q + i) hi2
    rw [Nat.zero_add] at this
    rw [this]
    simp

/-- a slice that a call gives -/
def SlEnd (e : Ending) (w w' : World) (r : List Int × Int) : Prop :=
  ∃ ao' n' cap', e = .returned (.tuple #[.slice ao' n' cap', .int .i64 r.2]) ∧ r.1.length = n' ∧ Row .u8 w' ao' r.1 ∧ Capd ao' n' cap' ∧ Below w.heap.size w w'
theorem SlEnd.none (w w' : World) (x : Int) (hb : Below w.heap.size w w') : SlEnd (.returned (.tuple #[.slice none 0 0, .int .i64 x])) w w' ([], x) := ⟨Option.none, 0, 0, rfl, rfl, .inl rfl, ⟨Nat.le_refl _, fun _ => rfl⟩, hb⟩

set_option maxRecDepth 100000 in
set_option maxHeartbeats 8000000 in
theorem read_any (w : World) (ao : Option Addr) (n cap : Nat) (s : List Blk) (key root size at_ k : Int) (hn : s.length = n) (hn63 : n ≤ 1152921504606846976) (hs : StoRow w ao s) (hwf : WfS s) (hz : I64 size) (hc : Capd ao n cap) :
    Calls Try.prog 14 #[.agg #[.slice ao n cap], .int .i64 key, .agg #[.int .i64 root, .int .i64 size], .int .i64 at_, .int .i64 k] w fun e w' => SlEnd e w w' (readR s key root size at_ k) := by
  have HN := Lib.hid hn
  have hb0 : Below w.heap.size w ((w.alloc (.cells #[.slice ao n cap] 24)).alloc (.cells #[.int .i64 root, .int .i64 size] 26)) := ((Below.refl _ _).alloc (Nat.le_refl _) _).alloc (by simp) _
  have p0 : ((w.alloc (.cells #[.slice ao n cap] 24)).alloc (.cells #[.int .i64 root, .int .i64 size] 26)).heap[w.heap.size]? = some (.cells #[.slice ao n cap] 24 (0, 0)) := heap_alloc2_old _ _ _
  have p1 : ((w.alloc (.cells #[.slice ao n cap] 24)).alloc (.cells #[.int .i64 root, .int .i64 size] 26)).heap[w.heap.size + 1]? = some (.cells #[.int .i64 root, .int .i64 size] 26 (0, 0)) := heap_alloc2_new _ _ _
  clear hn
  obtain ⟨RD, hRD⟩ : ∃ RD, readR s key root size at_ k = RD := ⟨_, rfl⟩
  rw [hRD]
  have HRD := Lib.hid hRD
  clear hRD
  go_enter Try.func14, Try.ntmps14
  go_wp2_with fail
  generalize (w.alloc (.cells #[.slice ao n cap] 24)).alloc (.cells #[.int .i64 root, .int .i64 size] 26) = W0 at *
  have hs := hs.mono hb0
  refine (fileCheck_any _ _ _ _ s key root size HN.out hn63 hs hwf hz).mono ?_
  rintro e w1 ⟨rfl, hb1⟩
  have p0 := (hb1.block _ (lt_heap p0)).trans p0
  have p1 := (hb1.block _ (lt_heap p1)).trans p1
  have hs := hs.mono hb1
  have hbw := below_step hb0 hb1
  have c0 := cell_of_one p0
  have c10 := cell_of_block p1 0
  have c11 := cell_of_block p1 1
  simp at c10 c11
  have l0 := lt_heap p0
  have l1 := lt_heap p1
  by_cases hce : fileE s key root size = 0
  rotate_left
  · have HR : Hid (RD = ([], fileE s key root size)) := Lib.hid (by rw [← HRD.out]; unfold readR; rw [if_pos hce])
    have he1 : (fileE s key root size != 0) = true := by rw [bne_iff_ne]; exact hce
    generalize fileE s key root size = ce at *
    clear hs hce hb1 HRD
    go_wp2
    refine bodyPost_ret (v := .tuple #[.slice none 0 0, .int .i64 ce]) (by simp [results, Try.results14, go_sem]) rfl ?_
    rw [HR.out]
    exact SlEnd.none _ _ _ hbw
  obtain ⟨-, hz0, hz1, -, -⟩ := fileE_ok hce
  obtain ⟨z, rfl⟩ : ∃ z : Nat, size = z := ⟨size.toNat, by omega⟩
  have hFL := fileB_len hce
  have HB2 := Lib.hid (fun (u : World) (h : StoRow u ao s) => fileBytes_any u ao n cap s key root z HN.out hn63 h hwf hce)
  by_cases h1 : at_ < 0 ∨ k < 0 ∨ 256 < at_ ∨ 256 < k
  · have HR : Hid (RD = ([], 3)) := Lib.hid (by rw [← HRD.out]; unfold readR; rw [if_neg (fun h => h hce), if_pos h1])
    rw [hce]
    clear hs hb1 HRD HB2 hce hFL
    have key4 : ∀ (a b c d : Bool), a = decide (at_ < 0) → b = decide (k < 0) → c = decide (256 < at_) → d = decide (256 < k) → (a || b || c || d) = true := by
      intro a b c d ha hb hc hd
      subst ha hb hc hd
      simp only [Bool.or_eq_true, decide_eq_true_eq]
      omega
    by_cases e1 : at_ < 0 <;> by_cases e2 : k < 0 <;> by_cases e3 : 256 < at_ <;> by_cases e4 : 256 < k
    all_goals try (exfalso; omega)
    all_goals
      clear key4 h1
      go_wp2
      refine bodyPost_ret (v := .tuple #[.slice none 0 0, .int .i64 3]) (by simp [results, Try.results14, go_sem]) rfl ?_
      rw [HR.out]
      exact SlEnd.none _ _ _ hbw
  obtain ⟨q, rfl⟩ : ∃ q : Nat, at_ = q := ⟨at_.toNat, by omega⟩
  obtain ⟨l, rfl⟩ : ∃ l : Nat, k = l := ⟨k.toNat, by omega⟩
  have HR : Hid (RD = (((fileB s key root z).take (q + l)).drop q, 0)) := Lib.hid (by rw [← HRD.out]; unfold readR; rw [if_neg (fun h => h hce), if_neg h1]; rfl)
  rw [hce]
  generalize fileB s key root z = F at *
  have HFL := Lib.hid hFL
  have e1 : ¬ ((q : Int) < 0) := by omega
  have e2 : ¬ ((l : Int) < 0) := by omega
  have e3 : ¬ ((256 : Int) < q) := by omega
  have e4 : ¬ ((256 : Int) < l) := by omega
  clear h1 HRD hce hFL hb1
  go_wp2_with fail
  refine (HB2.out w1 hs).mono ?_
  rintro e w2 ⟨g, c, rfl, hzc, hg1, hg2, hrow, hb2⟩
  simp only [Int.toNat_natCast] at hzc ⊢
  rcases (show (q < z ∧ q + l < z) ∨ (q < z ∧ q + l = z) ∨ (q < z ∧ z < q + l) ∨ (q = z ∧ l = 0) ∨ (q = z ∧ 0 < l) ∨ z < q from by omega) with ⟨h1, h2⟩ | ⟨h1, h2⟩ | ⟨h1, h2⟩ | ⟨h1, h2⟩ | ⟨h1, h2⟩ | h1
  · have i0 : (q : Int) < z := by omega
    have i1 : (q : Int) + l < z := by omega
    have i2 : ¬ ((z : Int) < q) := by omega
    have i3 : ¬ ((z : Int) < (q : Int) + l) := by omega
    have i4 : (q : Int) ≤ (q : Int) + l := by omega
    have i5 : (q : Int) + l ≤ c := by omega
    have i6 : ¬ c = q := by omega
    go_wp2_with fail
    refine (clone_bytes_n _ _ _ ((F.take (q + l)).drop q) _ (by rw [List.length_drop, List.length_take, HFL.out]; omega) (row_drop hrow q (q + l)) (fun h => by cases h) (by omega)).mono ?_
    rintro e w3 ⟨v, rfl, ho, -, hb3⟩
    obtain ⟨ao2, cap2, hv2, hr2, hc2⟩ := own_cap ho
    obtain ⟨N, hN⟩ : ∃ N, ((F.take (q + l)).drop q).length = N := ⟨_, rfl⟩
    rw [hN] at hv2 hc2
    subst hv2
    have HN2 := Lib.hid hN
    have hb4 := (hbw.trans (hb2.mono (by have := hbw.size; omega))).trans (hb3.mono (by have := hbw.size; have := hb2.size; omega))
    clear hN ho
    go_wp2_with fail
    refine bodyPost_ret (v := .tuple #[.slice ao2 N cap2, .int .i64 0]) (by simp [results, Try.results14, go_sem]) rfl ?_
    rw [HR.out]
    exact ⟨ao2, N, cap2, rfl, HN2.out, hr2, hc2, hb4⟩
  · have i0 : (q : Int) < z := by omega
    have i1 : ¬ ((q : Int) + l < z) := by omega
    have i2 : ¬ ((z : Int) < q) := by omega
    have i3 : ¬ ((z : Int) < (q : Int) + l) := by omega
    have i4 : ¬ c = q := by omega
    go_wp2_with fail
    refine (clone_bytes_n _ _ _ ((F.take (q + l)).drop q) _ (by rw [List.length_drop, List.length_take, HFL.out]; omega) (row_drop hrow q (q + l)) (fun h => by cases h) (by omega)).mono ?_
    rintro e w3 ⟨v, rfl, ho, -, hb3⟩
    obtain ⟨ao2, cap2, hv2, hr2, hc2⟩ := own_cap ho
    obtain ⟨N, hN⟩ : ∃ N, ((F.take (q + l)).drop q).length = N := ⟨_, rfl⟩
    rw [hN] at hv2 hc2
    subst hv2
    have HN2 := Lib.hid hN
    have hb4 := (hbw.trans (hb2.mono (by have := hbw.size; omega))).trans (hb3.mono (by have := hbw.size; have := hb2.size; omega))
    clear hN ho
    go_wp2_with fail
    refine bodyPost_ret (v := .tuple #[.slice ao2 N cap2, .int .i64 0]) (by simp [results, Try.results14, go_sem]) rfl ?_
    rw [HR.out]
    exact ⟨ao2, N, cap2, rfl, HN2.out, hr2, hc2, hb4⟩
  · have i0 : (q : Int) < z := by omega
    have i1 : ¬ ((q : Int) + l < z) := by omega
    have i2 : ¬ ((z : Int) < q) := by omega
    have i3 : ((z : Int) < (q : Int) + l) := by omega
    have i4 : ¬ c = q := by omega
    go_wp2_with fail
    refine (clone_bytes_n _ _ _ ((F.take (q + l)).drop q) _ (by rw [List.length_drop, List.length_take, HFL.out]; omega) (row_drop hrow q (q + l)) (fun h => by cases h) (by omega)).mono ?_
    rintro e w3 ⟨v, rfl, ho, -, hb3⟩
    obtain ⟨ao2, cap2, hv2, hr2, hc2⟩ := own_cap ho
    obtain ⟨N, hN⟩ : ∃ N, ((F.take (q + l)).drop q).length = N := ⟨_, rfl⟩
    rw [hN] at hv2 hc2
    subst hv2
    have HN2 := Lib.hid hN
    have hb4 := (hbw.trans (hb2.mono (by have := hbw.size; omega))).trans (hb3.mono (by have := hbw.size; have := hb2.size; omega))
    clear hN ho
    go_wp2_with fail
    refine bodyPost_ret (v := .tuple #[.slice ao2 N cap2, .int .i64 0]) (by simp [results, Try.results14, go_sem]) rfl ?_
    rw [HR.out]
    exact ⟨ao2, N, cap2, rfl, HN2.out, hr2, hc2, hb4⟩
  · subst h1
    subst h2
    have i0 : ¬ ((q : Int) < q) := by omega
    by_cases hcz : c = q
    all_goals
      go_wp2_with fail
      refine (clone_bytes_n _ _ _ ((F.take (q + 0)).drop q) _ (by rw [List.length_drop, List.length_take, HFL.out]; omega) (.inl (List.eq_nil_of_length_eq_zero (by rw [List.length_drop, List.length_take, HFL.out]; omega))) (fun h => by cases h) (by omega)).mono ?_
      rintro e w3 ⟨v, rfl, ho, -, hb3⟩
      obtain ⟨ao2, cap2, hv2, hr2, hc2⟩ := own_cap ho
      obtain ⟨N, hN⟩ : ∃ N, ((F.take (q + 0)).drop q).length = N := ⟨_, rfl⟩
      rw [hN] at hv2 hc2
      subst hv2
      have HN2 := Lib.hid hN
      have hb4 := (hbw.trans (hb2.mono (by have := hbw.size; omega))).trans (hb3.mono (by have := hbw.size; have := hb2.size; omega))
      clear hN ho
      go_wp2_with fail
      refine bodyPost_ret (v := .tuple #[.slice ao2 N cap2, .int .i64 0]) (by simp [results, Try.results14, go_sem]) rfl ?_
      rw [HR.out]
      exact ⟨ao2, N, cap2, rfl, HN2.out, hr2, hc2, hb4⟩
  · subst h1
    have i0 : ¬ ((q : Int) < q) := by omega
    have i1 : ¬ ((q : Int) + l < q) := by omega
    have i2 : (q : Int) < (q : Int) + l := by omega
    by_cases hcz : c = q
    all_goals
      go_wp2_with fail
      refine (clone_bytes_n _ _ _ ((F.take (q + l)).drop q) _ (by rw [List.length_drop, List.length_take, HFL.out]; omega) (.inl (List.eq_nil_of_length_eq_zero (by rw [List.length_drop, List.length_take, HFL.out]; omega))) (fun h => by cases h) (by omega)).mono ?_
      rintro e w3 ⟨v, rfl, ho, -, hb3⟩
      obtain ⟨ao2, cap2, hv2, hr2, hc2⟩ := own_cap ho
      obtain ⟨N, hN⟩ : ∃ N, ((F.take (q + l)).drop q).length = N := ⟨_, rfl⟩
      rw [hN] at hv2 hc2
      subst hv2
      have HN2 := Lib.hid hN
      have hb4 := (hbw.trans (hb2.mono (by have := hbw.size; omega))).trans (hb3.mono (by have := hbw.size; have := hb2.size; omega))
      clear hN ho
      go_wp2_with fail
      refine bodyPost_ret (v := .tuple #[.slice ao2 N cap2, .int .i64 0]) (by simp [results, Try.results14, go_sem]) rfl ?_
      rw [HR.out]
      exact ⟨ao2, N, cap2, rfl, HN2.out, hr2, hc2, hb4⟩
  · skip
    have i0 : ¬ ((q : Int) < z) := by omega
    have i1 : ¬ ((q : Int) + l < z) := by omega
    have i2 : ((z : Int) < q) := by omega
    have i3 : ((z : Int) < (q : Int) + l) := by omega
    by_cases hcz : c = z
    all_goals
      go_wp2_with fail
      refine (clone_bytes_n _ _ _ ((F.take (q + l)).drop q) _ (by rw [List.length_drop, List.length_take, HFL.out]; omega) (.inl (List.eq_nil_of_length_eq_zero (by rw [List.length_drop, List.length_take, HFL.out]; omega))) (fun h => by cases h) (by omega)).mono ?_
      rintro e w3 ⟨v, rfl, ho, -, hb3⟩
      obtain ⟨ao2, cap2, hv2, hr2, hc2⟩ := own_cap ho
      obtain ⟨N, hN⟩ : ∃ N, ((F.take (q + l)).drop q).length = N := ⟨_, rfl⟩
      rw [hN] at hv2 hc2
      subst hv2
      have HN2 := Lib.hid hN
      have hb4 := (hbw.trans (hb2.mono (by have := hbw.size; omega))).trans (hb3.mono (by have := hbw.size; have := hb2.size; omega))
      clear hN ho
      go_wp2_with fail
      refine bodyPost_ret (v := .tuple #[.slice ao2 N cap2, .int .i64 0]) (by simp [results, Try.results14, go_sem]) rfl ?_
      rw [HR.out]
      exact ⟨ao2, N, cap2, rfl, HN2.out, hr2, hc2, hb4⟩
end Go.Proofs.Ytodogcokljmkmaa

namespace Go.Proofs.Ytodogcokljmkmaa
open Go.RowKit
set_option linter.unusedVariables false

def writeR (s : List Blk) (key root z at_ : Int) (b : List Int) : List Blk × (Int × Int) × Int :=
  if fileE s key root z ≠ 0 then ([], (0, 0), fileE s key root z) else if (overR (fileB s key root z) at_ b).2 ≠ 0 then ([], (0, 0), (overR (fileB s key root z) at_ b).2)
  else turnedR s key root z (overR (fileB s key root z) at_ b).1
/-- so many bytes: the first, noughts behind -/
def cutL (b : List Int) (k : Nat) : List Int := b.take k ++ zeros (k - b.length)
def cutR (s : List Blk) (key root z size : Int) : List Blk × (Int × Int) × Int :=
  if fileE s key root z ≠ 0 then ([], (0, 0), fileE s key root z) else if size < 0 ∨ 256 < size then ([], (0, 0), 3) else turnedR s key root z (cutL (fileB s key root z) size.toNat)

theorem Good.empty (M : Int) : Good [] M := ⟨by simp, fun x hx => absurd hx (by simp), fun x hx => absurd hx (by simp), fun x hx => absurd hx (by simp)⟩

theorem turnedR_good {s : List Blk} {key root z : Int} {b : List Int} (hok : fileE s key root z = 0) (hwf : WfS s) (hb : Byt b) (hb4 : b.length ≤ 256) : Good (turnedR s key root z b).1 1000833 := by
  have h0 := fun h => turnR_good (b := b) hok hwf hb hb4 h
  unfold turnedR
  generalize turnR s key root z b = r at *
  by_cases h : r.2.2 = 0
  · rw [if_pos h]; exact h0 h
  · rw [if_neg h]; exact Good.empty _

theorem fileB_byt (s : List Blk) (key root z : Int) : Byt (fileB s key root z) := by
  intro x hx
  have hx := List.mem_of_mem_take hx
  unfold bytesTo at hx
  rw [List.mem_flatMap] at hx
  obtain ⟨i, -, hx⟩ := hx
  unfold leafBytes at hx
  split at hx
  · simp at hx; omega
  · exact sealed_byt _ _ _ _ x hx
theorem cutL_len (b : List Int) (k : Nat) : (cutL b k).length = k := by simp [cutL, zeros]; omega
theorem cutL_byt {b : List Int} (h : Byt b) (k : Nat) : Byt (cutL b k) := by
  intro x hx
  rcases List.mem_append.1 hx with h1 | h1
  · exact h x (List.mem_of_mem_take h1)
  · have := (List.mem_replicate.1 h1).2
    omega
theorem overR_len {b more : List Int} {at_ : Int} (h : (overR b at_ more).2 = 0) (hb : b.length ≤ 256) : (overR b at_ more).1.length ≤ 256 := by
  unfold overR at h ⊢
  split at h
  · simp at h
  · split at h
    · simp at h
    · rename_i h1 h2
      rw [if_neg h1, if_neg h2, overL_len]
      split <;> omega
theorem overR_byt {b more : List Int} {at_ : Int} (hb : Byt b) (hm : Byt more) : Byt (overR b at_ more).1 := by
  unfold overR
  split
  · intro x hx; cases hx
  · split
    · intro x hx; cases hx
    · exact overL_byt hb hm _

set_option maxRecDepth 100000 in
set_option maxHeartbeats 8000000 in
theorem write_any (w : World) (ao ba : Option Addr) (n cap nb bc : Nat) (s : List Blk) (key root size at_ : Int) (b : List Int) (hn : s.length = n) (hn63 : n ≤ 1152921504606846976) (hs : StoRow w ao s) (hwf : WfS s) (hz : I64 size) (hc : Capd ao n cap)
    (hnb : b.length = nb) (hbr : Row .u8 w ba b) (hbc : Capd ba nb bc) (hby : Byt b) (hb47 : nb ≤ 140737488351232) :
    Calls Try.prog 17 #[.agg #[.slice ao n cap], .int .i64 key, .agg #[.int .i64 root, .int .i64 size], .int .i64 at_, .slice ba nb bc] w fun e w' => FileEnd e w w' (writeR s key root size at_ b) := by
  have HN := Lib.hid hn
  have HC := Lib.hid hc
  have HB := Lib.hid hnb
  obtain ⟨RD, hRD⟩ : ∃ RD, writeR s key root size at_ b = RD := ⟨_, rfl⟩
  rw [hRD]
  have HRD := Lib.hid hRD
  obtain ⟨hb0, p1, p2, p3, p4, hz4⟩ := four_allocs w (.cells #[.slice ao n cap] 24) (.cells #[.int .i64 root, .int .i64 size] 26) (.cells #[.slice none 0 0] 24) (.cells #[.int .i64 0, .int .i64 0] 26)
  clear hn hc hnb hRD
  go_enter Try.func17, Try.ntmps17
  go_wp2_with fail
  generalize (((w.alloc (.cells #[.slice ao n cap] 24)).alloc (.cells #[.int .i64 root, .int .i64 size] 26)).alloc (.cells #[.slice none 0 0] 24)).alloc (.cells #[.int .i64 0, .int .i64 0] 26) = W0 at *
  have hs := hs.mono hb0
  refine (fileCheck_any _ _ _ _ s key root size HN.out hn63 hs hwf hz).mono ?_
  rintro e w1 ⟨rfl, hb1⟩
  have p1 := (hb1.block _ (lt_heap p1)).trans p1
  have p2 := (hb1.block _ (lt_heap p2)).trans p2
  have p3 := (hb1.block _ (lt_heap p3)).trans p3
  have p4 := (hb1.block _ (lt_heap p4)).trans p4
  have hs := hs.mono hb1
  have hbw := below_step hb0 hb1
  have c1 := cell_of_one p1
  have c20 := cell_of_block p2 0
  have c21 := cell_of_block p2 1
  simp at c20 c21
  have l1 := lt_heap p1
  have l2 := lt_heap p2
  have c3 := cell_of_one p3
  have f3 := free_of_one p3
  have c40 := cell_of_block p4 0
  have c41 := cell_of_block p4 1
  simp at c40 c41
  have f40 := free_of_block p4 0
  have f41 := free_of_block p4 1
  by_cases hce : fileE s key root size = 0
  rotate_left
  · have HR : Hid (RD = ([], (0, 0), fileE s key root size)) := Lib.hid (by rw [← HRD.out]; unfold writeR; rw [if_pos hce])
    have he1 : (fileE s key root size != 0) = true := by rw [bne_iff_ne]; exact hce
    generalize fileE s key root size = ce at *
    clear hs hce hb1 HRD
    obtain ⟨z3, z4, zo, zb⟩ := put_results p3 p4 (by omega) (.slice none 0 0) 0 0
    have v3 := cell_of_one z3
    have v40 := cell_of_block z4 0
    have v41 := cell_of_block z4 1
    simp at v40 v41
    have hbz := zb _ _ hbw (by omega) (by omega)
    go_wp2_with fail
    refine bodyPost_ret (v := .tuple #[.agg #[.slice none 0 0], .agg #[.int .i64 0, .int .i64 0], .int .i64 ce]) (by simp [results, Try.results17, go_sem, v3, v40, v41]) rfl ⟨.slice none 0 0, by rw [HR.out], ?_, ?_⟩
    · rw [HR.out]; exact OwnSto.none _ _
    · exact hbz
  obtain ⟨-, hz0, hz1, -, -⟩ := fileE_ok hce
  obtain ⟨z, rfl⟩ : ∃ z : Nat, size = z := ⟨size.toNat, by omega⟩
  have hFL := fileB_len hce
  have hFB := fileB_byt s key root z
  have HB2 := Lib.hid (fun (u : World) (h : StoRow u ao s) => fileBytes_any u ao n cap s key root z HN.out hn63 h hwf hce)
  have HTG := Lib.hid (fun (x : List Int) (h1 : Byt x) (h2 : x.length ≤ 256) => turnedR_good (z := (z : Int)) hce hwf h1 h2)
  have HTD := Lib.hid (fun (u : World) (xa : Option Addr) (xn xc : Nat) (x : List Int) (h : StoRow u ao s) h1 h2 h3 h4 h5 => turned_any u ao xa n cap xn xc z s key root x HN.out h hwf HC.out hce h1 h2 h3 h4 h5)
  have HR : Hid (RD = if (overR (fileB s key root z) at_ b).2 ≠ 0 then ([], (0, 0), (overR (fileB s key root z) at_ b).2) else turnedR s key root z (overR (fileB s key root z) at_ b).1) := Lib.hid (by rw [← HRD.out]; unfold writeR; rw [if_neg (fun h => h hce)])
  rw [hce]
  generalize fileB s key root z = F at *
  have HFL := Lib.hid hFL
  have HFB := Lib.hid hFB
  clear HRD hce hFL hFB hb1
  go_wp2_with fail
  refine (HB2.out w1 hs).mono ?_
  rintro e w2 ⟨g, c, rfl, hzc, hg1, hg2, hrow, hb2⟩
  simp only [Int.toNat_natCast] at hzc ⊢
  have hs := hs.mono hb2
  have hbr2 := (hbr.mono hbw).mono hb2
  have hbw := below_step hbw hb2
  have p1 := (hb2.block _ (lt_heap p1)).trans p1
  have p2 := (hb2.block _ (lt_heap p2)).trans p2
  have p3 := (hb2.block _ (lt_heap p3)).trans p3
  have p4 := (hb2.block _ (lt_heap p4)).trans p4
  have hov := Lib.hid (over_any w2 (some ⟨g, 0, none⟩) ba z c nb bc F b at_ HFL.out HB.out hrow hbr2 ⟨hzc, fun h => by cases h⟩ hbc (by omega) hb47)
  have hol := Lib.hid (fun h => overR_len (b := F) (at_ := at_) (more := b) h (by rw [HFL.out]; omega))
  have hob := Lib.hid (overR_byt (at_ := at_) HFB.out hby)
  clear hrow hbr2
  go_wp2_with fail
  refine hov.out.mono ?_
  rintro e w3 ⟨oa, on, oc, rfl, hon, hor, hoc, hb3⟩
  have hs := hs.mono hb3
  have hbw := below_step hbw hb3
  have p1 := (hb3.block _ (lt_heap p1)).trans p1
  have p2 := (hb3.block _ (lt_heap p2)).trans p2
  have p3 := (hb3.block _ (lt_heap p3)).trans p3
  have p4 := (hb3.block _ (lt_heap p4)).trans p4
  have c1 := cell_of_one p1
  have c20 := cell_of_block p2 0
  have c21 := cell_of_block p2 1
  simp at c20 c21
  have l1 := lt_heap p1
  have l2 := lt_heap p2
  have c3 := cell_of_one p3
  have f3 := free_of_one p3
  have c40 := cell_of_block p4 0
  have c41 := cell_of_block p4 1
  simp at c40 c41
  have f40 := free_of_block p4 0
  have f41 := free_of_block p4 1
  clear hov hb2 hb3
  generalize overR F at_ b = ov at *
  obtain ⟨ol, oe⟩ := ov
  simp only at hon hor hol hob HR ⊢
  have HON := Lib.hid hon
  clear hon
  by_cases hoe : oe = 0
  rotate_left
  · have HR2 : Hid (RD = ([], (0, 0), oe)) := Lib.hid (by rw [HR.out, if_pos hoe])
    have he1 : (oe != 0) = true := by rw [bne_iff_ne]; exact hoe
    clear hs hoe HR hol
    obtain ⟨z3, z4, zo, zb⟩ := put_results p3 p4 (by omega) (.slice none 0 0) 0 0
    have v3 := cell_of_one z3
    have v40 := cell_of_block z4 0
    have v41 := cell_of_block z4 1
    simp at v40 v41
    have hbz := zb _ _ hbw (by omega) (by omega)
    go_wp2_with fail
    refine bodyPost_ret (v := .tuple #[.agg #[.slice none 0 0], .agg #[.int .i64 0, .int .i64 0], .int .i64 oe]) (by simp [results, Try.results17, go_sem, v3, v40, v41]) rfl ⟨.slice none 0 0, by rw [HR2.out], ?_, ?_⟩
    · rw [HR2.out]; exact OwnSto.none _ _
    · exact hbz
  subst hoe
  have HR2 : Hid (RD = turnedR s key root z ol) := Lib.hid (by rw [HR.out, if_neg (fun h => h rfl)])
  have hol := hol.out rfl
  have HT := HTD.out w3 oa on oc ol hs hob.out HON.out (by have := HON.out; omega) hor hoc
  have HG := HTG.out ol hob.out hol
  rw [← HR2.out] at HT HG
  have HTH := Lib.hid HT
  clear HT hs HR hob hor
  go_wp2_with fail
  refine HTH.out.mono ?_
  rintro e w4 ⟨v, rfl, ho, hb4⟩
  obtain ⟨a1, cap1, hv1, hc1, hr1⟩ := ho.sto
  have hsz3 : w.heap.size + 4 ≤ w3.heap.size := by have := lt_heap p4; omega
  have p3 := (hb4.block _ (lt_heap p3)).trans p3
  have p4 := (hb4.block _ (lt_heap p4)).trans p4
  have hbw := below_step hbw hb4
  obtain ⟨N1, hN1⟩ : ∃ N, RD.1.length = N := ⟨_, rfl⟩
  rw [hN1] at hv1 hc1
  subst hv1
  have c3 := cell_of_one p3
  have f3 := free_of_one p3
  have c40 := cell_of_block p4 0
  have c41 := cell_of_block p4 1
  simp at c40 c41
  have f40 := free_of_block p4 0
  have f41 := free_of_block p4 1
  obtain ⟨s1, ⟨r1, z1⟩, e1⟩ := RD
  simp only at ho HG ⊢
  obtain ⟨z3, z4, zo, zb⟩ := put_results p3 p4 (by omega) (.slice a1 N1 cap1) r1 z1
  have v3 := cell_of_one z3
  have v40 := cell_of_block z4 0
  have v41 := cell_of_block z4 1
  simp at v40 v41
  have hOz := (zo _ _ _ _ _ _ ho HG (by omega) (by omega)).weaken (show w.heap.size ≤ w3.heap.size by omega)
  have hbz := zb _ _ hbw (by omega) (by omega)
  clear hN1 ho HR2 HTH
  go_wp2_with fail
  refine bodyPost_ret (v := .tuple #[.agg #[.slice a1 N1 cap1], .agg #[.int .i64 r1, .int .i64 z1], .int .i64 e1]) (by simp [results, Try.results17, go_sem, v3, v40, v41]) rfl ⟨_, rfl, hOz, hbz⟩

set_option maxRecDepth 100000 in
set_option maxHeartbeats 8000000 in
theorem cut_any (w : World) (ao : Option Addr) (n cap : Nat) (s : List Blk) (key root size tz : Int) (hn : s.length = n) (hn63 : n ≤ 1152921504606846976) (hs : StoRow w ao s) (hwf : WfS s) (hz : I64 size) (hc : Capd ao n cap) (ht : I64 tz) :
    Calls Try.prog 12 #[.agg #[.slice ao n cap], .int .i64 key, .agg #[.int .i64 root, .int .i64 size], .int .i64 tz] w fun e w' => FileEnd e w w' (cutR s key root size tz) := by
  have HN := Lib.hid hn
  have HS0 := Lib.hid hs
  have HC := Lib.hid hc
  obtain ⟨RD, hRD⟩ : ∃ RD, cutR s key root size tz = RD := ⟨_, rfl⟩
  rw [hRD]
  have HRD := Lib.hid hRD
  obtain ⟨hb0, p1, p2, p3, p4, hz4⟩ := four_allocs w (.cells #[.slice ao n cap] 24) (.cells #[.int .i64 root, .int .i64 size] 26) (.cells #[.slice none 0 0] 24) (.cells #[.int .i64 0, .int .i64 0] 26)
  clear hn hc hRD
  go_enter Try.func12, Try.ntmps12
  go_wp2_with fail
  generalize (((w.alloc (.cells #[.slice ao n cap] 24)).alloc (.cells #[.int .i64 root, .int .i64 size] 26)).alloc (.cells #[.slice none 0 0] 24)).alloc (.cells #[.int .i64 0, .int .i64 0] 26) = W0 at *
  have hs := hs.mono hb0
  refine (fileCheck_any _ _ _ _ s key root size HN.out hn63 hs hwf hz).mono ?_
  rintro e w1 ⟨rfl, hb1⟩
  have p1 := (hb1.block _ (lt_heap p1)).trans p1
  have p2 := (hb1.block _ (lt_heap p2)).trans p2
  have p3 := (hb1.block _ (lt_heap p3)).trans p3
  have p4 := (hb1.block _ (lt_heap p4)).trans p4
  have hs := hs.mono hb1
  have hbw := below_step hb0 hb1
  have c1 := cell_of_one p1
  have c20 := cell_of_block p2 0
  have c21 := cell_of_block p2 1
  simp at c20 c21
  have l1 := lt_heap p1
  have l2 := lt_heap p2
  have c3 := cell_of_one p3
  have f3 := free_of_one p3
  have c40 := cell_of_block p4 0
  have c41 := cell_of_block p4 1
  simp at c40 c41
  have f40 := free_of_block p4 0
  have f41 := free_of_block p4 1
  by_cases hce : fileE s key root size = 0
  rotate_left
  · have HR : Hid (RD = ([], (0, 0), fileE s key root size)) := Lib.hid (by rw [← HRD.out]; unfold cutR; rw [if_pos hce])
    have he1 : (fileE s key root size != 0) = true := by rw [bne_iff_ne]; exact hce
    generalize fileE s key root size = ce at *
    clear hs hce hb1 HRD
    obtain ⟨z3, z4, zo, zb⟩ := put_results p3 p4 (by omega) (.slice none 0 0) 0 0
    have v3 := cell_of_one z3
    have v40 := cell_of_block z4 0
    have v41 := cell_of_block z4 1
    simp at v40 v41
    have hbz := zb _ _ hbw (by omega) (by omega)
    go_wp2_with fail
    refine bodyPost_ret (v := .tuple #[.agg #[.slice none 0 0], .agg #[.int .i64 0, .int .i64 0], .int .i64 ce]) (by simp [results, Try.results12, go_sem, v3, v40, v41]) rfl ⟨.slice none 0 0, by rw [HR.out], ?_, ?_⟩
    · rw [HR.out]; exact OwnSto.none _ _
    · exact hbz
  obtain ⟨-, hz0, hz1, -, -⟩ := fileE_ok hce
  obtain ⟨z, rfl⟩ : ∃ z : Nat, size = z := ⟨size.toNat, by omega⟩
  have hFL := fileB_len hce
  have hFB := fileB_byt s key root z
  have HB2 := Lib.hid (fun (u : World) (h : StoRow u ao s) => fileBytes_any u ao n cap s key root z HN.out hn63 h hwf hce)
  have HTG := Lib.hid (fun (x : List Int) (h1 : Byt x) (h2 : x.length ≤ 256) => turnedR_good (z := (z : Int)) hce hwf h1 h2)
  have HTD := Lib.hid (fun (u : World) (xa : Option Addr) (xn xc : Nat) (x : List Int) (h : StoRow u ao s) h1 h2 h3 h4 h5 => turned_any u ao xa n cap xn xc z s key root x HN.out h hwf HC.out hce h1 h2 h3 h4 h5)
  by_cases hto : tz < 0 ∨ 256 < tz
  · have HR : Hid (RD = ([], (0, 0), 3)) := Lib.hid (by rw [← HRD.out]; unfold cutR; rw [if_neg (fun h => h hce), if_pos hto])
    rw [hce]
    clear hs hce hb1 HRD HB2 HTG HTD hFL hFB
    obtain ⟨z3, z4, zo, zb⟩ := put_results p3 p4 (by omega) (.slice none 0 0) 0 0
    have v3 := cell_of_one z3
    have v40 := cell_of_block z4 0
    have v41 := cell_of_block z4 1
    simp at v40 v41
    have hbz := zb _ _ hbw (by omega) (by omega)
    by_cases e1 : tz < 0 <;> by_cases e2 : 256 < tz
    all_goals try (exfalso; omega)
    all_goals
      clear hto
      go_wp2_with fail
      refine bodyPost_ret (v := .tuple #[.agg #[.slice none 0 0], .agg #[.int .i64 0, .int .i64 0], .int .i64 3]) (by simp [results, Try.results12, go_sem, v3, v40, v41]) rfl ⟨.slice none 0 0, by rw [HR.out], ?_, ?_⟩
      · rw [HR.out]; exact OwnSto.none _ _
      · exact hbz
  obtain ⟨k, rfl⟩ : ∃ k : Nat, tz = k := ⟨tz.toNat, by omega⟩
  have HR : Hid (RD = turnedR s key root z (cutL (fileB s key root z) k)) := Lib.hid (by rw [← HRD.out]; unfold cutR; rw [if_neg (fun h => h hce), if_neg hto]; rfl)
  rw [hce]
  generalize fileB s key root z = F at *
  have HFL := Lib.hid hFL
  have HFB := Lib.hid hFB
  have t1 : ¬ ((k : Int) < 0) := by omega
  have t2 : ¬ ((256 : Int) < k) := by omega
  have hk256 : k ≤ 256 := by omega
  have hmk : ∀ u : World, (Instr.makeSlice 32 (.int .i64 (k : Int)) (.int .i64 (k : Int))).run Try.prog u = .ok (.slice (some ⟨u.heap.size, 0, none⟩) k k) (u.alloc (.cells (icells .u8 (zeros k)) 5)) := fun u =>
    make_ints (P := Try.prog) .u8 32 5 1 Try.underlying32 info_u8 k (by omega) (by omega) u
  have hszI : (Try.prog.info? 5).map (·.size) = some 1 := by kernel_rfl
  have hA : Below w1.heap.size w1 (w1.alloc (.cells (icells .u8 (zeros k)) 5)) := (Below.refl _ _).alloc (Nat.le_refl _) _
  have pn : (w1.alloc (.cells (icells .u8 (zeros k)) 5)).heap[w1.heap.size]? = some (.cells ((zeros k).map (Value.int .u8)).toArray 5 (0, 0)) := heap_alloc_new _ _
  have hsA := hs.mono hA
  have hbwA := below_step hbw hA
  have p1A := (hA.block _ (lt_heap p1)).trans p1
  have p2A := (hA.block _ (lt_heap p2)).trans p2
  have p3A := (hA.block _ (lt_heap p3)).trans p3
  have p4A := (hA.block _ (lt_heap p4)).trans p4
  have a1 := cell_of_one p1A
  have a20 := cell_of_block p2A 0
  have a21 := cell_of_block p2A 1
  simp at a20 a21
  have la1 := lt_heap p1A
  have la2 := lt_heap p2A
  have lpn := lt_heap pn
  have HPN := Lib.hid pn
  have HB3 := HB2.out _ hsA
  have HLO := Lib.hid (show w.heap.size + 4 ≤ w1.heap.size by have := lt_heap p4; omega)
  clear HRD hce hFL hFB hb1 hto hs pn hA hbw p1 p2 p3 p4 c1 c20 c21 c3 c40 c41
  go_wp2_with fail
  generalize w1.heap.size = kn at *
  generalize w1.alloc (.cells (icells .u8 (zeros k)) 5) = WA at *
  refine HB3.mono ?_
  rintro e w2 ⟨g, c, rfl, hzc, hg1, hg2, hrow, hb2⟩
  simp only [Int.toNat_natCast] at hzc ⊢
  have hs := hsA.mono hb2
  have hbw := below_step hbwA hb2
  have p1 := (hb2.block _ (lt_heap p1A)).trans p1A
  have p2 := (hb2.block _ (lt_heap p2A)).trans p2A
  have p3 := (hb2.block _ (lt_heap p3A)).trans p3A
  have p4 := (hb2.block _ (lt_heap p4A)).trans p4A
  have pn := Lib.hid ((hb2.block _ lpn).trans HPN.out)
  have HRW := Lib.hid hrow
  have hcn : (F.take k |>.map (Value.int .u8)).length = Nat.min z k := by
    rw [List.length_map, List.length_take, HFL.out]
    exact Nat.min_comm _ _
  have hfit : 0 + (F.take k |>.map (Value.int .u8)).length ≤ ((zeros k).map (Value.int .u8)).length := by
    rw [List.length_map, List.length_map, List.length_take, HFL.out]
    simp only [zeros, List.length_replicate]
    omega
  have HSP : splice ((zeros k).map (Value.int .u8)) 0 ((F.take k).map (Value.int .u8)) = (cutL F k).map (Value.int .u8) := by
    have hl := HFL.out
    unfold splice cutL
    rw [List.take_zero, List.nil_append, List.length_map, Nat.zero_add, List.map_append, List.length_take, hl]
    congr 1
    unfold zeros
    rw [← List.map_drop, List.drop_replicate]
    congr 2
    omega
  have HCN := Lib.hid hcn
  have HFT := Lib.hid hfit
  have HSPH := Lib.hid HSP
  have HTK : Hid (Row .u8 w2 (some ⟨g, 0, none⟩) (F.take k)) := Lib.hid (by have := row_drop hrow 0 k; simpa using this)
  have HCB := Lib.hid (cutL_byt HFB.out k)
  have HCL := Lib.hid (cutL_len F k)
  have HLN := Lib.hid (show w.heap.size ≤ kn by have := HLO.out; omega)
  have HWA := Lib.hid hbwA.size
  clear hcn hfit HSP hrow hsA hbwA p1A p2A p3A p4A a1 a20 a21 la1 la2 HB3 HPN
  generalize F.take k = FT at *
  go_wp2_with (with_reducible refine copy_grown rfl (.tmp 32) (.tmp 36) 32 32 rfl 5 Try.underlying32 hszI (some ⟨kn, 0, none⟩) (some ⟨g, 0, none⟩) k k z c rfl rfl kn 0 ((zeros k).map (Value.int .u8)) 5 pn.out (FT.map (Value.int .u8)) HCN.out (fun h => ⟨rfl, row_src HTK.out (by simpa using h)⟩) HFT.out (ints_one _ _) ?_)
  intro w3 HG3 hg3
  have hG3 := HG3.out
  rw [HSPH.out] at hG3
  have hr3 : Row .u8 w3 (some ⟨kn, 0, none⟩) (cutL F k) := row_of_block (k := .u8) (t := 5) hG3
  have hb3 : Below kn w2 w3 := grown_below hg3 (Nat.le_refl _) (by have := hb2.size; omega)
  have hkn4 := HLO.out
  have p1 := (hb3.block _ (by omega)).trans p1
  have p2 := (hb3.block _ (by omega)).trans p2
  have p3 := (hb3.block _ (by omega)).trans p3
  have p4 := (hb3.block _ (by omega)).trans p4
  have hbw := hbw.trans (hb3.mono HLN.out)
  have hs := HS0.out.mono hbw
  have c1 := cell_of_one p1
  have c20 := cell_of_block p2 0
  have c21 := cell_of_block p2 1
  simp at c20 c21
  have l1 := lt_heap p1
  have l2 := lt_heap p2
  clear HG3 hG3 hg3 hb2
  have HT := HTD.out w3 (some ⟨kn, 0, none⟩) k k (cutL F k) hs HCB.out HCL.out hk256 hr3 ⟨Nat.le_refl _, fun h => by cases h⟩
  have HG := HTG.out (cutL F k) HCB.out (by rw [HCL.out]; exact hk256)
  rw [← HR.out] at HT HG
  have HTH := Lib.hid HT
  clear HT hs hr3 HSPH
  go_wp2_with fail
  refine HTH.out.mono ?_
  rintro e w4 ⟨v, rfl, ho, hb4⟩
  obtain ⟨a1, cap1, hv1, hc1, hr1⟩ := ho.sto
  have hsz3 : w.heap.size + 4 ≤ w3.heap.size := by have := lt_heap p4; omega
  have p3 := (hb4.block _ (lt_heap p3)).trans p3
  have p4 := (hb4.block _ (lt_heap p4)).trans p4
  have hbw := below_step hbw hb4
  obtain ⟨N1, hN1⟩ : ∃ N, RD.1.length = N := ⟨_, rfl⟩
  rw [hN1] at hv1 hc1
  subst hv1
  have c3 := cell_of_one p3
  have f3 := free_of_one p3
  have c40 := cell_of_block p4 0
  have c41 := cell_of_block p4 1
  simp at c40 c41
  have f40 := free_of_block p4 0
  have f41 := free_of_block p4 1
  obtain ⟨s1, ⟨r1, z1⟩, e1⟩ := RD
  simp only at ho HG ⊢
  obtain ⟨z3, z4, zo, zb⟩ := put_results p3 p4 (by omega) (.slice a1 N1 cap1) r1 z1
  have v3 := cell_of_one z3
  have v40 := cell_of_block z4 0
  have v41 := cell_of_block z4 1
  simp at v40 v41
  have hOz := (zo _ _ _ _ _ _ ho HG (by omega) (by omega)).weaken (show w.heap.size ≤ w3.heap.size by omega)
  have hbz := zb _ _ hbw (by omega) (by omega)
  clear hN1 ho HTH HR
  go_wp2_with fail
  refine bodyPost_ret (v := .tuple #[.agg #[.slice a1 N1 cap1], .agg #[.int .i64 r1, .int .i64 z1], .int .i64 e1]) (by simp [results, Try.results12, go_sem, v3, v40, v41]) rfl ⟨_, rfl, hOz, hbz⟩

end Go.Proofs.Ytodogcokljmkmaa
