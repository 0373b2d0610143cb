/- file.Read. -/
import Derived.Test.YtfmgdjgedhnmeaaFileOver
namespace Go.Proofs.Ytfmgdjgedhnmeaa
open Go.RowKit
set_option linter.unusedVariables false

/-- what Read gives -/
def readR (s : List Blk) (key root z at_ k : Int) : List Int × Int :=
  if fileE s key root z ≠ 0 then ([], fileE s key root z) else if at_ < 0 ∨ k < 0 ∨ 256 < at_ ∨ 256 < k then ([], 3) else (((fileB s key root z).take (at_ + k).toNat).drop at_.toNat, 0)

theorem fileB_len {s : List Blk} {key root : Int} {z : Nat} (hok : fileE s key root z = 0) : (fileB s key root z).length = z := by
  obtain ⟨hk, -, hz256, hc, -⟩ := fileE_ok hok
  obtain ⟨hce, m, hm3, hm, hroot, -, -⟩ := checkT_ok hc
  obtain rfl : m = 3 := by omega
  unfold fileB
  rw [List.length_take, bytesTo_len (leaf_four (checkE_zero s hce).2.1 (by omega) hroot), Int.toNat_natCast]
  omega

theorem row_drop {k : IntKind} {w : World} {g : Nat} {xs : List Int} (h : Row k w (some ⟨g, 0, none⟩) xs) (q m : Nat) : Row k w (some ⟨g, q, none⟩) ((xs.take m).drop q) := by
  rcases Nat.eq_zero_or_pos xs.length with h0 | h0
  · exact .inl (by rw [List.eq_nil_of_length_eq_zero h0]; simp)
  · obtain ⟨b, o, he, hc⟩ := h.at 0 h0
    simp only [Option.some.injEq, Addr.mk.injEq, and_true] at he
    obtain ⟨rfl, rfl⟩ := he
    refine .inr ⟨g, q, rfl, fun i hi => ?_⟩
    have hi2 : q + i < xs.length := by rw [List.length_drop, List.length_take] at hi; omega
    have := hc (q + i) hi2
    rw [Nat.zero_add] at this
    rw [this]
    simp

/-- a slice that a call gives -/
def SlEnd (e : Ending) (w w' : World) (r : List Int × Int) : Prop :=
  ∃ ao' n' cap', e = .returned (.tuple #[.slice ao' n' cap', .int .i64 r.2]) ∧ r.1.length = n' ∧ Row .u8 w' ao' r.1 ∧ Capd ao' n' cap' ∧ Below w.heap.size w w'
theorem SlEnd.none (w w' : World) (x : Int) (hb : Below w.heap.size w w') : SlEnd (.returned (.tuple #[.slice none 0 0, .int .i64 x])) w w' ([], x) := ⟨Option.none, 0, 0, rfl, rfl, .inl rfl, ⟨Nat.le_refl _, fun _ => rfl⟩, hb⟩

set_option maxRecDepth 100000 in
set_option maxHeartbeats 8000000 in
theorem read_any (w : World) (ao : Option Addr) (n cap : Nat) (s : List Blk) (key root size at_ k : Int) (hn : s.length = n) (hn63 : n ≤ 1152921504606846976) (hs : StoRow w ao s) (hwf : WfS s) (hz : I64 size) (hc : Capd ao n cap) :
    Calls Try.prog 12 #[.agg #[.slice ao n cap], .int .i64 key, .agg #[.int .i64 root, .int .i64 size], .int .i64 at_, .int .i64 k] w fun e w' => SlEnd e w w' (readR s key root size at_ k) := by
  have HN := Lib.hid hn
  have hb0 : Below w.heap.size w ((w.alloc (.cells #[.slice ao n cap] 24)).alloc (.cells #[.int .i64 root, .int .i64 size] 35)) := ((Below.refl _ _).alloc (Nat.le_refl _) _).alloc (by simp) _
  have p0 : ((w.alloc (.cells #[.slice ao n cap] 24)).alloc (.cells #[.int .i64 root, .int .i64 size] 35)).heap[w.heap.size]? = some (.cells #[.slice ao n cap] 24 (0, 0)) := heap_alloc2_old _ _ _
  have p1 : ((w.alloc (.cells #[.slice ao n cap] 24)).alloc (.cells #[.int .i64 root, .int .i64 size] 35)).heap[w.heap.size + 1]? = some (.cells #[.int .i64 root, .int .i64 size] 35 (0, 0)) := heap_alloc2_new _ _ _
  clear hn
  obtain ⟨RD, hRD⟩ : ∃ RD, readR s key root size at_ k = RD := ⟨_, rfl⟩
  rw [hRD]
  have HRD := Lib.hid hRD
  clear hRD
  go_enter Try.func12, Try.ntmps12
  go_wp2_with fail
  generalize (w.alloc (.cells #[.slice ao n cap] 24)).alloc (.cells #[.int .i64 root, .int .i64 size] 35) = W0 at *
  have hs := hs.mono hb0
  refine (fileCheck_any _ _ _ _ s key root size HN.out hn63 hs hwf hz).mono ?_
  rintro e w1 ⟨rfl, hb1⟩
  have p0 := (hb1.block _ (lt_heap p0)).trans p0
  have p1 := (hb1.block _ (lt_heap p1)).trans p1
  have hs := hs.mono hb1
  have hbw := below_step hb0 hb1
  have c0 := cell_of_one p0
  have c10 := cell_of_block p1 0
  have c11 := cell_of_block p1 1
  simp at c10 c11
  have l0 := lt_heap p0
  have l1 := lt_heap p1
  by_cases hce : fileE s key root size = 0
  rotate_left
  · have HR : Hid (RD = ([], fileE s key root size)) := Lib.hid (by rw [← HRD.out]; unfold readR; rw [if_pos hce])
    have he1 : (fileE s key root size != 0) = true := by rw [bne_iff_ne]; exact hce
    generalize fileE s key root size = ce at *
    clear hs hce hb1 HRD
    go_wp2
    refine bodyPost_ret (v := .tuple #[.slice none 0 0, .int .i64 ce]) (by simp [results, Try.results12, go_sem]) rfl ?_
    rw [HR.out]
    exact SlEnd.none _ _ _ hbw
  obtain ⟨-, hz0, hz1, -, -⟩ := fileE_ok hce
  obtain ⟨z, rfl⟩ : ∃ z : Nat, size = z := ⟨size.toNat, by omega⟩
  have hFL := fileB_len hce
  have HB2 := Lib.hid (fun (u : World) (h : StoRow u ao s) => fileBytes_any u ao n cap s key root z HN.out hn63 h hwf hce)
  by_cases h1 : at_ < 0 ∨ k < 0 ∨ 256 < at_ ∨ 256 < k
  · have HR : Hid (RD = ([], 3)) := Lib.hid (by rw [← HRD.out]; unfold readR; rw [if_neg (fun h => h hce), if_pos h1])
    rw [hce]
    clear hs hb1 HRD HB2 hce hFL
    have key4 : ∀ (a b c d : Bool), a = decide (at_ < 0) → b = decide (k < 0) → c = decide (256 < at_) → d = decide (256 < k) → (a || b || c || d) = true := by
      intro a b c d ha hb hc hd
      subst ha hb hc hd
      simp only [Bool.or_eq_true, decide_eq_true_eq]
      omega
    by_cases e1 : at_ < 0 <;> by_cases e2 : k < 0 <;> by_cases e3 : 256 < at_ <;> by_cases e4 : 256 < k
    all_goals try (exfalso; omega)
    all_goals
      clear key4 h1
      go_wp2
      refine bodyPost_ret (v := .tuple #[.slice none 0 0, .int .i64 3]) (by simp [results, Try.results12, go_sem]) rfl ?_
      rw [HR.out]
      exact SlEnd.none _ _ _ hbw
  obtain ⟨q, rfl⟩ : ∃ q : Nat, at_ = q := ⟨at_.toNat, by omega⟩
  obtain ⟨l, rfl⟩ : ∃ l : Nat, k = l := ⟨k.toNat, by omega⟩
  have HR : Hid (RD = (((fileB s key root z).take (q + l)).drop q, 0)) := Lib.hid (by rw [← HRD.out]; unfold readR; rw [if_neg (fun h => h hce), if_neg h1]; rfl)
  rw [hce]
  generalize fileB s key root z = F at *
  have HFL := Lib.hid hFL
  have e1 : ¬ ((q : Int) < 0) := by omega
  have e2 : ¬ ((l : Int) < 0) := by omega
  have e3 : ¬ ((256 : Int) < q) := by omega
  have e4 : ¬ ((256 : Int) < l) := by omega
  clear h1 HRD hce hFL hb1
  go_wp2_with fail
  refine (HB2.out w1 hs).mono ?_
  rintro e w2 ⟨g, c, rfl, hzc, hg1, hg2, hrow, hb2⟩
  simp only [Int.toNat_natCast] at hzc ⊢
  rcases (show (q < z ∧ q + l < z) ∨ (q < z ∧ q + l = z) ∨ (q < z ∧ z < q + l) ∨ (q = z ∧ l = 0) ∨ (q = z ∧ 0 < l) ∨ z < q from by omega) with ⟨h1, h2⟩ | ⟨h1, h2⟩ | ⟨h1, h2⟩ | ⟨h1, h2⟩ | ⟨h1, h2⟩ | h1
  · have i0 : (q : Int) < z := by omega
    have i1 : (q : Int) + l < z := by omega
    have i2 : ¬ ((z : Int) < q) := by omega
    have i3 : ¬ ((z : Int) < (q : Int) + l) := by omega
    have i4 : (q : Int) ≤ (q : Int) + l := by omega
    have i5 : (q : Int) + l ≤ c := by omega
    have i6 : ¬ c = q := by omega
    go_wp2_with fail
    refine (clone_bytes_n _ _ _ ((F.take (q + l)).drop q) _ (by rw [List.length_drop, List.length_take, HFL.out]; omega) (row_drop hrow q (q + l)) (fun h => by cases h) (by omega)).mono ?_
    rintro e w3 ⟨v, rfl, ho, -, hb3⟩
    obtain ⟨ao2, cap2, hv2, hr2, hc2⟩ := own_cap ho
    obtain ⟨N, hN⟩ : ∃ N, ((F.take (q + l)).drop q).length = N := ⟨_, rfl⟩
    rw [hN] at hv2 hc2
    subst hv2
    have HN2 := Lib.hid hN
    have hb4 := (hbw.trans (hb2.mono (by have := hbw.size; omega))).trans (hb3.mono (by have := hbw.size; have := hb2.size; omega))
    clear hN ho
    go_wp2_with fail
    refine bodyPost_ret (v := .tuple #[.slice ao2 N cap2, .int .i64 0]) (by simp [results, Try.results12, go_sem]) rfl ?_
    rw [HR.out]
    exact ⟨ao2, N, cap2, rfl, HN2.out, hr2, hc2, hb4⟩
  · have i0 : (q : Int) < z := by omega
    have i1 : ¬ ((q : Int) + l < z) := by omega
    have i2 : ¬ ((z : Int) < q) := by omega
    have i3 : ¬ ((z : Int) < (q : Int) + l) := by omega
    have i4 : ¬ c = q := by omega
    go_wp2_with fail
    refine (clone_bytes_n _ _ _ ((F.take (q + l)).drop q) _ (by rw [List.length_drop, List.length_take, HFL.out]; omega) (row_drop hrow q (q + l)) (fun h => by cases h) (by omega)).mono ?_
    rintro e w3 ⟨v, rfl, ho, -, hb3⟩
    obtain ⟨ao2, cap2, hv2, hr2, hc2⟩ := own_cap ho
    obtain ⟨N, hN⟩ : ∃ N, ((F.take (q + l)).drop q).length = N := ⟨_, rfl⟩
    rw [hN] at hv2 hc2
    subst hv2
    have HN2 := Lib.hid hN
    have hb4 := (hbw.trans (hb2.mono (by have := hbw.size; omega))).trans (hb3.mono (by have := hbw.size; have := hb2.size; omega))
    clear hN ho
    go_wp2_with fail
    refine bodyPost_ret (v := .tuple #[.slice ao2 N cap2, .int .i64 0]) (by simp [results, Try.results12, go_sem]) rfl ?_
    rw [HR.out]
    exact ⟨ao2, N, cap2, rfl, HN2.out, hr2, hc2, hb4⟩
  · have i0 : (q : Int) < z := by omega
    have i1 : ¬ ((q : Int) + l < z) := by omega
    have i2 : ¬ ((z : Int) < q) := by omega
    have i3 : ((z : Int) < (q : Int) + l) := by omega
    have i4 : ¬ c = q := by omega
    go_wp2_with fail
    refine (clone_bytes_n _ _ _ ((F.take (q + l)).drop q) _ (by rw [List.length_drop, List.length_take, HFL.out]; omega) (row_drop hrow q (q + l)) (fun h => by cases h) (by omega)).mono ?_
    rintro e w3 ⟨v, rfl, ho, -, hb3⟩
    obtain ⟨ao2, cap2, hv2, hr2, hc2⟩ := own_cap ho
    obtain ⟨N, hN⟩ : ∃ N, ((F.take (q + l)).drop q).length = N := ⟨_, rfl⟩
    rw [hN] at hv2 hc2
    subst hv2
    have HN2 := Lib.hid hN
    have hb4 := (hbw.trans (hb2.mono (by have := hbw.size; omega))).trans (hb3.mono (by have := hbw.size; have := hb2.size; omega))
    clear hN ho
    go_wp2_with fail
    refine bodyPost_ret (v := .tuple #[.slice ao2 N cap2, .int .i64 0]) (by simp [results, Try.results12, go_sem]) rfl ?_
    rw [HR.out]
    exact ⟨ao2, N, cap2, rfl, HN2.out, hr2, hc2, hb4⟩
  · subst h1
    subst h2
    have i0 : ¬ ((q : Int) < q) := by omega
    by_cases hcz : c = q
    all_goals
      go_wp2_with fail
      refine (clone_bytes_n _ _ _ ((F.take (q + 0)).drop q) _ (by rw [List.length_drop, List.length_take, HFL.out]; omega) (.inl (List.eq_nil_of_length_eq_zero (by rw [List.length_drop, List.length_take, HFL.out]; omega))) (fun h => by cases h) (by omega)).mono ?_
      rintro e w3 ⟨v, rfl, ho, -, hb3⟩
      obtain ⟨ao2, cap2, hv2, hr2, hc2⟩ := own_cap ho
      obtain ⟨N, hN⟩ : ∃ N, ((F.take (q + 0)).drop q).length = N := ⟨_, rfl⟩
      rw [hN] at hv2 hc2
      subst hv2
      have HN2 := Lib.hid hN
      have hb4 := (hbw.trans (hb2.mono (by have := hbw.size; omega))).trans (hb3.mono (by have := hbw.size; have := hb2.size; omega))
      clear hN ho
      go_wp2_with fail
      refine bodyPost_ret (v := .tuple #[.slice ao2 N cap2, .int .i64 0]) (by simp [results, Try.results12, go_sem]) rfl ?_
      rw [HR.out]
      exact ⟨ao2, N, cap2, rfl, HN2.out, hr2, hc2, hb4⟩
  · subst h1
    have i0 : ¬ ((q : Int) < q) := by omega
    have i1 : ¬ ((q : Int) + l < q) := by omega
    have i2 : (q : Int) < (q : Int) + l := by omega
    by_cases hcz : c = q
    all_goals
      go_wp2_with fail
      refine (clone_bytes_n _ _ _ ((F.take (q + l)).drop q) _ (by rw [List.length_drop, List.length_take, HFL.out]; omega) (.inl (List.eq_nil_of_length_eq_zero (by rw [List.length_drop, List.length_take, HFL.out]; omega))) (fun h => by cases h) (by omega)).mono ?_
      rintro e w3 ⟨v, rfl, ho, -, hb3⟩
      obtain ⟨ao2, cap2, hv2, hr2, hc2⟩ := own_cap ho
      obtain ⟨N, hN⟩ : ∃ N, ((F.take (q + l)).drop q).length = N := ⟨_, rfl⟩
      rw [hN] at hv2 hc2
      subst hv2
      have HN2 := Lib.hid hN
      have hb4 := (hbw.trans (hb2.mono (by have := hbw.size; omega))).trans (hb3.mono (by have := hbw.size; have := hb2.size; omega))
      clear hN ho
      go_wp2_with fail
      refine bodyPost_ret (v := .tuple #[.slice ao2 N cap2, .int .i64 0]) (by simp [results, Try.results12, go_sem]) rfl ?_
      rw [HR.out]
      exact ⟨ao2, N, cap2, rfl, HN2.out, hr2, hc2, hb4⟩
  · skip
    have i0 : ¬ ((q : Int) < z) := by omega
    have i1 : ¬ ((q : Int) + l < z) := by omega
    have i2 : ((z : Int) < q) := by omega
    have i3 : ((z : Int) < (q : Int) + l) := by omega
    by_cases hcz : c = z
    all_goals
      go_wp2_with fail
      refine (clone_bytes_n _ _ _ ((F.take (q + l)).drop q) _ (by rw [List.length_drop, List.length_take, HFL.out]; omega) (.inl (List.eq_nil_of_length_eq_zero (by rw [List.length_drop, List.length_take, HFL.out]; omega))) (fun h => by cases h) (by omega)).mono ?_
      rintro e w3 ⟨v, rfl, ho, -, hb3⟩
      obtain ⟨ao2, cap2, hv2, hr2, hc2⟩ := own_cap ho
      obtain ⟨N, hN⟩ : ∃ N, ((F.take (q + l)).drop q).length = N := ⟨_, rfl⟩
      rw [hN] at hv2 hc2
      subst hv2
      have HN2 := Lib.hid hN
      have hb4 := (hbw.trans (hb2.mono (by have := hbw.size; omega))).trans (hb3.mono (by have := hbw.size; have := hb2.size; omega))
      clear hN ho
      go_wp2_with fail
      refine bodyPost_ret (v := .tuple #[.slice ao2 N cap2, .int .i64 0]) (by simp [results, Try.results12, go_sem]) rfl ?_
      rw [HR.out]
      exact ⟨ao2, N, cap2, rfl, HN2.out, hr2, hc2, hb4⟩
end Go.Proofs.Ytfmgdjgedhnmeaa

namespace Go.Proofs.Ytfmgdjgedhnmeaa
open Go.RowKit
set_option linter.unusedVariables false

/-- so many bytes: the first, noughts behind -/
def cutL (b : List Int) (k : Nat) : List Int := b.take k ++ zeros (k - b.length)
theorem fileB_byt (s : List Blk) (key root z : Int) : Byt (fileB s key root z) := by
  intro x hx
  have hx := List.mem_of_mem_take hx
  unfold bytesTo at hx
  rw [List.mem_flatMap] at hx
  obtain ⟨i, -, hx⟩ := hx
  unfold leafBytes at hx
  split at hx
  · simp at hx; omega
  · exact sealed_byt _ _ _ _ x hx
theorem cutL_len (b : List Int) (k : Nat) : (cutL b k).length = k := by simp [cutL, zeros]; omega
theorem cutL_byt {b : List Int} (h : Byt b) (k : Nat) : Byt (cutL b k) := by
  intro x hx
  rcases List.mem_append.1 hx with h1 | h1
  · exact h x (List.mem_of_mem_take h1)
  · have := (List.mem_replicate.1 h1).2
    omega
theorem overR_len {b more : List Int} {at_ : Int} (h : (overR b at_ more).2 = 0) (hb : b.length ≤ 256) : (overR b at_ more).1.length ≤ 256 := by
  unfold overR at h ⊢
  split at h
  · simp at h
  · split at h
    · simp at h
    · rename_i h1 h2
      rw [if_neg h1, if_neg h2, overL_len]
      split <;> omega
theorem overR_byt {b more : List Int} {at_ : Int} (hb : Byt b) (hm : Byt more) : Byt (overR b at_ more).1 := by
  unfold overR
  split
  · intro x hx; cases hx
  · split
    · intro x hx; cases hx
    · exact overL_byt hb hm _

end Go.Proofs.Ytfmgdjgedhnmeaa
