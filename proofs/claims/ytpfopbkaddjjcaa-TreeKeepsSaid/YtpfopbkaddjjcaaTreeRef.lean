/- rookeryref.CheckRoot: the same as tree.check. slices.Max of four. -/
import Derived.Test.YtpfopbkaddjjcaaTreeGet
namespace Go.Proofs.Ytpfopbkaddjjcaa
open Go.RowKit
set_option linter.unusedVariables false

theorem power_any (w : World) (l : Int) (h0 : 0 ≤ l) (h3 : l ≤ 3) : Calls Try.prog 84 #[.int .i64 l] w fun e w' => e = .returned (.int .i64 (p4 l.toNat)) ∧ w' = w := by
  rcases (show l = 0 ∨ l = 1 ∨ l = 2 ∨ l = 3 from by omega) with rfl | rfl | rfl | rfl
  all_goals
    go_enter Try.func84, Try.ntmps84
    go_wp2
    go_ret
    exact ⟨rfl, rfl⟩

set_option maxRecDepth 100000 in
set_option maxHeartbeats 4000000 in
theorem checkRoot_any (w : World) (ao : Option Addr) (n cap : Nat) (s : List Blk) (root l i : Int) (hn : s.length = n) (hn63 : n ≤ 1152921504606846976) (hs : StoRow w ao s) (hwf : WfS s) :
    Calls Try.prog 51 #[.agg #[.slice ao n cap], .int .i64 root, .int .i64 l, .int .i64 i] w fun e w' => e = .returned (.int .i64 (checkT s root l i)) ∧ Below w.heap.size w w' := by
  have HN := Lib.hid hn
  have hb0 : Below w.heap.size w (w.alloc (.cells #[.slice ao n cap] 40)) := (Below.refl _ _).alloc (Nat.le_refl _) _
  have p4 : (w.alloc (.cells #[.slice ao n cap] 40)).heap[w.heap.size]? = some (.cells #[.slice ao n cap] 40 (0, 0)) := heap_alloc_new _ _
  clear hn
  go_enter Try.func51, Try.ntmps51
  go_wp2_with fail
  have hs := hs.mono hb0
  generalize w.alloc (Obj.cells #[Value.slice ao n cap] 40) = W0 at *
  refine (checkStore_any _ _ _ _ s HN.out hn63 hs hwf).mono ?_
  rintro e w1 ⟨rfl, hb1⟩
  replace p4 := (hb1.block _ (lt_heap p4)).trans p4
  have hbw := below_step hb0 hb1
  replace hs := hs.mono hb1
  by_cases hce : checkE s = 0
  rotate_left
  · have HR := Lib.hid (show checkT s root l i = checkE s by unfold checkT; rw [if_pos hce])
    have he1 : (checkE s != 0) = true := by rw [bne_iff_ne]; exact hce
    generalize hcc : checkE s = ce at *
    replace hcc := Lib.hid hcc
    clear hce hs
    go_wp2
    go_ret
    exact ⟨by rw [HR.out]; rfl, hbw⟩
  have he1 : (checkE s != 0) = false := by rw [hce]; rfl
  have he0 : (checkE s == 0) = true := by rw [hce]; rfl
  have h400 : n ≤ 400 := by have := (checkE_zero s hce).1; have := HN.out; omega
  have hri := (checkE_zero s hce).2.2.2.1
  have HCE := Lib.hid hce
  clear hce
  by_cases hlv : l < 0 ∨ 3 < l
  · have HR := Lib.hid (show checkT s root l i = 3 by unfold checkT; rw [if_neg (by simp [HCE.out]), if_pos hlv])
    by_cases hl0 : l < 0
    · clear hlv hs hri
      go_wp2
      go_ret
      exact ⟨by rw [HR.out]; rfl, hbw⟩
    · have hl3 : 3 < l := by omega
      clear hlv hs hri
      go_wp2
      go_ret
      exact ⟨by rw [HR.out]; rfl, hbw⟩
  have hl0 : ¬ l < 0 := by omega
  have hl3 : ¬ 3 < l := by omega
  have c4 := cell_of_one p4
  have l4 := lt_heap p4
  have hq := p4_pos l.toNat
  have hpw : ∀ u, Calls Try.prog 84 #[.int .i64 l] u fun e w' => e = .returned (.int .i64 (Go.Proofs.Ytpfopbkaddjjcaa.p4 l.toNat)) ∧ w' = u := fun u => power_any u l (by omega) (by omega)
  have HPW := Lib.hid hpw
  clear hpw
  have HLV := Lib.hid hlv
  clear hlv
  have tailR : ∀ (hroot : root = 0 ∨ (thereB s root = true ∧ (blk s root).level = l)), checkT s root l i = if i < 0 ∨ Go.Proofs.Ytpfopbkaddjjcaa.p4 l.toNat ≤ i then 3 else 0 := by
    intro hroot
    unfold checkT
    rw [if_neg (by simp [HCE.out]), if_neg HLV.out, if_neg, if_neg]
    · rintro ⟨h1, h2⟩
      rcases hroot with h | ⟨_, h⟩
      · exact h1 h
      · exact h2 h
    · rintro ⟨h1, h2⟩
      rcases hroot with h | ⟨h, _⟩
      · exact h1 h
      · rw [h] at h2; cases h2
  have HT := Lib.hid tailR
  clear tailR
  by_cases hr0 : root = 0
  · subst hr0
    have HR := Lib.hid (HT.out (.inl rfl))
    clear HT hs hri
    generalize Go.Proofs.Ytpfopbkaddjjcaa.p4 l.toNat = q at *
    by_cases hi1 : i < 0
    · go_wp2
      go_ret
      exact ⟨by rw [HR.out, if_pos (by omega)]; rfl, hbw⟩
    · by_cases hi2 : q ≤ i
      · go_wp2_with fail
        refine (HPW.out _).mono ?_
        rintro e w7 ⟨rfl, rfl⟩
        go_wp2
        go_ret
        exact ⟨by rw [HR.out, if_pos (by omega)]; rfl, hbw⟩
      · go_wp2_with fail
        refine (HPW.out _).mono ?_
        rintro e w7 ⟨rfl, rfl⟩
        go_wp2
        go_ret
        exact ⟨by rw [HR.out, if_neg (by omega)]; rfl, hbw⟩
  · have hr1 : (root != 0) = true := by rw [bne_iff_ne]; exact hr0
    have H5 : thereB s root = false → Hid (checkT s root l i = 5) := fun h => Lib.hid (by unfold checkT; rw [if_neg (by simp [HCE.out]), if_neg HLV.out, if_pos ⟨hr0, h⟩])
    cases ht : thereB s root with
    | false =>
      have HR := H5 ht
      clear H5 HT hri
      go_wp2_with fail
      refine (ref_there_is _ _ _ _ s root false ht HN.out hn63 hs).mono ?_
      rintro e w3 ⟨rfl, hb3⟩
      have hbw := below_step hbw hb3
      clear hs
      go_wp2
      go_ret
      exact ⟨by rw [HR.out]; rfl, hbw⟩
    | true =>
      go_wp2_with fail
      refine (ref_there_is _ _ _ _ s root true ht HN.out hn63 hs).mono ?_
      rintro e w3 ⟨rfl, hb3⟩
      replace hbw := below_step hbw hb3
      replace hs := hs.mono hb3
      replace p4 := (hb3.block _ (lt_heap p4)).trans p4
      replace c4 := cell_of_one p4
      replace l4 := lt_heap p4
      obtain ⟨j, hj, rfl, -⟩ := there_in ht
      have hjn : (j : Int) < n := by have := HN.out; omega
      obtain ⟨sb, so, rfl, hsB⟩ := hs.at j hj
      have hB := hsB j hj
      have x0 := hB.refs
      have x1 := hB.level
      have lB := hB.lt
      have hbj := blk_at s j hj
      rw [hbj] at HT
      have H4 : s[j].level ≠ l → Hid (checkT s ((j : Int) + 1) l i = 4) := fun h2 => Lib.hid (by
        unfold checkT
        rw [if_neg (by simp [HCE.out]), if_neg HLV.out, if_neg (by rw [ht]; simp), if_pos ⟨hr0, by rw [hbj]; exact h2⟩])
      have HT2 : s[j].level = l → Hid (checkT s ((j : Int) + 1) l i = if i < 0 ∨ Go.Proofs.Ytpfopbkaddjjcaa.p4 l.toNat ≤ i then 3 else 0) := fun h2 => Lib.hid (HT.out (.inr ⟨ht, h2⟩))
      clear hsB hB hbj hs hri HT H5 ht
      generalize s[j] = x at *
      obtain ⟨rr, lv, kk, bb⟩ := x
      simp only at *
      by_cases hl : lv = l
      · have hl1 : (lv != l) = false := by rw [hl]; simp
        have HR := HT2 hl
        clear H4 HT2 hl
        generalize Go.Proofs.Ytpfopbkaddjjcaa.p4 l.toNat = q at *
        by_cases hi1 : i < 0
        · go_wp2
          go_ret
          exact ⟨by rw [HR.out, if_pos (by omega)]; rfl, hbw⟩
        · by_cases hi2 : q ≤ i
          · go_wp2_with fail
            refine (HPW.out _).mono ?_
            rintro e w7 ⟨rfl, rfl⟩
            go_wp2
            go_ret
            exact ⟨by rw [HR.out, if_pos (by omega)]; rfl, hbw⟩
          · go_wp2_with fail
            refine (HPW.out _).mono ?_
            rintro e w7 ⟨rfl, rfl⟩
            go_wp2
            go_ret
            exact ⟨by rw [HR.out, if_neg (by omega)]; rfl, hbw⟩
      · have hl1 : (lv != l) = true := by rw [bne_iff_ne]; exact hl
        have HR := H4 hl
        clear H4 HT2 hl
        go_wp2
        go_ret
        exact ⟨by rw [HR.out]; rfl, hbw⟩
end Go.Proofs.Ytpfopbkaddjjcaa
