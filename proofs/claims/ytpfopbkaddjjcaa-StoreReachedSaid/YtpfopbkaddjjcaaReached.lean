/- rookerylaw.StoreReached: the walk. -/
import Derived.Test.YtpfopbkaddjjcaaReach
import Derived.Test.YtpfopbkaddjjcaaBackQ
import Derived.Test.YtpfopbkaddjjcaaLists
import Derived.Test.YtpfopbkaddjjcaaStored
import Derived.Deep.DeepCutAuto
import Derived.Deep.RegionHeld3
import Derived.StillTailTactics
namespace Go.Proofs.Ytpfopbkaddjjcaa
open Go.RowKit
set_option linter.unusedVariables false

theorem Own.keepUp {k : IntKind} {e base : Nat} {w w' : World} {v : Value} {xs : List Int} (h : Own k e base w v xs) (hk : ∀ q, base ≤ q → w'.heap[q]? = w.heap[q]?) : Own k e base w' v xs := by
  obtain ⟨h1, h2⟩ := h
  refine ⟨h1, ?_⟩
  rcases h2 with h2 | ⟨g, cap, cur, hv, hg, hh, r⟩
  · exact .inl h2
  · exact .inr ⟨g, cap, cur, hv, hg, by rw [hk g hg]; exact hh, r⟩

/-- a list that was told, in a box -/
def ToldBox (B : Nat) (W0 : World) (e : Int) (xs : List Int) (u v : Value) (wx : World) : Prop :=
  ∃ bx x, u = .pointer (some ⟨bx, 0, none⟩) ∧ v = .int .i64 e ∧ wx.heap[bx]? = some (.cells #[x] 24 (0, 0)) ∧ Own .i64 3 B wx x xs ∧ Below B W0 wx
theorem ToldBox.drew {B : Nat} {W0 : World} {e : Int} {xs : List Int} {u v : Value} {wx : World} (h : ToldBox B W0 e xs u v wx) : ToldBox B W0 e xs u v wx.drew := by
  obtain ⟨bx, x, h1, h2, h3, h4, h5⟩ := h
  exact ⟨bx, x, h1, h2, h3, h4, h5.drew⟩
theorem ToldBox.fresh {B B5 : Nat} {W0 w5 : World} {e : Int} {xs : List Int} {x : Value} (b5 : Below B W0 w5) (ho : Own .i64 3 B5 w5 x xs) (hB : B ≤ B5) (hz : B ≤ w5.heap.size) : ToldBox B W0 e xs (.pointer (some ⟨w5.heap.size, 0, none⟩)) (.int .i64 e) (w5.alloc (.cells #[x] 24)) := by
  have hb : Below w5.heap.size w5 (w5.alloc (.cells #[x] 24)) := (Below.refl _ _).alloc (Nat.le_refl _) _
  exact ⟨_, x, rfl, rfl, heap_alloc_new _ _, (ho.mono hb).weaken hB, b5.alloc hz _⟩
theorem ToldBox.old {B B5 b : Nat} {W0 w5 : World} {e : Int} {xs : List Int} {x : Value} (b5 : Below B W0 w5) (ho : Own .i64 3 B5 w5 x xs) (hB : B ≤ B5) (hp : w5.heap[b]? = some (.cells #[.slice none 0 0] 24 (0, 0))) (h1 : B ≤ b) (h2 : b < B5) : ToldBox B W0 e xs (.pointer (some ⟨b, 0, none⟩)) (.int .i64 e) (w5.setCell ⟨b, 0, none⟩ x) :=
  ⟨b, x, rfl, rfl, one_setCell hp, (ho.keepUp fun q hq => Below.heap_setCell _ _ _ _ (show q ≠ b by omega)).weaken hB, b5.setCell h1 x⟩

set_option maxRecDepth 100000 in
set_option maxHeartbeats 2000000 in
theorem law_reached_bad (w : World) (ao ro mo : Option Addr) (n cap rn rc mn mc : Nat) (s : List Blk) (hn : s.length = n) (h41 : n ≤ 2199023255552) (hs : StoRow w ao s) (hwf : WfS s) (hce : checkE s ≠ 0) :
    Calls Try.prog 10 #[.agg #[.slice ao n cap], .slice ro rn rc, .slice mo mn mc] w fun e w' => e = .returned (.bool true) ∧ Below w.heap.size w w' := by
  have HN := Lib.hid hn
  have he1 : (checkE s != 0) = true := by rw [bne_iff_ne]; exact hce
  have HCE := Lib.hid hce
  clear hn hce
  have hb0 : Below w.heap.size w (w.alloc (.cells #[.slice ao n cap] 40)) := (Below.refl _ _).alloc (Nat.le_refl _) _
  go_enter Try.func10, Try.ntmps10
  go_wp2_with fail
  refine (outside_bad _ _ _ _ s HN.out (by omega) (hs.mono hb0) hwf HCE.out).mono ?_
  rintro e w1 ⟨rfl, hb1⟩
  have hbw := below_step hb0 hb1
  go_wp2_with fail
  refine (stored_any w1).mono ?_
  rintro e w2 ⟨rfl, hb2⟩
  have hbw := below_step hbw hb2
  go_wp2_with fail
  refine (stored_any w2).mono ?_
  rintro e w3 ⟨rfl, hb3⟩
  have hbw := below_step hbw hb3
  go_wp2
  go_ret
  exact ⟨rfl, hbw⟩

set_option maxRecDepth 100000 in
set_option maxHeartbeats 8000000 in
theorem law_reached_ok (w : World) (ao ro mo : Option Addr) (n cap rn rc mn mc : Nat) (s : List Blk) (R M : List Int) (hn : s.length = n) (h41 : n ≤ 2199023255552) (hs : StoRow w ao s) (hwf : WfS s)
    (hrn : R.length = rn) (hmn : M.length = mn) (hrn44 : rn ≤ 17592186044416) (hmn44 : mn ≤ 17592186044416) (hrr : Row .i64 w ro R) (hmr : Row .i64 w mo M) (hrc : Capd ro rn rc) (hmc : Capd mo mn mc) (hrI : ∀ k ∈ R, I64 k) (hmI : ∀ k ∈ M, I64 k) (hce : checkE s = 0) :
    Calls Try.prog 10 #[.agg #[.slice ao n cap], .slice ro rn rc, .slice mo mn mc] w fun e w' => e = .returned (.bool true) ∧ Below w.heap.size w w' := by
  have HN := Lib.hid hn
  have HR := Lib.hid hrn
  have HM := Lib.hid hmn
  have he1 : (checkE s != 0) = false := by rw [hce]; rfl
  have h400 : n ≤ 400 := by have := (checkE_zero s hce).1; omega
  have hn63 : n ≤ 1152921504606846976 := by omega
  have HCE := Lib.hid hce
  have hs0 := hs
  clear hn hrn hmn hce hs
  have hbw : Below w.heap.size w (w.alloc (.cells #[.slice ao n cap] 40)) := (Below.refl _ _).alloc (Nat.le_refl _) _
  have p3 : (w.alloc (.cells #[.slice ao n cap] 40)).heap[w.heap.size]? = some (.cells #[.slice ao n cap] 40 (0, 0)) := heap_alloc_new _ _
  go_enter Try.func10, Try.ntmps10
  go_wp2_with fail
  generalize w.alloc (Obj.cells #[Value.slice ao n cap] 40) = W0 at *
  refine (outside_ok _ _ _ _ s HN.out (hs0.mono hbw) hwf HCE.out).mono ?_
  rintro e w1 ⟨qo, rfl, hown, hb1⟩
  replace p3 := (hb1.block _ (lt_heap p3)).trans p3
  replace hbw := below_step hbw hb1
  obtain ⟨q2, qc, hqv, _, _, hqr, _⟩ := hown.shape'
  simp only [Value.slice.injEq] at hqv
  obtain ⟨hq1, hq2, hq3⟩ := hqv
  subst hq1
  clear hq2 hq3 hown
  go_wp2_with fail
  refine (stored_any w1).mono ?_
  rintro e w2 ⟨rfl, hb2⟩
  replace p3 := (hb2.block _ (lt_heap p3)).trans p3
  replace hbw := below_step hbw hb2
  replace hqr := hqr.mono hb2
  go_wp2_with fail
  go_loopw [9, 32] (fun v i wr => ∃ j : Nat, j ≤ n ∧ i = .int .i64 j ∧ Own .i64 3 w2.heap.size wr v (selTo (fun i => decide (0 < outA s i)) j) ∧ Below w2.heap.size w2 wr) (fun _ i _ => n - (intOf i).toNat)
  case atStart => exact ⟨0, Nat.zero_le _, rfl, Own.nil _ _ _ _, Below.refl _ _⟩
  case round =>
    obtain ⟨j, hj, rfl, hown, hbel⟩ := hrel
    by_cases hlt : j < n
    · have hjs : j < s.length := by have := HN.out; omega
      have hjo : j < (outL s).length := by rw [outL_length]; exact hjs
      have hoA := outA_eq s j hjs hjo
      obtain ⟨b, o, rfl, hq⟩ := hqr.at j hjo
      have hck := hq j hjo
      have lb := World.block_lt_of_cell? _ _ hck
      have hck := ((bcell hbel).1 _ _ lb).trans hck
      have lb := Nat.lt_of_lt_of_le lb hbel.size
      rw [hoA] at hck
      have hse := selTo_succ (fun i => decide (0 < outA s i)) j
      have hll := selTo_len (fun i => decide (0 < outA s i)) j
      have hsz := hbel.size
      have hjn : (j : Int) < n := by omega
      have HO := Lib.hid hown
      have HLL := Lib.hid hll
      clear hown hll
      by_cases h1 : 0 < outA s j
      · have hd1 : decide (0 < outA s j) = true := by simpa using h1
        have HSE : Hid (selTo (fun i => decide (0 < outA s i)) (j + 1) = selTo (fun i => decide (0 < outA s i)) j ++ [(j : Int) + 1]) := Lib.hid (by rw [hse, if_pos hd1])
        clear hse hq hqr hoA h1
        generalize outA s j = oj at hck hd1
        generalize selTo (fun i => decide (0 < outA s i)) j = L at *
        go_wp2_with (first
          | (at_builtin; refine append_int rfl (.tmp 39) (.tmp 42) _ rfl .i64 3 8 w2.heap.size Try.underlying24 info_int _ _ _ rfl HO.out _ rfl (by simp) ?_ ?_ hsz ?_; rotate_right; intro v' w4 hown4 hbel4))
        · go_roundw
          case rel => exact ⟨j + 1, by omega, by go_num, by rw [HSE.out]; exact hown4, hbel.trans hbel4⟩
          case measure => simp [intOf]; omega
        · have := HLL.out; unfold maxLen; omega
        · have := HLL.out; omega
      · have hd1 : decide (0 < outA s j) = false := by simpa using h1
        have HSE : Hid (selTo (fun i => decide (0 < outA s i)) (j + 1) = selTo (fun i => decide (0 < outA s i)) j) := Lib.hid (by rw [hse, if_neg (by simp only [hd1]; simp), List.append_nil])
        clear hse hq hqr hoA h1
        generalize outA s j = oj at hck hd1
        go_wp2
        go_roundw
        case rel => exact ⟨j + 1, by omega, by go_num, by rw [HSE.out]; exact HO.out, hbel⟩
        case measure => simp [intOf]; omega
    · obtain rfl : j = n := by omega
      have hrw : selTo (fun i => decide (0 < outA s i)) j = heldL s := by unfold heldL; rw [HN.out]
      rw [hrw] at hown
      clear hrw hqr
      generalize wr = w3 at *
      replace p3 := (hbel.block _ (lt_heap p3)).trans p3
      replace hbw := below_step hbw hbel
      have HHL : Hid ((heldL s).length ≤ 400) := Lib.hid (by have := HN.out; have := selTo_len (fun i => decide (0 < outA s i)) s.length; unfold heldL; omega)
      have hI : ∀ x ∈ heldL s, I64 x := by
        intro x hx
        obtain ⟨i, hi, _, rfl⟩ := (selTo_mem _ _ _).1 hx
        unfold I64
        have := HN.out
        omega
      obtain ⟨h2, hc2, rfl, _, _, hhr, _⟩ := hown.shape'
      clear hown
      have c3 := cell_of_one p3
      have l3 := lt_heap p3
      have hs := hs0.mono hbw
      go_wp2_with fail
      clear c3 l3
      have HT := reach_any w3 ao h2 j cap (heldL s).length hc2 s (heldL s) HN.out hn63 hs hwf rfl (by have := HHL.out; omega) hhr hI
      rw [show reachR s (heldL s) = (reachL s (heldL s), 0) from by unfold reachR; rw [if_neg (by simp [HCE.out]), if_neg (by simp [held_ok HCE.out])]] at HT
      refine HT.mono ?_
      rintro e w4 ⟨v4, rfl, hown, hb4⟩
      clear HT hs hhr hI
      replace p3 := (hb4.block _ (lt_heap p3)).trans p3
      replace hbw := below_step hbw hb4
      obtain ⟨l2, lc2, rfl, _, _, hlr, _⟩ := hown.shape'
      clear hown
      have c3 := cell_of_one p3
      have l3 := lt_heap p3
      have hs := hs0.mono hbw
      go_wp2_with fail
      clear c3 l3
      refine (used_ok _ _ _ _ s HN.out hs hwf HCE.out).mono ?_
      rintro e w5 ⟨rfl, hb5⟩
      clear hs hlr
      replace p3 := (hb5.block _ (lt_heap p3)).trans p3
      replace hbw := below_step hbw hb5
      have hlen : (((reachL s (heldL s)).length : Int) != usedN s) = false := by rw [held_used HCE.out]; simp
      have c3 := cell_of_one p3
      have l3 := lt_heap p3
      have hs := hs0.mono hbw
      go_wp2_with fail
      clear c3 l3 hlen
      refine (reach_any w5 ao ro j cap rn rc s R HN.out hn63 hs hwf HR.out (by omega) (hrr.mono hbw) hrI).mono ?_
      rintro e w6 ⟨v6, rfl, hown6, hb6⟩
      clear hs
      replace p3 := (hb6.block _ (lt_heap p3)).trans p3
      replace hbw := below_step hbw hb6
      obtain ⟨q6, hq6⟩ : ∃ q6, (reachR s R).1.length = q6 := ⟨_, rfl⟩
      obtain ⟨r6, rc6, hv6, _, _, hr6, _⟩ := hown6.shape'
      rw [hq6] at hv6
      subst hv6
      have HQ6 := Lib.hid hq6
      clear hown6 hq6
      have c3 := cell_of_one p3
      have l3 := lt_heap p3
      have hs := hs0.mono hbw
      go_upto_region 16 with fail
      clear c3 l3
      generalize w6 = W6 at *
      have hIx : ∀ k ∈ R ++ M, I64 k := fun k hk => (List.mem_append.1 hk).elim (hrI k) (hmI k)
      obtain ⟨q, hq⟩ : ∃ q, (R ++ M).length = q := ⟨_, rfl⟩
      have hxl : q ≤ 1152921504606846976 := by have := HR.out; have := HM.out; rw [← hq]; simp; omega
      have HQ := Lib.hid hq
      clear hq
      obtain ⟨q8, hq8⟩ : ∃ q8, (reachR s (R ++ M)).1.length = q8 := ⟨_, rfl⟩
      have HQ8 := Lib.hid hq8
      clear hq8
      go_cut [16, 14] (fun u v wx => ToldBox W6.heap.size W6 (reachR s (R ++ M)).2 (reachR s (R ++ M)).1 u v wx)
      case first =>
        have c3 := cell_of_one p3
        have l3 := lt_heap p3
        have hrr6 := hrr.mono hbw
        have hmr6 := hmr.mono hbw
        clear hr6
        have bA : Below W6.heap.size W6 (W6.alloc (.cells #[.slice ro rn rc, .slice mo mn mc] 24)).drew := ((Below.refl _ _).alloc (Nat.le_refl _) _).drew
        have bB : Below W6.heap.size W6 ((W6.alloc (.cells #[.slice none 0 0] 24)).alloc (.cells #[.slice ro rn rc, .slice mo mn mc] 24)).drew := (((Below.refl _ _).alloc (Nat.le_refl _) _).alloc (by simp) _).drew
        have bC : Below W6.heap.size W6 ((W6.alloc (.cells #[.slice ro rn rc, .slice mo mn mc] 24)).alloc (.cells #[.slice none 0 0] 24)).drew := (((Below.refl _ _).alloc (Nat.le_refl _) _).alloc (by simp) _).drew
        have gA : (W6.alloc (.cells #[.slice ro rn rc, .slice mo mn mc] 24)).drew.heap[W6.heap.size]? = some (.cells #[.slice ro rn rc, .slice mo mn mc] 24 (0, 0)) := heap_alloc_new W6 _
        have gB : ((W6.alloc (.cells #[.slice none 0 0] 24)).alloc (.cells #[.slice ro rn rc, .slice mo mn mc] 24)).drew.heap[W6.heap.size + 1]? = some (.cells #[.slice ro rn rc, .slice mo mn mc] 24 (0, 0)) := heap_alloc2_new W6 _ _
        have gC : ((W6.alloc (.cells #[.slice ro rn rc, .slice mo mn mc] 24)).alloc (.cells #[.slice none 0 0] 24)).drew.heap[W6.heap.size]? = some (.cells #[.slice ro rn rc, .slice mo mn mc] 24 (0, 0)) := heap_alloc2_old W6 _ _
        have yB : ((W6.alloc (.cells #[.slice none 0 0] 24)).alloc (.cells #[.slice ro rn rc, .slice mo mn mc] 24)).drew.heap[W6.heap.size]? = some (.cells #[.slice none 0 0] 24 (0, 0)) := heap_alloc2_old W6 _ _
        have yC : ((W6.alloc (.cells #[.slice ro rn rc, .slice mo mn mc] 24)).alloc (.cells #[.slice none 0 0] 24)).drew.heap[W6.heap.size + 1]? = some (.cells #[.slice none 0 0] 24 (0, 0)) := heap_alloc2_new W6 _ _
        have hs6 := hs
        have s0 : W6.drew.cell? ⟨w.heap.size, 0, none⟩ = some (.slice ao j cap) := c3
        have sA : ∀ o, (W6.alloc o).drew.cell? ⟨w.heap.size, 0, none⟩ = some (.slice ao j cap) := fun o => ((((Below.refl _ _).alloc (Nat.le_refl _) o).drew : Below W6.heap.size W6 _).cell (p := ⟨w.heap.size, 0, none⟩) l3).trans c3
        have sB : ∀ o o', ((W6.alloc o).alloc o').drew.cell? ⟨w.heap.size, 0, none⟩ = some (.slice ao j cap) := fun o o' => (((((Below.refl _ _).alloc (Nat.le_refl _) o).alloc (by simp) o').drew : Below W6.heap.size W6 _).cell (p := ⟨w.heap.size, 0, none⟩) l3).trans c3
        go_region_held3 (fun w' => w'.cell? ⟨w.heap.size, 0, none⟩ = some (.slice ao j cap)) (first
          | with_reducible exact s0
          | with_reducible exact sA _
          | with_reducible exact sB _ _
          | with_reducible exact c37
          | with_reducible exact t7 _
          | with_reducible exact c38
          | with_reducible exact t8 _
          | (rw [World.cell?_setCell_other _ _ _ _ (by intro h; simp only [Addr.mk.injEq] at h; omega)]; first | with_reducible exact c38 | with_reducible exact t8 _))
          (first
          | (go_at_call 45; refine (concat_two _ _ _ _ _ _ _ _ R M HR.out HM.out hrn44 hmn44 (hrr6.mono (by first | with_reducible exact bA | with_reducible exact bB | with_reducible exact bC)) (hmr6.mono (by first | with_reducible exact bA | with_reducible exact bB | with_reducible exact bC)) hrc hmc (by first | with_reducible exact gA | with_reducible exact gB | with_reducible exact gC)).mono ?_; rintro e w7 ⟨v7, rfl, hown7, hb7⟩; have b7 : Below W6.heap.size W6 w7 := (by first | with_reducible exact below_step bA hb7 | with_reducible exact below_step bB hb7 | with_reducible exact below_step bC hb7); obtain ⟨a7, k7, hv7, -, -, hr7, -⟩ := hown7.shape'; rw [HQ.out] at hv7; subst hv7; have c37 := (b7.cell (p := ⟨w.heap.size, 0, none⟩) l3).trans c3; have t7 : ∀ o, (w7.alloc o).cell? ⟨w.heap.size, 0, none⟩ = some (.slice ao j cap) := (fun o => ((b7.alloc b7.size o).cell (p := ⟨w.heap.size, 0, none⟩) l3).trans c3); have l37 := Nat.lt_of_lt_of_le l3 b7.size; have z7 := b7.size; (try have y7 : w7.heap[W6.heap.size]? = some (.cells #[.slice none 0 0] 24 (0, 0)) := (by with_reducible exact (hb7.block _ (lt_heap yB)).trans yB)); (try have y7 : w7.heap[W6.heap.size + 1]? = some (.cells #[.slice none 0 0] 24 (0, 0)) := (by with_reducible exact (hb7.block _ (lt_heap yC)).trans yC)))
          | (go_at_call 44; refine (reach_any _ _ _ _ _ _ _ s (R ++ M) HN.out hn63 (hs6.mono (by first | with_reducible exact b7 | with_reducible exact b7.alloc b7.size _)) hwf HQ.out hxl (by first | with_reducible exact hr7 | exact hr7.mono ((Below.refl _ _).alloc (Nat.le_refl _) _)) hIx).mono ?_; rintro e w8 ⟨v8, rfl, hown8, hb8⟩; obtain ⟨a8, k8, hv8, -, -, -, -⟩ := id hown8.shape'; rw [HQ8.out] at hv8; subst hv8; have b8 : Below W6.heap.size W6 w8 := (by first | with_reducible exact below_step b7 hb8 | with_reducible exact below_step (b7.alloc b7.size _) hb8); have z8 := b8.size; have c38 := (b8.cell (p := ⟨w.heap.size, 0, none⟩) l3).trans c3; have t8 : ∀ o, (w8.alloc o).cell? ⟨w.heap.size, 0, none⟩ = some (.slice ao j cap) := (fun o => ((b8.alloc b8.size o).cell (p := ⟨w.heap.size, 0, none⟩) l3).trans c3); (try have y8 := (hb8.block _ (lt_heap y7)).trans y7); (try have y8 : w8.heap[w7.heap.size]? = some (.cells #[.slice none 0 0] 24 (0, 0)) := (by with_reducible exact (hb8.block _ (by simp)).trans (heap_alloc_new w7 (.cells #[.slice none 0 0] 24)))); (try have c8 := cell_of_block y8 0); (try have f8 := free_of_block y8 0); (try have l8 := lt_heap y8)))
        all_goals go_wp2_with fail
        all_goals go_meet
        all_goals first
          | with_reducible exact ToldBox.fresh b8 hown8 z7 z8
          | ((with_reducible refine ToldBox.old b8 hown8 ?_ y8 ?_ ?_) <;> (first | exact z7 | omega | (simp; done) | (simp; omega) | (have := hb7.size; simp at this; omega)))
      case rest =>
        obtain ⟨bx, x, rfl, rfl, px, hownb, hbc⟩ := hcut
        replace p3 := (hbc.block _ (lt_heap p3)).trans p3
        replace hbw := below_step hbw hbc
        replace hr6 := hr6.mono hbc
        obtain ⟨ab, cb, hvb, _, _, hrb, _⟩ := hownb.shape'
        rw [HQ8.out] at hvb
        subst hvb
        clear hs hownb
        by_cases h1 : rootsOk s R = true
        rotate_left
        · have e1 : (reachR s R).2 = 5 := by unfold reachR; rw [if_neg (by simp [HCE.out]), if_pos (by simpa using h1)]
          rw [e1]
          clear h1 e1
          go_wp2
          go_ret
          exact ⟨rfl, hbw⟩
        · have e1 : reachR s R = (reachL s R, 0) := by unfold reachR; rw [if_neg (by simp [HCE.out]), if_neg (by simp [h1])]
          rw [e1]
          by_cases h2 : rootsOk s (R ++ M) = true
          rotate_left
          · have e2 : (reachR s (R ++ M)).2 = 5 := by unfold reachR; rw [if_neg (by simp [HCE.out]), if_pos (by simpa using h2)]
            rw [e2]
            clear h1 h2 e1 e2
            go_wp2
            go_ret
            exact ⟨rfl, hbw⟩
          · have e2 : reachR s (R ++ M) = (reachL s (R ++ M), 0) := by unfold reachR; rw [if_neg (by simp [HCE.out]), if_neg (by simp [h2])]
            rw [e2]
            rw [e1] at hr6 HQ6
            rw [e2] at hrb HQ8
            simp only at hr6 HQ6 hrb HQ8
            obtain ⟨hok, hag⟩ := reach_again HCE.out h1
            have hmo := reach_more HCE.out h2
            have hI6 : ∀ y ∈ reachL s R, I64 y := by
              intro y hy
              rw [reachL_sel] at hy
              obtain ⟨i, hi, _, rfl⟩ := (selTo_mem _ _ _).1 hy
              unfold I64
              have := HN.out
              omega
            have hs8 : (reachL s (R ++ M)).Pairwise (· < ·) := by rw [reachL_sel]; exact sel_sorted _ _
            have hl6 : q6 ≤ 400 := by have := HQ6.out; rw [reachL_sel] at this; have := selTo_len (fun i => decide ((i : Int) + 1 ∈ allF s R)) s.length; have := HN.out; omega
            have hl8 : q8 ≤ 400 := by have := HQ8.out; rw [reachL_sel] at this; have := selTo_len (fun i => decide ((i : Int) + 1 ∈ allF s (R ++ M))) s.length; have := HN.out; omega
            have HT := reach_any wc ao r6 j cap q6 rc6 s (reachL s R) HN.out hn63 (hs0.mono hbw) hwf HQ6.out (by omega) hr6 hI6
            rw [show reachR s (reachL s R) = (reachL s R, 0) from by unfold reachR; rw [if_neg (by simp [HCE.out]), if_neg (by simp [hok]), hag]] at HT
            have HTT := Lib.hid HT
            have HMO := Lib.hid hmo
            have HS8 := Lib.hid hs8
            have c3 := cell_of_one p3
            have l3 := lt_heap p3
            clear e1 e2 h1 h2 hok hag HT hmo hI6 hs8 HQ hxl hIx
            go_wp2_with fail
            refine HTT.out.mono ?_
            rintro e w9 ⟨v9, rfl, hown9, hb9⟩
            clear HTT c3 l3
            obtain ⟨r9, rc9, hv9, _, _, hr9, _⟩ := hown9.shape'
            simp only [HQ6.out] at hv9
            subst hv9
            clear hown9
            replace hbw := below_step hbw hb9
            replace hr6 := hr6.mono hb9
            replace hrb := hrb.mono hb9
            replace px := (hb9.block _ (lt_heap px)).trans px
            go_wp2_with fail
            refine (slices_equal_int _ _ _ _ _ _ (reachL s R) (reachL s R) _ HQ6.out HQ6.out hr9 hr6 (by omega)).mono ?_
            rw [show (reachL s R == reachL s R) = true from by simp]
            rintro e w10 ⟨rfl, hb10⟩
            replace hbw := below_step hbw hb10
            replace hr6 := hr6.mono hb10
            replace hrb := hrb.mono hb10
            replace px := (hb10.block _ (lt_heap px)).trans px
            clear hr9
            have hmf : ∀ (fn : Fn) (first cap : Array Value) (w : World), (Instr.makeFunc fn first cap).run Try.prog w = .ok (.func fn first cap) w := fun _ _ _ _ => rfl
            go_wp2_with fail
            refine (none_notin _ _ _ _ _ _ _ _ (reachL s (R ++ M)) (reachL s R) HQ8.out (by omega) hrb px HQ6.out (by omega) hr6 HMO.out).mono ?_
            rintro e w11 ⟨rfl, rfl⟩
            have cx := cell_of_one px
            have lx := lt_heap px
            go_wp2_with fail
            refine (sorted_int _ _ _ _ (reachL s (R ++ M)) HQ8.out (by omega) hrb HS8.out).mono ?_
            rintro e w12 ⟨rfl, hb12⟩
            have hbw := below_step hbw hb12
            go_wp2
            go_ret
            exact ⟨rfl, hbw⟩
end Go.Proofs.Ytpfopbkaddjjcaa
