/- disk.open: what it computes. -/
import Derived.Test.YtfmgdjgedhnmeaaDiskC
namespace Go.Proofs.Ytfmgdjgedhnmeaa
open Go.RowKit
set_option linter.unusedVariables false
set_option linter.unusedSimpArgs false

/-- what was got of a slot -/
def GotZ (K : Nat) (w : World) (v : Value) (ok : Bool) (m : Int) : Option (Int × PoolV) → Prop
  | none => ok = false
  | some z => ok = true ∧ m = z.1 ∧ VPool K w v z.2 ∧ WfP z.2
theorem GotZ.mono {K : Nat} {w w' : World} {v : Value} {ok : Bool} {m : Int} {z : Option (Int × PoolV)} (h : GotZ K w v ok m z) (hb : Below w.heap.size w w') : GotZ K w' v ok m z := by
  cases z with
  | none => exact h
  | some z => exact ⟨h.1, h.2.1, h.2.2.1.mono hb, h.2.2.2⟩
theorem GotZ.weaken {K K' : Nat} {w : World} {v : Value} {ok : Bool} {m : Int} {z : Option (Int × PoolV)} (h : GotZ K w v ok m z) (hK : K' ≤ K) : GotZ K' w v ok m z := by
  cases z with
  | none => exact h
  | some z => exact ⟨h.1, h.2.1, h.2.2.1.weaken hK, h.2.2.2⟩
theorem GotZ.put {K c i : Nat} {w : World} {v x : Value} {ok : Bool} {m : Int} {z : Option (Int × PoolV)} (h : GotZ K w v ok m z) (hc : c < K) : GotZ K (w.setCell ⟨c, i, none⟩ x) v ok m z := by
  cases z with
  | none => exact h
  | some z => exact ⟨h.1, h.2.1, h.2.2.1.put hc, h.2.2.2⟩
/-- a slot as it was read -/
def OpenEnd (e : Ending) (w w' : World) (b : List Int) : Prop :=
  ∃ m so sn sc xo xn xc ok, e = .returned (.tuple #[.int .i64 m, .agg #[.slice so sn sc, .slice xo xn xc], .bool ok]) ∧ GotZ w.heap.size w' (.agg #[.slice so sn sc, .slice xo xn xc]) ok m (openD b) ∧ Below w.heap.size w w'
theorem openEnd_none {w w' : World} {b : List Int} {m : Int} {so xo : Option Addr} {sn sc xn xc : Nat} (h : openD b = none) (hb : Below w.heap.size w w') : OpenEnd (.returned (.tuple #[.int .i64 m, .agg #[.slice so sn sc, .slice xo xn xc], .bool false])) w w' b :=
  ⟨m, so, sn, sc, xo, xn, xc, false, rfl, by rw [h]; rfl, hb⟩
theorem openEnd_some {w w' : World} {b : List Int} {m : Int} {so xo : Option Addr} {sn sc xn xc : Nat} {p : PoolV} (h : openD b = some (m, p)) (hi : VPool w.heap.size w' (.agg #[.slice so sn sc, .slice xo xn xc]) p) (hw : WfP p) (hb : Below w.heap.size w w') : OpenEnd (.returned (.tuple #[.int .i64 m, .agg #[.slice so sn sc, .slice xo xn xc], .bool true])) w w' b :=
  ⟨m, so, sn, sc, xo, xn, xc, true, rfl, by rw [h]; exact ⟨rfl, rfl, hi, hw⟩, hb⟩
theorem numD_snoc (l : List Int) (x : Int) : numD (l ++ [x]) = numD l * 256 + x := by simp [numD]
theorem numD_low3 {l : List Int} (h : Byt l) (hl : l.length ≤ 3) : 0 ≤ numD l ∧ numD l < 16777216 := by
  match l, h, hl with
  | [], _, _ => exact ⟨by decide, by decide⟩
  | [a], h, _ =>
    have := h a (by simp)
    simp only [numD, List.foldl_cons, List.foldl_nil]
    omega
  | [a, b], h, _ =>
    have := h a (by simp)
    have := h b (by simp)
    simp only [numD, List.foldl_cons, List.foldl_nil]
    omega
  | [a, b, c], h, _ =>
    have := h a (by simp)
    have := h b (by simp)
    have := h c (by simp)
    simp only [numD, List.foldl_cons, List.foldl_nil]
    omega
  | _ :: _ :: _ :: _ :: _, _, hl => exact absurd hl (by simp)
theorem openD_eq {b : List Int} {N : Int} {l : Nat} (h9 : ¬ b.length < 9) (hN : numD (b.take 4) = N) (hL : numD ((b.drop 4).take 3) = (l : Int)) (hle : ¬ b.length - 9 < l) :
    openD b = if slotD N ((b.drop 9).take l) ≠ b.take (9 + l) then none else if (readI ((b.drop 9).take l)).2 = 0 then some (N, (readI ((b.drop 9).take l)).1) else none := by
  unfold openD
  simp only
  rw [if_neg h9, hN, hL, Int.toNat_natCast, if_neg hle]
theorem low_nine {w : World} {B g o n cap : Nat} {b : List Int} (h : LowB w B (some ⟨g, o, none⟩) b) (l : Nat) (hl : l ≤ n - 9) (hn : b.length = n) (hc : n ≤ cap) : LowB w B (if cap = 9 then some ⟨g, o, none⟩ else some ⟨g, o + 9, none⟩) ((b.drop 9).take l) := by
  split
  · rename_i e
    have : l = 0 := by omega
    subst this
    exact .inl (by simp)
  · exact (h.drop 9).take l
theorem openD_long {b : List Int} {l : Nat} (h9 : ¬ b.length < 9) (hL : numD ((b.drop 4).take 3) = (l : Int)) (hle : b.length - 9 < l) : openD b = none := by
  unfold openD
  simp only
  rw [if_neg h9, hL, Int.toNat_natCast, if_pos hle]

set_option maxRecDepth 100000 in
set_option maxHeartbeats 16000000 in
theorem dopen_ok (w : World) (g o n cap : Nat) (b : List Int) (hn : b.length = n) (hlow : LowB w w.heap.size (some ⟨g, o, none⟩) b) (hcap : n ≤ cap) (hby : Byt b) (h9 : 9 ≤ n) (hl : n ≤ 20009) :
    Calls Try.prog 96 #[.slice (some ⟨g, o, none⟩) n cap] w fun e w' => OpenEnd e w w' b := by
  have p0 : (w.alloc (.cells #[.slice none 0 0, .slice none 0 0] 49)).heap[w.heap.size]? = some (.cells #[.slice none 0 0, .slice none 0 0] 49 (0, 0)) := heap_alloc_new _ _
  have hb0 : Below w.heap.size w (w.alloc (.cells #[.slice none 0 0, .slice none 0 0] 49)) := (Below.refl _ _).alloc (Nat.le_refl _) _
  have hs0 : (w.alloc (.cells #[.slice none 0 0, .slice none 0 0] 49)).heap.size = w.heap.size + 1 := by simp
  have HLB := Lib.hid ((hlow.mono hb0).up (B' := (w.alloc (.cells #[.slice none 0 0, .slice none 0 0] 49)).heap.size) (by omega))
  have HR4 := Lib.hid (HLB.out.take 4).row
  have HR3 := Lib.hid ((HLB.out.drop 4).take 3).row
  have H9 : Hid (¬ b.length < 9) := Lib.hid (by omega)
  have HN := Lib.hid hn
  have HBY := Lib.hid hby
  have hy4 : Byt (b.take 4) := hby.take 4
  have hy3 : Byt ((b.drop 4).take 3) := fun x hx => hby x (List.mem_of_mem_drop (List.mem_of_mem_take hx))
  have hl4 : (b.take 4).length = 4 := by rw [List.length_take]; omega
  have hl3 : ((b.drop 4).take 3).length = 3 := by rw [List.length_take, List.length_drop]; omega
  obtain ⟨L4, hL4⟩ : ∃ L, b.take 4 = L := ⟨_, rfl⟩
  obtain ⟨L3, hL3⟩ : ∃ L, (b.drop 4).take 3 = L := ⟨_, rfl⟩
  rw [hL4] at hl4 hy4 HR4
  rw [hL3] at hl3 hy3 HR3
  have HL4 := Lib.hid hL4
  have HL3 := Lib.hid hL3
  have HK4 := Lib.hid hl4
  have HK3 := Lib.hid hl3
  have n9 : (9 : Int) ≤ n := by omega
  have ncap : (n : Int) ≤ cap := by omega
  have nl : (n : Int) ≤ 20009 := by omega
  clear hlow hn hby hL4 hL3 hl4 hl3
  go_enter Try.func96, Try.ntmps96
  go_wp2_with fail
  generalize w.alloc (.cells #[.slice none 0 0, .slice none 0 0] 49) = W0 at *
  go_loop [5, 20] (fun u i => ∃ (k : Nat) (N : Int), k ≤ 4 ∧ i = .int .i64 k ∧ u = .int .i64 N ∧ Hid (numD (L4.take k) = N) ∧ 0 ≤ N ∧ N < 4294967296) (fun _ i => 4 - (intOf i).toNat)
  case atStart => exact ⟨0, 0, by omega, rfl, rfl, Lib.hid rfl, by decide, by decide⟩
  case round =>
    obtain ⟨k, N, hk4, rfl, rfl, HNK, hN0, hN1⟩ := hrel
    by_cases hlt : k < 4
    · have hkl : k < L4.length := by have := HK4.out; omega
      have hlt' : (k : Int) < 4 := by omega
      have hN2 := (numD_low3 (hy4.take k) (by rw [List.length_take]; omega)).2
      rw [HNK.out] at hN2
      obtain ⟨b', o', e', hq⟩ := HR4.out.at k hkl
      simp only [Option.some.injEq, Addr.mk.injEq, and_true] at e'
      obtain ⟨rfl, rfl⟩ := e'
      have c0 := hq k hkl
      have lb := World.block_lt_of_cell? _ _ c0
      obtain ⟨hx0, hx1⟩ := hy4.at k hkl
      have HT : Hid (numD (L4.take (k + 1)) = N * 256 + L4[k]) := Lib.hid (by rw [List.take_succ_eq_append_getElem hkl, numD_snoc, HNK.out])
      generalize L4[k] = c at *
      have hor := or_more hN0 hN2 hx0 hx1
      clear hq HNK
      go_wp2
      go_round
      case rel => exact ⟨k + 1, N * 256 + c, by omega, by go_num, rfl, Lib.hid HT.out, by omega, by omega⟩
      case measure => simp [intOf]; omega
    · obtain rfl : k = 4 := by omega
      have HNN : Hid (numD (b.take 4) = N) := Lib.hid (by rw [HL4.out, ← HNK.out, List.take_of_length_le (by have := HK4.out; omega)])
      clear HNK HR4 hlt hk4
      go_wp2_with fail
      go_loop [6, 33] (fun u i => ∃ (k : Nat) (M : Int), k ≤ 3 ∧ i = .int .i64 k ∧ u = .int .i64 M ∧ Hid (numD (L3.take k) = M) ∧ 0 ≤ M ∧ M < 16777216) (fun _ i => 3 - (intOf i).toNat)
      case atStart => exact ⟨0, 0, by omega, rfl, rfl, Lib.hid rfl, by decide, by decide⟩
      case round =>
        obtain ⟨k, M, hk3, rfl, rfl, HMK, hM0, hM1⟩ := hrel
        by_cases hlt : k < 3
        · have hkl : k < L3.length := by have := HK3.out; omega
          have hlt' : (k : Int) < 3 := by omega
          obtain ⟨b', o', e', hq⟩ := HR3.out.at k hkl
          simp only [Option.some.injEq, Addr.mk.injEq, and_true] at e'
          obtain ⟨rfl, rfl⟩ := e'
          have c0 := hq k hkl
          have lb := World.block_lt_of_cell? _ _ c0
          obtain ⟨hx0, hx1⟩ := hy3.at k hkl
          have HT : Hid (numD (L3.take (k + 1)) = M * 256 + L3[k]) := Lib.hid (by rw [List.take_succ_eq_append_getElem hkl, numD_snoc, HMK.out])
          have HM3 := numD_low3 (hy3.take (k + 1)) (by rw [List.length_take]; omega)
          rw [HT.out] at HM3
          generalize L3[k] = c at *
          have hor := or_more hM0 hM1 hx0 hx1
          obtain ⟨hm0, hm1⟩ := HM3
          clear hq HMK
          go_wp2
          go_round
          case rel => exact ⟨k + 1, M * 256 + c, by omega, by go_num, rfl, Lib.hid HT.out, hm0, hm1⟩
          case measure => simp [intOf]; omega
        · obtain rfl : k = 3 := by omega
          have HMM : Hid (numD ((b.drop 4).take 3) = M) := Lib.hid (by rw [HL3.out, ← HMK.out, List.take_of_length_le (by have := HK3.out; omega)])
          clear HMK HR3 hlt hk3
          obtain ⟨l, rfl⟩ : ∃ l : Nat, M = l := ⟨M.toNat, by omega⟩
          have d0 := cell_of_block p0 0
          have d1 := cell_of_block p0 1
          have f0 := free_of_block p0 0
          have f1 := free_of_block p0 1
          have l0 := lt_heap p0
          simp at d0 d1
          have HP0 := Lib.hid p0
          by_cases hlong : n - 9 < l
          · have hd : decide ((n : Int) - 9 < l) = true := by rw [decide_eq_true_eq]; omega
            have HO := Lib.hid (openD_long H9.out HMM.out (by rw [HN.out]; exact hlong))
            have HB0 := Lib.hid hb0
            clear HNN HMM hlong HL4 HL3 hb0 p0
            go_wp2_with fail
            go_quiet (fail)
            go_wp2_with fail
            have hbq : Below w.heap.size w (W0.drewN nq) := HB0.out.trans ((below_drewN W0 nq).mono (by omega))
            have p6 := heap_setCell_same' (heap_setCell_same' (show (W0.drewN nq).heap[w.heap.size]? = some (.cells #[.slice none 0 0, .slice none 0 0] 49 (0, 0)) from HP0.out) 0 (.slice none 0 0)) 1 (.slice none 0 0)
            simp at p6
            have hb6 := (hbq.setCell (p := ⟨w.heap.size, 0, none⟩) (Nat.le_refl _) (.slice none 0 0)).setCell (p := ⟨w.heap.size, 1, none⟩) (Nat.le_refl _) (.slice none 0 0)
            generalize ((W0.drewN nq).setCell ⟨w.heap.size, 0, none⟩ (.slice none 0 0)).setCell ⟨w.heap.size, 1, none⟩ (.slice none 0 0) = W6 at *
            have z0 := cell_of_block p6 0
            have z1 := cell_of_block p6 1
            simp at z0 z1
            refine bodyPost_ret (v := .tuple #[.int .i64 0, .agg #[.slice none 0 0, .slice none 0 0], .bool false]) (by simp [results, Try.results96, go_sem, z0, z1]) rfl ?_
            exact openEnd_none HO.out hb6
          · have hd : decide ((n : Int) - 9 < l) = false := by rw [decide_eq_false_iff_not]; omega
            have HO := Lib.hid (openD_eq H9.out HNN.out HMM.out (by rw [HN.out]; exact hlong))
            have hlcap : (9 : Int) + l ≤ cap := by omega
            have hl9 : (l : Int) ≤ 20000 := by omega
            obtain ⟨x, hx⟩ : ∃ x, (b.drop 9).take l = x := ⟨_, rfl⟩
            obtain ⟨y, hy⟩ : ∃ y, b.take (9 + l) = y := ⟨_, rfl⟩
            rw [hx, hy] at HO
            have HXL : Hid (x.length = l) := Lib.hid (by rw [← hx, List.length_take, List.length_drop, HN.out]; omega)
            have HYL : Hid (y.length = 9 + l) := Lib.hid (by rw [← hy, List.length_take, HN.out]; omega)
            have HXB : Hid (Byt x) := Lib.hid (by rw [← hx]; exact fun a ha => HBY.out a (List.mem_of_mem_drop (List.mem_of_mem_take ha)))
            have hLN : l ≤ n - 9 := by omega
            obtain ⟨XA, hXA⟩ : ∃ A : Option Addr, (if cap = 9 then some ⟨g, o, none⟩ else some ⟨g, o + 9, none⟩) = A := ⟨_, rfl⟩
            have HXA := Lib.hid hXA
            have HXR : Hid (LowB W0 W0.heap.size XA x) := Lib.hid (by rw [← hx, ← hXA]; exact low_nine HLB.out l hLN HN.out hcap)
            have HYR : Hid (LowB W0 W0.heap.size (some ⟨g, o, none⟩) y) := Lib.hid (by rw [← hy]; exact HLB.out.take _)
            have HB0 := Lib.hid hb0
            have HSN : Hid (XA = none → cap - 9 = 0) := Lib.hid (fun h => absurd (hXA.trans h) (by split <;> simp))
            clear HNN HMM HL4 HL3 hb0 p0 hx hy HLB hLN hcap hXA
            have hwr1 : IntKind.i64.wrap ((n : Int) - 9) = (n : Int) - 9 := IntWalk.i64_in _ (by omega)
            have hwr2 : IntKind.i64.wrap (9 + (l : Int)) = 9 + (l : Int) := IntWalk.i64_in _ (by omega)
            have hf1 : 0 ≤ 9 + (l : Int) := by omega
            have hf8 : (9 : Int) ≤ 9 + (l : Int) := by omega
            have hf3 : (9 + (l : Int)).toNat = 9 + l := by omega
            have hf4 : (9 : Int) ≤ ((9 + l : Nat) : Int) := by omega
            have hf5 : 9 + l - 9 = l := by omega
            have hf6 : ¬ (9 + (l : Int) < 0) := by omega
            have hf7 : ¬ ((cap : Int) < 9 + (l : Int)) := by omega
            clear hlong
            go_wp2_with fail
            clear hy4 hy3 HK4 HK3 H9 n9 ncap nl h9 hl
            go_cut [61] (fun u wx => ∃ Q, u = .bool Q ∧ Hid ((!(slotD N x == y)) = Q) ∧ Below W0.heap.size W0 wx)
            case first =>
              refine wp_region_any (by kernel_rfl) ?_
              change wpAny _ _ _ _ _ _ _ (World.drew _)
              refine wpAny_take (i := 0) (v := .int .i64 l) rfl (by kernel_rfl) (by kernel_rfl) (by kernel_rfl) (fun _ _ _ h => h) (Or.inl ⟨by kernel_rfl, fun W => by go_simp⟩) ?_
              refine wpAny_take (i := 1) (v := .slice (some ⟨g, o, none⟩) n cap) rfl (by kernel_rfl) (by kernel_rfl) (by kernel_rfl) (fun _ _ _ h => h) (Or.inl ⟨by kernel_rfl, fun W => by go_simp⟩) ?_
              refine wpAny_take (i := 2) (v := .int .i64 n) rfl (by kernel_rfl) (by kernel_rfl) (by kernel_rfl) (fun _ _ _ h => h) (Or.inl ⟨by kernel_rfl, fun W => by go_simp⟩) ?_
              refine wpAny_take (i := 3) (v := .int .i64 ((n : Int) - 9)) rfl (by kernel_rfl) (by kernel_rfl) (by kernel_rfl) (fun _ _ _ h => h) (Or.inl ⟨by kernel_rfl, fun W => by go_simp⟩) ?_
              refine wpAny_take (i := 4) (v := .bool false) rfl (by kernel_rfl) (by kernel_rfl) (by kernel_rfl) (fun _ _ _ h => h) (Or.inl ⟨by kernel_rfl, fun W => by go_simp⟩) ?_
              refine wpAny_take (i := 5) (v := .bool false) rfl (by kernel_rfl) (by kernel_rfl) (by kernel_rfl) (fun _ _ _ h => h) (Or.inl ⟨by kernel_rfl, fun W => by go_simp⟩) ?_
              refine wpAny_take (i := 6) (v := .int .i64 N) rfl (by kernel_rfl) (by kernel_rfl) (by kernel_rfl) (fun _ _ _ h => h) (Or.inl ⟨by kernel_rfl, fun W => by go_simp⟩) ?_
              refine wpAny_take (i := 7) (v := .slice (some ⟨g, o, none⟩) n cap) rfl (by kernel_rfl) (by kernel_rfl) (by kernel_rfl) (fun _ _ _ h => h) (Or.inl ⟨by kernel_rfl, fun W => by go_simp⟩) ?_
              refine wpAny_take (i := 8) (v := .int .i64 l) rfl (by kernel_rfl) (by kernel_rfl) (by kernel_rfl) (fun _ _ _ h => h) (Or.inl ⟨by kernel_rfl, fun W => by go_simp⟩) ?_
              refine wpAny_take (i := 9) (v := .int .i64 (9 + (l : Int))) rfl (by kernel_rfl) (by kernel_rfl) (by kernel_rfl) (fun _ _ _ h => h) (Or.inl ⟨by kernel_rfl, fun W => by go_simp⟩) ?_
              refine wpAny_take (i := 10) (v := .slice XA l (cap - 9)) rfl (by kernel_rfl) (by kernel_rfl) (by kernel_rfl) (fun _ _ _ h => h) (Or.inl ⟨by kernel_rfl, fun W => by have e := HXA.out; subst e; go_simp⟩) ?_
              refine wpAny_take (i := 12) (v := .slice (some ⟨g, o, none⟩) n cap) rfl (by kernel_rfl) (by kernel_rfl) (by kernel_rfl) (fun _ _ _ h => h) (Or.inl ⟨by kernel_rfl, fun W => by go_simp⟩) ?_
              refine wpAny_take (i := 13) (v := .int .i64 l) rfl (by kernel_rfl) (by kernel_rfl) (by kernel_rfl) (fun _ _ _ h => h) (Or.inl ⟨by kernel_rfl, fun W => by go_simp⟩) ?_
              refine wpAny_take (i := 14) (v := .int .i64 (9 + (l : Int))) rfl (by kernel_rfl) (by kernel_rfl) (by kernel_rfl) (fun _ _ _ h => h) (Or.inl ⟨by kernel_rfl, fun W => by go_simp⟩) ?_
              refine wpAny_take (i := 15) (v := .slice (some ⟨g, o, none⟩) (9 + l) cap) rfl (by kernel_rfl) (by kernel_rfl) (by kernel_rfl) (fun _ _ _ h => h) (Or.inl ⟨by kernel_rfl, fun W => by go_simp⟩) ?_
              refine wpAny_ready (rs := [11]) (by kernel_rfl) (by simp) ?_
              refine AllReady.cons rfl (fun K hK => ?_) AllReady.nil
              go_simp
              refine (slot_any _ N _ l _ x hN0 hN1 HXL.out (HXR.out.row.mono (Below.refl _ _).drew) HXB.out HSN.out (by omega)).mono ?_
              rintro e w6 ⟨v6, rfl, ho6, hb6⟩
              obtain ⟨a6, n6, c6, rfl⟩ := ho6.shapeN
              have HW6 := Lib.hid (And.intro ho6 ((Below.refl _ _).drew.trans hb6))
              clear ho6 hb6
              refine hK _ _ ?_
              clear hK K
              refine wpAny_ready (rs := [16]) (by kernel_rfl) (by simp) ?_
              refine AllReady.cons rfl (fun K hK => ?_) AllReady.nil
              go_simp
              refine (slices_equal_byte _ _ _ (9 + l) _ _ (slotD N x) y w6 ((own_sl HW6.out.1).at.1).symm HYL.out ((own_sl HW6.out.1).at.2.1) (HYR.out.row.mono HW6.out.2) (by rw [(own_sl HW6.out.1).at.1, slotD_len, HXL.out]; omega)).mono ?_
              rintro e w7 ⟨rfl, hb7⟩
              have HW7 := Lib.hid (HW6.out.2.trans (hb7.mono HW6.out.2.size))
              clear hb7 HW6
              refine hK _ _ ?_
              clear hK K
              obtain ⟨Q, hQ⟩ : ∃ Q, (slotD N x == y) = Q := ⟨_, rfl⟩
              rw [hQ]
              have HQ := Lib.hid hQ
              clear hQ
              refine wpAny_take (i := 17) (v := .bool (!Q)) rfl (by kernel_rfl) (by kernel_rfl) (by kernel_rfl) (fun _ _ _ h => h) (Or.inl ⟨by kernel_rfl, fun W => by go_simp⟩) ?_
              refine wpAny_take (i := 18) (v := .bool (!Q)) rfl (by kernel_rfl) (by kernel_rfl) (by kernel_rfl) (fun _ _ _ h => h) (Or.inl ⟨by kernel_rfl, fun W => by go_simp⟩) ?_
              refine wpAny_done (by kernel_rfl) ?_ _
              go_wp2_with fail
              go_meet
              exact ⟨_, rfl, Lib.hid (by rw [HQ.out]), HW7.out⟩
            case rest =>
              obtain ⟨Q, rfl, HQ, hb7⟩ := hcut
              have p7 := (hb7.block _ l0).trans HP0.out
              have HB7 := Lib.hid (HB0.out.trans (hb7.mono (by omega)))
              have HXI := Lib.hid (BytIn.mk HXL.out ((HXR.out.mono hb7).up hb7.size) ⟨by omega, HSN.out⟩ : BytIn wc XA l (cap - 9) x)
              have hs7 := hb7.size
              clear hb7 HP0 d0 d1 f0 f1 l0 HYR HXR
              have HP7 := Lib.hid p7
              have d0 := cell_of_block p7 0
              have d1 := cell_of_block p7 1
              have f0 := free_of_block p7 0
              have f1 := free_of_block p7 1
              have l0 := lt_heap p7
              simp at d0 d1
              clear p7
              clear hd hwr1 hf4 hf5 hf6 hf7
              cases Q with
              | true =>
                have HO1 : Hid (openD b = none) := Lib.hid (HO.out.trans (if_pos (by have := HQ.out; rw [Bool.not_eq_true', beq_eq_false_iff_ne] at this; exact this)))
                go_wp2_with fail
                have p8 := heap_setCell_same' (heap_setCell_same' HP7.out 0 (.slice none 0 0)) 1 (.slice none 0 0)
                simp at p8
                have hb8 := (HB7.out.setCell (p := ⟨w.heap.size, 0, none⟩) (Nat.le_refl _) (.slice none 0 0)).setCell (p := ⟨w.heap.size, 1, none⟩) (Nat.le_refl _) (.slice none 0 0)
                generalize (wc.setCell ⟨w.heap.size, 0, none⟩ (.slice none 0 0)).setCell ⟨w.heap.size, 1, none⟩ (.slice none 0 0) = W8 at *
                have z0 := cell_of_block p8 0
                have z1 := cell_of_block p8 1
                simp at z0 z1
                refine bodyPost_ret (v := .tuple #[.int .i64 0, .agg #[.slice none 0 0, .slice none 0 0], .bool false]) (by simp [results, Try.results96, go_sem, z0, z1]) rfl ?_
                exact openEnd_none HO1.out hb8
              | false =>
                have HO1 := Lib.hid (HO.out.trans (if_neg (by have := HQ.out; rw [Bool.not_eq_false', beq_iff_eq] at this; exact not_not_intro this)))
                by_cases hc9 : cap = 9
                all_goals
                  (first | subst hc9 | skip)
                  go_wp2_with fail
                  refine (read_v wc _ l _ x (readI x) rfl (by have e := HXA.out; have h := HXI.out; first | (rw [← e, if_neg hc9] at h; exact h) | (rw [← e] at h; exact h)) HXB.out).mono ?_
                  rintro e w8 ⟨so, sn, sc, xo, xn, xc, rfl, hv8, hwf8, hb8⟩
                  obtain ⟨⟨P1, R⟩, hR⟩ : ∃ z, readI x = z := ⟨_, rfl⟩
                  rw [hR] at hv8 hwf8 HO1 ⊢
                  simp only at hv8 hwf8 HO1 ⊢
                  have hbp : Below w8.heap.size w8 (w8.alloc (.cells #[.slice so sn sc, .slice xo xn xc] 49)) := (Below.refl _ _).alloc (Nat.le_refl _) _
                  have q8 : (w8.alloc (.cells #[.slice so sn sc, .slice xo xn xc] 49)).heap[w8.heap.size]? = some (.cells #[.slice so sn sc, .slice xo xn xc] 49 (0, 0)) := heap_alloc_new _ _
                  have hb9 := below_step hb8 hbp
                  have HP8 := Lib.hid ((hb9.block _ (lt_heap HP7.out)).trans HP7.out)
                  have HV8 := Lib.hid (hv8.mono hbp)
                  have HWF8 := Lib.hid hwf8
                  have HB9 := Lib.hid (HB7.out.trans (hb9.mono (by omega)))
                  have n1 : w.heap.size ≠ w8.heap.size := by have := hb8.size; omega
                  have n2 : w8.heap.size ≠ w.heap.size := by have := hb8.size; omega
                  have HSW := Lib.hid (show w.heap.size < wc.heap.size from l0)
                  clear hR hv8 hwf8 hb8 hbp hb9 d0 d1 f0 f1 l0 HP7 HB7 HXI
                  have d0 := cell_of_block HP8.out 0
                  have d1 := cell_of_block HP8.out 1
                  have f0 := free_of_block HP8.out 0
                  have f1 := free_of_block HP8.out 1
                  have l0 := lt_heap HP8.out
                  simp at d0 d1
                  have HQ8 := Lib.hid q8
                  clear q8
                  go_wp2_with fail
                  generalize w8.alloc (.cells #[.slice so sn sc, .slice xo xn xc] 49) = W9 at *
                  have e0 := cell_of_block HQ8.out 0
                  have e1 := cell_of_block HQ8.out 1
                  have l1 := lt_heap HQ8.out
                  simp at e0 e1
                  by_cases hR0 : R = 0
                  · subst hR0
                    have HO2 : Hid (openD b = some (N, P1)) := Lib.hid (HO1.out.trans (if_pos rfl))
                    go_region
                    all_goals
                      go_wp2_with fail
                      have p9 := heap_setCell_same' (heap_setCell_same' HP8.out 0 (.slice so sn sc)) 1 (.slice xo xn xc)
                      simp at p9
                      have hb9 : Below w.heap.size w ((W9.setCell ⟨w.heap.size, 0, none⟩ (.slice so sn sc)).setCell ⟨w.heap.size, 1, none⟩ (.slice xo xn xc)).drew := ((HB9.out.setCell (p := ⟨w.heap.size, 0, none⟩) (Nat.le_refl _) (.slice so sn sc)).setCell (p := ⟨w.heap.size, 1, none⟩) (Nat.le_refl _) (.slice xo xn xc)).trans (Below.refl _ _).drew
                      have hv9 := (((HV8.out.put (c := w.heap.size) (i := 0) (x := .slice so sn sc) HSW.out).put (c := w.heap.size) (i := 1) (x := .slice xo xn xc) HSW.out).mono (Below.refl _ _).drew).weaken (K' := w.heap.size) (Nat.le_of_lt HSW.out)
                      replace p9 : ((W9.setCell ⟨w.heap.size, 0, none⟩ (.slice so sn sc)).setCell ⟨w.heap.size, 1, none⟩ (.slice xo xn xc)).drew.heap[w.heap.size]? = some (.cells #[.slice so sn sc, .slice xo xn xc] 49 (0, 0)) := p9
                      generalize ((W9.setCell ⟨w.heap.size, 0, none⟩ (.slice so sn sc)).setCell ⟨w.heap.size, 1, none⟩ (.slice xo xn xc)).drew = WZ at *
                      have z0 := cell_of_block p9 0
                      have z1 := cell_of_block p9 1
                      simp at z0 z1
                      refine bodyPost_ret (v := .tuple #[.int .i64 N, .agg #[.slice so sn sc, .slice xo xn xc], .bool true]) (by simp [results, Try.results96, go_sem, z0, z1]) rfl ?_
                      exact openEnd_some HO2.out hv9 HWF8.out hb9
                  · have qR : (R == 0) = false := by rw [beq_eq_false_iff_ne]; exact hR0
                    have HO2 : Hid (openD b = none) := Lib.hid (HO1.out.trans (if_neg hR0))
                    clear hR0
                    go_region
                    all_goals
                      go_wp2_with fail
                      have p9 := heap_setCell_same' (heap_setCell_same' HP8.out 0 (.slice so sn sc)) 1 (.slice xo xn xc)
                      simp at p9
                      have hb9 : Below w.heap.size w ((W9.setCell ⟨w.heap.size, 0, none⟩ (.slice so sn sc)).setCell ⟨w.heap.size, 1, none⟩ (.slice xo xn xc)).drew := ((HB9.out.setCell (p := ⟨w.heap.size, 0, none⟩) (Nat.le_refl _) (.slice so sn sc)).setCell (p := ⟨w.heap.size, 1, none⟩) (Nat.le_refl _) (.slice xo xn xc)).trans (Below.refl _ _).drew
                      have hv9 := (((HV8.out.put (c := w.heap.size) (i := 0) (x := .slice so sn sc) HSW.out).put (c := w.heap.size) (i := 1) (x := .slice xo xn xc) HSW.out).mono (Below.refl _ _).drew).weaken (K' := w.heap.size) (Nat.le_of_lt HSW.out)
                      replace p9 : ((W9.setCell ⟨w.heap.size, 0, none⟩ (.slice so sn sc)).setCell ⟨w.heap.size, 1, none⟩ (.slice xo xn xc)).drew.heap[w.heap.size]? = some (.cells #[.slice so sn sc, .slice xo xn xc] 49 (0, 0)) := p9
                      generalize ((W9.setCell ⟨w.heap.size, 0, none⟩ (.slice so sn sc)).setCell ⟨w.heap.size, 1, none⟩ (.slice xo xn xc)).drew = WZ at *
                      have z0 := cell_of_block p9 0
                      have z1 := cell_of_block p9 1
                      simp at z0 z1
                      refine bodyPost_ret (v := .tuple #[.int .i64 N, .agg #[.slice so sn sc, .slice xo xn xc], .bool false]) (by simp [results, Try.results96, go_sem, z0, z1]) rfl ?_
                      exact openEnd_none HO2.out hb9

set_option maxRecDepth 100000 in
set_option maxHeartbeats 4000000 in
theorem dopen_short (w : World) (ao : Option Addr) (n cap : Nat) (b : List Int) (hn : b.length = n) (h9 : n < 9) :
    Calls Try.prog 96 #[.slice ao n cap] w fun e w' => OpenEnd e w w' b := by
  have p0 : (w.alloc (.cells #[.slice none 0 0, .slice none 0 0] 49)).heap[w.heap.size]? = some (.cells #[.slice none 0 0, .slice none 0 0] 49 (0, 0)) := heap_alloc_new _ _
  have HB0 := Lib.hid (show Below w.heap.size w (w.alloc (.cells #[.slice none 0 0, .slice none 0 0] 49)) from (Below.refl _ _).alloc (Nat.le_refl _) _)
  have HO : Hid (openD b = none) := Lib.hid (by unfold openD; rw [if_pos (by omega)])
  have h9' : (n : Int) < 9 := by omega
  have HP0 := Lib.hid p0
  have d0 := cell_of_block p0 0
  have d1 := cell_of_block p0 1
  have f0 := free_of_block p0 0
  have f1 := free_of_block p0 1
  have l0 := lt_heap p0
  simp at d0 d1
  clear p0 hn
  go_enter Try.func96, Try.ntmps96
  go_wp2_with fail
  have p0 := HP0.out
  have hb := HB0.out
  clear HP0 HB0 d0 d1 f0 f1 l0
  generalize w.alloc (.cells #[.slice none 0 0, .slice none 0 0] 49) = W0 at *
  have z0 := cell_of_block p0 0
  have z1 := cell_of_block p0 1
  simp at z0 z1
  refine bodyPost_ret (v := .tuple #[.int .i64 0, .agg #[.slice none 0 0, .slice none 0 0], .bool false]) (by simp [results, Try.results96, go_sem, z0, z1]) rfl ?_
  exact openEnd_none HO.out hb

theorem dopen_any (w : World) (ao : Option Addr) (n cap : Nat) (b : List Int) (hI : BytIn w ao n cap b) (hby : Byt b) (hl : n ≤ 20009) :
    Calls Try.prog 96 #[.slice ao n cap] w fun e w' => OpenEnd e w w' b := by
  by_cases h9 : 9 ≤ n
  · obtain ⟨g, o, rfl, -⟩ := hI.low.row.at 0 (by rw [hI.len]; omega)
    exact dopen_ok w g o n cap b hI.len hI.low hI.cap.1 hby h9 hl
  · exact dopen_short w ao n cap b hI.len (by omega)
end Go.Proofs.Ytfmgdjgedhnmeaa
