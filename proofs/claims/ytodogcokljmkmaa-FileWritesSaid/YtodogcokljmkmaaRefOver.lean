/- rookeryref.OverOf. -/
import Derived.Test.YtodogcokljmkmaaRefP
namespace Go.Proofs.Ytodogcokljmkmaa
open Go.RowKit
set_option linter.unusedVariables false

/-- a new slice that a call gives, with an error -/
def SlNew (e : Ending) (w w' : World) (r : List Int × Int) : Prop :=
  ∃ ao' n' cap', e = .returned (.tuple #[.slice ao' n' cap', .int .i64 r.2]) ∧ r.1.length = n' ∧ Row .u8 w' ao' r.1 ∧ Capd ao' n' cap' ∧ Below w.heap.size w w' ∧ ∀ g o, ao' = some ⟨g, o, none⟩ → w.heap.size ≤ g ∧ g < w'.heap.size
theorem SlNew.none (w w' : World) (x : Int) (hb : Below w.heap.size w w') : SlNew (.returned (.tuple #[.slice none 0 0, .int .i64 x])) w w' ([], x) := ⟨Option.none, 0, 0, rfl, rfl, .inl rfl, ⟨Nat.le_refl _, fun _ => rfl⟩, hb, fun g o h => by cases h⟩

theorem own_new {k : IntKind} {e base : Nat} {w : World} {v : Value} {xs : List Int} (h : Own k e base w v xs) : ∃ ao cap, v = .slice ao xs.length cap ∧ Row k w ao xs ∧ Capd ao xs.length cap ∧ ∀ g o, ao = some ⟨g, o, none⟩ → base ≤ g ∧ g < w.heap.size := by
  obtain ⟨ao, cap, hv, hc, -, hr, h0⟩ := h.shape'
  refine ⟨ao, cap, hv, hr, ⟨hc, h0⟩, fun g o hg => ?_⟩
  rcases h.block with ⟨rfl, rfl⟩ | ⟨g', cap', cur, rfl, hb, hh, -⟩
  · simp only [Value.slice.injEq] at hv
    rw [hg] at hv
    cases hv.1
  · simp only [Value.slice.injEq] at hv
    rw [hg] at hv
    have e1 := hv.1
    simp only [Option.some.injEq, Addr.mk.injEq] at e1
    obtain ⟨rfl, -⟩ := e1
    exact ⟨hb, lt_heap hh⟩

set_option maxRecDepth 100000 in
set_option maxHeartbeats 8000000 in
theorem refOver_any (w : World) (ba ma : Option Addr) (nb bc nm mc : Nat) (b more : List Int) (at_ : Int) (hnb : b.length = nb) (hnm : more.length = nm) (hbr : Row .u8 w ba b) (hmr : Row .u8 w ma more) (hbc : Capd ba nb bc) (hmc : Capd ma nm mc) (hmy : Byt more) (hb47 : nb ≤ 140737488351232) (hm47 : nm ≤ 140737488351232) :
    Calls Try.prog 25 #[.slice ba nb bc, .int .i64 at_, .slice ma nm mc] w fun e w' => SlNew e w w' (overR b at_ more) := by
  have HB := Lib.hid hnb
  have HM := Lib.hid hnm
  have HC := Lib.hid hbc
  obtain ⟨RD, hRD⟩ : ∃ RD, overR b at_ more = RD := ⟨_, rfl⟩
  rw [hRD]
  by_cases h1 : at_ < 0 ∨ 256 < at_ ∨ 256 < nm
  · have HR : Hid (RD = ([], 3)) := Lib.hid (by rw [← hRD]; unfold overR; rw [if_pos (by omega)])
    clear hnb hnm hRD
    by_cases c1 : at_ < 0 <;> by_cases c2 : 256 < at_ <;> by_cases c3 : (256 : Int) < nm
    all_goals try (exfalso; omega)
    all_goals
      clear h1
      go_enter Try.func25, Try.ntmps25
      go_wp2_with fail
      refine bodyPost_ret (v := .tuple #[.slice none 0 0, .int .i64 3]) (by simp [results, Try.results25, go_sem]) rfl ?_
      rw [HR.out]; exact SlNew.none _ _ _ (Below.refl _ _)
  obtain ⟨k, rfl⟩ : ∃ k : Nat, at_ = k := ⟨at_.toNat, by omega⟩
  have h3 : ¬ ((k : Int) < 0) := by omega
  have h4 : ¬ ((256 : Int) < k) := by omega
  have h5 : ¬ ((256 : Int) < nm) := by omega
  have hk256 : k ≤ 256 := by omega
  have hm256 : nm ≤ 256 := by omega
  by_cases h2 : 256 < k + nm
  · have HR : Hid (RD = ([], 8)) := Lib.hid (by rw [← hRD]; unfold overR; rw [if_neg (by omega), if_pos (by omega)])
    have h6 : (256 : Int) < k + nm := by omega
    clear hnb hnm h1 hRD
    go_enter Try.func25, Try.ntmps25
    go_wp2_with fail
    refine bodyPost_ret (v := .tuple #[.slice none 0 0, .int .i64 8]) (by simp [results, Try.results25, go_sem]) rfl ?_
    rw [HR.out]; exact SlNew.none _ _ _ (Below.refl _ _)
  have h6 : ¬ ((256 : Int) < k + nm) := by omega
  have HR : Hid (RD = (overL b k more, 0)) := Lib.hid (by rw [← hRD]; unfold overR; rw [if_neg (by omega), if_neg (by omega)]; rfl)
  have HOS := Lib.hid (fun i (hi : i < more.length) => overL_step b k more i hi)
  have HOZ := Lib.hid (overL_zero b k more)
  have HOL := Lib.hid (fun i (hi : i ≤ nm) => show (overL b k (more.take i)).length = if i = 0 then nb else max nb (k + i) by
    rw [overL_len, List.length_take, hnm, Nat.min_eq_left hi, hnb])
  have HOA : Hid (overL b k (more.take nm) = overL b k more) := Lib.hid (by rw [← hnm, List.take_length])
  have HMR := Lib.hid hmr
  have hq : Row .u8 (w.alloc (.cells #[] 5)) ba b := hbr.mono ((Below.refl _ _).alloc (Nat.le_refl _) _)
  have hA : Below w.heap.size w (w.alloc (.cells #[] 5)) := (Below.refl _ _).alloc (Nat.le_refl _) _
  have HBY := Lib.hid hmy
  obtain rfl := HB.out
  clear hnb hnm h1 hRD hbr hmr hmy
  go_enter Try.func25, Try.ntmps25
  go_wp2_with (first
    | (at_builtin; refine append_ints rfl (.tmp 27) (.tmp 28) _ rfl .u8 5 1 w.heap.size Try.underlying32 info_u8 _ [] b ba bc rfl (Own.empty _ _ _) rfl hq HC.out.2 ?_ ?_ (by simp) ?_; rotate_right; intro v' w1 hown1 hbel1 hnil; simp only [List.nil_append] at hown1; clear hnil))
  · have hbw1 := hA.trans hbel1
    obtain ⟨ao1, cap1, rfl, -, -, -, -⟩ := hown1.shape'
    have HO1 := Lib.hid hown1
    clear hown1 hA hbel1 hq
    go_loopw [8, 32] (fun v x wr => ∃ i : Nat, i ≤ nm ∧ x = .int .i64 i ∧ Own .u8 5 w.heap.size wr v (overL b k (more.take i)) ∧ Below w.heap.size w wr) (fun _ x _ => nm - (intOf x).toNat)
    case atStart => exact ⟨0, Nat.zero_le _, rfl, by rw [HOZ.out]; exact HO1.out, hbw1⟩
    case round =>
      obtain ⟨i, hi, rfl, hown, hbel⟩ := hrel
      by_cases hlt : i < nm
      · have him : i < more.length := by have := HM.out; omega
        obtain ⟨mb, mo, rfl, hmc'⟩ := (HMR.out.mono hbel).at i him
        have xi := hmc' i him
        have li := World.block_lt_of_cell? _ _ xi
        have hin : (i : Int) < nm := by omega
        have hst := HOS.out i him
        have hln := HOL.out i (by omega)
        have hyi := HBY.out _ (List.getElem_mem him)
        have HOWN := Lib.hid hown
        obtain ⟨av, cv, rfl, -, -, -, -⟩ := hown.shape'
        have HST := Lib.hid hst
        clear hst hown hmc'
        generalize more[i] = y at *
        generalize overL b k (more.take i) = X at *
        obtain ⟨L, hL⟩ : ∃ L, X.length = L := ⟨_, rfl⟩
        rw [hL] at hln HST HOWN ⊢
        have hLb : L ≤ b.length + 512 := by split at hln <;> omega
        have HLX := Lib.hid hL
        clear hL hln
        obtain ⟨N, hN⟩ : ∃ N, k + i + 1 - L = N := ⟨_, rfl⟩
        rw [hN] at HST
        have HNN := Lib.hid hN
        clear hN
        go_wp2_with fail
        generalize wr = w8 at *
        have hsz8 := hbel.size
        go_loopg [8] N (fun gk v wr => ∃ j : Nat, j ≤ N ∧ gk = N - j ∧ Own .u8 5 w.heap.size wr v (X ++ zeros j) ∧ Below w.heap.size w8 wr)
        case atStart => exact ⟨0, Nat.zero_le _, rfl, by simpa [zeros] using HOWN.out, Below.refl _ _⟩
        case round =>
          obtain ⟨j, hj, hgk, hown, hbel2⟩ := hrel
          have HGK := Lib.hid hgk
          have hxl : (X ++ zeros j).length = L + j := by rw [List.length_append, HLX.out]; simp [zeros]
          have HOW := Lib.hid hown
          obtain ⟨av2, cv2, rfl, hc2, -, -, -⟩ := hown.shape'
          have HXL := Lib.hid hxl
          have hzs : X ++ zeros (j + 1) = (X ++ zeros j) ++ [0] := by rw [List.append_assoc]; congr 1; simp [zeros, List.replicate_succ']
          have HZS := Lib.hid hzs
          clear hgk hown hzs
          have hszr := hbel2.size
          by_cases hjl : j < N
          · have hle : ((L : Int) + j) ≤ (k : Int) + i := by have := HNN.out; omega
            rw [hxl] at HOW ⊢
            clear hxl
            generalize X ++ zeros j = Y at *
            go_wp2_with (first
              | (at_builtin; (refine append_int rfl (.tmp 43) (.tmp 44) _ rfl .u8 5 1 w.heap.size Try.underlying32 info_u8 _ Y 0 rfl HOW.out _ rfl (by simp) ?_ ?_ (by omega) ?_); rotate_right; intro v' w9 hown9 hbel9))
            · go_roundg (N - (j + 1))
              case measure => have := HGK.out; omega
              case rel => exact ⟨j + 1, by omega, rfl, by rw [HZS.out]; exact hown9, hbel2.trans hbel9⟩
            · rw [HXL.out]; unfold maxLen; omega
            · rw [HXL.out]; omega
          · obtain rfl : j = N := by omega
            have hle : ¬ (((L : Int) + j) ≤ (k : Int) + i) := by have := HNN.out; omega
            have hki : k + i < (X ++ zeros j).length := by rw [hxl]; have := HNN.out; omega
            obtain ⟨g, c3, hv, hg, hco, hfo, hgl⟩ := HOW.out.at (k + i) hki
            simp only [Value.slice.injEq, true_and] at hv
            obtain ⟨rfl, rfl⟩ := hv
            have hset := HOW.out.set (k + i) y
            rw [← HST.out] at hset
            have HSET := Lib.hid hset
            have hbs := Lib.hid ((hbel.trans hbel2).setCell (p := ⟨g, k + i, none⟩) hg (.int .u8 y))
            rw [hxl] at HSET hset ⊢
            have hki2 : (k : Int) + i < (L : Int) + j := by omega
            have hki3 : k + i < L + j := by omega
            obtain ⟨y0, hy0⟩ : ∃ y0, (X ++ zeros j)[k + i]'hki = y0 := ⟨_, rfl⟩
            rw [hy0] at hco
            clear hy0 hxl hset hki HOW
            go_wp2_with fail
            go_roundw
            case rel => exact ⟨i + 1, by omega, by go_num, HSET.out, hbs.out⟩
            case measure => simp [intOf]; omega
      · obtain rfl : i = nm := by omega
        obtain ⟨av, cv, rfl, hrow, hcap, hnew⟩ := own_new hown
        have HZ : Hid (SlNew (.returned (.tuple #[.slice av (overL b k (more.take i)).length cv, .int .i64 0])) w wr RD) := Lib.hid (by
          rw [HR.out]
          refine ⟨av, _, cv, rfl, ?_, ?_, hcap, hbel, hnew⟩
          · rw [HOA.out]
          · rw [← HOA.out]; exact hrow)
        clear hown hrow hcap hnew
        generalize (overL b k (more.take i)).length = ln at *
        go_wp2_with fail
        refine bodyPost_ret (v := .tuple #[.slice av ln cv, .int .i64 0]) (by simp [results, Try.results25, go_sem]) rfl ?_
        exact HZ.out
  · unfold maxLen; omega
  · omega
end Go.Proofs.Ytodogcokljmkmaa
