/- rookerylaw.SealBack: the walk -/
import Derived.Test.YtpfopbkaddjjcaaSealLaw2
namespace Go.Proofs.Ytpfopbkaddjjcaa
open Go.RowKit

theorem drewN_below (w : World) (n : Nat) : Below w.heap.size w (w.drewN n) := ⟨rfl, rfl, rfl, Nat.le_refl _, fun _ _ => rfl⟩

theorem last_seal (key at_ : Int) (xs : List Int) (want : Int) (i : Nat) (h : i < xs.length) (h' : i < (sealed 1 key at_ xs).length) (h1 : 0 ≤ want) (h2 : want ≤ 255) :
    ∀ h'' : i < (sealed 1 key at_ (xs.set i ((xs[i] + (want - (sealed 1 key at_ xs)[i]) % 256) % 256))).length,
      (sealed 1 key at_ (xs.set i ((xs[i] + (want - (sealed 1 key at_ xs)[i]) % 256) % 256)))[i] = want := by
  intro h''
  rw [sealed_at _ _ _ _ _ (by simpa using h), List.getElem_set_self, sealed_at _ _ _ _ _ h]
  omega

set_option maxRecDepth 100000 in
set_option maxHeartbeats 4000000 in
theorem law_sealBack (key at_ : Int) (ao bo : Option Addr) (cap dap m : Nat) (xs ys : List Int) (want : Int) (w : World) (hm : ys.length = m) (hx : Row .u8 w ao xs) (hby : Byt xs) (hlc : xs.length ≤ cap) (hnc : ao = none → cap = 0)
    (hy : Row .u8 w bo ys) (hyb : Byt ys) (hw1 : 0 ≤ want) (hw2 : want ≤ 255) :
    Calls Try.prog 6 #[.int .i64 key, .int .i64 at_, .slice ao xs.length cap, .slice bo m dap, .int .u8 want] w fun e w' => e = .returned (.bool true) ∧ Below w.heap.size w w' := by
  have HNC := Lib.hid hnc
  clear hnc
  rcases keyE_cases key at_ with h | h
  · rcases Nat.lt_or_ge 256 xs.length with hn | hn
    · have hd : decide (256 < (xs.length : Int)) = true := by simp; omega
      go_enter Try.func6, Try.ntmps6
      go_wp2_with (first
        | (go_at_call 18; refine (seal_many _ _ _ _ _ _ h hn).mono ?_; rintro e w' ⟨rfl, rfl⟩))
      refine (law_sealed _).mono ?_
      rintro e w1 ⟨rfl, hb1⟩
      go_wp2_with fail
      refine (law_sealed _).mono ?_
      rintro e w2 ⟨rfl, hb2⟩
      go_wp2_with fail
      go_ret
      exact ⟨rfl, below_step hb1 hb2⟩
    · have hd : decide (256 < (xs.length : Int)) = false := by simp; omega
      go_enter Try.func6, Try.ntmps6
      go_wp2_with fail
      refine (seal_ok_n _ _ _ _ _ xs _ rfl h hn hx hby).mono ?_
      rintro e w1 ⟨a1, c1, hc1, rfl, hr1, hb1⟩
      have hx := hx.mono hb1
      have hy := hy.mono hb1
      go_wp2_with fail
      refine (law_sealed _).mono ?_
      rintro e w2 ⟨rfl, hb2⟩
      have hx := hx.mono hb2
      have hy := hy.mono hb2
      have hr1 := hr1.mono hb2
      have hb := below_step hb1 hb2
      clear hb1 hb2
      go_wp2_with fail
      have l1 := sealed_length 1 key at_ xs
      have l2 := sealed_length (-1) key at_ xs
      have L1 := Lib.hid l1
      have L2 := Lib.hid l2
      clear l1 l2
      refine (open_ok_n _ _ _ _ _ (sealed 1 key at_ xs) _ L1.out h hn hr1 (sealed_byt _ _ _ _)).mono ?_
      rintro e w3 ⟨a3, c3, hc3, rfl, hr3, hb3⟩
      rw [open_sealed _ _ _ hby] at hr3
      have hx := hx.mono hb3
      have hy := hy.mono hb3
      have hr1 := hr1.mono hb3
      have hb := below_step hb hb3
      clear hb3
      go_wp2_with fail
      refine (open_ok_n _ _ _ _ _ xs _ rfl h hn hx hby).mono ?_
      rintro e w4 ⟨a4, c4, hc4, rfl, hr4, hb4⟩
      have hx := hx.mono hb4
      have hy := hy.mono hb4
      have hr1 := hr1.mono hb4
      have hr3 := hr3.mono hb4
      have hb := below_step hb hb4
      clear hb4
      go_wp2_with fail
      refine (seal_ok_n _ _ _ _ _ (sealed (-1) key at_ xs) _ L2.out h hn hr4 (sealed_byt _ _ _ _)).mono ?_
      rintro e w5 ⟨a5, c5, hc5, rfl, hr5, hb5⟩
      rw [seal_opened _ _ _ hby] at hr5
      have hx := hx.mono hb5
      have hy := hy.mono hb5
      have hr1 := hr1.mono hb5
      have hr3 := hr3.mono hb5
      have hb := below_step hb hb5
      clear hb5 hr4
      go_wp2_with fail
      refine (bytes_equal_n _ _ _ _ _ _ xs xs _ rfl rfl hr3 hx hby hby).mono ?_
      rintro e w6 ⟨rfl, rfl⟩
      go_wp2_with fail
      refine (bytes_equal_n _ _ _ _ _ _ xs xs _ rfl rfl hr5 hx hby hby).mono ?_
      rintro e w6 ⟨rfl, rfl⟩
      clear hr3 hr5
      go_wp2_with fail
      rcases Nat.lt_or_ge 256 m with hmn | hmn
      · refine (seal_many _ _ _ _ _ _ h hmn).mono ?_
        rintro e w6 ⟨rfl, rfl⟩
        go_wp2_with fail
        go_loopw [19] (fun i wr => ∃ k : Nat, k ≤ xs.length ∧ k ≤ 1152921504606846976 ∧ i = .int .i64 k ∧ Below w5.heap.size w5 wr) (fun i _ => xs.length - (intOf i).toNat)
        case atStart => exact ⟨0, Nat.zero_le _, Nat.zero_le _, rfl, Below.refl _ _⟩
        case round =>
          obtain ⟨k, hk, hk63, rfl, hbel⟩ := hrel
          have hx := hx.mono hbel
          have hr1 := hr1.mono hbel
          have hb := below_step hb hbel
          by_cases hz : xs.length = 0
          · have hz' : ((xs.length : Int) == 0) = true := by simp [hz]
            have HZ := Lib.hid hz
            clear hz
            go_wp2
            go_ret
            exact ⟨rfl, hb⟩
          · have hz' : ((xs.length : Int) == 0) = false := by rw [beq_eq_false_iff_ne]; omega
            have hpos : xs.length - 1 < xs.length := by omega
            have hpos' : 1 ≤ xs.length := by omega
            go_wp2_with fail
            refine (clone_bytes _ _ xs _ hx HNC.out (by omega)).mono ?_
            rintro e w7 ⟨v7, rfl, ho7, -, hb7⟩
            obtain ⟨g, c7, rfl, hg7, hcell7, hfr7, hgl7⟩ := ho7.at (xs.length - 1) hpos
            obtain ⟨b1, o1, rfl, hq⟩ := (hr1.mono hb7).at (xs.length - 1) (by rw [L1.out]; omega)
            have hq1 := hq (xs.length - 1) (by rw [L1.out]; omega)
            have hlast := last_seal key at_ xs want (xs.length - 1) hpos (by rw [L1.out]; omega) hw1 hw2
            have hbx := hby.at (xs.length - 1) hpos
            have hbs := (sealed_byt 1 key at_ xs).at (xs.length - 1) (by rw [L1.out]; omega)
            generalize (sealed 1 key at_ xs)[xs.length - 1]'(by rw [L1.out]; omega) = sx at *
            have hset := Own.set ho7 (xs.length - 1) ((xs[xs.length - 1] + (want - sx) % 256) % 256)
            have hbset : Below w7.heap.size w7 w7 := Below.refl _ _
            generalize hvv : (xs[xs.length - 1] + (want - sx) % 256) % 256 = vv at *
            have hvb : 0 ≤ vv ∧ vv ≤ 255 := by omega
            have hyb2 : Byt (xs.set (xs.length - 1) vv) := by
              intro y hy
              rcases List.mem_or_eq_of_mem_set hy with h | h
              · exact hby y h
              · rw [h]; exact hvb
            have HSET := Lib.hid hset
            have HL := Lib.hid hlast
            clear hset hlast hq hx hr1 hy hz
            have hi1 : (0 : Int) ≤ (xs.length : Int) - 1 := by omega
            have hi2 : (xs.length : Int) - 1 < (xs.length : Int) := by omega
            have hi3 : IntKind.i64.wrap ((xs.length : Int) - 1) = (xs.length : Int) - 1 := IntWalk.i64_in _ (by omega)
            have hi4 : ((xs.length : Int) - 1).toNat = xs.length - 1 := by omega
            have hi5 : IntKind.u8.wrap (want - sx) = (want - sx) % 256 := IntKind.wrap_u8 _
            have hi6 : IntKind.u8.wrap (xs[xs.length - 1] + (want - sx) % 256) = vv := by rw [IntKind.wrap_u8]; exact hvv
            clear hvv
            go_wp2_with fail
            go_region
            go_wp2_with fail
            have hd9 : Row .u8 (w7.drew.setCell ⟨g, xs.length - 1, none⟩ (.int .u8 vv)) (some ⟨g, 0, none⟩) (xs.set (xs.length - 1) vv) := by
              obtain ⟨ao9, cap9, e9, _, _, hrow9⟩ := HSET.out.shape
              simp only [Value.slice.injEq] at e9
              rw [e9.1]
              exact hrow9
            refine (seal_ok_n _ _ _ _ _ (xs.set (xs.length - 1) vv) _ (by simp) h hn hd9 hyb2).mono ?_
            rintro e w9 ⟨a9, c9, hc9, rfl, hr9, hb9⟩
            obtain ⟨b9, o9, rfl, hq9⟩ := hr9.at (xs.length - 1) (by simp [sealed_length]; omega)
            have hq9 := hq9 (xs.length - 1) (by simp [sealed_length]; omega)
            rw [HL.out] at hq9
            have hbb : Below w7.heap.size w7 (w7.drew.setCell ⟨g, xs.length - 1, none⟩ (.int .u8 vv)) → True := fun _ => trivial
            have hbf : Below w.heap.size w w9 := (((hb.trans (hb7.mono hb.size)).drew).setCell (by have := hb.size; show w.heap.size ≤ g; omega) _).trans (hb9.mono (by have := hb.size; have := hb7.size; simp; omega))
            clear hbb hb9 hd9
            go_wp2_with fail
            go_ret
            exact ⟨rfl, hbf⟩
      · refine (seal_ok_n _ _ _ _ _ ys _ hm h hmn hy hyb).mono ?_
        rintro e w6 ⟨a6, c6, hc6, rfl, hr6, hb6⟩
        have hx := hx.mono hb6
        have hy := hy.mono hb6
        have hr1 := hr1.mono hb6
        have hb := below_step hb hb6
        clear hb6
        go_wp2_with fail
        go_loopw [19] (fun i wr => ∃ k : Nat, k ≤ xs.length ∧ k ≤ 1152921504606846976 ∧ i = .int .i64 k ∧ Below w6.heap.size w6 wr) (fun i _ => xs.length - (intOf i).toNat)
        case atStart => exact ⟨0, Nat.zero_le _, Nat.zero_le _, rfl, Below.refl _ _⟩
        case round =>
          obtain ⟨k, hk, hk63, rfl, hbel⟩ := hrel
          have hx := hx.mono hbel
          have hr1 := hr1.mono hbel
          have hb := below_step hb hbel
          have hy := hy.mono hbel
          have hr6 := hr6.mono hbel
          by_cases hlt : k < xs.length ∧ k < m
          · obtain ⟨hl1, hl2⟩ := hlt
            obtain ⟨b1, o1, rfl, q1⟩ := hx.at k hl1
            obtain ⟨b2, o2, rfl, q2⟩ := hy.at k (by omega)
            obtain ⟨b3, o3, rfl, q3⟩ := hr1.at k (by rw [L1.out]; omega)
            obtain ⟨b4, o4, rfl, q4⟩ := hr6.at k (by rw [sealed_length]; omega)
            have q1 := q1 k hl1
            have q2 := q2 k (by omega)
            have q3 := q3 k (by rw [L1.out]; omega)
            have q4 := q4 k (by rw [sealed_length]; omega)
            rw [sealed_at _ _ _ _ _ hl1] at q3
            rw [sealed_at _ _ _ _ _ (by omega)] at q4
            have hbx := hby.at k hl1
            have hbk := hyb.at k (by omega)
            have hiff : ((xs[k] + 1 * byt (ste (st0 key at_) (k + 1))) % 256 == (ys[k]'(by omega) + 1 * byt (ste (st0 key at_) (k + 1))) % 256) = (xs[k] == ys[k]'(by omega)) := by
              rw [Bool.eq_iff_iff]
              simp only [beq_iff_eq]
              omega
            generalize (xs[k] + 1 * byt (ste (st0 key at_) (k + 1))) % 256 = X at *
            generalize (ys[k]'(by omega) + 1 * byt (ste (st0 key at_) (k + 1))) % 256 = V at *
            have hi1 : (0 : Int) ≤ k := by omega
            have hi2 : (k : Int) < xs.length := by omega
            have hi3 : (k : Int) < m := by omega
            have HB := Lib.hid hb
            clear hx hy hr1 hr6 hb
            by_cases hmx : m < xs.length
            all_goals
              have hne : ((xs[k] == ys[k]'(by omega)) == (X == V)) = true := by rw [hiff]; simp
              clear hiff
              go_wp2_with fail
              go_quiet (fail)
              go_wp2
              · go_roundw
                case rel => exact ⟨k + 1, by omega, by omega, by go_num, hbel.trans ⟨rfl, rfl, rfl, Nat.le_refl _, fun _ _ => rfl⟩⟩
                case measure => simp [intOf]; omega
          · by_cases hmx : m < xs.length
            · have hk1 : ¬ k < m := by omega
              by_cases hz : xs.length = 0
              · have hz' : ((xs.length : Int) == 0) = true := by simp [hz]
                have HZ := Lib.hid hz
                clear hz
                go_wp2
                go_ret
                exact ⟨rfl, hb⟩
              · have hz' : ((xs.length : Int) == 0) = false := by rw [beq_eq_false_iff_ne]; omega
                have hpos : xs.length - 1 < xs.length := by omega
                have hpos' : 1 ≤ xs.length := by omega
                go_wp2_with fail
                refine (clone_bytes _ _ xs _ hx HNC.out (by omega)).mono ?_
                rintro e w7 ⟨v7, rfl, ho7, -, hb7⟩
                obtain ⟨g, c7, rfl, hg7, hcell7, hfr7, hgl7⟩ := ho7.at (xs.length - 1) hpos
                obtain ⟨b1, o1, rfl, hq⟩ := (hr1.mono hb7).at (xs.length - 1) (by rw [L1.out]; omega)
                have hq1 := hq (xs.length - 1) (by rw [L1.out]; omega)
                have hlast := last_seal key at_ xs want (xs.length - 1) hpos (by rw [L1.out]; omega) hw1 hw2
                have hbx := hby.at (xs.length - 1) hpos
                have hbs := (sealed_byt 1 key at_ xs).at (xs.length - 1) (by rw [L1.out]; omega)
                generalize (sealed 1 key at_ xs)[xs.length - 1]'(by rw [L1.out]; omega) = sx at *
                have hset := Own.set ho7 (xs.length - 1) ((xs[xs.length - 1] + (want - sx) % 256) % 256)
                have hbset : Below w7.heap.size w7 w7 := Below.refl _ _
                generalize hvv : (xs[xs.length - 1] + (want - sx) % 256) % 256 = vv at *
                have hvb : 0 ≤ vv ∧ vv ≤ 255 := by omega
                have hyb2 : Byt (xs.set (xs.length - 1) vv) := by
                  intro y hy
                  rcases List.mem_or_eq_of_mem_set hy with h | h
                  · exact hby y h
                  · rw [h]; exact hvb
                have HSET := Lib.hid hset
                have HL := Lib.hid hlast
                clear hset hlast hq hx hr1 hy hz
                have hi1 : (0 : Int) ≤ (xs.length : Int) - 1 := by omega
                have hi2 : (xs.length : Int) - 1 < (xs.length : Int) := by omega
                have hi3 : IntKind.i64.wrap ((xs.length : Int) - 1) = (xs.length : Int) - 1 := IntWalk.i64_in _ (by omega)
                have hi4 : ((xs.length : Int) - 1).toNat = xs.length - 1 := by omega
                have hi5 : IntKind.u8.wrap (want - sx) = (want - sx) % 256 := IntKind.wrap_u8 _
                have hi6 : IntKind.u8.wrap (xs[xs.length - 1] + (want - sx) % 256) = vv := by rw [IntKind.wrap_u8]; exact hvv
                clear hvv
                go_wp2_with fail
                go_region
                go_wp2_with fail
                have hd9 : Row .u8 (w7.drew.setCell ⟨g, xs.length - 1, none⟩ (.int .u8 vv)) (some ⟨g, 0, none⟩) (xs.set (xs.length - 1) vv) := by
                  obtain ⟨ao9, cap9, e9, _, _, hrow9⟩ := HSET.out.shape
                  simp only [Value.slice.injEq] at e9
                  rw [e9.1]
                  exact hrow9
                refine (seal_ok_n _ _ _ _ _ (xs.set (xs.length - 1) vv) _ (by simp) h hn hd9 hyb2).mono ?_
                rintro e w9 ⟨a9, c9, hc9, rfl, hr9, hb9⟩
                obtain ⟨b9, o9, rfl, hq9⟩ := hr9.at (xs.length - 1) (by simp [sealed_length]; omega)
                have hq9 := hq9 (xs.length - 1) (by simp [sealed_length]; omega)
                rw [HL.out] at hq9
                have hbb : Below w7.heap.size w7 (w7.drew.setCell ⟨g, xs.length - 1, none⟩ (.int .u8 vv)) → True := fun _ => trivial
                have hbf : Below w.heap.size w w9 := (((hb.trans (hb7.mono hb.size)).drew).setCell (by have := hb.size; show w.heap.size ≤ g; omega) _).trans (hb9.mono (by have := hb.size; have := hb7.size; simp; omega))
                clear hbb hb9 hd9
                go_wp2_with fail
                go_ret
                exact ⟨rfl, hbf⟩
            · have hk1 : ¬ k < xs.length := by omega
              by_cases hz : xs.length = 0
              · have hz' : ((xs.length : Int) == 0) = true := by simp [hz]
                have HZ := Lib.hid hz
                clear hz
                go_wp2
                go_ret
                exact ⟨rfl, hb⟩
              · have hz' : ((xs.length : Int) == 0) = false := by rw [beq_eq_false_iff_ne]; omega
                have hpos : xs.length - 1 < xs.length := by omega
                have hpos' : 1 ≤ xs.length := by omega
                go_wp2_with fail
                refine (clone_bytes _ _ xs _ hx HNC.out (by omega)).mono ?_
                rintro e w7 ⟨v7, rfl, ho7, -, hb7⟩
                obtain ⟨g, c7, rfl, hg7, hcell7, hfr7, hgl7⟩ := ho7.at (xs.length - 1) hpos
                obtain ⟨b1, o1, rfl, hq⟩ := (hr1.mono hb7).at (xs.length - 1) (by rw [L1.out]; omega)
                have hq1 := hq (xs.length - 1) (by rw [L1.out]; omega)
                have hlast := last_seal key at_ xs want (xs.length - 1) hpos (by rw [L1.out]; omega) hw1 hw2
                have hbx := hby.at (xs.length - 1) hpos
                have hbs := (sealed_byt 1 key at_ xs).at (xs.length - 1) (by rw [L1.out]; omega)
                generalize (sealed 1 key at_ xs)[xs.length - 1]'(by rw [L1.out]; omega) = sx at *
                have hset := Own.set ho7 (xs.length - 1) ((xs[xs.length - 1] + (want - sx) % 256) % 256)
                have hbset : Below w7.heap.size w7 w7 := Below.refl _ _
                generalize hvv : (xs[xs.length - 1] + (want - sx) % 256) % 256 = vv at *
                have hvb : 0 ≤ vv ∧ vv ≤ 255 := by omega
                have hyb2 : Byt (xs.set (xs.length - 1) vv) := by
                  intro y hy
                  rcases List.mem_or_eq_of_mem_set hy with h | h
                  · exact hby y h
                  · rw [h]; exact hvb
                have HSET := Lib.hid hset
                have HL := Lib.hid hlast
                clear hset hlast hq hx hr1 hy hz
                have hi1 : (0 : Int) ≤ (xs.length : Int) - 1 := by omega
                have hi2 : (xs.length : Int) - 1 < (xs.length : Int) := by omega
                have hi3 : IntKind.i64.wrap ((xs.length : Int) - 1) = (xs.length : Int) - 1 := IntWalk.i64_in _ (by omega)
                have hi4 : ((xs.length : Int) - 1).toNat = xs.length - 1 := by omega
                have hi5 : IntKind.u8.wrap (want - sx) = (want - sx) % 256 := IntKind.wrap_u8 _
                have hi6 : IntKind.u8.wrap (xs[xs.length - 1] + (want - sx) % 256) = vv := by rw [IntKind.wrap_u8]; exact hvv
                clear hvv
                go_wp2_with fail
                go_region
                go_wp2_with fail
                have hd9 : Row .u8 (w7.drew.setCell ⟨g, xs.length - 1, none⟩ (.int .u8 vv)) (some ⟨g, 0, none⟩) (xs.set (xs.length - 1) vv) := by
                  obtain ⟨ao9, cap9, e9, _, _, hrow9⟩ := HSET.out.shape
                  simp only [Value.slice.injEq] at e9
                  rw [e9.1]
                  exact hrow9
                refine (seal_ok_n _ _ _ _ _ (xs.set (xs.length - 1) vv) _ (by simp) h hn hd9 hyb2).mono ?_
                rintro e w9 ⟨a9, c9, hc9, rfl, hr9, hb9⟩
                obtain ⟨b9, o9, rfl, hq9⟩ := hr9.at (xs.length - 1) (by simp [sealed_length]; omega)
                have hq9 := hq9 (xs.length - 1) (by simp [sealed_length]; omega)
                rw [HL.out] at hq9
                have hbb : Below w7.heap.size w7 (w7.drew.setCell ⟨g, xs.length - 1, none⟩ (.int .u8 vv)) → True := fun _ => trivial
                have hbf : Below w.heap.size w w9 := (((hb.trans (hb7.mono hb.size)).drew).setCell (by have := hb.size; show w.heap.size ≤ g; omega) _).trans (hb9.mono (by have := hb.size; have := hb7.size; simp; omega))
                clear hbb hb9 hd9
                go_wp2_with fail
                go_ret
                exact ⟨rfl, hbf⟩
  · go_enter Try.func6, Try.ntmps6
    go_wp2_with (first
      | (go_at_call 18; refine (seal_bad _ _ _ _ _ _ h).mono ?_; rintro e w' ⟨rfl, rfl⟩))
    refine (law_sealed _).mono ?_
    rintro e w1 ⟨rfl, hb1⟩
    go_wp2_with fail
    refine (law_sealed _).mono ?_
    rintro e w2 ⟨rfl, hb2⟩
    go_wp2_with fail
    go_ret
    exact ⟨rfl, below_step hb1 hb2⟩
end Go.Proofs.Ytpfopbkaddjjcaa
