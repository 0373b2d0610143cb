/- store.form, rookeryref.FormOf: what is wrong with a block by itself. · store.form: the kids. -/
import Derived.Test.YtfmgdjgedhnmeaaSto
namespace Go.Proofs.Ytfmgdjgedhnmeaa
open Go.RowKit
set_option linter.unusedVariables false

theorem level_in {s : List Blk} {a : Int} (h : thereB s a = true) : ∃ k : Nat, k < s.length ∧ a = k + 1 ∧ blk s a = s[k]?.getD noBlk := by
  obtain ⟨k, hk, rfl, _⟩ := there_in h
  exact ⟨k, hk, rfl, by rw [blk_at s k hk]; simp [hk]⟩

/-- how many of these aren't 0 -/
def nz (l : List Int) : Int := ((l.filter fun k => decide (k ≠ 0)).length : Nat)
theorem nz_snoc (l : List Int) (k : Int) : nz (l ++ [k]) = nz l + if k = 0 then 0 else 1 := by
  unfold nz
  rw [List.filter_append]
  by_cases h : k = 0 <;> simp [h]
theorem nz_bd (l : List Int) : 0 ≤ nz l ∧ nz l ≤ l.length := by
  unfold nz
  have := List.length_filter_le (fun k : Int => decide (k ≠ 0)) l
  omega
theorem nz_zero (l : List Int) : (nz l = 0) ↔ l.all (fun k => decide (k = 0)) = true := by
  unfold nz
  simp [List.filter_eq_nil_iff, Int.natCast_eq_zero, List.length_eq_zero_iff]

set_option maxRecDepth 100000 in
set_option maxHeartbeats 1000000 in
theorem form_early (w : World) (ao ka ba : Option Addr) (n cap nk kc nb bc : Nat) (s : List Blk) (r l : Int) (ks bs : List Int) (hk : ks.length = nk) (hb : bs.length = nb) (hnk : nk ≤ 17592186044416) (hnb : nb ≤ 140737488351232)
    (hl : ¬ (0 < r ∧ r ≤ 1000000 ∧ 1 ≤ l ∧ l ≤ 3 ∧ nk = 4 ∧ nb = 0)) :
    Calls Try.prog 86 #[.agg #[.slice ao n cap], .agg #[.int .i64 r, .int .i64 l, .slice ka nk kc, .slice ba nb bc]] w fun e w' => e = .returned (.int .i64 (formE s r l ks bs)) ∧ Below w.heap.size w w' := by
  have HK := Lib.hid hk
  have HB := Lib.hid hb
  have hs : IntKind.i64.wrap ((nk : Int) + nb) = (nk : Int) + nb := IntWalk.i64_in _ (by omega)
  clear hk hb hnk hnb
  rcases (show r < 0 ∨ r = 0 ∨ (0 < r ∧ r ≤ 1000000) ∨ 1000000 < r from by omega) with h1 | rfl | ⟨h1, h2⟩ | h1
  rotate_left
  · rcases (show l < 0 ∨ l = 0 ∨ 0 < l from by omega) with h2 | rfl | h2
    rotate_left
    · by_cases h3 : 0 < nk + nb
      rotate_left
      · obtain ⟨rfl, rfl⟩ : nk = 0 ∧ nb = 0 := by omega
        clear h3 hl hs
        go_enter Try.func86, Try.ntmps86
        go_wp2
        go_ret
        refine ⟨ret_int ?_, ((Below.refl _ _).alloc (Nat.le_refl _) _).alloc (by simp) _⟩
        have h9 := HK.out
        have h8 := HB.out
        unfold formE
        repeat' split
        all_goals omega
      · clear hl
        have h4 : (0 : Int) < (nk : Int) + nb := by omega
        go_enter Try.func86, Try.ntmps86
        go_wp2
        go_ret
        refine ⟨ret_int ?_, ((Below.refl _ _).alloc (Nat.le_refl _) _).alloc (by simp) _⟩
        have h9 := HK.out
        have h8 := HB.out
        unfold formE
        repeat' split
        all_goals omega
    · clear hl
      go_enter Try.func86, Try.ntmps86
      go_wp2
      go_ret
      refine ⟨ret_int ?_, ((Below.refl _ _).alloc (Nat.le_refl _) _).alloc (by simp) _⟩
      have h9 := HK.out
      have h8 := HB.out
      unfold formE
      repeat' split
      all_goals omega
    · clear hl
      go_enter Try.func86, Try.ntmps86
      go_wp2
      go_ret
      refine ⟨ret_int ?_, ((Below.refl _ _).alloc (Nat.le_refl _) _).alloc (by simp) _⟩
      have h9 := HK.out
      have h8 := HB.out
      unfold formE
      repeat' split
      all_goals omega
  · rcases (show l < 0 ∨ l = 0 ∨ (1 ≤ l ∧ l ≤ 3) ∨ 3 < l from by omega) with h3 | rfl | ⟨h3, h4⟩ | h3
    rotate_left
    · rcases (show nk = 0 ∨ 0 < nk from by omega) with rfl | h4
      · rcases (show nb < 4 ∨ nb = 4 ∨ 4 < nb from by omega) with h5 | rfl | h5
        all_goals
          clear hl hs
          go_enter Try.func86, Try.ntmps86
          go_wp2
          go_ret
          refine ⟨ret_int ?_, ((Below.refl _ _).alloc (Nat.le_refl _) _).alloc (by simp) _⟩
          have h9 := HK.out
          have h8 := HB.out
          unfold formE
          repeat' split
          all_goals omega
      · clear hl
        go_enter Try.func86, Try.ntmps86
        go_wp2
        go_ret
        refine ⟨ret_int ?_, ((Below.refl _ _).alloc (Nat.le_refl _) _).alloc (by simp) _⟩
        have h9 := HK.out
        have h8 := HB.out
        unfold formE
        repeat' split
        all_goals omega
    · rcases (show nk < 4 ∨ nk = 4 ∨ 4 < nk from by omega) with h5 | rfl | h5
      rotate_left
      · have h6 : 0 < nb := by omega
        clear hl
        go_enter Try.func86, Try.ntmps86
        go_wp2
        go_ret
        refine ⟨ret_int ?_, ((Below.refl _ _).alloc (Nat.le_refl _) _).alloc (by simp) _⟩
        have h9 := HK.out
        have h8 := HB.out
        unfold formE
        repeat' split
        all_goals omega
      · clear hl
        go_enter Try.func86, Try.ntmps86
        go_wp2
        go_ret
        refine ⟨ret_int ?_, ((Below.refl _ _).alloc (Nat.le_refl _) _).alloc (by simp) _⟩
        have h9 := HK.out
        have h8 := HB.out
        unfold formE
        repeat' split
        all_goals omega
      · clear hl
        go_enter Try.func86, Try.ntmps86
        go_wp2
        go_ret
        refine ⟨ret_int ?_, ((Below.refl _ _).alloc (Nat.le_refl _) _).alloc (by simp) _⟩
        have h9 := HK.out
        have h8 := HB.out
        unfold formE
        repeat' split
        all_goals omega
    · clear hl
      go_enter Try.func86, Try.ntmps86
      go_wp2
      go_ret
      refine ⟨ret_int ?_, ((Below.refl _ _).alloc (Nat.le_refl _) _).alloc (by simp) _⟩
      have h9 := HK.out
      have h8 := HB.out
      unfold formE
      repeat' split
      all_goals omega
    · clear hl
      go_enter Try.func86, Try.ntmps86
      go_wp2
      go_ret
      refine ⟨ret_int ?_, ((Below.refl _ _).alloc (Nat.le_refl _) _).alloc (by simp) _⟩
      have h9 := HK.out
      have h8 := HB.out
      unfold formE
      repeat' split
      all_goals omega
  · clear hl
    go_enter Try.func86, Try.ntmps86
    go_wp2
    go_ret
    refine ⟨ret_int ?_, ((Below.refl _ _).alloc (Nat.le_refl _) _).alloc (by simp) _⟩
    have h9 := HK.out
    have h8 := HB.out
    unfold formE
    repeat' split
    all_goals omega
  · clear hl
    go_enter Try.func86, Try.ntmps86
    go_wp2
    go_ret
    refine ⟨ret_int ?_, ((Below.refl _ _).alloc (Nat.le_refl _) _).alloc (by simp) _⟩
    have h9 := HK.out
    have h8 := HB.out
    unfold formE
    repeat' split
    all_goals omega
end Go.Proofs.Ytfmgdjgedhnmeaa

namespace Go.Proofs.Ytfmgdjgedhnmeaa
open Go.RowKit
set_option linter.unusedVariables false

/-- the kids are gone through -/
theorem formE_loop (s : List Blk) (r l : Int) (ks bs : List Int) (h1 : 0 < r) (h2 : r ≤ 1000000) (h3 : 1 ≤ l) (h4 : l ≤ 3) (hk : ks.length = 4) (hb : bs.length = 0) :
    formE s r l ks bs = if ks.all (kidOk s l) = false then 5 else if ks.all (fun k => decide (k = 0)) then 4 else 0 := by
  unfold formE
  rw [if_neg (by omega), if_neg (by omega), if_neg (by omega), if_neg (by omega)]

set_option maxRecDepth 100000 in
set_option maxHeartbeats 1000000 in
theorem form_loop (w : World) (ao ka ba : Option Addr) (n cap kc bc : Nat) (s : List Blk) (r l : Int) (ks bs : List Int) (hn : s.length = n) (hn63 : n ≤ 1152921504606846976) (hs : StoRow w ao s) (hwf : WfS s) (hr : Row .i64 w ka ks)
    (hki : ∀ k ∈ ks, I64 k) (h1 : 0 < r) (h2 : r ≤ 1000000) (h3 : 1 ≤ l) (h4 : l ≤ 3) (hk : ks.length = 4) (hb : bs.length = 0) :
    Calls Try.prog 86 #[.agg #[.slice ao n cap], .agg #[.int .i64 r, .int .i64 l, .slice ka 4 kc, .slice ba 0 bc]] w fun e w' => e = .returned (.int .i64 (formE s r l ks bs)) ∧ Below w.heap.size w w' := by
  have HF := Lib.hid (formE_loop s r l ks bs h1 h2 h3 h4 hk hb)
  clear hb
  have HN := Lib.hid hn
  clear hn
  have d1 : decide (r < 0) = false := by rw [decide_eq_false_iff_not]; omega
  have d2 : decide (1000000 < r) = false := by rw [decide_eq_false_iff_not]; omega
  have d3 : decide (l < 0) = false := by rw [decide_eq_false_iff_not]; omega
  have d4 : decide (3 < l) = false := by rw [decide_eq_false_iff_not]; omega
  have d5 : (r == 0) = false := by rw [beq_eq_false_iff_ne]; omega
  have d6 : (l == 0) = false := by rw [beq_eq_false_iff_ne]; omega
  go_enter Try.func86, Try.ntmps86
  go_wp2
  have a1 : ((w.alloc (.cells #[.slice ao n cap] 24)).alloc (.cells #[.int .i64 r, .int .i64 l, .slice ka 4 kc, .slice ba 0 bc] 93)).cell? ⟨w.heap.size, 0, none⟩ = some (.slice ao n cap) := by simp [go_sem]
  have a2 : ((w.alloc (.cells #[.slice ao n cap] 24)).alloc (.cells #[.int .i64 r, .int .i64 l, .slice ka 4 kc, .slice ba 0 bc] 93)).cell? ⟨w.heap.size + 1, 1, none⟩ = some (.int .i64 l) := by simp [go_sem]
  have hb0 : Below w.heap.size w ((w.alloc (.cells #[.slice ao n cap] 24)).alloc (.cells #[.int .i64 r, .int .i64 l, .slice ka 4 kc, .slice ba 0 bc] 93)) := ((Below.refl _ _).alloc (Nat.le_refl _) _).alloc (by simp) _
  have hz : w.heap.size + 1 < ((w.alloc (.cells #[.slice ao n cap] 24)).alloc (.cells #[.int .i64 r, .int .i64 l, .slice ka 4 kc, .slice ba 0 bc] 93)).heap.size := by simp
  generalize (w.alloc (Obj.cells #[Value.slice ao n cap] 24)).alloc (Obj.cells #[.int .i64 r, .int .i64 l, .slice ka 4 kc, .slice ba 0 bc] 93) = W0 at *
  go_loopw [5, 68] (fun c i wr => ∃ k : Nat, k ≤ 4 ∧ i = .int .i64 k ∧ c = .int .i64 (nz (ks.take k)) ∧ (ks.take k).all (kidOk s l) = true ∧ Below W0.heap.size W0 wr) (fun _ i _ => 4 - (intOf i).toNat)
  case atStart => exact ⟨0, by omega, rfl, rfl, rfl, Below.refl _ _⟩
  case round =>
    obtain ⟨k, hk4, rfl, rfl, hall, hbel⟩ := hrel
    have HALL := Lib.hid hall
    clear hall
    have hnz := nz_bd (ks.take k)
    have hnz2 : nz (ks.take k) ≤ 4 := by have := hnz.2; simp at this; omega
    have hnz1 := hnz.1
    have hbw := below_step hb0 hbel
    have c1 := ((bcell hbel).1 w.heap.size 0 (by omega)).trans a1
    have c2 := ((bcell hbel).1 (w.heap.size + 1) 1 hz).trans a2
    have l2 : w.heap.size + 1 < wr.heap.size := Nat.lt_of_lt_of_le hz hbel.size
    have l1 : w.heap.size < wr.heap.size := by omega
    clear hnz a1 a2
    by_cases hlt : k < 4
    · have hkl : k < ks.length := by omega
      obtain ⟨kb, ko, rfl, hkc⟩ := hr.at k hkl
      have hck := hkc k hkl
      have hcl := World.block_lt_of_cell? _ _ hck
      have hck := ((bcell hbw).1 kb (ko + k) hcl).trans hck
      have hi := hki _ (List.getElem_mem hkl)
      have e1 : ks.take (k + 1) = ks.take k ++ [ks[k]] := by rw [List.take_succ_eq_append_getElem hkl]
      have E1 := Lib.hid e1
      have hmem := List.getElem_mem hkl
      generalize hx : ks[k] = x at *
      have HX := Lib.hid hx
      have hi1 := hi.1
      have hi2 := hi.2
      clear hx hkc hr e1 hi
      by_cases h0 : x = 0
      · subst h0
        go_wp2
        go_roundw
        case rel => exact ⟨k + 1, by omega, by go_num, by rw [E1.out, nz_snoc]; simp, by rw [E1.out, List.all_append, HALL.out]; simp [kidOk], hbel⟩
        case measure => simp [intOf]; omega
      · have hx0 : (x == 0) = false := by rw [beq_eq_false_iff_ne]; exact h0
        have hsr := hs.mono hbw
        cases ht : thereB s x with
        | false =>
          have HT := Lib.hid ht
          clear ht
          go_wp2_with fail
          refine wp_region_mix (by kernel_rfl) (by kernel_rfl) ?_
          repeat (go_big_quiet_step ((refine calls_mix (v := .bool false) ?_; exact there_any_is _ _ _ _ s _ _ HT.out HN.out hn63 (hsr.mono (mix_below _ _)))))
          refine wpQuiet_nil ?_
          intro w2 hb2
          go_wp2
          go_ret
          refine ⟨ret_int ?_, below_step hbw hb2⟩
          rw [HF.out, if_pos]
          rw [Bool.eq_false_iff]
          intro hh
          rw [List.all_eq_true] at hh
          have h7 := hh x hmem
          unfold kidOk at h7
          rw [HT.out, decide_eq_false h0] at h7
          simp at h7
        | true =>
          have HT := Lib.hid ht
          obtain ⟨j, hj, rfl, hbj⟩ := level_in ht
          clear ht
          have hjn : j < n := by have := HN.out; omega
          obtain ⟨sb, so, rfl, hq⟩ := hsr.at j hj
          have cj := (hq j hj).level
          have lj := (hq j hj).lt
          have hwj := (hwf.at j hj).level
          have HBJ := Lib.hid hbj
          have hj1 : (1 : Int) ≤ (j : Int) + 1 := by omega
          clear hq hbj
          generalize hlev : s[j].level = lev at *
          have HLEV := Lib.hid hlev
          have hw1 := hwj.1
          have hw2 := hwj.2
          clear hwj hlev hi1 hi2
          by_cases he : lev = l - 1
          · have hne : (lev != l - 1) = false := by simp [he]
            have HE := Lib.hid he
            clear he
            go_wp2_with fail
            refine wp_region_mix (by kernel_rfl) (by kernel_rfl) ?_
            repeat (go_big_quiet_step ((refine calls_mix (v := .bool true) ?_; exact there_any_is _ _ _ _ s _ _ HT.out HN.out hn63 (hsr.mono (mix_below _ _)))))
            refine wpQuiet_nil ?_
            intro w2 hb2
            go_wp2

            go_roundw
            case rel =>
              refine ⟨k + 1, by omega, by go_num, ?_, ?_, below_step hbel hb2⟩
              · rw [E1.out, nz_snoc, if_neg h0]
              · rw [E1.out, List.all_append, HALL.out]
                simp only [List.all_cons, List.all_nil, kidOk, HT.out, HBJ.out]
                have := HLEV.out
                simp [hj, this, HE.out]
            case measure => simp [intOf]; omega
          · have hne : (lev != l - 1) = true := by simp [he]
            have HE := Lib.hid he
            clear he
            go_wp2_with fail
            refine wp_region_mix (by kernel_rfl) (by kernel_rfl) ?_
            repeat (go_big_quiet_step ((refine calls_mix (v := .bool true) ?_; exact there_any_is _ _ _ _ s _ _ HT.out HN.out hn63 (hsr.mono (mix_below _ _)))))
            refine wpQuiet_nil ?_
            intro w2 hb2
            go_wp2
            go_ret
            refine ⟨ret_int ?_, below_step hbw hb2⟩
            rw [HF.out, if_pos]
            rw [Bool.eq_false_iff]
            intro hh
            rw [List.all_eq_true] at hh
            have h7 := hh _ hmem
            unfold kidOk at h7
            have h8 := HLEV.out
            rw [HT.out, decide_eq_false h0, HBJ.out] at h7
            simp [hj, h8] at h7
            exact HE.out h7
    · obtain rfl : k = 4 := by omega
      have hkt : ks.take 4 = ks := List.take_of_length_le (by omega)
      rw [hkt] at hnz1 hnz2
      by_cases hz : nz ks = 0
      · have hz' : (nz ks == 0) = true := by rw [hz]; rfl
        have HZ := Lib.hid hz
        have HT := Lib.hid hkt
        clear hz hkt
        rw [HT.out]
        go_wp2
        go_ret
        refine ⟨ret_int ?_, hbw⟩
        have h7 := HALL.out
        rw [HT.out] at h7
        rw [HF.out, h7, (nz_zero ks).1 HZ.out]
        simp
      · have hz' : (nz ks == 0) = false := by rw [beq_eq_false_iff_ne]; exact hz
        have HZ := Lib.hid hz
        have HT := Lib.hid hkt
        clear hz hkt
        rw [HT.out]
        go_wp2
        go_ret
        refine ⟨ret_int ?_, hbw⟩
        have h7 := HALL.out
        rw [HT.out] at h7
        have h8 : ks.all (fun k => decide (k = 0)) = false := by
          rw [Bool.eq_false_iff]
          intro h9
          exact HZ.out ((nz_zero ks).2 h9)
        rw [HF.out, h7, h8]
        simp

theorem form_any (w : World) (ao ka ba : Option Addr) (n cap nk kc nb bc : Nat) (s : List Blk) (r l : Int) (ks bs : List Int) (hn : s.length = n) (hn63 : n ≤ 1152921504606846976) (hs : StoRow w ao s) (hwf : WfS s) (hr : Row .i64 w ka ks)
    (hki : ∀ k ∈ ks, I64 k) (hk : ks.length = nk) (hb : bs.length = nb) (hnk : nk ≤ 17592186044416) (hnb : nb ≤ 140737488351232) :
    Calls Try.prog 86 #[.agg #[.slice ao n cap], .agg #[.int .i64 r, .int .i64 l, .slice ka nk kc, .slice ba nb bc]] w fun e w' => e = .returned (.int .i64 (formE s r l ks bs)) ∧ Below w.heap.size w w' := by
  by_cases h : 0 < r ∧ r ≤ 1000000 ∧ 1 ≤ l ∧ l ≤ 3 ∧ nk = 4 ∧ nb = 0
  · obtain ⟨h1, h2, h3, h4, rfl, rfl⟩ := h
    exact form_loop w ao ka ba n cap kc bc s r l ks bs hn hn63 hs hwf hr hki h1 h2 h3 h4 hk hb
  · exact form_early w ao ka ba n cap nk kc nb bc s r l ks bs hk hb hnk hnb h
end Go.Proofs.Ytfmgdjgedhnmeaa
