/- rookeryref.CheckStore: the same. -/
import Derived.Test.YtodogcokljmkmaaOutside
import Derived.Test.YtodogcokljmkmaaFormOf
namespace Go.Proofs.Ytodogcokljmkmaa
open Go.RowKit
set_option linter.unusedVariables false

set_option maxRecDepth 100000 in
set_option maxHeartbeats 1000000 in
theorem checkStore_any (w : World) (ao : Option Addr) (n cap : Nat) (s : List Blk) (hn : s.length = n) (hn63 : n ≤ 1152921504606846976) (hs : StoRow w ao s) (hwf : WfS s) :
    Calls Try.prog 95 #[.agg #[.slice ao n cap]] w fun e w' => e = .returned (.int .i64 (checkE s)) ∧ Below w.heap.size w w' := by
  have HN := Lib.hid hn
  rcases Nat.lt_or_ge 400 n with h4 | h4
  · have HC := Lib.hid (checkE_many s (by omega))
    have hd : decide (400 < (n : Int)) = true := by simp; omega
    clear hn
    go_enter Try.func95, Try.ntmps95
    go_wp2
    go_ret
    exact ⟨ret_int HC.out.symm, (Below.refl _ _).alloc (Nat.le_refl _) _⟩
  · have hd : decide (400 < (n : Int)) = false := by simp; omega
    have h4s : ¬ 400 < s.length := by omega
    have H4 := Lib.hid h4s
    clear hn h4s
    go_enter Try.func95, Try.ntmps95
    go_wp2
    have a1 : (w.alloc (.cells #[.slice ao n cap] 24)).cell? ⟨w.heap.size, 0, none⟩ = some (.slice ao n cap) := by simp
    have hb0 : Below w.heap.size w (w.alloc (.cells #[.slice ao n cap] 24)) := (Below.refl _ _).alloc (Nat.le_refl _) _
    have hz : w.heap.size < (w.alloc (.cells #[.slice ao n cap] 24)).heap.size := by simp
    have hs := hs.mono hb0
    generalize w.alloc (Obj.cells #[Value.slice ao n cap] 24) = W1 at *
    go_loopw [15] (fun i wr => ∃ k : Nat, k ≤ n ∧ i = .int .i64 k ∧ formsE s (s.take k) = 0 ∧ Below W1.heap.size W1 wr) (fun i _ => n - (intOf i).toNat)
    case atStart => exact ⟨0, Nat.zero_le _, rfl, rfl, Below.refl _ _⟩
    case round =>
      obtain ⟨k, hkn, rfl, hf0, hbel⟩ := hrel
      have HF0 := Lib.hid hf0
      have c9 := ((bcell hbel).1 w.heap.size 0 hz).trans a1
      have l9 : w.heap.size < wr.heap.size := Nat.lt_of_lt_of_le hz hbel.size
      clear hf0 a1
      by_cases hlt : k < n
      · have hks : k < s.length := by have := HN.out; omega
        have hs2 := hs.mono hbel
        obtain ⟨b, o, rfl, hq⟩ := hs2.at k hks
        have hB := hq k hks
        have c0 := hB.refs
        have c1 := hB.level
        obtain ⟨v2, c2, kao, kcap, rfl, hrow, hcd⟩ := hB.kids
        obtain ⟨v3, c3, bao, bcap, rfl, hrow3, hcd3⟩ := hB.bytes
        have lb := hB.lt
        have hwk := hwf.at k hks
        have HW := Lib.hid hwk
        clear hq hB hwk hcd hcd3 hrow3
        go_wp2_with fail
        have hba : Below wr.heap.size wr (wr.alloc (.cells #[.int .i64 s[k].refs, .int .i64 s[k].level, .slice kao s[k].kids.length kcap, .slice bao s[k].bytes.length bcap] 87)) := (Below.refl _ _).alloc (Nat.le_refl _) _
        by_cases hfe : formB s s[k] = 0
        · refine (formOf_any _ _ _ _ _ _ _ _ _ _ s s[k].refs s[k].level s[k].kids s[k].bytes HN.out hn63 (hs2.mono hba) hwf (hrow.mono hba) HW.out.kids rfl rfl).mono ?_
          rintro e w2 ⟨rfl, hb2⟩
          have hst := formsE_step s k hks HF0.out hfe
          have hfe' : formE s s[k].refs s[k].level s[k].kids s[k].bytes = 0 := hfe
          have HST := Lib.hid hst
          clear hst hfe
          go_wp2
          go_roundw
          case rel => exact ⟨k + 1, by omega, by go_num, HST.out, below_step hbel (below_step hba hb2)⟩
          case measure => simp [intOf]; omega
        · refine (formOf_any _ _ _ _ _ _ _ _ _ _ s s[k].refs s[k].level s[k].kids s[k].bytes HN.out hn63 (hs2.mono hba) hwf (hrow.mono hba) HW.out.kids rfl rfl).mono ?_
          rintro e w2 ⟨rfl, hb2⟩
          have hst := formsE_stop s k hks HF0.out hfe
          have hch := checkE_form s H4.out (by rw [hst]; exact hfe)
          rw [hst] at hch
          have hfe' : (formE s s[k].refs s[k].level s[k].kids s[k].bytes == 0) = false := by rw [beq_eq_false_iff_ne]; exact hfe
          have hfe2 : (formE s s[k].refs s[k].level s[k].kids s[k].bytes != 0) = true := by rw [bne_iff_ne]; exact hfe
          have HCH := Lib.hid hch
          clear hst hfe hch
          go_wp2
          go_ret
          exact ⟨ret_int HCH.out.symm, below_step hb0 (below_step hbel (below_step hba hb2))⟩
      · obtain rfl : k = n := by omega
        have ht : s.take k = s := List.take_of_length_le (by have := HN.out; omega)
        have hfz : formsE s s = 0 := by have := HF0.out; rw [ht] at this; exact this
        have HC := Lib.hid (checkE_tail s H4.out hfz)
        have hki := kidsIn_of s hfz
        have hri := refsIn_of s hfz
        have hs2 := hs.mono hbel
        clear ht hfz
        go_wp2_with fail
        refine (outsideOf_any _ _ _ _ s HN.out h4 hs2 hki hri).mono ?_
        rintro e w3 ⟨v3, rfl, ho3, hb3⟩
        obtain ⟨ao3, cap3, rfl, _, _, hrow3⟩ := ho3.shape
        rw [outL_length, HN.out]
        clear hs2
        go_wp2
        go_loopw [29] (fun i wr => ∃ m : Nat, m ≤ k ∧ i = .int .i64 m ∧ noneTo s m = true ∧ Below w3.heap.size w3 wr) (fun i _ => k - (intOf i).toNat)
        case atStart => exact ⟨0, Nat.zero_le _, rfl, noneTo_zero s, Below.refl _ _⟩
        case round =>
          obtain ⟨m, hmn, rfl, hno, hbel3⟩ := hrel
          have HNO := Lib.hid hno
          clear hno
          by_cases hlt2 : m < k
          · have hms : m < s.length := by have := HN.out; omega
            have hmo : m < (outL s).length := by rw [outL_length]; exact hms
            have hstep := noneTo_succ s m hmo HNO.out
            have hany := any_at s m hmo
            obtain ⟨g, o3, rfl, hcg⟩ := hrow3.at m hmo
            have hcg := hcg m hmo
            have hgl := World.block_lt_of_cell? _ _ hcg
            have hcg := ((bcell hbel3).1 _ _ hgl).trans hcg
            have hgl2 : g < wr.heap.size := Nat.lt_of_lt_of_le hgl hbel3.size
            generalize (outL s)[m] = bm at *
            by_cases hcmp : bm < 0
            · have HA := Lib.hid (hany (by omega))
              clear hany hstep
              go_wp2
              go_ret
              exact ⟨ret_int (by rw [HC.out, HA.out]; rfl), below_step hb0 (below_step hbel (below_step hb3 hbel3))⟩
            · have HA := Lib.hid (hstep (by omega))
              clear hany hstep
              go_wp2
              go_roundw
              case rel => exact ⟨m + 1, by omega, by go_num, HA.out, hbel3⟩
              case measure => simp [intOf]; omega
          · obtain rfl : m = k := by omega
            have hna := noneTo_any s (by have := HN.out; rw [this]; exact HNO.out)
            have HNA := Lib.hid hna
            clear hna
            go_wp2
            go_ret
            exact ⟨ret_int (by rw [HC.out, HNA.out]; rfl), below_step hb0 (below_step hbel (below_step hb3 hbel3))⟩
end Go.Proofs.Ytodogcokljmkmaa
