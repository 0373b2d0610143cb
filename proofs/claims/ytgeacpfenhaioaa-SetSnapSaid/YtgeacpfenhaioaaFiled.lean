/- rookerylaw.crowded: is some block held very often? · rookerylaw.filed: a closed fact. -/
import Derived.Test.YtgeacpfenhaioaaPut
import Derived.Test.YtgeacpfenhaioaaFileFacts
import Derived.Laws.BytesArg
import Derived.Lib.SlBytesConst
namespace Go.Proofs.Ytgeacpfenhaioaa
open Go.RowKit
set_option linter.unusedVariables false

def crowdB (s : List Blk) : Bool := s.any fun x => decide (999000 < x.refs)
theorem crowdB_at {s : List Blk} {k : Nat} (h : k < s.length) (h1 : 999000 < s[k].refs) : crowdB s = true := by
  unfold crowdB
  rw [List.any_eq_true]
  exact ⟨_, List.getElem_mem h, by simpa using h1⟩
theorem crowdB_none {s : List Blk} (h : ∀ j (hj : j < s.length), ¬ 999000 < s[j].refs) : crowdB s = false := by
  rw [Bool.eq_false_iff]
  intro h2
  unfold crowdB at h2
  rw [List.any_eq_true] at h2
  obtain ⟨x, hx, h3⟩ := h2
  obtain ⟨j, hj, rfl⟩ := List.getElem_of_mem hx
  exact h j hj (by simpa using h3)
theorem crowdB_few {s : List Blk} (h : crowdB s = false) : ∀ x ∈ s, x.refs ≤ 999000 := by
  intro x hx
  apply Classical.byContradiction
  intro h1
  rw [Bool.eq_false_iff] at h
  apply h
  unfold crowdB
  rw [List.any_eq_true]
  exact ⟨x, hx, by simp; omega⟩

theorem crowd_one (w : World) (b : Blk) (kv bv : Value) (hk : ∃ a n c, kv = .slice a n c) (hb : ∃ a n c, bv = .slice a n c) :
    Calls Try.prog 35 #[.agg #[.int .i64 b.refs, .int .i64 b.level, kv, bv]] w fun e w' => e = .returned (.bool (decide (999000 < b.refs))) ∧ Below w.heap.size w w' := by
  obtain ⟨a1, n1, c1, rfl⟩ := hk
  obtain ⟨a2, n2, c2, rfl⟩ := hb
  go_enter Try.func35, Try.ntmps35
  go_wp2
  go_ret
  exact ⟨rfl, (Below.refl _ _).alloc (Nat.le_refl _) _⟩

set_option maxRecDepth 100000 in
set_option maxHeartbeats 1000000 in
theorem indexCrowd (w : World) (ao : Option Addr) (n cap : Nat) (s : List Blk) (hn : s.length = n) (h41 : n ≤ 2199023255552) (hs : StoRow w ao s) :
    Calls Try.prog 71 #[.slice ao n cap, .func (.func 35) #[] #[]] w fun e w' => ∃ r : Int, e = .returned (.int .i64 r) ∧ decide (0 ≤ r) = crowdB s ∧ Below w.heap.size w w' := by
  have HN := Lib.hid hn
  clear hn
  go_enter Try.func71, Try.ntmps71
  go_wp2
  go_loopw [8] (fun i wr => ∃ k : Nat, k ≤ n ∧ i = .int .i64 k ∧ Hid (∀ j (hj : j < s.length), j < k → s[j].refs ≤ 999000) ∧ Below w.heap.size w wr) (fun i _ => n - (intOf i).toNat)
  case atStart => exact ⟨0, Nat.zero_le _, rfl, Lib.hid fun j _ hj => absurd hj (Nat.not_lt_zero _), Below.refl _ _⟩
  case round =>
    obtain ⟨k, hkn, rfl, HNO, hbel⟩ := hrel
    by_cases hlt : k < n
    · have hks : k < s.length := by have := HN.out; omega
      obtain ⟨b, o, rfl, hq⟩ := (hs.mono hbel).at k hks
      have hB := hq k hks
      have c0 := hB.refs
      have c1 := hB.level
      obtain ⟨v2, c2, kao, kcap, rfl, hrow, hcd⟩ := hB.kids
      obtain ⟨v3, c3, bao, bcap, rfl, hrow3, hcd3⟩ := hB.bytes
      have lb := hB.lt
      clear hq hB hrow hrow3 hcd hcd3
      go_wp2_with fail
      refine (crowd_one _ s[k] _ _ ⟨_, _, _, rfl⟩ ⟨_, _, _, rfl⟩).mono ?_
      rintro e w2 ⟨rfl, hb2⟩
      by_cases h0 : 999000 < s[k].refs
      · have hb : decide (999000 < s[k].refs) = true := by simpa using h0
        have HF := Lib.hid (crowdB_at hks h0)
        clear h0
        go_wp2
        go_ret
        exact ⟨_, rfl, by rw [HF.out]; simp, below_step hbel hb2⟩
      · have hb : decide (999000 < s[k].refs) = false := by simpa using h0
        have H0 := Lib.hid (show s[k].refs ≤ 999000 by omega)
        clear h0
        go_wp2
        go_roundw
        case rel =>
          refine ⟨k + 1, by omega, by go_num, Lib.hid fun j hj hjk => ?_, below_step hbel hb2⟩
          rcases (show j < k ∨ j = k from by omega) with e | rfl
          · exact HNO.out j hj e
          · exact H0.out
        case measure => simp [intOf]; omega
    · obtain rfl : k = n := by omega
      have HF := Lib.hid (crowdB_none fun j hj => by have := HNO.out j hj (by have := HN.out; omega); omega)
      go_wp2
      go_ret
      exact ⟨_, rfl, by rw [HF.out]; rfl, hbel⟩

set_option maxRecDepth 100000 in
theorem containsCrowd (w : World) (ao : Option Addr) (n cap : Nat) (s : List Blk) (hn : s.length = n) (h41 : n ≤ 2199023255552) (hs : StoRow w ao s) :
    Calls Try.prog 34 #[.slice ao n cap, .func (.func 35) #[] #[]] w fun e w' => e = .returned (.bool (crowdB s)) ∧ Below w.heap.size w w' := by
  have HN := Lib.hid hn
  clear hn
  go_enter Try.func34, Try.ntmps34
  go_wp2_with fail
  refine (indexCrowd _ _ _ _ s HN.out h41 hs).mono ?_
  rintro e w1 ⟨r, rfl, hr, hb1⟩
  have HR := Lib.hid hr
  clear hr
  go_wp2
  go_ret
  exact ⟨by rw [← HR.out]; rfl, hb1⟩

set_option maxRecDepth 100000 in
theorem crowded_any (w : World) (ao : Option Addr) (n cap : Nat) (s : List Blk) (hn : s.length = n) (h41 : n ≤ 2199023255552) (hs : StoRow w ao s) :
    Calls Try.prog 10 #[.agg #[.slice ao n cap]] w fun e w' => e = .returned (.bool (crowdB s)) ∧ Below w.heap.size w w' := by
  have HN := Lib.hid hn
  clear hn
  have hb0 : Below w.heap.size w (w.alloc (.cells #[.slice ao n cap] 24)) := (Below.refl _ _).alloc (Nat.le_refl _) _
  go_enter Try.func10, Try.ntmps10
  go_wp2_with fail
  refine (containsCrowd _ _ _ _ s HN.out h41 (hs.mono hb0)).mono ?_
  rintro e w1 ⟨rfl, hb1⟩
  go_wp2
  go_ret
  exact ⟨rfl, below_step hb0 hb1⟩
end Go.Proofs.Ytgeacpfenhaioaa

namespace Go.Proofs.Ytgeacpfenhaioaa
open Go.RowKit
set_option linter.unusedVariables false

def fd0 : List Blk := List.replicate 20 noBlk
def fd1 : List Blk := [⟨1, 0, [], [189, 150, 116, 25]⟩, noBlk, noBlk, noBlk, ⟨1, 0, [], [32, 112, 235, 225]⟩, ⟨1, 1, [1, 5, 0, 0], []⟩, ⟨1, 2, [6, 0, 0, 0], []⟩, ⟨1, 3, [7, 0, 0, 0], []⟩, noBlk, noBlk, noBlk, noBlk, noBlk, noBlk, noBlk, noBlk, noBlk, noBlk, noBlk, noBlk]
def fd2 : List Blk := [⟨2, 0, [], [189, 150, 116, 25]⟩, ⟨1, 0, [], [53, 233, 235, 225]⟩, ⟨1, 1, [1, 2, 0, 0], []⟩, ⟨1, 2, [3, 0, 0, 0], []⟩, ⟨1, 0, [], [32, 112, 235, 225]⟩, ⟨1, 1, [1, 5, 0, 0], []⟩, ⟨1, 2, [6, 0, 0, 0], []⟩, ⟨1, 3, [7, 0, 0, 0], []⟩, ⟨1, 3, [4, 0, 0, 0], []⟩, noBlk, noBlk, noBlk, noBlk, noBlk, noBlk, noBlk, noBlk, noBlk, noBlk, noBlk]
theorem fd_new : newR 20 = (fd0, 0) := by decide
set_option maxRecDepth 100000 in
theorem fd_w1 : writeR fd0 7 0 0 2 [97, 98, 99] = (fd1, (8, 5), 0) := by decide +kernel
set_option maxRecDepth 100000 in
theorem fd_w2 : writeR fd1 7 8 5 4 [120, 121] = (fd2, (9, 6), 0) := by decide +kernel
set_option maxRecDepth 100000 in
theorem fd_r1 : readR fd2 7 9 6 0 99 = ([0, 0, 97, 98, 120, 121], 0) := by decide +kernel
set_option maxRecDepth 100000 in
theorem fd_r2 : readR fd2 7 8 5 1 3 = ([0, 97, 98], 0) := by decide +kernel
set_option maxRecDepth 100000 in
theorem fd_c : (cutR fd2 7 9 6 0).2 = ((0, 0), 0) := by decide +kernel
theorem fd1_chk : checkE fd1 = 0 := by decide +kernel
theorem fd2_chk : checkE fd2 = 0 := by decide +kernel
theorem fd0_wf : WfS fd0 := fun x hx => by
  rw [(List.mem_replicate.1 hx).2]
  exact sd0_wf noBlk (by simp [sd0])
theorem fd1_wf : WfS fd1 := by
  intro x hx
  simp [fd1] at hx
  rcases hx with rfl | rfl | rfl | rfl | rfl | rfl | rfl <;> constructor <;> (try decide) <;> simp [noBlk, I64, Byt] <;> omega
theorem fd2_wf : WfS fd2 := by
  intro x hx
  simp [fd2] at hx
  rcases hx with rfl | rfl | rfl | rfl | rfl | rfl | rfl | rfl | rfl | rfl <;> constructor <;> (try decide) <;> simp [noBlk, I64, Byt] <;> omega

theorem row_marked {k : IntKind} {w : World} {g : Nat} {xs : List Int} {t : TypeId} {fr : Nat × Nat} (h : w.heap[g]? = some (.cells (icells k xs) t fr)) : Row k w (some ⟨g, 0, none⟩) xs :=
  .inr ⟨g, 0, rfl, fun i hi => by
    have : w.cell? ⟨g, 0 + i, none⟩ = (icells k xs)[0 + i]? := by simp [World.cell?, h]
    rw [this, Nat.zero_add, icells_at k xs i hi]⟩
theorem OwnSto.row {w : World} {base n cap : Nat} {ao : Option Addr} {s : List Blk} (h : OwnSto w base (.slice ao n cap) s) : StoRow w ao s := by
  obtain ⟨a, c, hv, -, hs⟩ := h.sto
  simp only [Value.slice.injEq] at hv
  rw [hv.1]
  exact hs
theorem string_of_row (w : World) (b o n c : Nat) (xs : List Int) (hn : xs.length = n) (h : Row .u8 w (some ⟨b, o, none⟩) xs) : (convert 33 9 (.slice (some ⟨b, o, none⟩) n c)).run Try.prog w = .ok (.string (strOfNums xs)) w := by
  refine run_convert_bytes_arg w 33 5 Try.underlying33 Try.underlying5 b o n c xs hn (fun i hi => ?_) 9 Try.underlying9
  obtain ⟨g, q, e, hc⟩ := h.at i (by omega)
  simp only [Option.some.injEq, Addr.mk.injEq, and_true] at e
  obtain ⟨rfl, rfl⟩ := e
  rw [hc i (by omega), List.getD_eq_getElem?_getD, List.getElem?_eq_getElem (by omega)]
  rfl
/-- the bytes of a string, laid by the program -/
theorem convert_lit (w : World) (C : Array Value) (n c g : Nat) (hg : g = w.heap.size) :
    (convert 33 33 (.slice (some ⟨g, 0, none⟩) n c)).run Try.prog (w.alloc (.cells C 5)) = .ok (.slice (some ⟨g, 0, none⟩) n c) (w.alloc (.cells C 5 (C.size, C.size + 1))) := by
  subst hg
  exact Lib.run_convert_bytes_const w 33 5 C n c Try.underlying33 Try.underlying5

end Go.Proofs.Ytgeacpfenhaioaa
