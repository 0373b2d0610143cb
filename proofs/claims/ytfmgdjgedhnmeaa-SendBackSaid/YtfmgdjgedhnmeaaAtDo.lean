/- set.at's bytes and lay. -/
import Derived.Test.YtfmgdjgedhnmeaaAtIn
import Derived.Test.YtfmgdjgedhnmeaaFileWrite
namespace Go.Proofs.Ytfmgdjgedhnmeaa
open Go.RowKit
set_option linter.unusedVariables false

theorem readR_all {s : List Blk} {key root : Int} {z : Nat} (hok : fileE s key root z = 0) : readR s key root z 0 256 = (fileB s key root z, 0) := by
  have hl := fileB_len hok
  obtain ⟨-, -, hz, -, -⟩ := fileE_ok hok
  unfold readR
  rw [if_neg (fun h => h hok), if_neg (by omega)]
  rw [List.take_of_length_le (by rw [hl]; show z ≤ 256; omega)]
  rfl

set_option maxRecDepth 100000 in
set_option maxHeartbeats 8000000 in
theorem bytes_any (w : World) (B P base bx n cap z fn fc sn sc : Nat) (key root : Int) (ao fo so : Option Addr) (s : List Blk) (x : SetV) (vs : List Snv) (hA : AtIn w B P base bx key ao n cap s fo fn fc so sn sc x vs) (hwf : WfS s) (hok : fileE s key root z = 0) :
    Calls Try.prog 112 #[.pointer (some ⟨B, 0, none⟩), .agg #[.int .i64 root, .int .i64 z]] w fun e w' => ∃ ao' c', e = .returned (.slice ao' z c') ∧ Row .u8 w' ao' (fileB s key root z) ∧ Capd ao' z c' ∧ Below w.heap.size w w' := by
  have hn4 := hA.n4
  have hz256 := (fileE_ok hok).2.2.1
  have hb0 : Below w.heap.size w (w.alloc (.cells #[.int .i64 root, .int .i64 z] 35)) := (Below.refl _ _).alloc (Nat.le_refl _) _
  have q0 : (w.alloc (.cells #[.int .i64 root, .int .i64 z] 35)).heap[w.heap.size]? = some (.cells #[.int .i64 root, .int .i64 z] 35 (0, 0)) := heap_alloc_new _ _
  have hA1 := hA.mono hb0
  have HA := Lib.hid hA1
  obtain ⟨ao', cap', hv, hc, hr⟩ := hA1.own.sto
  rw [hA1.slen] at hv hc
  simp only [Value.slice.injEq, true_and] at hv
  obtain ⟨rfl, rfl⟩ := hv
  have HC := Lib.hid hc
  have HFL := Lib.hid (fileB_len hok)
  have HRA := Lib.hid (readR_all hok)
  go_enter Try.func112, Try.ntmps112
  go_wp2_with fail
  generalize w.alloc (Obj.cells #[Value.int IntKind.i64 root, Value.int IntKind.i64 z] 35) = W0 at *
  have a0 := cell_of_block hA1.abox 0
  have a1 := cell_of_block hA1.abox 1
  have b0 := cell_of_one hA1.sbox
  have c0 := cell_of_block q0 0
  have c1 := cell_of_block q0 1
  simp at a0 a1 c0 c1
  have l1 := lt_heap hA1.abox
  have l2 := lt_heap hA1.sbox
  have l3 := lt_heap q0
  clear hA hc hA1
  have hrd : StoRow W0.drew ao s := hr.mono (Below.refl _ _).drew
  have HRD := Lib.hid (read_any W0.drew ao n cap s key root z 0 256 HA.out.slen (by omega) hrd hwf ⟨by omega, by omega⟩ HC.out)
  have hbd : Below w.heap.size w W0.drew := hb0.drew
  go_region_with (go_at_call 12; refine HRD.out.mono ?_; rintro e w1 ⟨ra, rn, rc, rfl, hrl, hrr, hrc, hb1⟩)
  all_goals
    rw [HRA.out] at hrl hrr
    simp only at hrl hrr
    have hbw := below_step hbd hb1
    obtain rfl : z = rn := HFL.out.symm.trans hrl
    clear HRD hrl hb1 a0 a1 b0 c0 c1 l1 l2 l3 hr hrd q0 HA
    go_wp2
    go_ret
    exact ⟨_, _, rfl, hrr, hrc, hbw⟩
end Go.Proofs.Ytfmgdjgedhnmeaa
