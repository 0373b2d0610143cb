/- image.read's deferred closure: what recover makes of a torn image. -/
import Derived.Test.YtfmgdjgedhnmeaaImageR
import Derived.Defers
import Derived.Recover
import Derived.Laws.Pointers
import Derived.Lib.ByteType
namespace Go.Proofs.Ytfmgdjgedhnmeaa
open Go.RowKit
set_option linter.unusedVariables false
set_option linter.unusedSimpArgs false

set_option maxRecDepth 100000 in
set_option maxHeartbeats 4000000 in
theorem catch_torn (p q : Nat) (a0 a1 b0 : Value) (older : List PanicEntry) (w : World) (tp tq : Nat) (hp : w.heap[p]? = some (.cells #[a0, a1] tp (0, 0))) (hq : w.heap[q]? = some (.cells #[b0] tq (0, 0))) (hpq : p ≠ q) :
    CallsD Try.prog 93 #[.pointer (some ⟨p, 0, none⟩), .pointer (some ⟨q, 0, none⟩)] (.panicking ({ v := .iface 166 (.agg #[]), recovered := false } :: older)) w fun e u' w' =>
      e = .returned (.tuple #[]) ∧ u' = .panicking ({ v := .iface 166 (.agg #[]), recovered := true } :: older) ∧ w'.heap[p]? = some (.cells #[.slice none 0 0, .slice none 0 0] tp (0, 0)) ∧ w'.heap[q]? = some (.cells #[.bool false] tq (0, 0)) ∧
        w'.os = w.os ∧ w'.tape = w.tape ∧ w'.output = w.output ∧ w.heap.size ≤ w'.heap.size ∧ ∀ b, b < w.heap.size → b ≠ p → b ≠ q → w'.heap[b]? = w.heap[b]? := by
  refine callsD_of_wpS Try.func93 rfl fun c₀ cs hu => ?_
  apply wpS_seq
  apply wpS_region
  simp [wpOpsS, go_sem, recoverD, hu, Try.ntmps93, Exit.thenS]
  have c0 := cell_of_block hp 0
  have c1 := cell_of_block hp 1
  have d0 := cell_of_block hq 0
  simp at c0 c1 d0
  have f0 := free_of_block hp 0
  have f1 := free_of_block hp 1
  have g0 := free_of_block hq 0
  have lp := lt_heap hp
  have lq := lt_heap hq
  have hqp : q ≠ p := Ne.symm hpq
  have hta : ∀ wx, (Instr.typeAssert (.iface 166 (.agg #[])) 20 166 true).run Try.prog wx = .ok (.tuple #[.agg #[], .bool true]) wx := fun _ => rfl
  refine wpS_of_wp ?_
  go_wp2
  cases c₀
  simp at hu
  subst hu
  refine ⟨rfl, _, rfl, _, by simp [results, Try.results93]; rfl, ?_⟩
  refine ⟨rfl, rfl, ?_, ?_, rfl, rfl, rfl, ?_, ?_⟩
  · have h1 := heap_setCell_same' (heap_setCell_same' hp 0 (.slice none 0 0)) 1 (.slice none 0 0)
    have h2 := heap_setCell_ne (a := ⟨q, 0, none⟩) (v := .bool false) h1 hpq
    rw [Below.heap_alloc _ _ _ (by simpa using lp)]
    simpa using h2
  · have h1 := heap_setCell_ne (a := ⟨p, 1, none⟩) (v := .slice none 0 0) (heap_setCell_ne (a := ⟨p, 0, none⟩) (v := .slice none 0 0) hq hqp) hqp
    have h2 := heap_setCell_same' h1 0 (.bool false)
    rw [Below.heap_alloc _ _ _ (by simpa using lq)]
    simpa using h2
  · simp
  · intro b hb h1 h2
    rw [Below.heap_alloc _ _ _ (by simpa using hb), heap_setCell_other _ _ _ _ h2, heap_setCell_other _ _ _ _ h1, heap_setCell_other _ _ _ _ h1]

set_option maxRecDepth 100000 in
set_option maxHeartbeats 4000000 in
theorem catch_idle (p q : Nat) (w : World) :
    CallsD Try.prog 93 #[.pointer (some ⟨p, 0, none⟩), .pointer (some ⟨q, 0, none⟩)] .returning w fun e u' w' => e = .returned (.tuple #[]) ∧ u' = .returning ∧ w' = w := by
  refine callsD_of_wpS Try.func93 rfl fun c₀ cs hu => ?_
  apply wpS_seq
  apply wpS_region
  simp [wpOpsS, go_sem, recoverD, hu, Try.ntmps93, Exit.thenS]
  refine wpS_of_wp ?_
  go_wp2
  cases c₀
  simp at hu
  subst hu
  refine ⟨rfl, _, rfl, _, by simp [results, Try.results93]; rfl, ?_⟩
  exact ⟨rfl, rfl, rfl⟩
end Go.Proofs.Ytfmgdjgedhnmeaa
