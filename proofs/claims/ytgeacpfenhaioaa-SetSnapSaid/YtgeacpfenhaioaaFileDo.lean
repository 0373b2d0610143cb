/- file.turned, Over, Read, Write, Cut. -/
import Derived.Test.YtgeacpfenhaioaaTurn
namespace Go.Proofs.Ytgeacpfenhaioaa
open Go.RowKit
set_option linter.unusedVariables false

theorem four_allocs (w : World) (a b c d : Obj) :
    Below w.heap.size w ((((w.alloc a).alloc b).alloc c).alloc d) ∧ ((((w.alloc a).alloc b).alloc c).alloc d).heap[w.heap.size]? = some a ∧ ((((w.alloc a).alloc b).alloc c).alloc d).heap[w.heap.size + 1]? = some b ∧
      ((((w.alloc a).alloc b).alloc c).alloc d).heap[w.heap.size + 1 + 1]? = some c ∧ ((((w.alloc a).alloc b).alloc c).alloc d).heap[w.heap.size + 1 + 1 + 1]? = some d ∧ ((((w.alloc a).alloc b).alloc c).alloc d).heap.size = w.heap.size + 4 := by
  refine ⟨((((Below.refl _ _).alloc (Nat.le_refl _) _).alloc (by simp) _).alloc (by simp; omega) _).alloc (by simp; omega) _, ?_, ?_, ?_, ?_, by simp⟩
  · rw [Below.heap_alloc _ _ _ (by simp; omega), Below.heap_alloc _ _ _ (by simp; omega)]; exact heap_alloc2_old _ _ _
  · rw [Below.heap_alloc _ _ _ (by simp), Below.heap_alloc _ _ _ (by simp)]; exact heap_alloc2_new _ _ _
  · rw [Below.heap_alloc _ _ _ (by simp)]
    have h := heap_alloc_new ((w.alloc a).alloc b) c
    rw [show ((w.alloc a).alloc b).heap.size = w.heap.size + 1 + 1 from by simp] at h
    exact h
  · have h := heap_alloc_new (((w.alloc a).alloc b).alloc c) d
    rw [show (((w.alloc a).alloc b).alloc c).heap.size = w.heap.size + 1 + 1 + 1 from by simp] at h
    exact h

/-- a store and a file are put where results lie -/
theorem put_results {X : World} {k2 k3 t2 t3 l c : Nat} {x0 : Option Addr} {a b : Int} (p3 : X.heap[k2]? = some (.cells #[.slice x0 l c] t2 (0, 0))) (p4 : X.heap[k3]? = some (.cells #[.int .i64 a, .int .i64 b] t3 (0, 0))) (h23 : k2 ≠ k3) (v : Value) (x y : Int) :
    (((X.setCell ⟨k2, 0, none⟩ v).setCell ⟨k3, 0, none⟩ (.int .i64 x)).setCell ⟨k3, 1, none⟩ (.int .i64 y)).heap[k2]? = some (.cells #[v] t2 (0, 0)) ∧
    (((X.setCell ⟨k2, 0, none⟩ v).setCell ⟨k3, 0, none⟩ (.int .i64 x)).setCell ⟨k3, 1, none⟩ (.int .i64 y)).heap[k3]? = some (.cells #[.int .i64 x, .int .i64 y] t3 (0, 0)) ∧
    (∀ base (ao : Option Addr) n cap (s : List Blk) M, OwnSto X base (.slice ao n cap) s → Good s M → k2 < base → k3 < base → OwnSto (((X.setCell ⟨k2, 0, none⟩ v).setCell ⟨k3, 0, none⟩ (.int .i64 x)).setCell ⟨k3, 1, none⟩ (.int .i64 y)) base (.slice ao n cap) s) ∧
    (∀ B w0, Below B w0 X → B ≤ k2 → B ≤ k3 → Below B w0 (((X.setCell ⟨k2, 0, none⟩ v).setCell ⟨k3, 0, none⟩ (.int .i64 x)).setCell ⟨k3, 1, none⟩ (.int .i64 y))) := by
  have q3 := one_setCell (u := v) p3
  have q4 : (X.setCell ⟨k2, 0, none⟩ v).heap[k3]? = _ := heap_setCell_ne p4 (Ne.symm h23)
  refine ⟨heap_setCell_ne (heap_setCell_ne q3 h23) h23, file_set q4 x y, fun base ao n cap s M ho hG h2 h3 => ?_, fun B w0 hb h2 h3 => ((hb.setCell (p := ⟨k2, 0, none⟩) h2 v).setCell (p := ⟨k3, 0, none⟩) h3 _).setCell (p := ⟨k3, 1, none⟩) h3 _⟩
  exact own_file (ho.box p3 h2 v) hG q4 (fun g h1 h4 => by have := ((ho.box p3 h2 v).own_at h1 h4).le; omega) x y

/-- so far all is right -/
theorem turned_all {s : List Blk} (hc : checkE s = 0) (hw : WfS s) {root M0 : Int} (hr : RootAt s 3 root) (hfew : ∀ x ∈ s, x.refs ≤ M0) (hM : 1 ≤ M0) (hM2 : M0 ≤ 1000000) {key : Int} {was now : List Int} (hnow : now.length = 256) (hby : Byt now) :
    ∀ i, i ≤ 64 → (turnTo key was now (startR s root) i).2.2 = 0 → Turned M0 s key was now (leavesF 3 s root) i (turnTo key was now (startR s root) i) := by
  intro i
  induction i with
  | zero => intro _ _; exact turned_start hc hw hr hfew hM hM2 key was now
  | succ i ih =>
    intro hi he
    have h0 : (turnTo key was now (startR s root) i).2.2 = 0 := by
      by_cases h : (turnTo key was now (startR s root) i).2.2 = 0
      · exact h
      · rw [turnTo_bad h (i + 1) (by omega)] at he
        exact absurd he h
    exact turned_step hc hw hnow hby (by omega) hM hM2 (ih (by omega) h0) h0 he

def turnR (s : List Blk) (key root z : Int) (b : List Int) : List Blk × Int × Int := turnTo key (pad (fileB s key root z)) (pad b) (startR s root) 64
/-- what turned gives -/
def turnedR (s : List Blk) (key root z : Int) (b : List Int) : List Blk × (Int × Int) × Int :=
  if (turnR s key root z b).2.2 = 0 then ((turnR s key root z b).1, ((turnR s key root z b).2.1, (b.length : Int)), 0) else ([], (0, 0), (turnR s key root z b).2.2)

theorem turnR_good {s : List Blk} {key root z : Int} {b : List Int} (hok : fileE s key root z = 0) (hwf : WfS s) (hb : Byt b) (hb4 : b.length ≤ 256) (he : (turnR s key root z b).2.2 = 0) : Good (turnR s key root z b).1 1000833 := by
  obtain ⟨-, -, -, hc, -⟩ := fileE_ok hok
  obtain ⟨hce, m, hm3, hm, hroot, -, -⟩ := checkT_ok hc
  obtain rfl : m = 3 := by omega
  have h64 : (64 : Nat) ≤ 64 := Nat.le_refl _
  unfold turnR at *
  generalize h64e : (64 : Nat) = k64 at he h64 ⊢
  have h := turned_all hce hwf hroot (M0 := 1000000) (fun x hx => ((checkE_zero s hce).2.2.2.1 x hx).2) (by omega) (by omega) (pad_len b hb4) (pad_byt hb) k64 (by omega) he
  exact h.at_.good.weaken (by omega)

/-- a store, a file, an error -/
def FileEnd (e : Ending) (w w' : World) (r : List Blk × (Int × Int) × Int) : Prop :=
  ∃ v, e = .returned (.tuple #[.agg #[v], .agg #[.int .i64 r.2.1.1, .int .i64 r.2.1.2], .int .i64 r.2.2]) ∧ OwnSto w' w.heap.size v r.1 ∧ Below w.heap.size w w'

end Go.Proofs.Ytgeacpfenhaioaa
