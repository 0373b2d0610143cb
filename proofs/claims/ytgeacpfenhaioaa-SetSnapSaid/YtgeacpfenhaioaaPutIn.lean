/- What rookeryref.PutIn calls. · rookeryref.PutIn: the walk. -/
import Derived.Test.YtgeacpfenhaioaaSetQ
import Derived.Test.YtgeacpfenhaioaaMakeIn
import Derived.Test.YtgeacpfenhaioaaAll
namespace Go.Proofs.Ytgeacpfenhaioaa
open Go.RowKit
set_option linter.unusedVariables false

def someNz (xs : List Int) : Bool := !xs.all fun k => decide (k = 0)

/-- a slice of one, of the call's own -/
theorem Own.one (w : World) (base : Nat) (x : Int) (hb : base ≤ w.heap.size) : Own .i64 3 base (w.alloc (.cells #[.int .i64 x] 3)) (.slice (some ⟨w.heap.size, 0, none⟩) 1 1) [x] :=
  World.ownsRow_lit (base := base) (e := 3) (size := 1) w #[.int .i64 x] 1 hb (by unfold maxLen; omega) rfl

theorem Own.frame {k : IntKind} {e base : Nat} {w w' : World} {v : Value} {xs : List Int} (h : Own k e base w v xs) (hf : ∀ c, c < w.heap.size → base ≤ c → w'.heap[c]? = w.heap[c]?) : Own k e base w' v xs := by
  obtain ⟨h1, h2⟩ := h
  refine ⟨h1, ?_⟩
  rcases h2 with h2 | ⟨g, cap, cur, hv, hg, hh, r⟩
  · exact .inl h2
  · exact .inr ⟨g, cap, cur, hv, hg, by rw [hf g (lt_heap hh) hg]; exact hh, r⟩

/-- the way down, as far as it has been gone -/
def wayTo (m : Nat) (s : List Blk) (root : Int) (i k : Nat) : List Int := (List.range (k + 1)).map fun j => nodeF (m - j) m s root i
theorem wayTo_zero (m : Nat) (s : List Blk) (root : Int) (i : Nat) : wayTo m s root i 0 = [root] := by
  show [nodeF (m - 0) m s root i] = _
  rw [Nat.sub_zero, nodeF_top]
theorem wayTo_succ (m : Nat) (s : List Blk) (root : Int) (i k : Nat) : wayTo m s root i (k + 1) = wayTo m s root i k ++ [nodeF (m - (k + 1)) m s root i] := by
  unfold wayTo
  rw [List.range_succ, List.map_append]
  rfl
theorem wayTo_length (m : Nat) (s : List Blk) (root : Int) (i k : Nat) : (wayTo m s root i k).length = k + 1 := by simp [wayTo]
theorem wayTo_get (m : Nat) (s : List Blk) (root : Int) (i k q : Nat) (h : q < (wayTo m s root i k).length) : (wayTo m s root i k)[q] = nodeF (m - q) m s root i := by simp [wayTo]

/-- a store of one's own at work -/
structure InAt (w w' : World) (base : Nat) (ao : Option Addr) (n cap : Nat) (s t : List Blk) : Prop where
  own : OwnSto w' base (.slice ao n cap) t
  below : Below base w w'
  frame : ∀ c, c < w.heap.size → (∀ g, s ≠ [] → ao = some ⟨g, 0, none⟩ → c ≠ g) → w'.heap[c]? = w.heap[c]?
end Go.Proofs.Ytgeacpfenhaioaa

namespace Go.Proofs.Ytgeacpfenhaioaa
open Go.RowKit
set_option linter.unusedVariables false

/-- what PutIn answers, and leaves -/
def PutInEnd (e : Ending) (w w' : World) (base : Nat) (ao : Option Addr) (n cap : Nat) (s : List Blk) (r : List Blk × Int × Int) : Prop :=
  e = .returned (.tuple #[.int .i64 (if r.2.2 = 0 then r.2.1 else 0), .int .i64 r.2.2]) ∧ Below base w w' ∧ (∀ c, c < w.heap.size → (∀ g, s ≠ [] → ao = some ⟨g, 0, none⟩ → c ≠ g) → w'.heap[c]? = w.heap[c]?) ∧
    (r.2.2 = 0 → OwnSto w' base (.slice ao n cap) r.1)

end Go.Proofs.Ytgeacpfenhaioaa
