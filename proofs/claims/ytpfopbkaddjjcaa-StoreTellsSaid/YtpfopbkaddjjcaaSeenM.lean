/- A map of what was seen. -/
import Derived.Test.YtpfopbkaddjjcaaQue
import Derived.Maps.OwnOps
import Derived.Maps.OwnSet
namespace Go.Proofs.Ytpfopbkaddjjcaa
open Go.RowKit
set_option linter.unusedVariables false

theorem keyed_int : Maps.Keyed Try.prog 3 := Maps.int_keyed (q := .i64) Try.underlying3
theorem zero_bool (w : World) : (zeroValue 4).run Try.prog w = .ok (.bool false) w := by
  have h : (Try.prog.info? 4).map (fun i => i.zero) = some (some (.bool false)) := by kernel_rfl
  cases e : Try.prog.info? 4 with
  | none => rw [e] at h; cases h
  | some i =>
    rw [e] at h
    simp only [Option.map_some, Option.some.injEq] at h
    simp [zeroValue, typeInfo, e, h]

theorem plainElem_bool_inv {H : Type} {P : Program} {e : TypeId} (he : P.underlying e = some .bool) {v : Value} {z : DataW H × List MemPlace} (h : plainElem P e v = some z) : ∃ a, v = .bool a ∧ z = (.lit (.bool a), []) := by
  unfold plainElem at h
  rw [he] at h
  cases v <;> simp at h
  subst h
  exact ⟨_, rfl, rfl⟩

theorem wf_i64 {x : Int} (h : I64 x) : (Lit.int .i64 x).wf = true := by
  unfold I64 at h
  simp [Lit.wf, IntKind.min, IntKind.max, IntKind.signed, IntKind.bits]
  omega

/-- block b is a map that says true of S alone -/
def SeenMap (w : World) (b : Nat) (S : List Int) : Prop :=
  ∃ D : DataW Unit, w.ownsMap Try.prog 3 (plainElem Try.prog 4) b S.length D ∧ Maps.IsMap D ∧ ∀ x, I64 x → D.atKey (.int .i64 x) (.lit (.bool false)) = .lit (.bool (decide (x ∈ S)))

theorem SeenMap.lt {w : World} {b : Nat} {S : List Int} (h : SeenMap w b S) : b < w.heap.size := by
  obtain ⟨D, h1, _⟩ := h
  exact h1.lt

theorem SeenMap.made (w : World) : SeenMap (w.alloc (.map #[] 0)) w.heap.size [] := ⟨.map [], World.ownsMap_made w _ _ _, ⟨_, rfl⟩, fun x _ => by simp [DataW.atKey]⟩

theorem SeenMap.keep {w w' : World} {b : Nat} {S : List Int} (h : SeenMap w b S) (hb : w'.heap[b]? = w.heap[b]?) : SeenMap w' b S := by
  obtain ⟨D, ⟨es, clock, h1, h2⟩, h3⟩ := h
  exact ⟨D, ⟨es, clock, hb.trans h1, h2⟩, h3⟩
theorem SeenMap.mono {w w' : World} {b : Nat} {S : List Int} (h : SeenMap w b S) (hb : Below w.heap.size w w') : SeenMap w' b S := h.keep (hb.block b h.lt)

theorem SeenMap.look {w : World} {b : Nat} {S : List Int} (h : SeenMap w b S) (x : Int) (hx : I64 x) :
    (Instr.lookup 95 (.map (some b)) (.int .i64 x) false).run Try.prog w = .ok (.bool (decide (x ∈ S))) w := by
  obtain ⟨D, h1, _, h3⟩ := h
  obtain ⟨v, ps, hrun, hv⟩ := h1.lookup keyed_int Try.underlying95 (zero_bool w) (Go.plainElem_bool Try.underlying4 false) (Maps.keyOf_int_mk Try.underlying3 (wf_i64 hx))
  obtain ⟨a, rfl, hz⟩ := plainElem_bool_inv Try.underlying4 hv
  rw [h3 x hx] at hz
  simp only [Prod.mk.injEq, DataW.lit.injEq, Lit.bool.injEq] at hz
  rw [hrun, hz.1]

theorem SeenMap.store {w : World} {b : Nat} {S : List Int} (h : SeenMap w b S) (x : Int) (hx : I64 x) (hs : S.length < maxLen) :
    ∃ w', (Instr.mapUpdate 95 (.map (some b)) (.int .i64 x) (.bool true)).run Try.prog w = .ok () w' ∧ SeenMap w' b (S ++ [x]) ∧ w.grownBy w' (some b) := by
  obtain ⟨D, h1, h2, h3⟩ := h
  obtain ⟨w', hrun, ho, hg⟩ := h1.update keyed_int Try.underlying95 hs (Maps.keyOf_int_mk Try.underlying3 (wf_i64 hx)) (Go.plainElem_bool Try.underlying4 true)
  refine ⟨w', hrun, ⟨_, by rw [List.length_append]; exact ho, h2.put _ _, fun y hy => ?_⟩, hg⟩
  by_cases e : y = x
  · subst e
    rw [Maps.atKey_put_same h2 (by trivial)]
    simp
  · rw [Maps.atKey_put_other (by simp; exact e), h3 y hy]
    simp [e]

/-- at the operation -/
theorem store_seen {w : World} {ops : Array Oper} {rest : List Oper} {o : Oper} {a : Act} {Q : Exit → Act → World → Prop} (hgd : o.guard = none) (m x v : Operand) (hop : o.op = Op.mapUpdate 95 m x v)
    {b : Nat} {S : List Int} (h : SeenMap w b S) (k : Int) (hk : I64 k) (hs : S.length < maxLen) (hm : a.eval m = .map (some b)) (hx : a.eval x = .int .i64 k) (hv : a.eval v = .bool true)
    (hK : ∀ w', SeenMap w' b (S ++ [k]) → w.grownBy w' (some b) → wpList Try.prog ops Q rest (a.put o.dst undef) w') : wpList Try.prog ops Q (o :: rest) a w := by
  refine wpList_plain hgd fun K' hK' => ?_
  obtain ⟨w', hrun, r1, r2⟩ := h.store k hk hs
  unfold Oper.wp
  simp [execOp, hop, hm, hx, hv, hrun, Result.andThen]
  exact hK' _ _ (hK w' r1 r2)
end Go.Proofs.Ytpfopbkaddjjcaa
