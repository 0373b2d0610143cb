/- Regions that draw their order, whose callees may make memory of their own: one walk of the text's order, if what each operation yields does not depend on new memory. -/
import Derived.Test.YtpfopbkaddjjcaaBase
namespace Go.Proofs.Ytpfopbkaddjjcaa
open Go.RowKit
set_option linter.unusedVariables false

open Classical in
/-- x, if it is w with new memory; else w itself -/
noncomputable def mix (w x : World) : World := if Below w.heap.size w x then x else w

theorem mix_below (w x : World) : Below w.heap.size w (mix w x) := by
  unfold mix
  split
  · assumption
  · exact Below.refl _ _

theorem mix_of {w x : World} (h : Below w.heap.size w x) : mix w x = x := by
  unfold mix
  rw [if_pos h]

@[go_sem] theorem mix_cell (w x : World) (b o : Nat) (h : b < w.heap.size) : (mix w x).cell? ⟨b, o, none⟩ = w.cell? ⟨b, o, none⟩ := (bcell (mix_below w x)).1 b o h

@[go_sem] theorem mix_lt (w x : World) (b : Nat) (h : b < w.heap.size) : (b < (mix w x).heap.size) = True := by
  have := (mix_below w x).size
  simp; omega

/-- a callee that makes memory of its own alone -/
theorem calls_mix {P : Program} {f : FuncId} {args : Array Value} {w n : World} {v : Value} (h : Calls P f args (mix w n) fun e w' => e = .returned v ∧ Below (mix w n).heap.size (mix w n) w') :
    Calls P f args (mix w n) fun e w'' => e = .returned v ∧ ∃ x, w'' = mix w x :=
  h.mono fun _ w' ⟨he, hb⟩ => ⟨he, w', (mix_of (below_step (mix_below w n) hb)).symm⟩

theorem wp_region_mix {P : Program} {id : Nat} {Q : Exit → Act → World → Prop} {a : Act} {w : World} {l : List Oper} (hm : P.follows .mixedOrders = true) (hB : Region.lexB .any l.toArray = true)
    (h : wpQuiet P l.toArray (fun w' => ∃ x, w' = mix w x) (fun a' => ∀ w', Below w.heap.size w w' → Q .normal a' w') l a) : (Code.region id l.toArray true).wp P Q a w := by
  have hd : Below w.heap.size w { w with drawn := w.drawn + 1 } := ⟨rfl, rfl, rfl, Nat.le_refl _, fun _ _ => rfl⟩
  refine wp_region_quiet (C := fun w' => ∃ x, w' = mix w x) hm hB ⟨{ w with drawn := w.drawn + 1 }, (mix_of hd).symm⟩ ?_
  have e : (fun a' => ∀ w', (∃ x, w' = mix w x) → Q .normal a' w') = (fun a' => ∀ w', Below w.heap.size w w' → Q .normal a' w') := by
    funext a'
    refine propext ⟨fun h w' hb => h w' ⟨w', (mix_of hb).symm⟩, fun h w' ⟨x, hx⟩ => ?_⟩
    subst hx
    exact h _ (mix_below w x)
  rw [e]
  simpa using h
end Go.Proofs.Ytpfopbkaddjjcaa
