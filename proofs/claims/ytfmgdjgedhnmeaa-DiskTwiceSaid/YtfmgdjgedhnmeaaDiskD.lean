/- A disk that came in, opened. -/
import Derived.Test.YtfmgdjgedhnmeaaDiskN
namespace Go.Proofs.Ytfmgdjgedhnmeaa
open Go.RowKit Go.ChangeShapes Go.WideShapes Go.Deep Go.Joins
set_option linter.unusedVariables false
section
variable {H : Type} {enc : TypeId × Value → H} {w : World} {base : Nat} {spare : Nat → Bool} {held : Bool}

set_option maxRecDepth 100000 in
/-- a disk by value -/
theorem open_disk {r : Reach} {b0 : Nat} {v : Value} {d : DataW H} {q : List MemPlace} (hv : Value.okWide Try.prog w r b0 57 v) (h : DataW.Trod enc Try.prog w base spare held 57 v d q) (hw : ∀ n ∈ d.weights Try.prog 57, n ≤ reachBytes) :
    ∃ ao an ac bo bn bc x, v = .agg #[.slice ao an ac, .slice bo bn bc] ∧ DiskIn w ao an ac bo bn bc x ∧ DByt x ∧ an ≤ 140737488351232 ∧ bn ≤ 140737488351232 := by
  obtain ⟨cs, rfl, hsz⟩ := okWide_struct Try.underlying57 hv
  obtain ⟨cl⟩ := cs
  have hsz1 : cl.length = 2 := hsz.trans (by kernel_rfl)
  match cl, hsz1 with
  | [v0, v1], _ =>
    obtain ⟨fuel, hf⟩ := h
    obtain ⟨y0, y1, m, hx, _, h0, h1⟩ := trod_struct2 Try.underlying57 hf
    replace h0 : DataW.trod enc Try.prog w base spare held m 38 [v0] = some y0 := h0
    replace h1 : DataW.trod enc Try.prog w base spare held m 38 [v1] = some y1 := h1
    have hd : d = .agg [y0.1, y1.1] := by have := congrArg Prod.fst hx; simpa using this
    subst hd
    obtain ⟨us, s0, w0, b0⟩ := open_sl Try.underlying38 Try.underlying5 (by kernel_rfl) h0
    obtain ⟨vs, s1, w1, b1⟩ := open_sl Try.underlying38 Try.underlying5 (by kernel_rfl) h1
    have hk := b0 (fun n hn => hw n (by simp [DataW.weights, DataW.weightsEach, Try.underlying57, hn]))
    have hbs := b1 (fun n hn => hw n (by simp [DataW.weights, DataW.weightsEach, Try.underlying57, hn]))
    have e1' : Try.prog.bytesOf 5 = 1 := by kernel_rfl
    rw [e1'] at hk hbs
    have hR : reachBytes = 140737488351232 := rfl
    obtain ⟨ao, ac, rfl, r0, c0⟩ := s0
    obtain ⟨bo, bc, rfl, r1, c1⟩ := s1
    exact ⟨ao, us.length, ac, bo, vs.length, bc, ⟨us, vs⟩, rfl, ⟨⟨rfl, LowB.of_row r0, c0⟩, ⟨rfl, LowB.of_row r1, c1⟩⟩, ⟨byt_of w0, byt_of w1⟩, by omega, by omega⟩
end
end Go.Proofs.Ytfmgdjgedhnmeaa
