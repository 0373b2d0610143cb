/- Roots of right entries are there. -/
import Derived.Test.YtfmgdjgedhnmeaaHeld
namespace Go.Proofs.Ytfmgdjgedhnmeaa
open Go.RowKit
set_option linter.unusedVariables false

theorem entsOk_live {s : List Blk} {key : Int} {l : List Ent} (h : EntsOk s key l) : ∀ a ∈ rootsF l, a = 0 ∨ (1 ≤ a ∧ a ≤ s.length ∧ 0 < (blk s a).refs) := fun a ha => by
  obtain ⟨x, hx, rfl⟩ := List.mem_map.1 ha
  obtain ⟨-, -, -, hc, -⟩ := fileE_ok (h.each x hx).2
  obtain ⟨-, m, hm3, hm, hroot, -, -⟩ := checkT_ok hc
  rcases hroot with h | ⟨h, _⟩
  · exact .inl h
  · obtain ⟨k, hk, e, hr⟩ := there_in h
    refine .inr ⟨by omega, by omega, ?_⟩
    rw [e, blk_at s k hk]
    rwa [List.getElem?_eq_getElem hk] at hr
end Go.Proofs.Ytfmgdjgedhnmeaa
