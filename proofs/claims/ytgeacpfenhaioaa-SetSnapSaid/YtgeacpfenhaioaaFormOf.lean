/- rookeryref.FormOf: what is wrong with a block by itself: the same. · rookeryref.FormOf: a leaf; all cases. -/
import Derived.Test.YtgeacpfenhaioaaForm
namespace Go.Proofs.Ytgeacpfenhaioaa
open Go.RowKit
set_option linter.unusedVariables false

def anyNz (l : List Int) : Bool := l.any fun k => decide (k ≠ 0)
theorem anyNz_snoc (l : List Int) (k : Int) : anyNz (l ++ [k]) = (anyNz l || decide (k ≠ 0)) := by simp [anyNz, List.any_append]
theorem anyNz_not (l : List Int) : l.all (fun k => decide (k = 0)) = !anyNz l := by
  unfold anyNz
  rw [List.not_any_eq_all_not]
  congr 1
  funext k
  by_cases h : k = 0 <;> simp [h]

theorem wrap_lev (lev l lv : Int) (h1 : -9223372036854775808 ≤ lev) (h2 : lev ≤ 9223372036854775807) (h3 : 1 ≤ l) (h4 : l ≤ 3) (h : IntKind.i64.wrap (lev + 1) = lv) : (lv != l) = (lev != l - 1) := by
  rw [IntKind.wrap_i64] at h
  rw [Bool.eq_iff_iff, bne_iff_ne, bne_iff_ne]
  omega

end Go.Proofs.Ytgeacpfenhaioaa

namespace Go.Proofs.Ytgeacpfenhaioaa
open Go.RowKit
set_option linter.unusedVariables false

end Go.Proofs.Ytgeacpfenhaioaa
