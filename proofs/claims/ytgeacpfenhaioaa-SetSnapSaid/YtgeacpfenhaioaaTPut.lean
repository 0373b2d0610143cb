/- tree.Set at any level; tree.Put: a leaf is put below a root. -/
import Derived.Test.YtgeacpfenhaioaaSetS
namespace Go.Proofs.Ytgeacpfenhaioaa
open Go.RowKit
set_option linter.unusedVariables false

theorem set_any : ∀ m : Nat, m ≤ 3 → SetAt m := by
  intro m
  induction m with
  | zero =>
    intro _ w pb base ao ba n cap nb bc s root i b M hn hbox ho hpn hbs hg hM1 hM hr hi hby hnb hb4 hbr hbc
    exact set_zero w pb base ao ba n cap nb bc s root i b M hn hbox ho hpn hbs hg (by omega) hnb hb4 hbr hbc
  | succ m ih => intro h; exact set_succ m (by omega) (ih (by omega))

def tputR (s : List Blk) (root l i : Int) (b : List Int) : List Blk × Int × Int :=
  if checkT s root l i ≠ 0 then ([], 0, checkT s root l i) else if b.length ≠ 0 ∧ b.length ≠ 4 then ([], 0, 2)
  else if (setF l.toNat s root i.toNat b).2.2 ≠ 0 then ([], 0, (setF l.toNat s root i.toNat b).2.2) else setF l.toNat s root i.toNat b

end Go.Proofs.Ytgeacpfenhaioaa
