/-
  No cell of these rows narrows 'for every input' (looked for: loops, veiled, ifaces, maps, wideKeys, modest, calm, conditions, laid).
  DERIVED. THE GIVEN ROWS OF THIS SEAT. 7 by the template 'for every input the law returns true; each argument reads behind the call as it read before'; 0 by the template 'total and deterministic' (their statements: YtfmgdjgedhnmeaaTotals.lean).
  GIVEN WITH THE SEED: the statements are not yours to turn. If you find one false, say at which input.
  Laid BY PROGRAM, IN A SANDBOX (cutbox-rows.mjs): the forced cells as the released guide's own fill.sh prints them over the translation a4f073f1e954477a… (all of the seat's roots in one cut). By AI agents, Wed Nov 11 2026. No macro, syntax, notation, axiom, sorry.
-/
import Derived.Test.YtfmgdjgedhnmeaaChecked
import GoSem.Claim
import GoSem.ClaimJoined
import GoSem.ClaimMapViews
import Derived.JoinedTies
import Derived.KernelRfl
namespace Go.Proofs.Ytfmgdjgedhnmeaa
/- THE CELL 'sum', in the pinned program and in every row, IS THE sha256 OF THE DUMP (.gsa) THAT YtfmgdjgedhnmeaaProg.lean LOADS. Nothing in Lean hashes anything: it is a label: what it is worth is what the hold of that sum in a sandbox is worth. -/
noncomputable def Try.pinned : Pinned := { name := "ytfmgdjgedhnmeaa", sum := "a4f073f1e954477a861c33a409d366b3f22e0ffb0c8d6d9182712e123df03a20", checked := Try.checked }
namespace Rows
def none {H : Type} : Left H := { results := [], args := [] }

/-- 'rookerylaw.SendNothing': WHATEVER THE INPUT: true; the input reads as it did. -/
def sendNothingSpec : ChangeSpec := { name := "sendNothing", fn := fun _ => fun
  | [d1, d2, d3, d4] => { results := [.lit (.bool true)], args := [d1, d2, d3, d4] }
  | _ => none }
def sendNothingRow : OpenClaim := { program := "ytfmgdjgedhnmeaa", sum := "a4f073f1e954477a861c33a409d366b3f22e0ffb0c8d6d9182712e123df03a20", func := "rookery/rookerylaw.SendNothing", spec := "sendNothing", inPlace := ["internal/bytealg.abigen_runtime_cmpstring", "slices.overlaps[rookery/api.Entry]", "slices.overlaps[rookery/api.Snap]"], unfollowed := true, recurses := true, apart := false }
def SendNothingSaid : Prop := sendNothingRow.holds Try.pinned (OpenSpec.ofChange sendNothingSpec)

/-- ITS FALSE NEIGHBOUR: 'it returns false'. Refute it at one input. -/
def sendNothingWrong : ChangeSpec := { name := "sendNothing", fn := fun _ => fun
  | [d1, d2, d3, d4] => { results := [.lit (.bool false)], args := [d1, d2, d3, d4] }
  | _ => none }
def SendNothingWrongFalsely : Prop := sendNothingRow.holds Try.pinned (OpenSpec.ofChange sendNothingWrong)

/-- 'rookerylaw.SendBack': WHATEVER THE INPUT: true; the input reads as it did. -/
def sendBackSpec : ChangeSpec := { name := "sendBack", fn := fun _ => fun
  | [d1, d2, d3, d4] => { results := [.lit (.bool true)], args := [d1, d2, d3, d4] }
  | _ => none }
def sendBackRow : OpenClaim := { program := "ytfmgdjgedhnmeaa", sum := "a4f073f1e954477a861c33a409d366b3f22e0ffb0c8d6d9182712e123df03a20", func := "rookery/rookerylaw.SendBack", spec := "sendBack", inPlace := ["internal/bytealg.abigen_runtime_cmpstring", "slices.overlaps[rookery/api.Entry]", "slices.overlaps[rookery/api.Snap]"], unfollowed := true, recurses := true, apart := false }
def SendBackSaid : Prop := sendBackRow.holds Try.pinned (OpenSpec.ofChange sendBackSpec)

/-- ITS FALSE NEIGHBOUR: 'it returns false'. Refute it at one input. -/
def sendBackWrong : ChangeSpec := { name := "sendBack", fn := fun _ => fun
  | [d1, d2, d3, d4] => { results := [.lit (.bool false)], args := [d1, d2, d3, d4] }
  | _ => none }
def SendBackWrongFalsely : Prop := sendBackRow.holds Try.pinned (OpenSpec.ofChange sendBackWrong)

/-- 'rookerylaw.ImageApart': WHATEVER THE INPUT: true; the input reads as it did. -/
def imageApartSpec : ChangeSpec := { name := "imageApart", fn := fun _ => fun
  | [d1, d2] => { results := [.lit (.bool true)], args := [d1, d2] }
  | _ => none }
def imageApartRow : OpenClaim := { program := "ytfmgdjgedhnmeaa", sum := "a4f073f1e954477a861c33a409d366b3f22e0ffb0c8d6d9182712e123df03a20", func := "rookery/rookerylaw.ImageApart", spec := "imageApart", unfollowed := true, recurses := true, apart := false }
def ImageApartSaid : Prop := imageApartRow.holds Try.pinned (OpenSpec.ofChange imageApartSpec)

/-- ITS FALSE NEIGHBOUR: 'it returns false'. Refute it at one input. -/
def imageApartWrong : ChangeSpec := { name := "imageApart", fn := fun _ => fun
  | [d1, d2] => { results := [.lit (.bool false)], args := [d1, d2] }
  | _ => none }
def ImageApartWrongFalsely : Prop := imageApartRow.holds Try.pinned (OpenSpec.ofChange imageApartWrong)

/-- 'rookerylaw.ImageBack': WHATEVER THE INPUT: true; the input reads as it did. -/
def imageBackSpec : ChangeSpec := { name := "imageBack", fn := fun _ => fun
  | [d1, d2, d3] => { results := [.lit (.bool true)], args := [d1, d2, d3] }
  | _ => none }
def imageBackRow : OpenClaim := { program := "ytfmgdjgedhnmeaa", sum := "a4f073f1e954477a861c33a409d366b3f22e0ffb0c8d6d9182712e123df03a20", func := "rookery/rookerylaw.ImageBack", spec := "imageBack", unfollowed := true, recurses := true, apart := false }
def ImageBackSaid : Prop := imageBackRow.holds Try.pinned (OpenSpec.ofChange imageBackSpec)

/-- ITS FALSE NEIGHBOUR: 'it returns false'. Refute it at one input. -/
def imageBackWrong : ChangeSpec := { name := "imageBack", fn := fun _ => fun
  | [d1, d2, d3] => { results := [.lit (.bool false)], args := [d1, d2, d3] }
  | _ => none }
def ImageBackWrongFalsely : Prop := imageBackRow.holds Try.pinned (OpenSpec.ofChange imageBackWrong)

/-- 'rookerylaw.DiskTorn': WHATEVER THE INPUT: true; the input reads as it did. -/
def diskTornSpec : ChangeSpec := { name := "diskTorn", fn := fun _ => fun
  | [d1, d2, d3, d4] => { results := [.lit (.bool true)], args := [d1, d2, d3, d4] }
  | _ => none }
def diskTornRow : OpenClaim := { program := "ytfmgdjgedhnmeaa", sum := "a4f073f1e954477a861c33a409d366b3f22e0ffb0c8d6d9182712e123df03a20", func := "rookery/rookerylaw.DiskTorn", spec := "diskTorn", unfollowed := true, recurses := true, apart := false }
def DiskTornSaid : Prop := diskTornRow.holds Try.pinned (OpenSpec.ofChange diskTornSpec)

/-- ITS FALSE NEIGHBOUR: 'it returns false'. Refute it at one input. -/
def diskTornWrong : ChangeSpec := { name := "diskTorn", fn := fun _ => fun
  | [d1, d2, d3, d4] => { results := [.lit (.bool false)], args := [d1, d2, d3, d4] }
  | _ => none }
def DiskTornWrongFalsely : Prop := diskTornRow.holds Try.pinned (OpenSpec.ofChange diskTornWrong)

/-- 'rookerylaw.DiskTwice': WHATEVER THE INPUT: true; the input reads as it did. -/
def diskTwiceSpec : ChangeSpec := { name := "diskTwice", fn := fun _ => fun
  | [d1, d2, d3] => { results := [.lit (.bool true)], args := [d1, d2, d3] }
  | _ => none }
def diskTwiceRow : OpenClaim := { program := "ytfmgdjgedhnmeaa", sum := "a4f073f1e954477a861c33a409d366b3f22e0ffb0c8d6d9182712e123df03a20", func := "rookery/rookerylaw.DiskTwice", spec := "diskTwice", unfollowed := true, recurses := true, apart := false }
def DiskTwiceSaid : Prop := diskTwiceRow.holds Try.pinned (OpenSpec.ofChange diskTwiceSpec)

/-- ITS FALSE NEIGHBOUR: 'it returns false'. Refute it at one input. -/
def diskTwiceWrong : ChangeSpec := { name := "diskTwice", fn := fun _ => fun
  | [d1, d2, d3] => { results := [.lit (.bool false)], args := [d1, d2, d3] }
  | _ => none }
def DiskTwiceWrongFalsely : Prop := diskTwiceRow.holds Try.pinned (OpenSpec.ofChange diskTwiceWrong)

/-- 'rookerylaw.PoolUses': WHATEVER THE INPUT: true; the input reads as it did. -/
def poolUsesSpec : ChangeSpec := { name := "poolUses", fn := fun _ => fun
  | [d1, d2, d3, d4] => { results := [.lit (.bool true)], args := [d1, d2, d3, d4] }
  | _ => none }
def poolUsesRow : OpenClaim := { program := "ytfmgdjgedhnmeaa", sum := "a4f073f1e954477a861c33a409d366b3f22e0ffb0c8d6d9182712e123df03a20", func := "rookery/rookerylaw.PoolUses", spec := "poolUses", inPlace := ["internal/bytealg.abigen_runtime_cmpstring", "slices.overlaps[rookery/api.Set]", "slices.overlaps[rookery/api.Entry]", "slices.overlaps[rookery/api.Snap]"], unfollowed := true, recurses := true, apart := false }
def PoolUsesSaid : Prop := poolUsesRow.holds Try.pinned (OpenSpec.ofChange poolUsesSpec)

/-- ITS FALSE NEIGHBOUR: 'it returns false'. Refute it at one input. -/
def poolUsesWrong : ChangeSpec := { name := "poolUses", fn := fun _ => fun
  | [d1, d2, d3, d4] => { results := [.lit (.bool false)], args := [d1, d2, d3, d4] }
  | _ => none }
def PoolUsesWrongFalsely : Prop := poolUsesRow.holds Try.pinned (OpenSpec.ofChange poolUsesWrong)

/- THE SECOND FORM. 'bulk': how many values and letters a reading holds, each counted each time it is reached (what is shared counts as often as it is met; a slice's spare places count too). A statement '..UptoSaid' is the law's where the arguments, and the package variables that the reading takes, are together of bulk at most 1048576: NARROWER than '..Said'. Prove '..Said' where nothing that the law and all that it calls make is longer than what came in: it says more and counts as full. Else prove '..UptoSaid'. A law counts once. -/
mutual
def uptoBulk {H : Type} : DataW H → Nat
  | .lit (.string bytes) => bytes.length + 1
  | .lit _ => 1
  | .nil => 1
  | .ptr d => uptoBulk d + 1
  | .slice elems spare => uptoBulkAll elems + uptoBulkAll spare + 1
  | .agg parts => uptoBulkAll parts + 1
  | .iface _ d => uptoBulk d + 1
  | .map entries => uptoBulkEntries entries + 1
  | .held _ => 1
def uptoBulkAll {H : Type} : List (DataW H) → Nat
  | [] => 0
  | d :: r => uptoBulk d + uptoBulkAll r
def uptoBulkEntries {H : Type} : List (Lit × DataW H) → Nat
  | [] => 0
  | x :: r => uptoBulkEntry x + uptoBulkEntries r
def uptoBulkEntry {H : Type} : Lit × DataW H → Nat
  | (.string bytes, d) => bytes.length + uptoBulk d + 1
  | (_, d) => uptoBulk d + 1
 end
def uptoSmall : (H : Type) → List (DataW H) → Bool := fun _ ds => decide (uptoBulkAll ds ≤ 1048576)
def OpenSpec.upto (s : _root_.Go.ChangeSpec) : _root_.Go.OpenSpec := { _root_.Go.OpenSpec.ofChange s with cond := some uptoSmall }

/-- 'rookerylaw.SendNothing', WHERE WHAT IT READS IS OF BULK AT MOST 1048576: true; the input reads as it did. -/
def sendNothingUptoRow : OpenClaim := { program := "ytfmgdjgedhnmeaa", sum := "a4f073f1e954477a861c33a409d366b3f22e0ffb0c8d6d9182712e123df03a20", func := "rookery/rookerylaw.SendNothing", spec := "sendNothing", inPlace := ["internal/bytealg.abigen_runtime_cmpstring", "slices.overlaps[rookery/api.Entry]", "slices.overlaps[rookery/api.Snap]"], unfollowed := true, recurses := true, apart := false, narrowed := true }
def SendNothingUptoSaid : Prop := sendNothingUptoRow.holds Try.pinned (OpenSpec.upto sendNothingSpec)

/-- 'rookerylaw.SendBack', WHERE WHAT IT READS IS OF BULK AT MOST 1048576: true; the input reads as it did. -/
def sendBackUptoRow : OpenClaim := { program := "ytfmgdjgedhnmeaa", sum := "a4f073f1e954477a861c33a409d366b3f22e0ffb0c8d6d9182712e123df03a20", func := "rookery/rookerylaw.SendBack", spec := "sendBack", inPlace := ["internal/bytealg.abigen_runtime_cmpstring", "slices.overlaps[rookery/api.Entry]", "slices.overlaps[rookery/api.Snap]"], unfollowed := true, recurses := true, apart := false, narrowed := true }
def SendBackUptoSaid : Prop := sendBackUptoRow.holds Try.pinned (OpenSpec.upto sendBackSpec)

/-- 'rookerylaw.ImageApart', WHERE WHAT IT READS IS OF BULK AT MOST 1048576: true; the input reads as it did. -/
def imageApartUptoRow : OpenClaim := { program := "ytfmgdjgedhnmeaa", sum := "a4f073f1e954477a861c33a409d366b3f22e0ffb0c8d6d9182712e123df03a20", func := "rookery/rookerylaw.ImageApart", spec := "imageApart", unfollowed := true, recurses := true, apart := false, narrowed := true }
def ImageApartUptoSaid : Prop := imageApartUptoRow.holds Try.pinned (OpenSpec.upto imageApartSpec)

/-- 'rookerylaw.ImageBack', WHERE WHAT IT READS IS OF BULK AT MOST 1048576: true; the input reads as it did. -/
def imageBackUptoRow : OpenClaim := { program := "ytfmgdjgedhnmeaa", sum := "a4f073f1e954477a861c33a409d366b3f22e0ffb0c8d6d9182712e123df03a20", func := "rookery/rookerylaw.ImageBack", spec := "imageBack", unfollowed := true, recurses := true, apart := false, narrowed := true }
def ImageBackUptoSaid : Prop := imageBackUptoRow.holds Try.pinned (OpenSpec.upto imageBackSpec)

/-- 'rookerylaw.DiskTorn', WHERE WHAT IT READS IS OF BULK AT MOST 1048576: true; the input reads as it did. -/
def diskTornUptoRow : OpenClaim := { program := "ytfmgdjgedhnmeaa", sum := "a4f073f1e954477a861c33a409d366b3f22e0ffb0c8d6d9182712e123df03a20", func := "rookery/rookerylaw.DiskTorn", spec := "diskTorn", unfollowed := true, recurses := true, apart := false, narrowed := true }
def DiskTornUptoSaid : Prop := diskTornUptoRow.holds Try.pinned (OpenSpec.upto diskTornSpec)

/-- 'rookerylaw.DiskTwice', WHERE WHAT IT READS IS OF BULK AT MOST 1048576: true; the input reads as it did. -/
def diskTwiceUptoRow : OpenClaim := { program := "ytfmgdjgedhnmeaa", sum := "a4f073f1e954477a861c33a409d366b3f22e0ffb0c8d6d9182712e123df03a20", func := "rookery/rookerylaw.DiskTwice", spec := "diskTwice", unfollowed := true, recurses := true, apart := false, narrowed := true }
def DiskTwiceUptoSaid : Prop := diskTwiceUptoRow.holds Try.pinned (OpenSpec.upto diskTwiceSpec)

/-- 'rookerylaw.PoolUses', WHERE WHAT IT READS IS OF BULK AT MOST 1048576: true; the input reads as it did. -/
def poolUsesUptoRow : OpenClaim := { program := "ytfmgdjgedhnmeaa", sum := "a4f073f1e954477a861c33a409d366b3f22e0ffb0c8d6d9182712e123df03a20", func := "rookery/rookerylaw.PoolUses", spec := "poolUses", inPlace := ["internal/bytealg.abigen_runtime_cmpstring", "slices.overlaps[rookery/api.Set]", "slices.overlaps[rookery/api.Entry]", "slices.overlaps[rookery/api.Snap]"], unfollowed := true, recurses := true, apart := false, narrowed := true }
def PoolUsesUptoSaid : Prop := poolUsesUptoRow.holds Try.pinned (OpenSpec.upto poolUsesSpec)

end Rows
end Go.Proofs.Ytfmgdjgedhnmeaa
