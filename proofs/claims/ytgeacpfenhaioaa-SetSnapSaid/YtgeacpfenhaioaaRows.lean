/-
  No cell of these rows narrows 'for every input' (looked for: loops, veiled, ifaces, maps, wideKeys, modest, calm, conditions, laid).
  DERIVED. THE GIVEN ROWS OF THIS SEAT. 7 by the template 'for every input the law returns true; each argument reads behind the call as it read before'; 0 by the template 'total and deterministic' (their statements: YtgeacpfenhaioaaTotals.lean).
  GIVEN WITH THE SEED: the statements are not yours to turn. If you find one false, say at which input.
  Laid BY PROGRAM, IN A SANDBOX (cutbox-rows.mjs): the forced cells as the released guide's own fill.sh prints them over the translation 82389ac23a979bd1… (all of the seat's roots in one cut). By AI agents, Wed Nov 11 2026. No macro, syntax, notation, axiom, sorry.
-/
import Derived.Test.YtgeacpfenhaioaaChecked
import GoSem.Claim
import GoSem.ClaimJoined
import GoSem.ClaimMapViews
import Derived.JoinedTies
import Derived.KernelRfl
namespace Go.Proofs.Ytgeacpfenhaioaa
/- THE CELL 'sum', in the pinned program and in every row, IS THE sha256 OF THE DUMP (.gsa) THAT YtgeacpfenhaioaaProg.lean LOADS. Nothing in Lean hashes anything: it is a label: what it is worth is what the hold of that sum in a sandbox is worth. -/
noncomputable def Try.pinned : Pinned := { name := "ytgeacpfenhaioaa", sum := "82389ac23a979bd194f498049f8ea8dc13bbdf8a83c5c47f6a2d52d4cc89da28", checked := Try.checked }
namespace Rows
def none {H : Type} : Left H := { results := [], args := [] }

/-- 'rookerylaw.SetAround': WHATEVER THE INPUT: true; the input reads as it did. -/
def setAroundSpec : ChangeSpec := { name := "setAround", fn := fun _ => fun
  | [d1, d2, d3, d4, d5] => { results := [.lit (.bool true)], args := [d1, d2, d3, d4, d5] }
  | _ => none }
def setAroundRow : OpenClaim := { program := "ytgeacpfenhaioaa", sum := "82389ac23a979bd194f498049f8ea8dc13bbdf8a83c5c47f6a2d52d4cc89da28", func := "rookery/rookerylaw.SetAround", spec := "setAround", inPlace := ["internal/bytealg.abigen_runtime_cmpstring", "slices.overlaps[rookery/api.Entry]", "slices.overlaps[rookery/api.Snap]"], unfollowed := true, recurses := true, apart := false }
def SetAroundSaid : Prop := setAroundRow.holds Try.pinned (OpenSpec.ofChange setAroundSpec)

/-- ITS FALSE NEIGHBOUR: 'it returns false'. Refute it at one input. -/
def setAroundWrong : ChangeSpec := { name := "setAround", fn := fun _ => fun
  | [d1, d2, d3, d4, d5] => { results := [.lit (.bool false)], args := [d1, d2, d3, d4, d5] }
  | _ => none }
def SetAroundWrongFalsely : Prop := setAroundRow.holds Try.pinned (OpenSpec.ofChange setAroundWrong)

/-- 'rookerylaw.SetSnap': WHATEVER THE INPUT: true; the input reads as it did. -/
def setSnapSpec : ChangeSpec := { name := "setSnap", fn := fun _ => fun
  | [d1, d2, d3, d4, d5] => { results := [.lit (.bool true)], args := [d1, d2, d3, d4, d5] }
  | _ => none }
def setSnapRow : OpenClaim := { program := "ytgeacpfenhaioaa", sum := "82389ac23a979bd194f498049f8ea8dc13bbdf8a83c5c47f6a2d52d4cc89da28", func := "rookery/rookerylaw.SetSnap", spec := "setSnap", inPlace := ["internal/bytealg.abigen_runtime_cmpstring", "slices.overlaps[rookery/api.Entry]", "slices.overlaps[rookery/api.Snap]"], unfollowed := true, recurses := true, apart := false }
def SetSnapSaid : Prop := setSnapRow.holds Try.pinned (OpenSpec.ofChange setSnapSpec)

/-- ITS FALSE NEIGHBOUR: 'it returns false'. Refute it at one input. -/
def setSnapWrong : ChangeSpec := { name := "setSnap", fn := fun _ => fun
  | [d1, d2, d3, d4, d5] => { results := [.lit (.bool false)], args := [d1, d2, d3, d4, d5] }
  | _ => none }
def SetSnapWrongFalsely : Prop := setSnapRow.holds Try.pinned (OpenSpec.ofChange setSnapWrong)

/-- 'rookerylaw.SetApart': WHATEVER THE INPUT: true; the input reads as it did. -/
def setApartSpec : ChangeSpec := { name := "setApart", fn := fun _ => fun
  | [d1, d2, d3, d4, d5, d6] => { results := [.lit (.bool true)], args := [d1, d2, d3, d4, d5, d6] }
  | _ => none }
def setApartRow : OpenClaim := { program := "ytgeacpfenhaioaa", sum := "82389ac23a979bd194f498049f8ea8dc13bbdf8a83c5c47f6a2d52d4cc89da28", func := "rookery/rookerylaw.SetApart", spec := "setApart", inPlace := ["internal/bytealg.abigen_runtime_cmpstring", "slices.overlaps[rookery/api.Entry]", "slices.overlaps[rookery/api.Snap]"], unfollowed := true, recurses := true, apart := false }
def SetApartSaid : Prop := setApartRow.holds Try.pinned (OpenSpec.ofChange setApartSpec)

/-- ITS FALSE NEIGHBOUR: 'it returns false'. Refute it at one input. -/
def setApartWrong : ChangeSpec := { name := "setApart", fn := fun _ => fun
  | [d1, d2, d3, d4, d5, d6] => { results := [.lit (.bool false)], args := [d1, d2, d3, d4, d5, d6] }
  | _ => none }
def SetApartWrongFalsely : Prop := setApartRow.holds Try.pinned (OpenSpec.ofChange setApartWrong)

/-- 'rookerylaw.ImageBack': WHATEVER THE INPUT: true; the input reads as it did. -/
def imageBackSpec : ChangeSpec := { name := "imageBack", fn := fun _ => fun
  | [d1, d2, d3] => { results := [.lit (.bool true)], args := [d1, d2, d3] }
  | _ => none }
def imageBackRow : OpenClaim := { program := "ytgeacpfenhaioaa", sum := "82389ac23a979bd194f498049f8ea8dc13bbdf8a83c5c47f6a2d52d4cc89da28", func := "rookery/rookerylaw.ImageBack", spec := "imageBack", unfollowed := true, recurses := true, apart := false }
def ImageBackSaid : Prop := imageBackRow.holds Try.pinned (OpenSpec.ofChange imageBackSpec)

/-- ITS FALSE NEIGHBOUR: 'it returns false'. Refute it at one input. -/
def imageBackWrong : ChangeSpec := { name := "imageBack", fn := fun _ => fun
  | [d1, d2, d3] => { results := [.lit (.bool false)], args := [d1, d2, d3] }
  | _ => none }
def ImageBackWrongFalsely : Prop := imageBackRow.holds Try.pinned (OpenSpec.ofChange imageBackWrong)

/-- 'rookerylaw.ImageApart': WHATEVER THE INPUT: true; the input reads as it did. -/
def imageApartSpec : ChangeSpec := { name := "imageApart", fn := fun _ => fun
  | [d1, d2] => { results := [.lit (.bool true)], args := [d1, d2] }
  | _ => none }
def imageApartRow : OpenClaim := { program := "ytgeacpfenhaioaa", sum := "82389ac23a979bd194f498049f8ea8dc13bbdf8a83c5c47f6a2d52d4cc89da28", func := "rookery/rookerylaw.ImageApart", spec := "imageApart", unfollowed := true, recurses := true, apart := false }
def ImageApartSaid : Prop := imageApartRow.holds Try.pinned (OpenSpec.ofChange imageApartSpec)

/-- ITS FALSE NEIGHBOUR: 'it returns false'. Refute it at one input. -/
def imageApartWrong : ChangeSpec := { name := "imageApart", fn := fun _ => fun
  | [d1, d2] => { results := [.lit (.bool false)], args := [d1, d2] }
  | _ => none }
def ImageApartWrongFalsely : Prop := imageApartRow.holds Try.pinned (OpenSpec.ofChange imageApartWrong)

/-- 'rookerylaw.DiskTorn': WHATEVER THE INPUT: true; the input reads as it did. -/
def diskTornSpec : ChangeSpec := { name := "diskTorn", fn := fun _ => fun
  | [d1, d2, d3, d4] => { results := [.lit (.bool true)], args := [d1, d2, d3, d4] }
  | _ => none }
def diskTornRow : OpenClaim := { program := "ytgeacpfenhaioaa", sum := "82389ac23a979bd194f498049f8ea8dc13bbdf8a83c5c47f6a2d52d4cc89da28", func := "rookery/rookerylaw.DiskTorn", spec := "diskTorn", unfollowed := true, recurses := true, apart := false }
def DiskTornSaid : Prop := diskTornRow.holds Try.pinned (OpenSpec.ofChange diskTornSpec)

/-- ITS FALSE NEIGHBOUR: 'it returns false'. Refute it at one input. -/
def diskTornWrong : ChangeSpec := { name := "diskTorn", fn := fun _ => fun
  | [d1, d2, d3, d4] => { results := [.lit (.bool false)], args := [d1, d2, d3, d4] }
  | _ => none }
def DiskTornWrongFalsely : Prop := diskTornRow.holds Try.pinned (OpenSpec.ofChange diskTornWrong)

/-- 'rookerylaw.DiskTwice': WHATEVER THE INPUT: true; the input reads as it did. -/
def diskTwiceSpec : ChangeSpec := { name := "diskTwice", fn := fun _ => fun
  | [d1, d2, d3] => { results := [.lit (.bool true)], args := [d1, d2, d3] }
  | _ => none }
def diskTwiceRow : OpenClaim := { program := "ytgeacpfenhaioaa", sum := "82389ac23a979bd194f498049f8ea8dc13bbdf8a83c5c47f6a2d52d4cc89da28", func := "rookery/rookerylaw.DiskTwice", spec := "diskTwice", unfollowed := true, recurses := true, apart := false }
def DiskTwiceSaid : Prop := diskTwiceRow.holds Try.pinned (OpenSpec.ofChange diskTwiceSpec)

/-- ITS FALSE NEIGHBOUR: 'it returns false'. Refute it at one input. -/
def diskTwiceWrong : ChangeSpec := { name := "diskTwice", fn := fun _ => fun
  | [d1, d2, d3] => { results := [.lit (.bool false)], args := [d1, d2, d3] }
  | _ => none }
def DiskTwiceWrongFalsely : Prop := diskTwiceRow.holds Try.pinned (OpenSpec.ofChange diskTwiceWrong)

/- THE SECOND FORM. 'bulk': how many values and letters a reading holds, each counted each time it is reached (what is shared counts as often as it is met; a slice's spare places count too). A statement '..UptoSaid' is the law's where the arguments, and the package variables that the reading takes, are together of bulk at most 1048576: NARROWER than '..Said'. Prove '..Said' where nothing that the law and all that it calls make is longer than what came in: it says more and counts as full. Else prove '..UptoSaid'. A law counts once. -/
mutual
def uptoBulk {H : Type} : DataW H → Nat
  | .lit (.string bytes) => bytes.length + 1
  | .lit _ => 1
  | .nil => 1
  | .ptr d => uptoBulk d + 1
  | .slice elems spare => uptoBulkAll elems + uptoBulkAll spare + 1
  | .agg parts => uptoBulkAll parts + 1
  | .iface _ d => uptoBulk d + 1
  | .map entries => uptoBulkEntries entries + 1
  | .held _ => 1
def uptoBulkAll {H : Type} : List (DataW H) → Nat
  | [] => 0
  | d :: r => uptoBulk d + uptoBulkAll r
def uptoBulkEntries {H : Type} : List (Lit × DataW H) → Nat
  | [] => 0
  | x :: r => uptoBulkEntry x + uptoBulkEntries r
def uptoBulkEntry {H : Type} : Lit × DataW H → Nat
  | (.string bytes, d) => bytes.length + uptoBulk d + 1
  | (_, d) => uptoBulk d + 1
 end
def uptoSmall : (H : Type) → List (DataW H) → Bool := fun _ ds => decide (uptoBulkAll ds ≤ 1048576)
def OpenSpec.upto (s : _root_.Go.ChangeSpec) : _root_.Go.OpenSpec := { _root_.Go.OpenSpec.ofChange s with cond := some uptoSmall }

/-- 'rookerylaw.SetAround', WHERE WHAT IT READS IS OF BULK AT MOST 1048576: true; the input reads as it did. -/
def setAroundUptoRow : OpenClaim := { program := "ytgeacpfenhaioaa", sum := "82389ac23a979bd194f498049f8ea8dc13bbdf8a83c5c47f6a2d52d4cc89da28", func := "rookery/rookerylaw.SetAround", spec := "setAround", inPlace := ["internal/bytealg.abigen_runtime_cmpstring", "slices.overlaps[rookery/api.Entry]", "slices.overlaps[rookery/api.Snap]"], unfollowed := true, recurses := true, apart := false, narrowed := true }
def SetAroundUptoSaid : Prop := setAroundUptoRow.holds Try.pinned (OpenSpec.upto setAroundSpec)

/-- 'rookerylaw.SetSnap', WHERE WHAT IT READS IS OF BULK AT MOST 1048576: true; the input reads as it did. -/
def setSnapUptoRow : OpenClaim := { program := "ytgeacpfenhaioaa", sum := "82389ac23a979bd194f498049f8ea8dc13bbdf8a83c5c47f6a2d52d4cc89da28", func := "rookery/rookerylaw.SetSnap", spec := "setSnap", inPlace := ["internal/bytealg.abigen_runtime_cmpstring", "slices.overlaps[rookery/api.Entry]", "slices.overlaps[rookery/api.Snap]"], unfollowed := true, recurses := true, apart := false, narrowed := true }
def SetSnapUptoSaid : Prop := setSnapUptoRow.holds Try.pinned (OpenSpec.upto setSnapSpec)

/-- 'rookerylaw.SetApart', WHERE WHAT IT READS IS OF BULK AT MOST 1048576: true; the input reads as it did. -/
def setApartUptoRow : OpenClaim := { program := "ytgeacpfenhaioaa", sum := "82389ac23a979bd194f498049f8ea8dc13bbdf8a83c5c47f6a2d52d4cc89da28", func := "rookery/rookerylaw.SetApart", spec := "setApart", inPlace := ["internal/bytealg.abigen_runtime_cmpstring", "slices.overlaps[rookery/api.Entry]", "slices.overlaps[rookery/api.Snap]"], unfollowed := true, recurses := true, apart := false, narrowed := true }
def SetApartUptoSaid : Prop := setApartUptoRow.holds Try.pinned (OpenSpec.upto setApartSpec)

/-- 'rookerylaw.ImageBack', WHERE WHAT IT READS IS OF BULK AT MOST 1048576: true; the input reads as it did. -/
def imageBackUptoRow : OpenClaim := { program := "ytgeacpfenhaioaa", sum := "82389ac23a979bd194f498049f8ea8dc13bbdf8a83c5c47f6a2d52d4cc89da28", func := "rookery/rookerylaw.ImageBack", spec := "imageBack", unfollowed := true, recurses := true, apart := false, narrowed := true }
def ImageBackUptoSaid : Prop := imageBackUptoRow.holds Try.pinned (OpenSpec.upto imageBackSpec)

/-- 'rookerylaw.ImageApart', WHERE WHAT IT READS IS OF BULK AT MOST 1048576: true; the input reads as it did. -/
def imageApartUptoRow : OpenClaim := { program := "ytgeacpfenhaioaa", sum := "82389ac23a979bd194f498049f8ea8dc13bbdf8a83c5c47f6a2d52d4cc89da28", func := "rookery/rookerylaw.ImageApart", spec := "imageApart", unfollowed := true, recurses := true, apart := false, narrowed := true }
def ImageApartUptoSaid : Prop := imageApartUptoRow.holds Try.pinned (OpenSpec.upto imageApartSpec)

/-- 'rookerylaw.DiskTorn', WHERE WHAT IT READS IS OF BULK AT MOST 1048576: true; the input reads as it did. -/
def diskTornUptoRow : OpenClaim := { program := "ytgeacpfenhaioaa", sum := "82389ac23a979bd194f498049f8ea8dc13bbdf8a83c5c47f6a2d52d4cc89da28", func := "rookery/rookerylaw.DiskTorn", spec := "diskTorn", unfollowed := true, recurses := true, apart := false, narrowed := true }
def DiskTornUptoSaid : Prop := diskTornUptoRow.holds Try.pinned (OpenSpec.upto diskTornSpec)

/-- 'rookerylaw.DiskTwice', WHERE WHAT IT READS IS OF BULK AT MOST 1048576: true; the input reads as it did. -/
def diskTwiceUptoRow : OpenClaim := { program := "ytgeacpfenhaioaa", sum := "82389ac23a979bd194f498049f8ea8dc13bbdf8a83c5c47f6a2d52d4cc89da28", func := "rookery/rookerylaw.DiskTwice", spec := "diskTwice", unfollowed := true, recurses := true, apart := false, narrowed := true }
def DiskTwiceUptoSaid : Prop := diskTwiceUptoRow.holds Try.pinned (OpenSpec.upto diskTwiceSpec)

end Rows
end Go.Proofs.Ytgeacpfenhaioaa
