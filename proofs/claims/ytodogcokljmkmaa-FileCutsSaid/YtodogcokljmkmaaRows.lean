/-
  No cell of these rows narrows 'for every input' (looked for: loops, veiled, ifaces, maps, wideKeys, modest, calm, conditions, laid).
  DERIVED. THE GIVEN ROWS OF THIS SEAT. 8 by the template 'for every input the law returns true; each argument reads behind the call as it read before'; 0 by the template 'total and deterministic' (their statements: YtodogcokljmkmaaTotals.lean).
  GIVEN WITH THE SEED: the statements are not yours to turn. If you find one false, say at which input.
  Laid BY PROGRAM, IN A SANDBOX (cutbox-rows.mjs): the forced cells as the released guide's own fill.sh prints them over the translation 31d6f95b6f59b953… (all of the seat's roots in one cut). By AI agents, Wed Nov 11 2026. No macro, syntax, notation, axiom, sorry.
-/
import Derived.Test.YtodogcokljmkmaaChecked
import GoSem.Claim
import GoSem.ClaimJoined
import GoSem.ClaimMapViews
import Derived.JoinedTies
import Derived.KernelRfl
namespace Go.Proofs.Ytodogcokljmkmaa
/- THE CELL 'sum', in the pinned program and in every row, IS THE sha256 OF THE DUMP (.gsa) THAT YtodogcokljmkmaaProg.lean LOADS. Nothing in Lean hashes anything: it is a label: what it is worth is what the hold of that sum in a sandbox is worth. -/
noncomputable def Try.pinned : Pinned := { name := "ytodogcokljmkmaa", sum := "31d6f95b6f59b953e71e8c2c704ef3d0014f845629c5cb6683c08e5c694b5739", checked := Try.checked }
namespace Rows
def none {H : Type} : Left H := { results := [], args := [] }

/-- 'rookerylaw.FileCuts': WHATEVER THE INPUT: true; the input reads as it did. -/
def fileCutsSpec : ChangeSpec := { name := "fileCuts", fn := fun _ => fun
  | [d1, d2, d3, d4, d5] => { results := [.lit (.bool true)], args := [d1, d2, d3, d4, d5] }
  | _ => none }
def fileCutsRow : OpenClaim := { program := "ytodogcokljmkmaa", sum := "31d6f95b6f59b953e71e8c2c704ef3d0014f845629c5cb6683c08e5c694b5739", func := "rookery/rookerylaw.FileCuts", spec := "fileCuts", unfollowed := true, recurses := true, apart := false }
def FileCutsSaid : Prop := fileCutsRow.holds Try.pinned (OpenSpec.ofChange fileCutsSpec)

/-- ITS FALSE NEIGHBOUR: 'it returns false'. Refute it at one input. -/
def fileCutsWrong : ChangeSpec := { name := "fileCuts", fn := fun _ => fun
  | [d1, d2, d3, d4, d5] => { results := [.lit (.bool false)], args := [d1, d2, d3, d4, d5] }
  | _ => none }
def FileCutsWrongFalsely : Prop := fileCutsRow.holds Try.pinned (OpenSpec.ofChange fileCutsWrong)

/-- 'rookerylaw.FileFresh': WHATEVER THE INPUT: true; the input reads as it did. -/
def fileFreshSpec : ChangeSpec := { name := "fileFresh", fn := fun _ => fun
  | [d1, d2, d3] => { results := [.lit (.bool true)], args := [d1, d2, d3] }
  | _ => none }
def fileFreshRow : OpenClaim := { program := "ytodogcokljmkmaa", sum := "31d6f95b6f59b953e71e8c2c704ef3d0014f845629c5cb6683c08e5c694b5739", func := "rookery/rookerylaw.FileFresh", spec := "fileFresh", unfollowed := true, recurses := true, apart := false }
def FileFreshSaid : Prop := fileFreshRow.holds Try.pinned (OpenSpec.ofChange fileFreshSpec)

/-- ITS FALSE NEIGHBOUR: 'it returns false'. Refute it at one input. -/
def fileFreshWrong : ChangeSpec := { name := "fileFresh", fn := fun _ => fun
  | [d1, d2, d3] => { results := [.lit (.bool false)], args := [d1, d2, d3] }
  | _ => none }
def FileFreshWrongFalsely : Prop := fileFreshRow.holds Try.pinned (OpenSpec.ofChange fileFreshWrong)

/-- 'rookerylaw.FileBack': WHATEVER THE INPUT: true; the input reads as it did. -/
def fileBackSpec : ChangeSpec := { name := "fileBack", fn := fun _ => fun
  | [d1, d2, d3, d4, d5] => { results := [.lit (.bool true)], args := [d1, d2, d3, d4, d5] }
  | _ => none }
def fileBackRow : OpenClaim := { program := "ytodogcokljmkmaa", sum := "31d6f95b6f59b953e71e8c2c704ef3d0014f845629c5cb6683c08e5c694b5739", func := "rookery/rookerylaw.FileBack", spec := "fileBack", unfollowed := true, recurses := true, apart := false }
def FileBackSaid : Prop := fileBackRow.holds Try.pinned (OpenSpec.ofChange fileBackSpec)

/-- ITS FALSE NEIGHBOUR: 'it returns false'. Refute it at one input. -/
def fileBackWrong : ChangeSpec := { name := "fileBack", fn := fun _ => fun
  | [d1, d2, d3, d4, d5] => { results := [.lit (.bool false)], args := [d1, d2, d3, d4, d5] }
  | _ => none }
def FileBackWrongFalsely : Prop := fileBackRow.holds Try.pinned (OpenSpec.ofChange fileBackWrong)

/-- 'rookerylaw.FileReads': WHATEVER THE INPUT: true; the input reads as it did. -/
def fileReadsSpec : ChangeSpec := { name := "fileReads", fn := fun _ => fun
  | [d1, d2, d3, d4, d5, d6, d7] => { results := [.lit (.bool true)], args := [d1, d2, d3, d4, d5, d6, d7] }
  | _ => none }
def fileReadsRow : OpenClaim := { program := "ytodogcokljmkmaa", sum := "31d6f95b6f59b953e71e8c2c704ef3d0014f845629c5cb6683c08e5c694b5739", func := "rookery/rookerylaw.FileReads", spec := "fileReads", inPlace := ["internal/bytealg.Count", "internal/bytealg.IndexByte", "internal/bytealg.Index"], unfollowed := true, recurses := true, named := ["internal/bytealg.MaxLen"], apart := false }
def FileReadsSaid : Prop := fileReadsRow.holds Try.pinned (OpenSpec.ofChange fileReadsSpec)

/-- ITS FALSE NEIGHBOUR: 'it returns false'. Refute it at one input. -/
def fileReadsWrong : ChangeSpec := { name := "fileReads", fn := fun _ => fun
  | [d1, d2, d3, d4, d5, d6, d7] => { results := [.lit (.bool false)], args := [d1, d2, d3, d4, d5, d6, d7] }
  | _ => none }
def FileReadsWrongFalsely : Prop := fileReadsRow.holds Try.pinned (OpenSpec.ofChange fileReadsWrong)

/-- 'rookerylaw.FileWrites': WHATEVER THE INPUT: true; the input reads as it did. -/
def fileWritesSpec : ChangeSpec := { name := "fileWrites", fn := fun _ => fun
  | [d1, d2, d3, d4, d5, d6] => { results := [.lit (.bool true)], args := [d1, d2, d3, d4, d5, d6] }
  | _ => none }
def fileWritesRow : OpenClaim := { program := "ytodogcokljmkmaa", sum := "31d6f95b6f59b953e71e8c2c704ef3d0014f845629c5cb6683c08e5c694b5739", func := "rookery/rookerylaw.FileWrites", spec := "fileWrites", inPlace := ["internal/bytealg.Count", "internal/bytealg.IndexByte", "internal/bytealg.Index"], unfollowed := true, recurses := true, named := ["internal/bytealg.MaxLen"], apart := false }
def FileWritesSaid : Prop := fileWritesRow.holds Try.pinned (OpenSpec.ofChange fileWritesSpec)

/-- ITS FALSE NEIGHBOUR: 'it returns false'. Refute it at one input. -/
def fileWritesWrong : ChangeSpec := { name := "fileWrites", fn := fun _ => fun
  | [d1, d2, d3, d4, d5, d6] => { results := [.lit (.bool false)], args := [d1, d2, d3, d4, d5, d6] }
  | _ => none }
def FileWritesWrongFalsely : Prop := fileWritesRow.holds Try.pinned (OpenSpec.ofChange fileWritesWrong)

/-- 'rookerylaw.SetAround': WHATEVER THE INPUT: true; the input reads as it did. -/
def setAroundSpec : ChangeSpec := { name := "setAround", fn := fun _ => fun
  | [d1, d2, d3, d4, d5] => { results := [.lit (.bool true)], args := [d1, d2, d3, d4, d5] }
  | _ => none }
def setAroundRow : OpenClaim := { program := "ytodogcokljmkmaa", sum := "31d6f95b6f59b953e71e8c2c704ef3d0014f845629c5cb6683c08e5c694b5739", func := "rookery/rookerylaw.SetAround", spec := "setAround", inPlace := ["internal/bytealg.abigen_runtime_cmpstring", "slices.overlaps[rookery/api.Entry]", "slices.overlaps[rookery/api.Snap]"], unfollowed := true, recurses := true, apart := false }
def SetAroundSaid : Prop := setAroundRow.holds Try.pinned (OpenSpec.ofChange setAroundSpec)

/-- ITS FALSE NEIGHBOUR: 'it returns false'. Refute it at one input. -/
def setAroundWrong : ChangeSpec := { name := "setAround", fn := fun _ => fun
  | [d1, d2, d3, d4, d5] => { results := [.lit (.bool false)], args := [d1, d2, d3, d4, d5] }
  | _ => none }
def SetAroundWrongFalsely : Prop := setAroundRow.holds Try.pinned (OpenSpec.ofChange setAroundWrong)

/-- 'rookerylaw.SetSnap': WHATEVER THE INPUT: true; the input reads as it did. -/
def setSnapSpec : ChangeSpec := { name := "setSnap", fn := fun _ => fun
  | [d1, d2, d3, d4, d5] => { results := [.lit (.bool true)], args := [d1, d2, d3, d4, d5] }
  | _ => none }
def setSnapRow : OpenClaim := { program := "ytodogcokljmkmaa", sum := "31d6f95b6f59b953e71e8c2c704ef3d0014f845629c5cb6683c08e5c694b5739", func := "rookery/rookerylaw.SetSnap", spec := "setSnap", inPlace := ["internal/bytealg.abigen_runtime_cmpstring", "slices.overlaps[rookery/api.Entry]", "slices.overlaps[rookery/api.Snap]"], unfollowed := true, recurses := true, apart := false }
def SetSnapSaid : Prop := setSnapRow.holds Try.pinned (OpenSpec.ofChange setSnapSpec)

/-- ITS FALSE NEIGHBOUR: 'it returns false'. Refute it at one input. -/
def setSnapWrong : ChangeSpec := { name := "setSnap", fn := fun _ => fun
  | [d1, d2, d3, d4, d5] => { results := [.lit (.bool false)], args := [d1, d2, d3, d4, d5] }
  | _ => none }
def SetSnapWrongFalsely : Prop := setSnapRow.holds Try.pinned (OpenSpec.ofChange setSnapWrong)

/-- 'rookerylaw.SetApart': WHATEVER THE INPUT: true; the input reads as it did. -/
def setApartSpec : ChangeSpec := { name := "setApart", fn := fun _ => fun
  | [d1, d2, d3, d4, d5, d6] => { results := [.lit (.bool true)], args := [d1, d2, d3, d4, d5, d6] }
  | _ => none }
def setApartRow : OpenClaim := { program := "ytodogcokljmkmaa", sum := "31d6f95b6f59b953e71e8c2c704ef3d0014f845629c5cb6683c08e5c694b5739", func := "rookery/rookerylaw.SetApart", spec := "setApart", inPlace := ["internal/bytealg.abigen_runtime_cmpstring", "slices.overlaps[rookery/api.Entry]", "slices.overlaps[rookery/api.Snap]"], unfollowed := true, recurses := true, apart := false }
def SetApartSaid : Prop := setApartRow.holds Try.pinned (OpenSpec.ofChange setApartSpec)

/-- ITS FALSE NEIGHBOUR: 'it returns false'. Refute it at one input. -/
def setApartWrong : ChangeSpec := { name := "setApart", fn := fun _ => fun
  | [d1, d2, d3, d4, d5, d6] => { results := [.lit (.bool false)], args := [d1, d2, d3, d4, d5, d6] }
  | _ => none }
def SetApartWrongFalsely : Prop := setApartRow.holds Try.pinned (OpenSpec.ofChange setApartWrong)

/- THE SECOND FORM. 'bulk': how many values and letters a reading holds, each counted each time it is reached (what is shared counts as often as it is met; a slice's spare places count too). A statement '..UptoSaid' is the law's where the arguments, and the package variables that the reading takes, are together of bulk at most 1048576: NARROWER than '..Said'. Prove '..Said' where nothing that the law and all that it calls make is longer than what came in: it says more and counts as full. Else prove '..UptoSaid'. A law counts once. -/
mutual
def uptoBulk {H : Type} : DataW H → Nat
  | .lit (.string bytes) => bytes.length + 1
  | .lit _ => 1
  | .nil => 1
  | .ptr d => uptoBulk d + 1
  | .slice elems spare => uptoBulkAll elems + uptoBulkAll spare + 1
  | .agg parts => uptoBulkAll parts + 1
  | .iface _ d => uptoBulk d + 1
  | .map entries => uptoBulkEntries entries + 1
  | .held _ => 1
def uptoBulkAll {H : Type} : List (DataW H) → Nat
  | [] => 0
  | d :: r => uptoBulk d + uptoBulkAll r
def uptoBulkEntries {H : Type} : List (Lit × DataW H) → Nat
  | [] => 0
  | x :: r => uptoBulkEntry x + uptoBulkEntries r
def uptoBulkEntry {H : Type} : Lit × DataW H → Nat
  | (.string bytes, d) => bytes.length + uptoBulk d + 1
  | (_, d) => uptoBulk d + 1
 end
def uptoSmall : (H : Type) → List (DataW H) → Bool := fun _ ds => decide (uptoBulkAll ds ≤ 1048576)
def OpenSpec.upto (s : _root_.Go.ChangeSpec) : _root_.Go.OpenSpec := { _root_.Go.OpenSpec.ofChange s with cond := some uptoSmall }

/-- 'rookerylaw.FileCuts', WHERE WHAT IT READS IS OF BULK AT MOST 1048576: true; the input reads as it did. -/
def fileCutsUptoRow : OpenClaim := { program := "ytodogcokljmkmaa", sum := "31d6f95b6f59b953e71e8c2c704ef3d0014f845629c5cb6683c08e5c694b5739", func := "rookery/rookerylaw.FileCuts", spec := "fileCuts", unfollowed := true, recurses := true, apart := false, narrowed := true }
def FileCutsUptoSaid : Prop := fileCutsUptoRow.holds Try.pinned (OpenSpec.upto fileCutsSpec)

/-- 'rookerylaw.FileFresh', WHERE WHAT IT READS IS OF BULK AT MOST 1048576: true; the input reads as it did. -/
def fileFreshUptoRow : OpenClaim := { program := "ytodogcokljmkmaa", sum := "31d6f95b6f59b953e71e8c2c704ef3d0014f845629c5cb6683c08e5c694b5739", func := "rookery/rookerylaw.FileFresh", spec := "fileFresh", unfollowed := true, recurses := true, apart := false, narrowed := true }
def FileFreshUptoSaid : Prop := fileFreshUptoRow.holds Try.pinned (OpenSpec.upto fileFreshSpec)

/-- 'rookerylaw.FileBack', WHERE WHAT IT READS IS OF BULK AT MOST 1048576: true; the input reads as it did. -/
def fileBackUptoRow : OpenClaim := { program := "ytodogcokljmkmaa", sum := "31d6f95b6f59b953e71e8c2c704ef3d0014f845629c5cb6683c08e5c694b5739", func := "rookery/rookerylaw.FileBack", spec := "fileBack", unfollowed := true, recurses := true, apart := false, narrowed := true }
def FileBackUptoSaid : Prop := fileBackUptoRow.holds Try.pinned (OpenSpec.upto fileBackSpec)

/-- 'rookerylaw.FileReads', WHERE WHAT IT READS IS OF BULK AT MOST 1048576: true; the input reads as it did. -/
def fileReadsUptoRow : OpenClaim := { program := "ytodogcokljmkmaa", sum := "31d6f95b6f59b953e71e8c2c704ef3d0014f845629c5cb6683c08e5c694b5739", func := "rookery/rookerylaw.FileReads", spec := "fileReads", inPlace := ["internal/bytealg.Count", "internal/bytealg.IndexByte", "internal/bytealg.Index"], unfollowed := true, recurses := true, named := ["internal/bytealg.MaxLen"], apart := false, narrowed := true }
def FileReadsUptoSaid : Prop := fileReadsUptoRow.holds Try.pinned (OpenSpec.upto fileReadsSpec)

/-- 'rookerylaw.FileWrites', WHERE WHAT IT READS IS OF BULK AT MOST 1048576: true; the input reads as it did. -/
def fileWritesUptoRow : OpenClaim := { program := "ytodogcokljmkmaa", sum := "31d6f95b6f59b953e71e8c2c704ef3d0014f845629c5cb6683c08e5c694b5739", func := "rookery/rookerylaw.FileWrites", spec := "fileWrites", inPlace := ["internal/bytealg.Count", "internal/bytealg.IndexByte", "internal/bytealg.Index"], unfollowed := true, recurses := true, named := ["internal/bytealg.MaxLen"], apart := false, narrowed := true }
def FileWritesUptoSaid : Prop := fileWritesUptoRow.holds Try.pinned (OpenSpec.upto fileWritesSpec)

/-- 'rookerylaw.SetAround', WHERE WHAT IT READS IS OF BULK AT MOST 1048576: true; the input reads as it did. -/
def setAroundUptoRow : OpenClaim := { program := "ytodogcokljmkmaa", sum := "31d6f95b6f59b953e71e8c2c704ef3d0014f845629c5cb6683c08e5c694b5739", func := "rookery/rookerylaw.SetAround", spec := "setAround", inPlace := ["internal/bytealg.abigen_runtime_cmpstring", "slices.overlaps[rookery/api.Entry]", "slices.overlaps[rookery/api.Snap]"], unfollowed := true, recurses := true, apart := false, narrowed := true }
def SetAroundUptoSaid : Prop := setAroundUptoRow.holds Try.pinned (OpenSpec.upto setAroundSpec)

/-- 'rookerylaw.SetSnap', WHERE WHAT IT READS IS OF BULK AT MOST 1048576: true; the input reads as it did. -/
def setSnapUptoRow : OpenClaim := { program := "ytodogcokljmkmaa", sum := "31d6f95b6f59b953e71e8c2c704ef3d0014f845629c5cb6683c08e5c694b5739", func := "rookery/rookerylaw.SetSnap", spec := "setSnap", inPlace := ["internal/bytealg.abigen_runtime_cmpstring", "slices.overlaps[rookery/api.Entry]", "slices.overlaps[rookery/api.Snap]"], unfollowed := true, recurses := true, apart := false, narrowed := true }
def SetSnapUptoSaid : Prop := setSnapUptoRow.holds Try.pinned (OpenSpec.upto setSnapSpec)

/-- 'rookerylaw.SetApart', WHERE WHAT IT READS IS OF BULK AT MOST 1048576: true; the input reads as it did. -/
def setApartUptoRow : OpenClaim := { program := "ytodogcokljmkmaa", sum := "31d6f95b6f59b953e71e8c2c704ef3d0014f845629c5cb6683c08e5c694b5739", func := "rookery/rookerylaw.SetApart", spec := "setApart", inPlace := ["internal/bytealg.abigen_runtime_cmpstring", "slices.overlaps[rookery/api.Entry]", "slices.overlaps[rookery/api.Snap]"], unfollowed := true, recurses := true, apart := false, narrowed := true }
def SetApartUptoSaid : Prop := setApartUptoRow.holds Try.pinned (OpenSpec.upto setApartSpec)

end Rows
end Go.Proofs.Ytodogcokljmkmaa
