/-
  No cell of these rows narrows 'for every input' (looked for: loops, veiled, ifaces, maps, wideKeys, modest, calm, conditions, laid).
  DERIVED. THE GIVEN ROWS OF THIS SEAT. 14 by the template 'for every input the law returns true; each argument reads behind the call as it read before'; 0 by the template 'total and deterministic' (their statements: YtpfopbkaddjjcaaTotals.lean).
  GIVEN WITH THE SEED: the statements are not yours to turn. If you find one false, say at which input.
  Laid BY PROGRAM, IN A SANDBOX (cutbox-rows.mjs): the forced cells as the released guide's own fill.sh prints them over the translation ebb3a596725074c1… (all of the seat's roots in one cut). By AI agents, Wed Nov 11 2026. No macro, syntax, notation, axiom, sorry.
-/
import Derived.Test.YtpfopbkaddjjcaaChecked
import GoSem.Claim
import GoSem.ClaimJoined
import GoSem.ClaimMapViews
import Derived.JoinedTies
import Derived.KernelRfl
namespace Go.Proofs.Ytpfopbkaddjjcaa
/- THE CELL 'sum', in the pinned program and in every row, IS THE sha256 OF THE DUMP (.gsa) THAT YtpfopbkaddjjcaaProg.lean LOADS. Nothing in Lean hashes anything: it is a label: what it is worth is what the hold of that sum in a sandbox is worth. -/
noncomputable def Try.pinned : Pinned := { name := "ytpfopbkaddjjcaa", sum := "ebb3a596725074c108e60da1317857333155f126f0ace15ca6a5f362f78a9d63", checked := Try.checked }
namespace Rows
def none {H : Type} : Left H := { results := [], args := [] }

/-- 'rookerylaw.Names': WHATEVER THE INPUT: true; the input reads as it did. -/
def namesSpec : ChangeSpec := { name := "names", fn := fun _ => fun
  | [] => { results := [.lit (.bool true)], args := [] }
  | _ => none }
def namesRow : OpenClaim := { program := "ytpfopbkaddjjcaa", sum := "ebb3a596725074c108e60da1317857333155f126f0ace15ca6a5f362f78a9d63", func := "rookery/rookerylaw.Names", spec := "names", apart := false }
def NamesSaid : Prop := namesRow.holds Try.pinned (OpenSpec.ofChange namesSpec)

/-- ITS FALSE NEIGHBOUR: 'it returns false'. Refute it at one input. -/
def namesWrong : ChangeSpec := { name := "names", fn := fun _ => fun
  | [] => { results := [.lit (.bool false)], args := [] }
  | _ => none }
def NamesWrongFalsely : Prop := namesRow.holds Try.pinned (OpenSpec.ofChange namesWrong)

/-- 'rookerylaw.SealSays': WHATEVER THE INPUT: true; the input reads as it did. -/
def sealSaysSpec : ChangeSpec := { name := "sealSays", fn := fun _ => fun
  | [d1, d2, d3] => { results := [.lit (.bool true)], args := [d1, d2, d3] }
  | _ => none }
def sealSaysRow : OpenClaim := { program := "ytpfopbkaddjjcaa", sum := "ebb3a596725074c108e60da1317857333155f126f0ace15ca6a5f362f78a9d63", func := "rookery/rookerylaw.SealSays", spec := "sealSays", unfollowed := true, recurses := true, apart := false }
def SealSaysSaid : Prop := sealSaysRow.holds Try.pinned (OpenSpec.ofChange sealSaysSpec)

/-- ITS FALSE NEIGHBOUR: 'it returns false'. Refute it at one input. -/
def sealSaysWrong : ChangeSpec := { name := "sealSays", fn := fun _ => fun
  | [d1, d2, d3] => { results := [.lit (.bool false)], args := [d1, d2, d3] }
  | _ => none }
def SealSaysWrongFalsely : Prop := sealSaysRow.holds Try.pinned (OpenSpec.ofChange sealSaysWrong)

/-- 'rookerylaw.SealParts': WHATEVER THE INPUT: true; the input reads as it did. -/
def sealPartsSpec : ChangeSpec := { name := "sealParts", fn := fun _ => fun
  | [d1, d2, d3, d4] => { results := [.lit (.bool true)], args := [d1, d2, d3, d4] }
  | _ => none }
def sealPartsRow : OpenClaim := { program := "ytpfopbkaddjjcaa", sum := "ebb3a596725074c108e60da1317857333155f126f0ace15ca6a5f362f78a9d63", func := "rookery/rookerylaw.SealParts", spec := "sealParts", unfollowed := true, recurses := true, apart := false }
def SealPartsSaid : Prop := sealPartsRow.holds Try.pinned (OpenSpec.ofChange sealPartsSpec)

/-- ITS FALSE NEIGHBOUR: 'it returns false'. Refute it at one input. -/
def sealPartsWrong : ChangeSpec := { name := "sealParts", fn := fun _ => fun
  | [d1, d2, d3, d4] => { results := [.lit (.bool false)], args := [d1, d2, d3, d4] }
  | _ => none }
def SealPartsWrongFalsely : Prop := sealPartsRow.holds Try.pinned (OpenSpec.ofChange sealPartsWrong)

/-- 'rookerylaw.SealBack': WHATEVER THE INPUT: true; the input reads as it did. -/
def sealBackSpec : ChangeSpec := { name := "sealBack", fn := fun _ => fun
  | [d1, d2, d3, d4, d5] => { results := [.lit (.bool true)], args := [d1, d2, d3, d4, d5] }
  | _ => none }
def sealBackRow : OpenClaim := { program := "ytpfopbkaddjjcaa", sum := "ebb3a596725074c108e60da1317857333155f126f0ace15ca6a5f362f78a9d63", func := "rookery/rookerylaw.SealBack", spec := "sealBack", unfollowed := true, recurses := true, apart := false }
def SealBackSaid : Prop := sealBackRow.holds Try.pinned (OpenSpec.ofChange sealBackSpec)

/-- ITS FALSE NEIGHBOUR: 'it returns false'. Refute it at one input. -/
def sealBackWrong : ChangeSpec := { name := "sealBack", fn := fun _ => fun
  | [d1, d2, d3, d4, d5] => { results := [.lit (.bool false)], args := [d1, d2, d3, d4, d5] }
  | _ => none }
def SealBackWrongFalsely : Prop := sealBackRow.holds Try.pinned (OpenSpec.ofChange sealBackWrong)

/-- 'rookerylaw.StoreFrees': WHATEVER THE INPUT: true; the input reads as it did. -/
def storeFreesSpec : ChangeSpec := { name := "storeFrees", fn := fun _ => fun
  | [d1, d2] => { results := [.lit (.bool true)], args := [d1, d2] }
  | _ => none }
def storeFreesRow : OpenClaim := { program := "ytpfopbkaddjjcaa", sum := "ebb3a596725074c108e60da1317857333155f126f0ace15ca6a5f362f78a9d63", func := "rookery/rookerylaw.StoreFrees", spec := "storeFrees", unfollowed := true, recurses := true, apart := false }
def StoreFreesSaid : Prop := storeFreesRow.holds Try.pinned (OpenSpec.ofChange storeFreesSpec)

/-- ITS FALSE NEIGHBOUR: 'it returns false'. Refute it at one input. -/
def storeFreesWrong : ChangeSpec := { name := "storeFrees", fn := fun _ => fun
  | [d1, d2] => { results := [.lit (.bool false)], args := [d1, d2] }
  | _ => none }
def StoreFreesWrongFalsely : Prop := storeFreesRow.holds Try.pinned (OpenSpec.ofChange storeFreesWrong)

/-- 'rookerylaw.StoreMakes': WHATEVER THE INPUT: true; the input reads as it did. -/
def storeMakesSpec : ChangeSpec := { name := "storeMakes", fn := fun _ => fun
  | [d1, d2, d3] => { results := [.lit (.bool true)], args := [d1, d2, d3] }
  | _ => none }
def storeMakesRow : OpenClaim := { program := "ytpfopbkaddjjcaa", sum := "ebb3a596725074c108e60da1317857333155f126f0ace15ca6a5f362f78a9d63", func := "rookery/rookerylaw.StoreMakes", spec := "storeMakes", unfollowed := true, recurses := true, apart := false }
def StoreMakesSaid : Prop := storeMakesRow.holds Try.pinned (OpenSpec.ofChange storeMakesSpec)

/-- ITS FALSE NEIGHBOUR: 'it returns false'. Refute it at one input. -/
def storeMakesWrong : ChangeSpec := { name := "storeMakes", fn := fun _ => fun
  | [d1, d2, d3] => { results := [.lit (.bool false)], args := [d1, d2, d3] }
  | _ => none }
def StoreMakesWrongFalsely : Prop := storeMakesRow.holds Try.pinned (OpenSpec.ofChange storeMakesWrong)

/-- 'rookerylaw.StoreBack': WHATEVER THE INPUT: true; the input reads as it did. -/
def storeBackSpec : ChangeSpec := { name := "storeBack", fn := fun _ => fun
  | [d1, d2, d3] => { results := [.lit (.bool true)], args := [d1, d2, d3] }
  | _ => none }
def storeBackRow : OpenClaim := { program := "ytpfopbkaddjjcaa", sum := "ebb3a596725074c108e60da1317857333155f126f0ace15ca6a5f362f78a9d63", func := "rookery/rookerylaw.StoreBack", spec := "storeBack", unfollowed := true, recurses := true, apart := false }
def StoreBackSaid : Prop := storeBackRow.holds Try.pinned (OpenSpec.ofChange storeBackSpec)

/-- ITS FALSE NEIGHBOUR: 'it returns false'. Refute it at one input. -/
def storeBackWrong : ChangeSpec := { name := "storeBack", fn := fun _ => fun
  | [d1, d2, d3] => { results := [.lit (.bool false)], args := [d1, d2, d3] }
  | _ => none }
def StoreBackWrongFalsely : Prop := storeBackRow.holds Try.pinned (OpenSpec.ofChange storeBackWrong)

/-- 'rookerylaw.StoreReached': WHATEVER THE INPUT: true; the input reads as it did. -/
def storeReachedSpec : ChangeSpec := { name := "storeReached", fn := fun _ => fun
  | [d1, d2, d3] => { results := [.lit (.bool true)], args := [d1, d2, d3] }
  | _ => none }
def storeReachedRow : OpenClaim := { program := "ytpfopbkaddjjcaa", sum := "ebb3a596725074c108e60da1317857333155f126f0ace15ca6a5f362f78a9d63", func := "rookery/rookerylaw.StoreReached", spec := "storeReached", unfollowed := true, recurses := true, apart := false }
def StoreReachedSaid : Prop := storeReachedRow.holds Try.pinned (OpenSpec.ofChange storeReachedSpec)

/-- ITS FALSE NEIGHBOUR: 'it returns false'. Refute it at one input. -/
def storeReachedWrong : ChangeSpec := { name := "storeReached", fn := fun _ => fun
  | [d1, d2, d3] => { results := [.lit (.bool false)], args := [d1, d2, d3] }
  | _ => none }
def StoreReachedWrongFalsely : Prop := storeReachedRow.holds Try.pinned (OpenSpec.ofChange storeReachedWrong)

/-- 'rookerylaw.TreePut': WHATEVER THE INPUT: true; the input reads as it did. -/
def treePutSpec : ChangeSpec := { name := "treePut", fn := fun _ => fun
  | [d1, d2, d3, d4, d5] => { results := [.lit (.bool true)], args := [d1, d2, d3, d4, d5] }
  | _ => none }
def treePutRow : OpenClaim := { program := "ytpfopbkaddjjcaa", sum := "ebb3a596725074c108e60da1317857333155f126f0ace15ca6a5f362f78a9d63", func := "rookery/rookerylaw.TreePut", spec := "treePut", unfollowed := true, recurses := true, apart := false }
def TreePutSaid : Prop := treePutRow.holds Try.pinned (OpenSpec.ofChange treePutSpec)

/-- ITS FALSE NEIGHBOUR: 'it returns false'. Refute it at one input. -/
def treePutWrong : ChangeSpec := { name := "treePut", fn := fun _ => fun
  | [d1, d2, d3, d4, d5] => { results := [.lit (.bool false)], args := [d1, d2, d3, d4, d5] }
  | _ => none }
def TreePutWrongFalsely : Prop := treePutRow.holds Try.pinned (OpenSpec.ofChange treePutWrong)

/-- 'rookerylaw.TreeDiffers': WHATEVER THE INPUT: true; the input reads as it did. -/
def treeDiffersSpec : ChangeSpec := { name := "treeDiffers", fn := fun _ => fun
  | [d1, d2, d3, d4, d5, d6] => { results := [.lit (.bool true)], args := [d1, d2, d3, d4, d5, d6] }
  | _ => none }
def treeDiffersRow : OpenClaim := { program := "ytpfopbkaddjjcaa", sum := "ebb3a596725074c108e60da1317857333155f126f0ace15ca6a5f362f78a9d63", func := "rookery/rookerylaw.TreeDiffers", spec := "treeDiffers", unfollowed := true, recurses := true, apart := false }
def TreeDiffersSaid : Prop := treeDiffersRow.holds Try.pinned (OpenSpec.ofChange treeDiffersSpec)

/-- ITS FALSE NEIGHBOUR: 'it returns false'. Refute it at one input. -/
def treeDiffersWrong : ChangeSpec := { name := "treeDiffers", fn := fun _ => fun
  | [d1, d2, d3, d4, d5, d6] => { results := [.lit (.bool false)], args := [d1, d2, d3, d4, d5, d6] }
  | _ => none }
def TreeDiffersWrongFalsely : Prop := treeDiffersRow.holds Try.pinned (OpenSpec.ofChange treeDiffersWrong)

/-- 'rookerylaw.TreeGets': WHATEVER THE INPUT: true; the input reads as it did. -/
def treeGetsSpec : ChangeSpec := { name := "treeGets", fn := fun _ => fun
  | [d1, d2, d3, d4, d5] => { results := [.lit (.bool true)], args := [d1, d2, d3, d4, d5] }
  | _ => none }
def treeGetsRow : OpenClaim := { program := "ytpfopbkaddjjcaa", sum := "ebb3a596725074c108e60da1317857333155f126f0ace15ca6a5f362f78a9d63", func := "rookery/rookerylaw.TreeGets", spec := "treeGets", unfollowed := true, recurses := true, apart := false }
def TreeGetsSaid : Prop := treeGetsRow.holds Try.pinned (OpenSpec.ofChange treeGetsSpec)

/-- ITS FALSE NEIGHBOUR: 'it returns false'. Refute it at one input. -/
def treeGetsWrong : ChangeSpec := { name := "treeGets", fn := fun _ => fun
  | [d1, d2, d3, d4, d5] => { results := [.lit (.bool false)], args := [d1, d2, d3, d4, d5] }
  | _ => none }
def TreeGetsWrongFalsely : Prop := treeGetsRow.holds Try.pinned (OpenSpec.ofChange treeGetsWrong)

/-- 'rookerylaw.TreeOrder': WHATEVER THE INPUT: true; the input reads as it did. -/
def treeOrderSpec : ChangeSpec := { name := "treeOrder", fn := fun _ => fun
  | [d1, d2, d3, d4, d5, d6, d7] => { results := [.lit (.bool true)], args := [d1, d2, d3, d4, d5, d6, d7] }
  | _ => none }
def treeOrderRow : OpenClaim := { program := "ytpfopbkaddjjcaa", sum := "ebb3a596725074c108e60da1317857333155f126f0ace15ca6a5f362f78a9d63", func := "rookery/rookerylaw.TreeOrder", spec := "treeOrder", unfollowed := true, recurses := true, apart := false }
def TreeOrderSaid : Prop := treeOrderRow.holds Try.pinned (OpenSpec.ofChange treeOrderSpec)

/-- ITS FALSE NEIGHBOUR: 'it returns false'. Refute it at one input. -/
def treeOrderWrong : ChangeSpec := { name := "treeOrder", fn := fun _ => fun
  | [d1, d2, d3, d4, d5, d6, d7] => { results := [.lit (.bool false)], args := [d1, d2, d3, d4, d5, d6, d7] }
  | _ => none }
def TreeOrderWrongFalsely : Prop := treeOrderRow.holds Try.pinned (OpenSpec.ofChange treeOrderWrong)

/-- 'rookerylaw.TreeKeeps': WHATEVER THE INPUT: true; the input reads as it did. -/
def treeKeepsSpec : ChangeSpec := { name := "treeKeeps", fn := fun _ => fun
  | [d1, d2, d3, d4, d5] => { results := [.lit (.bool true)], args := [d1, d2, d3, d4, d5] }
  | _ => none }
def treeKeepsRow : OpenClaim := { program := "ytpfopbkaddjjcaa", sum := "ebb3a596725074c108e60da1317857333155f126f0ace15ca6a5f362f78a9d63", func := "rookery/rookerylaw.TreeKeeps", spec := "treeKeeps", unfollowed := true, recurses := true, apart := false }
def TreeKeepsSaid : Prop := treeKeepsRow.holds Try.pinned (OpenSpec.ofChange treeKeepsSpec)

/-- ITS FALSE NEIGHBOUR: 'it returns false'. Refute it at one input. -/
def treeKeepsWrong : ChangeSpec := { name := "treeKeeps", fn := fun _ => fun
  | [d1, d2, d3, d4, d5] => { results := [.lit (.bool false)], args := [d1, d2, d3, d4, d5] }
  | _ => none }
def TreeKeepsWrongFalsely : Prop := treeKeepsRow.holds Try.pinned (OpenSpec.ofChange treeKeepsWrong)

/-- 'rookerylaw.StoreTells': WHATEVER THE INPUT: true; the input reads as it did. -/
def storeTellsSpec : ChangeSpec := { name := "storeTells", fn := fun _ => fun
  | [d1, d2, d3, d4] => { results := [.lit (.bool true)], args := [d1, d2, d3, d4] }
  | _ => none }
def storeTellsRow : OpenClaim := { program := "ytpfopbkaddjjcaa", sum := "ebb3a596725074c108e60da1317857333155f126f0ace15ca6a5f362f78a9d63", func := "rookery/rookerylaw.StoreTells", spec := "storeTells", unfollowed := true, recurses := true, apart := false }
def StoreTellsSaid : Prop := storeTellsRow.holds Try.pinned (OpenSpec.ofChange storeTellsSpec)

/-- ITS FALSE NEIGHBOUR: 'it returns false'. Refute it at one input. -/
def storeTellsWrong : ChangeSpec := { name := "storeTells", fn := fun _ => fun
  | [d1, d2, d3, d4] => { results := [.lit (.bool false)], args := [d1, d2, d3, d4] }
  | _ => none }
def StoreTellsWrongFalsely : Prop := storeTellsRow.holds Try.pinned (OpenSpec.ofChange storeTellsWrong)

/- THE SECOND FORM. 'bulk': how many values and letters a reading holds, each counted each time it is reached (what is shared counts as often as it is met; a slice's spare places count too). A statement '..UptoSaid' is the law's where the arguments, and the package variables that the reading takes, are together of bulk at most 1048576: NARROWER than '..Said'. Prove '..Said' where nothing that the law and all that it calls make is longer than what came in: it says more and counts as full. Else prove '..UptoSaid'. A law counts once. -/
mutual
def uptoBulk {H : Type} : DataW H → Nat
  | .lit (.string bytes) => bytes.length + 1
  | .lit _ => 1
  | .nil => 1
  | .ptr d => uptoBulk d + 1
  | .slice elems spare => uptoBulkAll elems + uptoBulkAll spare + 1
  | .agg parts => uptoBulkAll parts + 1
  | .iface _ d => uptoBulk d + 1
  | .map entries => uptoBulkEntries entries + 1
  | .held _ => 1
def uptoBulkAll {H : Type} : List (DataW H) → Nat
  | [] => 0
  | d :: r => uptoBulk d + uptoBulkAll r
def uptoBulkEntries {H : Type} : List (Lit × DataW H) → Nat
  | [] => 0
  | x :: r => uptoBulkEntry x + uptoBulkEntries r
def uptoBulkEntry {H : Type} : Lit × DataW H → Nat
  | (.string bytes, d) => bytes.length + uptoBulk d + 1
  | (_, d) => uptoBulk d + 1
 end
def uptoSmall : (H : Type) → List (DataW H) → Bool := fun _ ds => decide (uptoBulkAll ds ≤ 1048576)
def OpenSpec.upto (s : _root_.Go.ChangeSpec) : _root_.Go.OpenSpec := { _root_.Go.OpenSpec.ofChange s with cond := some uptoSmall }

/-- 'rookerylaw.Names', WHERE WHAT IT READS IS OF BULK AT MOST 1048576: true; the input reads as it did. -/
def namesUptoRow : OpenClaim := { program := "ytpfopbkaddjjcaa", sum := "ebb3a596725074c108e60da1317857333155f126f0ace15ca6a5f362f78a9d63", func := "rookery/rookerylaw.Names", spec := "names", apart := false, narrowed := true }
def NamesUptoSaid : Prop := namesUptoRow.holds Try.pinned (OpenSpec.upto namesSpec)

/-- 'rookerylaw.SealSays', WHERE WHAT IT READS IS OF BULK AT MOST 1048576: true; the input reads as it did. -/
def sealSaysUptoRow : OpenClaim := { program := "ytpfopbkaddjjcaa", sum := "ebb3a596725074c108e60da1317857333155f126f0ace15ca6a5f362f78a9d63", func := "rookery/rookerylaw.SealSays", spec := "sealSays", unfollowed := true, recurses := true, apart := false, narrowed := true }
def SealSaysUptoSaid : Prop := sealSaysUptoRow.holds Try.pinned (OpenSpec.upto sealSaysSpec)

/-- 'rookerylaw.SealParts', WHERE WHAT IT READS IS OF BULK AT MOST 1048576: true; the input reads as it did. -/
def sealPartsUptoRow : OpenClaim := { program := "ytpfopbkaddjjcaa", sum := "ebb3a596725074c108e60da1317857333155f126f0ace15ca6a5f362f78a9d63", func := "rookery/rookerylaw.SealParts", spec := "sealParts", unfollowed := true, recurses := true, apart := false, narrowed := true }
def SealPartsUptoSaid : Prop := sealPartsUptoRow.holds Try.pinned (OpenSpec.upto sealPartsSpec)

/-- 'rookerylaw.SealBack', WHERE WHAT IT READS IS OF BULK AT MOST 1048576: true; the input reads as it did. -/
def sealBackUptoRow : OpenClaim := { program := "ytpfopbkaddjjcaa", sum := "ebb3a596725074c108e60da1317857333155f126f0ace15ca6a5f362f78a9d63", func := "rookery/rookerylaw.SealBack", spec := "sealBack", unfollowed := true, recurses := true, apart := false, narrowed := true }
def SealBackUptoSaid : Prop := sealBackUptoRow.holds Try.pinned (OpenSpec.upto sealBackSpec)

/-- 'rookerylaw.StoreFrees', WHERE WHAT IT READS IS OF BULK AT MOST 1048576: true; the input reads as it did. -/
def storeFreesUptoRow : OpenClaim := { program := "ytpfopbkaddjjcaa", sum := "ebb3a596725074c108e60da1317857333155f126f0ace15ca6a5f362f78a9d63", func := "rookery/rookerylaw.StoreFrees", spec := "storeFrees", unfollowed := true, recurses := true, apart := false, narrowed := true }
def StoreFreesUptoSaid : Prop := storeFreesUptoRow.holds Try.pinned (OpenSpec.upto storeFreesSpec)

/-- 'rookerylaw.StoreMakes', WHERE WHAT IT READS IS OF BULK AT MOST 1048576: true; the input reads as it did. -/
def storeMakesUptoRow : OpenClaim := { program := "ytpfopbkaddjjcaa", sum := "ebb3a596725074c108e60da1317857333155f126f0ace15ca6a5f362f78a9d63", func := "rookery/rookerylaw.StoreMakes", spec := "storeMakes", unfollowed := true, recurses := true, apart := false, narrowed := true }
def StoreMakesUptoSaid : Prop := storeMakesUptoRow.holds Try.pinned (OpenSpec.upto storeMakesSpec)

/-- 'rookerylaw.StoreBack', WHERE WHAT IT READS IS OF BULK AT MOST 1048576: true; the input reads as it did. -/
def storeBackUptoRow : OpenClaim := { program := "ytpfopbkaddjjcaa", sum := "ebb3a596725074c108e60da1317857333155f126f0ace15ca6a5f362f78a9d63", func := "rookery/rookerylaw.StoreBack", spec := "storeBack", unfollowed := true, recurses := true, apart := false, narrowed := true }
def StoreBackUptoSaid : Prop := storeBackUptoRow.holds Try.pinned (OpenSpec.upto storeBackSpec)

/-- 'rookerylaw.StoreReached', WHERE WHAT IT READS IS OF BULK AT MOST 1048576: true; the input reads as it did. -/
def storeReachedUptoRow : OpenClaim := { program := "ytpfopbkaddjjcaa", sum := "ebb3a596725074c108e60da1317857333155f126f0ace15ca6a5f362f78a9d63", func := "rookery/rookerylaw.StoreReached", spec := "storeReached", unfollowed := true, recurses := true, apart := false, narrowed := true }
def StoreReachedUptoSaid : Prop := storeReachedUptoRow.holds Try.pinned (OpenSpec.upto storeReachedSpec)

/-- 'rookerylaw.TreePut', WHERE WHAT IT READS IS OF BULK AT MOST 1048576: true; the input reads as it did. -/
def treePutUptoRow : OpenClaim := { program := "ytpfopbkaddjjcaa", sum := "ebb3a596725074c108e60da1317857333155f126f0ace15ca6a5f362f78a9d63", func := "rookery/rookerylaw.TreePut", spec := "treePut", unfollowed := true, recurses := true, apart := false, narrowed := true }
def TreePutUptoSaid : Prop := treePutUptoRow.holds Try.pinned (OpenSpec.upto treePutSpec)

/-- 'rookerylaw.TreeDiffers', WHERE WHAT IT READS IS OF BULK AT MOST 1048576: true; the input reads as it did. -/
def treeDiffersUptoRow : OpenClaim := { program := "ytpfopbkaddjjcaa", sum := "ebb3a596725074c108e60da1317857333155f126f0ace15ca6a5f362f78a9d63", func := "rookery/rookerylaw.TreeDiffers", spec := "treeDiffers", unfollowed := true, recurses := true, apart := false, narrowed := true }
def TreeDiffersUptoSaid : Prop := treeDiffersUptoRow.holds Try.pinned (OpenSpec.upto treeDiffersSpec)

/-- 'rookerylaw.TreeGets', WHERE WHAT IT READS IS OF BULK AT MOST 1048576: true; the input reads as it did. -/
def treeGetsUptoRow : OpenClaim := { program := "ytpfopbkaddjjcaa", sum := "ebb3a596725074c108e60da1317857333155f126f0ace15ca6a5f362f78a9d63", func := "rookery/rookerylaw.TreeGets", spec := "treeGets", unfollowed := true, recurses := true, apart := false, narrowed := true }
def TreeGetsUptoSaid : Prop := treeGetsUptoRow.holds Try.pinned (OpenSpec.upto treeGetsSpec)

/-- 'rookerylaw.TreeOrder', WHERE WHAT IT READS IS OF BULK AT MOST 1048576: true; the input reads as it did. -/
def treeOrderUptoRow : OpenClaim := { program := "ytpfopbkaddjjcaa", sum := "ebb3a596725074c108e60da1317857333155f126f0ace15ca6a5f362f78a9d63", func := "rookery/rookerylaw.TreeOrder", spec := "treeOrder", unfollowed := true, recurses := true, apart := false, narrowed := true }
def TreeOrderUptoSaid : Prop := treeOrderUptoRow.holds Try.pinned (OpenSpec.upto treeOrderSpec)

/-- 'rookerylaw.TreeKeeps', WHERE WHAT IT READS IS OF BULK AT MOST 1048576: true; the input reads as it did. -/
def treeKeepsUptoRow : OpenClaim := { program := "ytpfopbkaddjjcaa", sum := "ebb3a596725074c108e60da1317857333155f126f0ace15ca6a5f362f78a9d63", func := "rookery/rookerylaw.TreeKeeps", spec := "treeKeeps", unfollowed := true, recurses := true, apart := false, narrowed := true }
def TreeKeepsUptoSaid : Prop := treeKeepsUptoRow.holds Try.pinned (OpenSpec.upto treeKeepsSpec)

/-- 'rookerylaw.StoreTells', WHERE WHAT IT READS IS OF BULK AT MOST 1048576: true; the input reads as it did. -/
def storeTellsUptoRow : OpenClaim := { program := "ytpfopbkaddjjcaa", sum := "ebb3a596725074c108e60da1317857333155f126f0ace15ca6a5f362f78a9d63", func := "rookery/rookerylaw.StoreTells", spec := "storeTells", unfollowed := true, recurses := true, apart := false, narrowed := true }
def StoreTellsUptoSaid : Prop := storeTellsUptoRow.holds Try.pinned (OpenSpec.upto storeTellsSpec)

end Rows
end Go.Proofs.Ytpfopbkaddjjcaa
