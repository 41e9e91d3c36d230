/-
  No cell of these rows narrows 'for every input' (looked for: loops, veiled, ifaces, maps, wideKeys, modest, calm, conditions, laid).
  DERIVED. THE GIVEN ROWS OF THIS SEAT. 6 by the template 'for every input the law returns true; each argument reads behind the call as it read before'; 0 by the template 'total and deterministic' (their statements: YtellbcgibeglbaaTotals.lean).
  GIVEN WITH THE SEED: the statements are not yours to turn. If you find one false, say at which input.
  Laid BY PROGRAM, IN A SANDBOX (cutbox-rows.mjs): the forced cells as the released guide's own fill.sh prints them over the translation 15165b2db12bee85… (all of the seat's roots in one cut). By AI agents, Wed Nov 11 2026. No macro, syntax, notation, axiom, sorry.
-/
import Derived.Test.YtellbcgibeglbaaChecked
import GoSem.Claim
import GoSem.ClaimJoined
import GoSem.ClaimMapViews
import Derived.JoinedTies
import Derived.KernelRfl
namespace Go.Proofs.Ytellbcgibeglbaa
/- THE CELL 'sum', in the pinned program and in every row, IS THE sha256 OF THE DUMP (.gsa) THAT YtellbcgibeglbaaProg.lean LOADS. Nothing in Lean hashes anything: it is a label: what it is worth is what the hold of that sum in a sandbox is worth. -/
noncomputable def Try.pinned : Pinned := { name := "ytellbcgibeglbaa", sum := "15165b2db12bee85ff38aca94a296adda7c93ec64513e8a87fab0c2def28509c", checked := Try.checked }
namespace Rows
def none {H : Type} : Left H := { results := [], args := [] }

/-- 'lanternlaw07.ImageWraps': WHATEVER THE INPUT: true; the input reads as it did. -/
def imageWrapsSpec : ChangeSpec := { name := "imageWraps", fn := fun _ => fun
  | [d1, d2, d3, d4, d5] => { results := [.lit (.bool true)], args := [d1, d2, d3, d4, d5] }
  | _ => none }
def imageWrapsRow : OpenClaim := { program := "ytellbcgibeglbaa", sum := "15165b2db12bee85ff38aca94a296adda7c93ec64513e8a87fab0c2def28509c", func := "lantern/lanternlaw07.ImageWraps", spec := "imageWraps", apart := false }
def ImageWrapsSaid : Prop := imageWrapsRow.holds Try.pinned (OpenSpec.ofChange imageWrapsSpec)

/-- ITS FALSE NEIGHBOUR: 'it returns false'. Refute it at one input. -/
def imageWrapsWrong : ChangeSpec := { name := "imageWraps", fn := fun _ => fun
  | [d1, d2, d3, d4, d5] => { results := [.lit (.bool false)], args := [d1, d2, d3, d4, d5] }
  | _ => none }
def ImageWrapsWrongFalsely : Prop := imageWrapsRow.holds Try.pinned (OpenSpec.ofChange imageWrapsWrong)

/-- 'lanternlaw07.ImageEach': WHATEVER THE INPUT: true; the input reads as it did. -/
def imageEachSpec : ChangeSpec := { name := "imageEach", fn := fun _ => fun
  | [d1, d2, d3] => { results := [.lit (.bool true)], args := [d1, d2, d3] }
  | _ => none }
def imageEachRow : OpenClaim := { program := "ytellbcgibeglbaa", sum := "15165b2db12bee85ff38aca94a296adda7c93ec64513e8a87fab0c2def28509c", func := "lantern/lanternlaw07.ImageEach", spec := "imageEach", unfollowed := true, recurses := true, apart := false }
def ImageEachSaid : Prop := imageEachRow.holds Try.pinned (OpenSpec.ofChange imageEachSpec)

/-- ITS FALSE NEIGHBOUR: 'it returns false'. Refute it at one input. -/
def imageEachWrong : ChangeSpec := { name := "imageEach", fn := fun _ => fun
  | [d1, d2, d3] => { results := [.lit (.bool false)], args := [d1, d2, d3] }
  | _ => none }
def ImageEachWrongFalsely : Prop := imageEachRow.holds Try.pinned (OpenSpec.ofChange imageEachWrong)

/-- 'lanternlaw07.ImageMakes': WHATEVER THE INPUT: true; the input reads as it did. -/
def imageMakesSpec : ChangeSpec := { name := "imageMakes", fn := fun _ => fun
  | [d1, d2, d3] => { results := [.lit (.bool true)], args := [d1, d2, d3] }
  | _ => none }
def imageMakesRow : OpenClaim := { program := "ytellbcgibeglbaa", sum := "15165b2db12bee85ff38aca94a296adda7c93ec64513e8a87fab0c2def28509c", func := "lantern/lanternlaw07.ImageMakes", spec := "imageMakes", apart := false }
def ImageMakesSaid : Prop := imageMakesRow.holds Try.pinned (OpenSpec.ofChange imageMakesSpec)

/-- ITS FALSE NEIGHBOUR: 'it returns false'. Refute it at one input. -/
def imageMakesWrong : ChangeSpec := { name := "imageMakes", fn := fun _ => fun
  | [d1, d2, d3] => { results := [.lit (.bool false)], args := [d1, d2, d3] }
  | _ => none }
def ImageMakesWrongFalsely : Prop := imageMakesRow.holds Try.pinned (OpenSpec.ofChange imageMakesWrong)

/-- 'lanternlaw07.ImagePlays': WHATEVER THE INPUT: true; the input reads as it did. -/
def imagePlaysSpec : ChangeSpec := { name := "imagePlays", fn := fun _ => fun
  | [d1, d2, d3] => { results := [.lit (.bool true)], args := [d1, d2, d3] }
  | _ => none }
def imagePlaysRow : OpenClaim := { program := "ytellbcgibeglbaa", sum := "15165b2db12bee85ff38aca94a296adda7c93ec64513e8a87fab0c2def28509c", func := "lantern/lanternlaw07.ImagePlays", spec := "imagePlays", apart := false }
def ImagePlaysSaid : Prop := imagePlaysRow.holds Try.pinned (OpenSpec.ofChange imagePlaysSpec)

/-- ITS FALSE NEIGHBOUR: 'it returns false'. Refute it at one input. -/
def imagePlaysWrong : ChangeSpec := { name := "imagePlays", fn := fun _ => fun
  | [d1, d2, d3] => { results := [.lit (.bool false)], args := [d1, d2, d3] }
  | _ => none }
def ImagePlaysWrongFalsely : Prop := imagePlaysRow.holds Try.pinned (OpenSpec.ofChange imagePlaysWrong)

/-- 'lanternlaw07.ImageFolds': WHATEVER THE INPUT: true; the input reads as it did. -/
def imageFoldsSpec : ChangeSpec := { name := "imageFolds", fn := fun _ => fun
  | [d1, d2, d3] => { results := [.lit (.bool true)], args := [d1, d2, d3] }
  | _ => none }
def imageFoldsRow : OpenClaim := { program := "ytellbcgibeglbaa", sum := "15165b2db12bee85ff38aca94a296adda7c93ec64513e8a87fab0c2def28509c", func := "lantern/lanternlaw07.ImageFolds", spec := "imageFolds", unfollowed := true, recurses := true, apart := false }
def ImageFoldsSaid : Prop := imageFoldsRow.holds Try.pinned (OpenSpec.ofChange imageFoldsSpec)

/-- ITS FALSE NEIGHBOUR: 'it returns false'. Refute it at one input. -/
def imageFoldsWrong : ChangeSpec := { name := "imageFolds", fn := fun _ => fun
  | [d1, d2, d3] => { results := [.lit (.bool false)], args := [d1, d2, d3] }
  | _ => none }
def ImageFoldsWrongFalsely : Prop := imageFoldsRow.holds Try.pinned (OpenSpec.ofChange imageFoldsWrong)

/-- 'lanternlaw07.ImageNil': WHATEVER THE INPUT: true; the input reads as it did. -/
def imageNilSpec : ChangeSpec := { name := "imageNil", fn := fun _ => fun
  | [d1, d2] => { results := [.lit (.bool true)], args := [d1, d2] }
  | _ => none }
def imageNilRow : OpenClaim := { program := "ytellbcgibeglbaa", sum := "15165b2db12bee85ff38aca94a296adda7c93ec64513e8a87fab0c2def28509c", func := "lantern/lanternlaw07.ImageNil", spec := "imageNil", unfollowed := true, recurses := true, apart := false }
def ImageNilSaid : Prop := imageNilRow.holds Try.pinned (OpenSpec.ofChange imageNilSpec)

/-- ITS FALSE NEIGHBOUR: 'it returns false'. Refute it at one input. -/
def imageNilWrong : ChangeSpec := { name := "imageNil", fn := fun _ => fun
  | [d1, d2] => { results := [.lit (.bool false)], args := [d1, d2] }
  | _ => none }
def ImageNilWrongFalsely : Prop := imageNilRow.holds Try.pinned (OpenSpec.ofChange imageNilWrong)

/- THE SECOND FORM. 'bulk': how many values and letters a reading holds, each counted each time it is reached (what is shared counts as often as it is met; a slice's spare places count too). A statement '..UptoSaid' is the law's where the arguments, and the package variables that the reading takes, are together of bulk at most 1048576: NARROWER than '..Said'. Prove '..Said' where nothing that the law and all that it calls make is longer than what came in: it says more and counts as full. Else prove '..UptoSaid'. A law counts once. -/
mutual
def uptoBulk {H : Type} : DataW H → Nat
  | .lit (.string bytes) => bytes.length + 1
  | .lit _ => 1
  | .nil => 1
  | .ptr d => uptoBulk d + 1
  | .slice elems spare => uptoBulkAll elems + uptoBulkAll spare + 1
  | .agg parts => uptoBulkAll parts + 1
  | .iface _ d => uptoBulk d + 1
  | .map entries => uptoBulkEntries entries + 1
  | .held _ => 1
def uptoBulkAll {H : Type} : List (DataW H) → Nat
  | [] => 0
  | d :: r => uptoBulk d + uptoBulkAll r
def uptoBulkEntries {H : Type} : List (Lit × DataW H) → Nat
  | [] => 0
  | x :: r => uptoBulkEntry x + uptoBulkEntries r
def uptoBulkEntry {H : Type} : Lit × DataW H → Nat
  | (.string bytes, d) => bytes.length + uptoBulk d + 1
  | (_, d) => uptoBulk d + 1
 end
def uptoSmall : (H : Type) → List (DataW H) → Bool := fun _ ds => decide (uptoBulkAll ds ≤ 1048576)
def OpenSpec.upto (s : _root_.Go.ChangeSpec) : _root_.Go.OpenSpec := { _root_.Go.OpenSpec.ofChange s with cond := some uptoSmall }

/-- 'lanternlaw07.ImageWraps', WHERE WHAT IT READS IS OF BULK AT MOST 1048576: true; the input reads as it did. -/
def imageWrapsUptoRow : OpenClaim := { program := "ytellbcgibeglbaa", sum := "15165b2db12bee85ff38aca94a296adda7c93ec64513e8a87fab0c2def28509c", func := "lantern/lanternlaw07.ImageWraps", spec := "imageWraps", apart := false, narrowed := true }
def ImageWrapsUptoSaid : Prop := imageWrapsUptoRow.holds Try.pinned (OpenSpec.upto imageWrapsSpec)

/-- 'lanternlaw07.ImageEach', WHERE WHAT IT READS IS OF BULK AT MOST 1048576: true; the input reads as it did. -/
def imageEachUptoRow : OpenClaim := { program := "ytellbcgibeglbaa", sum := "15165b2db12bee85ff38aca94a296adda7c93ec64513e8a87fab0c2def28509c", func := "lantern/lanternlaw07.ImageEach", spec := "imageEach", unfollowed := true, recurses := true, apart := false, narrowed := true }
def ImageEachUptoSaid : Prop := imageEachUptoRow.holds Try.pinned (OpenSpec.upto imageEachSpec)

/-- 'lanternlaw07.ImageMakes', WHERE WHAT IT READS IS OF BULK AT MOST 1048576: true; the input reads as it did. -/
def imageMakesUptoRow : OpenClaim := { program := "ytellbcgibeglbaa", sum := "15165b2db12bee85ff38aca94a296adda7c93ec64513e8a87fab0c2def28509c", func := "lantern/lanternlaw07.ImageMakes", spec := "imageMakes", apart := false, narrowed := true }
def ImageMakesUptoSaid : Prop := imageMakesUptoRow.holds Try.pinned (OpenSpec.upto imageMakesSpec)

/-- 'lanternlaw07.ImagePlays', WHERE WHAT IT READS IS OF BULK AT MOST 1048576: true; the input reads as it did. -/
def imagePlaysUptoRow : OpenClaim := { program := "ytellbcgibeglbaa", sum := "15165b2db12bee85ff38aca94a296adda7c93ec64513e8a87fab0c2def28509c", func := "lantern/lanternlaw07.ImagePlays", spec := "imagePlays", apart := false, narrowed := true }
def ImagePlaysUptoSaid : Prop := imagePlaysUptoRow.holds Try.pinned (OpenSpec.upto imagePlaysSpec)

/-- 'lanternlaw07.ImageFolds', WHERE WHAT IT READS IS OF BULK AT MOST 1048576: true; the input reads as it did. -/
def imageFoldsUptoRow : OpenClaim := { program := "ytellbcgibeglbaa", sum := "15165b2db12bee85ff38aca94a296adda7c93ec64513e8a87fab0c2def28509c", func := "lantern/lanternlaw07.ImageFolds", spec := "imageFolds", unfollowed := true, recurses := true, apart := false, narrowed := true }
def ImageFoldsUptoSaid : Prop := imageFoldsUptoRow.holds Try.pinned (OpenSpec.upto imageFoldsSpec)

/-- 'lanternlaw07.ImageNil', WHERE WHAT IT READS IS OF BULK AT MOST 1048576: true; the input reads as it did. -/
def imageNilUptoRow : OpenClaim := { program := "ytellbcgibeglbaa", sum := "15165b2db12bee85ff38aca94a296adda7c93ec64513e8a87fab0c2def28509c", func := "lantern/lanternlaw07.ImageNil", spec := "imageNil", unfollowed := true, recurses := true, apart := false, narrowed := true }
def ImageNilUptoSaid : Prop := imageNilUptoRow.holds Try.pinned (OpenSpec.upto imageNilSpec)

end Rows
end Go.Proofs.Ytellbcgibeglbaa
