/-
  No cell of these rows narrows 'for every input' (looked for: loops, veiled, ifaces, maps, wideKeys, modest, calm, conditions, laid).
  DERIVED. THE GIVEN ROWS OF THIS SEAT. 6 by the template 'for every input the law returns true; each argument reads behind the call as it read before'; 0 by the template 'total and deterministic' (their statements: YtblckohcjfoalaaTotals.lean).
  GIVEN WITH THE SEED: the statements are not yours to turn. If you find one false, say at which input.
  Laid BY PROGRAM, IN A SANDBOX (cutbox-rows.mjs): the forced cells as the released guide's own fill.sh prints them over the translation dde1db4c6ec3b3fa… (all of the seat's roots in one cut). By AI agents, Wed Nov 11 2026. No macro, syntax, notation, axiom, sorry.
-/
import Derived.Test.YtblckohcjfoalaaChecked
import GoSem.Claim
import GoSem.ClaimJoined
import GoSem.ClaimMapViews
import Derived.JoinedTies
import Derived.KernelRfl
namespace Go.Proofs.Ytblckohcjfoalaa
/- THE CELL 'sum', in the pinned program and in every row, IS THE sha256 OF THE DUMP (.gsa) THAT YtblckohcjfoalaaProg.lean LOADS. Nothing in Lean hashes anything: it is a label: what it is worth is what the hold of that sum in a sandbox is worth. -/
noncomputable def Try.pinned : Pinned := { name := "ytblckohcjfoalaa", sum := "dde1db4c6ec3b3fa779a571437b62f19ae385a98e7fbc736fd239fb46d0efd94", checked := Try.checked }
namespace Rows
def none {H : Type} : Left H := { results := [], args := [] }

/-- 'lanternlaw06.DistPicks': WHATEVER THE INPUT: true; the input reads as it did. -/
def distPicksSpec : ChangeSpec := { name := "distPicks", fn := fun _ => fun
  | [d1, d2] => { results := [.lit (.bool true)], args := [d1, d2] }
  | _ => none }
def distPicksRow : OpenClaim := { program := "ytblckohcjfoalaa", sum := "dde1db4c6ec3b3fa779a571437b62f19ae385a98e7fbc736fd239fb46d0efd94", func := "lantern/lanternlaw06.DistPicks", spec := "distPicks", apart := false }
def DistPicksSaid : Prop := distPicksRow.holds Try.pinned (OpenSpec.ofChange distPicksSpec)

/-- ITS FALSE NEIGHBOUR: 'it returns false'. Refute it at one input. -/
def distPicksWrong : ChangeSpec := { name := "distPicks", fn := fun _ => fun
  | [d1, d2] => { results := [.lit (.bool false)], args := [d1, d2] }
  | _ => none }
def DistPicksWrongFalsely : Prop := distPicksRow.holds Try.pinned (OpenSpec.ofChange distPicksWrong)

/-- 'lanternlaw06.DistShares': WHATEVER THE INPUT: true; the input reads as it did. -/
def distSharesSpec : ChangeSpec := { name := "distShares", fn := fun _ => fun
  | [d] => { results := [.lit (.bool true)], args := [d] }
  | _ => none }
def distSharesRow : OpenClaim := { program := "ytblckohcjfoalaa", sum := "dde1db4c6ec3b3fa779a571437b62f19ae385a98e7fbc736fd239fb46d0efd94", func := "lantern/lanternlaw06.DistShares", spec := "distShares", apart := false }
def DistSharesSaid : Prop := distSharesRow.holds Try.pinned (OpenSpec.ofChange distSharesSpec)

/-- ITS FALSE NEIGHBOUR: 'it returns false'. Refute it at one input. -/
def distSharesWrong : ChangeSpec := { name := "distShares", fn := fun _ => fun
  | [d] => { results := [.lit (.bool false)], args := [d] }
  | _ => none }
def DistSharesWrongFalsely : Prop := distSharesRow.holds Try.pinned (OpenSpec.ofChange distSharesWrong)

/-- 'lanternlaw06.DistRises': WHATEVER THE INPUT: true; the input reads as it did. -/
def distRisesSpec : ChangeSpec := { name := "distRises", fn := fun _ => fun
  | [d1, d2, d3] => { results := [.lit (.bool true)], args := [d1, d2, d3] }
  | _ => none }
def distRisesRow : OpenClaim := { program := "ytblckohcjfoalaa", sum := "dde1db4c6ec3b3fa779a571437b62f19ae385a98e7fbc736fd239fb46d0efd94", func := "lantern/lanternlaw06.DistRises", spec := "distRises", apart := false }
def DistRisesSaid : Prop := distRisesRow.holds Try.pinned (OpenSpec.ofChange distRisesSpec)

/-- ITS FALSE NEIGHBOUR: 'it returns false'. Refute it at one input. -/
def distRisesWrong : ChangeSpec := { name := "distRises", fn := fun _ => fun
  | [d1, d2, d3] => { results := [.lit (.bool false)], args := [d1, d2, d3] }
  | _ => none }
def DistRisesWrongFalsely : Prop := distRisesRow.holds Try.pinned (OpenSpec.ofChange distRisesWrong)

/-- 'lanternlaw06.DistOwn': WHATEVER THE INPUT: true; the input reads as it did. -/
def distOwnSpec : ChangeSpec := { name := "distOwn", fn := fun _ => fun
  | [d] => { results := [.lit (.bool true)], args := [d] }
  | _ => none }
def distOwnRow : OpenClaim := { program := "ytblckohcjfoalaa", sum := "dde1db4c6ec3b3fa779a571437b62f19ae385a98e7fbc736fd239fb46d0efd94", func := "lantern/lanternlaw06.DistOwn", spec := "distOwn", apart := false }
def DistOwnSaid : Prop := distOwnRow.holds Try.pinned (OpenSpec.ofChange distOwnSpec)

/-- ITS FALSE NEIGHBOUR: 'it returns false'. Refute it at one input. -/
def distOwnWrong : ChangeSpec := { name := "distOwn", fn := fun _ => fun
  | [d] => { results := [.lit (.bool false)], args := [d] }
  | _ => none }
def DistOwnWrongFalsely : Prop := distOwnRow.holds Try.pinned (OpenSpec.ofChange distOwnWrong)

/-- 'lanternlaw06.DistAliases': WHATEVER THE INPUT: true; the input reads as it did. -/
def distAliasesSpec : ChangeSpec := { name := "distAliases", fn := fun _ => fun
  | [d] => { results := [.lit (.bool true)], args := [d] }
  | _ => none }
def distAliasesRow : OpenClaim := { program := "ytblckohcjfoalaa", sum := "dde1db4c6ec3b3fa779a571437b62f19ae385a98e7fbc736fd239fb46d0efd94", func := "lantern/lanternlaw06.DistAliases", spec := "distAliases", apart := false }
def DistAliasesSaid : Prop := distAliasesRow.holds Try.pinned (OpenSpec.ofChange distAliasesSpec)

/-- ITS FALSE NEIGHBOUR: 'it returns false'. Refute it at one input. -/
def distAliasesWrong : ChangeSpec := { name := "distAliases", fn := fun _ => fun
  | [d] => { results := [.lit (.bool false)], args := [d] }
  | _ => none }
def DistAliasesWrongFalsely : Prop := distAliasesRow.holds Try.pinned (OpenSpec.ofChange distAliasesWrong)

/-- 'lanternlaw06.DistMakes': WHATEVER THE INPUT: true; the input reads as it did. -/
def distMakesSpec : ChangeSpec := { name := "distMakes", fn := fun _ => fun
  | [d1, d2, d3] => { results := [.lit (.bool true)], args := [d1, d2, d3] }
  | _ => none }
def distMakesRow : OpenClaim := { program := "ytblckohcjfoalaa", sum := "dde1db4c6ec3b3fa779a571437b62f19ae385a98e7fbc736fd239fb46d0efd94", func := "lantern/lanternlaw06.DistMakes", spec := "distMakes", apart := false }
def DistMakesSaid : Prop := distMakesRow.holds Try.pinned (OpenSpec.ofChange distMakesSpec)

/-- ITS FALSE NEIGHBOUR: 'it returns false'. Refute it at one input. -/
def distMakesWrong : ChangeSpec := { name := "distMakes", fn := fun _ => fun
  | [d1, d2, d3] => { results := [.lit (.bool false)], args := [d1, d2, d3] }
  | _ => none }
def DistMakesWrongFalsely : Prop := distMakesRow.holds Try.pinned (OpenSpec.ofChange distMakesWrong)

/- THE SECOND FORM. 'bulk': how many values and letters a reading holds, each counted each time it is reached (what is shared counts as often as it is met; a slice's spare places count too). A statement '..UptoSaid' is the law's where the arguments, and the package variables that the reading takes, are together of bulk at most 1048576: NARROWER than '..Said'. Prove '..Said' where nothing that the law and all that it calls make is longer than what came in: it says more and counts as full. Else prove '..UptoSaid'. A law counts once. -/
mutual
def uptoBulk {H : Type} : DataW H → Nat
  | .lit (.string bytes) => bytes.length + 1
  | .lit _ => 1
  | .nil => 1
  | .ptr d => uptoBulk d + 1
  | .slice elems spare => uptoBulkAll elems + uptoBulkAll spare + 1
  | .agg parts => uptoBulkAll parts + 1
  | .iface _ d => uptoBulk d + 1
  | .map entries => uptoBulkEntries entries + 1
  | .held _ => 1
def uptoBulkAll {H : Type} : List (DataW H) → Nat
  | [] => 0
  | d :: r => uptoBulk d + uptoBulkAll r
def uptoBulkEntries {H : Type} : List (Lit × DataW H) → Nat
  | [] => 0
  | x :: r => uptoBulkEntry x + uptoBulkEntries r
def uptoBulkEntry {H : Type} : Lit × DataW H → Nat
  | (.string bytes, d) => bytes.length + uptoBulk d + 1
  | (_, d) => uptoBulk d + 1
 end
def uptoSmall : (H : Type) → List (DataW H) → Bool := fun _ ds => decide (uptoBulkAll ds ≤ 1048576)
def OpenSpec.upto (s : _root_.Go.ChangeSpec) : _root_.Go.OpenSpec := { _root_.Go.OpenSpec.ofChange s with cond := some uptoSmall }

/-- 'lanternlaw06.DistPicks', WHERE WHAT IT READS IS OF BULK AT MOST 1048576: true; the input reads as it did. -/
def distPicksUptoRow : OpenClaim := { program := "ytblckohcjfoalaa", sum := "dde1db4c6ec3b3fa779a571437b62f19ae385a98e7fbc736fd239fb46d0efd94", func := "lantern/lanternlaw06.DistPicks", spec := "distPicks", apart := false, narrowed := true }
def DistPicksUptoSaid : Prop := distPicksUptoRow.holds Try.pinned (OpenSpec.upto distPicksSpec)

/-- 'lanternlaw06.DistShares', WHERE WHAT IT READS IS OF BULK AT MOST 1048576: true; the input reads as it did. -/
def distSharesUptoRow : OpenClaim := { program := "ytblckohcjfoalaa", sum := "dde1db4c6ec3b3fa779a571437b62f19ae385a98e7fbc736fd239fb46d0efd94", func := "lantern/lanternlaw06.DistShares", spec := "distShares", apart := false, narrowed := true }
def DistSharesUptoSaid : Prop := distSharesUptoRow.holds Try.pinned (OpenSpec.upto distSharesSpec)

/-- 'lanternlaw06.DistRises', WHERE WHAT IT READS IS OF BULK AT MOST 1048576: true; the input reads as it did. -/
def distRisesUptoRow : OpenClaim := { program := "ytblckohcjfoalaa", sum := "dde1db4c6ec3b3fa779a571437b62f19ae385a98e7fbc736fd239fb46d0efd94", func := "lantern/lanternlaw06.DistRises", spec := "distRises", apart := false, narrowed := true }
def DistRisesUptoSaid : Prop := distRisesUptoRow.holds Try.pinned (OpenSpec.upto distRisesSpec)

/-- 'lanternlaw06.DistOwn', WHERE WHAT IT READS IS OF BULK AT MOST 1048576: true; the input reads as it did. -/
def distOwnUptoRow : OpenClaim := { program := "ytblckohcjfoalaa", sum := "dde1db4c6ec3b3fa779a571437b62f19ae385a98e7fbc736fd239fb46d0efd94", func := "lantern/lanternlaw06.DistOwn", spec := "distOwn", apart := false, narrowed := true }
def DistOwnUptoSaid : Prop := distOwnUptoRow.holds Try.pinned (OpenSpec.upto distOwnSpec)

/-- 'lanternlaw06.DistAliases', WHERE WHAT IT READS IS OF BULK AT MOST 1048576: true; the input reads as it did. -/
def distAliasesUptoRow : OpenClaim := { program := "ytblckohcjfoalaa", sum := "dde1db4c6ec3b3fa779a571437b62f19ae385a98e7fbc736fd239fb46d0efd94", func := "lantern/lanternlaw06.DistAliases", spec := "distAliases", apart := false, narrowed := true }
def DistAliasesUptoSaid : Prop := distAliasesUptoRow.holds Try.pinned (OpenSpec.upto distAliasesSpec)

/-- 'lanternlaw06.DistMakes', WHERE WHAT IT READS IS OF BULK AT MOST 1048576: true; the input reads as it did. -/
def distMakesUptoRow : OpenClaim := { program := "ytblckohcjfoalaa", sum := "dde1db4c6ec3b3fa779a571437b62f19ae385a98e7fbc736fd239fb46d0efd94", func := "lantern/lanternlaw06.DistMakes", spec := "distMakes", apart := false, narrowed := true }
def DistMakesUptoSaid : Prop := distMakesUptoRow.holds Try.pinned (OpenSpec.upto distMakesSpec)

end Rows
end Go.Proofs.Ytblckohcjfoalaa
