/-
  No cell of these rows narrows 'for every input' (looked for: loops, veiled, ifaces, maps, wideKeys, modest, calm, conditions, laid).
  DERIVED. THE GIVEN ROWS OF THIS SEAT. 6 by the template 'for every input the law returns true; each argument reads behind the call as it read before'; 0 by the template 'total and deterministic' (their statements: YtfaoillnakhejaaGreatTotals.lean).
  GIVEN WITH THE SEED: the statements are not yours to turn. If you find one false, say at which input.
  Laid BY PROGRAM, IN A SANDBOX (cutbox-rows.mjs): the forced cells as the released guide's own fill.sh prints them over the translation 967ce3a0d7572bdb… (all of the seat's roots in one cut). By AI agents, Wed Nov 11 2026. No macro, syntax, notation, axiom, sorry.
-/
import Derived.Test.YtfaoillnakhejaaGreatChecked
import GoSem.Claim
import GoSem.ClaimJoined
import GoSem.ClaimMapViews
import Derived.JoinedTies
import Derived.KernelRfl
namespace Go.Proofs.YtfaoillnakhejaaGreat
/- THE CELL 'sum', in the pinned program and in every row, IS THE sha256 OF THE DUMP (.gsa) THAT YtfaoillnakhejaaGreatProg.lean LOADS. Nothing in Lean hashes anything: it is a label: what it is worth is what the hold of that sum in a sandbox is worth. -/
noncomputable def Tryz.pinned : Pinned := { name := "ytfaoillnakhejaagreat", sum := "967ce3a0d7572bdb22b2083781342b7aba409ce5717da46525b83b83df2f4044", checked := Tryz.checked }
namespace Rows
def none {H : Type} : Left H := { results := [], args := [] }

/-- 'laganlaw03.FindOrigins': WHATEVER THE INPUT: true; the input reads as it did. -/
def findOriginsSpec : ChangeSpec := { name := "findOrigins", fn := fun _ => fun
  | [d1, d2, d3] => { results := [.lit (.bool true)], args := [d1, d2, d3] }
  | _ => none }
def findOriginsRow : OpenClaim := { program := "ytfaoillnakhejaagreat", sum := "967ce3a0d7572bdb22b2083781342b7aba409ce5717da46525b83b83df2f4044", func := "lagan/laganlaw03.FindOrigins", spec := "findOrigins", unfollowed := true, recurses := true, apart := false }
def FindOriginsSaid : Prop := findOriginsRow.holds Tryz.pinned (OpenSpec.ofChange findOriginsSpec)

/-- ITS FALSE NEIGHBOUR: 'it returns false'. Refute it at one input. -/
def findOriginsWrong : ChangeSpec := { name := "findOrigins", fn := fun _ => fun
  | [d1, d2, d3] => { results := [.lit (.bool false)], args := [d1, d2, d3] }
  | _ => none }
def FindOriginsWrongFalsely : Prop := findOriginsRow.holds Tryz.pinned (OpenSpec.ofChange findOriginsWrong)

/-- 'laganlaw03.FindChains': WHATEVER THE INPUT: true; the input reads as it did. -/
def findChainsSpec : ChangeSpec := { name := "findChains", fn := fun _ => fun
  | [d1, d2, d3, d4, d5] => { results := [.lit (.bool true)], args := [d1, d2, d3, d4, d5] }
  | _ => none }
def findChainsRow : OpenClaim := { program := "ytfaoillnakhejaagreat", sum := "967ce3a0d7572bdb22b2083781342b7aba409ce5717da46525b83b83df2f4044", func := "lagan/laganlaw03.FindChains", spec := "findChains", unfollowed := true, recurses := true, apart := false }
def FindChainsSaid : Prop := findChainsRow.holds Tryz.pinned (OpenSpec.ofChange findChainsSpec)

/-- ITS FALSE NEIGHBOUR: 'it returns false'. Refute it at one input. -/
def findChainsWrong : ChangeSpec := { name := "findChains", fn := fun _ => fun
  | [d1, d2, d3, d4, d5] => { results := [.lit (.bool false)], args := [d1, d2, d3, d4, d5] }
  | _ => none }
def FindChainsWrongFalsely : Prop := findChainsRow.holds Tryz.pinned (OpenSpec.ofChange findChainsWrong)

/-- 'laganlaw03.FindWays': WHATEVER THE INPUT: true; the input reads as it did. -/
def findWaysSpec : ChangeSpec := { name := "findWays", fn := fun _ => fun
  | [d1, d2, d3, d4] => { results := [.lit (.bool true)], args := [d1, d2, d3, d4] }
  | _ => none }
def findWaysRow : OpenClaim := { program := "ytfaoillnakhejaagreat", sum := "967ce3a0d7572bdb22b2083781342b7aba409ce5717da46525b83b83df2f4044", func := "lagan/laganlaw03.FindWays", spec := "findWays", unfollowed := true, recurses := true, apart := false }
def FindWaysSaid : Prop := findWaysRow.holds Tryz.pinned (OpenSpec.ofChange findWaysSpec)

/-- ITS FALSE NEIGHBOUR: 'it returns false'. Refute it at one input. -/
def findWaysWrong : ChangeSpec := { name := "findWays", fn := fun _ => fun
  | [d1, d2, d3, d4] => { results := [.lit (.bool false)], args := [d1, d2, d3, d4] }
  | _ => none }
def FindWaysWrongFalsely : Prop := findWaysRow.holds Tryz.pinned (OpenSpec.ofChange findWaysWrong)

/-- 'laganlaw03.FindLater': WHATEVER THE INPUT: true; the input reads as it did. -/
def findLaterSpec : ChangeSpec := { name := "findLater", fn := fun _ => fun
  | [d1, d2, d3, d4] => { results := [.lit (.bool true)], args := [d1, d2, d3, d4] }
  | _ => none }
def findLaterRow : OpenClaim := { program := "ytfaoillnakhejaagreat", sum := "967ce3a0d7572bdb22b2083781342b7aba409ce5717da46525b83b83df2f4044", func := "lagan/laganlaw03.FindLater", spec := "findLater", unfollowed := true, recurses := true, apart := false }
def FindLaterSaid : Prop := findLaterRow.holds Tryz.pinned (OpenSpec.ofChange findLaterSpec)

/-- ITS FALSE NEIGHBOUR: 'it returns false'. Refute it at one input. -/
def findLaterWrong : ChangeSpec := { name := "findLater", fn := fun _ => fun
  | [d1, d2, d3, d4] => { results := [.lit (.bool false)], args := [d1, d2, d3, d4] }
  | _ => none }
def FindLaterWrongFalsely : Prop := findLaterRow.holds Tryz.pinned (OpenSpec.ofChange findLaterWrong)

/-- 'laganlaw03.FindChecks': WHATEVER THE INPUT: true; the input reads as it did. -/
def findChecksSpec : ChangeSpec := { name := "findChecks", fn := fun _ => fun
  | [d1, d2, d3, d4, d5, d6, d7, d8] => { results := [.lit (.bool true)], args := [d1, d2, d3, d4, d5, d6, d7, d8] }
  | _ => none }
def findChecksRow : OpenClaim := { program := "ytfaoillnakhejaagreat", sum := "967ce3a0d7572bdb22b2083781342b7aba409ce5717da46525b83b83df2f4044", func := "lagan/laganlaw03.FindChecks", spec := "findChecks", unfollowed := true, recurses := true, apart := false }
def FindChecksSaid : Prop := findChecksRow.holds Tryz.pinned (OpenSpec.ofChange findChecksSpec)

/-- ITS FALSE NEIGHBOUR: 'it returns false'. Refute it at one input. -/
def findChecksWrong : ChangeSpec := { name := "findChecks", fn := fun _ => fun
  | [d1, d2, d3, d4, d5, d6, d7, d8] => { results := [.lit (.bool false)], args := [d1, d2, d3, d4, d5, d6, d7, d8] }
  | _ => none }
def FindChecksWrongFalsely : Prop := findChecksRow.holds Tryz.pinned (OpenSpec.ofChange findChecksWrong)

/-- 'laganlaw03.FindParcels': WHATEVER THE INPUT: true; the input reads as it did. -/
def findParcelsSpec : ChangeSpec := { name := "findParcels", fn := fun _ => fun
  | [d1, d2, d3, d4] => { results := [.lit (.bool true)], args := [d1, d2, d3, d4] }
  | _ => none }
def findParcelsRow : OpenClaim := { program := "ytfaoillnakhejaagreat", sum := "967ce3a0d7572bdb22b2083781342b7aba409ce5717da46525b83b83df2f4044", func := "lagan/laganlaw03.FindParcels", spec := "findParcels", unfollowed := true, recurses := true, apart := false }
def FindParcelsSaid : Prop := findParcelsRow.holds Tryz.pinned (OpenSpec.ofChange findParcelsSpec)

/-- ITS FALSE NEIGHBOUR: 'it returns false'. Refute it at one input. -/
def findParcelsWrong : ChangeSpec := { name := "findParcels", fn := fun _ => fun
  | [d1, d2, d3, d4] => { results := [.lit (.bool false)], args := [d1, d2, d3, d4] }
  | _ => none }
def FindParcelsWrongFalsely : Prop := findParcelsRow.holds Tryz.pinned (OpenSpec.ofChange findParcelsWrong)

/- THE SECOND FORM. 'bulk': how many values and letters a reading holds, each counted each time it is reached (what is shared counts as often as it is met; a slice's spare places count too). A statement '..UptoSaid' is the law's where the arguments, and the package variables that the reading takes, are together of bulk at most 1048576: NARROWER than '..Said'. Prove '..Said' where nothing that the law and all that it calls make is longer than what came in: it says more and counts as full. Else prove '..UptoSaid'. A law counts once. -/
mutual
def uptoBulk {H : Type} : DataW H → Nat
  | .lit (.string bytes) => bytes.length + 1
  | .lit _ => 1
  | .nil => 1
  | .ptr d => uptoBulk d + 1
  | .slice elems spare => uptoBulkAll elems + uptoBulkAll spare + 1
  | .agg parts => uptoBulkAll parts + 1
  | .iface _ d => uptoBulk d + 1
  | .map entries => uptoBulkEntries entries + 1
  | .held _ => 1
def uptoBulkAll {H : Type} : List (DataW H) → Nat
  | [] => 0
  | d :: r => uptoBulk d + uptoBulkAll r
def uptoBulkEntries {H : Type} : List (Lit × DataW H) → Nat
  | [] => 0
  | x :: r => uptoBulkEntry x + uptoBulkEntries r
def uptoBulkEntry {H : Type} : Lit × DataW H → Nat
  | (.string bytes, d) => bytes.length + uptoBulk d + 1
  | (_, d) => uptoBulk d + 1
 end
def uptoSmall : (H : Type) → List (DataW H) → Bool := fun _ ds => decide (uptoBulkAll ds ≤ 1048576)
def OpenSpec.upto (s : _root_.Go.ChangeSpec) : _root_.Go.OpenSpec := { _root_.Go.OpenSpec.ofChange s with cond := some uptoSmall }

/-- 'laganlaw03.FindOrigins', WHERE WHAT IT READS IS OF BULK AT MOST 1048576: true; the input reads as it did. -/
def findOriginsUptoRow : OpenClaim := { program := "ytfaoillnakhejaagreat", sum := "967ce3a0d7572bdb22b2083781342b7aba409ce5717da46525b83b83df2f4044", func := "lagan/laganlaw03.FindOrigins", spec := "findOrigins", unfollowed := true, recurses := true, apart := false, narrowed := true }
def FindOriginsUptoSaid : Prop := findOriginsUptoRow.holds Tryz.pinned (OpenSpec.upto findOriginsSpec)

/-- 'laganlaw03.FindChains', WHERE WHAT IT READS IS OF BULK AT MOST 1048576: true; the input reads as it did. -/
def findChainsUptoRow : OpenClaim := { program := "ytfaoillnakhejaagreat", sum := "967ce3a0d7572bdb22b2083781342b7aba409ce5717da46525b83b83df2f4044", func := "lagan/laganlaw03.FindChains", spec := "findChains", unfollowed := true, recurses := true, apart := false, narrowed := true }
def FindChainsUptoSaid : Prop := findChainsUptoRow.holds Tryz.pinned (OpenSpec.upto findChainsSpec)

/-- 'laganlaw03.FindWays', WHERE WHAT IT READS IS OF BULK AT MOST 1048576: true; the input reads as it did. -/
def findWaysUptoRow : OpenClaim := { program := "ytfaoillnakhejaagreat", sum := "967ce3a0d7572bdb22b2083781342b7aba409ce5717da46525b83b83df2f4044", func := "lagan/laganlaw03.FindWays", spec := "findWays", unfollowed := true, recurses := true, apart := false, narrowed := true }
def FindWaysUptoSaid : Prop := findWaysUptoRow.holds Tryz.pinned (OpenSpec.upto findWaysSpec)

/-- 'laganlaw03.FindLater', WHERE WHAT IT READS IS OF BULK AT MOST 1048576: true; the input reads as it did. -/
def findLaterUptoRow : OpenClaim := { program := "ytfaoillnakhejaagreat", sum := "967ce3a0d7572bdb22b2083781342b7aba409ce5717da46525b83b83df2f4044", func := "lagan/laganlaw03.FindLater", spec := "findLater", unfollowed := true, recurses := true, apart := false, narrowed := true }
def FindLaterUptoSaid : Prop := findLaterUptoRow.holds Tryz.pinned (OpenSpec.upto findLaterSpec)

/-- 'laganlaw03.FindChecks', WHERE WHAT IT READS IS OF BULK AT MOST 1048576: true; the input reads as it did. -/
def findChecksUptoRow : OpenClaim := { program := "ytfaoillnakhejaagreat", sum := "967ce3a0d7572bdb22b2083781342b7aba409ce5717da46525b83b83df2f4044", func := "lagan/laganlaw03.FindChecks", spec := "findChecks", unfollowed := true, recurses := true, apart := false, narrowed := true }
def FindChecksUptoSaid : Prop := findChecksUptoRow.holds Tryz.pinned (OpenSpec.upto findChecksSpec)

/-- 'laganlaw03.FindParcels', WHERE WHAT IT READS IS OF BULK AT MOST 1048576: true; the input reads as it did. -/
def findParcelsUptoRow : OpenClaim := { program := "ytfaoillnakhejaagreat", sum := "967ce3a0d7572bdb22b2083781342b7aba409ce5717da46525b83b83df2f4044", func := "lagan/laganlaw03.FindParcels", spec := "findParcels", unfollowed := true, recurses := true, apart := false, narrowed := true }
def FindParcelsUptoSaid : Prop := findParcelsUptoRow.holds Tryz.pinned (OpenSpec.upto findParcelsSpec)

end Rows
end Go.Proofs.YtfaoillnakhejaaGreat
