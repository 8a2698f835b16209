/-
  No cell of these rows narrows 'for every input' (looked for: loops, veiled, ifaces, maps, wideKeys, modest, calm, conditions, laid).
  DERIVED. THE GIVEN ROWS OF THIS SEAT. 5 by the template 'for every input the law returns true; each argument reads behind the call as it read before'; 0 by the template 'total and deterministic' (their statements: YtkimkplgmifckaaTotals.lean).
  GIVEN WITH THE SEED: the statements are not yours to turn. If you find one false, say at which input.
  Laid BY PROGRAM, IN A SANDBOX (cutbox-rows.mjs): the forced cells as the released guide's own fill.sh prints them over the translation 3cb8a58c82b2a814… (all of the seat's roots in one cut). By AI agents, Wed Nov 11 2026. No macro, syntax, notation, axiom, sorry.
-/
import Derived.Test.YtkimkplgmifckaaChecked
import GoSem.Claim
import GoSem.ClaimJoined
import GoSem.ClaimMapViews
import Derived.JoinedTies
import Derived.KernelRfl
namespace Go.Proofs.Ytkimkplgmifckaa
/- THE CELL 'sum', in the pinned program and in every row, IS THE sha256 OF THE DUMP (.gsa) THAT YtkimkplgmifckaaProg.lean LOADS. Nothing in Lean hashes anything: it is a label: what it is worth is what the hold of that sum in a sandbox is worth. -/
noncomputable def Try.pinned : Pinned := { name := "ytkimkplgmifckaa", sum := "3cb8a58c82b2a814a289e724f9ee3a1383c3501a3e12e9c95f9cd6c8bb6e3a90", checked := Try.checked }
namespace Rows
def none {H : Type} : Left H := { results := [], args := [] }

/-- 'linkhouselaw8.FramesBeginAtTheCore': WHATEVER THE INPUT: true; the input reads as it did. -/
def framesBeginAtTheCoreSpec : ChangeSpec := { name := "framesBeginAtTheCore", fn := fun _ => fun
  | [d1, d2] => { results := [.lit (.bool true)], args := [d1, d2] }
  | _ => none }
def framesBeginAtTheCoreRow : OpenClaim := { program := "ytkimkplgmifckaa", sum := "3cb8a58c82b2a814a289e724f9ee3a1383c3501a3e12e9c95f9cd6c8bb6e3a90", func := "linkhouse/linkhouselaw8.FramesBeginAtTheCore", spec := "framesBeginAtTheCore", unfollowed := true, recurses := true, apart := false }
def FramesBeginAtTheCoreSaid : Prop := framesBeginAtTheCoreRow.holds Try.pinned (OpenSpec.ofChange framesBeginAtTheCoreSpec)

/-- ITS FALSE NEIGHBOUR: 'it returns false'. Refute it at one input. -/
def framesBeginAtTheCoreWrong : ChangeSpec := { name := "framesBeginAtTheCore", fn := fun _ => fun
  | [d1, d2] => { results := [.lit (.bool false)], args := [d1, d2] }
  | _ => none }
def FramesBeginAtTheCoreWrongFalsely : Prop := framesBeginAtTheCoreRow.holds Try.pinned (OpenSpec.ofChange framesBeginAtTheCoreWrong)

/-- 'linkhouselaw8.FramesOfOneCore': WHATEVER THE INPUT: true; the input reads as it did. -/
def framesOfOneCoreSpec : ChangeSpec := { name := "framesOfOneCore", fn := fun _ => fun
  | [d1, d2, d3] => { results := [.lit (.bool true)], args := [d1, d2, d3] }
  | _ => none }
def framesOfOneCoreRow : OpenClaim := { program := "ytkimkplgmifckaa", sum := "3cb8a58c82b2a814a289e724f9ee3a1383c3501a3e12e9c95f9cd6c8bb6e3a90", func := "linkhouse/linkhouselaw8.FramesOfOneCore", spec := "framesOfOneCore", unfollowed := true, recurses := true, apart := false }
def FramesOfOneCoreSaid : Prop := framesOfOneCoreRow.holds Try.pinned (OpenSpec.ofChange framesOfOneCoreSpec)

/-- ITS FALSE NEIGHBOUR: 'it returns false'. Refute it at one input. -/
def framesOfOneCoreWrong : ChangeSpec := { name := "framesOfOneCore", fn := fun _ => fun
  | [d1, d2, d3] => { results := [.lit (.bool false)], args := [d1, d2, d3] }
  | _ => none }
def FramesOfOneCoreWrongFalsely : Prop := framesOfOneCoreRow.holds Try.pinned (OpenSpec.ofChange framesOfOneCoreWrong)

/-- 'linkhouselaw8.TypedFieldsAreInside': WHATEVER THE INPUT: true; the input reads as it did. -/
def typedFieldsAreInsideSpec : ChangeSpec := { name := "typedFieldsAreInside", fn := fun _ => fun
  | [d1, d2, d3] => { results := [.lit (.bool true)], args := [d1, d2, d3] }
  | _ => none }
def typedFieldsAreInsideRow : OpenClaim := { program := "ytkimkplgmifckaa", sum := "3cb8a58c82b2a814a289e724f9ee3a1383c3501a3e12e9c95f9cd6c8bb6e3a90", func := "linkhouse/linkhouselaw8.TypedFieldsAreInside", spec := "typedFieldsAreInside", unfollowed := true, recurses := true, apart := false }
def TypedFieldsAreInsideSaid : Prop := typedFieldsAreInsideRow.holds Try.pinned (OpenSpec.ofChange typedFieldsAreInsideSpec)

/-- ITS FALSE NEIGHBOUR: 'it returns false'. Refute it at one input. -/
def typedFieldsAreInsideWrong : ChangeSpec := { name := "typedFieldsAreInside", fn := fun _ => fun
  | [d1, d2, d3] => { results := [.lit (.bool false)], args := [d1, d2, d3] }
  | _ => none }
def TypedFieldsAreInsideWrongFalsely : Prop := typedFieldsAreInsideRow.holds Try.pinned (OpenSpec.ofChange typedFieldsAreInsideWrong)

/-- 'linkhouselaw8.TypedElementsFollow': WHATEVER THE INPUT: true; the input reads as it did. -/
def typedElementsFollowSpec : ChangeSpec := { name := "typedElementsFollow", fn := fun _ => fun
  | [d1, d2] => { results := [.lit (.bool true)], args := [d1, d2] }
  | _ => none }
def typedElementsFollowRow : OpenClaim := { program := "ytkimkplgmifckaa", sum := "3cb8a58c82b2a814a289e724f9ee3a1383c3501a3e12e9c95f9cd6c8bb6e3a90", func := "linkhouse/linkhouselaw8.TypedElementsFollow", spec := "typedElementsFollow", unfollowed := true, recurses := true, apart := false }
def TypedElementsFollowSaid : Prop := typedElementsFollowRow.holds Try.pinned (OpenSpec.ofChange typedElementsFollowSpec)

/-- ITS FALSE NEIGHBOUR: 'it returns false'. Refute it at one input. -/
def typedElementsFollowWrong : ChangeSpec := { name := "typedElementsFollow", fn := fun _ => fun
  | [d1, d2] => { results := [.lit (.bool false)], args := [d1, d2] }
  | _ => none }
def TypedElementsFollowWrongFalsely : Prop := typedElementsFollowRow.holds Try.pinned (OpenSpec.ofChange typedElementsFollowWrong)

/-- 'linkhouselaw8.TypedPointersLead': WHATEVER THE INPUT: true; the input reads as it did. -/
def typedPointersLeadSpec : ChangeSpec := { name := "typedPointersLead", fn := fun _ => fun
  | [d1, d2] => { results := [.lit (.bool true)], args := [d1, d2] }
  | _ => none }
def typedPointersLeadRow : OpenClaim := { program := "ytkimkplgmifckaa", sum := "3cb8a58c82b2a814a289e724f9ee3a1383c3501a3e12e9c95f9cd6c8bb6e3a90", func := "linkhouse/linkhouselaw8.TypedPointersLead", spec := "typedPointersLead", unfollowed := true, recurses := true, apart := false }
def TypedPointersLeadSaid : Prop := typedPointersLeadRow.holds Try.pinned (OpenSpec.ofChange typedPointersLeadSpec)

/-- ITS FALSE NEIGHBOUR: 'it returns false'. Refute it at one input. -/
def typedPointersLeadWrong : ChangeSpec := { name := "typedPointersLead", fn := fun _ => fun
  | [d1, d2] => { results := [.lit (.bool false)], args := [d1, d2] }
  | _ => none }
def TypedPointersLeadWrongFalsely : Prop := typedPointersLeadRow.holds Try.pinned (OpenSpec.ofChange typedPointersLeadWrong)

/- THE SECOND FORM. 'bulk': how many values and letters a reading holds, each counted each time it is reached (what is shared counts as often as it is met; a slice's spare places count too). A statement '..UptoSaid' is the law's where the arguments, and the package variables that the reading takes, are together of bulk at most 1048576: NARROWER than '..Said'. Prove '..Said' where nothing that the law and all that it calls make is longer than what came in: it says more and counts as full. Else prove '..UptoSaid'. A law counts once. -/
mutual
def uptoBulk {H : Type} : DataW H → Nat
  | .lit (.string bytes) => bytes.length + 1
  | .lit _ => 1
  | .nil => 1
  | .ptr d => uptoBulk d + 1
  | .slice elems spare => uptoBulkAll elems + uptoBulkAll spare + 1
  | .agg parts => uptoBulkAll parts + 1
  | .iface _ d => uptoBulk d + 1
  | .map entries => uptoBulkEntries entries + 1
  | .held _ => 1
def uptoBulkAll {H : Type} : List (DataW H) → Nat
  | [] => 0
  | d :: r => uptoBulk d + uptoBulkAll r
def uptoBulkEntries {H : Type} : List (Lit × DataW H) → Nat
  | [] => 0
  | x :: r => uptoBulkEntry x + uptoBulkEntries r
def uptoBulkEntry {H : Type} : Lit × DataW H → Nat
  | (.string bytes, d) => bytes.length + uptoBulk d + 1
  | (_, d) => uptoBulk d + 1
 end
def uptoSmall : (H : Type) → List (DataW H) → Bool := fun _ ds => decide (uptoBulkAll ds ≤ 1048576)
def OpenSpec.upto (s : _root_.Go.ChangeSpec) : _root_.Go.OpenSpec := { _root_.Go.OpenSpec.ofChange s with cond := some uptoSmall }

/-- 'linkhouselaw8.FramesBeginAtTheCore', WHERE WHAT IT READS IS OF BULK AT MOST 1048576: true; the input reads as it did. -/
def framesBeginAtTheCoreUptoRow : OpenClaim := { program := "ytkimkplgmifckaa", sum := "3cb8a58c82b2a814a289e724f9ee3a1383c3501a3e12e9c95f9cd6c8bb6e3a90", func := "linkhouse/linkhouselaw8.FramesBeginAtTheCore", spec := "framesBeginAtTheCore", unfollowed := true, recurses := true, apart := false, narrowed := true }
def FramesBeginAtTheCoreUptoSaid : Prop := framesBeginAtTheCoreUptoRow.holds Try.pinned (OpenSpec.upto framesBeginAtTheCoreSpec)

/-- 'linkhouselaw8.FramesOfOneCore', WHERE WHAT IT READS IS OF BULK AT MOST 1048576: true; the input reads as it did. -/
def framesOfOneCoreUptoRow : OpenClaim := { program := "ytkimkplgmifckaa", sum := "3cb8a58c82b2a814a289e724f9ee3a1383c3501a3e12e9c95f9cd6c8bb6e3a90", func := "linkhouse/linkhouselaw8.FramesOfOneCore", spec := "framesOfOneCore", unfollowed := true, recurses := true, apart := false, narrowed := true }
def FramesOfOneCoreUptoSaid : Prop := framesOfOneCoreUptoRow.holds Try.pinned (OpenSpec.upto framesOfOneCoreSpec)

/-- 'linkhouselaw8.TypedFieldsAreInside', WHERE WHAT IT READS IS OF BULK AT MOST 1048576: true; the input reads as it did. -/
def typedFieldsAreInsideUptoRow : OpenClaim := { program := "ytkimkplgmifckaa", sum := "3cb8a58c82b2a814a289e724f9ee3a1383c3501a3e12e9c95f9cd6c8bb6e3a90", func := "linkhouse/linkhouselaw8.TypedFieldsAreInside", spec := "typedFieldsAreInside", unfollowed := true, recurses := true, apart := false, narrowed := true }
def TypedFieldsAreInsideUptoSaid : Prop := typedFieldsAreInsideUptoRow.holds Try.pinned (OpenSpec.upto typedFieldsAreInsideSpec)

/-- 'linkhouselaw8.TypedElementsFollow', WHERE WHAT IT READS IS OF BULK AT MOST 1048576: true; the input reads as it did. -/
def typedElementsFollowUptoRow : OpenClaim := { program := "ytkimkplgmifckaa", sum := "3cb8a58c82b2a814a289e724f9ee3a1383c3501a3e12e9c95f9cd6c8bb6e3a90", func := "linkhouse/linkhouselaw8.TypedElementsFollow", spec := "typedElementsFollow", unfollowed := true, recurses := true, apart := false, narrowed := true }
def TypedElementsFollowUptoSaid : Prop := typedElementsFollowUptoRow.holds Try.pinned (OpenSpec.upto typedElementsFollowSpec)

/-- 'linkhouselaw8.TypedPointersLead', WHERE WHAT IT READS IS OF BULK AT MOST 1048576: true; the input reads as it did. -/
def typedPointersLeadUptoRow : OpenClaim := { program := "ytkimkplgmifckaa", sum := "3cb8a58c82b2a814a289e724f9ee3a1383c3501a3e12e9c95f9cd6c8bb6e3a90", func := "linkhouse/linkhouselaw8.TypedPointersLead", spec := "typedPointersLead", unfollowed := true, recurses := true, apart := false, narrowed := true }
def TypedPointersLeadUptoSaid : Prop := typedPointersLeadUptoRow.holds Try.pinned (OpenSpec.upto typedPointersLeadSpec)

end Rows
end Go.Proofs.Ytkimkplgmifckaa
