/-
  No cell of these rows narrows 'for every input' (looked for: loops, veiled, ifaces, maps, wideKeys, modest, calm, conditions, laid).
  DERIVED. THE GIVEN ROWS OF THIS SEAT. 5 by the template 'for every input the law returns true; each argument reads behind the call as it read before'; 0 by the template 'total and deterministic' (their statements: YtkimkplgmifckaaGreatTotals.lean).
  GIVEN WITH THE SEED: the statements are not yours to turn. If you find one false, say at which input.
  Laid BY PROGRAM, IN A SANDBOX (cutbox-rows.mjs): the forced cells as the released guide's own fill.sh prints them over the translation 4d2d5498048ad698… (all of the seat's roots in one cut). By AI agents, Wed Nov 11 2026. No macro, syntax, notation, axiom, sorry.
-/
import Derived.Test.YtkimkplgmifckaaGreatChecked
import GoSem.Claim
import GoSem.ClaimJoined
import GoSem.ClaimMapViews
import Derived.JoinedTies
import Derived.KernelRfl
namespace Go.Proofs.YtkimkplgmifckaaGreat
/- THE CELL 'sum', in the pinned program and in every row, IS THE sha256 OF THE DUMP (.gsa) THAT YtkimkplgmifckaaGreatProg.lean LOADS. Nothing in Lean hashes anything: it is a label: what it is worth is what the hold of that sum in a sandbox is worth. -/
noncomputable def Tryz.pinned : Pinned := { name := "ytkimkplgmifckaagreat", sum := "4d2d5498048ad6987b32c4232bc080f6e22fdaf82e82c91f2f28588ceaf8cf57", checked := Tryz.checked }
namespace Rows
def none {H : Type} : Left H := { results := [], args := [] }

/-- 'linkhouselaw8.FramesMatchSpec': WHATEVER THE INPUT: true; the input reads as it did. -/
def framesMatchSpecSpec : ChangeSpec := { name := "framesMatchSpec", fn := fun _ => fun
  | [d1, d2] => { results := [.lit (.bool true)], args := [d1, d2] }
  | _ => none }
def framesMatchSpecRow : OpenClaim := { program := "ytkimkplgmifckaagreat", sum := "4d2d5498048ad6987b32c4232bc080f6e22fdaf82e82c91f2f28588ceaf8cf57", func := "linkhouse/linkhouselaw8.FramesMatchSpec", spec := "framesMatchSpec", unfollowed := true, recurses := true, apart := false }
def FramesMatchSpecSaid : Prop := framesMatchSpecRow.holds Tryz.pinned (OpenSpec.ofChange framesMatchSpecSpec)

/-- ITS FALSE NEIGHBOUR: 'it returns false'. Refute it at one input. -/
def framesMatchSpecWrong : ChangeSpec := { name := "framesMatchSpec", fn := fun _ => fun
  | [d1, d2] => { results := [.lit (.bool false)], args := [d1, d2] }
  | _ => none }
def FramesMatchSpecWrongFalsely : Prop := framesMatchSpecRow.holds Tryz.pinned (OpenSpec.ofChange framesMatchSpecWrong)

/-- 'linkhouselaw8.TypedMatchesSpec': WHATEVER THE INPUT: true; the input reads as it did. -/
def typedMatchesSpecSpec : ChangeSpec := { name := "typedMatchesSpec", fn := fun _ => fun
  | [d1, d2] => { results := [.lit (.bool true)], args := [d1, d2] }
  | _ => none }
def typedMatchesSpecRow : OpenClaim := { program := "ytkimkplgmifckaagreat", sum := "4d2d5498048ad6987b32c4232bc080f6e22fdaf82e82c91f2f28588ceaf8cf57", func := "linkhouse/linkhouselaw8.TypedMatchesSpec", spec := "typedMatchesSpec", unfollowed := true, recurses := true, apart := false }
def TypedMatchesSpecSaid : Prop := typedMatchesSpecRow.holds Tryz.pinned (OpenSpec.ofChange typedMatchesSpecSpec)

/-- ITS FALSE NEIGHBOUR: 'it returns false'. Refute it at one input. -/
def typedMatchesSpecWrong : ChangeSpec := { name := "typedMatchesSpec", fn := fun _ => fun
  | [d1, d2] => { results := [.lit (.bool false)], args := [d1, d2] }
  | _ => none }
def TypedMatchesSpecWrongFalsely : Prop := typedMatchesSpecRow.holds Tryz.pinned (OpenSpec.ofChange typedMatchesSpecWrong)

/-- 'linkhouselaw8.BreaksHitMatchesSpec': WHATEVER THE INPUT: true; the input reads as it did. -/
def breaksHitMatchesSpecSpec : ChangeSpec := { name := "breaksHitMatchesSpec", fn := fun _ => fun
  | [d1, d2, d3] => { results := [.lit (.bool true)], args := [d1, d2, d3] }
  | _ => none }
def breaksHitMatchesSpecRow : OpenClaim := { program := "ytkimkplgmifckaagreat", sum := "4d2d5498048ad6987b32c4232bc080f6e22fdaf82e82c91f2f28588ceaf8cf57", func := "linkhouse/linkhouselaw8.BreaksHitMatchesSpec", spec := "breaksHitMatchesSpec", inPlace := ["slices.overlaps[linkhouse/api.Point]"], unfollowed := true, recurses := true, apart := false }
def BreaksHitMatchesSpecSaid : Prop := breaksHitMatchesSpecRow.holds Tryz.pinned (OpenSpec.ofChange breaksHitMatchesSpecSpec)

/-- ITS FALSE NEIGHBOUR: 'it returns false'. Refute it at one input. -/
def breaksHitMatchesSpecWrong : ChangeSpec := { name := "breaksHitMatchesSpec", fn := fun _ => fun
  | [d1, d2, d3] => { results := [.lit (.bool false)], args := [d1, d2, d3] }
  | _ => none }
def BreaksHitMatchesSpecWrongFalsely : Prop := breaksHitMatchesSpecRow.holds Tryz.pinned (OpenSpec.ofChange breaksHitMatchesSpecWrong)

/-- 'linkhouselaw8.BreaksMatchSpec': WHATEVER THE INPUT: true; the input reads as it did. -/
def breaksMatchSpecSpec : ChangeSpec := { name := "breaksMatchSpec", fn := fun _ => fun
  | [d1, d2, d3] => { results := [.lit (.bool true)], args := [d1, d2, d3] }
  | _ => none }
def breaksMatchSpecRow : OpenClaim := { program := "ytkimkplgmifckaagreat", sum := "4d2d5498048ad6987b32c4232bc080f6e22fdaf82e82c91f2f28588ceaf8cf57", func := "linkhouse/linkhouselaw8.BreaksMatchSpec", spec := "breaksMatchSpec", inPlace := ["slices.overlaps[linkhouse/api.Point]"], unfollowed := true, recurses := true, apart := false }
def BreaksMatchSpecSaid : Prop := breaksMatchSpecRow.holds Tryz.pinned (OpenSpec.ofChange breaksMatchSpecSpec)

/-- ITS FALSE NEIGHBOUR: 'it returns false'. Refute it at one input. -/
def breaksMatchSpecWrong : ChangeSpec := { name := "breaksMatchSpec", fn := fun _ => fun
  | [d1, d2, d3] => { results := [.lit (.bool false)], args := [d1, d2, d3] }
  | _ => none }
def BreaksMatchSpecWrongFalsely : Prop := breaksMatchSpecRow.holds Tryz.pinned (OpenSpec.ofChange breaksMatchSpecWrong)

/-- 'linkhouselaw8.BreaksClearUndoesSet': WHATEVER THE INPUT: true; the input reads as it did. -/
def breaksClearUndoesSetSpec : ChangeSpec := { name := "breaksClearUndoesSet", fn := fun _ => fun
  | [d1, d2, d3] => { results := [.lit (.bool true)], args := [d1, d2, d3] }
  | _ => none }
def breaksClearUndoesSetRow : OpenClaim := { program := "ytkimkplgmifckaagreat", sum := "4d2d5498048ad6987b32c4232bc080f6e22fdaf82e82c91f2f28588ceaf8cf57", func := "linkhouse/linkhouselaw8.BreaksClearUndoesSet", spec := "breaksClearUndoesSet", inPlace := ["slices.overlaps[linkhouse/api.Point]"], unfollowed := true, recurses := true, apart := false }
def BreaksClearUndoesSetSaid : Prop := breaksClearUndoesSetRow.holds Tryz.pinned (OpenSpec.ofChange breaksClearUndoesSetSpec)

/-- ITS FALSE NEIGHBOUR: 'it returns false'. Refute it at one input. -/
def breaksClearUndoesSetWrong : ChangeSpec := { name := "breaksClearUndoesSet", fn := fun _ => fun
  | [d1, d2, d3] => { results := [.lit (.bool false)], args := [d1, d2, d3] }
  | _ => none }
def BreaksClearUndoesSetWrongFalsely : Prop := breaksClearUndoesSetRow.holds Tryz.pinned (OpenSpec.ofChange breaksClearUndoesSetWrong)

/- THE SECOND FORM. 'bulk': how many values and letters a reading holds, each counted each time it is reached (what is shared counts as often as it is met; a slice's spare places count too). A statement '..UptoSaid' is the law's where the arguments, and the package variables that the reading takes, are together of bulk at most 1048576: NARROWER than '..Said'. Prove '..Said' where nothing that the law and all that it calls make is longer than what came in: it says more and counts as full. Else prove '..UptoSaid'. A law counts once. -/
mutual
def uptoBulk {H : Type} : DataW H → Nat
  | .lit (.string bytes) => bytes.length + 1
  | .lit _ => 1
  | .nil => 1
  | .ptr d => uptoBulk d + 1
  | .slice elems spare => uptoBulkAll elems + uptoBulkAll spare + 1
  | .agg parts => uptoBulkAll parts + 1
  | .iface _ d => uptoBulk d + 1
  | .map entries => uptoBulkEntries entries + 1
  | .held _ => 1
def uptoBulkAll {H : Type} : List (DataW H) → Nat
  | [] => 0
  | d :: r => uptoBulk d + uptoBulkAll r
def uptoBulkEntries {H : Type} : List (Lit × DataW H) → Nat
  | [] => 0
  | x :: r => uptoBulkEntry x + uptoBulkEntries r
def uptoBulkEntry {H : Type} : Lit × DataW H → Nat
  | (.string bytes, d) => bytes.length + uptoBulk d + 1
  | (_, d) => uptoBulk d + 1
 end
def uptoSmall : (H : Type) → List (DataW H) → Bool := fun _ ds => decide (uptoBulkAll ds ≤ 1048576)
def OpenSpec.upto (s : _root_.Go.ChangeSpec) : _root_.Go.OpenSpec := { _root_.Go.OpenSpec.ofChange s with cond := some uptoSmall }

/-- 'linkhouselaw8.FramesMatchSpec', WHERE WHAT IT READS IS OF BULK AT MOST 1048576: true; the input reads as it did. -/
def framesMatchSpecUptoRow : OpenClaim := { program := "ytkimkplgmifckaagreat", sum := "4d2d5498048ad6987b32c4232bc080f6e22fdaf82e82c91f2f28588ceaf8cf57", func := "linkhouse/linkhouselaw8.FramesMatchSpec", spec := "framesMatchSpec", unfollowed := true, recurses := true, apart := false, narrowed := true }
def FramesMatchSpecUptoSaid : Prop := framesMatchSpecUptoRow.holds Tryz.pinned (OpenSpec.upto framesMatchSpecSpec)

/-- 'linkhouselaw8.TypedMatchesSpec', WHERE WHAT IT READS IS OF BULK AT MOST 1048576: true; the input reads as it did. -/
def typedMatchesSpecUptoRow : OpenClaim := { program := "ytkimkplgmifckaagreat", sum := "4d2d5498048ad6987b32c4232bc080f6e22fdaf82e82c91f2f28588ceaf8cf57", func := "linkhouse/linkhouselaw8.TypedMatchesSpec", spec := "typedMatchesSpec", unfollowed := true, recurses := true, apart := false, narrowed := true }
def TypedMatchesSpecUptoSaid : Prop := typedMatchesSpecUptoRow.holds Tryz.pinned (OpenSpec.upto typedMatchesSpecSpec)

/-- 'linkhouselaw8.BreaksHitMatchesSpec', WHERE WHAT IT READS IS OF BULK AT MOST 1048576: true; the input reads as it did. -/
def breaksHitMatchesSpecUptoRow : OpenClaim := { program := "ytkimkplgmifckaagreat", sum := "4d2d5498048ad6987b32c4232bc080f6e22fdaf82e82c91f2f28588ceaf8cf57", func := "linkhouse/linkhouselaw8.BreaksHitMatchesSpec", spec := "breaksHitMatchesSpec", inPlace := ["slices.overlaps[linkhouse/api.Point]"], unfollowed := true, recurses := true, apart := false, narrowed := true }
def BreaksHitMatchesSpecUptoSaid : Prop := breaksHitMatchesSpecUptoRow.holds Tryz.pinned (OpenSpec.upto breaksHitMatchesSpecSpec)

/-- 'linkhouselaw8.BreaksMatchSpec', WHERE WHAT IT READS IS OF BULK AT MOST 1048576: true; the input reads as it did. -/
def breaksMatchSpecUptoRow : OpenClaim := { program := "ytkimkplgmifckaagreat", sum := "4d2d5498048ad6987b32c4232bc080f6e22fdaf82e82c91f2f28588ceaf8cf57", func := "linkhouse/linkhouselaw8.BreaksMatchSpec", spec := "breaksMatchSpec", inPlace := ["slices.overlaps[linkhouse/api.Point]"], unfollowed := true, recurses := true, apart := false, narrowed := true }
def BreaksMatchSpecUptoSaid : Prop := breaksMatchSpecUptoRow.holds Tryz.pinned (OpenSpec.upto breaksMatchSpecSpec)

/-- 'linkhouselaw8.BreaksClearUndoesSet', WHERE WHAT IT READS IS OF BULK AT MOST 1048576: true; the input reads as it did. -/
def breaksClearUndoesSetUptoRow : OpenClaim := { program := "ytkimkplgmifckaagreat", sum := "4d2d5498048ad6987b32c4232bc080f6e22fdaf82e82c91f2f28588ceaf8cf57", func := "linkhouse/linkhouselaw8.BreaksClearUndoesSet", spec := "breaksClearUndoesSet", inPlace := ["slices.overlaps[linkhouse/api.Point]"], unfollowed := true, recurses := true, apart := false, narrowed := true }
def BreaksClearUndoesSetUptoSaid : Prop := breaksClearUndoesSetUptoRow.holds Tryz.pinned (OpenSpec.upto breaksClearUndoesSetSpec)

end Rows
end Go.Proofs.YtkimkplgmifckaaGreat
