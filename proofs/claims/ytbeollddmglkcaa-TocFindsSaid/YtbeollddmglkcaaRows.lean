/-
  No cell of these rows narrows 'for every input' (looked for: loops, veiled, ifaces, maps, wideKeys, modest, calm, conditions, laid).
  DERIVED. THE GIVEN ROWS OF THIS SEAT. 6 by the template 'for every input the law returns true; each argument reads behind the call as it read before'; 0 by the template 'total and deterministic' (their statements: YtbeollddmglkcaaTotals.lean).
  GIVEN WITH THE SEED: the statements are not yours to turn. If you find one false, say at which input.
  Laid BY PROGRAM, IN A SANDBOX (cutbox-rows.mjs): the forced cells as the released guide's own fill.sh prints them over the translation 3dd03834e617d5d7… (all of the seat's roots in one cut). By AI agents, Wed Nov 11 2026. No macro, syntax, notation, axiom, sorry.
-/
import Derived.Test.YtbeollddmglkcaaChecked
import GoSem.Claim
import GoSem.ClaimJoined
import GoSem.ClaimMapViews
import Derived.JoinedTies
import Derived.KernelRfl
namespace Go.Proofs.Ytbeollddmglkcaa
/- THE CELL 'sum', in the pinned program and in every row, IS THE sha256 OF THE DUMP (.gsa) THAT YtbeollddmglkcaaProg.lean LOADS. Nothing in Lean hashes anything: it is a label: what it is worth is what the hold of that sum in a sandbox is worth. -/
noncomputable def Try.pinned : Pinned := { name := "ytbeollddmglkcaa", sum := "3dd03834e617d5d752e257f4f5a21cda3d71b6d0176cd5c6cb8f6e4694e45696", checked := Try.checked }
namespace Rows
def none {H : Type} : Left H := { results := [], args := [] }

/-- 'obeluslaw38.TocScopes': WHATEVER THE INPUT: true; the input reads as it did. -/
def tocScopesSpec : ChangeSpec := { name := "tocScopes", fn := fun _ => fun
  | [d1, d2] => { results := [.lit (.bool true)], args := [d1, d2] }
  | _ => none }
def tocScopesRow : OpenClaim := { program := "ytbeollddmglkcaa", sum := "3dd03834e617d5d752e257f4f5a21cda3d71b6d0176cd5c6cb8f6e4694e45696", func := "obelus/obeluslaw38.TocScopes", spec := "tocScopes", inPlace := ["internal/abi.NoEscape"], recurses := true, apart := false }
def TocScopesSaid : Prop := tocScopesRow.holds Try.pinned (OpenSpec.ofChange tocScopesSpec)

/-- ITS FALSE NEIGHBOUR: 'it returns false'. Refute it at one input. -/
def tocScopesWrong : ChangeSpec := { name := "tocScopes", fn := fun _ => fun
  | [d1, d2] => { results := [.lit (.bool false)], args := [d1, d2] }
  | _ => none }
def TocScopesWrongFalsely : Prop := tocScopesRow.holds Try.pinned (OpenSpec.ofChange tocScopesWrong)

/-- 'obeluslaw38.TocContents': WHATEVER THE INPUT: true; the input reads as it did. -/
def tocContentsSpec : ChangeSpec := { name := "tocContents", fn := fun _ => fun
  | [d1, d2, d3] => { results := [.lit (.bool true)], args := [d1, d2, d3] }
  | _ => none }
def tocContentsRow : OpenClaim := { program := "ytbeollddmglkcaa", sum := "3dd03834e617d5d752e257f4f5a21cda3d71b6d0176cd5c6cb8f6e4694e45696", func := "obelus/obeluslaw38.TocContents", spec := "tocContents", inPlace := ["internal/abi.NoEscape"], apart := false }
def TocContentsSaid : Prop := tocContentsRow.holds Try.pinned (OpenSpec.ofChange tocContentsSpec)

/-- ITS FALSE NEIGHBOUR: 'it returns false'. Refute it at one input. -/
def tocContentsWrong : ChangeSpec := { name := "tocContents", fn := fun _ => fun
  | [d1, d2, d3] => { results := [.lit (.bool false)], args := [d1, d2, d3] }
  | _ => none }
def TocContentsWrongFalsely : Prop := tocContentsRow.holds Try.pinned (OpenSpec.ofChange tocContentsWrong)

/-- 'obeluslaw38.TocParents': WHATEVER THE INPUT: true; the input reads as it did. -/
def tocParentsSpec : ChangeSpec := { name := "tocParents", fn := fun _ => fun
  | [d1, d2] => { results := [.lit (.bool true)], args := [d1, d2] }
  | _ => none }
def tocParentsRow : OpenClaim := { program := "ytbeollddmglkcaa", sum := "3dd03834e617d5d752e257f4f5a21cda3d71b6d0176cd5c6cb8f6e4694e45696", func := "obelus/obeluslaw38.TocParents", spec := "tocParents", inPlace := ["internal/abi.NoEscape"], recurses := true, apart := false }
def TocParentsSaid : Prop := tocParentsRow.holds Try.pinned (OpenSpec.ofChange tocParentsSpec)

/-- ITS FALSE NEIGHBOUR: 'it returns false'. Refute it at one input. -/
def tocParentsWrong : ChangeSpec := { name := "tocParents", fn := fun _ => fun
  | [d1, d2] => { results := [.lit (.bool false)], args := [d1, d2] }
  | _ => none }
def TocParentsWrongFalsely : Prop := tocParentsRow.holds Try.pinned (OpenSpec.ofChange tocParentsWrong)

/-- 'obeluslaw38.TocPaths': WHATEVER THE INPUT: true; the input reads as it did. -/
def tocPathsSpec : ChangeSpec := { name := "tocPaths", fn := fun _ => fun
  | [d1, d2] => { results := [.lit (.bool true)], args := [d1, d2] }
  | _ => none }
def tocPathsRow : OpenClaim := { program := "ytbeollddmglkcaa", sum := "3dd03834e617d5d752e257f4f5a21cda3d71b6d0176cd5c6cb8f6e4694e45696", func := "obelus/obeluslaw38.TocPaths", spec := "tocPaths", inPlace := ["internal/abi.NoEscape"], recurses := true, apart := false }
def TocPathsSaid : Prop := tocPathsRow.holds Try.pinned (OpenSpec.ofChange tocPathsSpec)

/-- ITS FALSE NEIGHBOUR: 'it returns false'. Refute it at one input. -/
def tocPathsWrong : ChangeSpec := { name := "tocPaths", fn := fun _ => fun
  | [d1, d2] => { results := [.lit (.bool false)], args := [d1, d2] }
  | _ => none }
def TocPathsWrongFalsely : Prop := tocPathsRow.holds Try.pinned (OpenSpec.ofChange tocPathsWrong)

/-- 'obeluslaw38.TocFinds': WHATEVER THE INPUT: true; the input reads as it did. -/
def tocFindsSpec : ChangeSpec := { name := "tocFinds", fn := fun _ => fun
  | [d1, d2] => { results := [.lit (.bool true)], args := [d1, d2] }
  | _ => none }
def tocFindsRow : OpenClaim := { program := "ytbeollddmglkcaa", sum := "3dd03834e617d5d752e257f4f5a21cda3d71b6d0176cd5c6cb8f6e4694e45696", func := "obelus/obeluslaw38.TocFinds", spec := "tocFinds", inPlace := ["internal/abi.NoEscape"], recurses := true, apart := false }
def TocFindsSaid : Prop := tocFindsRow.holds Try.pinned (OpenSpec.ofChange tocFindsSpec)

/-- ITS FALSE NEIGHBOUR: 'it returns false'. Refute it at one input. -/
def tocFindsWrong : ChangeSpec := { name := "tocFinds", fn := fun _ => fun
  | [d1, d2] => { results := [.lit (.bool false)], args := [d1, d2] }
  | _ => none }
def TocFindsWrongFalsely : Prop := tocFindsRow.holds Try.pinned (OpenSpec.ofChange tocFindsWrong)

/-- 'obeluslaw38.TocTitles': WHATEVER THE INPUT: true; the input reads as it did. -/
def tocTitlesSpec : ChangeSpec := { name := "tocTitles", fn := fun _ => fun
  | [d] => { results := [.lit (.bool true)], args := [d] }
  | _ => none }
def tocTitlesRow : OpenClaim := { program := "ytbeollddmglkcaa", sum := "3dd03834e617d5d752e257f4f5a21cda3d71b6d0176cd5c6cb8f6e4694e45696", func := "obelus/obeluslaw38.TocTitles", spec := "tocTitles", inPlace := ["internal/abi.NoEscape"], apart := false }
def TocTitlesSaid : Prop := tocTitlesRow.holds Try.pinned (OpenSpec.ofChange tocTitlesSpec)

/-- ITS FALSE NEIGHBOUR: 'it returns false'. Refute it at one input. -/
def tocTitlesWrong : ChangeSpec := { name := "tocTitles", fn := fun _ => fun
  | [d] => { results := [.lit (.bool false)], args := [d] }
  | _ => none }
def TocTitlesWrongFalsely : Prop := tocTitlesRow.holds Try.pinned (OpenSpec.ofChange tocTitlesWrong)

/- THE SECOND FORM. 'bulk': how many values and letters a reading holds, each counted each time it is reached (what is shared counts as often as it is met; a slice's spare places count too). A statement '..UptoSaid' is the law's where the arguments, and the package variables that the reading takes, are together of bulk at most 1048576: NARROWER than '..Said'. Prove '..Said' where nothing that the law and all that it calls make is longer than what came in: it says more and counts as full. Else prove '..UptoSaid'. A law counts once. -/
mutual
def uptoBulk {H : Type} : DataW H → Nat
  | .lit (.string bytes) => bytes.length + 1
  | .lit _ => 1
  | .nil => 1
  | .ptr d => uptoBulk d + 1
  | .slice elems spare => uptoBulkAll elems + uptoBulkAll spare + 1
  | .agg parts => uptoBulkAll parts + 1
  | .iface _ d => uptoBulk d + 1
  | .map entries => uptoBulkEntries entries + 1
  | .held _ => 1
def uptoBulkAll {H : Type} : List (DataW H) → Nat
  | [] => 0
  | d :: r => uptoBulk d + uptoBulkAll r
def uptoBulkEntries {H : Type} : List (Lit × DataW H) → Nat
  | [] => 0
  | x :: r => uptoBulkEntry x + uptoBulkEntries r
def uptoBulkEntry {H : Type} : Lit × DataW H → Nat
  | (.string bytes, d) => bytes.length + uptoBulk d + 1
  | (_, d) => uptoBulk d + 1
 end
def uptoSmall : (H : Type) → List (DataW H) → Bool := fun _ ds => decide (uptoBulkAll ds ≤ 1048576)
def OpenSpec.upto (s : _root_.Go.ChangeSpec) : _root_.Go.OpenSpec := { _root_.Go.OpenSpec.ofChange s with cond := some uptoSmall }

/-- 'obeluslaw38.TocScopes', WHERE WHAT IT READS IS OF BULK AT MOST 1048576: true; the input reads as it did. -/
def tocScopesUptoRow : OpenClaim := { program := "ytbeollddmglkcaa", sum := "3dd03834e617d5d752e257f4f5a21cda3d71b6d0176cd5c6cb8f6e4694e45696", func := "obelus/obeluslaw38.TocScopes", spec := "tocScopes", inPlace := ["internal/abi.NoEscape"], recurses := true, apart := false, narrowed := true }
def TocScopesUptoSaid : Prop := tocScopesUptoRow.holds Try.pinned (OpenSpec.upto tocScopesSpec)

/-- 'obeluslaw38.TocContents', WHERE WHAT IT READS IS OF BULK AT MOST 1048576: true; the input reads as it did. -/
def tocContentsUptoRow : OpenClaim := { program := "ytbeollddmglkcaa", sum := "3dd03834e617d5d752e257f4f5a21cda3d71b6d0176cd5c6cb8f6e4694e45696", func := "obelus/obeluslaw38.TocContents", spec := "tocContents", inPlace := ["internal/abi.NoEscape"], apart := false, narrowed := true }
def TocContentsUptoSaid : Prop := tocContentsUptoRow.holds Try.pinned (OpenSpec.upto tocContentsSpec)

/-- 'obeluslaw38.TocParents', WHERE WHAT IT READS IS OF BULK AT MOST 1048576: true; the input reads as it did. -/
def tocParentsUptoRow : OpenClaim := { program := "ytbeollddmglkcaa", sum := "3dd03834e617d5d752e257f4f5a21cda3d71b6d0176cd5c6cb8f6e4694e45696", func := "obelus/obeluslaw38.TocParents", spec := "tocParents", inPlace := ["internal/abi.NoEscape"], recurses := true, apart := false, narrowed := true }
def TocParentsUptoSaid : Prop := tocParentsUptoRow.holds Try.pinned (OpenSpec.upto tocParentsSpec)

/-- 'obeluslaw38.TocPaths', WHERE WHAT IT READS IS OF BULK AT MOST 1048576: true; the input reads as it did. -/
def tocPathsUptoRow : OpenClaim := { program := "ytbeollddmglkcaa", sum := "3dd03834e617d5d752e257f4f5a21cda3d71b6d0176cd5c6cb8f6e4694e45696", func := "obelus/obeluslaw38.TocPaths", spec := "tocPaths", inPlace := ["internal/abi.NoEscape"], recurses := true, apart := false, narrowed := true }
def TocPathsUptoSaid : Prop := tocPathsUptoRow.holds Try.pinned (OpenSpec.upto tocPathsSpec)

/-- 'obeluslaw38.TocFinds', WHERE WHAT IT READS IS OF BULK AT MOST 1048576: true; the input reads as it did. -/
def tocFindsUptoRow : OpenClaim := { program := "ytbeollddmglkcaa", sum := "3dd03834e617d5d752e257f4f5a21cda3d71b6d0176cd5c6cb8f6e4694e45696", func := "obelus/obeluslaw38.TocFinds", spec := "tocFinds", inPlace := ["internal/abi.NoEscape"], recurses := true, apart := false, narrowed := true }
def TocFindsUptoSaid : Prop := tocFindsUptoRow.holds Try.pinned (OpenSpec.upto tocFindsSpec)

/-- 'obeluslaw38.TocTitles', WHERE WHAT IT READS IS OF BULK AT MOST 1048576: true; the input reads as it did. -/
def tocTitlesUptoRow : OpenClaim := { program := "ytbeollddmglkcaa", sum := "3dd03834e617d5d752e257f4f5a21cda3d71b6d0176cd5c6cb8f6e4694e45696", func := "obelus/obeluslaw38.TocTitles", spec := "tocTitles", inPlace := ["internal/abi.NoEscape"], apart := false, narrowed := true }
def TocTitlesUptoSaid : Prop := tocTitlesUptoRow.holds Try.pinned (OpenSpec.upto tocTitlesSpec)

end Rows
end Go.Proofs.Ytbeollddmglkcaa
