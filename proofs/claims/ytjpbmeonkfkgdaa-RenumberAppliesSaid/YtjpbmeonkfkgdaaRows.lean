/-
  No cell of these rows narrows 'for every input' (looked for: loops, veiled, ifaces, maps, wideKeys, modest, calm, conditions, laid).
  DERIVED. THE GIVEN ROWS OF THIS SEAT. 4 by the template 'for every input the law returns true; each argument reads behind the call as it read before'; 0 by the template 'total and deterministic' (their statements: YtjpbmeonkfkgdaaTotals.lean).
  GIVEN WITH THE SEED: the statements are not yours to turn. If you find one false, say at which input.
  Laid BY PROGRAM, IN A SANDBOX (cutbox-rows.mjs): the forced cells as the released guide's own fill.sh prints them over the translation f28cd0fe752e575c… (all of the seat's roots in one cut). By AI agents, Wed Nov 11 2026. No macro, syntax, notation, axiom, sorry.
-/
import Derived.Test.YtjpbmeonkfkgdaaChecked
import GoSem.Claim
import GoSem.ClaimJoined
import GoSem.ClaimMapViews
import Derived.JoinedTies
import Derived.KernelRfl
namespace Go.Proofs.Ytjpbmeonkfkgdaa
/- THE CELL 'sum', in the pinned program and in every row, IS THE sha256 OF THE DUMP (.gsa) THAT YtjpbmeonkfkgdaaProg.lean LOADS. Nothing in Lean hashes anything: it is a label: what it is worth is what the hold of that sum in a sandbox is worth. -/
noncomputable def Try.pinned : Pinned := { name := "ytjpbmeonkfkgdaa", sum := "f28cd0fe752e575c19e725e1ee573674f957853106374966a896696873e77d8b", checked := Try.checked }
namespace Rows
def none {H : Type} : Left H := { results := [], args := [] }

/-- 'obeluslaw37.RenumberFolds': WHATEVER THE INPUT: true; the input reads as it did. -/
def renumberFoldsSpec : ChangeSpec := { name := "renumberFolds", fn := fun _ => fun
  | [d1, d2] => { results := [.lit (.bool true)], args := [d1, d2] }
  | _ => none }
def renumberFoldsRow : OpenClaim := { program := "ytjpbmeonkfkgdaa", sum := "f28cd0fe752e575c19e725e1ee573674f957853106374966a896696873e77d8b", func := "obelus/obeluslaw37.RenumberFolds", spec := "renumberFolds", inPlace := ["internal/abi.NoEscape"], unfollowed := true, recurses := true, apart := false }
def RenumberFoldsSaid : Prop := renumberFoldsRow.holds Try.pinned (OpenSpec.ofChange renumberFoldsSpec)

/-- ITS FALSE NEIGHBOUR: 'it returns false'. Refute it at one input. -/
def renumberFoldsWrong : ChangeSpec := { name := "renumberFolds", fn := fun _ => fun
  | [d1, d2] => { results := [.lit (.bool false)], args := [d1, d2] }
  | _ => none }
def RenumberFoldsWrongFalsely : Prop := renumberFoldsRow.holds Try.pinned (OpenSpec.ofChange renumberFoldsWrong)

/-- 'obeluslaw37.RenumberAssociates': WHATEVER THE INPUT: true; the input reads as it did. -/
def renumberAssociatesSpec : ChangeSpec := { name := "renumberAssociates", fn := fun _ => fun
  | [d1, d2, d3] => { results := [.lit (.bool true)], args := [d1, d2, d3] }
  | _ => none }
def renumberAssociatesRow : OpenClaim := { program := "ytjpbmeonkfkgdaa", sum := "f28cd0fe752e575c19e725e1ee573674f957853106374966a896696873e77d8b", func := "obelus/obeluslaw37.RenumberAssociates", spec := "renumberAssociates", inPlace := ["internal/abi.NoEscape"], unfollowed := true, recurses := true, apart := false }
def RenumberAssociatesSaid : Prop := renumberAssociatesRow.holds Try.pinned (OpenSpec.ofChange renumberAssociatesSpec)

/-- ITS FALSE NEIGHBOUR: 'it returns false'. Refute it at one input. -/
def renumberAssociatesWrong : ChangeSpec := { name := "renumberAssociates", fn := fun _ => fun
  | [d1, d2, d3] => { results := [.lit (.bool false)], args := [d1, d2, d3] }
  | _ => none }
def RenumberAssociatesWrongFalsely : Prop := renumberAssociatesRow.holds Try.pinned (OpenSpec.ofChange renumberAssociatesWrong)

/-- 'obeluslaw37.RenumberOf': WHATEVER THE INPUT: true; the input reads as it did. -/
def renumberOfSpec : ChangeSpec := { name := "renumberOf", fn := fun _ => fun
  | [d1, d2, d3] => { results := [.lit (.bool true)], args := [d1, d2, d3] }
  | _ => none }
def renumberOfRow : OpenClaim := { program := "ytjpbmeonkfkgdaa", sum := "f28cd0fe752e575c19e725e1ee573674f957853106374966a896696873e77d8b", func := "obelus/obeluslaw37.RenumberOf", spec := "renumberOf", inPlace := ["internal/abi.NoEscape"], unfollowed := true, recurses := true, apart := false }
def RenumberOfSaid : Prop := renumberOfRow.holds Try.pinned (OpenSpec.ofChange renumberOfSpec)

/-- ITS FALSE NEIGHBOUR: 'it returns false'. Refute it at one input. -/
def renumberOfWrong : ChangeSpec := { name := "renumberOf", fn := fun _ => fun
  | [d1, d2, d3] => { results := [.lit (.bool false)], args := [d1, d2, d3] }
  | _ => none }
def RenumberOfWrongFalsely : Prop := renumberOfRow.holds Try.pinned (OpenSpec.ofChange renumberOfWrong)

/-- 'obeluslaw37.RenumberApplies': WHATEVER THE INPUT: true; the input reads as it did. -/
def renumberAppliesSpec : ChangeSpec := { name := "renumberApplies", fn := fun _ => fun
  | [d1, d2, d3] => { results := [.lit (.bool true)], args := [d1, d2, d3] }
  | _ => none }
def renumberAppliesRow : OpenClaim := { program := "ytjpbmeonkfkgdaa", sum := "f28cd0fe752e575c19e725e1ee573674f957853106374966a896696873e77d8b", func := "obelus/obeluslaw37.RenumberApplies", spec := "renumberApplies", inPlace := ["internal/abi.NoEscape"], unfollowed := true, recurses := true, apart := false }
def RenumberAppliesSaid : Prop := renumberAppliesRow.holds Try.pinned (OpenSpec.ofChange renumberAppliesSpec)

/-- ITS FALSE NEIGHBOUR: 'it returns false'. Refute it at one input. -/
def renumberAppliesWrong : ChangeSpec := { name := "renumberApplies", fn := fun _ => fun
  | [d1, d2, d3] => { results := [.lit (.bool false)], args := [d1, d2, d3] }
  | _ => none }
def RenumberAppliesWrongFalsely : Prop := renumberAppliesRow.holds Try.pinned (OpenSpec.ofChange renumberAppliesWrong)

/- THE SECOND FORM. 'bulk': how many values and letters a reading holds, each counted each time it is reached (what is shared counts as often as it is met; a slice's spare places count too). A statement '..UptoSaid' is the law's where the arguments, and the package variables that the reading takes, are together of bulk at most 1048576: NARROWER than '..Said'. Prove '..Said' where nothing that the law and all that it calls make is longer than what came in: it says more and counts as full. Else prove '..UptoSaid'. A law counts once. -/
mutual
def uptoBulk {H : Type} : DataW H → Nat
  | .lit (.string bytes) => bytes.length + 1
  | .lit _ => 1
  | .nil => 1
  | .ptr d => uptoBulk d + 1
  | .slice elems spare => uptoBulkAll elems + uptoBulkAll spare + 1
  | .agg parts => uptoBulkAll parts + 1
  | .iface _ d => uptoBulk d + 1
  | .map entries => uptoBulkEntries entries + 1
  | .held _ => 1
def uptoBulkAll {H : Type} : List (DataW H) → Nat
  | [] => 0
  | d :: r => uptoBulk d + uptoBulkAll r
def uptoBulkEntries {H : Type} : List (Lit × DataW H) → Nat
  | [] => 0
  | x :: r => uptoBulkEntry x + uptoBulkEntries r
def uptoBulkEntry {H : Type} : Lit × DataW H → Nat
  | (.string bytes, d) => bytes.length + uptoBulk d + 1
  | (_, d) => uptoBulk d + 1
 end
def uptoSmall : (H : Type) → List (DataW H) → Bool := fun _ ds => decide (uptoBulkAll ds ≤ 1048576)
def OpenSpec.upto (s : _root_.Go.ChangeSpec) : _root_.Go.OpenSpec := { _root_.Go.OpenSpec.ofChange s with cond := some uptoSmall }

/-- 'obeluslaw37.RenumberFolds', WHERE WHAT IT READS IS OF BULK AT MOST 1048576: true; the input reads as it did. -/
def renumberFoldsUptoRow : OpenClaim := { program := "ytjpbmeonkfkgdaa", sum := "f28cd0fe752e575c19e725e1ee573674f957853106374966a896696873e77d8b", func := "obelus/obeluslaw37.RenumberFolds", spec := "renumberFolds", inPlace := ["internal/abi.NoEscape"], unfollowed := true, recurses := true, apart := false, narrowed := true }
def RenumberFoldsUptoSaid : Prop := renumberFoldsUptoRow.holds Try.pinned (OpenSpec.upto renumberFoldsSpec)

/-- 'obeluslaw37.RenumberAssociates', WHERE WHAT IT READS IS OF BULK AT MOST 1048576: true; the input reads as it did. -/
def renumberAssociatesUptoRow : OpenClaim := { program := "ytjpbmeonkfkgdaa", sum := "f28cd0fe752e575c19e725e1ee573674f957853106374966a896696873e77d8b", func := "obelus/obeluslaw37.RenumberAssociates", spec := "renumberAssociates", inPlace := ["internal/abi.NoEscape"], unfollowed := true, recurses := true, apart := false, narrowed := true }
def RenumberAssociatesUptoSaid : Prop := renumberAssociatesUptoRow.holds Try.pinned (OpenSpec.upto renumberAssociatesSpec)

/-- 'obeluslaw37.RenumberOf', WHERE WHAT IT READS IS OF BULK AT MOST 1048576: true; the input reads as it did. -/
def renumberOfUptoRow : OpenClaim := { program := "ytjpbmeonkfkgdaa", sum := "f28cd0fe752e575c19e725e1ee573674f957853106374966a896696873e77d8b", func := "obelus/obeluslaw37.RenumberOf", spec := "renumberOf", inPlace := ["internal/abi.NoEscape"], unfollowed := true, recurses := true, apart := false, narrowed := true }
def RenumberOfUptoSaid : Prop := renumberOfUptoRow.holds Try.pinned (OpenSpec.upto renumberOfSpec)

/-- 'obeluslaw37.RenumberApplies', WHERE WHAT IT READS IS OF BULK AT MOST 1048576: true; the input reads as it did. -/
def renumberAppliesUptoRow : OpenClaim := { program := "ytjpbmeonkfkgdaa", sum := "f28cd0fe752e575c19e725e1ee573674f957853106374966a896696873e77d8b", func := "obelus/obeluslaw37.RenumberApplies", spec := "renumberApplies", inPlace := ["internal/abi.NoEscape"], unfollowed := true, recurses := true, apart := false, narrowed := true }
def RenumberAppliesUptoSaid : Prop := renumberAppliesUptoRow.holds Try.pinned (OpenSpec.upto renumberAppliesSpec)

end Rows
end Go.Proofs.Ytjpbmeonkfkgdaa
