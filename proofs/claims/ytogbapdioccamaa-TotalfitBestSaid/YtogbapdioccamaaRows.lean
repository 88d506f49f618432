/-
  No cell of these rows narrows 'for every input' (looked for: loops, veiled, ifaces, maps, wideKeys, modest, calm, conditions, laid).
  DERIVED. THE GIVEN ROWS OF THIS SEAT. 9 by the template 'for every input the law returns true; each argument reads behind the call as it read before'; 0 by the template 'total and deterministic' (their statements: YtogbapdioccamaaTotals.lean).
  GIVEN WITH THE SEED: the statements are not yours to turn. If you find one false, say at which input.
  Laid BY PROGRAM, IN A SANDBOX (cutbox-rows.mjs): the forced cells as the released guide's own fill.sh prints them over the translation 801f585ee3700b72… (all of the seat's roots in one cut). By AI agents, Wed Nov 11 2026. No macro, syntax, notation, axiom, sorry.
-/
import Derived.Test.YtogbapdioccamaaChecked
import GoSem.Claim
import GoSem.ClaimJoined
import GoSem.ClaimMapViews
import Derived.JoinedTies
import Derived.KernelRfl
namespace Go.Proofs.Ytogbapdioccamaa
/- THE CELL 'sum', in the pinned program and in every row, IS THE sha256 OF THE DUMP (.gsa) THAT YtogbapdioccamaaProg.lean LOADS. Nothing in Lean hashes anything: it is a label: what it is worth is what the hold of that sum in a sandbox is worth. -/
noncomputable def Try.pinned : Pinned := { name := "ytogbapdioccamaa", sum := "801f585ee3700b7276801ffd3c15fcadeb19a7d5bfd6a2f0cc43fbb8d509f559", checked := Try.checked }
namespace Rows
def none {H : Type} : Left H := { results := [], args := [] }

/-- 'obeluslaw46.TotalfitChecks': WHATEVER THE INPUT: true; the input reads as it did. -/
def totalfitChecksSpec : ChangeSpec := { name := "totalfitChecks", fn := fun _ => fun
  | [d1, d2] => { results := [.lit (.bool true)], args := [d1, d2] }
  | _ => none }
def totalfitChecksRow : OpenClaim := { program := "ytogbapdioccamaa", sum := "801f585ee3700b7276801ffd3c15fcadeb19a7d5bfd6a2f0cc43fbb8d509f559", func := "obelus/obeluslaw46.TotalfitChecks", spec := "totalfitChecks", plainKeys := false, apart := false }
def TotalfitChecksSaid : Prop := totalfitChecksRow.holds Try.pinned (OpenSpec.ofChange totalfitChecksSpec)

/-- ITS FALSE NEIGHBOUR: 'it returns false'. Refute it at one input. -/
def totalfitChecksWrong : ChangeSpec := { name := "totalfitChecks", fn := fun _ => fun
  | [d1, d2] => { results := [.lit (.bool false)], args := [d1, d2] }
  | _ => none }
def TotalfitChecksWrongFalsely : Prop := totalfitChecksRow.holds Try.pinned (OpenSpec.ofChange totalfitChecksWrong)

/-- 'obeluslaw46.TotalfitPositions': WHATEVER THE INPUT: true; the input reads as it did. -/
def totalfitPositionsSpec : ChangeSpec := { name := "totalfitPositions", fn := fun _ => fun
  | [d] => { results := [.lit (.bool true)], args := [d] }
  | _ => none }
def totalfitPositionsRow : OpenClaim := { program := "ytogbapdioccamaa", sum := "801f585ee3700b7276801ffd3c15fcadeb19a7d5bfd6a2f0cc43fbb8d509f559", func := "obelus/obeluslaw46.TotalfitPositions", spec := "totalfitPositions", plainKeys := false, apart := false }
def TotalfitPositionsSaid : Prop := totalfitPositionsRow.holds Try.pinned (OpenSpec.ofChange totalfitPositionsSpec)

/-- ITS FALSE NEIGHBOUR: 'it returns false'. Refute it at one input. -/
def totalfitPositionsWrong : ChangeSpec := { name := "totalfitPositions", fn := fun _ => fun
  | [d] => { results := [.lit (.bool false)], args := [d] }
  | _ => none }
def TotalfitPositionsWrongFalsely : Prop := totalfitPositionsRow.holds Try.pinned (OpenSpec.ofChange totalfitPositionsWrong)

/-- 'obeluslaw46.TotalfitBest': WHATEVER THE INPUT: true; the input reads as it did. -/
def totalfitBestSpec : ChangeSpec := { name := "totalfitBest", fn := fun _ => fun
  | [d1, d2] => { results := [.lit (.bool true)], args := [d1, d2] }
  | _ => none }
def totalfitBestRow : OpenClaim := { program := "ytogbapdioccamaa", sum := "801f585ee3700b7276801ffd3c15fcadeb19a7d5bfd6a2f0cc43fbb8d509f559", func := "obelus/obeluslaw46.TotalfitBest", spec := "totalfitBest", recurses := true, plainKeys := false, apart := false }
def TotalfitBestSaid : Prop := totalfitBestRow.holds Try.pinned (OpenSpec.ofChange totalfitBestSpec)

/-- ITS FALSE NEIGHBOUR: 'it returns false'. Refute it at one input. -/
def totalfitBestWrong : ChangeSpec := { name := "totalfitBest", fn := fun _ => fun
  | [d1, d2] => { results := [.lit (.bool false)], args := [d1, d2] }
  | _ => none }
def TotalfitBestWrongFalsely : Prop := totalfitBestRow.holds Try.pinned (OpenSpec.ofChange totalfitBestWrong)

/-- 'obeluslaw46.TotalfitOptimal': WHATEVER THE INPUT: true; the input reads as it did. -/
def totalfitOptimalSpec : ChangeSpec := { name := "totalfitOptimal", fn := fun _ => fun
  | [d1, d2, d3] => { results := [.lit (.bool true)], args := [d1, d2, d3] }
  | _ => none }
def totalfitOptimalRow : OpenClaim := { program := "ytogbapdioccamaa", sum := "801f585ee3700b7276801ffd3c15fcadeb19a7d5bfd6a2f0cc43fbb8d509f559", func := "obelus/obeluslaw46.TotalfitOptimal", spec := "totalfitOptimal", plainKeys := false, apart := false }
def TotalfitOptimalSaid : Prop := totalfitOptimalRow.holds Try.pinned (OpenSpec.ofChange totalfitOptimalSpec)

/-- ITS FALSE NEIGHBOUR: 'it returns false'. Refute it at one input. -/
def totalfitOptimalWrong : ChangeSpec := { name := "totalfitOptimal", fn := fun _ => fun
  | [d1, d2, d3] => { results := [.lit (.bool false)], args := [d1, d2, d3] }
  | _ => none }
def TotalfitOptimalWrongFalsely : Prop := totalfitOptimalRow.holds Try.pinned (OpenSpec.ofChange totalfitOptimalWrong)

/-- 'obeluslaw46.TotalfitScales': WHATEVER THE INPUT: true; the input reads as it did. -/
def totalfitScalesSpec : ChangeSpec := { name := "totalfitScales", fn := fun _ => fun
  | [d1, d2, d3] => { results := [.lit (.bool true)], args := [d1, d2, d3] }
  | _ => none }
def totalfitScalesRow : OpenClaim := { program := "ytogbapdioccamaa", sum := "801f585ee3700b7276801ffd3c15fcadeb19a7d5bfd6a2f0cc43fbb8d509f559", func := "obelus/obeluslaw46.TotalfitScales", spec := "totalfitScales", plainKeys := false, apart := false }
def TotalfitScalesSaid : Prop := totalfitScalesRow.holds Try.pinned (OpenSpec.ofChange totalfitScalesSpec)

/-- ITS FALSE NEIGHBOUR: 'it returns false'. Refute it at one input. -/
def totalfitScalesWrong : ChangeSpec := { name := "totalfitScales", fn := fun _ => fun
  | [d1, d2, d3] => { results := [.lit (.bool false)], args := [d1, d2, d3] }
  | _ => none }
def TotalfitScalesWrongFalsely : Prop := totalfitScalesRow.holds Try.pinned (OpenSpec.ofChange totalfitScalesWrong)

/-- 'obeluslaw46.TotalfitWords': WHATEVER THE INPUT: true; the input reads as it did. -/
def totalfitWordsSpec : ChangeSpec := { name := "totalfitWords", fn := fun _ => fun
  | [d1, d2] => { results := [.lit (.bool true)], args := [d1, d2] }
  | _ => none }
def totalfitWordsRow : OpenClaim := { program := "ytogbapdioccamaa", sum := "801f585ee3700b7276801ffd3c15fcadeb19a7d5bfd6a2f0cc43fbb8d509f559", func := "obelus/obeluslaw46.TotalfitWords", spec := "totalfitWords", plainKeys := false, apart := false }
def TotalfitWordsSaid : Prop := totalfitWordsRow.holds Try.pinned (OpenSpec.ofChange totalfitWordsSpec)

/-- ITS FALSE NEIGHBOUR: 'it returns false'. Refute it at one input. -/
def totalfitWordsWrong : ChangeSpec := { name := "totalfitWords", fn := fun _ => fun
  | [d1, d2] => { results := [.lit (.bool false)], args := [d1, d2] }
  | _ => none }
def TotalfitWordsWrongFalsely : Prop := totalfitWordsRow.holds Try.pinned (OpenSpec.ofChange totalfitWordsWrong)

/-- 'obeluslaw46.TotalfitLines': WHATEVER THE INPUT: true; the input reads as it did. -/
def totalfitLinesSpec : ChangeSpec := { name := "totalfitLines", fn := fun _ => fun
  | [d1, d2, d3] => { results := [.lit (.bool true)], args := [d1, d2, d3] }
  | _ => none }
def totalfitLinesRow : OpenClaim := { program := "ytogbapdioccamaa", sum := "801f585ee3700b7276801ffd3c15fcadeb19a7d5bfd6a2f0cc43fbb8d509f559", func := "obelus/obeluslaw46.TotalfitLines", spec := "totalfitLines", plainKeys := false, apart := false }
def TotalfitLinesSaid : Prop := totalfitLinesRow.holds Try.pinned (OpenSpec.ofChange totalfitLinesSpec)

/-- ITS FALSE NEIGHBOUR: 'it returns false'. Refute it at one input. -/
def totalfitLinesWrong : ChangeSpec := { name := "totalfitLines", fn := fun _ => fun
  | [d1, d2, d3] => { results := [.lit (.bool false)], args := [d1, d2, d3] }
  | _ => none }
def TotalfitLinesWrongFalsely : Prop := totalfitLinesRow.holds Try.pinned (OpenSpec.ofChange totalfitLinesWrong)

/-- 'obeluslaw46.TotalfitGreedy': WHATEVER THE INPUT: true; the input reads as it did. -/
def totalfitGreedySpec : ChangeSpec := { name := "totalfitGreedy", fn := fun _ => fun
  | [d1, d2] => { results := [.lit (.bool true)], args := [d1, d2] }
  | _ => none }
def totalfitGreedyRow : OpenClaim := { program := "ytogbapdioccamaa", sum := "801f585ee3700b7276801ffd3c15fcadeb19a7d5bfd6a2f0cc43fbb8d509f559", func := "obelus/obeluslaw46.TotalfitGreedy", spec := "totalfitGreedy", plainKeys := false, apart := false }
def TotalfitGreedySaid : Prop := totalfitGreedyRow.holds Try.pinned (OpenSpec.ofChange totalfitGreedySpec)

/-- ITS FALSE NEIGHBOUR: 'it returns false'. Refute it at one input. -/
def totalfitGreedyWrong : ChangeSpec := { name := "totalfitGreedy", fn := fun _ => fun
  | [d1, d2] => { results := [.lit (.bool false)], args := [d1, d2] }
  | _ => none }
def TotalfitGreedyWrongFalsely : Prop := totalfitGreedyRow.holds Try.pinned (OpenSpec.ofChange totalfitGreedyWrong)

/-- 'obeluslaw46.TotalfitSets': WHATEVER THE INPUT: true; the input reads as it did. -/
def totalfitSetsSpec : ChangeSpec := { name := "totalfitSets", fn := fun _ => fun
  | [d1, d2, d3] => { results := [.lit (.bool true)], args := [d1, d2, d3] }
  | _ => none }
def totalfitSetsRow : OpenClaim := { program := "ytogbapdioccamaa", sum := "801f585ee3700b7276801ffd3c15fcadeb19a7d5bfd6a2f0cc43fbb8d509f559", func := "obelus/obeluslaw46.TotalfitSets", spec := "totalfitSets", unfollowed := true, recurses := true, plainKeys := false, apart := false }
def TotalfitSetsSaid : Prop := totalfitSetsRow.holds Try.pinned (OpenSpec.ofChange totalfitSetsSpec)

/-- ITS FALSE NEIGHBOUR: 'it returns false'. Refute it at one input. -/
def totalfitSetsWrong : ChangeSpec := { name := "totalfitSets", fn := fun _ => fun
  | [d1, d2, d3] => { results := [.lit (.bool false)], args := [d1, d2, d3] }
  | _ => none }
def TotalfitSetsWrongFalsely : Prop := totalfitSetsRow.holds Try.pinned (OpenSpec.ofChange totalfitSetsWrong)

/- THE SECOND FORM. 'bulk': how many values and letters a reading holds, each counted each time it is reached (what is shared counts as often as it is met; a slice's spare places count too). A statement '..UptoSaid' is the law's where the arguments, and the package variables that the reading takes, are together of bulk at most 1048576: NARROWER than '..Said'. Prove '..Said' where nothing that the law and all that it calls make is longer than what came in: it says more and counts as full. Else prove '..UptoSaid'. A law counts once. -/
mutual
def uptoBulk {H : Type} : DataW H → Nat
  | .lit (.string bytes) => bytes.length + 1
  | .lit _ => 1
  | .nil => 1
  | .ptr d => uptoBulk d + 1
  | .slice elems spare => uptoBulkAll elems + uptoBulkAll spare + 1
  | .agg parts => uptoBulkAll parts + 1
  | .iface _ d => uptoBulk d + 1
  | .map entries => uptoBulkEntries entries + 1
  | .held _ => 1
def uptoBulkAll {H : Type} : List (DataW H) → Nat
  | [] => 0
  | d :: r => uptoBulk d + uptoBulkAll r
def uptoBulkEntries {H : Type} : List (Lit × DataW H) → Nat
  | [] => 0
  | x :: r => uptoBulkEntry x + uptoBulkEntries r
def uptoBulkEntry {H : Type} : Lit × DataW H → Nat
  | (.string bytes, d) => bytes.length + uptoBulk d + 1
  | (_, d) => uptoBulk d + 1
 end
def uptoSmall : (H : Type) → List (DataW H) → Bool := fun _ ds => decide (uptoBulkAll ds ≤ 1048576)
def OpenSpec.upto (s : _root_.Go.ChangeSpec) : _root_.Go.OpenSpec := { _root_.Go.OpenSpec.ofChange s with cond := some uptoSmall }

/-- 'obeluslaw46.TotalfitChecks', WHERE WHAT IT READS IS OF BULK AT MOST 1048576: true; the input reads as it did. -/
def totalfitChecksUptoRow : OpenClaim := { program := "ytogbapdioccamaa", sum := "801f585ee3700b7276801ffd3c15fcadeb19a7d5bfd6a2f0cc43fbb8d509f559", func := "obelus/obeluslaw46.TotalfitChecks", spec := "totalfitChecks", plainKeys := false, apart := false, narrowed := true }
def TotalfitChecksUptoSaid : Prop := totalfitChecksUptoRow.holds Try.pinned (OpenSpec.upto totalfitChecksSpec)

/-- 'obeluslaw46.TotalfitPositions', WHERE WHAT IT READS IS OF BULK AT MOST 1048576: true; the input reads as it did. -/
def totalfitPositionsUptoRow : OpenClaim := { program := "ytogbapdioccamaa", sum := "801f585ee3700b7276801ffd3c15fcadeb19a7d5bfd6a2f0cc43fbb8d509f559", func := "obelus/obeluslaw46.TotalfitPositions", spec := "totalfitPositions", plainKeys := false, apart := false, narrowed := true }
def TotalfitPositionsUptoSaid : Prop := totalfitPositionsUptoRow.holds Try.pinned (OpenSpec.upto totalfitPositionsSpec)

/-- 'obeluslaw46.TotalfitBest', WHERE WHAT IT READS IS OF BULK AT MOST 1048576: true; the input reads as it did. -/
def totalfitBestUptoRow : OpenClaim := { program := "ytogbapdioccamaa", sum := "801f585ee3700b7276801ffd3c15fcadeb19a7d5bfd6a2f0cc43fbb8d509f559", func := "obelus/obeluslaw46.TotalfitBest", spec := "totalfitBest", recurses := true, plainKeys := false, apart := false, narrowed := true }
def TotalfitBestUptoSaid : Prop := totalfitBestUptoRow.holds Try.pinned (OpenSpec.upto totalfitBestSpec)

/-- 'obeluslaw46.TotalfitOptimal', WHERE WHAT IT READS IS OF BULK AT MOST 1048576: true; the input reads as it did. -/
def totalfitOptimalUptoRow : OpenClaim := { program := "ytogbapdioccamaa", sum := "801f585ee3700b7276801ffd3c15fcadeb19a7d5bfd6a2f0cc43fbb8d509f559", func := "obelus/obeluslaw46.TotalfitOptimal", spec := "totalfitOptimal", plainKeys := false, apart := false, narrowed := true }
def TotalfitOptimalUptoSaid : Prop := totalfitOptimalUptoRow.holds Try.pinned (OpenSpec.upto totalfitOptimalSpec)

/-- 'obeluslaw46.TotalfitScales', WHERE WHAT IT READS IS OF BULK AT MOST 1048576: true; the input reads as it did. -/
def totalfitScalesUptoRow : OpenClaim := { program := "ytogbapdioccamaa", sum := "801f585ee3700b7276801ffd3c15fcadeb19a7d5bfd6a2f0cc43fbb8d509f559", func := "obelus/obeluslaw46.TotalfitScales", spec := "totalfitScales", plainKeys := false, apart := false, narrowed := true }
def TotalfitScalesUptoSaid : Prop := totalfitScalesUptoRow.holds Try.pinned (OpenSpec.upto totalfitScalesSpec)

/-- 'obeluslaw46.TotalfitWords', WHERE WHAT IT READS IS OF BULK AT MOST 1048576: true; the input reads as it did. -/
def totalfitWordsUptoRow : OpenClaim := { program := "ytogbapdioccamaa", sum := "801f585ee3700b7276801ffd3c15fcadeb19a7d5bfd6a2f0cc43fbb8d509f559", func := "obelus/obeluslaw46.TotalfitWords", spec := "totalfitWords", plainKeys := false, apart := false, narrowed := true }
def TotalfitWordsUptoSaid : Prop := totalfitWordsUptoRow.holds Try.pinned (OpenSpec.upto totalfitWordsSpec)

/-- 'obeluslaw46.TotalfitLines', WHERE WHAT IT READS IS OF BULK AT MOST 1048576: true; the input reads as it did. -/
def totalfitLinesUptoRow : OpenClaim := { program := "ytogbapdioccamaa", sum := "801f585ee3700b7276801ffd3c15fcadeb19a7d5bfd6a2f0cc43fbb8d509f559", func := "obelus/obeluslaw46.TotalfitLines", spec := "totalfitLines", plainKeys := false, apart := false, narrowed := true }
def TotalfitLinesUptoSaid : Prop := totalfitLinesUptoRow.holds Try.pinned (OpenSpec.upto totalfitLinesSpec)

/-- 'obeluslaw46.TotalfitGreedy', WHERE WHAT IT READS IS OF BULK AT MOST 1048576: true; the input reads as it did. -/
def totalfitGreedyUptoRow : OpenClaim := { program := "ytogbapdioccamaa", sum := "801f585ee3700b7276801ffd3c15fcadeb19a7d5bfd6a2f0cc43fbb8d509f559", func := "obelus/obeluslaw46.TotalfitGreedy", spec := "totalfitGreedy", plainKeys := false, apart := false, narrowed := true }
def TotalfitGreedyUptoSaid : Prop := totalfitGreedyUptoRow.holds Try.pinned (OpenSpec.upto totalfitGreedySpec)

/-- 'obeluslaw46.TotalfitSets', WHERE WHAT IT READS IS OF BULK AT MOST 1048576: true; the input reads as it did. -/
def totalfitSetsUptoRow : OpenClaim := { program := "ytogbapdioccamaa", sum := "801f585ee3700b7276801ffd3c15fcadeb19a7d5bfd6a2f0cc43fbb8d509f559", func := "obelus/obeluslaw46.TotalfitSets", spec := "totalfitSets", unfollowed := true, recurses := true, plainKeys := false, apart := false, narrowed := true }
def TotalfitSetsUptoSaid : Prop := totalfitSetsUptoRow.holds Try.pinned (OpenSpec.upto totalfitSetsSpec)

end Rows
end Go.Proofs.Ytogbapdioccamaa
