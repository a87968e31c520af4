/-
  No cell of these rows narrows 'for every input' (looked for: loops, veiled, ifaces, maps, wideKeys, modest, calm, conditions, laid).
  DERIVED. THE GIVEN ROWS OF THIS SEAT. 9 by the template 'for every input the law returns true; each argument reads behind the call as it read before'; 0 by the template 'total and deterministic' (their statements: YtgnlnkbkbddfaaaTotals.lean).
  GIVEN WITH THE SEED: the statements are not yours to turn. If you find one false, say at which input.
  Laid BY PROGRAM, IN A SANDBOX (cutbox-rows.mjs): the forced cells as the released guide's own fill.sh prints them over the translation 1767d12ace569cdc… (all of the seat's roots in one cut). By AI agents, Wed Nov 11 2026. No macro, syntax, notation, axiom, sorry.
-/
import Derived.Test.YtgnlnkbkbddfaaaChecked
import GoSem.Claim
import GoSem.ClaimJoined
import GoSem.ClaimMapViews
import Derived.JoinedTies
import Derived.KernelRfl
namespace Go.Proofs.Ytgnlnkbkbddfaaa
/- THE CELL 'sum', in the pinned program and in every row, IS THE sha256 OF THE DUMP (.gsa) THAT YtgnlnkbkbddfaaaProg.lean LOADS. Nothing in Lean hashes anything: it is a label: what it is worth is what the hold of that sum in a sandbox is worth. -/
noncomputable def Try.pinned : Pinned := { name := "ytgnlnkbkbddfaaa", sum := "1767d12ace569cdce03b87cd746584b12d4936d6bb9e91df2d027e8bdb88e96f", checked := Try.checked }
namespace Rows
def none {H : Type} : Left H := { results := [], args := [] }

/-- 'gessolaw22.StreamSealed': WHATEVER THE INPUT: true; the input reads as it did. -/
def streamSealedSpec : ChangeSpec := { name := "streamSealed", fn := fun _ => fun
  | [d] => { results := [.lit (.bool true)], args := [d] }
  | _ => none }
def streamSealedRow : OpenClaim := { program := "ytgnlnkbkbddfaaa", sum := "1767d12ace569cdce03b87cd746584b12d4936d6bb9e91df2d027e8bdb88e96f", func := "gesso/gessolaw22.StreamSealed", spec := "streamSealed", unfollowed := true, recurses := true, apart := false }
def StreamSealedSaid : Prop := streamSealedRow.holds Try.pinned (OpenSpec.ofChange streamSealedSpec)

/-- ITS FALSE NEIGHBOUR: 'it returns false'. Refute it at one input. -/
def streamSealedWrong : ChangeSpec := { name := "streamSealed", fn := fun _ => fun
  | [d] => { results := [.lit (.bool false)], args := [d] }
  | _ => none }
def StreamSealedWrongFalsely : Prop := streamSealedRow.holds Try.pinned (OpenSpec.ofChange streamSealedWrong)

/-- 'gessolaw22.StreamBursts': WHATEVER THE INPUT: true; the input reads as it did. -/
def streamBurstsSpec : ChangeSpec := { name := "streamBursts", fn := fun _ => fun
  | [d1, d2, d3] => { results := [.lit (.bool true)], args := [d1, d2, d3] }
  | _ => none }
def streamBurstsRow : OpenClaim := { program := "ytgnlnkbkbddfaaa", sum := "1767d12ace569cdce03b87cd746584b12d4936d6bb9e91df2d027e8bdb88e96f", func := "gesso/gessolaw22.StreamBursts", spec := "streamBursts", unfollowed := true, recurses := true, apart := false }
def StreamBurstsSaid : Prop := streamBurstsRow.holds Try.pinned (OpenSpec.ofChange streamBurstsSpec)

/-- ITS FALSE NEIGHBOUR: 'it returns false'. Refute it at one input. -/
def streamBurstsWrong : ChangeSpec := { name := "streamBursts", fn := fun _ => fun
  | [d1, d2, d3] => { results := [.lit (.bool false)], args := [d1, d2, d3] }
  | _ => none }
def StreamBurstsWrongFalsely : Prop := streamBurstsRow.holds Try.pinned (OpenSpec.ofChange streamBurstsWrong)

/-- 'gessolaw12.RecordTells': WHATEVER THE INPUT: true; the input reads as it did. -/
def recordTellsSpec : ChangeSpec := { name := "recordTells", fn := fun _ => fun
  | [d1, d2, d3] => { results := [.lit (.bool true)], args := [d1, d2, d3] }
  | _ => none }
def recordTellsRow : OpenClaim := { program := "ytgnlnkbkbddfaaa", sum := "1767d12ace569cdce03b87cd746584b12d4936d6bb9e91df2d027e8bdb88e96f", func := "gesso/gessolaw12.RecordTells", spec := "recordTells", inPlace := ["slices.overlaps[gesso/record.Record]"], unfollowed := true, recurses := true, apart := false }
def RecordTellsSaid : Prop := recordTellsRow.holds Try.pinned (OpenSpec.ofChange recordTellsSpec)

/-- ITS FALSE NEIGHBOUR: 'it returns false'. Refute it at one input. -/
def recordTellsWrong : ChangeSpec := { name := "recordTells", fn := fun _ => fun
  | [d1, d2, d3] => { results := [.lit (.bool false)], args := [d1, d2, d3] }
  | _ => none }
def RecordTellsWrongFalsely : Prop := recordTellsRow.holds Try.pinned (OpenSpec.ofChange recordTellsWrong)

/-- 'gessolaw12.RecordLists': WHATEVER THE INPUT: true; the input reads as it did. -/
def recordListsSpec : ChangeSpec := { name := "recordLists", fn := fun _ => fun
  | [d1, d2, d3] => { results := [.lit (.bool true)], args := [d1, d2, d3] }
  | _ => none }
def recordListsRow : OpenClaim := { program := "ytgnlnkbkbddfaaa", sum := "1767d12ace569cdce03b87cd746584b12d4936d6bb9e91df2d027e8bdb88e96f", func := "gesso/gessolaw12.RecordLists", spec := "recordLists", inPlace := ["slices.overlaps[gesso/record.Record]"], unfollowed := true, recurses := true, apart := false }
def RecordListsSaid : Prop := recordListsRow.holds Try.pinned (OpenSpec.ofChange recordListsSpec)

/-- ITS FALSE NEIGHBOUR: 'it returns false'. Refute it at one input. -/
def recordListsWrong : ChangeSpec := { name := "recordLists", fn := fun _ => fun
  | [d1, d2, d3] => { results := [.lit (.bool false)], args := [d1, d2, d3] }
  | _ => none }
def RecordListsWrongFalsely : Prop := recordListsRow.holds Try.pinned (OpenSpec.ofChange recordListsWrong)

/-- 'gessolaw12.RecordRising': WHATEVER THE INPUT: true; the input reads as it did. -/
def recordRisingSpec : ChangeSpec := { name := "recordRising", fn := fun _ => fun
  | [d1, d2] => { results := [.lit (.bool true)], args := [d1, d2] }
  | _ => none }
def recordRisingRow : OpenClaim := { program := "ytgnlnkbkbddfaaa", sum := "1767d12ace569cdce03b87cd746584b12d4936d6bb9e91df2d027e8bdb88e96f", func := "gesso/gessolaw12.RecordRising", spec := "recordRising", inPlace := ["slices.overlaps[gesso/record.Record]"], unfollowed := true, recurses := true, apart := false }
def RecordRisingSaid : Prop := recordRisingRow.holds Try.pinned (OpenSpec.ofChange recordRisingSpec)

/-- ITS FALSE NEIGHBOUR: 'it returns false'. Refute it at one input. -/
def recordRisingWrong : ChangeSpec := { name := "recordRising", fn := fun _ => fun
  | [d1, d2] => { results := [.lit (.bool false)], args := [d1, d2] }
  | _ => none }
def RecordRisingWrongFalsely : Prop := recordRisingRow.holds Try.pinned (OpenSpec.ofChange recordRisingWrong)

/-- 'gessolaw19.GraphTells': WHATEVER THE INPUT: true; the input reads as it did. -/
def graphTellsSpec : ChangeSpec := { name := "graphTells", fn := fun _ => fun
  | [d1, d2, d3] => { results := [.lit (.bool true)], args := [d1, d2, d3] }
  | _ => none }
def graphTellsRow : OpenClaim := { program := "ytgnlnkbkbddfaaa", sum := "1767d12ace569cdce03b87cd746584b12d4936d6bb9e91df2d027e8bdb88e96f", func := "gesso/gessolaw19.GraphTells", spec := "graphTells", unfollowed := true, recurses := true, apart := false }
def GraphTellsSaid : Prop := graphTellsRow.holds Try.pinned (OpenSpec.ofChange graphTellsSpec)

/-- ITS FALSE NEIGHBOUR: 'it returns false'. Refute it at one input. -/
def graphTellsWrong : ChangeSpec := { name := "graphTells", fn := fun _ => fun
  | [d1, d2, d3] => { results := [.lit (.bool false)], args := [d1, d2, d3] }
  | _ => none }
def GraphTellsWrongFalsely : Prop := graphTellsRow.holds Try.pinned (OpenSpec.ofChange graphTellsWrong)

/-- 'gessolaw19.GraphWriters': WHATEVER THE INPUT: true; the input reads as it did. -/
def graphWritersSpec : ChangeSpec := { name := "graphWriters", fn := fun _ => fun
  | [d] => { results := [.lit (.bool true)], args := [d] }
  | _ => none }
def graphWritersRow : OpenClaim := { program := "ytgnlnkbkbddfaaa", sum := "1767d12ace569cdce03b87cd746584b12d4936d6bb9e91df2d027e8bdb88e96f", func := "gesso/gessolaw19.GraphWriters", spec := "graphWriters", unfollowed := true, recurses := true, apart := false }
def GraphWritersSaid : Prop := graphWritersRow.holds Try.pinned (OpenSpec.ofChange graphWritersSpec)

/-- ITS FALSE NEIGHBOUR: 'it returns false'. Refute it at one input. -/
def graphWritersWrong : ChangeSpec := { name := "graphWriters", fn := fun _ => fun
  | [d] => { results := [.lit (.bool false)], args := [d] }
  | _ => none }
def GraphWritersWrongFalsely : Prop := graphWritersRow.holds Try.pinned (OpenSpec.ofChange graphWritersWrong)

/-- 'gessolaw09.ForestPlays': WHATEVER THE INPUT: true; the input reads as it did. -/
def forestPlaysSpec : ChangeSpec := { name := "forestPlays", fn := fun _ => fun
  | [d1, d2, d3] => { results := [.lit (.bool true)], args := [d1, d2, d3] }
  | _ => none }
def forestPlaysRow : OpenClaim := { program := "ytgnlnkbkbddfaaa", sum := "1767d12ace569cdce03b87cd746584b12d4936d6bb9e91df2d027e8bdb88e96f", func := "gesso/gessolaw09.ForestPlays", spec := "forestPlays", inPlace := ["slices.overlaps[gesso/api.ID]"], unfollowed := true, recurses := true, apart := false }
def ForestPlaysSaid : Prop := forestPlaysRow.holds Try.pinned (OpenSpec.ofChange forestPlaysSpec)

/-- ITS FALSE NEIGHBOUR: 'it returns false'. Refute it at one input. -/
def forestPlaysWrong : ChangeSpec := { name := "forestPlays", fn := fun _ => fun
  | [d1, d2, d3] => { results := [.lit (.bool false)], args := [d1, d2, d3] }
  | _ => none }
def ForestPlaysWrongFalsely : Prop := forestPlaysRow.holds Try.pinned (OpenSpec.ofChange forestPlaysWrong)

/-- 'gessolaw09.ForestRing': WHATEVER THE INPUT: true; the input reads as it did. -/
def forestRingSpec : ChangeSpec := { name := "forestRing", fn := fun _ => fun
  | [d1, d2] => { results := [.lit (.bool true)], args := [d1, d2] }
  | _ => none }
def forestRingRow : OpenClaim := { program := "ytgnlnkbkbddfaaa", sum := "1767d12ace569cdce03b87cd746584b12d4936d6bb9e91df2d027e8bdb88e96f", func := "gesso/gessolaw09.ForestRing", spec := "forestRing", inPlace := ["slices.overlaps[gesso/api.ID]"], unfollowed := true, recurses := true, apart := false }
def ForestRingSaid : Prop := forestRingRow.holds Try.pinned (OpenSpec.ofChange forestRingSpec)

/-- ITS FALSE NEIGHBOUR: 'it returns false'. Refute it at one input. -/
def forestRingWrong : ChangeSpec := { name := "forestRing", fn := fun _ => fun
  | [d1, d2] => { results := [.lit (.bool false)], args := [d1, d2] }
  | _ => none }
def ForestRingWrongFalsely : Prop := forestRingRow.holds Try.pinned (OpenSpec.ofChange forestRingWrong)

/- THE SECOND FORM. 'bulk': how many values and letters a reading holds, each counted each time it is reached (what is shared counts as often as it is met; a slice's spare places count too). A statement '..UptoSaid' is the law's where the arguments, and the package variables that the reading takes, are together of bulk at most 1048576: NARROWER than '..Said'. Prove '..Said' where nothing that the law and all that it calls make is longer than what came in: it says more and counts as full. Else prove '..UptoSaid'. A law counts once. -/
mutual
def uptoBulk {H : Type} : DataW H → Nat
  | .lit (.string bytes) => bytes.length + 1
  | .lit _ => 1
  | .nil => 1
  | .ptr d => uptoBulk d + 1
  | .slice elems spare => uptoBulkAll elems + uptoBulkAll spare + 1
  | .agg parts => uptoBulkAll parts + 1
  | .iface _ d => uptoBulk d + 1
  | .map entries => uptoBulkEntries entries + 1
  | .held _ => 1
def uptoBulkAll {H : Type} : List (DataW H) → Nat
  | [] => 0
  | d :: r => uptoBulk d + uptoBulkAll r
def uptoBulkEntries {H : Type} : List (Lit × DataW H) → Nat
  | [] => 0
  | x :: r => uptoBulkEntry x + uptoBulkEntries r
def uptoBulkEntry {H : Type} : Lit × DataW H → Nat
  | (.string bytes, d) => bytes.length + uptoBulk d + 1
  | (_, d) => uptoBulk d + 1
 end
def uptoSmall : (H : Type) → List (DataW H) → Bool := fun _ ds => decide (uptoBulkAll ds ≤ 1048576)
def OpenSpec.upto (s : _root_.Go.ChangeSpec) : _root_.Go.OpenSpec := { _root_.Go.OpenSpec.ofChange s with cond := some uptoSmall }

/-- 'gessolaw22.StreamSealed', WHERE WHAT IT READS IS OF BULK AT MOST 1048576: true; the input reads as it did. -/
def streamSealedUptoRow : OpenClaim := { program := "ytgnlnkbkbddfaaa", sum := "1767d12ace569cdce03b87cd746584b12d4936d6bb9e91df2d027e8bdb88e96f", func := "gesso/gessolaw22.StreamSealed", spec := "streamSealed", unfollowed := true, recurses := true, apart := false, narrowed := true }
def StreamSealedUptoSaid : Prop := streamSealedUptoRow.holds Try.pinned (OpenSpec.upto streamSealedSpec)

/-- 'gessolaw22.StreamBursts', WHERE WHAT IT READS IS OF BULK AT MOST 1048576: true; the input reads as it did. -/
def streamBurstsUptoRow : OpenClaim := { program := "ytgnlnkbkbddfaaa", sum := "1767d12ace569cdce03b87cd746584b12d4936d6bb9e91df2d027e8bdb88e96f", func := "gesso/gessolaw22.StreamBursts", spec := "streamBursts", unfollowed := true, recurses := true, apart := false, narrowed := true }
def StreamBurstsUptoSaid : Prop := streamBurstsUptoRow.holds Try.pinned (OpenSpec.upto streamBurstsSpec)

/-- 'gessolaw12.RecordTells', WHERE WHAT IT READS IS OF BULK AT MOST 1048576: true; the input reads as it did. -/
def recordTellsUptoRow : OpenClaim := { program := "ytgnlnkbkbddfaaa", sum := "1767d12ace569cdce03b87cd746584b12d4936d6bb9e91df2d027e8bdb88e96f", func := "gesso/gessolaw12.RecordTells", spec := "recordTells", inPlace := ["slices.overlaps[gesso/record.Record]"], unfollowed := true, recurses := true, apart := false, narrowed := true }
def RecordTellsUptoSaid : Prop := recordTellsUptoRow.holds Try.pinned (OpenSpec.upto recordTellsSpec)

/-- 'gessolaw12.RecordLists', WHERE WHAT IT READS IS OF BULK AT MOST 1048576: true; the input reads as it did. -/
def recordListsUptoRow : OpenClaim := { program := "ytgnlnkbkbddfaaa", sum := "1767d12ace569cdce03b87cd746584b12d4936d6bb9e91df2d027e8bdb88e96f", func := "gesso/gessolaw12.RecordLists", spec := "recordLists", inPlace := ["slices.overlaps[gesso/record.Record]"], unfollowed := true, recurses := true, apart := false, narrowed := true }
def RecordListsUptoSaid : Prop := recordListsUptoRow.holds Try.pinned (OpenSpec.upto recordListsSpec)

/-- 'gessolaw12.RecordRising', WHERE WHAT IT READS IS OF BULK AT MOST 1048576: true; the input reads as it did. -/
def recordRisingUptoRow : OpenClaim := { program := "ytgnlnkbkbddfaaa", sum := "1767d12ace569cdce03b87cd746584b12d4936d6bb9e91df2d027e8bdb88e96f", func := "gesso/gessolaw12.RecordRising", spec := "recordRising", inPlace := ["slices.overlaps[gesso/record.Record]"], unfollowed := true, recurses := true, apart := false, narrowed := true }
def RecordRisingUptoSaid : Prop := recordRisingUptoRow.holds Try.pinned (OpenSpec.upto recordRisingSpec)

/-- 'gessolaw19.GraphTells', WHERE WHAT IT READS IS OF BULK AT MOST 1048576: true; the input reads as it did. -/
def graphTellsUptoRow : OpenClaim := { program := "ytgnlnkbkbddfaaa", sum := "1767d12ace569cdce03b87cd746584b12d4936d6bb9e91df2d027e8bdb88e96f", func := "gesso/gessolaw19.GraphTells", spec := "graphTells", unfollowed := true, recurses := true, apart := false, narrowed := true }
def GraphTellsUptoSaid : Prop := graphTellsUptoRow.holds Try.pinned (OpenSpec.upto graphTellsSpec)

/-- 'gessolaw19.GraphWriters', WHERE WHAT IT READS IS OF BULK AT MOST 1048576: true; the input reads as it did. -/
def graphWritersUptoRow : OpenClaim := { program := "ytgnlnkbkbddfaaa", sum := "1767d12ace569cdce03b87cd746584b12d4936d6bb9e91df2d027e8bdb88e96f", func := "gesso/gessolaw19.GraphWriters", spec := "graphWriters", unfollowed := true, recurses := true, apart := false, narrowed := true }
def GraphWritersUptoSaid : Prop := graphWritersUptoRow.holds Try.pinned (OpenSpec.upto graphWritersSpec)

/-- 'gessolaw09.ForestPlays', WHERE WHAT IT READS IS OF BULK AT MOST 1048576: true; the input reads as it did. -/
def forestPlaysUptoRow : OpenClaim := { program := "ytgnlnkbkbddfaaa", sum := "1767d12ace569cdce03b87cd746584b12d4936d6bb9e91df2d027e8bdb88e96f", func := "gesso/gessolaw09.ForestPlays", spec := "forestPlays", inPlace := ["slices.overlaps[gesso/api.ID]"], unfollowed := true, recurses := true, apart := false, narrowed := true }
def ForestPlaysUptoSaid : Prop := forestPlaysUptoRow.holds Try.pinned (OpenSpec.upto forestPlaysSpec)

/-- 'gessolaw09.ForestRing', WHERE WHAT IT READS IS OF BULK AT MOST 1048576: true; the input reads as it did. -/
def forestRingUptoRow : OpenClaim := { program := "ytgnlnkbkbddfaaa", sum := "1767d12ace569cdce03b87cd746584b12d4936d6bb9e91df2d027e8bdb88e96f", func := "gesso/gessolaw09.ForestRing", spec := "forestRing", inPlace := ["slices.overlaps[gesso/api.ID]"], unfollowed := true, recurses := true, apart := false, narrowed := true }
def ForestRingUptoSaid : Prop := forestRingUptoRow.holds Try.pinned (OpenSpec.upto forestRingSpec)

end Rows
end Go.Proofs.Ytgnlnkbkbddfaaa
