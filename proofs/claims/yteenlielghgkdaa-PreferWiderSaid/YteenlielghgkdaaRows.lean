/-
  No cell of these rows narrows 'for every input' (looked for: loops, veiled, ifaces, maps, wideKeys, modest, calm, conditions, laid).
  DERIVED. THE GIVEN ROWS OF THIS SEAT. 13 by the template 'for every input the law returns true; each argument reads behind the call as it read before'; 0 by the template 'total and deterministic' (their statements: YteenlielghgkdaaTotals.lean).
  GIVEN WITH THE SEED: the statements are not yours to turn. If you find one false, say at which input.
  Laid BY PROGRAM, IN A SANDBOX (cutbox-rows.mjs): the forced cells as the released guide's own fill.sh prints them over the translation d76853d5f13ab00e… (all of the seat's roots in one cut). By AI agents, Wed Nov 11 2026. No macro, syntax, notation, axiom, sorry.
-/
import Derived.Test.YteenlielghgkdaaChecked
import GoSem.Claim
import GoSem.ClaimJoined
import GoSem.ClaimMapViews
import Derived.JoinedTies
import Derived.KernelRfl
namespace Go.Proofs.Yteenlielghgkdaa
/- THE CELL 'sum', in the pinned program and in every row, IS THE sha256 OF THE DUMP (.gsa) THAT YteenlielghgkdaaProg.lean LOADS. Nothing in Lean hashes anything: it is a label: what it is worth is what the hold of that sum in a sandbox is worth. -/
noncomputable def Try.pinned : Pinned := { name := "yteenlielghgkdaa", sum := "d76853d5f13ab00e3c8cef4c55bfae2a80a2c1a2db8556e5a72a97169583458d", checked := Try.checked }
namespace Rows
def none {H : Type} : Left H := { results := [], args := [] }

/-- 'decoupagelaw08.KinBelow': WHATEVER THE INPUT: true; the input reads as it did. -/
def kinBelowSpec : ChangeSpec := { name := "kinBelow", fn := fun _ => fun
  | [d1, d2, d3] => { results := [.lit (.bool true)], args := [d1, d2, d3] }
  | _ => none }
def kinBelowRow : OpenClaim := { program := "yteenlielghgkdaa", sum := "d76853d5f13ab00e3c8cef4c55bfae2a80a2c1a2db8556e5a72a97169583458d", func := "decoupage/decoupagelaw08.KinBelow", spec := "kinBelow", unfollowed := true, recurses := true, apart := false }
def KinBelowSaid : Prop := kinBelowRow.holds Try.pinned (OpenSpec.ofChange kinBelowSpec)

/-- ITS FALSE NEIGHBOUR: 'it returns false'. Refute it at one input. -/
def kinBelowWrong : ChangeSpec := { name := "kinBelow", fn := fun _ => fun
  | [d1, d2, d3] => { results := [.lit (.bool false)], args := [d1, d2, d3] }
  | _ => none }
def KinBelowWrongFalsely : Prop := kinBelowRow.holds Try.pinned (OpenSpec.ofChange kinBelowWrong)

/-- 'decoupagelaw08.KinTells': WHATEVER THE INPUT: true; the input reads as it did. -/
def kinTellsSpec : ChangeSpec := { name := "kinTells", fn := fun _ => fun
  | [d1, d2] => { results := [.lit (.bool true)], args := [d1, d2] }
  | _ => none }
def kinTellsRow : OpenClaim := { program := "yteenlielghgkdaa", sum := "d76853d5f13ab00e3c8cef4c55bfae2a80a2c1a2db8556e5a72a97169583458d", func := "decoupage/decoupagelaw08.KinTells", spec := "kinTells", unfollowed := true, recurses := true, apart := false }
def KinTellsSaid : Prop := kinTellsRow.holds Try.pinned (OpenSpec.ofChange kinTellsSpec)

/-- ITS FALSE NEIGHBOUR: 'it returns false'. Refute it at one input. -/
def kinTellsWrong : ChangeSpec := { name := "kinTells", fn := fun _ => fun
  | [d1, d2] => { results := [.lit (.bool false)], args := [d1, d2] }
  | _ => none }
def KinTellsWrongFalsely : Prop := kinTellsRow.holds Try.pinned (OpenSpec.ofChange kinTellsWrong)

/-- 'decoupagelaw08.KinOwn': WHATEVER THE INPUT: true; the input reads as it did. -/
def kinOwnSpec : ChangeSpec := { name := "kinOwn", fn := fun _ => fun
  | [d] => { results := [.lit (.bool true)], args := [d] }
  | _ => none }
def kinOwnRow : OpenClaim := { program := "yteenlielghgkdaa", sum := "d76853d5f13ab00e3c8cef4c55bfae2a80a2c1a2db8556e5a72a97169583458d", func := "decoupage/decoupagelaw08.KinOwn", spec := "kinOwn", unfollowed := true, recurses := true, apart := false }
def KinOwnSaid : Prop := kinOwnRow.holds Try.pinned (OpenSpec.ofChange kinOwnSpec)

/-- ITS FALSE NEIGHBOUR: 'it returns false'. Refute it at one input. -/
def kinOwnWrong : ChangeSpec := { name := "kinOwn", fn := fun _ => fun
  | [d] => { results := [.lit (.bool false)], args := [d] }
  | _ => none }
def KinOwnWrongFalsely : Prop := kinOwnRow.holds Try.pinned (OpenSpec.ofChange kinOwnWrong)

/-- 'decoupagelaw08.KinNil': WHATEVER THE INPUT: true; the input reads as it did. -/
def kinNilSpec : ChangeSpec := { name := "kinNil", fn := fun _ => fun
  | [d1, d2] => { results := [.lit (.bool true)], args := [d1, d2] }
  | _ => none }
def kinNilRow : OpenClaim := { program := "yteenlielghgkdaa", sum := "d76853d5f13ab00e3c8cef4c55bfae2a80a2c1a2db8556e5a72a97169583458d", func := "decoupage/decoupagelaw08.KinNil", spec := "kinNil", unfollowed := true, recurses := true, apart := false }
def KinNilSaid : Prop := kinNilRow.holds Try.pinned (OpenSpec.ofChange kinNilSpec)

/-- ITS FALSE NEIGHBOUR: 'it returns false'. Refute it at one input. -/
def kinNilWrong : ChangeSpec := { name := "kinNil", fn := fun _ => fun
  | [d1, d2] => { results := [.lit (.bool false)], args := [d1, d2] }
  | _ => none }
def KinNilWrongFalsely : Prop := kinNilRow.holds Try.pinned (OpenSpec.ofChange kinNilWrong)

/-- 'decoupagelaw18.HoldTells': WHATEVER THE INPUT: true; the input reads as it did. -/
def holdTellsSpec : ChangeSpec := { name := "holdTells", fn := fun _ => fun
  | [d1, d2] => { results := [.lit (.bool true)], args := [d1, d2] }
  | _ => none }
def holdTellsRow : OpenClaim := { program := "yteenlielghgkdaa", sum := "d76853d5f13ab00e3c8cef4c55bfae2a80a2c1a2db8556e5a72a97169583458d", func := "decoupage/decoupagelaw18.HoldTells", spec := "holdTells", unfollowed := true, recurses := true, apart := false }
def HoldTellsSaid : Prop := holdTellsRow.holds Try.pinned (OpenSpec.ofChange holdTellsSpec)

/-- ITS FALSE NEIGHBOUR: 'it returns false'. Refute it at one input. -/
def holdTellsWrong : ChangeSpec := { name := "holdTells", fn := fun _ => fun
  | [d1, d2] => { results := [.lit (.bool false)], args := [d1, d2] }
  | _ => none }
def HoldTellsWrongFalsely : Prop := holdTellsRow.holds Try.pinned (OpenSpec.ofChange holdTellsWrong)

/-- 'decoupagelaw18.HoldAbove': WHATEVER THE INPUT: true; the input reads as it did. -/
def holdAboveSpec : ChangeSpec := { name := "holdAbove", fn := fun _ => fun
  | [d1, d2] => { results := [.lit (.bool true)], args := [d1, d2] }
  | _ => none }
def holdAboveRow : OpenClaim := { program := "yteenlielghgkdaa", sum := "d76853d5f13ab00e3c8cef4c55bfae2a80a2c1a2db8556e5a72a97169583458d", func := "decoupage/decoupagelaw18.HoldAbove", spec := "holdAbove", unfollowed := true, recurses := true, apart := false }
def HoldAboveSaid : Prop := holdAboveRow.holds Try.pinned (OpenSpec.ofChange holdAboveSpec)

/-- ITS FALSE NEIGHBOUR: 'it returns false'. Refute it at one input. -/
def holdAboveWrong : ChangeSpec := { name := "holdAbove", fn := fun _ => fun
  | [d1, d2] => { results := [.lit (.bool false)], args := [d1, d2] }
  | _ => none }
def HoldAboveWrongFalsely : Prop := holdAboveRow.holds Try.pinned (OpenSpec.ofChange holdAboveWrong)

/-- 'decoupagelaw23.LevelTells': WHATEVER THE INPUT: true; the input reads as it did. -/
def levelTellsSpec : ChangeSpec := { name := "levelTells", fn := fun _ => fun
  | [d1, d2] => { results := [.lit (.bool true)], args := [d1, d2] }
  | _ => none }
def levelTellsRow : OpenClaim := { program := "yteenlielghgkdaa", sum := "d76853d5f13ab00e3c8cef4c55bfae2a80a2c1a2db8556e5a72a97169583458d", func := "decoupage/decoupagelaw23.LevelTells", spec := "levelTells", unfollowed := true, recurses := true, apart := false }
def LevelTellsSaid : Prop := levelTellsRow.holds Try.pinned (OpenSpec.ofChange levelTellsSpec)

/-- ITS FALSE NEIGHBOUR: 'it returns false'. Refute it at one input. -/
def levelTellsWrong : ChangeSpec := { name := "levelTells", fn := fun _ => fun
  | [d1, d2] => { results := [.lit (.bool false)], args := [d1, d2] }
  | _ => none }
def LevelTellsWrongFalsely : Prop := levelTellsRow.holds Try.pinned (OpenSpec.ofChange levelTellsWrong)

/-- 'decoupagelaw23.LevelParts': WHATEVER THE INPUT: true; the input reads as it did. -/
def levelPartsSpec : ChangeSpec := { name := "levelParts", fn := fun _ => fun
  | [d] => { results := [.lit (.bool true)], args := [d] }
  | _ => none }
def levelPartsRow : OpenClaim := { program := "yteenlielghgkdaa", sum := "d76853d5f13ab00e3c8cef4c55bfae2a80a2c1a2db8556e5a72a97169583458d", func := "decoupage/decoupagelaw23.LevelParts", spec := "levelParts", unfollowed := true, recurses := true, apart := false }
def LevelPartsSaid : Prop := levelPartsRow.holds Try.pinned (OpenSpec.ofChange levelPartsSpec)

/-- ITS FALSE NEIGHBOUR: 'it returns false'. Refute it at one input. -/
def levelPartsWrong : ChangeSpec := { name := "levelParts", fn := fun _ => fun
  | [d] => { results := [.lit (.bool false)], args := [d] }
  | _ => none }
def LevelPartsWrongFalsely : Prop := levelPartsRow.holds Try.pinned (OpenSpec.ofChange levelPartsWrong)

/-- 'decoupagelaw15.PreferTells': WHATEVER THE INPUT: true; the input reads as it did. -/
def preferTellsSpec : ChangeSpec := { name := "preferTells", fn := fun _ => fun
  | [d1, d2] => { results := [.lit (.bool true)], args := [d1, d2] }
  | _ => none }
def preferTellsRow : OpenClaim := { program := "yteenlielghgkdaa", sum := "d76853d5f13ab00e3c8cef4c55bfae2a80a2c1a2db8556e5a72a97169583458d", func := "decoupage/decoupagelaw15.PreferTells", spec := "preferTells", unfollowed := true, recurses := true, apart := false }
def PreferTellsSaid : Prop := preferTellsRow.holds Try.pinned (OpenSpec.ofChange preferTellsSpec)

/-- ITS FALSE NEIGHBOUR: 'it returns false'. Refute it at one input. -/
def preferTellsWrong : ChangeSpec := { name := "preferTells", fn := fun _ => fun
  | [d1, d2] => { results := [.lit (.bool false)], args := [d1, d2] }
  | _ => none }
def PreferTellsWrongFalsely : Prop := preferTellsRow.holds Try.pinned (OpenSpec.ofChange preferTellsWrong)

/-- 'decoupagelaw15.PreferWider': WHATEVER THE INPUT: true; the input reads as it did. -/
def preferWiderSpec : ChangeSpec := { name := "preferWider", fn := fun _ => fun
  | [d1, d2] => { results := [.lit (.bool true)], args := [d1, d2] }
  | _ => none }
def preferWiderRow : OpenClaim := { program := "yteenlielghgkdaa", sum := "d76853d5f13ab00e3c8cef4c55bfae2a80a2c1a2db8556e5a72a97169583458d", func := "decoupage/decoupagelaw15.PreferWider", spec := "preferWider", unfollowed := true, recurses := true, apart := false }
def PreferWiderSaid : Prop := preferWiderRow.holds Try.pinned (OpenSpec.ofChange preferWiderSpec)

/-- ITS FALSE NEIGHBOUR: 'it returns false'. Refute it at one input. -/
def preferWiderWrong : ChangeSpec := { name := "preferWider", fn := fun _ => fun
  | [d1, d2] => { results := [.lit (.bool false)], args := [d1, d2] }
  | _ => none }
def PreferWiderWrongFalsely : Prop := preferWiderRow.holds Try.pinned (OpenSpec.ofChange preferWiderWrong)

/-- 'decoupagelaw24.RankTells': WHATEVER THE INPUT: true; the input reads as it did. -/
def rankTellsSpec : ChangeSpec := { name := "rankTells", fn := fun _ => fun
  | [d1, d2, d3] => { results := [.lit (.bool true)], args := [d1, d2, d3] }
  | _ => none }
def rankTellsRow : OpenClaim := { program := "yteenlielghgkdaa", sum := "d76853d5f13ab00e3c8cef4c55bfae2a80a2c1a2db8556e5a72a97169583458d", func := "decoupage/decoupagelaw24.RankTells", spec := "rankTells", unfollowed := true, recurses := true, apart := false }
def RankTellsSaid : Prop := rankTellsRow.holds Try.pinned (OpenSpec.ofChange rankTellsSpec)

/-- ITS FALSE NEIGHBOUR: 'it returns false'. Refute it at one input. -/
def rankTellsWrong : ChangeSpec := { name := "rankTells", fn := fun _ => fun
  | [d1, d2, d3] => { results := [.lit (.bool false)], args := [d1, d2, d3] }
  | _ => none }
def RankTellsWrongFalsely : Prop := rankTellsRow.holds Try.pinned (OpenSpec.ofChange rankTellsWrong)

/-- 'decoupagelaw24.RankOrders': WHATEVER THE INPUT: true; the input reads as it did. -/
def rankOrdersSpec : ChangeSpec := { name := "rankOrders", fn := fun _ => fun
  | [d1, d2, d3, d4] => { results := [.lit (.bool true)], args := [d1, d2, d3, d4] }
  | _ => none }
def rankOrdersRow : OpenClaim := { program := "yteenlielghgkdaa", sum := "d76853d5f13ab00e3c8cef4c55bfae2a80a2c1a2db8556e5a72a97169583458d", func := "decoupage/decoupagelaw24.RankOrders", spec := "rankOrders", unfollowed := true, recurses := true, apart := false }
def RankOrdersSaid : Prop := rankOrdersRow.holds Try.pinned (OpenSpec.ofChange rankOrdersSpec)

/-- ITS FALSE NEIGHBOUR: 'it returns false'. Refute it at one input. -/
def rankOrdersWrong : ChangeSpec := { name := "rankOrders", fn := fun _ => fun
  | [d1, d2, d3, d4] => { results := [.lit (.bool false)], args := [d1, d2, d3, d4] }
  | _ => none }
def RankOrdersWrongFalsely : Prop := rankOrdersRow.holds Try.pinned (OpenSpec.ofChange rankOrdersWrong)

/-- 'decoupagelaw24.RankWhole': WHATEVER THE INPUT: true; the input reads as it did. -/
def rankWholeSpec : ChangeSpec := { name := "rankWhole", fn := fun _ => fun
  | [d1, d2, d3, d4, d5] => { results := [.lit (.bool true)], args := [d1, d2, d3, d4, d5] }
  | _ => none }
def rankWholeRow : OpenClaim := { program := "yteenlielghgkdaa", sum := "d76853d5f13ab00e3c8cef4c55bfae2a80a2c1a2db8556e5a72a97169583458d", func := "decoupage/decoupagelaw24.RankWhole", spec := "rankWhole", unfollowed := true, recurses := true, apart := false }
def RankWholeSaid : Prop := rankWholeRow.holds Try.pinned (OpenSpec.ofChange rankWholeSpec)

/-- ITS FALSE NEIGHBOUR: 'it returns false'. Refute it at one input. -/
def rankWholeWrong : ChangeSpec := { name := "rankWhole", fn := fun _ => fun
  | [d1, d2, d3, d4, d5] => { results := [.lit (.bool false)], args := [d1, d2, d3, d4, d5] }
  | _ => none }
def RankWholeWrongFalsely : Prop := rankWholeRow.holds Try.pinned (OpenSpec.ofChange rankWholeWrong)

/- THE SECOND FORM. 'bulk': how many values and letters a reading holds, each counted each time it is reached (what is shared counts as often as it is met; a slice's spare places count too). A statement '..UptoSaid' is the law's where the arguments, and the package variables that the reading takes, are together of bulk at most 1048576: NARROWER than '..Said'. Prove '..Said' where nothing that the law and all that it calls make is longer than what came in: it says more and counts as full. Else prove '..UptoSaid'. A law counts once. -/
mutual
def uptoBulk {H : Type} : DataW H → Nat
  | .lit (.string bytes) => bytes.length + 1
  | .lit _ => 1
  | .nil => 1
  | .ptr d => uptoBulk d + 1
  | .slice elems spare => uptoBulkAll elems + uptoBulkAll spare + 1
  | .agg parts => uptoBulkAll parts + 1
  | .iface _ d => uptoBulk d + 1
  | .map entries => uptoBulkEntries entries + 1
  | .held _ => 1
def uptoBulkAll {H : Type} : List (DataW H) → Nat
  | [] => 0
  | d :: r => uptoBulk d + uptoBulkAll r
def uptoBulkEntries {H : Type} : List (Lit × DataW H) → Nat
  | [] => 0
  | x :: r => uptoBulkEntry x + uptoBulkEntries r
def uptoBulkEntry {H : Type} : Lit × DataW H → Nat
  | (.string bytes, d) => bytes.length + uptoBulk d + 1
  | (_, d) => uptoBulk d + 1
 end
def uptoSmall : (H : Type) → List (DataW H) → Bool := fun _ ds => decide (uptoBulkAll ds ≤ 1048576)
def OpenSpec.upto (s : _root_.Go.ChangeSpec) : _root_.Go.OpenSpec := { _root_.Go.OpenSpec.ofChange s with cond := some uptoSmall }

/-- 'decoupagelaw08.KinBelow', WHERE WHAT IT READS IS OF BULK AT MOST 1048576: true; the input reads as it did. -/
def kinBelowUptoRow : OpenClaim := { program := "yteenlielghgkdaa", sum := "d76853d5f13ab00e3c8cef4c55bfae2a80a2c1a2db8556e5a72a97169583458d", func := "decoupage/decoupagelaw08.KinBelow", spec := "kinBelow", unfollowed := true, recurses := true, apart := false, narrowed := true }
def KinBelowUptoSaid : Prop := kinBelowUptoRow.holds Try.pinned (OpenSpec.upto kinBelowSpec)

/-- 'decoupagelaw08.KinTells', WHERE WHAT IT READS IS OF BULK AT MOST 1048576: true; the input reads as it did. -/
def kinTellsUptoRow : OpenClaim := { program := "yteenlielghgkdaa", sum := "d76853d5f13ab00e3c8cef4c55bfae2a80a2c1a2db8556e5a72a97169583458d", func := "decoupage/decoupagelaw08.KinTells", spec := "kinTells", unfollowed := true, recurses := true, apart := false, narrowed := true }
def KinTellsUptoSaid : Prop := kinTellsUptoRow.holds Try.pinned (OpenSpec.upto kinTellsSpec)

/-- 'decoupagelaw08.KinOwn', WHERE WHAT IT READS IS OF BULK AT MOST 1048576: true; the input reads as it did. -/
def kinOwnUptoRow : OpenClaim := { program := "yteenlielghgkdaa", sum := "d76853d5f13ab00e3c8cef4c55bfae2a80a2c1a2db8556e5a72a97169583458d", func := "decoupage/decoupagelaw08.KinOwn", spec := "kinOwn", unfollowed := true, recurses := true, apart := false, narrowed := true }
def KinOwnUptoSaid : Prop := kinOwnUptoRow.holds Try.pinned (OpenSpec.upto kinOwnSpec)

/-- 'decoupagelaw08.KinNil', WHERE WHAT IT READS IS OF BULK AT MOST 1048576: true; the input reads as it did. -/
def kinNilUptoRow : OpenClaim := { program := "yteenlielghgkdaa", sum := "d76853d5f13ab00e3c8cef4c55bfae2a80a2c1a2db8556e5a72a97169583458d", func := "decoupage/decoupagelaw08.KinNil", spec := "kinNil", unfollowed := true, recurses := true, apart := false, narrowed := true }
def KinNilUptoSaid : Prop := kinNilUptoRow.holds Try.pinned (OpenSpec.upto kinNilSpec)

/-- 'decoupagelaw18.HoldTells', WHERE WHAT IT READS IS OF BULK AT MOST 1048576: true; the input reads as it did. -/
def holdTellsUptoRow : OpenClaim := { program := "yteenlielghgkdaa", sum := "d76853d5f13ab00e3c8cef4c55bfae2a80a2c1a2db8556e5a72a97169583458d", func := "decoupage/decoupagelaw18.HoldTells", spec := "holdTells", unfollowed := true, recurses := true, apart := false, narrowed := true }
def HoldTellsUptoSaid : Prop := holdTellsUptoRow.holds Try.pinned (OpenSpec.upto holdTellsSpec)

/-- 'decoupagelaw18.HoldAbove', WHERE WHAT IT READS IS OF BULK AT MOST 1048576: true; the input reads as it did. -/
def holdAboveUptoRow : OpenClaim := { program := "yteenlielghgkdaa", sum := "d76853d5f13ab00e3c8cef4c55bfae2a80a2c1a2db8556e5a72a97169583458d", func := "decoupage/decoupagelaw18.HoldAbove", spec := "holdAbove", unfollowed := true, recurses := true, apart := false, narrowed := true }
def HoldAboveUptoSaid : Prop := holdAboveUptoRow.holds Try.pinned (OpenSpec.upto holdAboveSpec)

/-- 'decoupagelaw23.LevelTells', WHERE WHAT IT READS IS OF BULK AT MOST 1048576: true; the input reads as it did. -/
def levelTellsUptoRow : OpenClaim := { program := "yteenlielghgkdaa", sum := "d76853d5f13ab00e3c8cef4c55bfae2a80a2c1a2db8556e5a72a97169583458d", func := "decoupage/decoupagelaw23.LevelTells", spec := "levelTells", unfollowed := true, recurses := true, apart := false, narrowed := true }
def LevelTellsUptoSaid : Prop := levelTellsUptoRow.holds Try.pinned (OpenSpec.upto levelTellsSpec)

/-- 'decoupagelaw23.LevelParts', WHERE WHAT IT READS IS OF BULK AT MOST 1048576: true; the input reads as it did. -/
def levelPartsUptoRow : OpenClaim := { program := "yteenlielghgkdaa", sum := "d76853d5f13ab00e3c8cef4c55bfae2a80a2c1a2db8556e5a72a97169583458d", func := "decoupage/decoupagelaw23.LevelParts", spec := "levelParts", unfollowed := true, recurses := true, apart := false, narrowed := true }
def LevelPartsUptoSaid : Prop := levelPartsUptoRow.holds Try.pinned (OpenSpec.upto levelPartsSpec)

/-- 'decoupagelaw15.PreferTells', WHERE WHAT IT READS IS OF BULK AT MOST 1048576: true; the input reads as it did. -/
def preferTellsUptoRow : OpenClaim := { program := "yteenlielghgkdaa", sum := "d76853d5f13ab00e3c8cef4c55bfae2a80a2c1a2db8556e5a72a97169583458d", func := "decoupage/decoupagelaw15.PreferTells", spec := "preferTells", unfollowed := true, recurses := true, apart := false, narrowed := true }
def PreferTellsUptoSaid : Prop := preferTellsUptoRow.holds Try.pinned (OpenSpec.upto preferTellsSpec)

/-- 'decoupagelaw15.PreferWider', WHERE WHAT IT READS IS OF BULK AT MOST 1048576: true; the input reads as it did. -/
def preferWiderUptoRow : OpenClaim := { program := "yteenlielghgkdaa", sum := "d76853d5f13ab00e3c8cef4c55bfae2a80a2c1a2db8556e5a72a97169583458d", func := "decoupage/decoupagelaw15.PreferWider", spec := "preferWider", unfollowed := true, recurses := true, apart := false, narrowed := true }
def PreferWiderUptoSaid : Prop := preferWiderUptoRow.holds Try.pinned (OpenSpec.upto preferWiderSpec)

/-- 'decoupagelaw24.RankTells', WHERE WHAT IT READS IS OF BULK AT MOST 1048576: true; the input reads as it did. -/
def rankTellsUptoRow : OpenClaim := { program := "yteenlielghgkdaa", sum := "d76853d5f13ab00e3c8cef4c55bfae2a80a2c1a2db8556e5a72a97169583458d", func := "decoupage/decoupagelaw24.RankTells", spec := "rankTells", unfollowed := true, recurses := true, apart := false, narrowed := true }
def RankTellsUptoSaid : Prop := rankTellsUptoRow.holds Try.pinned (OpenSpec.upto rankTellsSpec)

/-- 'decoupagelaw24.RankOrders', WHERE WHAT IT READS IS OF BULK AT MOST 1048576: true; the input reads as it did. -/
def rankOrdersUptoRow : OpenClaim := { program := "yteenlielghgkdaa", sum := "d76853d5f13ab00e3c8cef4c55bfae2a80a2c1a2db8556e5a72a97169583458d", func := "decoupage/decoupagelaw24.RankOrders", spec := "rankOrders", unfollowed := true, recurses := true, apart := false, narrowed := true }
def RankOrdersUptoSaid : Prop := rankOrdersUptoRow.holds Try.pinned (OpenSpec.upto rankOrdersSpec)

/-- 'decoupagelaw24.RankWhole', WHERE WHAT IT READS IS OF BULK AT MOST 1048576: true; the input reads as it did. -/
def rankWholeUptoRow : OpenClaim := { program := "yteenlielghgkdaa", sum := "d76853d5f13ab00e3c8cef4c55bfae2a80a2c1a2db8556e5a72a97169583458d", func := "decoupage/decoupagelaw24.RankWhole", spec := "rankWhole", unfollowed := true, recurses := true, apart := false, narrowed := true }
def RankWholeUptoSaid : Prop := rankWholeUptoRow.holds Try.pinned (OpenSpec.upto rankWholeSpec)

end Rows
end Go.Proofs.Yteenlielghgkdaa
