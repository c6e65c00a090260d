/-
  No cell of these rows narrows 'for every input' (looked for: loops, veiled, ifaces, maps, wideKeys, modest, calm, conditions, laid).
  DERIVED. THE GIVEN ROWS OF THIS SEAT. 4 by the template 'for every input the law returns true; each argument reads behind the call as it read before'; 0 by the template 'total and deterministic' (their statements: YtnaoehbodmiekaaGreatTotals.lean).
  GIVEN WITH THE SEED: the statements are not yours to turn. If you find one false, say at which input.
  Laid BY PROGRAM, IN A SANDBOX (cutbox-rows.mjs): the forced cells as the released guide's own fill.sh prints them over the translation 10e76d069e2b7a99… (all of the seat's roots in one cut). By AI agents, Wed Nov 11 2026. No macro, syntax, notation, axiom, sorry.
-/
import Derived.Test.YtnaoehbodmiekaaGreatChecked
import GoSem.Claim
import GoSem.ClaimJoined
import GoSem.ClaimMapViews
import Derived.JoinedTies
import Derived.KernelRfl
namespace Go.Proofs.YtnaoehbodmiekaaGreat
/- THE CELL 'sum', in the pinned program and in every row, IS THE sha256 OF THE DUMP (.gsa) THAT YtnaoehbodmiekaaGreatProg.lean LOADS. Nothing in Lean hashes anything: it is a label: what it is worth is what the hold of that sum in a sandbox is worth. -/
noncomputable def Tryz.pinned : Pinned := { name := "ytnaoehbodmiekaagreat", sum := "10e76d069e2b7a9956a3dea957fd5cb5ca5eab16ed3450552b4fe781496cb820", checked := Tryz.checked }
namespace Rows
def none {H : Type} : Left H := { results := [], args := [] }

/-- 'decoupagelaw14.FlowLays': WHATEVER THE INPUT: true; the input reads as it did. -/
def flowLaysSpec : ChangeSpec := { name := "flowLays", fn := fun _ => fun
  | [d1, d2, d3, d4, d5] => { results := [.lit (.bool true)], args := [d1, d2, d3, d4, d5] }
  | _ => none }
def flowLaysRow : OpenClaim := { program := "ytnaoehbodmiekaagreat", sum := "10e76d069e2b7a9956a3dea957fd5cb5ca5eab16ed3450552b4fe781496cb820", func := "decoupage/decoupagelaw14.FlowLays", spec := "flowLays", inPlace := ["slices.overlaps[int]"], unfollowed := true, recurses := true, named := ["math/bits.divideError", "math/bits.overflowError"], apart := false }
def FlowLaysSaid : Prop := flowLaysRow.holds Tryz.pinned (OpenSpec.ofChange flowLaysSpec)

/-- ITS FALSE NEIGHBOUR: 'it returns false'. Refute it at one input. -/
def flowLaysWrong : ChangeSpec := { name := "flowLays", fn := fun _ => fun
  | [d1, d2, d3, d4, d5] => { results := [.lit (.bool false)], args := [d1, d2, d3, d4, d5] }
  | _ => none }
def FlowLaysWrongFalsely : Prop := flowLaysRow.holds Tryz.pinned (OpenSpec.ofChange flowLaysWrong)

/-- 'decoupagelaw19.PlaceTells': WHATEVER THE INPUT: true; the input reads as it did. -/
def placeTellsSpec : ChangeSpec := { name := "placeTells", fn := fun _ => fun
  | [d1, d2, d3, d4, d5] => { results := [.lit (.bool true)], args := [d1, d2, d3, d4, d5] }
  | _ => none }
def placeTellsRow : OpenClaim := { program := "ytnaoehbodmiekaagreat", sum := "10e76d069e2b7a9956a3dea957fd5cb5ca5eab16ed3450552b4fe781496cb820", func := "decoupage/decoupagelaw19.PlaceTells", spec := "placeTells", inPlace := ["slices.overlaps[int]"], unfollowed := true, recurses := true, named := ["math/bits.divideError", "math/bits.overflowError"], apart := false }
def PlaceTellsSaid : Prop := placeTellsRow.holds Tryz.pinned (OpenSpec.ofChange placeTellsSpec)

/-- ITS FALSE NEIGHBOUR: 'it returns false'. Refute it at one input. -/
def placeTellsWrong : ChangeSpec := { name := "placeTells", fn := fun _ => fun
  | [d1, d2, d3, d4, d5] => { results := [.lit (.bool false)], args := [d1, d2, d3, d4, d5] }
  | _ => none }
def PlaceTellsWrongFalsely : Prop := placeTellsRow.holds Tryz.pinned (OpenSpec.ofChange placeTellsWrong)

/-- 'decoupagelaw19.PlaceAlone': WHATEVER THE INPUT: true; the input reads as it did. -/
def placeAloneSpec : ChangeSpec := { name := "placeAlone", fn := fun _ => fun
  | [d1, d2, d3, d4, d5] => { results := [.lit (.bool true)], args := [d1, d2, d3, d4, d5] }
  | _ => none }
def placeAloneRow : OpenClaim := { program := "ytnaoehbodmiekaagreat", sum := "10e76d069e2b7a9956a3dea957fd5cb5ca5eab16ed3450552b4fe781496cb820", func := "decoupage/decoupagelaw19.PlaceAlone", spec := "placeAlone", inPlace := ["slices.overlaps[int]"], unfollowed := true, recurses := true, named := ["math/bits.divideError", "math/bits.overflowError"], apart := false }
def PlaceAloneSaid : Prop := placeAloneRow.holds Tryz.pinned (OpenSpec.ofChange placeAloneSpec)

/-- ITS FALSE NEIGHBOUR: 'it returns false'. Refute it at one input. -/
def placeAloneWrong : ChangeSpec := { name := "placeAlone", fn := fun _ => fun
  | [d1, d2, d3, d4, d5] => { results := [.lit (.bool false)], args := [d1, d2, d3, d4, d5] }
  | _ => none }
def PlaceAloneWrongFalsely : Prop := placeAloneRow.holds Tryz.pinned (OpenSpec.ofChange placeAloneWrong)

/-- 'decoupagelaw14.FlowOut': WHATEVER THE INPUT: true; the input reads as it did. -/
def flowOutSpec : ChangeSpec := { name := "flowOut", fn := fun _ => fun
  | [d1, d2, d3, d4, d5] => { results := [.lit (.bool true)], args := [d1, d2, d3, d4, d5] }
  | _ => none }
def flowOutRow : OpenClaim := { program := "ytnaoehbodmiekaagreat", sum := "10e76d069e2b7a9956a3dea957fd5cb5ca5eab16ed3450552b4fe781496cb820", func := "decoupage/decoupagelaw14.FlowOut", spec := "flowOut", inPlace := ["slices.overlaps[int]"], unfollowed := true, recurses := true, named := ["math/bits.divideError", "math/bits.overflowError"], apart := false }
def FlowOutSaid : Prop := flowOutRow.holds Tryz.pinned (OpenSpec.ofChange flowOutSpec)

/-- ITS FALSE NEIGHBOUR: 'it returns false'. Refute it at one input. -/
def flowOutWrong : ChangeSpec := { name := "flowOut", fn := fun _ => fun
  | [d1, d2, d3, d4, d5] => { results := [.lit (.bool false)], args := [d1, d2, d3, d4, d5] }
  | _ => none }
def FlowOutWrongFalsely : Prop := flowOutRow.holds Tryz.pinned (OpenSpec.ofChange flowOutWrong)

/- THE SECOND FORM. 'bulk': how many values and letters a reading holds, each counted each time it is reached (what is shared counts as often as it is met; a slice's spare places count too). A statement '..UptoSaid' is the law's where the arguments, and the package variables that the reading takes, are together of bulk at most 1048576: NARROWER than '..Said'. Prove '..Said' where nothing that the law and all that it calls make is longer than what came in: it says more and counts as full. Else prove '..UptoSaid'. A law counts once. -/
mutual
def uptoBulk {H : Type} : DataW H → Nat
  | .lit (.string bytes) => bytes.length + 1
  | .lit _ => 1
  | .nil => 1
  | .ptr d => uptoBulk d + 1
  | .slice elems spare => uptoBulkAll elems + uptoBulkAll spare + 1
  | .agg parts => uptoBulkAll parts + 1
  | .iface _ d => uptoBulk d + 1
  | .map entries => uptoBulkEntries entries + 1
  | .held _ => 1
def uptoBulkAll {H : Type} : List (DataW H) → Nat
  | [] => 0
  | d :: r => uptoBulk d + uptoBulkAll r
def uptoBulkEntries {H : Type} : List (Lit × DataW H) → Nat
  | [] => 0
  | x :: r => uptoBulkEntry x + uptoBulkEntries r
def uptoBulkEntry {H : Type} : Lit × DataW H → Nat
  | (.string bytes, d) => bytes.length + uptoBulk d + 1
  | (_, d) => uptoBulk d + 1
 end
def uptoSmall : (H : Type) → List (DataW H) → Bool := fun _ ds => decide (uptoBulkAll ds ≤ 1048576)
def OpenSpec.upto (s : _root_.Go.ChangeSpec) : _root_.Go.OpenSpec := { _root_.Go.OpenSpec.ofChange s with cond := some uptoSmall }

/-- 'decoupagelaw14.FlowLays', WHERE WHAT IT READS IS OF BULK AT MOST 1048576: true; the input reads as it did. -/
def flowLaysUptoRow : OpenClaim := { program := "ytnaoehbodmiekaagreat", sum := "10e76d069e2b7a9956a3dea957fd5cb5ca5eab16ed3450552b4fe781496cb820", func := "decoupage/decoupagelaw14.FlowLays", spec := "flowLays", inPlace := ["slices.overlaps[int]"], unfollowed := true, recurses := true, named := ["math/bits.divideError", "math/bits.overflowError"], apart := false, narrowed := true }
def FlowLaysUptoSaid : Prop := flowLaysUptoRow.holds Tryz.pinned (OpenSpec.upto flowLaysSpec)

/-- 'decoupagelaw19.PlaceTells', WHERE WHAT IT READS IS OF BULK AT MOST 1048576: true; the input reads as it did. -/
def placeTellsUptoRow : OpenClaim := { program := "ytnaoehbodmiekaagreat", sum := "10e76d069e2b7a9956a3dea957fd5cb5ca5eab16ed3450552b4fe781496cb820", func := "decoupage/decoupagelaw19.PlaceTells", spec := "placeTells", inPlace := ["slices.overlaps[int]"], unfollowed := true, recurses := true, named := ["math/bits.divideError", "math/bits.overflowError"], apart := false, narrowed := true }
def PlaceTellsUptoSaid : Prop := placeTellsUptoRow.holds Tryz.pinned (OpenSpec.upto placeTellsSpec)

/-- 'decoupagelaw19.PlaceAlone', WHERE WHAT IT READS IS OF BULK AT MOST 1048576: true; the input reads as it did. -/
def placeAloneUptoRow : OpenClaim := { program := "ytnaoehbodmiekaagreat", sum := "10e76d069e2b7a9956a3dea957fd5cb5ca5eab16ed3450552b4fe781496cb820", func := "decoupage/decoupagelaw19.PlaceAlone", spec := "placeAlone", inPlace := ["slices.overlaps[int]"], unfollowed := true, recurses := true, named := ["math/bits.divideError", "math/bits.overflowError"], apart := false, narrowed := true }
def PlaceAloneUptoSaid : Prop := placeAloneUptoRow.holds Tryz.pinned (OpenSpec.upto placeAloneSpec)

/-- 'decoupagelaw14.FlowOut', WHERE WHAT IT READS IS OF BULK AT MOST 1048576: true; the input reads as it did. -/
def flowOutUptoRow : OpenClaim := { program := "ytnaoehbodmiekaagreat", sum := "10e76d069e2b7a9956a3dea957fd5cb5ca5eab16ed3450552b4fe781496cb820", func := "decoupage/decoupagelaw14.FlowOut", spec := "flowOut", inPlace := ["slices.overlaps[int]"], unfollowed := true, recurses := true, named := ["math/bits.divideError", "math/bits.overflowError"], apart := false, narrowed := true }
def FlowOutUptoSaid : Prop := flowOutUptoRow.holds Tryz.pinned (OpenSpec.upto flowOutSpec)

end Rows
end Go.Proofs.YtnaoehbodmiekaaGreat
