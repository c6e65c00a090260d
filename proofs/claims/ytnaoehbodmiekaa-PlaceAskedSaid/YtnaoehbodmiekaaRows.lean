/-
  No cell of these rows narrows 'for every input' (looked for: loops, veiled, ifaces, maps, wideKeys, modest, calm, conditions, laid).
  DERIVED. THE GIVEN ROWS OF THIS SEAT. 4 by the template 'for every input the law returns true; each argument reads behind the call as it read before'; 0 by the template 'total and deterministic' (their statements: YtnaoehbodmiekaaTotals.lean).
  GIVEN WITH THE SEED: the statements are not yours to turn. If you find one false, say at which input.
  Laid BY PROGRAM, IN A SANDBOX (cutbox-rows.mjs): the forced cells as the released guide's own fill.sh prints them over the translation eff22bbaa7fe78ff… (all of the seat's roots in one cut). By AI agents, Wed Nov 11 2026. No macro, syntax, notation, axiom, sorry.
-/
import Derived.Test.YtnaoehbodmiekaaChecked
import GoSem.Claim
import GoSem.ClaimJoined
import GoSem.ClaimMapViews
import Derived.JoinedTies
import Derived.KernelRfl
namespace Go.Proofs.Ytnaoehbodmiekaa
/- THE CELL 'sum', in the pinned program and in every row, IS THE sha256 OF THE DUMP (.gsa) THAT YtnaoehbodmiekaaProg.lean LOADS. Nothing in Lean hashes anything: it is a label: what it is worth is what the hold of that sum in a sandbox is worth. -/
noncomputable def Try.pinned : Pinned := { name := "ytnaoehbodmiekaa", sum := "eff22bbaa7fe78ff2b7ac1bc88cc65a9d6f148ba249804fb0994a7a0dd5e19c8", checked := Try.checked }
namespace Rows
def none {H : Type} : Left H := { results := [], args := [] }

/-- 'decoupagelaw14.FlowApart': WHATEVER THE INPUT: true; the input reads as it did. -/
def flowApartSpec : ChangeSpec := { name := "flowApart", fn := fun _ => fun
  | [d1, d2, d3] => { results := [.lit (.bool true)], args := [d1, d2, d3] }
  | _ => none }
def flowApartRow : OpenClaim := { program := "ytnaoehbodmiekaa", sum := "eff22bbaa7fe78ff2b7ac1bc88cc65a9d6f148ba249804fb0994a7a0dd5e19c8", func := "decoupage/decoupagelaw14.FlowApart", spec := "flowApart", inPlace := ["slices.overlaps[int]"], unfollowed := true, recurses := true, apart := false }
def FlowApartSaid : Prop := flowApartRow.holds Try.pinned (OpenSpec.ofChange flowApartSpec)

/-- ITS FALSE NEIGHBOUR: 'it returns false'. Refute it at one input. -/
def flowApartWrong : ChangeSpec := { name := "flowApart", fn := fun _ => fun
  | [d1, d2, d3] => { results := [.lit (.bool false)], args := [d1, d2, d3] }
  | _ => none }
def FlowApartWrongFalsely : Prop := flowApartRow.holds Try.pinned (OpenSpec.ofChange flowApartWrong)

/-- 'decoupagelaw14.FlowSums': WHATEVER THE INPUT: true; the input reads as it did. -/
def flowSumsSpec : ChangeSpec := { name := "flowSums", fn := fun _ => fun
  | [d1, d2, d3, d4, d5] => { results := [.lit (.bool true)], args := [d1, d2, d3, d4, d5] }
  | _ => none }
def flowSumsRow : OpenClaim := { program := "ytnaoehbodmiekaa", sum := "eff22bbaa7fe78ff2b7ac1bc88cc65a9d6f148ba249804fb0994a7a0dd5e19c8", func := "decoupage/decoupagelaw14.FlowSums", spec := "flowSums", inPlace := ["slices.overlaps[int]"], unfollowed := true, recurses := true, apart := false }
def FlowSumsSaid : Prop := flowSumsRow.holds Try.pinned (OpenSpec.ofChange flowSumsSpec)

/-- ITS FALSE NEIGHBOUR: 'it returns false'. Refute it at one input. -/
def flowSumsWrong : ChangeSpec := { name := "flowSums", fn := fun _ => fun
  | [d1, d2, d3, d4, d5] => { results := [.lit (.bool false)], args := [d1, d2, d3, d4, d5] }
  | _ => none }
def FlowSumsWrongFalsely : Prop := flowSumsRow.holds Try.pinned (OpenSpec.ofChange flowSumsWrong)

/-- 'decoupagelaw14.FlowNone': WHATEVER THE INPUT: true; the input reads as it did. -/
def flowNoneSpec : ChangeSpec := { name := "flowNone", fn := fun _ => fun
  | [d1, d2, d3, d4] => { results := [.lit (.bool true)], args := [d1, d2, d3, d4] }
  | _ => none }
def flowNoneRow : OpenClaim := { program := "ytnaoehbodmiekaa", sum := "eff22bbaa7fe78ff2b7ac1bc88cc65a9d6f148ba249804fb0994a7a0dd5e19c8", func := "decoupage/decoupagelaw14.FlowNone", spec := "flowNone", inPlace := ["slices.overlaps[int]"], unfollowed := true, recurses := true, apart := false }
def FlowNoneSaid : Prop := flowNoneRow.holds Try.pinned (OpenSpec.ofChange flowNoneSpec)

/-- ITS FALSE NEIGHBOUR: 'it returns false'. Refute it at one input. -/
def flowNoneWrong : ChangeSpec := { name := "flowNone", fn := fun _ => fun
  | [d1, d2, d3, d4] => { results := [.lit (.bool false)], args := [d1, d2, d3, d4] }
  | _ => none }
def FlowNoneWrongFalsely : Prop := flowNoneRow.holds Try.pinned (OpenSpec.ofChange flowNoneWrong)

/-- 'decoupagelaw19.PlaceAsked': WHATEVER THE INPUT: true; the input reads as it did. -/
def placeAskedSpec : ChangeSpec := { name := "placeAsked", fn := fun _ => fun
  | [d] => { results := [.lit (.bool true)], args := [d] }
  | _ => none }
def placeAskedRow : OpenClaim := { program := "ytnaoehbodmiekaa", sum := "eff22bbaa7fe78ff2b7ac1bc88cc65a9d6f148ba249804fb0994a7a0dd5e19c8", func := "decoupage/decoupagelaw19.PlaceAsked", spec := "placeAsked", inPlace := ["slices.overlaps[int]"], unfollowed := true, recurses := true, apart := false }
def PlaceAskedSaid : Prop := placeAskedRow.holds Try.pinned (OpenSpec.ofChange placeAskedSpec)

/-- ITS FALSE NEIGHBOUR: 'it returns false'. Refute it at one input. -/
def placeAskedWrong : ChangeSpec := { name := "placeAsked", fn := fun _ => fun
  | [d] => { results := [.lit (.bool false)], args := [d] }
  | _ => none }
def PlaceAskedWrongFalsely : Prop := placeAskedRow.holds Try.pinned (OpenSpec.ofChange placeAskedWrong)

/- THE SECOND FORM. 'bulk': how many values and letters a reading holds, each counted each time it is reached (what is shared counts as often as it is met; a slice's spare places count too). A statement '..UptoSaid' is the law's where the arguments, and the package variables that the reading takes, are together of bulk at most 1048576: NARROWER than '..Said'. Prove '..Said' where nothing that the law and all that it calls make is longer than what came in: it says more and counts as full. Else prove '..UptoSaid'. A law counts once. -/
mutual
def uptoBulk {H : Type} : DataW H → Nat
  | .lit (.string bytes) => bytes.length + 1
  | .lit _ => 1
  | .nil => 1
  | .ptr d => uptoBulk d + 1
  | .slice elems spare => uptoBulkAll elems + uptoBulkAll spare + 1
  | .agg parts => uptoBulkAll parts + 1
  | .iface _ d => uptoBulk d + 1
  | .map entries => uptoBulkEntries entries + 1
  | .held _ => 1
def uptoBulkAll {H : Type} : List (DataW H) → Nat
  | [] => 0
  | d :: r => uptoBulk d + uptoBulkAll r
def uptoBulkEntries {H : Type} : List (Lit × DataW H) → Nat
  | [] => 0
  | x :: r => uptoBulkEntry x + uptoBulkEntries r
def uptoBulkEntry {H : Type} : Lit × DataW H → Nat
  | (.string bytes, d) => bytes.length + uptoBulk d + 1
  | (_, d) => uptoBulk d + 1
 end
def uptoSmall : (H : Type) → List (DataW H) → Bool := fun _ ds => decide (uptoBulkAll ds ≤ 1048576)
def OpenSpec.upto (s : _root_.Go.ChangeSpec) : _root_.Go.OpenSpec := { _root_.Go.OpenSpec.ofChange s with cond := some uptoSmall }

/-- 'decoupagelaw14.FlowApart', WHERE WHAT IT READS IS OF BULK AT MOST 1048576: true; the input reads as it did. -/
def flowApartUptoRow : OpenClaim := { program := "ytnaoehbodmiekaa", sum := "eff22bbaa7fe78ff2b7ac1bc88cc65a9d6f148ba249804fb0994a7a0dd5e19c8", func := "decoupage/decoupagelaw14.FlowApart", spec := "flowApart", inPlace := ["slices.overlaps[int]"], unfollowed := true, recurses := true, apart := false, narrowed := true }
def FlowApartUptoSaid : Prop := flowApartUptoRow.holds Try.pinned (OpenSpec.upto flowApartSpec)

/-- 'decoupagelaw14.FlowSums', WHERE WHAT IT READS IS OF BULK AT MOST 1048576: true; the input reads as it did. -/
def flowSumsUptoRow : OpenClaim := { program := "ytnaoehbodmiekaa", sum := "eff22bbaa7fe78ff2b7ac1bc88cc65a9d6f148ba249804fb0994a7a0dd5e19c8", func := "decoupage/decoupagelaw14.FlowSums", spec := "flowSums", inPlace := ["slices.overlaps[int]"], unfollowed := true, recurses := true, apart := false, narrowed := true }
def FlowSumsUptoSaid : Prop := flowSumsUptoRow.holds Try.pinned (OpenSpec.upto flowSumsSpec)

/-- 'decoupagelaw14.FlowNone', WHERE WHAT IT READS IS OF BULK AT MOST 1048576: true; the input reads as it did. -/
def flowNoneUptoRow : OpenClaim := { program := "ytnaoehbodmiekaa", sum := "eff22bbaa7fe78ff2b7ac1bc88cc65a9d6f148ba249804fb0994a7a0dd5e19c8", func := "decoupage/decoupagelaw14.FlowNone", spec := "flowNone", inPlace := ["slices.overlaps[int]"], unfollowed := true, recurses := true, apart := false, narrowed := true }
def FlowNoneUptoSaid : Prop := flowNoneUptoRow.holds Try.pinned (OpenSpec.upto flowNoneSpec)

/-- 'decoupagelaw19.PlaceAsked', WHERE WHAT IT READS IS OF BULK AT MOST 1048576: true; the input reads as it did. -/
def placeAskedUptoRow : OpenClaim := { program := "ytnaoehbodmiekaa", sum := "eff22bbaa7fe78ff2b7ac1bc88cc65a9d6f148ba249804fb0994a7a0dd5e19c8", func := "decoupage/decoupagelaw19.PlaceAsked", spec := "placeAsked", inPlace := ["slices.overlaps[int]"], unfollowed := true, recurses := true, apart := false, narrowed := true }
def PlaceAskedUptoSaid : Prop := placeAskedUptoRow.holds Try.pinned (OpenSpec.upto placeAskedSpec)

end Rows
end Go.Proofs.Ytnaoehbodmiekaa
