/-
  No cell of these rows narrows 'for every input' (looked for: loops, veiled, ifaces, maps, wideKeys, modest, calm, conditions, laid).
  DERIVED. THE GIVEN ROWS OF THIS SEAT. 11 by the template 'for every input the law returns true; each argument reads behind the call as it read before'; 0 by the template 'total and deterministic' (their statements: YtiajmaeempoihaaTotals.lean).
  GIVEN WITH THE SEED: the statements are not yours to turn. If you find one false, say at which input.
  Laid BY PROGRAM, IN A SANDBOX (cutbox-rows.mjs): the forced cells as the released guide's own fill.sh prints them over the translation 8e430ce8b96c0008… (all of the seat's roots in one cut). By AI agents, Wed Nov 11 2026. No macro, syntax, notation, axiom, sorry.
-/
import Derived.Test.YtiajmaeempoihaaChecked
import GoSem.Claim
import GoSem.ClaimJoined
import GoSem.ClaimMapViews
import Derived.JoinedTies
import Derived.KernelRfl
namespace Go.Proofs.Ytiajmaeempoihaa
/- THE CELL 'sum', in the pinned program and in every row, IS THE sha256 OF THE DUMP (.gsa) THAT YtiajmaeempoihaaProg.lean LOADS. Nothing in Lean hashes anything: it is a label: what it is worth is what the hold of that sum in a sandbox is worth. -/
noncomputable def Try.pinned : Pinned := { name := "ytiajmaeempoihaa", sum := "8e430ce8b96c0008bf60ff7d4cd176e13a5aaec5e0a8a23ddc3f389c243d4a5e", checked := Try.checked }
namespace Rows
def none {H : Type} : Left H := { results := [], args := [] }

/-- 'decoupagelaw22.ClipTells': WHATEVER THE INPUT: true; the input reads as it did. -/
def clipTellsSpec : ChangeSpec := { name := "clipTells", fn := fun _ => fun
  | [d1, d2, d3] => { results := [.lit (.bool true)], args := [d1, d2, d3] }
  | _ => none }
def clipTellsRow : OpenClaim := { program := "ytiajmaeempoihaa", sum := "8e430ce8b96c0008bf60ff7d4cd176e13a5aaec5e0a8a23ddc3f389c243d4a5e", func := "decoupage/decoupagelaw22.ClipTells", spec := "clipTells", unfollowed := true, recurses := true, apart := false }
def ClipTellsSaid : Prop := clipTellsRow.holds Try.pinned (OpenSpec.ofChange clipTellsSpec)

/-- ITS FALSE NEIGHBOUR: 'it returns false'. Refute it at one input. -/
def clipTellsWrong : ChangeSpec := { name := "clipTells", fn := fun _ => fun
  | [d1, d2, d3] => { results := [.lit (.bool false)], args := [d1, d2, d3] }
  | _ => none }
def ClipTellsWrongFalsely : Prop := clipTellsRow.holds Try.pinned (OpenSpec.ofChange clipTellsWrong)

/-- 'decoupagelaw22.ClipNone': WHATEVER THE INPUT: true; the input reads as it did. -/
def clipNoneSpec : ChangeSpec := { name := "clipNone", fn := fun _ => fun
  | [d1, d2] => { results := [.lit (.bool true)], args := [d1, d2] }
  | _ => none }
def clipNoneRow : OpenClaim := { program := "ytiajmaeempoihaa", sum := "8e430ce8b96c0008bf60ff7d4cd176e13a5aaec5e0a8a23ddc3f389c243d4a5e", func := "decoupage/decoupagelaw22.ClipNone", spec := "clipNone", unfollowed := true, recurses := true, apart := false }
def ClipNoneSaid : Prop := clipNoneRow.holds Try.pinned (OpenSpec.ofChange clipNoneSpec)

/-- ITS FALSE NEIGHBOUR: 'it returns false'. Refute it at one input. -/
def clipNoneWrong : ChangeSpec := { name := "clipNone", fn := fun _ => fun
  | [d1, d2] => { results := [.lit (.bool false)], args := [d1, d2] }
  | _ => none }
def ClipNoneWrongFalsely : Prop := clipNoneRow.holds Try.pinned (OpenSpec.ofChange clipNoneWrong)

/-- 'decoupagelaw22.ClipInside': WHATEVER THE INPUT: true; the input reads as it did. -/
def clipInsideSpec : ChangeSpec := { name := "clipInside", fn := fun _ => fun
  | [d1, d2, d3] => { results := [.lit (.bool true)], args := [d1, d2, d3] }
  | _ => none }
def clipInsideRow : OpenClaim := { program := "ytiajmaeempoihaa", sum := "8e430ce8b96c0008bf60ff7d4cd176e13a5aaec5e0a8a23ddc3f389c243d4a5e", func := "decoupage/decoupagelaw22.ClipInside", spec := "clipInside", unfollowed := true, recurses := true, apart := false }
def ClipInsideSaid : Prop := clipInsideRow.holds Try.pinned (OpenSpec.ofChange clipInsideSpec)

/-- ITS FALSE NEIGHBOUR: 'it returns false'. Refute it at one input. -/
def clipInsideWrong : ChangeSpec := { name := "clipInside", fn := fun _ => fun
  | [d1, d2, d3] => { results := [.lit (.bool false)], args := [d1, d2, d3] }
  | _ => none }
def ClipInsideWrongFalsely : Prop := clipInsideRow.holds Try.pinned (OpenSpec.ofChange clipInsideWrong)

/-- 'decoupagelaw32.EditApplies': WHATEVER THE INPUT: true; the input reads as it did. -/
def editAppliesSpec : ChangeSpec := { name := "editApplies", fn := fun _ => fun
  | [d1, d2] => { results := [.lit (.bool true)], args := [d1, d2] }
  | _ => none }
def editAppliesRow : OpenClaim := { program := "ytiajmaeempoihaa", sum := "8e430ce8b96c0008bf60ff7d4cd176e13a5aaec5e0a8a23ddc3f389c243d4a5e", func := "decoupage/decoupagelaw32.EditApplies", spec := "editApplies", unfollowed := true, recurses := true, apart := false }
def EditAppliesSaid : Prop := editAppliesRow.holds Try.pinned (OpenSpec.ofChange editAppliesSpec)

/-- ITS FALSE NEIGHBOUR: 'it returns false'. Refute it at one input. -/
def editAppliesWrong : ChangeSpec := { name := "editApplies", fn := fun _ => fun
  | [d1, d2] => { results := [.lit (.bool false)], args := [d1, d2] }
  | _ => none }
def EditAppliesWrongFalsely : Prop := editAppliesRow.holds Try.pinned (OpenSpec.ofChange editAppliesWrong)

/-- 'decoupagelaw32.EditSpans': WHATEVER THE INPUT: true; the input reads as it did. -/
def editSpansSpec : ChangeSpec := { name := "editSpans", fn := fun _ => fun
  | [d1, d2] => { results := [.lit (.bool true)], args := [d1, d2] }
  | _ => none }
def editSpansRow : OpenClaim := { program := "ytiajmaeempoihaa", sum := "8e430ce8b96c0008bf60ff7d4cd176e13a5aaec5e0a8a23ddc3f389c243d4a5e", func := "decoupage/decoupagelaw32.EditSpans", spec := "editSpans", unfollowed := true, recurses := true, apart := false }
def EditSpansSaid : Prop := editSpansRow.holds Try.pinned (OpenSpec.ofChange editSpansSpec)

/-- ITS FALSE NEIGHBOUR: 'it returns false'. Refute it at one input. -/
def editSpansWrong : ChangeSpec := { name := "editSpans", fn := fun _ => fun
  | [d1, d2] => { results := [.lit (.bool false)], args := [d1, d2] }
  | _ => none }
def EditSpansWrongFalsely : Prop := editSpansRow.holds Try.pinned (OpenSpec.ofChange editSpansWrong)

/-- 'decoupagelaw32.EditPuts': WHATEVER THE INPUT: true; the input reads as it did. -/
def editPutsSpec : ChangeSpec := { name := "editPuts", fn := fun _ => fun
  | [d1, d2, d3, d4] => { results := [.lit (.bool true)], args := [d1, d2, d3, d4] }
  | _ => none }
def editPutsRow : OpenClaim := { program := "ytiajmaeempoihaa", sum := "8e430ce8b96c0008bf60ff7d4cd176e13a5aaec5e0a8a23ddc3f389c243d4a5e", func := "decoupage/decoupagelaw32.EditPuts", spec := "editPuts", unfollowed := true, recurses := true, apart := false }
def EditPutsSaid : Prop := editPutsRow.holds Try.pinned (OpenSpec.ofChange editPutsSpec)

/-- ITS FALSE NEIGHBOUR: 'it returns false'. Refute it at one input. -/
def editPutsWrong : ChangeSpec := { name := "editPuts", fn := fun _ => fun
  | [d1, d2, d3, d4] => { results := [.lit (.bool false)], args := [d1, d2, d3, d4] }
  | _ => none }
def EditPutsWrongFalsely : Prop := editPutsRow.holds Try.pinned (OpenSpec.ofChange editPutsWrong)

/-- 'decoupagelaw32.EditMoves': WHATEVER THE INPUT: true; the input reads as it did. -/
def editMovesSpec : ChangeSpec := { name := "editMoves", fn := fun _ => fun
  | [d1, d2, d3, d4] => { results := [.lit (.bool true)], args := [d1, d2, d3, d4] }
  | _ => none }
def editMovesRow : OpenClaim := { program := "ytiajmaeempoihaa", sum := "8e430ce8b96c0008bf60ff7d4cd176e13a5aaec5e0a8a23ddc3f389c243d4a5e", func := "decoupage/decoupagelaw32.EditMoves", spec := "editMoves", unfollowed := true, recurses := true, apart := false }
def EditMovesSaid : Prop := editMovesRow.holds Try.pinned (OpenSpec.ofChange editMovesSpec)

/-- ITS FALSE NEIGHBOUR: 'it returns false'. Refute it at one input. -/
def editMovesWrong : ChangeSpec := { name := "editMoves", fn := fun _ => fun
  | [d1, d2, d3, d4] => { results := [.lit (.bool false)], args := [d1, d2, d3, d4] }
  | _ => none }
def EditMovesWrongFalsely : Prop := editMovesRow.holds Try.pinned (OpenSpec.ofChange editMovesWrong)

/-- 'decoupagelaw32.EditStyles': WHATEVER THE INPUT: true; the input reads as it did. -/
def editStylesSpec : ChangeSpec := { name := "editStyles", fn := fun _ => fun
  | [d1, d2, d3, d4] => { results := [.lit (.bool true)], args := [d1, d2, d3, d4] }
  | _ => none }
def editStylesRow : OpenClaim := { program := "ytiajmaeempoihaa", sum := "8e430ce8b96c0008bf60ff7d4cd176e13a5aaec5e0a8a23ddc3f389c243d4a5e", func := "decoupage/decoupagelaw32.EditStyles", spec := "editStyles", unfollowed := true, recurses := true, apart := false }
def EditStylesSaid : Prop := editStylesRow.holds Try.pinned (OpenSpec.ofChange editStylesSpec)

/-- ITS FALSE NEIGHBOUR: 'it returns false'. Refute it at one input. -/
def editStylesWrong : ChangeSpec := { name := "editStyles", fn := fun _ => fun
  | [d1, d2, d3, d4] => { results := [.lit (.bool false)], args := [d1, d2, d3, d4] }
  | _ => none }
def EditStylesWrongFalsely : Prop := editStylesRow.holds Try.pinned (OpenSpec.ofChange editStylesWrong)

/-- 'decoupagelaw25.PaintTells': WHATEVER THE INPUT: true; the input reads as it did. -/
def paintTellsSpec : ChangeSpec := { name := "paintTells", fn := fun _ => fun
  | [d1, d2, d3] => { results := [.lit (.bool true)], args := [d1, d2, d3] }
  | _ => none }
def paintTellsRow : OpenClaim := { program := "ytiajmaeempoihaa", sum := "8e430ce8b96c0008bf60ff7d4cd176e13a5aaec5e0a8a23ddc3f389c243d4a5e", func := "decoupage/decoupagelaw25.PaintTells", spec := "paintTells", unfollowed := true, recurses := true, apart := false }
def PaintTellsSaid : Prop := paintTellsRow.holds Try.pinned (OpenSpec.ofChange paintTellsSpec)

/-- ITS FALSE NEIGHBOUR: 'it returns false'. Refute it at one input. -/
def paintTellsWrong : ChangeSpec := { name := "paintTells", fn := fun _ => fun
  | [d1, d2, d3] => { results := [.lit (.bool false)], args := [d1, d2, d3] }
  | _ => none }
def PaintTellsWrongFalsely : Prop := paintTellsRow.holds Try.pinned (OpenSpec.ofChange paintTellsWrong)

/-- 'decoupagelaw25.PaintOnce': WHATEVER THE INPUT: true; the input reads as it did. -/
def paintOnceSpec : ChangeSpec := { name := "paintOnce", fn := fun _ => fun
  | [d] => { results := [.lit (.bool true)], args := [d] }
  | _ => none }
def paintOnceRow : OpenClaim := { program := "ytiajmaeempoihaa", sum := "8e430ce8b96c0008bf60ff7d4cd176e13a5aaec5e0a8a23ddc3f389c243d4a5e", func := "decoupage/decoupagelaw25.PaintOnce", spec := "paintOnce", unfollowed := true, recurses := true, apart := false }
def PaintOnceSaid : Prop := paintOnceRow.holds Try.pinned (OpenSpec.ofChange paintOnceSpec)

/-- ITS FALSE NEIGHBOUR: 'it returns false'. Refute it at one input. -/
def paintOnceWrong : ChangeSpec := { name := "paintOnce", fn := fun _ => fun
  | [d] => { results := [.lit (.bool false)], args := [d] }
  | _ => none }
def PaintOnceWrongFalsely : Prop := paintOnceRow.holds Try.pinned (OpenSpec.ofChange paintOnceWrong)

/-- 'decoupagelaw25.PaintOrders': WHATEVER THE INPUT: true; the input reads as it did. -/
def paintOrdersSpec : ChangeSpec := { name := "paintOrders", fn := fun _ => fun
  | [d] => { results := [.lit (.bool true)], args := [d] }
  | _ => none }
def paintOrdersRow : OpenClaim := { program := "ytiajmaeempoihaa", sum := "8e430ce8b96c0008bf60ff7d4cd176e13a5aaec5e0a8a23ddc3f389c243d4a5e", func := "decoupage/decoupagelaw25.PaintOrders", spec := "paintOrders", unfollowed := true, recurses := true, apart := false }
def PaintOrdersSaid : Prop := paintOrdersRow.holds Try.pinned (OpenSpec.ofChange paintOrdersSpec)

/-- ITS FALSE NEIGHBOUR: 'it returns false'. Refute it at one input. -/
def paintOrdersWrong : ChangeSpec := { name := "paintOrders", fn := fun _ => fun
  | [d] => { results := [.lit (.bool false)], args := [d] }
  | _ => none }
def PaintOrdersWrongFalsely : Prop := paintOrdersRow.holds Try.pinned (OpenSpec.ofChange paintOrdersWrong)

/- THE SECOND FORM. 'bulk': how many values and letters a reading holds, each counted each time it is reached (what is shared counts as often as it is met; a slice's spare places count too). A statement '..UptoSaid' is the law's where the arguments, and the package variables that the reading takes, are together of bulk at most 1048576: NARROWER than '..Said'. Prove '..Said' where nothing that the law and all that it calls make is longer than what came in: it says more and counts as full. Else prove '..UptoSaid'. A law counts once. -/
mutual
def uptoBulk {H : Type} : DataW H → Nat
  | .lit (.string bytes) => bytes.length + 1
  | .lit _ => 1
  | .nil => 1
  | .ptr d => uptoBulk d + 1
  | .slice elems spare => uptoBulkAll elems + uptoBulkAll spare + 1
  | .agg parts => uptoBulkAll parts + 1
  | .iface _ d => uptoBulk d + 1
  | .map entries => uptoBulkEntries entries + 1
  | .held _ => 1
def uptoBulkAll {H : Type} : List (DataW H) → Nat
  | [] => 0
  | d :: r => uptoBulk d + uptoBulkAll r
def uptoBulkEntries {H : Type} : List (Lit × DataW H) → Nat
  | [] => 0
  | x :: r => uptoBulkEntry x + uptoBulkEntries r
def uptoBulkEntry {H : Type} : Lit × DataW H → Nat
  | (.string bytes, d) => bytes.length + uptoBulk d + 1
  | (_, d) => uptoBulk d + 1
 end
def uptoSmall : (H : Type) → List (DataW H) → Bool := fun _ ds => decide (uptoBulkAll ds ≤ 1048576)
def OpenSpec.upto (s : _root_.Go.ChangeSpec) : _root_.Go.OpenSpec := { _root_.Go.OpenSpec.ofChange s with cond := some uptoSmall }

/-- 'decoupagelaw22.ClipTells', WHERE WHAT IT READS IS OF BULK AT MOST 1048576: true; the input reads as it did. -/
def clipTellsUptoRow : OpenClaim := { program := "ytiajmaeempoihaa", sum := "8e430ce8b96c0008bf60ff7d4cd176e13a5aaec5e0a8a23ddc3f389c243d4a5e", func := "decoupage/decoupagelaw22.ClipTells", spec := "clipTells", unfollowed := true, recurses := true, apart := false, narrowed := true }
def ClipTellsUptoSaid : Prop := clipTellsUptoRow.holds Try.pinned (OpenSpec.upto clipTellsSpec)

/-- 'decoupagelaw22.ClipNone', WHERE WHAT IT READS IS OF BULK AT MOST 1048576: true; the input reads as it did. -/
def clipNoneUptoRow : OpenClaim := { program := "ytiajmaeempoihaa", sum := "8e430ce8b96c0008bf60ff7d4cd176e13a5aaec5e0a8a23ddc3f389c243d4a5e", func := "decoupage/decoupagelaw22.ClipNone", spec := "clipNone", unfollowed := true, recurses := true, apart := false, narrowed := true }
def ClipNoneUptoSaid : Prop := clipNoneUptoRow.holds Try.pinned (OpenSpec.upto clipNoneSpec)

/-- 'decoupagelaw22.ClipInside', WHERE WHAT IT READS IS OF BULK AT MOST 1048576: true; the input reads as it did. -/
def clipInsideUptoRow : OpenClaim := { program := "ytiajmaeempoihaa", sum := "8e430ce8b96c0008bf60ff7d4cd176e13a5aaec5e0a8a23ddc3f389c243d4a5e", func := "decoupage/decoupagelaw22.ClipInside", spec := "clipInside", unfollowed := true, recurses := true, apart := false, narrowed := true }
def ClipInsideUptoSaid : Prop := clipInsideUptoRow.holds Try.pinned (OpenSpec.upto clipInsideSpec)

/-- 'decoupagelaw32.EditApplies', WHERE WHAT IT READS IS OF BULK AT MOST 1048576: true; the input reads as it did. -/
def editAppliesUptoRow : OpenClaim := { program := "ytiajmaeempoihaa", sum := "8e430ce8b96c0008bf60ff7d4cd176e13a5aaec5e0a8a23ddc3f389c243d4a5e", func := "decoupage/decoupagelaw32.EditApplies", spec := "editApplies", unfollowed := true, recurses := true, apart := false, narrowed := true }
def EditAppliesUptoSaid : Prop := editAppliesUptoRow.holds Try.pinned (OpenSpec.upto editAppliesSpec)

/-- 'decoupagelaw32.EditSpans', WHERE WHAT IT READS IS OF BULK AT MOST 1048576: true; the input reads as it did. -/
def editSpansUptoRow : OpenClaim := { program := "ytiajmaeempoihaa", sum := "8e430ce8b96c0008bf60ff7d4cd176e13a5aaec5e0a8a23ddc3f389c243d4a5e", func := "decoupage/decoupagelaw32.EditSpans", spec := "editSpans", unfollowed := true, recurses := true, apart := false, narrowed := true }
def EditSpansUptoSaid : Prop := editSpansUptoRow.holds Try.pinned (OpenSpec.upto editSpansSpec)

/-- 'decoupagelaw32.EditPuts', WHERE WHAT IT READS IS OF BULK AT MOST 1048576: true; the input reads as it did. -/
def editPutsUptoRow : OpenClaim := { program := "ytiajmaeempoihaa", sum := "8e430ce8b96c0008bf60ff7d4cd176e13a5aaec5e0a8a23ddc3f389c243d4a5e", func := "decoupage/decoupagelaw32.EditPuts", spec := "editPuts", unfollowed := true, recurses := true, apart := false, narrowed := true }
def EditPutsUptoSaid : Prop := editPutsUptoRow.holds Try.pinned (OpenSpec.upto editPutsSpec)

/-- 'decoupagelaw32.EditMoves', WHERE WHAT IT READS IS OF BULK AT MOST 1048576: true; the input reads as it did. -/
def editMovesUptoRow : OpenClaim := { program := "ytiajmaeempoihaa", sum := "8e430ce8b96c0008bf60ff7d4cd176e13a5aaec5e0a8a23ddc3f389c243d4a5e", func := "decoupage/decoupagelaw32.EditMoves", spec := "editMoves", unfollowed := true, recurses := true, apart := false, narrowed := true }
def EditMovesUptoSaid : Prop := editMovesUptoRow.holds Try.pinned (OpenSpec.upto editMovesSpec)

/-- 'decoupagelaw32.EditStyles', WHERE WHAT IT READS IS OF BULK AT MOST 1048576: true; the input reads as it did. -/
def editStylesUptoRow : OpenClaim := { program := "ytiajmaeempoihaa", sum := "8e430ce8b96c0008bf60ff7d4cd176e13a5aaec5e0a8a23ddc3f389c243d4a5e", func := "decoupage/decoupagelaw32.EditStyles", spec := "editStyles", unfollowed := true, recurses := true, apart := false, narrowed := true }
def EditStylesUptoSaid : Prop := editStylesUptoRow.holds Try.pinned (OpenSpec.upto editStylesSpec)

/-- 'decoupagelaw25.PaintTells', WHERE WHAT IT READS IS OF BULK AT MOST 1048576: true; the input reads as it did. -/
def paintTellsUptoRow : OpenClaim := { program := "ytiajmaeempoihaa", sum := "8e430ce8b96c0008bf60ff7d4cd176e13a5aaec5e0a8a23ddc3f389c243d4a5e", func := "decoupage/decoupagelaw25.PaintTells", spec := "paintTells", unfollowed := true, recurses := true, apart := false, narrowed := true }
def PaintTellsUptoSaid : Prop := paintTellsUptoRow.holds Try.pinned (OpenSpec.upto paintTellsSpec)

/-- 'decoupagelaw25.PaintOnce', WHERE WHAT IT READS IS OF BULK AT MOST 1048576: true; the input reads as it did. -/
def paintOnceUptoRow : OpenClaim := { program := "ytiajmaeempoihaa", sum := "8e430ce8b96c0008bf60ff7d4cd176e13a5aaec5e0a8a23ddc3f389c243d4a5e", func := "decoupage/decoupagelaw25.PaintOnce", spec := "paintOnce", unfollowed := true, recurses := true, apart := false, narrowed := true }
def PaintOnceUptoSaid : Prop := paintOnceUptoRow.holds Try.pinned (OpenSpec.upto paintOnceSpec)

/-- 'decoupagelaw25.PaintOrders', WHERE WHAT IT READS IS OF BULK AT MOST 1048576: true; the input reads as it did. -/
def paintOrdersUptoRow : OpenClaim := { program := "ytiajmaeempoihaa", sum := "8e430ce8b96c0008bf60ff7d4cd176e13a5aaec5e0a8a23ddc3f389c243d4a5e", func := "decoupage/decoupagelaw25.PaintOrders", spec := "paintOrders", unfollowed := true, recurses := true, apart := false, narrowed := true }
def PaintOrdersUptoSaid : Prop := paintOrdersUptoRow.holds Try.pinned (OpenSpec.upto paintOrdersSpec)

end Rows
end Go.Proofs.Ytiajmaeempoihaa
