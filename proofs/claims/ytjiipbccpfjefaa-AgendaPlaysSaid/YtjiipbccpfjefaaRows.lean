/-
  No cell of these rows narrows 'for every input' (looked for: loops, veiled, ifaces, maps, wideKeys, modest, calm, conditions, laid).
  DERIVED. THE GIVEN ROWS OF THIS SEAT. 4 by the template 'for every input the law returns true; each argument reads behind the call as it read before'; 0 by the template 'total and deterministic' (their statements: YtjiipbccpfjefaaTotals.lean).
  GIVEN WITH THE SEED: the statements are not yours to turn. If you find one false, say at which input.
  Laid BY PROGRAM, IN A SANDBOX (cutbox-rows.mjs): the forced cells as the released guide's own fill.sh prints them over the translation 7528d17b9c5cc43f… (all of the seat's roots in one cut). By AI agents, Wed Nov 11 2026. No macro, syntax, notation, axiom, sorry.
-/
import Derived.Test.YtjiipbccpfjefaaChecked
import GoSem.Claim
import GoSem.ClaimJoined
import GoSem.ClaimMapViews
import Derived.JoinedTies
import Derived.KernelRfl
namespace Go.Proofs.Ytjiipbccpfjefaa
/- THE CELL 'sum', in the pinned program and in every row, IS THE sha256 OF THE DUMP (.gsa) THAT YtjiipbccpfjefaaProg.lean LOADS. Nothing in Lean hashes anything: it is a label: what it is worth is what the hold of that sum in a sandbox is worth. -/
noncomputable def Try.pinned : Pinned := { name := "ytjiipbccpfjefaa", sum := "7528d17b9c5cc43fd87b880423987f97046c9faa5ed5ae22127ef4223b16dd5d", checked := Try.checked }
namespace Rows
def none {H : Type} : Left H := { results := [], args := [] }

/-- 'decoupagelaw04.AgendaOrders': WHATEVER THE INPUT: true; the input reads as it did. -/
def agendaOrdersSpec : ChangeSpec := { name := "agendaOrders", fn := fun _ => fun
  | [d1, d2, d3] => { results := [.lit (.bool true)], args := [d1, d2, d3] }
  | _ => none }
def agendaOrdersRow : OpenClaim := { program := "ytjiipbccpfjefaa", sum := "7528d17b9c5cc43fd87b880423987f97046c9faa5ed5ae22127ef4223b16dd5d", func := "decoupage/decoupagelaw04.AgendaOrders", spec := "agendaOrders", unfollowed := true, recurses := true, apart := false }
def AgendaOrdersSaid : Prop := agendaOrdersRow.holds Try.pinned (OpenSpec.ofChange agendaOrdersSpec)

/-- ITS FALSE NEIGHBOUR: 'it returns false'. Refute it at one input. -/
def agendaOrdersWrong : ChangeSpec := { name := "agendaOrders", fn := fun _ => fun
  | [d1, d2, d3] => { results := [.lit (.bool false)], args := [d1, d2, d3] }
  | _ => none }
def AgendaOrdersWrongFalsely : Prop := agendaOrdersRow.holds Try.pinned (OpenSpec.ofChange agendaOrdersWrong)

/-- 'decoupagelaw04.AgendaPlays': WHATEVER THE INPUT: true; the input reads as it did. -/
def agendaPlaysSpec : ChangeSpec := { name := "agendaPlays", fn := fun _ => fun
  | [d] => { results := [.lit (.bool true)], args := [d] }
  | _ => none }
def agendaPlaysRow : OpenClaim := { program := "ytjiipbccpfjefaa", sum := "7528d17b9c5cc43fd87b880423987f97046c9faa5ed5ae22127ef4223b16dd5d", func := "decoupage/decoupagelaw04.AgendaPlays", spec := "agendaPlays", unfollowed := true, recurses := true, apart := false }
def AgendaPlaysSaid : Prop := agendaPlaysRow.holds Try.pinned (OpenSpec.ofChange agendaPlaysSpec)

/-- ITS FALSE NEIGHBOUR: 'it returns false'. Refute it at one input. -/
def agendaPlaysWrong : ChangeSpec := { name := "agendaPlays", fn := fun _ => fun
  | [d] => { results := [.lit (.bool false)], args := [d] }
  | _ => none }
def AgendaPlaysWrongFalsely : Prop := agendaPlaysRow.holds Try.pinned (OpenSpec.ofChange agendaPlaysWrong)

/-- 'decoupagelaw04.AgendaSorts': WHATEVER THE INPUT: true; the input reads as it did. -/
def agendaSortsSpec : ChangeSpec := { name := "agendaSorts", fn := fun _ => fun
  | [d] => { results := [.lit (.bool true)], args := [d] }
  | _ => none }
def agendaSortsRow : OpenClaim := { program := "ytjiipbccpfjefaa", sum := "7528d17b9c5cc43fd87b880423987f97046c9faa5ed5ae22127ef4223b16dd5d", func := "decoupage/decoupagelaw04.AgendaSorts", spec := "agendaSorts", unfollowed := true, recurses := true, apart := false }
def AgendaSortsSaid : Prop := agendaSortsRow.holds Try.pinned (OpenSpec.ofChange agendaSortsSpec)

/-- ITS FALSE NEIGHBOUR: 'it returns false'. Refute it at one input. -/
def agendaSortsWrong : ChangeSpec := { name := "agendaSorts", fn := fun _ => fun
  | [d] => { results := [.lit (.bool false)], args := [d] }
  | _ => none }
def AgendaSortsWrongFalsely : Prop := agendaSortsRow.holds Try.pinned (OpenSpec.ofChange agendaSortsWrong)

/-- 'decoupagelaw04.AgendaNil': WHATEVER THE INPUT: true; the input reads as it did. -/
def agendaNilSpec : ChangeSpec := { name := "agendaNil", fn := fun _ => fun
  | [d] => { results := [.lit (.bool true)], args := [d] }
  | _ => none }
def agendaNilRow : OpenClaim := { program := "ytjiipbccpfjefaa", sum := "7528d17b9c5cc43fd87b880423987f97046c9faa5ed5ae22127ef4223b16dd5d", func := "decoupage/decoupagelaw04.AgendaNil", spec := "agendaNil", unfollowed := true, recurses := true, apart := false }
def AgendaNilSaid : Prop := agendaNilRow.holds Try.pinned (OpenSpec.ofChange agendaNilSpec)

/-- ITS FALSE NEIGHBOUR: 'it returns false'. Refute it at one input. -/
def agendaNilWrong : ChangeSpec := { name := "agendaNil", fn := fun _ => fun
  | [d] => { results := [.lit (.bool false)], args := [d] }
  | _ => none }
def AgendaNilWrongFalsely : Prop := agendaNilRow.holds Try.pinned (OpenSpec.ofChange agendaNilWrong)

/- THE SECOND FORM. 'bulk': how many values and letters a reading holds, each counted each time it is reached (what is shared counts as often as it is met; a slice's spare places count too). A statement '..UptoSaid' is the law's where the arguments, and the package variables that the reading takes, are together of bulk at most 1048576: NARROWER than '..Said'. Prove '..Said' where nothing that the law and all that it calls make is longer than what came in: it says more and counts as full. Else prove '..UptoSaid'. A law counts once. -/
mutual
def uptoBulk {H : Type} : DataW H → Nat
  | .lit (.string bytes) => bytes.length + 1
  | .lit _ => 1
  | .nil => 1
  | .ptr d => uptoBulk d + 1
  | .slice elems spare => uptoBulkAll elems + uptoBulkAll spare + 1
  | .agg parts => uptoBulkAll parts + 1
  | .iface _ d => uptoBulk d + 1
  | .map entries => uptoBulkEntries entries + 1
  | .held _ => 1
def uptoBulkAll {H : Type} : List (DataW H) → Nat
  | [] => 0
  | d :: r => uptoBulk d + uptoBulkAll r
def uptoBulkEntries {H : Type} : List (Lit × DataW H) → Nat
  | [] => 0
  | x :: r => uptoBulkEntry x + uptoBulkEntries r
def uptoBulkEntry {H : Type} : Lit × DataW H → Nat
  | (.string bytes, d) => bytes.length + uptoBulk d + 1
  | (_, d) => uptoBulk d + 1
 end
def uptoSmall : (H : Type) → List (DataW H) → Bool := fun _ ds => decide (uptoBulkAll ds ≤ 1048576)
def OpenSpec.upto (s : _root_.Go.ChangeSpec) : _root_.Go.OpenSpec := { _root_.Go.OpenSpec.ofChange s with cond := some uptoSmall }

/-- 'decoupagelaw04.AgendaOrders', WHERE WHAT IT READS IS OF BULK AT MOST 1048576: true; the input reads as it did. -/
def agendaOrdersUptoRow : OpenClaim := { program := "ytjiipbccpfjefaa", sum := "7528d17b9c5cc43fd87b880423987f97046c9faa5ed5ae22127ef4223b16dd5d", func := "decoupage/decoupagelaw04.AgendaOrders", spec := "agendaOrders", unfollowed := true, recurses := true, apart := false, narrowed := true }
def AgendaOrdersUptoSaid : Prop := agendaOrdersUptoRow.holds Try.pinned (OpenSpec.upto agendaOrdersSpec)

/-- 'decoupagelaw04.AgendaPlays', WHERE WHAT IT READS IS OF BULK AT MOST 1048576: true; the input reads as it did. -/
def agendaPlaysUptoRow : OpenClaim := { program := "ytjiipbccpfjefaa", sum := "7528d17b9c5cc43fd87b880423987f97046c9faa5ed5ae22127ef4223b16dd5d", func := "decoupage/decoupagelaw04.AgendaPlays", spec := "agendaPlays", unfollowed := true, recurses := true, apart := false, narrowed := true }
def AgendaPlaysUptoSaid : Prop := agendaPlaysUptoRow.holds Try.pinned (OpenSpec.upto agendaPlaysSpec)

/-- 'decoupagelaw04.AgendaSorts', WHERE WHAT IT READS IS OF BULK AT MOST 1048576: true; the input reads as it did. -/
def agendaSortsUptoRow : OpenClaim := { program := "ytjiipbccpfjefaa", sum := "7528d17b9c5cc43fd87b880423987f97046c9faa5ed5ae22127ef4223b16dd5d", func := "decoupage/decoupagelaw04.AgendaSorts", spec := "agendaSorts", unfollowed := true, recurses := true, apart := false, narrowed := true }
def AgendaSortsUptoSaid : Prop := agendaSortsUptoRow.holds Try.pinned (OpenSpec.upto agendaSortsSpec)

/-- 'decoupagelaw04.AgendaNil', WHERE WHAT IT READS IS OF BULK AT MOST 1048576: true; the input reads as it did. -/
def agendaNilUptoRow : OpenClaim := { program := "ytjiipbccpfjefaa", sum := "7528d17b9c5cc43fd87b880423987f97046c9faa5ed5ae22127ef4223b16dd5d", func := "decoupage/decoupagelaw04.AgendaNil", spec := "agendaNil", unfollowed := true, recurses := true, apart := false, narrowed := true }
def AgendaNilUptoSaid : Prop := agendaNilUptoRow.holds Try.pinned (OpenSpec.upto agendaNilSpec)

end Rows
end Go.Proofs.Ytjiipbccpfjefaa
