/- What an operation does to the engine's values, and that the machine does just this. -/
import Derived.Test.YtjiipbccpfjefaaEngJa
set_option linter.unusedSimpArgs false
set_option linter.unusedVariables false
namespace Go.Eng
open Go

inductive AO where
  | mv | pick
  | alloc (z : List RV) | box
  | build (z : List RV) (ps : List (Nat × Nat))
  | bsl (e : Nat)
  | load (n : Nat) (agg : Bool) | store (n : Nat) | nilchk
  | ibin (op : BinOp) | ishf (op : BinOp) | eqnil (neg : Bool) | eqb (neg : Bool)
  | not | neg | cvi (k : IntKind)
  | mkif (t : TypeId) | mkfn (f : FuncId) | mksl (e bytes : Nat) (z : List RV)
  | slc (e : Nat) (lo hi : Bool)
  | fld (off : Nat) | fldv (off n : Nat) (agg : Bool)
  | ixs (e : Nat) | ixa (len e : Nat) | ixv (len e : Nat) (agg : Bool)
  | len | lens | app (e bytes : Nat) | mx | mn | ext (i : Nat)
  | eqs (neg agg : Bool) (ks : List CK) | eqnilo (neg : Bool) (k : Nat) | sbin (op : BinOp) | tas (t : TypeId) (ok : Bool)
  | call (f : FuncId) | callv | inv (name : String)
  deriving Inhabited

abbrev XR := Option (Prop × SV × Option (Nat × HB) × List Nat)

def upo (hp : Hp) : Option (Nat × HB) → Hp
  | none => hp
  | some (id, hb) => up hp id (some hb)

def loadE (n : Nat) (agg : Bool) (hp : Hp) : SV → XR
  | .ptr id off => match hp id with
    | some (.var cs) => if agg then some (off + n ≤ cs.length, .agg ((cs.drop off).take n), none, [id]) else some (off < cs.length, (cs[off]?).getD .dead, none, [id])
    | _ => none
  | .ept id ver i off => match hp id with
    | some (.row e ver' xs) => if agg then some (ver = ver' ∧ i < xs.length ∧ off + n ≤ e, .agg ((((xs[i]?).getD []).drop off).take n), none, [id]) else some (ver = ver' ∧ i < xs.length ∧ off < e, (((xs[i]?).getD [])[off]?).getD .dead, none, [id])
    | _ => none
  | .rv (.rop cs) => if agg then some (n ≤ cs.length, .agg ((cs.take n).map .rv), none, []) else some (0 < cs.length, .rv ((cs[0]?).getD .nilp), none, [])
  | _ => none

def storeE (n : Nat) (hp : Hp) (p x : SV) : XR := match cellsSV x with
  | none => none
  | some cx => match p with
    | .ptr id off => match hp id with
      | some (.var cs) => some (cx.length = n ∧ off + n ≤ cs.length, .dead, some (id, .var (splice cs off cx)), [id])
      | _ => none
    | .ept id ver i off => match hp id with
      | some (.row e ver' xs) => some (ver = ver' ∧ i < xs.length ∧ cx.length = n ∧ off + n ≤ e, .dead, some (id, .row e ver' (xs.set i (splice ((xs[i]?).getD []) off cx))), [id])
      | _ => none
    | _ => none

def boxE (nx : Nat) (x : SV) : XR := match cellsSV x with
  | some cs => some (True, .ptr nx 0, some (nx, .var cs), [])
  | none => none

/-- Each part is as long as its place. -/
def fits (n : Nat) : List (Nat × Nat) → List (List SV) → Prop
  | [], [] => True
  | (o, k) :: ps, x :: xs => x.length = k ∧ o + k ≤ n ∧ fits n ps xs
  | _, _ => False

def buildE (z : List RV) (ps : List (Nat × Nat)) (xs : List SV) : XR := match cellsAll xs with
  | some cs => match layO (z.map .rv) ps cs with
    | some r => some (fits z.length ps cs, .agg r, none, [])
    | none => none
  | none => none

def allLen (e : Nat) : List (List SV) → Prop
  | [] => True
  | x :: r => x.length = e ∧ allLen e r

def bslE (e nx : Nat) (xs : List SV) : XR := match cellsAll xs with
  | some cs => some (allLen e cs ∧ xs.length * e ≤ 16777216, .row nx 0 xs.length, some (nx, .row e 0 cs), [])
  | none => none

def fldE (off : Nat) (hp : Hp) : SV → XR
  | .ptr id o => match hp id with
    | some (.var _) => some (True, .ptr id (o + off), none, [id])
    | _ => none
  | .ept id ver i o => match hp id with
    | some (.row _ ver' _) => some (ver = ver', .ept id ver i (o + off), none, [id])
    | _ => none
  | .rv (.rop cs) => some (True, .rv (.rop (cs.drop off)), none, [])
  | _ => none

def ixsE (e : Nat) (hp : Hp) (x : SV) (i : Int) : XR := match x with
  | .rv (.sl e' xs) => some (e' = e ∧ 0 ≤ i ∧ i < xs.length, .rv (.rop ((xs[i.toNat]?).getD [])), none, [])
  | .row id ver len => match hp id with
    | some (.row e' ver' _) => some (e' = e ∧ ver = ver' ∧ 0 ≤ i ∧ i < len, .ept id ver i.toNat 0, none, [id])
    | _ => none
  | _ => none

def ixaE (len e : Nat) (hp : Hp) (x : SV) (i : Int) : XR := match x with
  | .ptr id o => match hp id with
    | some (.var _) => some (0 ≤ i ∧ i < len, .ptr id (o + i.toNat * e), none, [id])
    | _ => none
  | .ept id ver i0 o => match hp id with
    | some (.row _ ver' _) => some (ver = ver' ∧ 0 ≤ i ∧ i < len, .ept id ver i0 (o + i.toNat * e), none, [id])
    | _ => none
  | .rv (.rop cs) => some (0 ≤ i ∧ i < len, .rv (.rop (cs.drop (i.toNat * e))), none, [])
  | _ => none

def lenE (hp : Hp) : SV → XR
  | .rv (.sl _ xs) => some (True, .rv (.int .i64 xs.length), none, [])
  | .rv .nilsl => some (True, .rv (.int .i64 0), none, [])
  | .row id ver len => match hp id with
    | some (.row _ ver' _) => some (ver = ver', .rv (.int .i64 len), none, [id])
    | _ => none
  | _ => none

def lensE : SV → XR
  | .rv (.str s) => some (True, .rv (.int .i64 s.size), none, [])
  | _ => none

/-- What is appended. -/
def srcE (e : Nat) (hp : Hp) : SV → Option (Prop × List (List SV) × List Nat)
  | .rv (.sl e' ys) => some (e' = e, ys.map (List.map .rv), [])
  | .rv .nilsl => some (True, [], [])
  | .row id ver len => match hp id with
    | some (.row e' ver' xs) => some (e' = e ∧ ver = ver' ∧ len ≤ xs.length, xs.take len, [id])
    | _ => none
  | _ => none

def appE (e bytes : Nat) (hp : Hp) (nx : Nat) (s x : SV) : XR := match srcE e hp x with
  | none => none
  | some (p, ys, rd) => match s with
    | .rv .nilsl => some (p ∧ ys.length ≤ maxLen ∧ ys.length * bytes ≤ 140737488355328, .row nx 0 ys.length, some (nx, .row e 0 ys), rd)
    | .row id ver len => match hp id with
      | some (.row e' ver' xs) => some (p ∧ e' = e ∧ ver = ver' ∧ len ≤ xs.length ∧ len + ys.length ≤ maxLen ∧ (len + ys.length) * bytes ≤ 140737488355328, .row id (ver + 1) (len + ys.length), some (id, .row e (ver + 1) (xs.take len ++ ys)), id :: rd)
      | _ => none
    | _ => none

def bnd2 : List SV → Option (Option Int × Option Int)
  | [.rv (.int _ l), .rv (.int _ h)] => some (some l, some h)
  | _ => none
def bndL : List SV → Option (Option Int × Option Int)
  | [.rv (.int _ l)] => some (some l, none)
  | _ => none
def bndH : List SV → Option (Option Int × Option Int)
  | [.rv (.int _ h)] => some (none, some h)
  | _ => none
def bnd0 : List SV → Option (Option Int × Option Int)
  | [] => some (none, none)
  | _ => none
def bndE (lo hi : Bool) (r : List SV) : Option (Option Int × Option Int) := if lo then (if hi then bnd2 r else bndL r) else (if hi then bndH r else bnd0 r)

def slcC (e : Nat) (hp : Hp) (x : SV) (l h : Option Int) : XR := match x with
  | .rv (.sl e' xs) => some (e' = e ∧ 0 ≤ l.getD 0 ∧ l.getD 0 ≤ h.getD xs.length ∧ h.getD xs.length ≤ xs.length, .rv (.sl e ((xs.take (h.getD xs.length).toNat).drop (l.getD 0).toNat)), none, [])
  | .row id ver len => match hp id, h with
    | some (.row e' ver' _), some h => some (e' = e ∧ ver = ver' ∧ l.getD 0 = 0 ∧ 0 ≤ h ∧ h ≤ len, .row id ver h.toNat, none, [id])
    | _, _ => none
  | _ => none

def slcE (e : Nat) (lo hi : Bool) (hp : Hp) : List SV → XR
  | x :: r => match bndE lo hi r with
    | some (l, h) => slcC e hp x l h
    | none => none
  | [] => none

def fldvE (off n : Nat) (agg : Bool) : SV → XR
  | .agg cs => if agg then some (off + n ≤ cs.length, .agg ((cs.drop off).take n), none, []) else some (off < cs.length, (cs[off]?).getD .dead, none, [])
  | _ => none

def ixvE (len e : Nat) (agg : Bool) (i : Int) : SV → XR
  | .agg cs => if agg then some (0 ≤ i ∧ i < len ∧ i.toNat * e + e ≤ cs.length, .agg ((cs.drop (i.toNat * e)).take e), none, []) else some (0 ≤ i ∧ i < len ∧ i.toNat * e < cs.length, (cs[i.toNat * e]?).getD .dead, none, [])
  | _ => none

def o1 (f : SV → XR) : List SV → XR
  | [x] => f x
  | _ => none
def o2 (f : SV → SV → XR) : List SV → XR
  | [x, y] => f x y
  | _ => none

def pickE : List SV → XR
  | [.rv (.bool c), x, y] => some (True, if c then x else y, none, [])
  | _ => none
def allocE (z : List RV) (nx : Nat) : List SV → XR
  | [] => some (True, .ptr nx 0, some (nx, .var (z.map .rv)), [])
  | _ => none
def nilchkE (hp : Hp) (x : SV) : XR := match isNilSV hp x with
  | some (p, false, rd) => some (p, x, none, rd)
  | _ => none
def ibinE (op : BinOp) : SV → SV → XR
  | .rv (.int k a), .rv (.int k' b) => match ibin op k a b with
    | some (p, r) => some (k = k' ∧ p, .rv r, none, [])
    | none => none
  | _, _ => none
def ishfE (op : BinOp) : SV → SV → XR
  | .rv (.int k a), .rv (.int _ b) => match ishf op k a b with
    | some (p, r) => some (p, .rv r, none, [])
    | none => none
  | _, _ => none
def eqnilE (neg : Bool) (hp : Hp) (x : SV) : XR := match isNilSV hp x with
  | some (p, b, rd) => some (p, .rv (.bool (b != neg)), none, rd)
  | none => none
def eqbE (neg : Bool) : SV → SV → XR
  | .rv (.bool a), .rv (.bool b) => some (True, .rv (.bool (if neg then !(a == b) else a == b)), none, [])
  | _, _ => none
def notE : SV → XR
  | .rv (.bool b) => some (True, .rv (.bool !b), none, [])
  | _ => none
def negE : SV → XR
  | .rv (.int k n) => some (True, .rv (.int k (k.wrap (0 - n))), none, [])
  | _ => none
def cviE (k : IntKind) : SV → XR
  | .rv (.int _ n) => some (True, .rv (.int k (k.wrap n)), none, [])
  | _ => none
def mkslE (e bytes : Nat) (z : List RV) (nx : Nat) : SV → SV → XR
  | .rv (.int _ l), .rv (.int _ c) => some (c = l ∧ 0 ≤ l ∧ (bytes : Int) * l ≤ 281474976710656 ∧ l ≤ 9223372036854775807, .row nx 0 l.toNat, some (nx, .row e 0 (List.replicate l.toNat (z.map .rv))), [])
  | _, _ => none
def ix2 (f : SV → Int → XR) : SV → SV → XR
  | x, .rv (.int _ i) => f x i
  | _, _ => none
def mxE : SV → SV → XR
  | .rv (.int k a), .rv (.int _ b) => some (True, .rv (.int k (if b > a then b else a)), none, [])
  | _, _ => none
def mnE : SV → SV → XR
  | .rv (.int k a), .rv (.int _ b) => some (True, .rv (.int k (if b < a then b else a)), none, [])
  | _, _ => none
def extE (i : Nat) : SV → XR
  | .tup xs => some (i < xs.length, (xs[i]?).getD .dead, none, [])
  | _ => none

/-- The same of slices, functions and values of interfaces. -/
def isNilSl (hp : Hp) : SV → Option (Prop × Bool × List Nat)
  | .rv .nilsl => some (True, true, [])
  | .rv .slz => some (True, false, [])
  | .rv (.sl _ xs) => some (0 < xs.length, false, [])
  | .row id ver len => match hp id with
    | some (.row _ ver' _) => some (ver = ver' ∧ 0 < len, false, [id])
    | _ => none
  | _ => none

def isNilFn : SV → Option (Prop × Bool × List Nat)
  | .rv .nilf => some (True, true, [])
  | .rv (.fn _ _) => some (True, false, [])
  | .fn _ _ => some (True, false, [])
  | _ => none

def isNilIf : SV → Option (Prop × Bool × List Nat)
  | .rv .nili => some (True, true, [])
  | .rv (.ifc _ _) => some (True, false, [])
  | .ifc _ _ => some (True, false, [])
  | _ => none

def isNilO (k : Nat) (hp : Hp) (x : SV) : Option (Prop × Bool × List Nat) := match k with
  | 0 => isNilSl hp x
  | 1 => isNilFn x
  | _ => isNilIf x

def eqniloE (neg : Bool) (k : Nat) (hp : Hp) (x : SV) : XR := match isNilO k hp x with
  | some (p, b, rd) => some (p, .rv (.bool (b != neg)), none, rd)
  | none => none

def eqsF (neg : Bool) : Option (Prop × Bool) → XR
  | some (p, b) => some (p, .rv (.bool (if neg then !b else b)), none, [])
  | none => none

def eqsE (neg agg : Bool) (ks : List CK) : SV → SV → XR
  | .agg xs, .agg ys => if agg then eqsF neg (cellsEq ks xs ys) else none
  | _, _ => none

def sbin (op : BinOp) (a b : ByteArray) : Option (Prop × RV) := match op with
  | .add => some (((a.size + b.size : Nat) : Int) ≤ 9223372036854775807, .str (a ++ b))
  | .eql => some (True, .bool (a.toList == b.toList))
  | .neq => some (True, .bool (!(a.toList == b.toList)))
  | .lss => some (True, .bool (Op.bytesLess a.toList b.toList))
  | .leq => some (True, .bool (Op.bytesLess a.toList b.toList || a.toList == b.toList))
  | .gtr => some (True, .bool (!(Op.bytesLess a.toList b.toList || a.toList == b.toList)))
  | .geq => some (True, .bool (!Op.bytesLess a.toList b.toList))
  | _ => none

def sbinE (op : BinOp) : SV → SV → XR
  | .rv (.str a), .rv (.str b) => match sbin op a b with
    | some (p, r) => some (p, .rv r, none, [])
    | none => none
  | _, _ => none

def ifcOf : SV → Option (TypeId × SV)
  | .ifc t x => some (t, x)
  | .rv (.ifc t r) => some (t, .rv r)
  | _ => none

def tasF (t : TypeId) (ok : Bool) (t' : TypeId) (x : SV) : XR := if t' = t then some (True, if ok then .tup [x, .rv (.bool true)] else x, none, []) else if ok then some (True, .tup [.dead, .rv (.bool false)], none, []) else none

def tasE (t : TypeId) (ok : Bool) : SV → XR
  | .ifc t' x => tasF t ok t' x
  | .rv (.ifc t' r) => tasF t ok t' (.rv r)
  | .rv .nili => if ok then some (True, .tup [.dead, .rv (.bool false)], none, []) else none
  | _ => none

def opE (ao : AO) (xs : List SV) (hp : Hp) (nx : Nat) : XR :=
  match ao with
  | .mv => o1 (fun x => some (True, x, none, [])) xs
  | .pick => pickE xs
  | .alloc z => allocE z nx xs
  | .box => o1 (boxE nx) xs
  | .build z ps => buildE z ps xs
  | .bsl e => bslE e nx xs
  | .load n agg => o1 (loadE n agg hp) xs
  | .store n => o2 (storeE n hp) xs
  | .nilchk => o1 (nilchkE hp) xs
  | .ibin op => o2 (ibinE op) xs
  | .ishf op => o2 (ishfE op) xs
  | .eqnil neg => o1 (eqnilE neg hp) xs
  | .eqb neg => o2 (eqbE neg) xs
  | .not => o1 notE xs
  | .neg => o1 negE xs
  | .cvi k => o1 (cviE k) xs
  | .mkif t => o1 (fun x => some (True, .ifc t x, none, [])) xs
  | .mkfn f => some (True, .fn f xs, none, [])
  | .mksl e bytes z => o2 (mkslE e bytes z nx) xs
  | .slc e lo hi => slcE e lo hi hp xs
  | .fld off => o1 (fldE off hp) xs
  | .fldv off n agg => o1 (fldvE off n agg) xs
  | .ixs e => o2 (ix2 (ixsE e hp)) xs
  | .ixa len e => o2 (ix2 (ixaE len e hp)) xs
  | .ixv len e agg => o2 (ix2 (fun x i => ixvE len e agg i x)) xs
  | .len => o1 (lenE hp) xs
  | .lens => o1 lensE xs
  | .app e bytes => o2 (appE e bytes hp nx) xs
  | .mx => o2 mxE xs
  | .mn => o2 mnE xs
  | .ext i => o1 (extE i) xs
  | .eqs neg agg ks => o2 (eqsE neg agg ks) xs
  | .eqnilo neg k => o1 (eqniloE neg k hp) xs
  | .sbin op => o2 (sbinE op) xs
  | .tas t ok => o1 (tasE t ok) xs
  | .call _ | .callv | .inv _ => none

/-- One of the machine's operations as one of the engine's. -/
def eltT (P : Program) (t : TypeId) : Option (TypeId × Nat × Nat × List RV) := match P.underlying t with
  | some (.slice et) => match P.info? et with
    | some i => match zeroT P et with
      | some z => if z.length = i.size ∧ 0 < i.size then some (et, i.size, i.bytes, z) else none
      | none => none
    | none => none
  | _ => none

def compBin (P : Program) (op : BinOp) (t : TypeId) (x y : Operand) : Option (AO × List Operand) := match op with
  | .shl => some (.ishf .shl, [x, y])
  | .shr => some (.ishf .shr, [x, y])
  | _ => match P.underlying t with
    | some (.int _) => some (.ibin op, [x, y])
    | some .bool => match op with
      | .eql => some (.eqb false, [x, y])
      | .neq => some (.eqb true, [x, y])
      | _ => none
    | some (.pointer _) => match op, y with
      | .eql, .const (.pointer none) => some (.eqnil false, [x])
      | .neq, .const (.pointer none) => some (.eqnil true, [x])
      | _, _ => none
    | some .string => some (.sbin op, [x, y])
    | some (.slice _) => match op, y with
      | .eql, .const (.slice none 0 0) => some (.eqnilo false 0, [x])
      | .neq, .const (.slice none 0 0) => some (.eqnilo true 0, [x])
      | _, _ => none
    | some (.func _ _ _) => match op, y with
      | .eql, .const .nilFunc => some (.eqnilo false 1, [x])
      | .neq, .const .nilFunc => some (.eqnilo true 1, [x])
      | _, _ => none
    | some (.interface _) => match op, y with
      | .eql, .const .nilIface => some (.eqnilo false 2, [x])
      | .neq, .const .nilIface => some (.eqnilo true 2, [x])
      | _, _ => none
    | _ => match aggT P t, eqK P 64 t with
      | some true, some ks => if P.eqGuardType P.depth t then none else match op with
        | .eql => some (.eqs false true ks, [x, y])
        | .neq => some (.eqs true true ks, [x, y])
        | _ => none
      | _, _ => none

def compOp (P : Program) : Op → Option (AO × List Operand)
  | .move x => some (.mv, [x])
  | .assign x => some (.mv, [x])
  | .pick c a b => some (.pick, [c, a, b])
  | .alloc t => match zeroT P t with
    | some z => some (.alloc z, [])
    | none => none
  | .box _ x => some (.box, [x])
  | .build t parts => match zeroT P t, parts.toList.mapM (fun p => placesT P t p.1) with
    | some z, some ps => if fieldsSized P t then some (.build z ps, parts.toList.map (·.2)) else none
    | _, _ => none
  | .buildSlice t len parts => match eltT P t with
    | some (_, e, _, _) => if parts.toList.map (·.1) = List.range len then some (.bsl e, parts.toList.map (·.2)) else none
    | none => none
  | .load t x => match szT P t, aggT P t with
    | some n, some agg => some (.load n agg, [x])
    | _, _ => none
  | .store t p x => match szT P t with
    | some n => some (.store n, [p, x])
    | none => none
  | .nilCheck x => some (.nilchk, [x])
  | .binOp op t x y _ => compBin P op t x y
  | .unOp .not _ x => some (.not, [x])
  | .unOp .neg _ x => some (.neg, [x])
  | .convert src dst x => match P.underlying src, P.underlying dst with
    | some _, some (.int k) => some (.cvi k, [x])
    | _, _ => none
  | .makeInterface t x => match P.underlying t with
    | some (.interface _) => none
    | some _ => some (.mkif t, [x])
    | none => none
  | .makeFunc (.func f) first cap => if first.size = 0 then some (.mkfn f, cap.toList) else none
  | .makeSlice t l c => match eltT P t with
    | some (_, e, bytes, z) => some (.mksl e bytes z, [l, c])
    | none => none
  | .slice t x lo hi none => match eltT P t with
    | some (_, e, _, _) => some (.slc e lo.isSome hi.isSome, x :: (lo.toList ++ hi.toList))
    | none => none
  | .fieldAddr s x f => match fldT P s f with
    | some (off, ft) => match szT P ft with
      | some (_ + 1) => some (.fld off, [x])
      | _ => none
    | none => none
  | .field s x f => match fldT P s f with
    | some (off, ft) => match szT P ft, aggT P ft with
      | some n, some agg => some (.fldv off n agg, [x])
      | _, _ => none
    | none => none
  | .indexAddr t x i => match P.underlying t with
    | some (.slice et) => match szT P et with
      | some e => some (.ixs e, [x, i])
      | none => none
    | some (.array len et) => match szT P et with
      | some e => some (.ixa len e, [x, i])
      | none => none
    | _ => none
  | .index t x i => match P.underlying t with
    | some (.array len et) => match szT P et, aggT P et with
      | some e, some agg => some (.ixv len e agg, [x, i])
      | _, _ => none
    | _ => none
  | .extract x i => some (.ext i, [x])
  | .call { callee := .builtin .len, args, argTypes } => match args.toList, argTypes.toList with
    | [x], [t] => match P.underlying t with
      | some (.slice _) => some (.len, [x])
      | some .string => some (.lens, [x])
      | _ => none
    | _, _ => none
  | .call { callee := .builtin .append, args, argTypes } => match args.toList, argTypes.toList with
    | [s, x], [t, t'] => if t = t' then match eltT P t with
      | some (_, e, bytes, _) => some (.app e bytes, [s, x])
      | none => none
      else none
    | _, _ => none
  | .call { callee := .builtin .max, args, .. } => if args.size = 2 then some (.mx, args.toList) else none
  | .call { callee := .builtin .min, args, .. } => if args.size = 2 then some (.mn, args.toList) else none
  | .typeAssert x _ t ok => match P.underlying t, zeroT P t with
    | some (.interface _), _ => none
    | some _, some _ => some (.tas t ok, [x])
    | _, _ => none
  | .call { callee := .invoke r name, args, .. } => some (.inv name, r :: args.toList)
  | .call { callee := .value (.func f), args, .. } => some (.call f, args.toList)
  | .call { callee := .value x, args, .. } => some (.callv, x :: args.toList)
  | _ => none
end Go.Eng
