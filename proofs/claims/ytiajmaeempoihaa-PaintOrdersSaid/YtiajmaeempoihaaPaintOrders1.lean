/- Part 1 of the proof: EngA, EngB, EngC, EngD, EngE, EngF, EngG, EngH, EngI, EngJ, EngJa, EngIa, EngK, EngL. -/
import Derived.Orders
import Derived.Below
import Derived.Laws.OwnMore
import Derived.Deep.AppendSrc
import Derived.ChangeKeysEq
import Derived.Laws.CopyRow
set_option linter.unusedSimpArgs false
set_option linter.unusedVariables false
/- The values of the engine, how they stand in memory, and that this is kept while memory grows or is written elsewhere. -/
namespace Go.Eng
open Go

/-- Pure values: nothing in them is ever written again. -/
inductive RV where
  | int (k : IntKind) (n : Int) | bool (b : Bool) | str (s : ByteArray)
  | sl (e : Nat) (xs : List (List RV)) | rop (cs : List RV)
  | nilp | nilsl | nili | nilf | slz
  | ifc (t : TypeId) (r : RV) | agg (rs : List RV) | fn (f : FuncId) (cap : List RV)
  deriving Inhabited

/-- A pure value that is one cell. -/
def RV.one : RV → Bool
  | .agg _ => false
  | _ => true

/-- How a pure value stands in the memory w, in blocks that are 'ok'. -/
inductive RO (w : World) (ok : Nat → Prop) : RV → Value → Prop where
  | int (k : IntKind) (n : Int) : RO w ok (.int k n) (.int k n)
  | bool (b : Bool) : RO w ok (.bool b) (.bool b)
  | str (s : ByteArray) : RO w ok (.str s) (.string s)
  | sl (e : Nat) (xs : List (List RV)) (a : Option Addr) (cap : Nat) (c : Nat → Nat → Value)
      (h0 : a = none → xs = [] ∧ cap = 0) (hc : xs.length ≤ cap) (hm : cap ≤ maxLen) (he : ∀ x ∈ xs, x.length = e)
      (hr : ∀ (i : Nat) (x : List RV) (j : Nat) (y : RV), xs[i]? = some x → x[j]? = some y → ∃ ad, a = some ad ∧ ok ad.block ∧ w.cell? (ad.add (i * e + j)) = some (c i j))
      (h1 : ∀ (i : Nat) (x : List RV) (j : Nat) (y : RV), xs[i]? = some x → x[j]? = some y → y.one = true)
      (hy : ∀ (i : Nat) (x : List RV) (j : Nat) (y : RV), xs[i]? = some x → x[j]? = some y → RO w ok y (c i j)) : RO w ok (.sl e xs) (.slice a xs.length cap)
  | rop (cs : List RV) (a : Addr) (c : Nat → Value)
      (hr : ∀ (j : Nat) (y : RV), cs[j]? = some y → ok a.block ∧ w.cell? (a.add j) = some (c j))
      (h1 : ∀ (j : Nat) (y : RV), cs[j]? = some y → y.one = true)
      (hy : ∀ (j : Nat) (y : RV), cs[j]? = some y → RO w ok y (c j)) : RO w ok (.rop cs) (.pointer (some a))
  | nilp : RO w ok .nilp (.pointer none)
  | nilsl : RO w ok .nilsl (.slice none 0 0)
  | slz (a : Addr) (cap : Nat) (hm : cap ≤ maxLen) : RO w ok .slz (.slice (some a) 0 cap)
  | nili : RO w ok .nili .nilIface
  | nilf : RO w ok .nilf .nilFunc
  | ifc (t : TypeId) (r : RV) (v : Value) (h : RO w ok r v) : RO w ok (.ifc t r) (.iface t v)
  | agg (rs : List RV) (vs : List Value) (hl : vs.length = rs.length) (h1 : ∀ (j : Nat) (y : RV), rs[j]? = some y → y.one = true)
      (hy : ∀ (j : Nat) (y : RV), rs[j]? = some y → RO w ok y (vs.getD j undef)) : RO w ok (.agg rs) (.agg vs.toArray)
  | fn (f : FuncId) (cap : List RV) (vs : List Value) (hl : vs.length = cap.length)
      (hy : ∀ (j : Nat) (y : RV), cap[j]? = some y → RO w ok y (vs.getD j undef)) : RO w ok (.fn f cap) (.func (.func f) #[] vs.toArray)

theorem RO.mono {w w' : World} {ok ok' : Nat → Prop} (h : ∀ b, ok b → b < w.heap.size → ok' b ∧ w'.heap[b]? = w.heap[b]?) {r : RV} {v : Value}
    (hr : RO w ok r v) : RO w' ok' r v := by
  induction hr with
  | int k n => exact .int k n
  | bool b => exact .bool b
  | str s => exact .str s
  | sl e xs a cap c h0 hc hm he hr h1 _ ih =>
    refine .sl e xs a cap c h0 hc hm he (fun i x j y hx hy => ?_) h1 ih
    obtain ⟨ad, ha, hok, hcell⟩ := hr i x j y hx hy
    have hb := h _ hok (by have := World.block_lt_of_cell? w _ hcell; simpa [Addr.add] using (show (ad.add (i * e + j)).block < w.heap.size from this) |> fun h => by unfold Addr.add at h; split at h <;> exact h)
    refine ⟨ad, ha, hb.1, ?_⟩
    rw [← hcell]
    refine World.cell?_of_block ?_
    have : (ad.add (i * e + j)).block = ad.block := by unfold Addr.add; split <;> rfl
    rw [this]; exact hb.2
  | rop cs a c hr h1 _ ih =>
    refine .rop cs a c (fun j y hy => ?_) h1 ih
    obtain ⟨hok, hcell⟩ := hr j y hy
    have hbl : (a.add j).block = a.block := by unfold Addr.add; split <;> rfl
    have hb := h _ hok (by have := World.block_lt_of_cell? w _ hcell; rwa [hbl] at this)
    refine ⟨hb.1, ?_⟩
    rw [← hcell]
    refine World.cell?_of_block ?_
    rw [hbl]; exact hb.2
  | nilp => exact .nilp
  | nilsl => exact .nilsl
  | slz a cap hm => exact .slz a cap hm
  | nili => exact .nili
  | nilf => exact .nilf
  | ifc t r v _ ih => exact .ifc t r v ih
  | agg rs vs hl h1 _ ih => exact .agg rs vs hl h1 ih
  | fn f cap vs hl _ ih => exact .fn f cap vs hl ih

theorem RO.oneCell {w : World} {ok : Nat → Prop} {r : RV} {v : Value} (h : RO w ok r v) (h1 : r.one = true) : v.oneCell' = true := by
  cases h <;> first | rfl | (simp [RV.one] at h1)

theorem RO.slz_sl {w : World} {ok : Nat → Prop} (e : Nat) {v : Value} (h : RO w ok .slz v) : RO w ok (.sl e []) v := by
  cases h with
  | slz a cap hm => exact .sl e [] (some a) cap (fun _ _ => undef) (fun h => by cases h) (by simp) hm (by simp) (fun i x j y hx => by simp at hx) (fun i x j y hx => by simp at hx) (fun i x j y hx => by simp at hx)

/-- Values that may point into memory of the call's own. -/
inductive SV where
  | dead
  | rv (r : RV)
  | ptr (id off : Nat)
  | ept (id ver i off : Nat)
  | row (id ver len : Nat)
  | win (id ver off len : Nat)
  | agg (cs : List SV)
  | tup (xs : List SV)
  | fn (f : FuncId) (cap : List SV)
  | ifc (t : TypeId) (x : SV)
  deriving Inhabited

/-- Memory of the call's own: a variable, or a row of elements of e cells each. -/
inductive HB where
  | var (cs : List SV)
  | row (e ver : Nat) (xs : List (List SV))
  deriving Inhabited

def SV.one : SV → Bool
  | .rv r => r.one
  | .ptr .. | .ept .. | .row .. | .win .. | .fn .. | .ifc .. => true
  | _ => false

abbrev Hp := Nat → Option HB

/-- How a value stands in memory: rho tells the block of each thing of the call's own. -/
inductive Rp (w : World) (ok : Nat → Prop) (rho : Nat → Option Nat) (hp : Hp) : SV → Value → Prop where
  | dead (v : Value) : Rp w ok rho hp .dead v
  | rv (r : RV) (v : Value) (h : RO w ok r v) : Rp w ok rho hp (.rv r) v
  | ptr (id off : Nat) (v : Value) (h1 : v.oneCell' = true) (h0 : (hp id).isSome = true) (h : ∀ cs, hp id = some (.var cs) → ∃ b, rho id = some b ∧ v = .pointer (some ⟨b, off, none⟩)) : Rp w ok rho hp (.ptr id off) v
  | ept (id ver i off : Nat) (v : Value) (h1 : v.oneCell' = true) (h0 : (hp id).isSome = true) (hv : ∀ e ver0 xs, hp id = some (.row e ver0 xs) → ver ≤ ver0) (h : ∀ e xs, hp id = some (.row e ver xs) → ∃ b, rho id = some b ∧ v = .pointer (some ⟨b, i * e + off, none⟩)) : Rp w ok rho hp (.ept id ver i off) v
  | row (id ver len : Nat) (v : Value) (h1 : v.oneCell' = true) (h0 : (hp id).isSome = true) (hv : ∀ e ver0 xs, hp id = some (.row e ver0 xs) → ver ≤ ver0)
      (h : ∀ e xs, hp id = some (.row e ver xs) → (rho id = none ∧ v = .slice none 0 0 ∧ len = 0) ∨
        ∃ b cap cur t, rho id = some b ∧ v = .slice (some ⟨b, 0, none⟩) len cap ∧ w.heap[b]? = some (.cells cur t (0, 0)) ∧ len ≤ cap ∧ cap ≤ maxLen ∧ cap * e ≤ cur.size) : Rp w ok rho hp (.row id ver len) v
  | win (id ver off len : Nat) (v : Value) (h1 : v.oneCell' = true) (h0 : (hp id).isSome = true) (hv : ∀ e ver0 xs, hp id = some (.row e ver0 xs) → ver ≤ ver0)
      (hr : ∀ e xs, hp id = some (.row e ver xs) → ∃ ad cap, v = .slice ad len cap ∧ len ≤ cap ∧ cap ≤ maxLen ∧ (ad = none → cap = 0) ∧ (0 < len → ∃ b, rho id = some b ∧ ad = some ⟨b, off * e, none⟩))
      (hc : ∀ cs, hp id = some (.var cs) → ∃ ad cap, v = .slice ad len cap ∧ len ≤ cap ∧ cap ≤ maxLen ∧ (ad = none → cap = 0) ∧ (0 < len → ∃ b, rho id = some b ∧ ad = some ⟨b, off, none⟩)) : Rp w ok rho hp (.win id ver off len) v
  | agg (cs : List SV) (vs : List Value) (hl : vs.length = cs.length) (h1 : ∀ (j : Nat) (u : Value), vs[j]? = some u → u.oneCell' = true)
      (hy : ∀ (j : Nat) (y : SV), cs[j]? = some y → Rp w ok rho hp y (vs.getD j undef)) : Rp w ok rho hp (.agg cs) (.agg vs.toArray)
  | tup (cs : List SV) (vs : List Value) (hl : vs.length = cs.length)
      (hy : ∀ (j : Nat) (y : SV), cs[j]? = some y → Rp w ok rho hp y (vs.getD j undef)) : Rp w ok rho hp (.tup cs) (.tuple vs.toArray)
  | fn (f : FuncId) (cs : List SV) (vs : List Value) (hl : vs.length = cs.length)
      (hy : ∀ (j : Nat) (y : SV), cs[j]? = some y → Rp w ok rho hp y (vs.getD j undef)) : Rp w ok rho hp (.fn f cs) (.func (.func f) #[] vs.toArray)
  | ifc (t : TypeId) (x : SV) (v : Value) (h : Rp w ok rho hp x v) : Rp w ok rho hp (.ifc t x) (.iface t v)


/-- From one state of memory to a later one: what stood there stands there still. -/
structure Evo (w w' : World) (ok ok' : Nat → Prop) (rho rho' : Nat → Option Nat) (hp hp' : Hp) : Prop where
  ro : ∀ b, ok b → b < w.heap.size → ok' b ∧ w'.heap[b]? = w.heap[b]?
  var : ∀ id cs, hp id = some (.var cs) → ∃ cs', hp' id = some (.var cs') ∧ rho' id = rho id
  row : ∀ id e ver xs, hp id = some (.row e ver xs) → ∃ e' ver' xs', hp' id = some (.row e' ver' xs') ∧ ver ≤ ver' ∧
    (ver' = ver → e' = e ∧ rho' id = rho id ∧ ∀ b, rho id = some b → ∀ cur t, w.heap[b]? = some (.cells cur t (0, 0)) → ∃ cur' t', w'.heap[b]? = some (.cells cur' t' (0, 0)) ∧ cur'.size = cur.size)

theorem Evo.isSome {w w' : World} {ok ok' : Nat → Prop} {rho rho' : Nat → Option Nat} {hp hp' : Hp} (h : Evo w w' ok ok' rho rho' hp hp') {id : Nat} (hs : (hp id).isSome = true) : (hp' id).isSome = true := by
  cases hq : hp id with
  | none => simp [hq] at hs
  | some hb =>
    cases hb with
    | var cs => obtain ⟨cs', h', _⟩ := h.var id cs hq; simp [h']
    | row e ver xs => obtain ⟨e', ver', xs', h', _⟩ := h.row id e ver xs hq; simp [h']

theorem Rp.mono {w w' : World} {ok ok' : Nat → Prop} {rho rho' : Nat → Option Nat} {hp hp' : Hp} (h : Evo w w' ok ok' rho rho' hp hp') {s : SV} {v : Value}
    (hr : Rp w ok rho hp s v) : Rp w' ok' rho' hp' s v := by
  induction hr with
  | dead v => exact .dead v
  | rv r v hr => exact .rv r v (hr.mono h.ro)
  | ptr id off v h1 h0 hv =>
    refine .ptr id off v h1 (h.isSome h0) (fun cs' hcs' => ?_)
    cases hq : hp id with
    | none => simp [hq] at h0
    | some hb =>
      cases hb with
      | var cs => obtain ⟨cs2, _, hrho⟩ := h.var id cs hq; rw [hrho]; exact hv cs hq
      | row e ver xs => obtain ⟨_, _, _, h', _⟩ := h.row id e ver xs hq; rw [h'] at hcs'; cases hcs'
  | ept id ver i off v h1 h0 hle hv =>
    cases hq : hp id with
    | none => simp [hq] at h0
    | some hb =>
      cases hb with
      | var cs =>
        obtain ⟨cs2, h', _⟩ := h.var id cs hq
        exact .ept id ver i off v h1 (h.isSome h0) (fun _ _ _ hx => by rw [h'] at hx; cases hx) (fun _ _ hx => by rw [h'] at hx; cases hx)
      | row e ver0 xs =>
        obtain ⟨e2, ver2, xs2, h', hle2, hk⟩ := h.row id e ver0 xs hq
        have hl0 := hle _ _ _ hq
        refine .ept id ver i off v h1 (h.isSome h0) (fun _ _ _ hx => by rw [h'] at hx; cases hx; omega) (fun e' xs' hx' => ?_)
        rw [h'] at hx'; cases hx'
        obtain rfl : ver = ver0 := by omega
        obtain ⟨rfl, hrho, _⟩ := hk rfl
        rw [hrho]; exact hv _ xs hq
  | row id ver len v h1 h0 hle hv =>
    cases hq : hp id with
    | none => simp [hq] at h0
    | some hb =>
      cases hb with
      | var cs =>
        obtain ⟨cs2, h', _⟩ := h.var id cs hq
        exact .row id ver len v h1 (h.isSome h0) (fun _ _ _ hx => by rw [h'] at hx; cases hx) (fun _ _ hx => by rw [h'] at hx; cases hx)
      | row e ver0 xs =>
        obtain ⟨e2, ver2, xs2, h', hle2, hk⟩ := h.row id e ver0 xs hq
        have hl0 := hle _ _ _ hq
        refine .row id ver len v h1 (h.isSome h0) (fun _ _ _ hx => by rw [h'] at hx; cases hx; omega) (fun e' xs' hx' => ?_)
        rw [h'] at hx'; cases hx'
        obtain rfl : ver = ver0 := by omega
        obtain ⟨rfl, hrho, hsz⟩ := hk rfl
        rcases hv _ xs hq with ⟨g1, g2, g3⟩ | ⟨b, cap, cur, t, g1, g2, g3, g4, g5, g6⟩
        · exact .inl ⟨hrho.trans g1, g2, g3⟩
        · obtain ⟨cur', t', k1, k2⟩ := hsz b g1 cur t g3
          exact .inr ⟨b, cap, cur', t', hrho.trans g1, g2, k1, g4, g5, by omega⟩
  | win id ver off len v h1 h0 hle hr hc =>
    cases hq : hp id with
    | none => simp [hq] at h0
    | some hb =>
      cases hb with
      | var cs =>
        obtain ⟨cs2, h', hrho⟩ := h.var id cs hq
        exact .win id ver off len v h1 (h.isSome h0) (fun _ _ _ hx => by rw [h'] at hx; cases hx) (fun _ _ hx => by rw [h'] at hx; cases hx) (fun _ _ => by rw [hrho]; exact hc cs hq)
      | row e ver0 xs =>
        obtain ⟨e2, ver2, xs2, h', hle2, hk⟩ := h.row id e ver0 xs hq
        have hl0 := hle _ _ _ hq
        refine .win id ver off len v h1 (h.isSome h0) (fun _ _ _ hx => by rw [h'] at hx; cases hx; omega) (fun e' xs' hx' => ?_) (fun _ hx => by rw [h'] at hx; cases hx)
        rw [h'] at hx'; cases hx'
        obtain rfl : ver = ver0 := by omega
        obtain ⟨rfl, hrho, _⟩ := hk rfl
        rw [hrho]; exact hr _ xs hq
  | agg cs vs hl h1 _ ih => exact .agg cs vs hl h1 ih
  | tup cs vs hl _ ih => exact .tup cs vs hl ih
  | fn f cs vs hl _ ih => exact .fn f cs vs hl ih
  | ifc t x v _ ih => exact .ifc t x v ih

end Go.Eng

/- The state of the engine: what it says of the machine's memory, and the one step by which memory of the call's own is made or written. -/
namespace Go.Eng
open Go

structure Ctx where
  w0 : World
  okE : Nat → Prop
  prv : Nat → Prop
  N : Nat
  rho0 : Nat → Option Nat
  h0 : Hp

def okk (C : Ctx) (rho : Nat → Option Nat) (hp : Hp) (b : Nat) : Prop := (C.okE b ∨ C.w0.heap.size ≤ b) ∧ ∀ id, (hp id).isSome = true → rho id ≠ some b

def CellsIn (w : World) (ok : Nat → Prop) (rho : Nat → Option Nat) (hp : Hp) (cur : Array Value) (off : Nat) (cs : List SV) : Prop :=
  ∀ (j : Nat) (y : SV), cs[j]? = some y → ∃ v, cur[off + j]? = some v ∧ v.oneCell' = true ∧ Rp w ok rho hp y v

/-- What the cells 'cur' of a block must hold for a thing of the call's own. -/
def Holds (w : World) (ok : Nat → Prop) (rho : Nat → Option Nat) (hp : Hp) (cur : Array Value) : HB → Prop
  | .var cs => cur.size = cs.length ∧ CellsIn w ok rho hp cur 0 cs
  | .row e _ xs => (∀ x ∈ xs, x.length = e) ∧ xs.length * e ≤ cur.size ∧ ∀ (i : Nat) (x : List SV), xs[i]? = some x → CellsIn w ok rho hp cur (i * e) x

def HBRep (w : World) (ok : Nat → Prop) (rho : Nat → Option Nat) (hp : Hp) (id : Nat) (hb : HB) : Prop :=
  (rho id = none ∧ ∃ e ver, hb = .row e ver []) ∨ ∃ b cur t, rho id = some b ∧ w.heap[b]? = some (.cells cur t (0, 0)) ∧ Holds w ok rho hp cur hb

def Sizes (w w' : World) (b : Nat) : Prop := ∀ cur t, w.heap[b]? = some (.cells cur t (0, 0)) → ∃ cur' t', w'.heap[b]? = some (.cells cur' t' (0, 0)) ∧ cur'.size = cur.size

def EvoHB (w w' : World) (r r' : Option Nat) : HB → HB → Prop
  | .var _, .var _ => r' = r
  | .row e ver _, .row e' ver' _ => ver ≤ ver' ∧ (ver' = ver → e' = e ∧ r' = r ∧ ∀ b, r = some b → Sizes w w' b)
  | _, _ => False

theorem EvoHB.refl (w : World) (r : Option Nat) (hb : HB) : EvoHB w w r r hb hb := by
  cases hb
  · rfl
  · exact ⟨Nat.le_refl _, fun _ => ⟨rfl, rfl, fun _ _ cur t h => ⟨cur, t, h, rfl⟩⟩⟩

theorem Sizes.trans {w w1 w2 : World} {b : Nat} (h : Sizes w w1 b) (k : Sizes w1 w2 b) : Sizes w w2 b := fun cur t hc => by
  obtain ⟨c1, t1, h1, s1⟩ := h cur t hc
  obtain ⟨c2, t2, h2, s2⟩ := k c1 t1 h1
  exact ⟨c2, t2, h2, s2.trans s1⟩

theorem EvoHB.trans {w w1 w2 : World} {r r1 r2 : Option Nat} {a b c : HB} (h : EvoHB w w1 r r1 a b) (k : EvoHB w1 w2 r1 r2 b c) : EvoHB w w2 r r2 a c := by
  cases a <;> cases b <;> cases c <;> simp only [EvoHB] at h k ⊢
  · exact k.trans h
  · obtain ⟨h1, h2⟩ := h
    obtain ⟨k1, k2⟩ := k
    refine ⟨Nat.le_trans h1 k1, fun he => ?_⟩
    obtain ⟨rfl, rfl, s1⟩ := h2 (by omega)
    obtain ⟨rfl, rfl, s2⟩ := k2 (by omega)
    exact ⟨rfl, rfl, fun b hb => (s1 b hb).trans (s2 b hb)⟩

theorem Evo.of {w w' : World} {ok ok' : Nat → Prop} {rho rho' : Nat → Option Nat} {hp hp' : Hp} (hro : ∀ b, ok b → b < w.heap.size → ok' b ∧ w'.heap[b]? = w.heap[b]?)
    (h : ∀ id hb, hp id = some hb → ∃ hb', hp' id = some hb' ∧ EvoHB w w' (rho id) (rho' id) hb hb') : Evo w w' ok ok' rho rho' hp hp' where
  ro := hro
  var id cs hq := by
    obtain ⟨hb', h1, h2⟩ := h id _ hq
    cases hb' with
    | var cs' => exact ⟨cs', h1, h2⟩
    | row => exact h2.elim
  row id e ver xs hq := by
    obtain ⟨hb', h1, h2⟩ := h id _ hq
    cases hb' with
    | var cs' => exact h2.elim
    | row e' ver' xs' => exact ⟨e', ver', xs', h1, h2.1, h2.2⟩

theorem CellsIn.mono {w w' : World} {ok ok' : Nat → Prop} {rho rho' : Nat → Option Nat} {hp hp' : Hp} (h : Evo w w' ok ok' rho rho' hp hp') {cur : Array Value} {off : Nat} {cs : List SV}
    (hc : CellsIn w ok rho hp cur off cs) : CellsIn w' ok' rho' hp' cur off cs := fun j y hy => by
  obtain ⟨v, h1, h2, h3⟩ := hc j y hy
  exact ⟨v, h1, h2, h3.mono h⟩

theorem Holds.mono {w w' : World} {ok ok' : Nat → Prop} {rho rho' : Nat → Option Nat} {hp hp' : Hp} (h : Evo w w' ok ok' rho rho' hp hp') {cur : Array Value} {hb : HB}
    (hc : Holds w ok rho hp cur hb) : Holds w' ok' rho' hp' cur hb := by
  cases hb
  · exact ⟨hc.1, hc.2.mono h⟩
  · exact ⟨hc.1, hc.2.1, fun i x hx => (hc.2.2 i x hx).mono h⟩

structure Fr (C : Ctx) (w : World) : Prop where
  os : w.os = C.w0.os
  tape : w.tape = C.w0.tape
  output : w.output = C.w0.output
  size : C.w0.heap.size ≤ w.heap.size
  block : ∀ b, b < C.w0.heap.size → ¬ C.prv b → w.heap[b]? = C.w0.heap[b]?

structure RepH (C : Ctx) (hp : Hp) (w : World) (rho : Nat → Option Nat) : Prop where
  heap : ∀ id hb, hp id = some hb → HBRep w (okk C rho hp) rho hp id hb
  inj : ∀ id id' b, (hp id).isSome = true → (hp id').isSome = true → rho id = some b → rho id' = some b → id = id'
  own : ∀ id b, (hp id).isSome = true → rho id = some b → (((C.h0 id).isSome = true ∧ C.rho0 id = some b ∧ C.prv b) ∨ C.w0.heap.size ≤ b) ∧ b < w.heap.size
  fr : Fr C w
  evo : ∀ id hb hb0, hp id = some hb → C.h0 id = some hb0 → EvoHB C.w0 w (C.rho0 id) (rho id) hb0 hb

structure RepF (C : Ctx) (en : Nat → SV) (hp : Hp) (a : Act) (w : World) (rho : Nat → Option Nat) : Prop where
  mem : RepH C hp w rho
  env : ∀ n, Rp w (okk C rho hp) rho hp (en n) (a.tmps.getD n undef)
  size : a.tmps.size = C.N
  defers : a.defers = []

def up {α : Type} (f : Nat → α) (n : Nat) (x : α) : Nat → α := fun m => if m = n then x else f m
@[simp] theorem up_same {α : Type} (f : Nat → α) (n : Nat) (x : α) : up f n x n = x := by simp [up]
theorem up_other {α : Type} (f : Nat → α) {n m : Nat} (x : α) (h : m ≠ n) : up f n x m = f m := by simp [up, h]

/-- A step between two memories: what is told of the first is told of the second. -/
structure Step (C : Ctx) (hp hp' : Hp) (w w' : World) (rho rho' : Nat → Option Nat) : Prop where
  mem : RepH C hp' w' rho'
  evo : Evo w w' (okk C rho hp) (okk C rho' hp') rho rho' hp hp'

theorem RepF.step {C : Ctx} {en : Nat → SV} {hp hp' : Hp} {a : Act} {w w' : World} {rho rho' : Nat → Option Nat} (R : RepF C en hp a w rho) (S : Step C hp hp' w w' rho rho') : RepF C en hp' a w' rho' :=
  ⟨S.mem, fun n => (R.env n).mono S.evo, R.size, R.defers⟩

theorem Step.trans {C : Ctx} {hp hp1 hp2 : Hp} {w w1 w2 : World} {rho rho1 rho2 : Nat → Option Nat} (h : Step C hp hp1 w w1 rho rho1) (k : Step C hp1 hp2 w1 w2 rho1 rho2)
    (hs : w.heap.size ≤ w1.heap.size) : Step C hp hp2 w w2 rho rho2 := by
  refine ⟨k.mem, Evo.of (fun b hb hlt => ?_) (fun id hb hq => ?_)⟩
  · obtain ⟨h1, h2⟩ := h.evo.ro b hb hlt
    obtain ⟨k1, k2⟩ := k.evo.ro b h1 (by omega)
    exact ⟨k1, k2.trans h2⟩
  · cases hb with
    | var cs =>
      obtain ⟨cs1, a1, a2⟩ := h.evo.var id cs hq
      obtain ⟨cs2, b1, b2⟩ := k.evo.var id cs1 a1
      exact ⟨_, b1, b2.trans a2⟩
    | row e ver xs =>
      obtain ⟨e1, ver1, xs1, a1, a2, a3⟩ := h.evo.row id e ver xs hq
      obtain ⟨e2, ver2, xs2, b1, b2, b3⟩ := k.evo.row id e1 ver1 xs1 a1
      refine ⟨_, b1, EvoHB.trans (b := .row e1 ver1 xs1) ⟨a2, a3⟩ ⟨b2, b3⟩⟩

/-- The world's heap stays: draws. -/
theorem RepH.quiet {C : Ctx} {hp : Hp} {w w' : World} {rho : Nat → Option Nat} (R : RepH C hp w rho) (hh : w'.heap = w.heap) (ho : w'.os = w.os) (ht : w'.tape = w.tape) (hu : w'.output = w.output) :
    Step C hp hp w w' rho rho := by
  have E : Evo w w' (okk C rho hp) (okk C rho hp) rho rho hp hp := Evo.of (fun b h _ => ⟨h, by rw [hh]⟩) (fun id hb hq => ⟨hb, hq, by
    have := EvoHB.refl w (rho id) hb
    cases hb
    · exact this
    · exact ⟨this.1, fun h => ⟨(this.2 h).1, (this.2 h).2.1, fun b hb cur t hc => ⟨cur, t, by rw [hh]; exact hc, rfl⟩⟩⟩⟩)
  refine ⟨⟨fun id hb hq => ?_, R.inj, fun id b h1 h2 => by rw [hh]; exact R.own id b h1 h2, ⟨ho.trans R.fr.os, ht.trans R.fr.tape, hu.trans R.fr.output, by rw [hh]; exact R.fr.size, fun b h1 h2 => by rw [hh]; exact R.fr.block b h1 h2⟩, fun id hb hb0 h1 h2 => ?_⟩, E⟩
  · rcases R.heap id hb hq with h | ⟨b, cur, t, h1, h2, h3⟩
    · exact .inl h
    · exact .inr ⟨b, cur, t, h1, by rw [hh]; exact h2, h3.mono E⟩
  · have h := R.evo id hb hb0 h1 h2
    cases hb0 <;> cases hb <;> simp only [EvoHB] at h ⊢
    · exact h
    · refine ⟨h.1, fun he => ⟨(h.2 he).1, (h.2 he).2.1, fun b hb cur t hc => ?_⟩⟩
      rw [hh]; exact (h.2 he).2.2 b hb cur t hc

/-- A thing of the call's own is made, or written, or moved to a new block. -/
theorem RepH.replace {C : Ctx} {hp : Hp} {w w' : World} {rho : Nat → Option Nat} (R : RepH C hp w rho) (id : Nat) (hb' : HB) (b' : Nat) (cur' : Array Value) (t' : TypeId)
    (ho : w'.os = w.os) (ht : w'.tape = w.tape) (hu : w'.output = w.output) (hs : w.heap.size ≤ w'.heap.size)
    (hblk : w'.heap[b']? = some (.cells cur' t' (0, 0))) (hoth : ∀ k, k < w.heap.size → k ≠ b' → w'.heap[k]? = w.heap[k]?)
    (hown : ((hp id).isSome = true ∧ rho id = some b') ∨ w.heap.size ≤ b')
    (hkind : ∀ hb, hp id = some hb → EvoHB w w' (rho id) (some b') hb hb')
    (hfresh : hp id = none → C.h0 id = none)
    (hh : Holds w (okk C rho hp) rho hp cur' hb') :
    Step C hp (up hp id (some hb')) w w' rho (up rho id (some b')) := by
  have hne : ∀ id2 b, (hp id2).isSome = true → rho id2 = some b → id2 ≠ id → b ≠ b' := fun id2 b h1 h2 h3 he => by
    subst he
    rcases hown with ⟨g1, g2⟩ | g
    · exact h3 (R.inj id2 id b h1 g1 h2 g2)
    · have := (R.own id2 b h1 h2).2; omega
  have hok : ∀ b, okk C rho hp b → b < w.heap.size → okk C (up rho id (some b')) (up hp id (some hb')) b ∧ w'.heap[b]? = w.heap[b]? := fun b hb hlt => by
    have hbb : b ≠ b' := fun he => by
      subst he
      rcases hown with ⟨g1, g2⟩ | g
      · exact hb.2 id g1 g2
      · omega
    refine ⟨⟨hb.1, fun id2 h2 => ?_⟩, hoth b hlt hbb⟩
    by_cases h : id2 = id
    · subst h; rw [up_same]; intro he; cases he; exact hbb rfl
    · rw [up_other _ _ h]; rw [up_other _ _ h] at h2; exact hb.2 id2 h2
  have E : Evo w w' (okk C rho hp) (okk C (up rho id (some b')) (up hp id (some hb'))) rho (up rho id (some b')) hp (up hp id (some hb')) := by
    refine Evo.of hok (fun id2 hb hq => ?_)
    by_cases h : id2 = id
    · subst h; exact ⟨hb', up_same _ _ _, by rw [up_same]; exact hkind hb hq⟩
    · refine ⟨hb, by rw [up_other _ _ h]; exact hq, ?_⟩
      rw [up_other _ _ h]
      cases hb with
      | var cs => rfl
      | row e ver xs => exact ⟨Nat.le_refl _, fun _ => ⟨rfl, rfl, fun b hb cur t hc => ⟨cur, t, by
          rw [hoth b (Array.getElem?_eq_some_iff.1 hc).1 (hne id2 b (by simp [hq]) hb h)]; exact hc, rfl⟩⟩⟩
  refine ⟨⟨fun id2 hb hq => ?_, fun id1 id2 b h1 h2 h3 h4 => ?_, fun id2 b h1 h2 => ?_, ⟨ho.trans R.fr.os, ht.trans R.fr.tape, hu.trans R.fr.output, Nat.le_trans R.fr.size hs, fun b h1 h2 => ?_⟩, fun id2 hb hb0 h1 h2 => ?_⟩, E⟩
  · by_cases h : id2 = id
    · subst h
      rw [up_same] at hq; cases hq
      exact .inr ⟨b', cur', t', up_same _ _ _, hblk, hh.mono E⟩
    · rw [up_other _ _ h] at hq
      rcases R.heap id2 hb hq with g | ⟨b, cur, t, g1, g2, g3⟩
      · exact .inl ⟨by rw [up_other _ _ h]; exact g.1, g.2⟩
      · refine .inr ⟨b, cur, t, by rw [up_other _ _ h]; exact g1, ?_, g3.mono E⟩
        rw [hoth b (Array.getElem?_eq_some_iff.1 g2).1 (hne id2 b (by simp [hq]) g1 h)]; exact g2
  · by_cases e1 : id1 = id <;> by_cases e2 : id2 = id
    · rw [e1, e2]
    · subst e1
      rw [up_same] at h3; cases h3
      rw [up_other _ _ e2] at h2 h4
      exact absurd rfl (hne id2 b' h2 h4 e2)
    · subst e2
      rw [up_same] at h4; cases h4
      rw [up_other _ _ e1] at h1 h3
      exact absurd rfl (hne id1 b' h1 h3 e1)
    · rw [up_other _ _ e1] at h1 h3; rw [up_other _ _ e2] at h2 h4
      exact R.inj id1 id2 b h1 h2 h3 h4
  · by_cases h : id2 = id
    · subst h
      rw [up_same] at h2; cases h2
      refine ⟨?_, (Array.getElem?_eq_some_iff.1 hblk).1⟩
      rcases hown with ⟨g1, g2⟩ | g
      · exact (R.own _ _ g1 g2).1
      · exact .inr (Nat.le_trans R.fr.size g)
    · rw [up_other _ _ h] at h1 h2
      obtain ⟨g1, g2⟩ := R.own id2 b h1 h2
      exact ⟨g1, by omega⟩
  · have hbb : b ≠ b' := fun he => by
      subst he
      rcases hown with ⟨g1, g2⟩ | g
      · rcases (R.own _ _ g1 g2).1 with g | g
        · exact h2 g.2.2
        · omega
      · have := R.fr.size; omega
    rw [hoth b (by have := R.fr.size; omega) hbb]
    exact R.fr.block b h1 h2
  · by_cases h : id2 = id
    · subst h
      rw [up_same] at h1; cases h1
      rw [up_same]
      cases hq : hp id2 with
      | none => rw [hfresh hq] at h2; cases h2
      | some hb => exact (R.evo id2 hb hb0 hq h2).trans (hkind hb hq)
    · rw [up_other _ _ h] at h1 ⊢
      refine (R.evo id2 hb hb0 h1 h2).trans ?_
      cases hb with
      | var cs => rfl
      | row e ver xs => exact ⟨Nat.le_refl _, fun _ => ⟨rfl, rfl, fun b hb cur t hc => ⟨cur, t, by
          rw [hoth b (Array.getElem?_eq_some_iff.1 hc).1 (hne id2 b (by simp [h1]) hb h)]; exact hc, rfl⟩⟩⟩

theorem RepF.put {C : Ctx} {en : Nat → SV} {hp : Hp} {a : Act} {w : World} {rho : Nat → Option Nat} (R : RepF C en hp a w rho) {d : Nat} (hd : d < C.N) {s : SV} {v : Value}
    (h : Rp w (okk C rho hp) rho hp s v) : RepF C (up en d s) hp (a.put (some d) v) w rho := by
  refine ⟨R.mem, fun n => ?_, ?_, R.defers⟩
  · simp only [Act.put, Array.getD_eq_getD_getElem?, Array.getElem?_setIfInBounds]
    have hn := R.env n
    rw [Array.getD_eq_getD_getElem?] at hn
    by_cases e : n = d
    · subst e
      rw [up_same]
      have hl : n < a.tmps.size := by rw [R.size]; exact hd
      simp [hl]; exact h
    · rw [up_other _ _ e, if_neg (Ne.symm e)]; exact hn
  · simp [Act.put, R.size]

theorem RepH.same {C : Ctx} {hp : Hp} {w : World} {rho : Nat → Option Nat} (R : RepH C hp w rho) : Step C hp hp w w rho rho := R.quiet rfl rfl rfl rfl

/-- A new block for a new thing. -/
theorem RepH.make {C : Ctx} {hp : Hp} {w w1 : World} {rho : Nat → Option Nat} (R : RepH C hp w rho) (hw1 : w1.heap = w.heap) (ho : w1.os = w.os) (ht : w1.tape = w.tape) (hu : w1.output = w.output) (id : Nat) (hb : HB) (cur : Array Value) (t : TypeId)
    (hfr : hp id = none) (hfresh : C.h0 id = none) (hh : Holds w (okk C rho hp) rho hp cur hb) :
    Step C hp (up hp id (some hb)) w (w1.alloc (.cells cur t)) rho (up rho id (some w.heap.size)) := by
  refine R.replace id hb w.heap.size cur t (show w1.os = _ from ho) (show w1.tape = _ from ht) (show w1.output = _ from hu) ?_ ?_ ?_ (.inr (Nat.le_refl _)) (fun hb' hq => by rw [hfr] at hq; cases hq) (fun _ => hfresh) hh
  · simp [hw1]
  · have := heap_alloc_new w1 (.cells cur t); rwa [hw1] at this
  · intro k hk _
    have := heap_alloc_old w1 (.cells cur t) k (by rw [hw1]; exact hk); rw [this, hw1]

end Go.Eng

/- The machine's small operations, each at values that are told by the engine's: loads, stores, new variables, numbers, addresses. -/
namespace Go.Eng
open Go

def szT (P : Program) (t : TypeId) : Option Nat := (P.info? t).map (·.size)
def aggT (P : Program) (t : TypeId) : Option Bool := (P.underlying t).map fun
  | .struct _ | .array _ _ => true
  | _ => false

theorem run_isAgg' {P : Program} {t : TypeId} {b : Bool} (h : aggT P t = some b) (w : World) : (isAgg t).run P w = .ok b w := by
  unfold aggT at h
  cases hu : P.underlying t with
  | none => simp [hu] at h
  | some d =>
    simp only [hu, Option.map_some, Option.some.injEq] at h
    simp only [isAgg, Sem.run_bind, run_underlying hu, Result.andThen_ok]
    cases d <;> (simp only at h; subst h; rfl)

theorem run_sizeOf' {P : Program} {t : TypeId} {n : Nat} (h : szT P t = some n) (w : World) : (sizeOf t).run P w = .ok n w := by
  unfold szT at h
  cases hu : P.info? t with
  | none => simp [hu] at h
  | some i => simp only [hu, Option.map_some, Option.some.injEq] at h; simp [sizeOf, typeInfo, hu, h]

/-- The cells behind an address. -/
def CAt (w : World) (a : Addr) (vs : List Value) : Prop := ∀ (j : Nat) (v : Value), vs[j]? = some v → w.cell? (a.add j) = some v

theorem run_load1 {P : Program} {t : TypeId} {w : World} {a : Addr} {v : Value} (h : aggT P t = some false) (hc : w.cell? a = some v) : (loadVar t a).run P w = .ok v w := by
  simp [loadVar, run_isAgg' h, hc]

theorem run_loadN {P : Program} {t : TypeId} {w : World} {a : Addr} {vs : List Value} (h : aggT P t = some true) (hs : szT P t = some vs.length) (hc : CAt w a vs) : (loadVar t a).run P w = .ok (.agg vs.toArray) w := by
  simp [loadVar, run_isAgg' h, run_sizeOf' hs, run_loadCells_list w a vs hc]

theorem add_lit (b o j : Nat) : (⟨b, o, none⟩ : Addr).add j = ⟨b, o + j, none⟩ := by unfold Addr.add; split <;> simp_all

theorem cell_blk {w : World} {b : Nat} {cur : Array Value} {t : TypeId} {fr : Nat × Nat} (h : w.heap[b]? = some (.cells cur t fr)) (o : Nat) : w.cell? ⟨b, o, none⟩ = cur[o]? := by
  simp [World.cell?, h]

section
variable {w : World} {ok : Nat → Prop} {rho : Nat → Option Nat} {hp : Hp}

theorem CellsIn.sub {cur : Array Value} {off : Nat} {cs : List SV} (h : CellsIn w ok rho hp cur off cs) (k n : Nat) : CellsIn w ok rho hp cur (off + k) ((cs.drop k).take n) := fun j y hy => by
  rw [List.getElem?_take] at hy
  split at hy
  · rw [List.getElem?_drop] at hy
    obtain ⟨v, h1, h2⟩ := h (k + j) y hy
    exact ⟨v, by rw [← Nat.add_assoc] at h1; exact h1, h2⟩
  · cases hy

theorem CellsIn.vals {cur : Array Value} {off : Nat} {cs : List SV} (h : CellsIn w ok rho hp cur off cs) :
    ∃ vs : List Value, vs.length = cs.length ∧ (∀ (j : Nat) (u : Value), vs[j]? = some u → cur[off + j]? = some u ∧ u.oneCell' = true) ∧ ∀ (j : Nat) (y : SV), cs[j]? = some y → Rp w ok rho hp y (vs.getD j undef) := by
  refine ⟨(List.range cs.length).map fun j => cur.getD (off + j) undef, by simp, fun j u hu => ?_, fun j y hy => ?_⟩
  · have hj : j < cs.length := by have := (List.getElem?_eq_some_iff.1 hu).1; simpa using this
    obtain ⟨v, h1, h2, _⟩ := h j _ (List.getElem?_eq_getElem hj)
    simp only [List.getElem?_map, List.getElem?_range hj, Option.map_some, Option.some.injEq, Array.getD_eq_getD_getElem?, h1, Option.getD_some] at hu
    subst hu; exact ⟨h1, h2⟩
  · have hj : j < cs.length := (List.getElem?_eq_some_iff.1 hy).1
    obtain ⟨v, h1, _, h3⟩ := h j y hy
    simp only [List.getD_eq_getElem?_getD, List.getElem?_map, List.getElem?_range hj, Option.map_some, Option.getD_some, Array.getD_eq_getD_getElem?, h1]
    exact h3

/-- A part of a thing of the call's own, read as one value. -/
theorem CellsIn.load {P : Program} {cur : Array Value} {off : Nat} {cs : List SV} {b : Nat} {t0 : TypeId} {fr : Nat × Nat} (hblk : w.heap[b]? = some (.cells cur t0 fr)) (h : CellsIn w ok rho hp cur off cs) {t : TypeId} (ha : aggT P t = some true) (hs : szT P t = some cs.length) :
    ∃ v, (loadVar t ⟨b, off, none⟩).run P w = .ok v w ∧ Rp w ok rho hp (.agg cs) v := by
  obtain ⟨vs, h1, h2, h3⟩ := h.vals
  refine ⟨.agg vs.toArray, run_loadN ha (by rw [h1]; exact hs) (fun j u hu => ?_), .agg cs vs h1 (fun j u hu => (h2 j u hu).2) h3⟩
  rw [add_lit, cell_blk hblk]; exact (h2 j u hu).1

theorem CellsIn.load1 {P : Program} {cur : Array Value} {off : Nat} {cs : List SV} {b : Nat} {t0 : TypeId} {fr : Nat × Nat} (hblk : w.heap[b]? = some (.cells cur t0 fr)) (h : CellsIn w ok rho hp cur off cs) {t : TypeId} (ha : aggT P t = some false) {k : Nat} {y : SV} (hy : cs[k]? = some y) :
    ∃ v, (loadVar t ⟨b, off + k, none⟩).run P w = .ok v w ∧ Rp w ok rho hp y v := by
  obtain ⟨v, h1, _, h3⟩ := h k y hy
  exact ⟨v, run_load1 ha (by rw [cell_blk hblk]; exact h1), h3⟩
end

section
variable {P : Program} {C : Ctx} {hp : Hp} {w : World} {rho : Nat → Option Nat}

theorem loadVar_ptr (R : RepH C hp w rho) {id off : Nat} {v : Value} (hv : Rp w (okk C rho hp) rho hp (.ptr id off) v) {cs : List SV} (hq : hp id = some (.var cs)) {t : TypeId} {n : Nat} (hs : szT P t = some n) (ha : aggT P t = some true) (hl : off + n ≤ cs.length) :
    ∃ u, (Instr.loadAt t v).run P w = .ok u w ∧ Rp w (okk C rho hp) rho hp (.agg ((cs.drop off).take n)) u := by
  cases hv with
  | ptr _ _ _ h1 h0 h =>
    obtain ⟨b, hb, rfl⟩ := h cs hq
    rcases R.heap id _ hq with ⟨_, _, _, h'⟩ | ⟨b', cur, t0, g1, g2, g3⟩
    · cases h'
    · rw [hb] at g1; cases g1
      obtain ⟨u, hu, hr⟩ := CellsIn.load (P := P) (t := t) g2 (g3.2.sub off n) ha (by rw [hs, List.length_take, List.length_drop]; congr 1; omega)
      refine ⟨u, ?_, hr⟩
      simp only [Nat.zero_add] at hu
      simp [Instr.loadAt, Instr.sureAddr, hu]

theorem loadVar_ptr1 (R : RepH C hp w rho) {id off : Nat} {v : Value} (hv : Rp w (okk C rho hp) rho hp (.ptr id off) v) {cs : List SV} (hq : hp id = some (.var cs)) {t : TypeId} (ha : aggT P t = some false) {y : SV} (hy : cs[off]? = some y) :
    ∃ u, (Instr.loadAt t v).run P w = .ok u w ∧ Rp w (okk C rho hp) rho hp y u := by
  cases hv with
  | ptr _ _ _ h1 h0 h =>
    obtain ⟨b, hb, rfl⟩ := h cs hq
    rcases R.heap id _ hq with ⟨_, _, _, h'⟩ | ⟨b', cur, t0, g1, g2, g3⟩
    · cases h'
    · rw [hb] at g1; cases g1
      obtain ⟨u, hu, hr⟩ := CellsIn.load1 (P := P) (t := t) g2 g3.2 ha hy
      refine ⟨u, ?_, hr⟩
      simp only [Nat.zero_add] at hu
      simp [Instr.loadAt, Instr.sureAddr, hu]

theorem loadVar_ept (R : RepH C hp w rho) {id ver i off : Nat} {v : Value} (hv : Rp w (okk C rho hp) rho hp (.ept id ver i off) v) {e : Nat} {xs : List (List SV)} (hq : hp id = some (.row e ver xs)) {t : TypeId} {n : Nat} (hs : szT P t = some n) (ha : aggT P t = some true)
    {x : List SV} (hx : xs[i]? = some x) (hl : off + n ≤ e) :
    ∃ u, (Instr.loadAt t v).run P w = .ok u w ∧ Rp w (okk C rho hp) rho hp (.agg ((x.drop off).take n)) u := by
  cases hv with
  | ept _ _ _ _ _ h1 h0 hle h =>
    obtain ⟨b, hb, rfl⟩ := h e xs hq
    rcases R.heap id _ hq with ⟨hn, _⟩ | ⟨b', cur, t0, g1, g2, g3⟩
    · rw [hb] at hn; cases hn
    · rw [hb] at g1; cases g1
      have hxe := g3.1 x (List.mem_of_getElem? hx)
      obtain ⟨u, hu, hr⟩ := CellsIn.load (P := P) (t := t) g2 ((g3.2.2 i x hx).sub off n) ha (by rw [hs, List.length_take, List.length_drop]; congr 1; omega)
      refine ⟨u, ?_, hr⟩
      simp [Instr.loadAt, Instr.sureAddr, hu]

theorem loadVar_ept1 (R : RepH C hp w rho) {id ver i off : Nat} {v : Value} (hv : Rp w (okk C rho hp) rho hp (.ept id ver i off) v) {e : Nat} {xs : List (List SV)} (hq : hp id = some (.row e ver xs)) {t : TypeId} (ha : aggT P t = some false)
    {x : List SV} (hx : xs[i]? = some x) {y : SV} (hy : x[off]? = some y) :
    ∃ u, (Instr.loadAt t v).run P w = .ok u w ∧ Rp w (okk C rho hp) rho hp y u := by
  cases hv with
  | ept _ _ _ _ _ h1 h0 hle h =>
    obtain ⟨b, hb, rfl⟩ := h e xs hq
    rcases R.heap id _ hq with ⟨hn, _⟩ | ⟨b', cur, t0, g1, g2, g3⟩
    · rw [hb] at hn; cases hn
    · rw [hb] at g1; cases g1
      obtain ⟨u, hu, hr⟩ := CellsIn.load1 (P := P) (t := t) g2 (g3.2.2 i x hx) ha hy
      refine ⟨u, ?_, hr⟩
      simp [Instr.loadAt, Instr.sureAddr, hu]

theorem loadVar_rop {cs : List RV} {v : Value} (hv : RO w (okk C rho hp) (.rop cs) v) {t : TypeId} {n : Nat} (hs : szT P t = some n) (ha : aggT P t = some true) (hl : n ≤ cs.length) :
    ∃ u, (Instr.loadAt t v).run P w = .ok u w ∧ Rp w (okk C rho hp) rho hp (.agg ((cs.take n).map .rv)) u := by
  cases hv with
  | rop _ a c hr h1 hy =>
    refine ⟨.agg ((List.range n).map c).toArray, ?_, .agg _ _ (by simp; omega) (fun j u hu => ?_) (fun j y hjy => ?_)⟩
    · have := run_loadN (P := P) (t := t) (w := w) (a := a) (vs := (List.range n).map c) ha (by simpa using hs) (fun j u hu => ?_)
      · simp [Instr.loadAt, Instr.sureAddr, this]
      · have hj : j < n := by have := (List.getElem?_eq_some_iff.1 hu).1; simpa using this
        rw [List.getElem?_map, List.getElem?_range hj] at hu
        simp only [Option.map_some, Option.some.injEq] at hu
        subst hu
        exact (hr j _ (List.getElem?_eq_getElem (by omega))).2
    · have hj : j < n := by have := (List.getElem?_eq_some_iff.1 hu).1; simpa using this
      rw [List.getElem?_map, List.getElem?_range hj] at hu
      simp only [Option.map_some, Option.some.injEq] at hu
      subst hu
      have hg := List.getElem?_eq_getElem (l := cs) (i := j) (by omega)
      exact (hy j _ hg).oneCell (h1 j _ hg)
    · rw [List.getElem?_map, List.getElem?_take] at hjy
      split at hjy
      · rename_i hj
        cases hc : cs[j]? with
        | none => simp [hc] at hjy
        | some z =>
          simp only [hc, Option.map_some, Option.some.injEq] at hjy
          subst hjy
          refine .rv _ _ ?_
          simp only [List.getD_eq_getElem?_getD, List.getElem?_map, List.getElem?_range hj, Option.map_some, Option.getD_some]
          exact hy j z hc
      · cases hjy

theorem loadVar_rop1 {cs : List RV} {v : Value} (hv : RO w (okk C rho hp) (.rop cs) v) {t : TypeId} (ha : aggT P t = some false) {y : RV} (hl : cs[0]? = some y) :
    ∃ u, (Instr.loadAt t v).run P w = .ok u w ∧ Rp w (okk C rho hp) rho hp (.rv y) u := by
  cases hv with
  | rop _ a c hr h1 hy =>
    have h := (hr 0 y hl).2
    have := run_load1 (P := P) (t := t) ha (by simpa [Addr.add] using h)
    exact ⟨c 0, by simp [Instr.loadAt, Instr.sureAddr, this], .rv _ _ (hy 0 y hl)⟩

/-- The cells of a value. -/
def cellsSV : SV → Option (List SV)
  | .agg cs => some cs
  | .rv (.agg _) => none
  | .dead => none
  | .tup _ => none
  | s => some [s]

theorem Rp.one {ok : Nat → Prop} {s : SV} {v : Value} (h : Rp w ok rho hp s v) (h1 : s.one = true) : v.oneCell' = true := by
  cases h with
  | rv r v h => exact h.oneCell h1
  | ptr _ _ _ g => exact g
  | ept _ _ _ _ _ g => exact g
  | row _ _ _ _ g => exact g
  | win _ _ _ _ _ g => exact g
  | fn => rfl
  | ifc => rfl
  | dead => cases h1
  | agg => cases h1
  | tup => cases h1

theorem Value.cells_one {v : Value} (h : v.oneCell' = true) : v.cells = #[v] := by
  cases v <;> first | rfl | (simp [Value.oneCell'] at h)

theorem Rp.cells {ok : Nat → Prop} {s : SV} {v : Value} (h : Rp w ok rho hp s v) {cs : List SV} (hc : cellsSV s = some cs) :
    ∃ vs : List Value, v.cells = vs.toArray ∧ vs.length = cs.length ∧ (∀ (j : Nat) (u : Value), vs[j]? = some u → u.oneCell' = true) ∧ ∀ (j : Nat) (y : SV), cs[j]? = some y → Rp w ok rho hp y (vs.getD j undef) := by
  have single : s.one = true → cs = [s] → ∃ vs : List Value, v.cells = vs.toArray ∧ vs.length = cs.length ∧ (∀ (j : Nat) (u : Value), vs[j]? = some u → u.oneCell' = true) ∧ ∀ (j : Nat) (y : SV), cs[j]? = some y → Rp w ok rho hp y (vs.getD j undef) := by
    intro h1 he
    subst he
    refine ⟨[v], by rw [Value.cells_one (h.one h1)], rfl, fun j u hu => ?_, fun j y hy => ?_⟩
    · cases j with
      | zero => simp at hu; subst hu; exact h.one h1
      | succ j => simp at hu
    · cases j with
      | zero => simp at hy; subst hy; exact h
      | succ j => simp at hy
  cases s with
  | agg cs' =>
    simp only [cellsSV, Option.some.injEq] at hc; subst hc
    cases h with
    | agg _ vs hl h1 hy => exact ⟨vs, rfl, hl, h1, hy⟩
  | dead => cases hc
  | tup => cases hc
  | rv r => cases r <;> first | (cases hc; done) | (simp only [cellsSV, Option.some.injEq] at hc; exact single rfl hc.symm)
  | _ => simp only [cellsSV, Option.some.injEq] at hc; exact single rfl hc.symm

theorem Holds.var_of {ok : Nat → Prop} {cs : List SV} {vs : List Value} (hl : vs.length = cs.length) (h1 : ∀ (j : Nat) (u : Value), vs[j]? = some u → u.oneCell' = true) (hy : ∀ (j : Nat) (y : SV), cs[j]? = some y → Rp w ok rho hp y (vs.getD j undef)) :
    Holds w ok rho hp vs.toArray (.var cs) := by
  refine ⟨by simpa using hl, fun j y hj => ?_⟩
  have hlt : j < vs.length := by rw [hl]; exact (List.getElem?_eq_some_iff.1 hj).1
  have hg := List.getElem?_eq_getElem hlt
  refine ⟨vs[j], by simp [hg], h1 j _ hg, ?_⟩
  have := hy j y hj
  rwa [List.getD_eq_getElem?_getD, hg, Option.getD_some] at this

/-- A new variable. -/
theorem newVar_ok (R : RepH C hp w rho) {id : Nat} (hf : hp id = none) (hf0 : C.h0 id = none) (t : TypeId) {s : SV} {v : Value} (h : Rp w (okk C rho hp) rho hp s v) {cs : List SV} (hc : cellsSV s = some cs) :
    ∃ u w' rho', (Instr.box t v).run P w = .ok u w' ∧ Step C hp (up hp id (some (.var cs))) w w' rho rho' ∧ Rp w' (okk C rho' (up hp id (some (.var cs)))) rho' (up hp id (some (.var cs))) (.ptr id 0) u := by
  obtain ⟨vs, h1, h2, h3, h4⟩ := h.cells hc
  have S := R.make (w1 := w) rfl rfl rfl rfl id (.var cs) vs.toArray t hf hf0 (Holds.var_of h2 h3 h4)
  refine ⟨.pointer (some ⟨w.heap.size, 0, none⟩), w.alloc (.cells vs.toArray t), _, ?_, S, .ptr id 0 _ rfl (by simp) (fun cs' _ => ⟨w.heap.size, up_same _ _ _, rfl⟩)⟩
  simp [Instr.box, newVar, newRow, h1]
end

end Go.Eng

/- Stores, zero values, and the operations on numbers and addresses. -/
namespace Go.Eng
open Go

/-- A list with another laid over it from place o on. -/
def splice {α : Type} (l : List α) (o : Nat) (x : List α) : List α := l.take o ++ x ++ l.drop (o + x.length)

theorem splice_length {α : Type} (l : List α) (o : Nat) (x : List α) (h : o + x.length ≤ l.length) : (splice l o x).length = l.length := by
  simp [splice]; omega

theorem splice_get {α : Type} (l : List α) (o : Nat) (x : List α) (h : o + x.length ≤ l.length) (j : Nat) :
    (splice l o x)[j]? = if o ≤ j ∧ j < o + x.length then x[j - o]? else l[j]? := by
  unfold splice
  by_cases h1 : j < o
  · rw [if_neg (by omega), List.append_assoc, List.getElem?_append_left (by simp; omega), List.getElem?_take, if_pos h1]
  · by_cases h2 : j < o + x.length
    · rw [if_pos ⟨by omega, h2⟩, List.append_assoc, List.getElem?_append_right (by simp; omega), List.getElem?_append_left (by simp; omega)]
      congr 1; simp; omega
    · rw [if_neg (by omega), List.getElem?_append_right (by simp; omega), List.getElem?_drop]
      congr 1; simp; omega

section
variable {w : World} {ok : Nat → Prop} {rho : Nat → Option Nat} {hp : Hp}

theorem CellsIn.over {cur : Array Value} {off : Nat} {cs : List SV} (h : CellsIn w ok rho hp cur off cs) {o : Nat} {cx : List SV} {vs : List Value} (hl : vs.length = cx.length) (ho : o + cx.length ≤ cs.length) (hsz : off + cs.length ≤ cur.size)
    (h1 : ∀ (j : Nat) (u : Value), vs[j]? = some u → u.oneCell' = true) (hy : ∀ (j : Nat) (y : SV), cx[j]? = some y → Rp w ok rho hp y (vs.getD j undef)) :
    CellsIn w ok rho hp (splice cur.toList (off + o) vs).toArray off (splice cs o cx) := fun j y hj => by
  rw [splice_get _ _ _ ho] at hj
  simp only [List.getElem?_toArray]
  rw [splice_get _ _ _ (by simp; omega)]
  by_cases c : o ≤ j ∧ j < o + cx.length
  · rw [if_pos c] at hj
    rw [if_pos (by omega), show off + j - (off + o) = j - o by omega]
    have hlt : j - o < vs.length := by omega
    have hg := List.getElem?_eq_getElem hlt
    refine ⟨vs[j - o], hg, h1 _ _ hg, ?_⟩
    have := hy _ y hj
    rwa [List.getD_eq_getElem?_getD, hg, Option.getD_some] at this
  · rw [if_neg c] at hj
    rw [if_neg (by omega)]
    obtain ⟨v, g1, g2⟩ := h j y hj
    exact ⟨v, by simpa using g1, g2⟩

theorem CellsIn.apart {cur : Array Value} {off : Nat} {cs : List SV} (h : CellsIn w ok rho hp cur off cs) {o : Nat} {vs : List Value} (ho : o + vs.length ≤ cur.size) (hd : off + cs.length ≤ o ∨ o + vs.length ≤ off) :
    CellsIn w ok rho hp (splice cur.toList o vs).toArray off cs := fun j y hj => by
  obtain ⟨v, g1, g2⟩ := h j y hj
  have hlt : j < cs.length := (List.getElem?_eq_some_iff.1 hj).1
  refine ⟨v, ?_, g2⟩
  simp only [List.getElem?_toArray]
  rw [splice_get _ _ _ (by simpa using ho), if_neg (by omega)]
  simpa using g1
end

theorem run_storeVar_at {P : Program} {w : World} {b o : Nat} {cur : Array Value} {t0 t : TypeId} {v : Value} {vs : List Value} (hb : w.heap[b]? = some (.cells cur t0 (0, 0))) (hv : v.cells = vs.toArray) (hs : szT P t = some vs.length)
    (hf : o + vs.length ≤ cur.size) (h1 : ∀ (j : Nat) (u : Value), vs[j]? = some u → u.oneCell' = true) :
    (storeVar t ⟨b, o, none⟩ v).run P w = .ok () (w.setRow b (splice cur.toList o vs).toArray) := by
  have h := run_storeCells_at P b o t0 vs 0 cur w hb (by simpa using hf) (fun v hv => by
    obtain ⟨j, hj⟩ := List.getElem?_of_mem hv
    exact h1 j v hj)
  simp only [Nat.add_zero] at h
  simp [storeVar, hv, run_sizeOf' hs, h, splice]

section
variable {P : Program} {C : Ctx} {hp : Hp} {w : World} {rho : Nat → Option Nat}

theorem RepH.write (R : RepH C hp w rho) {id b : Nat} {hb hb' : HB} {cur cur' : Array Value} {t0 : TypeId} (hq : hp id = some hb) (hr : rho id = some b) (hblk : w.heap[b]? = some (.cells cur t0 (0, 0))) (hsz : cur'.size = cur.size)
    (hk : EvoHB w w (some b) (some b) hb hb') (hh : Holds w (okk C rho hp) rho hp cur' hb') :
    Step C hp (up hp id (some hb')) w (w.setRow b cur') rho (up rho id (some b)) := by
  refine R.replace id hb' b cur' t0 rfl rfl rfl (by simp) (setRow_heap w b cur cur' t0 _ hblk) (fun k _ hk => setRow_other w b k _ hk) (.inl ⟨by simp [hq], hr⟩) (fun hb2 hq2 => ?_) (fun h => by rw [hq] at h; cases h) hh
  rw [hq] at hq2; cases hq2
  rw [hr]
  cases hb <;> cases hb' <;> simp only [EvoHB] at hk ⊢
  refine ⟨hk.1, fun he => ⟨(hk.2 he).1, trivial, fun b2 hb2 c2 t2 hc2 => ?_⟩⟩
  cases hb2
  rw [hblk] at hc2; cases hc2
  exact ⟨cur', t0, setRow_heap w b cur cur' t0 _ hblk, hsz⟩

theorem store_ptr (R : RepH C hp w rho) {id off : Nat} {p : Value} (hv : Rp w (okk C rho hp) rho hp (.ptr id off) p) {cs : List SV} (hq : hp id = some (.var cs)) {t : TypeId} {n : Nat} (hs : szT P t = some n)
    {s : SV} {v : Value} (h : Rp w (okk C rho hp) rho hp s v) {cx : List SV} (hc : cellsSV s = some cx) (hn : cx.length = n) (hl : off + n ≤ cs.length) :
    ∃ w' rho', (Instr.storeAt t p v).run P w = .ok () w' ∧ Step C hp (up hp id (some (.var (splice cs off cx)))) w w' rho rho' := by
  obtain ⟨vs, k1, k2, k3, k4⟩ := h.cells hc
  cases hv with
  | ptr _ _ _ h1 h0 hbb =>
    obtain ⟨b, hb, rfl⟩ := hbb cs hq
    rcases R.heap id _ hq with ⟨_, _, _, h'⟩ | ⟨b', cur, t0, g1, g2, g3⟩
    · cases h'
    · rw [hb] at g1; cases g1
      have hsz : cur.size = cs.length := g3.1
      have hrun := run_storeVar_at (P := P) (t := t) (o := off) g2 k1 (by rw [hs, k2, hn]) (by omega) k3
      refine ⟨w.setRow b (splice cur.toList off vs).toArray, _, by simp [Instr.storeAt, Instr.sureAddr, hrun], R.write hq hb g2 ?_ rfl ?_⟩
      · simp only [List.size_toArray]; rw [splice_length _ _ _ (by simp; omega)]; simp
      · refine ⟨?_, ?_⟩
        · simp only [List.size_toArray]; rw [splice_length _ _ _ (by simp; omega), splice_length _ _ _ (by omega)]; simpa using hsz
        · have := g3.2.over (o := off) k2 (by omega) (by omega) k3 k4
          simpa using this

theorem store_ept (R : RepH C hp w rho) {id ver i off : Nat} {p : Value} (hv : Rp w (okk C rho hp) rho hp (.ept id ver i off) p) {e : Nat} {xs : List (List SV)} (hq : hp id = some (.row e ver xs)) {t : TypeId} {n : Nat} (hs : szT P t = some n)
    {s : SV} {v : Value} (h : Rp w (okk C rho hp) rho hp s v) {cx : List SV} (hc : cellsSV s = some cx) (hn : cx.length = n) {x : List SV} (hx : xs[i]? = some x) (hl : off + n ≤ e) :
    ∃ w' rho', (Instr.storeAt t p v).run P w = .ok () w' ∧ Step C hp (up hp id (some (.row e ver (xs.set i (splice x off cx))))) w w' rho rho' := by
  obtain ⟨vs, k1, k2, k3, k4⟩ := h.cells hc
  cases hv with
  | ept _ _ _ _ _ h1 h0 hle hbb =>
    obtain ⟨b, hb, rfl⟩ := hbb e xs hq
    rcases R.heap id _ hq with ⟨hn, _⟩ | ⟨b', cur, t0, g1, g2, g3⟩
    · rw [hb] at hn; cases hn
    · rw [hb] at g1; cases g1
      have hxe := g3.1 x (List.mem_of_getElem? hx)
      have hi : i < xs.length := (List.getElem?_eq_some_iff.1 hx).1
      have hie : i * e + e ≤ cur.size := by
        have h1 : (i + 1) * e ≤ xs.length * e := Nat.mul_le_mul_right _ hi
        have h2 := g3.2.1
        rw [Nat.add_mul] at h1; omega
      have hrun := run_storeVar_at (P := P) (t := t) (o := i * e + off) g2 k1 (by rw [hs, k2, hn]) (by omega) k3
      have hsl : (splice x off cx).length = e := by rw [splice_length _ _ _ (by omega)]; exact hxe
      refine ⟨w.setRow b (splice cur.toList (i * e + off) vs).toArray, _, by simp [Instr.storeAt, Instr.sureAddr, hrun], R.write hq hb g2 ?_ ⟨Nat.le_refl _, fun _ => ⟨rfl, rfl, fun _ _ c t hc => ⟨c, t, hc, rfl⟩⟩⟩ ?_⟩
      · simp only [List.size_toArray]; rw [splice_length _ _ _ (by simp; omega)]; simp
      · refine ⟨fun y hy => ?_, ?_, fun j y hj => ?_⟩
        · rcases List.mem_or_eq_of_mem_set hy with h | h
          · exact g3.1 y h
          · rw [h]; exact hsl
        · simp only [List.size_toArray, List.length_set]; rw [splice_length _ _ _ (by simp; omega)]; simpa using g3.2.1
        · rw [List.getElem?_set] at hj
          by_cases hij : i = j
          · subst hij
            simp only [if_true, hi] at hj
            cases hj
            exact (g3.2.2 i x hx).over (o := off) k2 (by omega) (by omega) k3 k4
          · rw [if_neg hij] at hj
            have hye := g3.1 y (List.mem_of_getElem? hj)
            refine (g3.2.2 j y hj).apart (by omega) ?_
            rcases Nat.lt_or_gt_of_ne hij with h | h
            · right
              have : (i + 1) * e ≤ j * e := Nat.mul_le_mul_right _ h
              rw [Nat.add_mul] at this; omega
            · left
              have : (j + 1) * e ≤ i * e := Nat.mul_le_mul_right _ h
              rw [Nat.add_mul] at this; omega
end

/-- Constants. -/
def cvV : Value → Option RV
  | .int k n => some (.int k n)
  | .bool b => some (.bool b)
  | .string s => some (.str s)
  | .pointer none => some .nilp
  | .slice none 0 0 => some .nilsl
  | .nilIface => some .nili
  | .nilFunc => some .nilf
  | _ => none

theorem cvV_ok {v : Value} {r : RV} (h : cvV v = some r) (w : World) (ok : Nat → Prop) : RO w ok r v ∧ r.one = true := by
  cases v with
  | int k n => cases h; exact ⟨.int k n, rfl⟩
  | bool b => cases h; exact ⟨.bool b, rfl⟩
  | string s => cases h; exact ⟨.str s, rfl⟩
  | pointer a => cases a <;> cases h; exact ⟨.nilp, rfl⟩
  | slice a n c =>
    cases a with
    | some a => cases h
    | none =>
      cases n with
      | succ n => cases h
      | zero => cases c with
        | succ c => cases h
        | zero => cases h; exact ⟨.nilsl, rfl⟩
  | nilIface => cases h; exact ⟨.nili, rfl⟩
  | nilFunc => cases h; exact ⟨.nilf, rfl⟩
  | _ => cases h

def cvL : List Value → Option (List RV)
  | [] => some []
  | v :: r => match cvV v, cvL r with
    | some x, some y => some (x :: y)
    | _, _ => none

theorem cvL_ok (w : World) (ok : Nat → Prop) (rho : Nat → Option Nat) (hp : Hp) : ∀ {vs : List Value} {rs : List RV}, cvL vs = some rs → vs.length = rs.length ∧ (∀ (j : Nat) (u : Value), vs[j]? = some u → u.oneCell' = true) ∧
    ∀ (j : Nat) (y : SV), (rs.map SV.rv)[j]? = some y → Rp w ok rho hp y (vs.getD j undef)
  | [], rs, h => by cases h; exact ⟨rfl, fun j u hu => by simp at hu, fun j y hy => by simp at hy⟩
  | v :: r, rs, h => by
    unfold cvL at h
    cases hv : cvV v with
    | none => simp [hv] at h
    | some x =>
      cases hr : cvL r with
      | none => simp [hv, hr] at h
      | some y =>
        simp only [hv, hr, Option.some.injEq] at h
        subst h
        obtain ⟨h1, h2, h3⟩ := cvL_ok w ok rho hp hr
        obtain ⟨g1, g2⟩ := cvV_ok hv w ok
        refine ⟨by simp [h1], fun j u hu => ?_, fun j z hz => ?_⟩
        · cases j with
          | zero => simp at hu; subst hu; exact g1.oneCell g2
          | succ j => simp at hu; exact h2 j u hu
        · cases j with
          | zero => simp at hz; subst hz; exact .rv _ _ g1
          | succ j => simp only [List.map_cons, List.getElem?_cons_succ] at hz; exact h3 j z hz

def zeroT (P : Program) (t : TypeId) : Option (List RV) := match P.info? t with
  | some i => match i.zero with
    | some z => cvL z.cells.toList
    | none => none
  | none => none

section
variable {P : Program} {C : Ctx} {hp : Hp} {w : World} {rho : Nat → Option Nat}

theorem alloc_ok (R : RepH C hp w rho) {id : Nat} (hf : hp id = none) (hf0 : C.h0 id = none) {t : TypeId} {z : List RV} (hz : zeroT P t = some z) (x : Value) :
    ∃ u w' rho', (Instr.alloc t true x).run P w = .ok u w' ∧ Step C hp (up hp id (some (.var (z.map .rv)))) w w' rho rho' ∧ Rp w' (okk C rho' (up hp id (some (.var (z.map .rv))))) rho' (up hp id (some (.var (z.map .rv)))) (.ptr id 0) u := by
  unfold zeroT at hz
  cases hi : P.info? t with
  | none => simp [hi] at hz
  | some i =>
    cases hzz : i.zero with
    | none => simp [hi, hzz] at hz
    | some zv =>
      simp only [hi, hzz] at hz
      obtain ⟨h1, h2, h3⟩ := cvL_ok w (okk C rho hp) rho hp hz
      have S := R.make (w1 := w) rfl rfl rfl rfl id (.var (z.map .rv)) zv.cells t hf hf0 (by
        have := Holds.var_of (vs := zv.cells.toList) (cs := z.map .rv) (by simpa using h1) h2 h3
        simpa using this)
      refine ⟨.pointer (some ⟨w.heap.size, 0, none⟩), w.alloc (.cells zv.cells t), _, ?_, S, .ptr id 0 _ rfl (by simp) (fun cs' _ => ⟨w.heap.size, up_same _ _ _, rfl⟩)⟩
      simp [Instr.alloc, newVar, newRow, zeroValue, typeInfo, hi, hzz]
end

end Go.Eng

/- Addresses of fields and elements, lengths, numbers, comparisons with nil. -/
namespace Go.Eng
open Go

theorem addr_add_add (a : Addr) (i j : Nat) : (a.add i).add j = a.add (i + j) := by
  unfold Addr.add
  by_cases hi : i = 0 <;> by_cases hj : j = 0 <;> simp [hi, hj]
  omega
theorem addr_add_block (a : Addr) (i : Nat) : (a.add i).block = a.block := by unfold Addr.add; split <;> rfl

theorem RO.shift {w : World} {ok : Nat → Prop} {cs : List RV} {a : Addr} (h : RO w ok (.rop cs) (.pointer (some a))) (k : Nat) : RO w ok (.rop (cs.drop k)) (.pointer (some (a.add k))) := by
  cases h with
  | rop _ _ c hr h1 hy =>
    refine .rop _ _ (fun j => c (k + j)) (fun j y hj => ?_) (fun j y hj => ?_) (fun j y hj => ?_)
    · rw [List.getElem?_drop] at hj
      rw [addr_add_block, addr_add_add]
      exact hr (k + j) y hj
    · rw [List.getElem?_drop] at hj; exact h1 _ y hj
    · rw [List.getElem?_drop] at hj; exact hy _ y hj

/-- A field's place and type. -/
def fldT (P : Program) (s : TypeId) (f : Nat) : Option (Nat × TypeId) := match P.underlying s with
  | some (.struct fs) => match fs[f]? with
    | some x => some (x.offset, x.type)
    | none => none
  | _ => none

section
variable {P : Program} {C : Ctx} {hp : Hp} {w : World} {rho : Nat → Option Nat}

theorem run_fieldAt {s : TypeId} {f off : Nat} {ft : TypeId} (h : fldT P s f = some (off, ft)) {n : Nat} (hs : szT P ft = some (n + 1)) (a : Addr) : (Instr.fieldAt s (.pointer (some a)) f).run P w = .ok (.pointer (some (a.add off))) w := by
  unfold fldT at h
  split at h
  · rename_i fs hu
    split at h
    · rename_i x hx
      cases h
      simp [Instr.fieldAt, run_underlying hu, hx, Instr.sureAddr, fieldPlace, run_sizeOf' hs]
    · cases h
  · cases h

theorem fldAddr_ptr {id o : Nat} {v : Value} (hv : Rp w (okk C rho hp) rho hp (.ptr id o) v) {cs : List SV} (hq : hp id = some (.var cs)) {s : TypeId} {f off : Nat} {ft : TypeId} (h : fldT P s f = some (off, ft)) {n : Nat} (hs : szT P ft = some (n + 1)) :
    ∃ u, (Instr.fieldAt s v f).run P w = .ok u w ∧ Rp w (okk C rho hp) rho hp (.ptr id (o + off)) u := by
  cases hv with
  | ptr _ _ _ h1 h0 hbb =>
    obtain ⟨b, hb, rfl⟩ := hbb cs hq
    refine ⟨_, run_fieldAt h hs _, .ptr _ _ _ rfl h0 (fun _ _ => ⟨b, hb, by rw [add_lit]⟩)⟩

theorem fldAddr_ept {id ver i o : Nat} {v : Value} (hv : Rp w (okk C rho hp) rho hp (.ept id ver i o) v) {e : Nat} {xs : List (List SV)} (hq : hp id = some (.row e ver xs)) {s : TypeId} {f off : Nat} {ft : TypeId} (h : fldT P s f = some (off, ft)) {n : Nat} (hs : szT P ft = some (n + 1)) :
    ∃ u, (Instr.fieldAt s v f).run P w = .ok u w ∧ Rp w (okk C rho hp) rho hp (.ept id ver i (o + off)) u := by
  cases hv with
  | ept _ _ _ _ _ h1 h0 hle hbb =>
    obtain ⟨b, hb, rfl⟩ := hbb e xs hq
    refine ⟨_, run_fieldAt h hs _, .ept _ _ _ _ _ rfl h0 hle (fun e' xs' hq' => ⟨b, hb, ?_⟩)⟩
    rw [hq] at hq'; cases hq'
    rw [add_lit, Nat.add_assoc]

theorem fldAddr_rop {cs : List RV} {v : Value} (hv : RO w (okk C rho hp) (.rop cs) v) {s : TypeId} {f off : Nat} {ft : TypeId} (h : fldT P s f = some (off, ft)) {n : Nat} (hs : szT P ft = some (n + 1)) :
    ∃ u, (Instr.fieldAt s v f).run P w = .ok u w ∧ Rp w (okk C rho hp) rho hp (.rv (.rop (cs.drop off))) u := by
  have hv' := hv
  cases hv with
  | rop _ a c hr h1 hy => exact ⟨_, run_fieldAt h hs _, .rv _ _ (hv'.shift off)⟩

theorem run_ixSlice {t e : TypeId} {n : Nat} (ht : P.underlying t = some (.slice e)) (hs : szT P e = some n) (a : Addr) (len cap : Nat) (k : IntKind) (i : Int) (h0 : 0 ≤ i) (h1 : i < len) :
    (Instr.indexAt t (.slice (some a) len cap) (.int k i)).run P w = .ok (.pointer (some (a.add (i.toNat * n)))) w := by
  simp [Instr.indexAt, run_underlying ht, asIntOf, h0, h1, run_sizeOf' hs]

theorem run_ixArr {t e : TypeId} {n len : Nat} (ht : P.underlying t = some (.array len e)) (hs : szT P e = some n) (a : Addr) (k : IntKind) (i : Int) (h0 : 0 ≤ i) (h1 : i < len) :
    (Instr.indexAt t (.pointer (some a)) (.int k i)).run P w = .ok (.pointer (some (a.add (i.toNat * n)))) w := by
  simp [Instr.indexAt, run_underlying ht, asIntOf, h0, h1, run_sizeOf' hs, Instr.sureAddr]

theorem ix_sl {t et : TypeId} {e : Nat} (ht : P.underlying t = some (.slice et)) (hs : szT P et = some e) {xs : List (List RV)} {v : Value} (hv : RO w (okk C rho hp) (.sl e xs) v) {k : IntKind} {i : Int} (h0 : 0 ≤ i) (h1 : i < xs.length) :
    ∃ u, (Instr.indexAt t v (.int k i)).run P w = .ok u w ∧ Rp w (okk C rho hp) rho hp (.rv (.rop ((xs[i.toNat]?).getD []))) u := by
  cases hv with
  | sl _ _ a cap c g0 gc gm ge gr g1 gy =>
    cases a with
    | none => obtain ⟨rfl, _⟩ := g0 rfl; simp at h1; omega
    | some a =>
      have hi : i.toNat < xs.length := by omega
      have hx := List.getElem?_eq_getElem hi
      refine ⟨_, run_ixSlice ht hs a _ _ k i h0 h1, .rv _ _ ?_⟩
      rw [hx, Option.getD_some]
      refine .rop _ _ (fun j => c i.toNat j) (fun j y hj => ?_) (fun j y hj => g1 _ _ j y hx hj) (fun j y hj => gy _ _ j y hx hj)
      obtain ⟨ad, h2, h3, h4⟩ := gr _ _ j y hx hj
      cases h2
      rw [addr_add_block, addr_add_add]
      exact ⟨h3, h4⟩

theorem ix_row {t et : TypeId} {e : Nat} (ht : P.underlying t = some (.slice et)) (hs : szT P et = some e) {id ver len : Nat} {v : Value} (hv : Rp w (okk C rho hp) rho hp (.row id ver len) v) {xs : List (List SV)} (hq : hp id = some (.row e ver xs))
    {k : IntKind} {i : Int} (h0 : 0 ≤ i) (h1 : i < len) :
    ∃ u, (Instr.indexAt t v (.int k i)).run P w = .ok u w ∧ Rp w (okk C rho hp) rho hp (.ept id ver i.toNat 0) u := by
  cases hv with
  | row _ _ _ _ g1 g0 gle gv =>
    rcases gv e xs hq with ⟨_, _, rfl⟩ | ⟨b, cap, cur, t0, k1, rfl, k3, k4, k5, k6⟩
    · simp at h1; omega
    · refine ⟨_, run_ixSlice ht hs _ _ _ k i h0 h1, .ept _ _ _ _ _ rfl g0 gle (fun e' xs' hq' => ⟨b, k1, ?_⟩)⟩
      rw [hq] at hq'; cases hq'
      rw [add_lit]; simp

theorem ix_arr_ptr {t et : TypeId} {e len : Nat} (ht : P.underlying t = some (.array len et)) (hs : szT P et = some e) {id o : Nat} {v : Value} (hv : Rp w (okk C rho hp) rho hp (.ptr id o) v) {cs : List SV} (hq : hp id = some (.var cs)) {k : IntKind} {i : Int} (h0 : 0 ≤ i) (h1 : i < len) :
    ∃ u, (Instr.indexAt t v (.int k i)).run P w = .ok u w ∧ Rp w (okk C rho hp) rho hp (.ptr id (o + i.toNat * e)) u := by
  cases hv with
  | ptr _ _ _ g1 g0 hbb =>
    obtain ⟨b, hb, rfl⟩ := hbb cs hq
    exact ⟨_, run_ixArr ht hs _ k i h0 h1, .ptr _ _ _ rfl g0 (fun _ _ => ⟨b, hb, by rw [add_lit]⟩)⟩

theorem ix_arr_ept {t et : TypeId} {e len : Nat} (ht : P.underlying t = some (.array len et)) (hs : szT P et = some e) {id ver i0 o : Nat} {v : Value} (hv : Rp w (okk C rho hp) rho hp (.ept id ver i0 o) v) {e' : Nat} {xs : List (List SV)} (hq : hp id = some (.row e' ver xs)) {k : IntKind} {i : Int} (h0 : 0 ≤ i) (h1 : i < len) :
    ∃ u, (Instr.indexAt t v (.int k i)).run P w = .ok u w ∧ Rp w (okk C rho hp) rho hp (.ept id ver i0 (o + i.toNat * e)) u := by
  cases hv with
  | ept _ _ _ _ _ g1 g0 gle hbb =>
    obtain ⟨b, hb, rfl⟩ := hbb e' xs hq
    refine ⟨_, run_ixArr ht hs _ k i h0 h1, .ept _ _ _ _ _ rfl g0 gle (fun e2 xs2 hq2 => ⟨b, hb, ?_⟩)⟩
    rw [hq] at hq2; cases hq2
    rw [add_lit, Nat.add_assoc]

theorem ix_arr_rop {t et : TypeId} {e len : Nat} (ht : P.underlying t = some (.array len et)) (hs : szT P et = some e) {cs : List RV} {v : Value} (hv : RO w (okk C rho hp) (.rop cs) v) {k : IntKind} {i : Int} (h0 : 0 ≤ i) (h1 : i < len) :
    ∃ u, (Instr.indexAt t v (.int k i)).run P w = .ok u w ∧ Rp w (okk C rho hp) rho hp (.rv (.rop (cs.drop (i.toNat * e)))) u := by
  have hv' := hv
  cases hv with
  | rop _ a c hr g1 hy => exact ⟨_, run_ixArr ht hs _ k i h0 h1, .rv _ _ (hv'.shift _)⟩

theorem run_len_sl {t et : TypeId} (ht : P.underlying t = some (.slice et)) (ty : TypeId) (a : Option Addr) (n c : Nat) : (Builtin.len_ #[t] ty #[.slice a n c]).run P w = .ok (.int .i64 n) w := by
  simp [Builtin.len_, run_underlying ht, goInt]
theorem run_len_str {t : TypeId} (ht : P.underlying t = some .string) (ty : TypeId) (s : ByteArray) : (Builtin.len_ #[t] ty #[.string s]).run P w = .ok (.int .i64 s.size) w := by
  simp [Builtin.len_, run_underlying ht, goInt]

theorem len_row {t et : TypeId} (ht : P.underlying t = some (.slice et)) (ty : TypeId) {id ver len : Nat} {v : Value} (hv : Rp w (okk C rho hp) rho hp (.row id ver len) v) {e : Nat} {xs : List (List SV)} (hq : hp id = some (.row e ver xs)) :
    (Builtin.len_ #[t] ty #[v]).run P w = .ok (.int .i64 len) w := by
  cases hv with
  | row _ _ _ _ g1 g0 gle gv =>
    rcases gv e xs hq with ⟨_, rfl, rfl⟩ | ⟨b, cap, cur, t0, k1, rfl, k3, k4, k5, k6⟩
    · exact run_len_sl ht ty _ _ _
    · exact run_len_sl ht ty _ _ _
end

/-- Arithmetic and comparisons of whole numbers. -/
def ibin (op : BinOp) (k : IntKind) (a b : Int) : Option (Prop × RV) :=
  match op with
  | .add => some (True, .int k (k.wrap (a + b)))
  | .sub => some (True, .int k (k.wrap (a - b)))
  | .mul => some (True, .int k (k.wrap (a * b)))
  | .quo => some (b ≠ 0, .int k (k.wrap (a.tdiv b)))
  | .rem => some (b ≠ 0, .int k (a.tmod b))
  | .and => some (True, .int k (k.wrap (BitVec.ofInt k.bits a &&& BitVec.ofInt k.bits b).toNat))
  | .or => some (True, .int k (k.wrap (BitVec.ofInt k.bits a ||| BitVec.ofInt k.bits b).toNat))
  | .xor => some (True, .int k (k.wrap (BitVec.ofInt k.bits a ^^^ BitVec.ofInt k.bits b).toNat))
  | .eql => some (True, .bool (a == b))
  | .neq => some (True, .bool (a != b))
  | .lss => some (True, .bool (decide (a < b)))
  | .leq => some (True, .bool (decide (a ≤ b)))
  | .gtr => some (True, .bool (decide (a > b)))
  | .geq => some (True, .bool (decide (a ≥ b)))
  | _ => none

def ishf (op : BinOp) (k : IntKind) (a b : Int) : Option (Prop × RV) :=
  match op with
  | .shl => some (0 ≤ b, .int k (k.wrap (a * 2 ^ min b.toNat k.bits)))
  | .shr => some (0 ≤ b, .int k (a.fdiv (2 ^ min b.toNat k.bits)))
  | _ => none

def valOf : RV → Value
  | .int k n => .int k n
  | .bool b => .bool b
  | .str s => .string s
  | _ => undef

theorem run_ibin {P : Program} {w : World} {op : BinOp} {k : IntKind} {a b : Int} {p : Prop} {r : RV} (h : ibin op k a b = some (p, r)) (hp : p) (t : TypeId) :
    (binOp op t (.int k a) (.int k b)).run P w = .ok (valOf r) w ∧ ∀ ok, RO w ok r (valOf r) := by
  cases op <;> simp only [ibin, Option.some.injEq, Prod.mk.injEq, reduceCtorEq] at h <;> obtain ⟨rfl, rfl⟩ := h <;>
    (refine ⟨?_, fun _ => by first | exact .int _ _ | exact .bool _⟩; first | (simp [binOp, Op.intArith, Op.intBits, Op.intCmp, Op.intDiv, valOf]; done) | (simp [binOp, Op.intDiv, hp, valOf]; done))

theorem run_ishf {P : Program} {w : World} {op : BinOp} {k k' : IntKind} {a b : Int} {p : Prop} {r : RV} (h : ishf op k a b = some (p, r)) (hp : p) (t : TypeId) :
    (binOp op t (.int k a) (.int k' b)).run P w = .ok (valOf r) w ∧ ∀ ok, RO w ok r (valOf r) := by
  cases op <;> simp only [ishf, Option.some.injEq, Prod.mk.injEq, reduceCtorEq] at h <;> obtain ⟨rfl, rfl⟩ := h
  · exact ⟨by simp [binOp, Op.shift, Int.not_lt.2 hp, valOf], fun _ => .int _ _⟩
  · exact ⟨by simp [binOp, Op.shift, Int.not_lt.2 hp, valOf], fun _ => .int _ _⟩

end Go.Eng

/- Rows of the call's own: literals, make, append; parts of slices; aggregates that are built. -/
namespace Go.Eng
open Go

theorem foldl_set (cells : Array Value) (off : Nat) : ∀ (vs : List Value) (k : Nat) (cs : Array Value), off + k + vs.length ≤ cs.size →
    (vs.zipIdx k).foldl (fun cs (c, j) => cs.setIfInBounds (off + j) c) cs = (splice cs.toList (off + k) vs).toArray
  | [], k, cs, _ => by simp [splice]
  | v :: r, k, cs, h => by
    simp only [List.length_cons] at h
    rw [List.zipIdx_cons, List.foldl_cons, foldl_set cells off r (k + 1) _ (by simp; omega)]
    apply Array.ext'
    simp only [Array.toList_setIfInBounds]
    apply List.ext_getElem?
    intro j
    rw [splice_get _ _ _ (by simp; omega), splice_get _ _ _ (by simp; omega)]
    by_cases h1 : j = off + k
    · subst h1
      rw [if_neg (by omega), if_pos (by simp only [List.length_cons]; omega)]
      rw [List.getElem?_set_self (by simp; omega)]
      simp
    · by_cases h2 : off + (k + 1) ≤ j ∧ j < off + (k + 1) + r.length
      · rw [if_pos h2, if_pos (by simp only [List.length_cons]; omega), show j - (off + k) = (j - (off + (k + 1))) + 1 by omega, List.getElem?_cons_succ]
      · rw [if_neg h2, if_neg (by simp only [List.length_cons]; omega), List.getElem?_set_ne (by omega)]

/-- Parts laid into a list of cells: place and cells of each. -/
def lay {α : Type} (z : List α) : List (Nat × List α) → List α
  | [] => z
  | (o, x) :: r => lay (splice z o x) r

theorem fill_lay (place : Nat → Option (Nat × Nat)) : ∀ (ps : List (Nat × Value)) (qs : List (Nat × List Value)) (cs : Array Value),
    ps.length = qs.length → (∀ (j : Nat) (i : Nat) (v : Value) (o : Nat) (x : List Value), ps[j]? = some (i, v) → qs[j]? = some (o, x) → place i = some (o, x.length) ∧ v.cells = x.toArray ∧ o + x.length ≤ cs.size) →
    Instr.fill place cs ps = some (lay cs.toList qs).toArray
  | [], [], cs, _, _ => by simp [Instr.fill, lay]
  | [], _ :: _, _, h, _ => by simp at h
  | _ :: _, [], _, h, _ => by simp at h
  | (i, v) :: ps, (o, x) :: qs, cs, hl, h => by
    obtain ⟨h1, h2, h3⟩ := h 0 i v o x rfl rfl
    have hf := foldl_set cs o x 0 cs (by simpa using h3)
    simp only [Nat.add_zero] at hf
    have hsz : (splice cs.toList o x).length = cs.size := by rw [splice_length _ _ _ (by simpa using h3)]; simp
    have ih := fill_lay place ps qs (splice cs.toList o x).toArray (by simpa using hl) (fun j i' v' o' x' g1 g2 => by
      have := h (j + 1) i' v' o' x' (by simpa using g1) (by simpa using g2)
      refine ⟨this.1, this.2.1, ?_⟩
      simp only [List.size_toArray, hsz]; exact this.2.2)
    unfold Instr.fill
    simp only [h1, h2, List.size_toArray, ne_eq, not_true_eq_false, false_or]
    rw [if_neg (by simp; omega)]
    simp only [lay]
    rw [← Array.foldl_toList]
    simp only [Array.toList_zipIdx]
    rw [hf, ih]

section
variable {P : Program} {C : Ctx} {hp : Hp} {w : World} {rho : Nat → Option Nat}

/-- The values of several arguments, cell by cell. -/
def cellsAll : List SV → Option (List (List SV))
  | [] => some []
  | s :: r => match cellsSV s, cellsAll r with
    | some x, some y => some (x :: y)
    | _, _ => none

theorem cellsAll_ok {ok : Nat → Prop} : ∀ {ss : List SV} {vs : List Value} {cs : List (List SV)}, cellsAll ss = some cs → vs.length = ss.length → (∀ (j : Nat) (s : SV), ss[j]? = some s → Rp w ok rho hp s (vs.getD j undef)) →
    ∃ us : List (List Value), us.length = cs.length ∧ (∀ (j : Nat) (v : Value), vs[j]? = some v → ∃ u, us[j]? = some u ∧ v.cells = u.toArray) ∧
      ∀ (j : Nat) (c : List SV), cs[j]? = some c → ∃ u, us[j]? = some u ∧ u.length = c.length ∧ (∀ (i : Nat) (x : Value), u[i]? = some x → x.oneCell' = true) ∧ ∀ (i : Nat) (y : SV), c[i]? = some y → Rp w ok rho hp y (u.getD i undef)
  | [], vs, cs, h, hl, _ => by
    cases h
    have : vs = [] := List.eq_nil_of_length_eq_zero hl
    subst this
    exact ⟨[], rfl, fun j v hv => by simp at hv, fun j c hc => by simp at hc⟩
  | s :: r, [], cs, h, hl, _ => by simp at hl
  | s :: r, v :: vs, cs, h, hl, hr => by
    unfold cellsAll at h
    cases hs : cellsSV s with
    | none => simp [hs] at h
    | some x =>
      cases hrr : cellsAll r with
      | none => simp [hs, hrr] at h
      | some y =>
        simp only [hs, hrr, Option.some.injEq] at h
        subst h
        obtain ⟨us, h1, h2, h3⟩ := cellsAll_ok (vs := vs) hrr (by simpa using hl) (fun j s hj => by
          have := hr (j + 1) s (by simpa using hj)
          simpa using this)
        have h0 := hr 0 s rfl
        simp only [List.getD_cons_zero] at h0
        obtain ⟨u, g1, g2, g3, g4⟩ := h0.cells hs
        refine ⟨u :: us, by simp [h1], fun j v' hv => ?_, fun j c hc => ?_⟩
        · cases j with
          | zero => simp at hv; subst hv; exact ⟨u, rfl, g1⟩
          | succ j => simp at hv; obtain ⟨u', k1, k2⟩ := h2 j v' hv; exact ⟨u', by simpa using k1, k2⟩
        · cases j with
          | zero => simp at hc; subst hc; exact ⟨u, rfl, g2, g3, g4⟩
          | succ j => simp at hc; obtain ⟨u', k1, k2⟩ := h3 j c hc; exact ⟨u', by simpa using k1, k2⟩

theorem flat_get {α : Type} (e : Nat) : ∀ (us : List (List α)) (_ : ∀ u ∈ us, u.length = e) (i j : Nat) (u : List α) (v : α), us[i]? = some u → u[j]? = some v → us.flatten[i * e + j]? = some v
  | [], _, i, j, u, v, h, _ => by simp at h
  | x :: r, hl, i, j, u, v, h, hv => by
    have hx := hl x (by simp)
    cases i with
    | zero =>
      simp at h; subst h
      have := (List.getElem?_eq_some_iff.1 hv).1
      rw [List.flatten_cons, List.getElem?_append_left (by omega)]
      simpa using hv
    | succ i =>
      have ih := flat_get e r (fun u hu => hl u (by simp [hu])) i j u v (by simpa using h) hv
      rw [List.flatten_cons, List.getElem?_append_right (by rw [Nat.add_mul]; omega), hx, show (i + 1) * e + j - e = i * e + j by rw [Nat.add_mul]; omega]
      exact ih

theorem flat_length {α : Type} (e : Nat) : ∀ (us : List (List α)), (∀ u ∈ us, u.length = e) → us.flatten.length = us.length * e
  | [], _ => by simp
  | x :: r, hl => by
    rw [List.flatten_cons, List.length_append, flat_length e r (fun u hu => hl u (by simp [hu])), hl x (by simp), List.length_cons, Nat.add_mul]; omega

/-- Elements whose cells lie one behind the other. -/
theorem Holds.row_of {ok : Nat → Prop} {e ver : Nat} {cs : List (List SV)} {us : List (List Value)} {tail : List Value} (hl : us.length = cs.length) (he : ∀ c ∈ cs, c.length = e)
    (h : ∀ (j : Nat) (c : List SV), cs[j]? = some c → ∃ u, us[j]? = some u ∧ u.length = c.length ∧ (∀ (i : Nat) (x : Value), u[i]? = some x → x.oneCell' = true) ∧ ∀ (i : Nat) (y : SV), c[i]? = some y → Rp w ok rho hp y (u.getD i undef)) :
    Holds w ok rho hp (us.flatten ++ tail).toArray (.row e ver cs) := by
  have hue : ∀ u ∈ us, u.length = e := fun u hu => by
    obtain ⟨j, hj⟩ := List.getElem?_of_mem hu
    have hjl : j < cs.length := by rw [← hl]; exact (List.getElem?_eq_some_iff.1 hj).1
    have hc := List.getElem?_eq_getElem hjl
    obtain ⟨u', h1, h2, _⟩ := h j _ hc
    rw [hj] at h1; cases h1
    rw [h2]; exact he _ (List.getElem_mem hjl)
  refine ⟨he, ?_, fun i x hx j y hy => ?_⟩
  · simp only [List.size_toArray, List.length_append, flat_length e us hue, hl]; omega
  · obtain ⟨u, h1, h2, h3, h4⟩ := h i x hx
    have hj : j < u.length := by rw [h2]; exact (List.getElem?_eq_some_iff.1 hy).1
    have hg := List.getElem?_eq_getElem hj
    refine ⟨u[j], ?_, h3 j _ hg, ?_⟩
    · have := flat_get e us hue i j u _ h1 hg
      simp only [List.getElem?_toArray]
      rw [List.getElem?_append_left (List.getElem?_eq_some_iff.1 this).1]; exact this
    · have := h4 j y hy
      rwa [List.getD_eq_getElem?_getD, hg, Option.getD_some] at this

end

end Go.Eng

/- Literals of slices, what a slice holds, append, make. -/
namespace Go.Eng
open Go

def seqQ {α : Type} (e : Nat) : Nat → List (List α) → List (Nat × List α)
  | _, [] => []
  | k, u :: r => (k * e, u) :: seqQ e (k + 1) r

theorem seqQ_get {α : Type} (e : Nat) : ∀ (us : List (List α)) (k j o : Nat) (x : List α), (seqQ e k us)[j]? = some (o, x) → o = (k + j) * e ∧ us[j]? = some x
  | [], k, j, o, x, h => by simp [seqQ] at h
  | u :: r, k, j, o, x, h => by
    cases j with
    | zero => simp [seqQ] at h; obtain ⟨rfl, rfl⟩ := h; simp
    | succ j =>
      simp only [seqQ, List.getElem?_cons_succ] at h
      obtain ⟨h1, h2⟩ := seqQ_get e r (k + 1) j o x h
      exact ⟨by rw [h1]; congr 1; omega, by simpa using h2⟩

theorem seqQ_length {α : Type} (e : Nat) : ∀ (us : List (List α)) (k : Nat), (seqQ e k us).length = us.length
  | [], _ => rfl
  | u :: r, k => by simp [seqQ, seqQ_length e r]

theorem lay_seq {α : Type} (e : Nat) : ∀ (us : List (List α)) (k : Nat) (pre z : List α), pre.length = k * e → z.length = us.length * e → (∀ u ∈ us, u.length = e) → lay (pre ++ z) (seqQ e k us) = pre ++ us.flatten
  | [], k, pre, z, hp, hz, _ => by
    have : z = [] := List.eq_nil_of_length_eq_zero (by simpa using hz)
    simp [seqQ, lay, this]
  | u :: r, k, pre, z, hp, hz, hu => by
    have hue := hu u (by simp)
    simp only [List.length_cons, Nat.add_mul] at hz
    have hs : splice (pre ++ z) (k * e) u = (pre ++ u) ++ z.drop e := by
      unfold splice
      rw [← hp, List.take_left, hue, List.drop_append]
      simp
    rw [seqQ, lay, hs, lay_seq e r (k + 1) (pre ++ u) (z.drop e) (by simp [hp, hue, Nat.add_mul]) (by simp; omega) (fun x hx => hu x (by simp [hx]))]
    simp

section
variable {P : Program} {C : Ctx} {hp : Hp} {w : World} {rho : Nat → Option Nat}

theorem zeroT_run {t : TypeId} {z : List RV} (h : zeroT P t = some z) (w : World) : ∃ zv, (zeroValue t).run P w = .ok zv w ∧ zv.cells.size = z.length := by
  unfold zeroT at h
  cases hi : P.info? t with
  | none => simp [hi] at h
  | some i =>
    cases hzz : i.zero with
    | none => simp [hi, hzz] at h
    | some zv =>
      simp only [hi, hzz] at h
      obtain ⟨h1, _⟩ := cvL_ok w (fun _ => True) (fun _ => none) (fun _ => none) h
      exact ⟨zv, by simp [zeroValue, typeInfo, hi, hzz], by simpa using h1⟩

theorem bsl_ok (R : RepH C hp w rho) {id : Nat} (hf : hp id = none) (hf0 : C.h0 id = none) {t et : TypeId} {e len : Nat} (ht : P.underlying t = some (.slice et)) (hs : szT P et = some e) {z : List RV} (hz : zeroT P et = some z)
    (hbig : len * e ≤ 16777216) (hlm : len ≤ maxLen) {ss : List SV} {vs : List Value} {cs : List (List SV)} (hl : ss.length = len) (hvs : vs.length = ss.length) (hrp : ∀ (j : Nat) (s : SV), ss[j]? = some s → Rp w (okk C rho hp) rho hp s (vs.getD j undef))
    (hc : cellsAll ss = some cs) (he : ∀ c ∈ cs, c.length = e) {ps : List (Nat × Value)} (hps : ps.length = len) (hpv : ∀ (j i : Nat) (v : Value), ps[j]? = some (i, v) → i = j ∧ vs[j]? = some v) :
    ∃ u w' rho', (Instr.buildSlice t len ps.toArray).run P w = .ok u w' ∧ Step C hp (up hp id (some (.row e 0 cs))) w w' rho rho' ∧ Rp w' (okk C rho' (up hp id (some (.row e 0 cs)))) rho' (up hp id (some (.row e 0 cs))) (.row id 0 len) u := by
  obtain ⟨us, h1, h2, h3⟩ := cellsAll_ok hc hvs hrp
  have hcl : cs.length = len := by
    have : ∀ (ss : List SV) (cs : List (List SV)), cellsAll ss = some cs → cs.length = ss.length := by
      intro ss
      induction ss with
      | nil => intro cs h; cases h; rfl
      | cons s r ih =>
        intro cs h
        unfold cellsAll at h
        cases hs : cellsSV s with
        | none => simp [hs] at h
        | some x =>
          cases hrr : cellsAll r with
          | none => simp [hs, hrr] at h
          | some y => simp only [hs, hrr, Option.some.injEq] at h; subst h; simp [ih y hrr]
    rw [this ss cs hc, hl]
  have hue : ∀ u ∈ us, u.length = e := fun u hu => by
    obtain ⟨j, hj⟩ := List.getElem?_of_mem hu
    have hjl : j < cs.length := by rw [← h1]; exact (List.getElem?_eq_some_iff.1 hj).1
    obtain ⟨u', g1, g2, _⟩ := h3 j _ (List.getElem?_eq_getElem hjl)
    rw [hj] at g1; cases g1
    rw [g2]; exact he _ (List.getElem_mem hjl)
  have hsz : us.flatten.length = len * e := by rw [flat_length e us hue, h1, hcl]
  have S := R.make (w1 := w) rfl rfl rfl rfl id (.row e 0 cs) us.flatten.toArray et hf hf0 (by
    have := Holds.row_of (ver := 0) (tail := []) h1 he h3
    simpa using this)
  refine ⟨.slice (some ⟨w.heap.size, 0, none⟩) len len, w.alloc (.cells us.flatten.toArray et), _, ?_, S, .row id 0 len _ rfl (by simp) (fun e' v' xs' h' => by simp) (fun e' xs' h' => .inr ⟨w.heap.size, len, us.flatten.toArray, et, up_same _ _ _, rfl, heap_alloc_new w _, Nat.le_refl _, hlm, ?_⟩)⟩
  · have hfill : ∀ z0 : Array Value, z0.size = len * e → Instr.fill (fun i => some (i * e, e)) z0 ps = some us.flatten.toArray := fun z0 h0 => by
      have := fill_lay (fun i => some (i * e, e)) ps (seqQ e 0 us) z0 (by rw [seqQ_length, hps, h1, hcl]) (fun j i v o x g1 g2 => by
        obtain ⟨rfl, k1⟩ := hpv j i v g1
        obtain ⟨rfl, k2⟩ := seqQ_get e us 0 _ o x g2
        obtain ⟨u, k3, k4⟩ := h2 _ v k1
        rw [k2] at k3; cases k3
        have hx := hue x (List.mem_of_getElem? k2)
        refine ⟨by simp [hx], k4, ?_⟩
        have hi : i < us.length := (List.getElem?_eq_some_iff.1 k2).1
        have : (i + 1) * e ≤ len * e := Nat.mul_le_mul_right _ (by omega)
        rw [Nat.add_mul] at this
        simp only [Nat.zero_add]; omega)
      rw [this]
      have h := lay_seq e us 0 [] z0.toList (by simp) (by simpa [h1, hcl] using h0) hue
      simp only [List.nil_append] at h
      rw [h]
    obtain ⟨zv, hzr, hzs⟩ := zeroT_run hz w
    have hbig' : ¬ 16777216 < len * e := by omega
    by_cases h0 : len * e = 0
    · have := hfill (Array.map (fun _ => default) (Array.range 0)) (by simp [h0])
      simp [Instr.buildSlice, run_underlying ht, run_sizeOf' hs, h0, newRow, this]
    · have := hfill ((Array.range (len * e)).map (zv.cells[· % zv.cells.size]!)) (by simp)
      simp only [Instr.buildSlice, Sem.run_bind, run_underlying ht, Result.andThen_ok, run_sizeOf' hs]
      simp [hbig', h0, hzr, this, newRow]
  · rw [up_same] at h'; cases h'
    simp [hsz]

theorem flat_get_inv {α : Type} (e : Nat) : ∀ (us : List (List α)) (_ : ∀ u ∈ us, u.length = e) (k : Nat) (v : α), us.flatten[k]? = some v → ∃ (i j : Nat) (u : List α), us[i]? = some u ∧ u[j]? = some v ∧ k = i * e + j
  | [], _, k, v, h => by simp at h
  | x :: r, hl, k, v, h => by
    have hx := hl x (by simp)
    rw [List.flatten_cons] at h
    by_cases hk : k < x.length
    · rw [List.getElem?_append_left hk] at h
      exact ⟨0, k, x, rfl, h, by simp⟩
    · rw [List.getElem?_append_right (by omega)] at h
      obtain ⟨i, j, u, h1, h2, h3⟩ := flat_get_inv e r (fun u hu => hl u (by simp [hu])) (k - x.length) v h
      exact ⟨i + 1, j, u, by simpa using h1, h2, by rw [Nat.add_mul]; omega⟩

/-- What a slice value holds: elements, each told. -/
def ElemsOf (w : World) (ok : Nat → Prop) (rho : Nat → Option Nat) (hp : Hp) (e : Nat) (v : Value) (ys : List (List SV)) : Prop :=
  ∃ (a : Option Addr) (cap : Nat) (us : List (List Value)), v = .slice a ys.length cap ∧ us.length = ys.length ∧ (∀ u ∈ us, u.length = e) ∧ (∀ c ∈ ys, c.length = e) ∧ ys.length ≤ cap ∧
    (∀ (j : Nat) (c : List SV), ys[j]? = some c → ∃ u, us[j]? = some u ∧ u.length = c.length ∧ (∀ (i : Nat) (x : Value), u[i]? = some x → x.oneCell' = true) ∧ ∀ (i : Nat) (y : SV), c[i]? = some y → Rp w ok rho hp y (u.getD i undef)) ∧
    (a = none → ys = [] ∧ cap = 0) ∧ ∀ ad, a = some ad → CAt w ad us.flatten

theorem ElemsOf.mk' {ok : Nat → Prop} {e cap : Nat} {a : Option Addr} {ys : List (List SV)} (f : Nat → Nat → Value) (he : ∀ c ∈ ys, c.length = e) (hc : ys.length ≤ cap) (h0 : a = none → ys = [] ∧ cap = 0)
    (h : ∀ (i : Nat) (c : List SV) (j : Nat) (y : SV), ys[i]? = some c → c[j]? = some y → (f i j).oneCell' = true ∧ Rp w ok rho hp y (f i j) ∧ ∀ ad, a = some ad → w.cell? (ad.add (i * e + j)) = some (f i j)) :
    ElemsOf w ok rho hp e (.slice a ys.length cap) ys := by
  have hus : ∀ (i : Nat) (u : List Value), ((List.range ys.length).map fun i => (List.range e).map fun j => f i j)[i]? = some u → i < ys.length ∧ u = (List.range e).map fun j => f i j := fun i u hu => by
    have hi : i < ys.length := by have := (List.getElem?_eq_some_iff.1 hu).1; simpa using this
    rw [List.getElem?_map, List.getElem?_range hi] at hu
    exact ⟨hi, by simpa using hu.symm⟩
  refine ⟨a, cap, (List.range ys.length).map fun i => (List.range e).map fun j => f i j, rfl, by simp, fun u hu => ?_, he, hc, fun i c hi => ?_, h0, fun ad had k v hk => ?_⟩
  · obtain ⟨i, hi⟩ := List.getElem?_of_mem hu
    obtain ⟨_, rfl⟩ := hus i u hi
    simp
  · have hil := (List.getElem?_eq_some_iff.1 hi).1
    have hce := he c (List.mem_of_getElem? hi)
    refine ⟨(List.range e).map fun j => f i j, by rw [List.getElem?_map, List.getElem?_range hil]; rfl, by simp [hce], fun j x hx => ?_, fun j y hy => ?_⟩
    · have hj : j < e := by have := (List.getElem?_eq_some_iff.1 hx).1; simpa using this
      rw [List.getElem?_map, List.getElem?_range hj] at hx
      simp only [Option.map_some, Option.some.injEq] at hx
      subst hx
      exact (h i c j _ hi (List.getElem?_eq_getElem (by omega))).1
    · have hj : j < e := by rw [← hce]; exact (List.getElem?_eq_some_iff.1 hy).1
      simp only [List.getD_eq_getElem?_getD, List.getElem?_map, List.getElem?_range hj, Option.map_some, Option.getD_some]
      exact (h i c j y hi hy).2.1
  · obtain ⟨i, j, u, h1, h2, rfl⟩ := flat_get_inv e _ (fun u hu => by
      obtain ⟨i, hi⟩ := List.getElem?_of_mem hu
      obtain ⟨_, rfl⟩ := hus i u hi
      simp) k v hk
    obtain ⟨hi, rfl⟩ := hus i u h1
    have hj : j < e := by have := (List.getElem?_eq_some_iff.1 h2).1; simpa using this
    rw [List.getElem?_map, List.getElem?_range hj] at h2
    simp only [Option.map_some, Option.some.injEq] at h2
    subst h2
    have hg := List.getElem?_eq_getElem hi
    have hce := he _ (List.getElem_mem hi)
    exact (h i _ j _ hg (List.getElem?_eq_getElem (by omega))).2.2 ad had

theorem elems_sl {ok : Nat → Prop} {e : Nat} {xs : List (List RV)} {v : Value} (hv : RO w ok (.sl e xs) v) : ElemsOf w ok rho hp e v (xs.map (List.map SV.rv)) := by
  cases hv with
  | sl _ _ a cap c g0 gc gm ge gr g1 gy =>
    have := ElemsOf.mk' (w := w) (ok := ok) (rho := rho) (hp := hp) (e := e) (cap := cap) (a := a) (ys := xs.map (List.map SV.rv)) c (fun c hc => by
      obtain ⟨x, hx, rfl⟩ := List.mem_map.1 hc
      simpa using ge x hx) (by simpa using gc) (fun h => by obtain ⟨h1, h2⟩ := g0 h; exact ⟨by simp [h1], h2⟩) (fun i x j y hx hy => by
      rw [List.getElem?_map] at hx
      cases hxi : xs[i]? with
      | none => simp [hxi] at hx
      | some x0 =>
        simp only [hxi, Option.map_some, Option.some.injEq] at hx
        subst hx
        rw [List.getElem?_map] at hy
        cases hyj : x0[j]? with
        | none => simp [hyj] at hy
        | some y0 =>
          simp only [hyj, Option.map_some, Option.some.injEq] at hy
          subst hy
          refine ⟨(gy i x0 j y0 hxi hyj).oneCell (g1 i x0 j y0 hxi hyj), .rv _ _ (gy i x0 j y0 hxi hyj), fun ad had => ?_⟩
          obtain ⟨ad', h1, _, h3⟩ := gr i x0 j y0 hxi hyj
          rw [had] at h1; cases h1
          exact h3)
    simpa using this

theorem elems_nil {ok : Nat → Prop} (e : Nat) : ElemsOf w ok rho hp e (.slice none 0 0) [] :=
  ⟨none, 0, [], rfl, rfl, fun u hu => by simp at hu, fun u hu => by simp at hu, Nat.le_refl _, fun j c hc => by simp at hc, fun _ => ⟨rfl, rfl⟩, fun ad h => by cases h⟩

theorem elems_row (R : RepH C hp w rho) {id ver len : Nat} {v : Value} (hv : Rp w (okk C rho hp) rho hp (.row id ver len) v) {e : Nat} {xs : List (List SV)} (hq : hp id = some (.row e ver xs)) (hl : len ≤ xs.length) :
    ElemsOf w (okk C rho hp) rho hp e v (xs.take len) := by
  cases hv with
  | row _ _ _ _ g1 g0 gle gv =>
    rcases gv e xs hq with ⟨_, rfl, rfl⟩ | ⟨b, cap, cur, t0, k1, rfl, k3, k4, k5, k6⟩
    · exact elems_nil e
    · rcases R.heap id _ hq with ⟨hn, _⟩ | ⟨b', cur', t1, m1, m2, m3⟩
      · rw [k1] at hn; cases hn
      · rw [k1] at m1; cases m1
        rw [k3] at m2; cases m2
        have hlt : (xs.take len).length = len := by simp; omega
        have := ElemsOf.mk' (w := w) (ok := okk C rho hp) (rho := rho) (hp := hp) (e := e) (cap := cap) (a := some ⟨b, 0, none⟩) (ys := xs.take len) (fun i j => cur.getD (i * e + j) undef) (fun c hc => m3.1 c (List.mem_of_mem_take hc)) (by omega) (fun h => by cases h) (fun i x j y hx hy => by
          rw [List.getElem?_take] at hx
          split at hx
          · obtain ⟨u, h1, h2, h3⟩ := m3.2.2 i x hx j y hy
            have hgd : cur.getD (i * e + j) undef = u := by rw [Array.getD_eq_getD_getElem?, h1]; rfl
            rw [hgd]
            refine ⟨h2, h3, fun ad had => ?_⟩
            cases had
            rw [add_lit, cell_blk k3]; simpa using h1
          · cases hx)
        rwa [hlt] at this

end
end Go.Eng

/- append, make, parts of slices. -/
namespace Go.Eng
open Go

section
variable {P : Program} {C : Ctx} {hp : Hp} {w : World} {rho : Nat → Option Nat}

/-- A row that has no block: nothing was appended yet. -/
theorem RepH.ghost (R : RepH C hp w rho) (id e ver' : Nat) (h : (hp id = none ∧ C.h0 id = none) ∨ ∃ e0 ver xs, hp id = some (.row e0 ver xs) ∧ ver < ver') :
    Step C hp (up hp id (some (.row e ver' []))) w w rho (up rho id none) := by
  have hok : ∀ b, okk C rho hp b → b < w.heap.size → okk C (up rho id none) (up hp id (some (.row e ver' []))) b ∧ w.heap[b]? = w.heap[b]? := fun b hb _ => by
    refine ⟨⟨hb.1, fun id2 h2 => ?_⟩, rfl⟩
    by_cases hi : id2 = id
    · subst hi; rw [up_same]; intro he; cases he
    · rw [up_other _ _ hi]; rw [up_other _ _ hi] at h2; exact hb.2 id2 h2
  have E : Evo w w (okk C rho hp) (okk C (up rho id none) (up hp id (some (.row e ver' [])))) rho (up rho id none) hp (up hp id (some (.row e ver' []))) := by
    refine Evo.of hok (fun id2 hb hq => ?_)
    by_cases hi : id2 = id
    · subst hi
      refine ⟨_, up_same _ _ _, ?_⟩
      rcases h with ⟨h, _⟩ | ⟨e0, ver, xs, h, hlt⟩
      · rw [h] at hq; cases hq
      · rw [h] at hq; cases hq
        exact ⟨by omega, fun he => by omega⟩
    · refine ⟨hb, by rw [up_other _ _ hi]; exact hq, ?_⟩
      rw [up_other _ _ hi]; exact EvoHB.refl _ _ _
  refine ⟨⟨fun id2 hb hq => ?_, fun id1 id2 b h1 h2 h3 h4 => ?_, fun id2 b h1 h2 => ?_, R.fr, fun id2 hb hb0 h1 h2 => ?_⟩, E⟩
  · by_cases hi : id2 = id
    · subst hi
      rw [up_same] at hq; cases hq
      exact .inl ⟨up_same _ _ _, e, ver', rfl⟩
    · rw [up_other _ _ hi] at hq
      rcases R.heap id2 hb hq with g | ⟨b, cur, t, g1, g2, g3⟩
      · exact .inl ⟨by rw [up_other _ _ hi]; exact g.1, g.2⟩
      · exact .inr ⟨b, cur, t, by rw [up_other _ _ hi]; exact g1, g2, g3.mono E⟩
  · by_cases e1 : id1 = id
    · subst e1; rw [up_same] at h3; cases h3
    · by_cases e2 : id2 = id
      · subst e2; rw [up_same] at h4; cases h4
      · rw [up_other _ _ e1] at h1 h3; rw [up_other _ _ e2] at h2 h4
        exact R.inj id1 id2 b h1 h2 h3 h4
  · by_cases hi : id2 = id
    · subst hi; rw [up_same] at h2; cases h2
    · rw [up_other _ _ hi] at h1 h2; exact R.own id2 b h1 h2
  · by_cases hi : id2 = id
    · subst hi
      rw [up_same] at h1; cases h1
      rw [up_same]
      rcases h with ⟨_, h⟩ | ⟨e0, ver, xs, h, hlt⟩
      · rw [h] at h2; cases h2
      · have := R.evo id2 _ hb0 h h2
        cases hb0 with
        | var => exact this.elim
        | row => exact ⟨by have := this.1; omega, fun he => by have := this.1; omega⟩
    · rw [up_other _ _ hi] at h1 ⊢; exact R.evo id2 hb hb0 h1 h2

theorem ElemsOf.src {ok : Nat → Prop} {e : Nat} {x : Value} {ys : List (List SV)} (E : ElemsOf w ok rho hp e x ys) {tx et : TypeId} (htx : P.underlying tx = some (.slice et)) :
    ∃ us : List (List Value), us.length = ys.length ∧ Src P e tx x ys.length us.flatten w ∧ (∀ c ∈ ys, c.length = e) ∧ (∀ u ∈ us, u.length = e) ∧
      ∀ (j : Nat) (c : List SV), ys[j]? = some c → ∃ u, us[j]? = some u ∧ u.length = c.length ∧ (∀ (i : Nat) (x : Value), u[i]? = some x → x.oneCell' = true) ∧ ∀ (i : Nat) (y : SV), c[i]? = some y → Rp w ok rho hp y (u.getD i undef) := by
  obtain ⟨a, cap, us, rfl, h1, h2, h3, h4, h5, h6, h7⟩ := E
  have hl : us.flatten.length = ys.length * e := by rw [flat_length e us h2, h1]
  have hone : ∀ u ∈ us.flatten, u.oneCell' = true := fun v hv => by
    obtain ⟨k, hk⟩ := List.getElem?_of_mem hv
    obtain ⟨i, j, u, g1, g2, _⟩ := flat_get_inv e us h2 k v hk
    have hi : i < ys.length := by rw [← h1]; exact (List.getElem?_eq_some_iff.1 g1).1
    obtain ⟨u', k1, _, k3, _⟩ := h5 i _ (List.getElem?_eq_getElem hi)
    rw [g1] at k1; cases k1
    exact k3 j v g2
  refine ⟨us, h1, ?_, h3, h2, h5⟩
  cases a with
  | none =>
    obtain ⟨rfl, rfl⟩ := h6 rfl
    have : us = [] := List.eq_nil_of_length_eq_zero (by simpa using h1)
    subst this
    exact Src.ofNil w htx 0
  | some ad => exact Src.ofSlice w htx ad ys.length cap us.flatten hl (h7 ad rfl) hone

structure Elt (P : Program) (t et : TypeId) (e bytes : Nat) : Prop where
  ht : P.underlying t = some (.slice et)
  hi : ∃ i z, P.info? et = some i ∧ i.zero = some z ∧ i.size = e ∧ i.bytes = bytes ∧ z.cells.size = e
  pos : 0 < e

theorem app_grow (R : RepH C hp w rho) {t et : TypeId} {e bytes : Nat} (T : Elt P t et e bytes) (ty : TypeId) (id ver' : Nat) (base : Option Addr) (len cap : Nat) {olds : List (List Value)} {xs : List (List SV)} (ho : olds.length = xs.length) (hxl : xs.length = len) (hxe : ∀ c ∈ xs, c.length = e)
    (hold : (Builtin.firstCells e len (.slice base len cap)).run P w.drew = .ok olds.flatten.toArray w.drew)
    (hO : ∀ (j : Nat) (c : List SV), xs[j]? = some c → ∃ u, olds[j]? = some u ∧ u.length = c.length ∧ (∀ (i : Nat) (x : Value), u[i]? = some x → x.oneCell' = true) ∧ ∀ (i : Nat) (y : SV), c[i]? = some y → Rp w (okk C rho hp) rho hp y (u.getD i undef))
    {x : Value} {ys : List (List SV)} (E : ElemsOf w (okk C rho hp) rho hp e x ys) (hgr : cap < len + ys.length) (h63 : len + ys.length ≤ maxLen) (hby : (len + ys.length) * bytes ≤ 140737488355328)
    (hid : (hp id = none ∧ C.h0 id = none) ∨ ∃ e0 ver xs0, hp id = some (.row e0 ver xs0) ∧ ver < ver') :
    ∃ u w' rho', (Builtin.append_ #[t, t] ty #[.slice base len cap, x]).run P w = .ok u w' ∧ Step C hp (up hp id (some (.row e ver' (xs ++ ys)))) w w' rho rho' ∧
      Rp w' (okk C rho' (up hp id (some (.row e ver' (xs ++ ys))))) rho' (up hp id (some (.row e ver' (xs ++ ys)))) (.row id ver' (len + ys.length)) u := by
  obtain ⟨i, z, hi, hz, hsz, hbt, hzs⟩ := T.hi
  obtain ⟨us, h1, hsrc, h3, h4, h5⟩ := E.src T.ht
  subst hsz
  have hr := run_append_grow_src (P := P) w t t ty et i z T.ht hi hz base len cap olds.flatten hold x ys.length us.flatten hsrc hgr (by simp only [maxLen] at h63; omega) (by rw [hbt]; exact growslice_fits hgr hby)
  have hcapm := grownCap_le_maxLen w (len + ys.length) cap et h63
  have hcapg := grownCap_ge w (len + ys.length) cap et
  have hfl : olds.flatten ++ us.flatten = (olds ++ us).flatten := by simp
  have hcur : ((olds.flatten ++ us.flatten).toArray ++ Builtin.zeroCells z.cells (grownCap w (len + ys.length) cap et - (len + ys.length))) = ((olds ++ us).flatten ++ (Builtin.zeroCells z.cells (grownCap w (len + ys.length) cap et - (len + ys.length))).toList).toArray := by
    apply Array.ext'; simp
  rw [hcur] at hr
  have hxy : ∀ c ∈ xs ++ ys, c.length = i.size := fun c hc => by
    rcases List.mem_append.1 hc with h | h
    · exact hxe c h
    · exact h3 c h
  have hrows : ∀ (j : Nat) (c : List SV), (xs ++ ys)[j]? = some c → ∃ u, (olds ++ us)[j]? = some u ∧ u.length = c.length ∧ (∀ (i : Nat) (x : Value), u[i]? = some x → x.oneCell' = true) ∧ ∀ (i : Nat) (y : SV), c[i]? = some y → Rp w (okk C rho hp) rho hp y (u.getD i undef) := fun j c hc => by
    by_cases hj : j < xs.length
    · rw [List.getElem?_append_left hj] at hc
      obtain ⟨u, g1, g2⟩ := hO j c hc
      exact ⟨u, by rw [List.getElem?_append_left (by omega)]; exact g1, g2⟩
    · rw [List.getElem?_append_right (by omega)] at hc
      obtain ⟨u, g1, g2⟩ := h5 _ c hc
      exact ⟨u, by rw [List.getElem?_append_right (by omega), ho]; exact g1, g2⟩
  have hold' : ∀ u ∈ olds, u.length = i.size := fun u hu => by
    obtain ⟨j, hj⟩ := List.getElem?_of_mem hu
    have hjl : j < xs.length := by rw [← ho]; exact (List.getElem?_eq_some_iff.1 hj).1
    obtain ⟨u', g1, g2, _⟩ := hO j _ (List.getElem?_eq_getElem hjl)
    rw [hj] at g1; cases g1
    rw [g2]; exact hxe _ (List.getElem_mem hjl)
  have hzl : (Builtin.zeroCells z.cells (grownCap w (len + ys.length) cap et - (len + ys.length))).toList.length = (grownCap w (len + ys.length) cap et - (len + ys.length)) * i.size := by
    rw [Array.length_toList, size_zeroCells, hzs]
  have hsize : ((olds ++ us).flatten ++ (Builtin.zeroCells z.cells (grownCap w (len + ys.length) cap et - (len + ys.length))).toList).length = grownCap w (len + ys.length) cap et * i.size := by
    rw [List.length_append, flat_length i.size (olds ++ us) (fun u hu => by
      rcases List.mem_append.1 hu with h | h
      · exact hold' u h
      · exact h4 u h), hzl, List.length_append, ho, h1, hxl, ← Nat.add_mul]
    congr 1; omega
  have hHold := Holds.row_of (w := w) (ok := okk C rho hp) (rho := rho) (hp := hp) (ver := ver') (tail := (Builtin.zeroCells z.cells (grownCap w (len + ys.length) cap et - (len + ys.length))).toList) (cs := xs ++ ys) (us := olds ++ us) (by simp [ho, h1]) hxy hrows
  have S : Step C hp (up hp id (some (.row i.size ver' (xs ++ ys)))) w (w.drew.alloc (.cells ((olds ++ us).flatten ++ (Builtin.zeroCells z.cells (grownCap w (len + ys.length) cap et - (len + ys.length))).toList).toArray et)) rho (up rho id (some w.heap.size)) := by
    refine R.replace id _ w.heap.size _ et rfl rfl rfl (by simp) (heap_alloc_new w.drew _) (fun k hk _ => heap_alloc_old w.drew _ k hk) (.inr (Nat.le_refl _)) (fun hb hq => ?_) (fun hn => ?_) hHold
    · rcases hid with ⟨h, _⟩ | ⟨e0, ver, xs0, h, hlt⟩
      · rw [h] at hq; cases hq
      · rw [h] at hq; cases hq
        exact ⟨by omega, fun he => by omega⟩
    · rcases hid with ⟨_, h⟩ | ⟨e0, ver, xs0, h, hlt⟩
      · exact h
      · rw [h] at hn; cases hn
  refine ⟨_, _, _, hr, S, .row id ver' _ _ rfl (by simp) (fun e' v' xs' h' => ?_) (fun e' xs' h' => .inr ⟨w.heap.size, _, _, et, up_same _ _ _, rfl, heap_alloc_new w.drew _, hcapg, hcapm, ?_⟩)⟩
  · rw [up_same] at h'; cases h'; exact Nat.le_refl _
  · rw [up_same] at h'; cases h'
    simp only [List.size_toArray, hsize]; exact Nat.le_refl _

theorem app_nil (R : RepH C hp w rho) {t et : TypeId} {e bytes : Nat} (T : Elt P t et e bytes) (ty : TypeId) {id : Nat} (hf : hp id = none) (hf0 : C.h0 id = none)
    {x : Value} {ys : List (List SV)} (E : ElemsOf w (okk C rho hp) rho hp e x ys) (h63 : ys.length ≤ maxLen) (hby : ys.length * bytes ≤ 140737488355328) :
    ∃ u w' rho', (Builtin.append_ #[t, t] ty #[.slice none 0 0, x]).run P w = .ok u w' ∧ Step C hp (up hp id (some (.row e 0 ys))) w w' rho rho' ∧
      Rp w' (okk C rho' (up hp id (some (.row e 0 ys)))) rho' (up hp id (some (.row e 0 ys))) (.row id 0 ys.length) u := by
  by_cases hm : ys.length = 0
  · have hy : ys = [] := List.eq_nil_of_length_eq_zero hm
    subst hy
    obtain ⟨i, z, hi, hz, hsz, hbt, hzs⟩ := T.hi
    obtain ⟨us, h1, hsrc, h3, h4, h5⟩ := E.src T.ht
    have hus : us = [] := List.eq_nil_of_length_eq_zero h1
    subst hus
    refine ⟨.slice none 0 0, w, _, ?_, R.ghost id e 0 (.inl ⟨hf, hf0⟩), .row id 0 0 _ rfl (by simp) (fun e' v' xs' h' => by omega) (fun _ _ _ => .inl ⟨up_same _ _ _, rfl, rfl⟩)⟩
    have hl := hsrc.len w
    have hc := hsrc.cells
    subst hsz
    simp only [List.length_nil, List.flatten_nil] at hl hc
    simp [Builtin.append_, run_underlying T.ht, sizeOf, typeInfo, hi, hl, hc]
  · have := app_grow R T ty id 0 none 0 0 (olds := []) (xs := []) rfl rfl (fun c hc => by simp at hc) (by simp [Builtin.firstCells]) (fun j c hc => by simp at hc) E (by omega) (by omega) (by simpa using hby) (.inl ⟨hf, hf0⟩)
    simpa using this

theorem app_row (R : RepH C hp w rho) {t et : TypeId} {e bytes : Nat} (T : Elt P t et e bytes) (ty : TypeId) {id ver len : Nat} {v : Value} (hv : Rp w (okk C rho hp) rho hp (.row id ver len) v) {xs : List (List SV)} (hq : hp id = some (.row e ver xs)) (hl : len ≤ xs.length)
    {x : Value} {ys : List (List SV)} (E : ElemsOf w (okk C rho hp) rho hp e x ys) (h63 : len + ys.length ≤ maxLen) (hby : (len + ys.length) * bytes ≤ 140737488355328) :
    ∃ u w' rho', (Builtin.append_ #[t, t] ty #[v, x]).run P w = .ok u w' ∧ Step C hp (up hp id (some (.row e (ver + 1) (xs.take len ++ ys)))) w w' rho rho' ∧
      Rp w' (okk C rho' (up hp id (some (.row e (ver + 1) (xs.take len ++ ys))))) rho' (up hp id (some (.row e (ver + 1) (xs.take len ++ ys)))) (.row id (ver + 1) (len + ys.length)) u := by
  have hEl := elems_row R hv hq hl
  obtain ⟨olds, ho1, hosrc, ho3, ho4, ho5⟩ := hEl.src T.ht
  have hlt : (xs.take len).length = len := by simp; omega
  cases hv with
  | row _ _ _ _ g1 g0 gle gv =>
    rcases gv e xs hq with ⟨gr, rfl, rfl⟩ | ⟨b, cap, cur, t0, k1, rfl, k3, k4, k5, k6⟩
    · by_cases hm : ys.length = 0
      · have hy : ys = [] := List.eq_nil_of_length_eq_zero hm
        subst hy
        obtain ⟨i, z, hi, hz, hsz, hbt, hzs⟩ := T.hi
        obtain ⟨us, h1, hsrc, h3, h4, h5⟩ := E.src T.ht
        have hus : us = [] := List.eq_nil_of_length_eq_zero h1
        subst hus
        refine ⟨.slice none 0 0, w, _, ?_, R.ghost id e (ver + 1) (.inr ⟨e, ver, xs, hq, by omega⟩), .row id (ver + 1) 0 _ rfl (by simp) (fun e' v' xs' h' => by simp at h'; omega) (fun _ _ _ => .inl ⟨up_same _ _ _, rfl, rfl⟩)⟩
        have hl := hsrc.len w
        have hc := hsrc.cells
        subst hsz
        simp only [List.length_nil, List.flatten_nil] at hl hc
        simp [Builtin.append_, run_underlying T.ht, sizeOf, typeInfo, hi, hl, hc]
      · have := app_grow R T ty id (ver + 1) none 0 0 (olds := []) (xs := []) rfl rfl (fun c hc => by simp at hc) (by simp [Builtin.firstCells]) (fun j c hc => by simp at hc) E (by omega) (by omega) (by simpa using hby) (.inr ⟨e, ver, xs, hq, by omega⟩)
        simpa using this
    · rcases R.heap id _ hq with ⟨hn, _⟩ | ⟨b', cur', t1, m1, m2, m3⟩
      · rw [k1] at hn; cases hn
      · rw [k1] at m1; cases m1
        rw [k3] at m2; cases m2
        by_cases hroom : len + ys.length ≤ cap
        · obtain ⟨i, z, hi, hz, hsz, hbt, hzs⟩ := T.hi
          obtain ⟨us, h1, hsrc, h3, h4, h5⟩ := E.src T.ht
          subst hsz
          have hfl : us.flatten.length = ys.length * i.size := by rw [flat_length i.size us h4, h1]
          have hfit : len * i.size + us.flatten.length ≤ cur.size := by
            rw [hfl, ← Nat.add_mul]
            exact Nat.le_trans (Nat.mul_le_mul_right _ hroom) k6
          have hst := run_storeCells_at P b (len * i.size) t0 us.flatten 0 cur w k3 (by simpa using hfit) hsrc.one
          simp only [Nat.add_zero] at hst
          have hrun : (Builtin.append_ #[t, t] ty #[.slice (some ⟨b, 0, none⟩) len cap, x]).run P w = .ok (.slice (some ⟨b, 0, none⟩) (len + ys.length) cap) (w.setRow b (splice cur.toList (len * i.size) us.flatten).toArray) := by
            simp [Builtin.append_, run_underlying T.ht, sizeOf, typeInfo, hi, hsrc.len, hroom, hsrc.cells, Addr.add_lit, hst, splice]
          have hcs : (splice cur.toList (len * i.size) us.flatten).toArray.size = cur.size := by
            simp only [List.size_toArray]; rw [splice_length _ _ _ (by simpa using hfit)]; simp
          have hmul : ∀ a b : Nat, a < b → a * i.size + i.size ≤ b * i.size := fun a b h => by
            have : (a + 1) * i.size ≤ b * i.size := Nat.mul_le_mul_right _ h
            rw [Nat.add_mul] at this; omega
          have hH : Holds w (okk C rho hp) rho hp (splice cur.toList (len * i.size) us.flatten).toArray (.row i.size (ver + 1) (xs.take len ++ ys)) := by
            refine ⟨fun c hc => ?_, ?_, fun j c hc => ?_⟩
            · rcases List.mem_append.1 hc with h | h
              · exact ho3 c h
              · exact h3 c h
            · rw [hcs, List.length_append, hlt, Nat.add_mul]; omega
            · by_cases hj : j < len
              · rw [List.getElem?_append_left (by omega), List.getElem?_take, if_pos hj] at hc
                have hce := m3.1 c (List.mem_of_getElem? hc)
                refine (m3.2.2 j c hc).apart hfit (.inl ?_)
                have := hmul j len hj; omega
              · rw [List.getElem?_append_right (by omega), hlt] at hc
                obtain ⟨u, q1, q2, q3, q4⟩ := h5 _ c hc
                have hce := h3 c (List.mem_of_getElem? hc)
                intro jj y hy
                have hjj : jj < u.length := by rw [q2]; exact (List.getElem?_eq_some_iff.1 hy).1
                have hg := List.getElem?_eq_getElem hjj
                refine ⟨u[jj], ?_, q3 jj _ hg, ?_⟩
                · have hf := flat_get i.size us h4 (j - len) jj u _ q1 hg
                  have hfb := (List.getElem?_eq_some_iff.1 hf).1
                  simp only [List.getElem?_toArray]
                  have hje : j * i.size = len * i.size + (j - len) * i.size := by rw [← Nat.add_mul]; congr 1; omega
                  rw [splice_get _ _ _ (by simpa using hfit), if_pos (by omega)]
                  rw [show j * i.size + jj - len * i.size = (j - len) * i.size + jj by omega]; exact hf
                · have := q4 jj y hy
                  rwa [List.getD_eq_getElem?_getD, hg, Option.getD_some] at this
          have S := R.write (hb' := .row i.size (ver + 1) (xs.take len ++ ys)) hq k1 k3 hcs ⟨by omega, fun he => by omega⟩ hH
          refine ⟨_, _, _, hrun, S, .row id (ver + 1) _ _ rfl (by simp) (fun e' v' xs' h' => by simp at h'; omega) (fun e' xs' h' => .inr ⟨b, cap, _, t0, up_same _ _ _, rfl, setRow_heap w b cur _ t0 _ k3, hroom, k5, ?_⟩)⟩
          rw [up_same] at h'; cases h'
          rw [hcs]; exact k6
        · have hold : (Builtin.firstCells e len (.slice (some ⟨b, 0, none⟩) len cap)).run P w.drew = .ok olds.flatten.toArray w.drew := by
            have := hosrc.cellsD
            rwa [hlt] at this
          have := app_grow R T ty id (ver + 1) (some ⟨b, 0, none⟩) len cap (olds := olds) (xs := xs.take len) (by rw [ho1]) hlt ho3 hold ho5 E (by omega) h63 hby (.inr ⟨e, ver, xs, hq, by omega⟩)
          exact this
end
end Go.Eng

/- make, parts of slices, aggregates, comparisons. -/
namespace Go.Eng
open Go

section
variable {P : Program} {C : Ctx} {hp : Hp} {w : World} {rho : Nat → Option Nat}

theorem slc_sl {t et : TypeId} {e : Nat} (ht : P.underlying t = some (.slice et)) (hs : szT P et = some e) {xs : List (List RV)} {ok : Nat → Prop} {v : Value} (hv : RO w ok (.sl e xs) v) (lo hi : Option Value) (l h : Int)
    (hlo : (lo = none ∧ l = 0) ∨ ∃ k, lo = some (.int k l)) (hhi : (hi = none ∧ h = xs.length) ∨ ∃ k, hi = some (.int k h)) (h0 : 0 ≤ l) (h1 : l ≤ h) (h2 : h ≤ xs.length) :
    ∃ u, (Instr.sliceAt t v lo hi none).run P w = .ok u w ∧ RO w ok (.sl e ((xs.take h.toNat).drop l.toNat)) u := by
  cases hv with
  | sl _ _ a cap c g0 gc gm ge gr g1 gy =>
    have hres : RO w ok (.sl e ((xs.take h.toNat).drop l.toNat)) (.slice (if cap = l.toNat then a else a.map (·.add (l.toNat * e))) (h.toNat - l.toNat) (cap - l.toNat)) := by
      have hlen : ((xs.take h.toNat).drop l.toNat).length = h.toNat - l.toNat := by simp; omega
      have hget : ∀ (i : Nat) (x : List RV), ((xs.take h.toNat).drop l.toNat)[i]? = some x → xs[l.toNat + i]? = some x ∧ l.toNat + i < h.toNat := fun i x hx => by
        rw [List.getElem?_drop, List.getElem?_take] at hx
        split at hx
        · exact ⟨hx, by assumption⟩
        · cases hx
      have := RO.sl (w := w) (ok := ok) e ((xs.take h.toNat).drop l.toNat) (if cap = l.toNat then a else a.map (·.add (l.toNat * e))) (cap - l.toNat) (fun i j => c (l.toNat + i) j) (fun hn => by
        have ha : a = none := by
          split at hn
          · exact hn
          · cases a with
            | none => rfl
            | some a => cases hn
        obtain ⟨rfl, hc0⟩ := g0 ha
        simp at h2 ⊢
        omega) (by rw [hlen]; omega) (by omega) (fun x hx => ge x (List.mem_of_mem_take (List.mem_of_mem_drop hx))) (fun i x j y hx hy => by
        obtain ⟨k1, k2⟩ := hget i x hx
        obtain ⟨ad, m1, m2, m3⟩ := gr _ x j y k1 hy
        subst m1
        have hne : ¬ cap = l.toNat := by omega
        refine ⟨ad.add (l.toNat * e), by rw [if_neg hne]; rfl, by rw [addr_add_block]; exact m2, ?_⟩
        rw [addr_add_add, ← m3]; congr 2; rw [Nat.add_mul, Nat.add_assoc]) (fun i x j y hx hy => g1 _ x j y (hget i x hx).1 hy) (fun i x j y hx hy => gy _ x j y (hget i x hx).1 hy)
      rwa [hlen] at this
    refine ⟨_, ?_, hres⟩
    have hb1 : (Instr.sliceBounds true xs.length cap lo hi none).run P w = .ok (l.toNat, h.toNat, cap) w := by
      rcases hlo with ⟨rfl, rfl⟩ | ⟨k, rfl⟩ <;> rcases hhi with ⟨rfl, rfl⟩ | ⟨k', rfl⟩
      · simp [Instr.sliceBounds]
      · have : h ≤ cap := by omega
        have h0' : 0 ≤ h := by omega
        simp [Instr.sliceBounds, Instr.sliceBound, asIntOf, this, h0']
      · simp [Instr.sliceBounds, Instr.sliceBound, asIntOf, h0, h1]
      · have a1 : h ≤ cap := by omega
        have a2 : 0 ≤ h := by omega
        simp [Instr.sliceBounds, Instr.sliceBound, asIntOf, a1, a2, h0]
        intro hh; omega
    simp [Instr.sliceAt, run_underlying ht, Instr.slice, hb1, run_sizeOf' hs]

theorem slc_row {t et : TypeId} {e : Nat} (ht : P.underlying t = some (.slice et)) (hs : szT P et = some e) {id ver len : Nat} {v : Value} (hv : Rp w (okk C rho hp) rho hp (.row id ver len) v) {xs : List (List SV)} (hq : hp id = some (.row e ver xs)) (lo : Option Value) (h : Int)
    (hlo : lo = none ∨ ∃ k, lo = some (.int k 0)) (k' : IntKind) (h0 : 0 ≤ h) (h2 : h ≤ len) :
    ∃ u, (Instr.sliceAt t v lo (some (.int k' h)) none).run P w = .ok u w ∧ Rp w (okk C rho hp) rho hp (.row id ver h.toNat) u := by
  have bounds : ∀ (n cap : Nat), len ≤ cap → (Instr.sliceBounds true n cap lo (some (.int k' h)) none).run P w = .ok (0, h.toNat, cap) w := fun n cap hc => by
    have a1 : h ≤ cap := by omega
    rcases hlo with rfl | ⟨k, rfl⟩
    · simp [Instr.sliceBounds, Instr.sliceBound, asIntOf, a1, h0]
    · simp [Instr.sliceBounds, Instr.sliceBound, asIntOf, a1, h0]
  cases hv with
  | row _ _ _ _ g1 g0 gle gv =>
    rcases gv e xs hq with ⟨gr, rfl, rfl⟩ | ⟨b, cap, cur, t0, k1, rfl, k3, k4, k5, k6⟩
    · have hh : h = 0 := by simp at h2; omega
      subst hh
      refine ⟨.slice none 0 0, ?_, .row _ _ _ _ rfl g0 gle (fun e' xs' hq' => .inl ⟨gr, rfl, rfl⟩)⟩
      have := bounds 0 0 (Nat.le_refl _)
      simp [Instr.sliceAt, run_underlying ht, Instr.slice, this, run_sizeOf' hs]
    · refine ⟨.slice (some ⟨b, 0, none⟩) h.toNat cap, ?_, .row _ _ _ _ rfl g0 gle (fun e' xs' hq' => .inr ⟨b, cap, cur, t0, k1, rfl, k3, by omega, k5, ?_⟩)⟩
      · have := bounds len cap k4
        simp [Instr.sliceAt, run_underlying ht, Instr.slice, this, run_sizeOf' hs, Addr.add]
      · rw [hq] at hq'; cases hq'; exact k6

/-- Lists of values and what they are, cell by cell. -/
def RL (w : World) (ok : Nat → Prop) (rho : Nat → Option Nat) (hp : Hp) (vs : List Value) (cs : List SV) : Prop :=
  vs.length = cs.length ∧ (∀ (j : Nat) (u : Value), vs[j]? = some u → u.oneCell' = true) ∧ ∀ (j : Nat) (y : SV), cs[j]? = some y → Rp w ok rho hp y (vs.getD j undef)

theorem RL.splice {ok : Nat → Prop} {vs us : List Value} {cs xs : List SV} (h : RL w ok rho hp vs cs) (k : RL w ok rho hp us xs) {o : Nat} (ho : o + xs.length ≤ cs.length) : RL w ok rho hp (splice vs o us) (splice cs o xs) := by
  have hu := k.1
  have hv := h.1
  refine ⟨by rw [splice_length _ _ _ (by omega), splice_length _ _ _ ho, hv], fun j u hj => ?_, fun j y hj => ?_⟩
  · rw [splice_get _ _ _ (by omega)] at hj
    split at hj
    · exact k.2.1 _ u hj
    · exact h.2.1 _ u hj
  · rw [splice_get _ _ _ ho] at hj
    rw [List.getD_eq_getElem?_getD, splice_get _ _ _ (by omega)]
    by_cases c : o ≤ j ∧ j < o + xs.length
    · rw [if_pos c] at hj
      rw [if_pos (by omega), ← List.getD_eq_getElem?_getD]; exact k.2.2 _ y hj
    · rw [if_neg c] at hj
      rw [if_neg (by omega), ← List.getD_eq_getElem?_getD]; exact h.2.2 _ y hj

theorem RL.agg {ok : Nat → Prop} {vs : List Value} {cs : List SV} (h : RL w ok rho hp vs cs) : Rp w ok rho hp (.agg cs) (.agg vs.toArray) := .agg cs vs h.1 h.2.1 h.2.2

/-- Parts, each at its place and of its size. -/
def layO (z : List SV) : List (Nat × Nat) → List (List SV) → Option (List SV)
  | [], [] => some z
  | (o, _) :: ps, x :: xs => layO (splice z o x) ps xs
  | _, _ => none

theorem layO_ok {ok : Nat → Prop} : ∀ (ps : List (Nat × Nat)) (xs : List (List SV)) (us : List (List Value)) (zs : List SV) (zv : List Value) (r : List SV), layO zs ps xs = some r → RL w ok rho hp zv zs →
    (∀ (j o n : Nat) (x : List SV), ps[j]? = some (o, n) → xs[j]? = some x → x.length = n ∧ o + n ≤ zs.length ∧ ∃ u, us[j]? = some u ∧ RL w ok rho hp u x) → us.length = xs.length →
    ∃ qs : List (Nat × List Value), qs.length = ps.length ∧ (∀ (j o : Nat) (u : List Value), qs[j]? = some (o, u) → us[j]? = some u ∧ ∃ n, ps[j]? = some (o, n) ∧ u.length = n) ∧ RL w ok rho hp (lay zv qs) r
  | [], [], us, zs, zv, r, h, hz, _, _ => by cases h; exact ⟨[], rfl, fun j o u hj => by simp at hj, hz⟩
  | [], _ :: _, us, zs, zv, r, h, _, _, _ => by cases h
  | _ :: _, [], us, zs, zv, r, h, _, _, _ => by cases h
  | (o, n) :: ps, x :: xs, [], zs, zv, r, h, _, _, hl => by simp at hl
  | (o, n) :: ps, x :: xs, u :: us, zs, zv, r, h, hz, hp', hl => by
    obtain ⟨h1, h2, u', h3, h4⟩ := hp' 0 o n x rfl rfl
    cases h3
    have hs := hz.splice h4 (o := o) (by omega)
    obtain ⟨qs, q1, q2, q3⟩ := layO_ok ps xs us _ _ r h hs (fun j o' n' x' g1 g2 => by
      obtain ⟨k1, k2, u', k3, k4⟩ := hp' (j + 1) o' n' x' (by simpa using g1) (by simpa using g2)
      exact ⟨k1, by rw [splice_length _ _ _ (by omega)]; exact k2, u', by simpa using k3, k4⟩) (by simpa using hl)
    refine ⟨(o, u) :: qs, by simp [q1], fun j o' u' hj => ?_, q3⟩
    cases j with
    | zero => simp at hj; obtain ⟨rfl, rfl⟩ := hj; exact ⟨rfl, n, rfl, by rw [h4.1, h1]⟩
    | succ j => simp at hj; obtain ⟨k1, n', k2, k3⟩ := q2 j o' u' hj; exact ⟨by simpa using k1, n', by simpa using k2, k3⟩

/-- Places of a struct's fields or an array's elements: offset and size. -/
def placesT (P : Program) (t : TypeId) (i : Nat) : Option (Nat × Nat) := match P.underlying t with
  | some (.struct fs) => match fs[i]? with
    | some f => match szT P f.type with
      | some n => some (f.offset, n)
      | none => none
    | none => none
  | some (.array _ et) => match szT P et with
    | some n => some (i * n, n)
    | none => none
  | _ => none

theorem run_mapM_fields {P : Program} {w : World} : ∀ (fs : List Field), (∀ f ∈ fs, (szT P f.type).isSome = true) →
    (fs.mapM fun f => (do pure (f.offset, ← sizeOf f.type) : Sem (Nat × Nat))).run P w = .ok (fs.map fun f => (f.offset, (szT P f.type).getD 0)) w
  | [], _ => rfl
  | f :: r, h => by
    have h0 := h f (by simp)
    obtain ⟨n, hn⟩ := Option.isSome_iff_exists.1 h0
    have ih := run_mapM_fields (w := w) r (fun f hf => h f (by simp [hf]))
    simp only [List.mapM_cons, Sem.run_bind, run_sizeOf' hn, Result.andThen_ok, Sem.run_pure, ih]
    simp [hn]

def fieldsSized (P : Program) (t : TypeId) : Bool := match P.underlying t with
  | some (.struct fs) => fs.toList.all fun f => (szT P f.type).isSome
  | some (.array _ et) => (szT P et).isSome
  | _ => false

theorem build_ok {t : TypeId} {z : List RV} (hz : zeroT P t = some z) (hfs : fieldsSized P t = true) {ss : List SV} {vs : List Value} {cs : List (List SV)} (hvs : vs.length = ss.length) {ok : Nat → Prop} (hrp : ∀ (j : Nat) (s : SV), ss[j]? = some s → Rp w ok rho hp s (vs.getD j undef))
    (hc : cellsAll ss = some cs) {ps : List (Nat × Nat)} {r : List SV} (hl : layO (z.map .rv) ps cs = some r) (hfit : ∀ (j o n : Nat) (x : List SV), ps[j]? = some (o, n) → cs[j]? = some x → x.length = n ∧ o + n ≤ z.length)
    {pv : List (Nat × Value)} (hpl : pv.length = ps.length) (hpv : ∀ (j i : Nat) (v : Value), pv[j]? = some (i, v) → vs[j]? = some v ∧ ps[j]? = placesT P t i) :
    ∃ u, (Instr.build t pv.toArray).run P w = .ok u w ∧ Rp w ok rho hp (.agg r) u := by
  obtain ⟨us, h1, h2, h3⟩ := cellsAll_ok hc hvs hrp
  unfold zeroT at hz
  cases hi : P.info? t with
  | none => simp [hi] at hz
  | some i =>
    cases hzz : i.zero with
    | none => simp [hi, hzz] at hz
    | some zv =>
      simp only [hi, hzz] at hz
      have hzl := cvL_ok w ok rho hp hz
      have hzr : RL w ok rho hp zv.cells.toList (z.map .rv) := ⟨by simpa using hzl.1, hzl.2.1, hzl.2.2⟩
      obtain ⟨qs, q1, q2, q3⟩ := layO_ok ps cs us (z.map .rv) zv.cells.toList r hl hzr (fun j o n x g1 g2 => by
        obtain ⟨k1, k2⟩ := hfit j o n x g1 g2
        obtain ⟨u, m1, m2, m3, m4⟩ := h3 j x g2
        exact ⟨k1, by simpa using k2, u, m1, m2, m3, m4⟩) h1
      have hfill : ∀ place : Nat → Option (Nat × Nat), (∀ i, place i = placesT P t i ∨ placesT P t i = none) → Instr.fill place zv.cells pv = some (lay zv.cells.toList qs).toArray := fun place hpc =>
        fill_lay place pv qs zv.cells (by rw [hpl, q1]) (fun j i' v o x g1 g2 => by
          obtain ⟨k1, k2⟩ := hpv j i' v g1
          obtain ⟨m1, n, m2, m3⟩ := q2 j o x g2
          obtain ⟨u, a1, a2⟩ := h2 j v k1
          rw [m1] at a1; cases a1
          have hj : j < cs.length := by rw [← h1]; exact (List.getElem?_eq_some_iff.1 m1).1
          obtain ⟨b1, b2⟩ := hfit j o n _ m2 (List.getElem?_eq_getElem hj)
          rw [m2] at k2
          rcases hpc i' with h | h
          · refine ⟨by rw [h, ← k2, m3], a2, ?_⟩
            have := hzl.1
            simp at this
            omega
          · rw [h] at k2; cases k2)
      refine ⟨.agg (lay zv.cells.toList qs).toArray, ?_, q3.agg⟩
      unfold fieldsSized at hfs
      cases hu : P.underlying t with
      | none => simp [hu] at hfs
      | some d =>
        rw [hu] at hfs
        cases d with
        | struct fs =>
          simp only [List.all_eq_true] at hfs
          have hm := run_mapM_fields (P := P) (w := w) fs.toList hfs
          have hma : (fs.mapM fun f => (do pure (f.offset, ← sizeOf f.type) : Sem (Nat × Nat))).run P w = .ok (fs.toList.map fun f => (f.offset, (szT P f.type).getD 0)).toArray w := by
            rw [Array.mapM_eq_mapM_toList]
            simp only [Sem.run_map, hm, Result.andThen_ok]
          have hf := hfill (fun i => (fs.toList.map fun f => (f.offset, (szT P f.type).getD 0)).toArray[i]?) (fun i => by
            unfold placesT
            rw [hu]
            simp only [List.getElem?_toArray, List.getElem?_map, Array.getElem?_toList]
            cases hx : fs[i]? with
            | none => left; rfl
            | some f =>
              have hs := hfs f (by simpa using Array.mem_of_getElem? hx)
              obtain ⟨n, hn⟩ := Option.isSome_iff_exists.1 hs
              left; simp [hn])
          simp only [Instr.build, Sem.run_bind, zeroValue, typeInfo, run_program, Result.andThen_ok, hi, Sem.run_pure, hzz, run_underlying hu, hma, hf]
        | array n et =>
          simp only at hfs
          obtain ⟨k, hk⟩ := Option.isSome_iff_exists.1 hfs
          have hf := hfill (fun i => some (i * k, k)) (fun i => by
            unfold placesT
            rw [hu]; left; simp [hk])
          simp only [Instr.build, Sem.run_bind, zeroValue, typeInfo, run_program, Result.andThen_ok, hi, Sem.run_pure, hzz, run_underlying hu, run_sizeOf' hk, hf]
        | _ => simp at hfs
end
end Go.Eng

/- make, fields and elements of aggregates, equality. -/
namespace Go.Eng
open Go

section
variable {P : Program} {C : Ctx} {hp : Hp} {w : World} {rho : Nat → Option Nat}

theorem mksl_ok (R : RepH C hp w rho) {id : Nat} (hf : hp id = none) (hf0 : C.h0 id = none) {t et : TypeId} {e bytes : Nat} (T : Elt P t et e bytes) {z : List RV} (hz : zeroT P et = some z) (hze : z.length = e) (kl kc : IntKind) (n : Int) (h0 : 0 ≤ n) (hby : (bytes : Int) * n ≤ 281474976710656) (h63 : n ≤ 9223372036854775807) :
    ∃ u w' rho', (Instr.makeSlice t (.int kl n) (.int kc n)).run P w = .ok u w' ∧ Step C hp (up hp id (some (.row e 0 (List.replicate n.toNat (z.map .rv))))) w w' rho rho' ∧
      Rp w' (okk C rho' (up hp id (some (.row e 0 (List.replicate n.toNat (z.map .rv)))))) rho' (up hp id (some (.row e 0 (List.replicate n.toNat (z.map .rv))))) (.row id 0 n.toNat) u := by
  obtain ⟨i, zv, hi, hzz, hsz, hbt, hzs⟩ := T.hi
  have hr := run_make (P := P) w t et i zv T.ht hi hzz kl kc n n h0 (Int.le_refl _) (by rw [hbt]; exact hby) h63
  unfold zeroT at hz
  simp only [hi, hzz] at hz
  obtain ⟨c1, c2, c3⟩ := cvL_ok w (okk C rho hp) rho hp hz
  subst hsz
  have S := R.make (w1 := w) rfl rfl rfl rfl id (.row i.size 0 (List.replicate n.toNat (z.map .rv))) (madeCells zv.cells (n.toNat * i.size)) et hf hf0 (by
    refine ⟨fun c hc => ?_, by simp [size_madeCells], fun k c hk j y hj => ?_⟩
    · rw [List.eq_of_mem_replicate hc]; simpa using hze
    · rw [List.getElem?_replicate] at hk
      split at hk
      · rename_i hkn
        cases hk
        have hj' : j < i.size := by have := (List.getElem?_eq_some_iff.1 hj).1; simpa [hze] using this
        have hlt : k * i.size + j < n.toNat * i.size := by
          have : (k + 1) * i.size ≤ n.toNat * i.size := Nat.mul_le_mul_right _ hkn
          rw [Nat.add_mul] at this; omega
        have hjz : j < zv.cells.toList.length := by simp; omega
        have hg := List.getElem?_eq_getElem hjz
        refine ⟨zv.cells.toList[j], ?_, c2 j _ hg, ?_⟩
        · simp only [madeCells, Array.getElem?_map]
          rw [Array.getElem?_range]
          simp only [hlt, if_true, Option.map_some, Option.some.injEq]
          rw [hzs, Nat.mul_comm, Nat.mul_add_mod, Nat.mod_eq_of_lt hj']
          simp [hzs, hj']
        · have := c3 j y hj
          rwa [List.getD_eq_getElem?_getD, hg, Option.getD_some] at this
      · cases hk)
  refine ⟨_, _, _, hr, S, .row id 0 _ _ rfl (by simp) (fun e' v' xs' h' => by omega) (fun e' xs' h' => .inr ⟨w.heap.size, _, _, et, up_same _ _ _, rfl, heap_alloc_new w _, Nat.le_refl _, by simp only [maxLen]; omega, ?_⟩)⟩
  rw [up_same] at h'; cases h'
  simp [size_madeCells]

theorem slc_nil {t et : TypeId} {e : Nat} (ht : P.underlying t = some (.slice et)) (hs : szT P et = some e) (lo hi : Option Value) (hlo : lo = none ∨ ∃ k, lo = some (.int k 0)) (hhi : hi = none ∨ ∃ k, hi = some (.int k 0)) :
    (Instr.sliceAt t (.slice none 0 0) lo hi none).run P w = .ok (.slice none 0 0) w := by
  have hb1 : (Instr.sliceBounds true 0 0 lo hi none).run P w = .ok (0, 0, 0) w := by
    rcases hlo with rfl | ⟨k, rfl⟩ <;> rcases hhi with rfl | ⟨k', rfl⟩ <;> simp [Instr.sliceBounds, Instr.sliceBound, asIntOf]
  simp [Instr.sliceAt, run_underlying ht, Instr.slice, hb1, run_sizeOf' hs]

theorem wrap_i64J {n : Int} (h1 : -9223372036854775808 ≤ n) (h2 : n < 9223372036854775808) : IntKind.i64.wrap n = n := by
  unfold IntKind.wrap
  simp only [IntKind.signed, IntKind.bits]
  by_cases h : (9223372036854775808 : Int) ≤ n % 18446744073709551616 <;> simp [h] <;> omega
/-- So many zeros, behind nothing. -/
theorem run_append_zeros (w : World) (t tx ty e : TypeId) (i : TypeInfo) (z : Value) (ht : P.underlying t = some (.slice e)) (hx : P.underlying tx = some (.int .i64)) (hi : P.info? e = some i) (hz : i.zero = some z) (hp : 0 < i.size) (k : IntKind) (n : Int) (h0 : 0 < n) (h63 : n ≤ 9223372036854775807) (hby : n * i.bytes ≤ 281474976710656) :
    (Builtin.append_ #[t, tx] ty #[.slice none 0 0, .int k n]).run P w =
      .ok (.slice (some ⟨w.heap.size, 0, none⟩) n.toNat (grownCap w n.toNat 0 e))
        (w.drew.alloc (.cells (Builtin.zeroCells z.cells n.toNat ++ Builtin.zeroCells z.cells (grownCap w n.toNat 0 e - n.toNat)) e)) := by
  have hw : IntKind.i64.wrap n = n := wrap_i64J (by omega) (by omega)
  have hnn : ((n.toNat : Nat) : Int) = n := by omega
  have hlt : ¬ (n < 0) := by omega
  have h1 : ¬ (281474976710656 < n * i.bytes) := by omega
  have h2 : ¬ (n.toNat = 0) := by omega
  have h3 : ¬ (9223372036854775807 < n) := by omega
  have h4 : ¬ (281474976710656 < n.toNat * i.bytes) := by
    intro h
    have : ((281474976710656 : Nat) : Int) < ((n.toNat * i.bytes : Nat) : Int) := by omega
    rw [Int.natCast_mul, hnn] at this
    omega
  have h5 : ¬ i.size = 0 := by omega
  have h6 : ¬ (n ≤ 0) := by omega
  have h7 : max n 0 = n := by omega
  simp [Builtin.append_, run_underlying ht, run_underlying hx, sizeOf, typeInfo, zeroValue, hi, hz, asInt, asIntOf, hw, h6, h7, h0, hlt, h1, h2, h3, h4, h5, Builtin.nextslicecap, Builtin.firstCells, Question.forced, newRow, grownCap]
  intro h; exact absurd h (Nat.mul_ne_zero h2 h5)

theorem appn_ok (R : RepH C hp w rho) {t t' et : TypeId} {e bytes : Nat} (T : Elt P t et e bytes) (ty : TypeId) (hu : P.underlying t' = some (.int .i64)) {id : Nat} (hf : hp id = none) (hf0 : C.h0 id = none) (k : IntKind) (n : Int) (h0 : 0 < n) (h63 : n.toNat ≤ maxLen) (hby : n.toNat * bytes ≤ 140737488355328) :
    ∃ u w' rho', (Builtin.append_ #[t, t'] ty #[.slice none 0 0, .int k n]).run P w = .ok u w' ∧ Step C hp (up hp id (some (.row e 0 []))) w w' rho rho' ∧
      Rp w' (okk C rho' (up hp id (some (.row e 0 [])))) rho' (up hp id (some (.row e 0 []))) (.row id 0 n.toNat) u := by
  obtain ⟨i, z, hi, hz, hsz, hbt, hzs⟩ := T.hi
  have hpos := T.pos
  subst hsz
  have hnn : ((n.toNat : Nat) : Int) = n := by omega
  have hr := run_append_zeros (P := P) w t t' ty et i z T.ht hu hi hz hpos k n h0 (by simp only [maxLen] at h63; omega) (by
    have : ((n.toNat * bytes : Nat) : Int) ≤ 140737488355328 := by omega
    rw [Int.natCast_mul, hnn] at this
    rw [hbt]; omega)
  have hcapm := grownCap_le_maxLen w n.toNat 0 et h63
  have hcapg := grownCap_ge w n.toNat 0 et
  have S := R.make (w1 := w.drew) rfl rfl rfl rfl id (.row i.size 0 []) (Builtin.zeroCells z.cells n.toNat ++ Builtin.zeroCells z.cells (grownCap w n.toNat 0 et - n.toNat)) et hf hf0 (by
    refine ⟨fun c hc => by simp at hc, by simp, fun k c hk => by simp at hk⟩)
  refine ⟨_, _, _, hr, S, .row id 0 _ _ rfl (by simp) (fun e' v' xs' h' => by omega) (fun e' xs' h' => .inr ⟨w.heap.size, _, _, et, up_same _ _ _, rfl, heap_alloc_new w.drew _, hcapg, hcapm, ?_⟩)⟩
  rw [up_same] at h'; cases h'
  simp only [Array.size_append, size_zeroCells, hzs, ← Nat.add_mul]
  exact Nat.mul_le_mul_right _ (by omega)

theorem part_agg {ok : Nat → Prop} {cs : List SV} {v : Value} (hv : Rp w ok rho hp (.agg cs) v) {t : TypeId} {off n : Nat} (ha : aggT P t = some true) (hs : szT P t = some n) (hl : off + n ≤ cs.length) :
    ∃ arr, v = .agg arr ∧ ∃ u, (part t arr off).run P w = .ok u w ∧ Rp w ok rho hp (.agg ((cs.drop off).take n)) u := by
  cases hv with
  | agg _ vs h1 h2 h3 =>
    refine ⟨_, rfl, .agg ((vs.drop off).take n).toArray, ?_, .agg _ _ (by simp [h1]) (fun j u hu => ?_) (fun j y hy => ?_)⟩
    · simp [part, run_isAgg' ha, run_sizeOf' hs]
    · rw [List.getElem?_take] at hu
      split at hu
      · rw [List.getElem?_drop] at hu; exact h2 _ u hu
      · cases hu
    · rw [List.getElem?_take] at hy
      split at hy
      · rename_i hj
        rw [List.getElem?_drop] at hy
        have := h3 _ y hy
        rw [List.getD_eq_getElem?_getD] at this ⊢
        rw [List.getElem?_take, if_pos hj, List.getElem?_drop]; exact this
      · cases hy

theorem part_one {ok : Nat → Prop} {cs : List SV} {v : Value} (hv : Rp w ok rho hp (.agg cs) v) {t : TypeId} {off : Nat} (ha : aggT P t = some false) {y : SV} (hy : cs[off]? = some y) :
    ∃ arr, v = .agg arr ∧ ∃ u, (part t arr off).run P w = .ok u w ∧ Rp w ok rho hp y u := by
  cases hv with
  | agg _ vs h1 h2 h3 =>
    have hlt : off < vs.length := by rw [h1]; exact (List.getElem?_eq_some_iff.1 hy).1
    have hg := List.getElem?_eq_getElem hlt
    have := h3 off y hy
    rw [List.getD_eq_getElem?_getD, hg, Option.getD_some] at this
    refine ⟨_, rfl, vs[off], ?_, this⟩
    simp [part, run_isAgg' ha, hlt]

theorem fldv_agg {ok : Nat → Prop} {cs : List SV} {v : Value} (hv : Rp w ok rho hp (.agg cs) v) {s ft : TypeId} {f off n : Nat} (h : fldT P s f = some (off, ft)) (ha : aggT P ft = some true) (hs : szT P ft = some n) (hl : off + n ≤ cs.length) :
    ∃ u, (Instr.field s v f).run P w = .ok u w ∧ Rp w ok rho hp (.agg ((cs.drop off).take n)) u := by
  obtain ⟨arr, rfl, u, h1, h2⟩ := part_agg hv ha hs hl
  refine ⟨u, ?_, h2⟩
  unfold fldT at h
  split at h
  · rename_i fs hu
    split at h
    · rename_i x hx
      cases h
      simp [Instr.field, run_underlying hu, hx, asAgg, h1]
    · cases h
  · cases h

theorem fldv_one {ok : Nat → Prop} {cs : List SV} {v : Value} (hv : Rp w ok rho hp (.agg cs) v) {s ft : TypeId} {f off : Nat} (h : fldT P s f = some (off, ft)) (ha : aggT P ft = some false) {y : SV} (hy : cs[off]? = some y) :
    ∃ u, (Instr.field s v f).run P w = .ok u w ∧ Rp w ok rho hp y u := by
  obtain ⟨arr, rfl, u, h1, h2⟩ := part_one hv ha hy
  refine ⟨u, ?_, h2⟩
  unfold fldT at h
  split at h
  · rename_i fs hu
    split at h
    · rename_i x hx
      cases h
      simp [Instr.field, run_underlying hu, hx, asAgg, h1]
    · cases h
  · cases h

theorem ixv_one {ok : Nat → Prop} {cs : List SV} {v : Value} (hv : Rp w ok rho hp (.agg cs) v) {t et : TypeId} {len e : Nat} (ht : P.underlying t = some (.array len et)) (hs : szT P et = some e) (ha : aggT P et = some false) (k : IntKind) (i : Int) (h0 : 0 ≤ i) (h1 : i < len) {y : SV} (hy : cs[i.toNat * e]? = some y) :
    ∃ u, (Instr.index t v (.int k i)).run P w = .ok u w ∧ Rp w ok rho hp y u := by
  obtain ⟨arr, rfl, u, g1, g2⟩ := part_one hv ha hy
  exact ⟨u, by simp [Instr.index, asIntOf, run_underlying ht, h0, h1, run_sizeOf' hs, g1], g2⟩

theorem ixv_agg {ok : Nat → Prop} {cs : List SV} {v : Value} (hv : Rp w ok rho hp (.agg cs) v) {t et : TypeId} {len e : Nat} (ht : P.underlying t = some (.array len et)) (hs : szT P et = some e) (ha : aggT P et = some true) (k : IntKind) (i : Int) (h0 : 0 ≤ i) (h1 : i < len) (hl : i.toNat * e + e ≤ cs.length) :
    ∃ u, (Instr.index t v (.int k i)).run P w = .ok u w ∧ Rp w ok rho hp (.agg ((cs.drop (i.toNat * e)).take e)) u := by
  obtain ⟨arr, rfl, u, g1, g2⟩ := part_agg hv ha hs hl
  exact ⟨u, by simp [Instr.index, asIntOf, run_underlying ht, h0, h1, run_sizeOf' hs, g1], g2⟩

/-- Is a value nil? What is known of it. -/
def isNilSV (hp : Hp) : SV → Option (Prop × Bool × List Nat)
  | .rv .nilp => some (True, true, [])
  | .rv (.rop _) => some (True, false, [])
  | .ptr id _ => match hp id with
    | some (.var _) => some (True, false, [id])
    | _ => none
  | .ept id ver _ _ => match hp id with
    | some (.row _ ver' _) => some (ver' = ver, false, [id])
    | _ => none
  | _ => none

theorem run_eq_nilp {t el : TypeId} (ht : P.underlying t = some (.pointer el)) {s : SV} {v : Value} (hv : Rp w (okk C rho hp) rho hp s v) {p : Prop} {b : Bool} {rd : List Nat} (h : isNilSV hp s = some (p, b, rd)) (hp' : p) :
    (binOp .eql t v (.pointer none)).run P w = .ok (.bool b) w ∧ (binOp .neq t v (.pointer none)).run P w = .ok (.bool !b) w := by
  have core : ∀ a : Option Addr, (Op.equal t (.pointer a) (.pointer none)).run P w = .ok a.isNone w := fun a => by
    have c : ∀ d, (Op.equalIn (d + 1) t (.pointer a) (.pointer none)).run P w = .ok a.isNone w := fun d => by
      cases a <;> simp [Op.equalIn, run_underlying ht]
    exact c 9999
  have fin : ∀ a : Option Addr, v = .pointer a → a.isNone = b → (binOp .eql t v (.pointer none)).run P w = .ok (.bool b) w ∧ (binOp .neq t v (.pointer none)).run P w = .ok (.bool !b) w := fun a hva hb => by
    subst hva; subst hb
    have := core a
    constructor <;> cases a <;> simp [binOp, this]
  cases hv with
  | rv r v hr =>
    cases r with
    | nilp => cases hr; cases h; exact fin none rfl rfl
    | rop cs => cases hr; cases h; exact fin _ rfl rfl
    | _ => cases h
  | ptr id off _ h1 h0 hb =>
    simp only [isNilSV] at h
    split at h
    · rename_i cs hq
      cases h
      obtain ⟨b', _, rfl⟩ := hb cs hq
      exact fin _ rfl rfl
    · cases h
  | ept id ver i off _ h1 h0 hle hb =>
    simp only [isNilSV] at h
    split at h
    · rename_i e ver' xs hq
      cases h
      subst hp'
      obtain ⟨b', _, rfl⟩ := hb e xs hq
      exact fin _ rfl rfl
    · cases h
  | _ => cases h
end
end Go.Eng

/- Equality of values of many cells, cell by cell. -/
namespace Go.Eng
open Go

inductive CK where
  | b | i | s
  deriving Inhabited, DecidableEq

def cellEqV : CK → Value → Value → Option Bool
  | .b, .bool a, .bool b => some (a == b)
  | .i, .int k a, .int k' b => if k = k' then some (a == b) else none
  | .s, .string a, .string b => some (a.toList == b.toList)
  | _, _, _ => none

def cellsEqV : List CK → List Value → List Value → Option Bool
  | [], [], [] => some true
  | k :: ks, x :: xs, y :: ys => match cellEqV k x y, cellsEqV ks xs ys with
    | some a, some b => some (a && b)
    | _, _ => none
  | _, _, _ => none

def eqF (P : Program) (rec : TypeId → Option (List CK)) : Nat → List Field → Option (List CK)
  | _, [] => some []
  | off, f :: r => if f.name = "_" ∨ f.offset ≠ off then none else match rec f.type, P.info? f.type with
    | some ks, some i => if i.size = ks.length then match eqF P rec (off + ks.length) r with
      | some l => some (ks ++ l)
      | none => none
      else none
    | _, _ => none

/-- The kinds of the cells of a type whose values are compared cell by cell. -/
def eqK (P : Program) : Nat → TypeId → Option (List CK)
  | 0, _ => none
  | D + 1, t => match P.underlying t with
    | some .bool => some [.b]
    | some (.int _) => some [.i]
    | some .string => some [.s]
    | some (.array n e) => match eqK P D e, P.info? e with
      | some ks, some i => if i.size = ks.length then some ((List.replicate n ks).flatten) else none
      | _, _ => none
    | some (.struct fs) => if P.stoodInHeld t then none else eqF P (eqK P D) 0 fs.toList
    | _ => none

def wrapT (P : Program) (t : TypeId) (cs : List Value) : Value := match P.underlying t with
  | some (.struct _) | some (.array _ _) => .agg cs.toArray
  | _ => cs.headD undef

theorem cellsEqV_len : ∀ {ks : List CK} {xs ys : List Value} {r : Bool}, cellsEqV ks xs ys = some r → xs.length = ks.length ∧ ys.length = ks.length
  | [], [], [], _, _ => ⟨rfl, rfl⟩
  | k :: ks, x :: xs, y :: ys, r, h => by
    unfold cellsEqV at h
    split at h
    · rename_i a b ha hb
      have := cellsEqV_len hb
      simp [this.1, this.2]
    · cases h
  | [], _ :: _, _, _, h => by cases h
  | [], [], _ :: _, _, h => by cases h
  | _ :: _, [], _, _, h => by cases h
  | _ :: _, _ :: _, [], _, h => by cases h

theorem cellsEqV_app : ∀ {ks ls : List CK} {xs ys : List Value} {r : Bool}, cellsEqV (ks ++ ls) xs ys = some r →
    ∃ r1 r2, cellsEqV ks (xs.take ks.length) (ys.take ks.length) = some r1 ∧ cellsEqV ls (xs.drop ks.length) (ys.drop ks.length) = some r2 ∧ r = (r1 && r2)
  | [], ls, xs, ys, r, h => ⟨true, r, rfl, by simpa using h, by simp⟩
  | k :: ks, ls, x :: xs, y :: ys, r, h => by
    simp only [List.cons_append, cellsEqV] at h
    split at h
    · rename_i a b ha hb
      obtain ⟨r1, r2, h1, h2, h3⟩ := cellsEqV_app hb
      cases h
      refine ⟨a && r1, r2, ?_, by simpa using h2, by rw [h3, Bool.and_assoc]⟩
      simp only [List.length_cons, List.take_succ_cons, cellsEqV, ha, h1]
    · cases h
  | _ :: _, _, [], _, _, h => by simp [cellsEqV] at h
  | _ :: _, _, _ :: _, [], _, h => by simp [cellsEqV] at h

section
variable {P : Program}

theorem run_part_wrap {e : TypeId} {i : TypeInfo} (hi : P.info? e = some i) {kd : TypeDesc} (hu : P.underlying e = some kd) {ks : List CK} (hn : i.size = ks.length) (hk : aggT P e = some false → ks.length = 1) {xs : List Value} {off : Nat} (hl : off + ks.length ≤ xs.length) (w : World) :
    (part e xs.toArray off).run P w = .ok (wrapT P e ((xs.drop off).take ks.length)) w := by
  have hs : szT P e = some ks.length := by simp [szT, hi, hn]
  have ht : ∃ b, aggT P e = some b := by simp [aggT, hu]
  obtain ⟨b, hb⟩ := ht
  cases b with
  | true =>
    have hw : wrapT P e ((xs.drop off).take ks.length) = .agg ((xs.drop off).take ks.length).toArray := by
      unfold wrapT
      simp only [aggT, hu, Option.map_some, Option.some.injEq] at hb
      rw [hu]
      split at hb
      · rfl
      · rfl
      · cases hb
    rw [hw]
    simp only [part, Sem.run_bind, run_isAgg' hb, Result.andThen_ok, if_true, run_sizeOf' hs, Sem.run_pure]
    have : (xs.toArray.extract off (off + ks.length)) = ((xs.drop off).take ks.length).toArray := by
      apply Array.ext'
      rw [Array.toList_extract]
      simp [List.extract]
    rw [this]
  | false =>
    have h1 := hk hb
    rw [h1] at hl ⊢
    have hlt : off < xs.length := by omega
    have hd : (xs.drop off).take 1 = [xs[off]] := by
      rw [List.drop_eq_getElem_cons hlt]; rfl
    have hw : wrapT P e [xs[off]] = xs[off] := by
      unfold wrapT
      simp only [aggT, hu, Option.map_some, Option.some.injEq] at hb
      rw [hu]
      split at hb
      · cases hb
      · cases hb
      · rename_i h1 h2
        split
        · rename_i he; cases he; exact absurd rfl (h1 _)
        · rename_i he; cases he; exact absurd rfl (h2 _ _)
        · rfl
    rw [hd, hw]
    simp only [part, Sem.run_bind, run_isAgg' hb, Result.andThen_ok, Bool.false_eq_true, if_false]
    have : xs.toArray[off]? = some xs[off] := by simp [hlt]
    rw [this]; rfl

theorem eqK_one {D : Nat} {t : TypeId} {ks : List CK} (h : eqK P D t = some ks) (ha : aggT P t = some false) : ks.length = 1 := by
  cases D with
  | zero => cases h
  | succ D =>
    unfold eqK at h
    unfold aggT at ha
    split at h
    · cases h; rfl
    · cases h; rfl
    · cases h; rfl
    · rename_i hu; simp [hu] at ha
    · rename_i hu; simp [hu] at ha
    · cases h

def EqOK (P : Program) (d : Nat) (t : TypeId) (ks : List CK) : Prop := ∀ (cx cy : List Value) (r : Bool), cellsEqV ks cx cy = some r → ∀ w, (Op.equalIn d t (wrapT P t cx) (wrapT P t cy)).run P w = .ok r w

theorem eqK_und {D : Nat} {t : TypeId} {ks : List CK} (h : eqK P D t = some ks) : ∃ kd, P.underlying t = some kd := by
  cases D with
  | zero => cases h
  | succ D =>
    unfold eqK at h
    split at h <;> first | exact ⟨_, by assumption⟩ | cases h

theorem run_eqF {d D : Nat} (IH : ∀ (t : TypeId) (ks : List CK), eqK P D t = some ks → EqOK P d t ks) {X Y : List Value} : ∀ (fs : List Field) (off : Nat) (ks : List CK) (r : Bool), eqF P (eqK P D) off fs = some ks → cellsEqV ks (X.drop off) (Y.drop off) = some r → off ≤ X.length → off ≤ Y.length → ∀ w, (Op.eqFields d X.toArray Y.toArray fs).run P w = .ok r w
  | [], off, ks, r, h, hc, _, _, w => by
    cases h
    cases hx : X.drop off with
    | nil => cases hy : Y.drop off with
      | nil => rw [hx, hy] at hc; cases hc; rfl
      | cons => rw [hx, hy] at hc; cases hc
    | cons => rw [hx] at hc; cases hc
  | f :: fs, off, ks, r, h, hc, hX, hY, w => by
    unfold eqF at h
    split at h
    · cases h
    · rename_i hno
      split at h
      · rename_i k1 i hk1 hi
        split at h
        · rename_i hsz
          split at h
          · rename_i l hl
            cases h
            obtain ⟨r1, r2, h1, h2, rfl⟩ := cellsEqV_app hc
            have hlen := cellsEqV_len hc
            simp only [List.length_drop, List.length_append] at hlen
            obtain ⟨kd, hu⟩ := eqK_und hk1
            have hoff : f.offset = off := by
              by_cases he : f.offset = off
              · exact he
              · exact absurd (.inr he) hno
            have hname : ¬ f.name = "_" := fun he => hno (.inl he)
            have pX := run_part_wrap (P := P) hi hu hsz (eqK_one hk1) (xs := X) (off := off) (by omega) w
            have pY := run_part_wrap (P := P) hi hu hsz (eqK_one hk1) (xs := Y) (off := off) (by omega) w
            have pE := IH f.type k1 hk1 _ _ r1 h1 w
            simp only [Op.eqFields, hname, ne_eq, not_false_eq_true, if_true, Sem.run_bind, hoff, pX, pY, pE, Result.andThen_ok]
            cases r1 with
            | false => simp
            | true =>
              simp only [Bool.not_true, Bool.false_eq_true, if_false, Bool.true_and]
              refine run_eqF IH fs (off + k1.length) l r2 hl ?_ (by omega) (by omega) w
              rw [← List.drop_drop, ← List.drop_drop]; exact h2
          · cases h
        · cases h
      · cases h

theorem run_eqI {d D : Nat} {e : TypeId} {ks : List CK} (hk : eqK P D e = some ks) (IH : EqOK P d e ks) {i : TypeInfo} (hi : P.info? e = some i) (hsz : i.size = ks.length) {X Y : List Value} : ∀ (n k : Nat) (r : Bool), cellsEqV ((List.replicate n ks).flatten) (X.drop (k * ks.length)) (Y.drop (k * ks.length)) = some r → k * ks.length ≤ X.length → k * ks.length ≤ Y.length → ∀ w, (Op.eqItems d e ks.length X.toArray Y.toArray (List.range' k n)).run P w = .ok r w
  | 0, k, r, hc, _, _, w => by
    simp only [List.replicate_zero, List.flatten_nil] at hc
    cases hx : X.drop (k * ks.length) with
    | nil => cases hy : Y.drop (k * ks.length) with
      | nil => rw [hx, hy] at hc; cases hc; rfl
      | cons => rw [hx, hy] at hc; cases hc
    | cons => rw [hx] at hc; cases hc
  | n + 1, k, r, hc, hX, hY, w => by
    rw [List.replicate_succ, List.flatten_cons] at hc
    obtain ⟨r1, r2, h1, h2, rfl⟩ := cellsEqV_app hc
    have hlen := cellsEqV_len hc
    simp only [List.length_drop, List.length_append] at hlen
    obtain ⟨kd, hu⟩ := eqK_und hk
    have pX := run_part_wrap (P := P) hi hu hsz (eqK_one hk) (xs := X) (off := k * ks.length) (by omega) w
    have pY := run_part_wrap (P := P) hi hu hsz (eqK_one hk) (xs := Y) (off := k * ks.length) (by omega) w
    have pE := IH _ _ r1 h1 w
    have hs : (k + 1) * ks.length = k * ks.length + ks.length := by rw [Nat.add_mul, Nat.one_mul]
    simp only [List.range'_succ, Op.eqItems, Sem.run_bind, pX, pY, pE, Result.andThen_ok]
    cases r1 with
    | false => simp
    | true =>
      simp only [Bool.not_true, Bool.false_eq_true, if_false, Bool.true_and]
      refine run_eqI hk IH hi hsz n (k + 1) r2 ?_ (by omega) (by omega) w
      rw [hs, ← List.drop_drop, ← List.drop_drop]; exact h2

theorem eqK_ok (d : Nat) : ∀ (D : Nat) (t : TypeId) (ks : List CK), eqK P D t = some ks → EqOK P (d + D) t ks
  | 0, t, ks, h => by cases h
  | D + 1, t, ks, h => by
    intro cx cy r hc w
    have hlen := cellsEqV_len hc
    unfold eqK at h
    split at h
    · rename_i hu
      cases h
      obtain ⟨x, rfl⟩ := List.length_eq_one_iff.1 hlen.1
      obtain ⟨y, rfl⟩ := List.length_eq_one_iff.1 hlen.2
      cases x <;> cases y <;> (simp [cellsEqV, cellEqV] at hc)
      subst hc
      simp only [wrapT, hu, List.headD_cons]
      exact run_equalIn_bool w (d + D) t _ _ hu
    · rename_i k hu
      cases h
      obtain ⟨x, rfl⟩ := List.length_eq_one_iff.1 hlen.1
      obtain ⟨y, rfl⟩ := List.length_eq_one_iff.1 hlen.2
      cases x <;> cases y <;> (simp [cellsEqV, cellEqV] at hc)
      rename_i k1 a k2 b
      by_cases hk : k1 = k2
      · subst hk
        simp at hc
        subst hc
        simp only [wrapT, hu, List.headD_cons]
        exact run_equalIn_int w (d + D) t _ _ _ _ hu
      · simp [hk] at hc
    · rename_i hu
      cases h
      obtain ⟨x, rfl⟩ := List.length_eq_one_iff.1 hlen.1
      obtain ⟨y, rfl⟩ := List.length_eq_one_iff.1 hlen.2
      cases x <;> cases y <;> (simp [cellsEqV, cellEqV] at hc)
      subst hc
      simp only [wrapT, hu, List.headD_cons]
      exact run_equalIn_string w (d + D) t _ _ hu
    · rename_i n e hu
      split at h
      · rename_i k1 i hk1 hi
        split at h
        · rename_i hsz
          cases h
          simp only [wrapT, hu]
          have hco : P.cellsOf e = k1.length := by simp [Program.cellsOf, hi, hsz]
          rw [show d + (D + 1) = (d + D) + 1 from rfl, run_equalIn_array w (d + D) _ _ hu hi, hco, List.range_eq_range']
          refine run_eqI hk1 (eqK_ok d D e k1 hk1) hi hsz n 0 r ?_ (by simp) (by simp) w
          simpa using hc
        · cases h
      · cases h
    · rename_i fs hu
      split at h
      · cases h
      · rename_i hst
        simp only [wrapT, hu]
        have hfs : P.fieldsOf t = fs := by simp [Program.fieldsOf, hu]
        rw [show d + (D + 1) = (d + D) + 1 from rfl, run_equalIn_struct w (d + D) t _ _ (by rw [hfs]; exact hu) (by simpa using hst), hfs]
        exact run_eqF (eqK_ok d D) fs.toList 0 ks r h (by simpa using hc) (by simp) (by simp) w
    · cases h
end

def cellEq : CK → SV → SV → Option (Prop × Bool)
  | .b, .rv (.bool a), .rv (.bool b) => some (True, a == b)
  | .i, .rv (.int k a), .rv (.int k' b) => some (k = k', a == b)
  | .s, .rv (.str a), .rv (.str b) => some (True, a.toList == b.toList)
  | _, _, _ => none

def cellsEq : List CK → List SV → List SV → Option (Prop × Bool)
  | [], [], [] => some (True, true)
  | k :: ks, x :: xs, y :: ys => match cellEq k x y, cellsEq ks xs ys with
    | some (p, a), some (q, b) => some (p ∧ q, a && b)
    | _, _ => none
  | _, _, _ => none

theorem cellEq_ok {w : World} {ok : Nat → Prop} {rho : Nat → Option Nat} {hp : Hp} {k : CK} {x y : SV} {u v : Value} (hu : Rp w ok rho hp x u) (hv : Rp w ok rho hp y v) {p : Prop} {b : Bool} (h : cellEq k x y = some (p, b)) (hp' : p) : cellEqV k u v = some b := by
  unfold cellEq at h
  split at h
  · cases h
    cases hu with | rv _ _ hr => cases hv with | rv _ _ hs => cases hr; cases hs; rfl
  · cases h
    cases hu with | rv _ _ hr => cases hv with | rv _ _ hs => cases hr; cases hs; simp [cellEqV, hp']
  · cases h
    cases hu with | rv _ _ hr => cases hv with | rv _ _ hs => cases hr; cases hs; rfl
  · cases h

theorem cellsEq_ok {w : World} {ok : Nat → Prop} {rho : Nat → Option Nat} {hp : Hp} : ∀ {ks : List CK} {xs ys : List SV} {us vs : List Value} {p : Prop} {b : Bool}, us.length = xs.length → vs.length = ys.length → (∀ (j : Nat) (y : SV), xs[j]? = some y → Rp w ok rho hp y (us.getD j undef)) → (∀ (j : Nat) (y : SV), ys[j]? = some y → Rp w ok rho hp y (vs.getD j undef)) →
    cellsEq ks xs ys = some (p, b) → p → cellsEqV ks us vs = some b
  | [], [], [], us, vs, p, b, h1, h2, _, _, h, _ => by
    cases h
    obtain rfl := List.eq_nil_of_length_eq_zero h1
    obtain rfl := List.eq_nil_of_length_eq_zero h2
    rfl
  | k :: ks, x :: xs, y :: ys, us, vs, p, b, h1, h2, hu, hv, h, hp' => by
    unfold cellsEq at h
    split at h
    · rename_i p1 a q c ha hc
      cases h
      cases us with
      | nil => simp at h1
      | cons u us =>
        cases vs with
        | nil => simp at h2
        | cons v vs =>
          have e1 := cellEq_ok (hu 0 x rfl) (hv 0 y rfl) ha hp'.1
          have e2 := cellsEq_ok (us := us) (vs := vs) (by simpa using h1) (by simpa using h2) (fun j y hj => hu (j + 1) y (by simpa using hj)) (fun j y hj => hv (j + 1) y (by simpa using hj)) hc hp'.2
          simp only [List.getD_cons_zero] at e1
          simp only [cellsEqV, e1, e2]
    · cases h
  | [], _ :: _, _, _, _, _, _, _, _, _, _, h, _ => by cases h
  | [], [], _ :: _, _, _, _, _, _, _, _, _, h, _ => by cases h
  | _ :: _, [], _, _, _, _, _, _, _, _, _, h, _ => by cases h
  | _ :: _, _ :: _, [], _, _, _, _, _, _, _, _, h, _ => by cases h
end Go.Eng

/- Windows: parts of the call's own rows and variables, as slices. Rows written over. -/
namespace Go.Eng
open Go

/-- The cells of an array, element by element. -/
def chunks {α : Type} (e : Nat) : Nat → List α → List (List α)
  | 0, _ => []
  | n + 1, cs => cs.take e :: chunks e n (cs.drop e)

theorem chunks_len {α : Type} {e : Nat} : ∀ {n : Nat} {cs : List α}, (chunks e n cs).length = n
  | 0, _ => rfl
  | n + 1, cs => by simp [chunks, chunks_len (n := n)]

theorem chunks_get {α : Type} {e : Nat} : ∀ {n : Nat} {cs : List α} {i : Nat} {x : List α}, n * e ≤ cs.length → (chunks e n cs)[i]? = some x → x.length = e ∧ i < n ∧ ∀ j, j < e → x[j]? = cs[i * e + j]?
  | 0, _, i, x, _, h => by simp [chunks] at h
  | n + 1, cs, i, x, hl, h => by
    rw [Nat.add_mul, Nat.one_mul] at hl
    cases i with
    | zero =>
      simp [chunks] at h
      subst h
      refine ⟨by simp; omega, by omega, fun j hj => ?_⟩
      rw [List.getElem?_take, if_pos hj]; simp
    | succ i =>
      simp only [chunks, List.getElem?_cons_succ] at h
      obtain ⟨a, b, c⟩ := chunks_get (by simp; omega) h
      refine ⟨a, by omega, fun j hj => ?_⟩
      rw [c j hj, List.getElem?_drop, Nat.add_mul]
      congr 1; omega

section
variable {P : Program} {C : Ctx} {hp : Hp} {w : World} {rho : Nat → Option Nat}

theorem elems_win_row (R : RepH C hp w rho) {id ver off len : Nat} {v : Value} (hv : Rp w (okk C rho hp) rho hp (.win id ver off len) v) {e : Nat} {xs : List (List SV)} (hq : hp id = some (.row e ver xs)) (hl : off + len ≤ xs.length) :
    ElemsOf w (okk C rho hp) rho hp e v ((xs.drop off).take len) := by
  cases hv with
  | win _ _ _ _ _ g1 g0 gle gr gc =>
    obtain ⟨ad, cap, rfl, k1, k2, k3, k4⟩ := gr e xs hq
    have hlt : ((xs.drop off).take len).length = len := by simp; omega
    rcases R.heap id _ hq with ⟨hn, _, _, h2⟩ | ⟨b', cur, t1, m1, m2, m3⟩
    · cases h2
      simp at hl
      obtain ⟨rfl, rfl⟩ := hl
      cases ad with
      | none => rw [k3 rfl]; simpa using elems_nil e
      | some ad =>
        have := ElemsOf.mk' (w := w) (ok := okk C rho hp) (rho := rho) (hp := hp) (e := e) (cap := cap) (a := some ad) (ys := []) (fun _ _ => undef) (by simp) (by simp) (by simp) (by simp)
        simpa using this
    · have := ElemsOf.mk' (w := w) (ok := okk C rho hp) (rho := rho) (hp := hp) (e := e) (cap := cap) (a := ad) (ys := (xs.drop off).take len) (fun i j => cur.getD ((off + i) * e + j) undef) (fun c hc => m3.1 c (List.mem_of_mem_drop (List.mem_of_mem_take hc))) (by omega) (fun h => by have := k3 h; exact ⟨List.eq_nil_of_length_eq_zero (by omega), this⟩) (fun i x j y hx hy => by
        rw [List.getElem?_take] at hx
        split at hx
        · rw [List.getElem?_drop] at hx
          obtain ⟨u, h1, h2, h3⟩ := m3.2.2 _ x hx j y hy
          have hgd : cur.getD ((off + i) * e + j) undef = u := by rw [Array.getD_eq_getD_getElem?, h1]; rfl
          rw [hgd]
          refine ⟨h2, h3, fun ad' had => ?_⟩
          obtain ⟨b, hb, hab⟩ := k4 (by omega)
          rw [had] at hab; cases hab
          rw [m1] at hb; cases hb
          rw [add_lit, cell_blk m2]
          rw [show off * e + (i * e + j) = (off + i) * e + j by rw [Nat.add_mul]; omega]; exact h1
        · cases hx)
      rwa [hlt] at this

theorem elems_win_var (R : RepH C hp w rho) {id ver off len : Nat} {v : Value} (hv : Rp w (okk C rho hp) rho hp (.win id ver off len) v) {e : Nat} {cs : List SV} (hq : hp id = some (.var cs)) (hl : off + len * e ≤ cs.length) :
    ElemsOf w (okk C rho hp) rho hp e v (chunks e len (cs.drop off)) := by
  cases hv with
  | win _ _ _ _ _ g1 g0 gle gr gc =>
    obtain ⟨ad, cap, rfl, k1, k2, k3, k4⟩ := gc cs hq
    have hdl : len * e ≤ (cs.drop off).length := by simp; omega
    rcases R.heap id _ hq with ⟨hn, _, _, h2⟩ | ⟨b', cur, t1, m1, m2, m3⟩
    · cases h2
    · have := ElemsOf.mk' (w := w) (ok := okk C rho hp) (rho := rho) (hp := hp) (e := e) (cap := cap) (a := ad) (ys := chunks e len (cs.drop off)) (fun i j => cur.getD (off + (i * e + j)) undef) (fun c hc => by
        obtain ⟨i, hi⟩ := List.getElem?_of_mem hc
        exact (chunks_get hdl hi).1) (by rw [chunks_len]; omega) (fun h => by have := k3 h; exact ⟨List.eq_nil_of_length_eq_zero (by rw [chunks_len]; omega), this⟩) (fun i x j y hx hy => by
        obtain ⟨a1, a2, a3⟩ := chunks_get hdl hx
        have hj : j < e := by have := (List.getElem?_eq_some_iff.1 hy).1; omega
        rw [a3 j hj, List.getElem?_drop] at hy
        obtain ⟨u, h1, h2, h3⟩ := m3.2 _ y hy
        rw [Nat.zero_add] at h1
        have hgd : cur.getD (off + (i * e + j)) undef = u := by rw [Array.getD_eq_getD_getElem?, h1]; rfl
        rw [hgd]
        refine ⟨h2, h3, fun ad' had => ?_⟩
        obtain ⟨b, hb, hab⟩ := k4 (by omega)
        rw [had] at hab; cases hab
        rw [m1] at hb; cases hb
        rw [add_lit, cell_blk m2]; exact h1)
      rwa [chunks_len] at this

theorem len_win {t et : TypeId} (ht : P.underlying t = some (.slice et)) (ty : TypeId) {id ver off len : Nat} {v : Value} (hv : Rp w (okk C rho hp) rho hp (.win id ver off len) v) (hq : (∃ e xs, hp id = some (.row e ver xs)) ∨ ∃ cs, hp id = some (.var cs)) :
    (Builtin.len_ #[t] ty #[v]).run P w = .ok (.int .i64 len) w := by
  cases hv with
  | win _ _ _ _ _ g1 g0 gle gr gc =>
    rcases hq with ⟨e, xs, hq⟩ | ⟨cs, hq⟩
    · obtain ⟨ad, cap, rfl, _⟩ := gr e xs hq; exact run_len_sl ht ty _ _ _
    · obtain ⟨ad, cap, rfl, _⟩ := gc cs hq; exact run_len_sl ht ty _ _ _

theorem ix_win_row {t et : TypeId} {e : Nat} (ht : P.underlying t = some (.slice et)) (hs : szT P et = some e) {id ver off len : Nat} {v : Value} (hv : Rp w (okk C rho hp) rho hp (.win id ver off len) v) {xs : List (List SV)} (hq : hp id = some (.row e ver xs))
    {k : IntKind} {i : Int} (h0 : 0 ≤ i) (h1 : i < len) :
    ∃ u, (Instr.indexAt t v (.int k i)).run P w = .ok u w ∧ Rp w (okk C rho hp) rho hp (.ept id ver (off + i.toNat) 0) u := by
  cases hv with
  | win _ _ _ _ _ g1 g0 gle gr gc =>
    obtain ⟨ad, cap, rfl, k1, k2, k3, k4⟩ := gr e xs hq
    obtain ⟨b, hb, rfl⟩ := k4 (by omega)
    refine ⟨_, run_ixSlice ht hs _ _ _ k i h0 h1, .ept _ _ _ _ _ rfl g0 gle (fun e' xs' hq' => ⟨b, hb, ?_⟩)⟩
    rw [hq] at hq'; cases hq'
    rw [add_lit, Nat.add_mul]; simp

theorem ix_win_var {t et : TypeId} {e : Nat} (ht : P.underlying t = some (.slice et)) (hs : szT P et = some e) {id ver off len : Nat} {v : Value} (hv : Rp w (okk C rho hp) rho hp (.win id ver off len) v) {cs : List SV} (hq : hp id = some (.var cs))
    {k : IntKind} {i : Int} (h0 : 0 ≤ i) (h1 : i < len) :
    ∃ u, (Instr.indexAt t v (.int k i)).run P w = .ok u w ∧ Rp w (okk C rho hp) rho hp (.ptr id (off + i.toNat * e)) u := by
  cases hv with
  | win _ _ _ _ _ g1 g0 gle gr gc =>
    obtain ⟨ad, cap, rfl, k1, k2, k3, k4⟩ := gc cs hq
    obtain ⟨b, hb, rfl⟩ := k4 (by omega)
    exact ⟨_, run_ixSlice ht hs _ _ _ k i h0 h1, .ptr _ _ _ rfl g0 (fun _ _ => ⟨b, hb, by rw [add_lit]⟩)⟩

/-- A part of a row, from l on. -/
theorem slc_win {t et : TypeId} {e : Nat} (ht : P.underlying t = some (.slice et)) (hs : szT P et = some e) {id ver len : Nat} {v : Value} (hv : Rp w (okk C rho hp) rho hp (.row id ver len) v) {xs : List (List SV)} (hq : hp id = some (.row e ver xs)) (hi : Option Value) (k : IntKind) (l h : Int)
    (hhi : (hi = none ∧ h = len) ∨ ∃ k, hi = some (.int k h)) (h0 : 0 ≤ l) (h1 : l ≤ h) (h2 : h ≤ len) :
    ∃ u, (Instr.sliceAt t v (some (.int k l)) hi none).run P w = .ok u w ∧ Rp w (okk C rho hp) rho hp (.win id ver l.toNat (h.toNat - l.toNat)) u := by
  have bounds : ∀ (cap : Nat), len ≤ cap → (Instr.sliceBounds true len cap (some (.int k l)) hi none).run P w = .ok (l.toNat, h.toNat, cap) w := fun cap hc => by
    rcases hhi with ⟨rfl, rfl⟩ | ⟨k', rfl⟩
    · simp [Instr.sliceBounds, Instr.sliceBound, asIntOf, h0, h1]
    · have a1 : h ≤ cap := by omega
      have a2 : 0 ≤ h := by omega
      simp [Instr.sliceBounds, Instr.sliceBound, asIntOf, a1, a2, h0]
      intro hh; omega
  cases hv with
  | row _ _ _ _ g1 g0 gle gv =>
    rcases gv e xs hq with ⟨gr, rfl, rfl⟩ | ⟨b, cap, cur, t0, k1, rfl, k3, k4, k5, k6⟩
    · have hh : h = 0 := by simp at h2; omega
      subst hh
      obtain rfl : l = 0 := by omega
      refine ⟨.slice none 0 0, ?_, .win _ _ _ _ _ rfl g0 gle (fun e' xs' hq' => ⟨none, 0, rfl, Nat.le_refl _, by simp [maxLen], fun _ => rfl, fun h => by simp at h⟩) (fun cs hc => by rw [hq] at hc; cases hc)⟩
      have := bounds 0 (Nat.le_refl _)
      simp [Instr.sliceAt, run_underlying ht, Instr.slice, this, run_sizeOf' hs]
    · refine ⟨.slice (if cap = l.toNat then some ⟨b, 0, none⟩ else some ⟨b, l.toNat * e, none⟩) (h.toNat - l.toNat) (cap - l.toNat), ?_, .win _ _ _ _ _ rfl g0 gle (fun e' xs' hq' => ⟨_, _, rfl, by omega, by omega, fun hn => (by split at hn <;> cases hn), fun hl => ⟨b, k1, ?_⟩⟩) (fun cs hc => by rw [hq] at hc; cases hc)⟩
      · have := bounds cap k4
        by_cases hcl : cap = l.toNat
        · subst hcl; simp [Instr.sliceAt, run_underlying ht, Instr.slice, this, run_sizeOf' hs]
        · simp [Instr.sliceAt, run_underlying ht, Instr.slice, this, run_sizeOf' hs, hcl, add_lit]
      · rw [hq] at hq'; cases hq'
        rw [if_neg (by omega)]

/-- An array, taken as a slice. -/
theorem arr_win {t et : TypeId} {e n : Nat} (ht : P.underlying t = some (.array n et)) (hs : szT P et = some e) {id off : Nat} {v : Value} (hv : Rp w (okk C rho hp) rho hp (.ptr id off) v) {cs : List SV} (hq : hp id = some (.var cs)) (hn : n ≤ maxLen) :
    ∃ u, (Instr.sliceAt t v none none none).run P w = .ok u w ∧ Rp w (okk C rho hp) rho hp (.win id 0 off n) u := by
  cases hv with
  | ptr _ _ _ g1 g0 gb =>
    obtain ⟨b, hb, rfl⟩ := gb cs hq
    refine ⟨.slice (some ⟨b, off, none⟩) n n, ?_, .win _ _ _ _ _ rfl g0 (fun _ _ _ h => by rw [hq] at h; cases h) (fun _ _ h => by rw [hq] at h; cases h) (fun cs' hc => ⟨_, _, rfl, Nat.le_refl _, hn, fun h => (by cases h), fun _ => ⟨b, hb, rfl⟩⟩)⟩
    simp [Instr.sliceAt, run_underlying ht, Instr.sureAddr, Instr.sliceBounds, run_sizeOf' hs]
    by_cases h0 : n = 0
    · simp [h0]
    · simp [h0, add_lit]

theorem row_over {ok : Nat → Prop} {e ver off : Nat} {xs ys : List (List SV)} {cur : Array Value} (h3 : Holds w ok rho hp cur (.row e ver xs)) {us : List (List Value)} (hl : us.length = ys.length) (hue : ∀ u ∈ us, u.length = e) (hye : ∀ y ∈ ys, y.length = e) (hoff : off + ys.length ≤ xs.length)
    (hcell : ∀ (j : Nat) (c : List SV), ys[j]? = some c → ∃ u, us[j]? = some u ∧ u.length = c.length ∧ (∀ (i : Nat) (x : Value), u[i]? = some x → x.oneCell' = true) ∧ ∀ (i : Nat) (y : SV), c[i]? = some y → Rp w ok rho hp y (u.getD i undef)) :
    off * e + us.flatten.length ≤ cur.size ∧ Holds w ok rho hp (splice cur.toList (off * e) us.flatten).toArray (.row e ver (splice xs off ys)) := by
  have hfl : us.flatten.length = ys.length * e := by rw [flat_length e us hue, hl]
  have hsz : off * e + us.flatten.length ≤ cur.size := by
    have h1 : (off + ys.length) * e ≤ xs.length * e := Nat.mul_le_mul_right _ hoff
    rw [Nat.add_mul] at h1
    have := h3.2.1
    omega
  have hcs : off * e + us.flatten.length ≤ cur.toList.length := by simpa using hsz
  refine ⟨hsz, fun x hx => ?_, ?_, fun i x hx => ?_⟩
  · unfold splice at hx
    rcases List.mem_append.1 hx with hx | hx
    · rcases List.mem_append.1 hx with hx | hx
      · exact h3.1 x (List.mem_of_mem_take hx)
      · exact hye x hx
    · exact h3.1 x (List.mem_of_mem_drop hx)
  · simp only [List.size_toArray]
    rw [splice_length _ _ _ hcs, splice_length _ _ _ hoff]
    simpa using h3.2.1
  · rw [splice_get _ _ _ hoff] at hx
    intro j y hy
    simp only [List.getElem?_toArray]
    rw [splice_get _ _ _ hcs]
    by_cases hc : off ≤ i ∧ i < off + ys.length
    · rw [if_pos hc] at hx
      obtain ⟨u, h1, h2, h4, h5⟩ := hcell _ x hx
      have hjl : j < x.length := (List.getElem?_eq_some_iff.1 hy).1
      have hxe : x.length = e := hye x (List.mem_of_getElem? hx)
      have hg := List.getElem?_eq_getElem (l := u) (i := j) (by omega)
      have hf := flat_get e us hue _ j u _ h1 hg
      have hi1 : (i - off) * e + off * e = i * e := by rw [← Nat.add_mul]; congr 1; omega
      have hb : (i - off) * e + j < us.flatten.length := (List.getElem?_eq_some_iff.1 hf).1
      rw [if_pos (by omega)]
      refine ⟨_, by rw [show i * e + j - off * e = (i - off) * e + j by omega]; exact hf, h4 _ _ hg, ?_⟩
      have := h5 j y hy
      rwa [List.getD_eq_getElem?_getD, hg, Option.getD_some] at this
    · rw [if_neg hc] at hx
      obtain ⟨v, h1, h2, h4⟩ := h3.2.2 i x hx j y hy
      have hxe : x.length = e := h3.1 x (List.mem_of_getElem? hx)
      have hjl : j < x.length := (List.getElem?_eq_some_iff.1 hy).1
      refine ⟨v, ?_, h2, h4⟩
      rw [if_neg]
      · simpa using h1
      · rintro ⟨a1, a2⟩
        rcases Nat.lt_or_ge i off with hlt | hge
        · have : (i + 1) * e ≤ off * e := Nat.mul_le_mul_right _ hlt
          rw [Nat.add_mul] at this; omega
        · have : (off + ys.length) * e ≤ i * e := Nat.mul_le_mul_right _ (by omega)
          rw [Nat.add_mul] at this; omega

/-- Elements stored over a part of a row. -/
theorem run_rows (R : RepH C hp w rho) {id b : Nat} {e ver off : Nat} {xs ys : List (List SV)} (hq : hp id = some (.row e ver xs)) (hr : rho id = some b) {us : List (List Value)} (hl : us.length = ys.length) (hue : ∀ u ∈ us, u.length = e) (hye : ∀ y ∈ ys, y.length = e) (hoff : off + ys.length ≤ xs.length)
    (hcell : ∀ (j : Nat) (c : List SV), ys[j]? = some c → ∃ u, us[j]? = some u ∧ u.length = c.length ∧ (∀ (i : Nat) (x : Value), u[i]? = some x → x.oneCell' = true) ∧ ∀ (i : Nat) (y : SV), c[i]? = some y → Rp w (okk C rho hp) rho hp y (u.getD i undef)) :
    ∃ w' rho', (storeCells ⟨b, off * e, none⟩ us.flatten).run P w = .ok () w' ∧ Step C hp (up hp id (some (.row e ver (splice xs off ys)))) w w' rho rho' := by
  rcases R.heap id _ hq with ⟨hn, _⟩ | ⟨b', cur, t0, g1, g2, g3⟩
  · rw [hr] at hn; cases hn
  · rw [hr] at g1; cases g1
    obtain ⟨h1, h2⟩ := row_over g3 hl hue hye hoff hcell
    have hst := run_storeCells_at P b (off * e) t0 us.flatten 0 cur w g2 (by simpa using h1) (fun v hv => by
      obtain ⟨u, hu, hvu⟩ := List.mem_flatten.1 hv
      obtain ⟨j, hj⟩ := List.getElem?_of_mem hu
      obtain ⟨i, hi⟩ := List.getElem?_of_mem hvu
      have hjl := (List.getElem?_eq_some_iff.1 hj).1
      obtain ⟨u', k1, _, k3, _⟩ := hcell j _ (List.getElem?_eq_getElem (l := ys) (i := j) (by omega))
      rw [hj] at k1; cases k1
      exact k3 i v hi)
    simp only [Nat.add_zero] at hst
    refine ⟨_, _, hst, R.write hq hr g2 ?_ ⟨Nat.le_refl _, fun _ => ⟨rfl, rfl, fun _ _ c t hc => ⟨c, t, hc, rfl⟩⟩⟩ h2⟩
    simp only [List.size_toArray]
    have := splice_length cur.toList (off * e) us.flatten (by simpa using h1)
    unfold splice at this
    rw [this]; simp

theorem zeroCells_list (z : Array Value) : ∀ (n : Nat), (Builtin.zeroCells z n).toList = (List.replicate n z.toList).flatten
  | 0 => by simp [Builtin.zeroCells]
  | n + 1 => by
    refine List.ext_getElem? (fun k => ?_)
    by_cases hz : z.size = 0
    · have : z = #[] := Array.eq_empty_of_size_eq_zero hz
      subst this
      simp [Builtin.zeroCells]
    · have hpos : 0 < z.size := by omega
      have hfl := flat_length z.size (List.replicate (n + 1) z.toList) (fun u hu => by rw [List.eq_of_mem_replicate hu]; simp)
      by_cases hk : k < (n + 1) * z.size
      · have h1 : k / z.size < n + 1 := (Nat.div_lt_iff_lt_mul hpos).2 hk
        have h2 : k % z.size < z.size := Nat.mod_lt _ hpos
        have := flat_get z.size (List.replicate (n + 1) z.toList) (fun u hu => by rw [List.eq_of_mem_replicate hu]; simp) (k / z.size) (k % z.size) z.toList (z[k % z.size]'h2) (by rw [List.getElem?_replicate, if_pos h1]) (by simp)
        rw [show k / z.size * z.size + k % z.size = k by rw [Nat.mul_comm]; exact Nat.div_add_mod k z.size] at this
        rw [this]
        simp [Builtin.zeroCells, hk, h2]
      · rw [List.getElem?_eq_none (by simp [Builtin.zeroCells]; omega), List.getElem?_eq_none (by rw [hfl]; simp; omega)]

theorem up_id {hp : Hp} {id : Nat} {hb : HB} (h : hp id = some hb) : up hp id (some hb) = hp := by
  funext j
  by_cases hj : j = id
  · subst hj; rw [up_same, h]
  · rw [up_other _ _ hj]

theorem zeroT_run' {t : TypeId} {z : List RV} (h : zeroT P t = some z) (w : World) : ∃ zv, (zeroValue t).run P w = .ok zv w ∧ cvL zv.cells.toList = some z := by
  unfold zeroT at h
  cases hi : P.info? t with
  | none => simp [hi] at h
  | some i =>
    cases hzz : i.zero with
    | none => simp [hi, hzz] at h
    | some zv =>
      simp only [hi, hzz] at h
      exact ⟨zv, by simp [zeroValue, typeInfo, hi, hzz], h⟩

/-- clear of a part of a row. -/
theorem clr_win (R : RepH C hp w rho) {t et : TypeId} {e : Nat} (ht : P.underlying t = some (.slice et)) {z : List RV} (hz : zeroT P et = some z) (hze : z.length = e) (ty : TypeId) {id ver off len : Nat} {v : Value} (hv : Rp w (okk C rho hp) rho hp (.win id ver off len) v) {xs : List (List SV)} (hq : hp id = some (.row e ver xs)) (hl : off + len ≤ xs.length) :
    ∃ w' rho', (Builtin.clear_ #[t] ty #[v]).run P w = .ok (.tuple #[]) w' ∧ Step C hp (up hp id (some (.row e ver (splice xs off (List.replicate len (z.map SV.rv)))))) w w' rho rho' := by
  cases hv with
  | win _ _ _ _ _ g1 g0 gle gr gc =>
    obtain ⟨ad, cap, rfl, k1, k2, k3, k4⟩ := gr e xs hq
    cases len with
    | zero =>
      refine ⟨w, rho, ?_, ?_⟩
      · cases ad <;> simp [Builtin.clear_, run_underlying ht]
      · have : splice xs off (List.replicate 0 (z.map SV.rv)) = xs := by simp [splice]
        rw [this, up_id hq]; exact R.same
    | succ n =>
      obtain ⟨b, hb, rfl⟩ := k4 (by omega)
      obtain ⟨zv, hzr, hzc⟩ := zeroT_run' hz w
      obtain ⟨c1, c2, c3⟩ := cvL_ok w (okk C rho hp) rho hp hzc
      obtain ⟨w', rho', h1, h2⟩ := run_rows (P := P) R hq hb (off := off) (ys := List.replicate (n + 1) (z.map SV.rv)) (us := List.replicate (n + 1) zv.cells.toList) (by simp) (fun u hu => by rw [List.eq_of_mem_replicate hu]; omega) (fun u hu => by rw [List.eq_of_mem_replicate hu]; simp [hze]) (by simpa using hl) (fun j c hj => by
        have hjl : j < n + 1 := by have := (List.getElem?_eq_some_iff.1 hj).1; simpa using this
        rw [List.getElem?_replicate, if_pos hjl] at hj
        cases hj
        exact ⟨_, by rw [List.getElem?_replicate, if_pos hjl], by simp at c1 ⊢; exact c1, c2, c3⟩)
      refine ⟨w', rho', ?_, h2⟩
      have hzl := zeroCells_list zv.cells (n + 1)
      simp [Builtin.clear_, run_underlying ht, hzr, hzl, h1]
end
end Go.Eng

/- What an operation does to the engine's values, and that the machine does just this. -/
namespace Go.Eng
open Go

inductive AO where
  | mv | pick
  | alloc (z : List RV) | box
  | build (z : List RV) (ps : List (Nat × Nat))
  | bsl (e : Nat)
  | load (n : Nat) (agg : Bool) | store (n : Nat) | nilchk
  | ibin (op : BinOp) | ishf (op : BinOp) | eqnil (neg : Bool) | eqb (neg : Bool)
  | not | neg | cvi (k : IntKind)
  | mkif (t : TypeId) | mkfn (f : FuncId) | mksl (e bytes : Nat) (z : List RV)
  | slc (e : Nat) (lo hi : Bool)
  | fld (off : Nat) | fldv (off n : Nat) (agg : Bool)
  | ixs (e : Nat) | ixa (len e : Nat) | ixv (len e : Nat) (agg : Bool)
  | len | lens | app (e bytes : Nat) | mx | mn | ext (i : Nat)
  | eqs (neg agg : Bool) (ks : List CK) | eqnilo (neg : Bool) (k : Nat) | sbin (op : BinOp) | tas (t : TypeId) (ok : Bool)
  | capn | appn (e bytes : Nat)
  | slca (n e : Nat) | clr (e : Nat) (z : List RV) | die
  | call (f : FuncId) | callv | inv (name : String)
  deriving Inhabited

abbrev XR := Option (Prop × SV × Option (Nat × HB) × List Nat)

def upo (hp : Hp) : Option (Nat × HB) → Hp
  | none => hp
  | some (id, hb) => up hp id (some hb)

def loadE (n : Nat) (agg : Bool) (hp : Hp) : SV → XR
  | .ptr id off => match hp id with
    | some (.var cs) => if agg then some (off + n ≤ cs.length, .agg ((cs.drop off).take n), none, [id]) else some (off < cs.length, (cs[off]?).getD .dead, none, [id])
    | _ => none
  | .ept id ver i off => match hp id with
    | some (.row e ver' xs) => if agg then some (ver = ver' ∧ i < xs.length ∧ off + n ≤ e, .agg ((((xs[i]?).getD []).drop off).take n), none, [id]) else some (ver = ver' ∧ i < xs.length ∧ off < e, (((xs[i]?).getD [])[off]?).getD .dead, none, [id])
    | _ => none
  | .rv (.rop cs) => if agg then some (n ≤ cs.length, .agg ((cs.take n).map .rv), none, []) else some (0 < cs.length, .rv ((cs[0]?).getD .nilp), none, [])
  | _ => none

def storeE (n : Nat) (hp : Hp) (p x : SV) : XR := match cellsSV x with
  | none => none
  | some cx => match p with
    | .ptr id off => match hp id with
      | some (.var cs) => some (cx.length = n ∧ off + n ≤ cs.length, .dead, some (id, .var (splice cs off cx)), [id])
      | _ => none
    | .ept id ver i off => match hp id with
      | some (.row e ver' xs) => some (ver = ver' ∧ i < xs.length ∧ cx.length = n ∧ off + n ≤ e, .dead, some (id, .row e ver' (xs.set i (splice ((xs[i]?).getD []) off cx))), [id])
      | _ => none
    | _ => none

def boxE (nx : Nat) (x : SV) : XR := match cellsSV x with
  | some cs => some (True, .ptr nx 0, some (nx, .var cs), [])
  | none => none

/-- Each part is as long as its place. -/
def fits (n : Nat) : List (Nat × Nat) → List (List SV) → Prop
  | [], [] => True
  | (o, k) :: ps, x :: xs => x.length = k ∧ o + k ≤ n ∧ fits n ps xs
  | _, _ => False

def buildE (z : List RV) (ps : List (Nat × Nat)) (xs : List SV) : XR := match cellsAll xs with
  | some cs => match layO (z.map .rv) ps cs with
    | some r => some (fits z.length ps cs, .agg r, none, [])
    | none => none
  | none => none

def allLen (e : Nat) : List (List SV) → Prop
  | [] => True
  | x :: r => x.length = e ∧ allLen e r

def bslE (e nx : Nat) (xs : List SV) : XR := match cellsAll xs with
  | some cs => some (allLen e cs ∧ xs.length * e ≤ 16777216, .row nx 0 xs.length, some (nx, .row e 0 cs), [])
  | none => none

def fldE (off : Nat) (hp : Hp) : SV → XR
  | .ptr id o => match hp id with
    | some (.var _) => some (True, .ptr id (o + off), none, [id])
    | _ => none
  | .ept id ver i o => match hp id with
    | some (.row _ ver' _) => some (ver = ver', .ept id ver i (o + off), none, [id])
    | _ => none
  | .rv (.rop cs) => some (True, .rv (.rop (cs.drop off)), none, [])
  | _ => none

def ixsE (e : Nat) (hp : Hp) (x : SV) (i : Int) : XR := match x with
  | .rv (.sl e' xs) => some (e' = e ∧ 0 ≤ i ∧ i < xs.length, .rv (.rop ((xs[i.toNat]?).getD [])), none, [])
  | .row id ver len => match hp id with
    | some (.row e' ver' _) => some (e' = e ∧ ver = ver' ∧ 0 ≤ i ∧ i < len, .ept id ver i.toNat 0, none, [id])
    | _ => none
  | .win id ver off len => match hp id with
    | some (.row e' ver' _) => some (e' = e ∧ ver = ver' ∧ 0 ≤ i ∧ i < len, .ept id ver (off + i.toNat) 0, none, [id])
    | some (.var _) => some (0 ≤ i ∧ i < len, .ptr id (off + i.toNat * e), none, [id])
    | _ => none
  | _ => none

def ixaE (len e : Nat) (hp : Hp) (x : SV) (i : Int) : XR := match x with
  | .ptr id o => match hp id with
    | some (.var _) => some (0 ≤ i ∧ i < len, .ptr id (o + i.toNat * e), none, [id])
    | _ => none
  | .ept id ver i0 o => match hp id with
    | some (.row _ ver' _) => some (ver = ver' ∧ 0 ≤ i ∧ i < len, .ept id ver i0 (o + i.toNat * e), none, [id])
    | _ => none
  | .rv (.rop cs) => some (0 ≤ i ∧ i < len, .rv (.rop (cs.drop (i.toNat * e))), none, [])
  | _ => none

def lenE (hp : Hp) : SV → XR
  | .rv (.sl _ xs) => some (True, .rv (.int .i64 xs.length), none, [])
  | .rv .nilsl => some (True, .rv (.int .i64 0), none, [])
  | .rv .slz => some (True, .rv (.int .i64 0), none, [])
  | .row id ver len => match hp id with
    | some (.row _ ver' _) => some (ver = ver', .rv (.int .i64 len), none, [id])
    | _ => none
  | .win id ver _ len => match hp id with
    | some (.row _ ver' _) => some (ver = ver', .rv (.int .i64 len), none, [id])
    | some (.var _) => some (True, .rv (.int .i64 len), none, [id])
    | _ => none
  | _ => none

def lensE : SV → XR
  | .rv (.str s) => some (True, .rv (.int .i64 s.size), none, [])
  | _ => none

/-- What is appended. -/
def srcE (e : Nat) (hp : Hp) : SV → Option (Prop × List (List SV) × List Nat)
  | .rv (.sl e' ys) => some (e' = e, ys.map (List.map .rv), [])
  | .rv .nilsl => some (True, [], [])
  | .rv .slz => some (True, [], [])
  | .row id ver len => match hp id with
    | some (.row e' ver' xs) => some (e' = e ∧ ver = ver' ∧ len ≤ xs.length, xs.take len, [id])
    | _ => none
  | .win id ver off len => match hp id with
    | some (.row e' ver' xs) => some (e' = e ∧ ver = ver' ∧ off + len ≤ xs.length, (xs.drop off).take len, [id])
    | some (.var cs) => some (off + len * e ≤ cs.length, chunks e len (cs.drop off), [id])
    | _ => none
  | _ => none

def appE (e bytes : Nat) (hp : Hp) (nx : Nat) (s x : SV) : XR := match srcE e hp x with
  | none => none
  | some (p, ys, rd) => match s with
    | .rv .nilsl => some (p ∧ ys.length ≤ maxLen ∧ ys.length * bytes ≤ 140737488355328, .row nx 0 ys.length, some (nx, .row e 0 ys), rd)
    | .row id ver len => match hp id with
      | some (.row e' ver' xs) => some (p ∧ e' = e ∧ ver = ver' ∧ len ≤ xs.length ∧ len + ys.length ≤ maxLen ∧ (len + ys.length) * bytes ≤ 140737488355328, .row id (ver + 1) (len + ys.length), some (id, .row e (ver + 1) (xs.take len ++ ys)), id :: rd)
      | _ => none
    | _ => none

def capE : SV → XR
  | .rv .nilsl => some (True, .rv (.int .i64 0), none, [])
  | _ => none
/-- So many zeros, behind nothing: their values are not kept. -/
def appnE (e bytes nx : Nat) : SV → SV → XR
  | .rv .nilsl, .rv (.int _ n) => some (0 < n ∧ n.toNat ≤ maxLen ∧ n.toNat * bytes ≤ 140737488355328, .row nx 0 n.toNat, some (nx, .row e 0 []), [])
  | _, _ => none

def bnd2 : List SV → Option (Option Int × Option Int)
  | [.rv (.int _ l), .rv (.int _ h)] => some (some l, some h)
  | _ => none
def bndL : List SV → Option (Option Int × Option Int)
  | [.rv (.int _ l)] => some (some l, none)
  | _ => none
def bndH : List SV → Option (Option Int × Option Int)
  | [.rv (.int _ h)] => some (none, some h)
  | _ => none
def bnd0 : List SV → Option (Option Int × Option Int)
  | [] => some (none, none)
  | _ => none
def bndE (lo hi : Bool) (r : List SV) : Option (Option Int × Option Int) := if lo then (if hi then bnd2 r else bndL r) else (if hi then bndH r else bnd0 r)

def slcC (e : Nat) (hp : Hp) (x : SV) (l h : Option Int) : XR := match x with
  | .rv (.sl e' xs) => some (e' = e ∧ 0 ≤ l.getD 0 ∧ l.getD 0 ≤ h.getD xs.length ∧ h.getD xs.length ≤ xs.length, .rv (.sl e ((xs.take (h.getD xs.length).toNat).drop (l.getD 0).toNat)), none, [])
  | .row id ver len => match hp id, h with
    | some (.row e' ver' _), some h => if l.getD 0 = 0 then some (e' = e ∧ ver = ver' ∧ 0 ≤ h ∧ h ≤ len, .row id ver h.toNat, none, [id]) else some (e' = e ∧ ver = ver' ∧ 0 ≤ l.getD 0 ∧ l.getD 0 ≤ h ∧ h ≤ len, .win id ver (l.getD 0).toNat (h.toNat - (l.getD 0).toNat), none, [id])
    | some (.row e' ver' _), none => match l with
      | some l => some (e' = e ∧ ver = ver' ∧ 0 ≤ l ∧ l ≤ len, .win id ver l.toNat (len - l.toNat), none, [id])
      | none => none
    | _, _ => none
  | .rv .nilsl => some (l.getD 0 = 0 ∧ h.getD 0 = 0, .rv .nilsl, none, [])
  | _ => none

/-- An array, taken as a slice. -/
def slcaE (n e : Nat) (hp : Hp) : SV → XR
  | .ptr id off => match hp id with
    | some (.var cs) => some (off + n * e ≤ cs.length ∧ n ≤ maxLen, .win id 0 off n, none, [id])
    | _ => none
  | _ => none

def clrE (e : Nat) (z : List RV) (hp : Hp) : SV → XR
  | .win id ver off len => match hp id with
    | some (.row e' ver' xs) => some (e' = e ∧ ver = ver' ∧ off + len ≤ xs.length, .dead, some (id, .row e' ver' (splice xs off (List.replicate len (z.map .rv)))), [id])
    | _ => none
  | _ => none

def slcE (e : Nat) (lo hi : Bool) (hp : Hp) : List SV → XR
  | x :: r => match bndE lo hi r with
    | some (l, h) => slcC e hp x l h
    | none => none
  | [] => none

def fldvE (off n : Nat) (agg : Bool) : SV → XR
  | .agg cs => if agg then some (off + n ≤ cs.length, .agg ((cs.drop off).take n), none, []) else some (off < cs.length, (cs[off]?).getD .dead, none, [])
  | _ => none

def ixvE (len e : Nat) (agg : Bool) (i : Int) : SV → XR
  | .agg cs => if agg then some (0 ≤ i ∧ i < len ∧ i.toNat * e + e ≤ cs.length, .agg ((cs.drop (i.toNat * e)).take e), none, []) else some (0 ≤ i ∧ i < len ∧ i.toNat * e < cs.length, (cs[i.toNat * e]?).getD .dead, none, [])
  | _ => none

def o1 (f : SV → XR) : List SV → XR
  | [x] => f x
  | _ => none
def o2 (f : SV → SV → XR) : List SV → XR
  | [x, y] => f x y
  | _ => none

def pickE : List SV → XR
  | [.rv (.bool c), x, y] => some (True, if c then x else y, none, [])
  | _ => none
def allocE (z : List RV) (nx : Nat) : List SV → XR
  | [] => some (True, .ptr nx 0, some (nx, .var (z.map .rv)), [])
  | _ => none
def nilchkE (hp : Hp) (x : SV) : XR := match isNilSV hp x with
  | some (p, false, rd) => some (p, x, none, rd)
  | _ => none
def ibinE (op : BinOp) : SV → SV → XR
  | .rv (.int k a), .rv (.int k' b) => match ibin op k a b with
    | some (p, r) => some (k = k' ∧ p, .rv r, none, [])
    | none => none
  | _, _ => none
def ishfE (op : BinOp) : SV → SV → XR
  | .rv (.int k a), .rv (.int _ b) => match ishf op k a b with
    | some (p, r) => some (p, .rv r, none, [])
    | none => none
  | _, _ => none
def eqnilE (neg : Bool) (hp : Hp) (x : SV) : XR := match isNilSV hp x with
  | some (p, b, rd) => some (p, .rv (.bool (b != neg)), none, rd)
  | none => none
def eqbE (neg : Bool) : SV → SV → XR
  | .rv (.bool a), .rv (.bool b) => some (True, .rv (.bool (if neg then !(a == b) else a == b)), none, [])
  | _, _ => none
def notE : SV → XR
  | .rv (.bool b) => some (True, .rv (.bool !b), none, [])
  | _ => none
def negE : SV → XR
  | .rv (.int k n) => some (True, .rv (.int k (k.wrap (0 - n))), none, [])
  | _ => none
def cviE (k : IntKind) : SV → XR
  | .rv (.int _ n) => some (True, .rv (.int k (k.wrap n)), none, [])
  | _ => none
def mkslE (e bytes : Nat) (z : List RV) (nx : Nat) : SV → SV → XR
  | .rv (.int _ l), .rv (.int _ c) => some (c = l ∧ 0 ≤ l ∧ (bytes : Int) * l ≤ 281474976710656 ∧ l ≤ 9223372036854775807, .row nx 0 l.toNat, some (nx, .row e 0 (List.replicate l.toNat (z.map .rv))), [])
  | _, _ => none
def ix2 (f : SV → Int → XR) : SV → SV → XR
  | x, .rv (.int _ i) => f x i
  | _, _ => none
def mxE : SV → SV → XR
  | .rv (.int k a), .rv (.int _ b) => some (True, .rv (.int k (if b > a then b else a)), none, [])
  | _, _ => none
def mnE : SV → SV → XR
  | .rv (.int k a), .rv (.int _ b) => some (True, .rv (.int k (if b < a then b else a)), none, [])
  | _, _ => none
def extE (i : Nat) : SV → XR
  | .tup xs => some (i < xs.length, (xs[i]?).getD .dead, none, [])
  | _ => none

/-- The same of slices, functions and values of interfaces. -/
def isNilSl (hp : Hp) : SV → Option (Prop × Bool × List Nat)
  | .rv .nilsl => some (True, true, [])
  | .rv .slz => some (True, false, [])
  | .rv (.sl _ xs) => some (0 < xs.length, false, [])
  | .row id ver len => match hp id with
    | some (.row _ ver' _) => some (ver = ver' ∧ 0 < len, false, [id])
    | _ => none
  | _ => none

def isNilFn : SV → Option (Prop × Bool × List Nat)
  | .rv .nilf => some (True, true, [])
  | .rv (.fn _ _) => some (True, false, [])
  | .fn _ _ => some (True, false, [])
  | _ => none

def isNilIf : SV → Option (Prop × Bool × List Nat)
  | .rv .nili => some (True, true, [])
  | .rv (.ifc _ _) => some (True, false, [])
  | .ifc _ _ => some (True, false, [])
  | _ => none

def isNilO (k : Nat) (hp : Hp) (x : SV) : Option (Prop × Bool × List Nat) := match k with
  | 0 => isNilSl hp x
  | 1 => isNilFn x
  | _ => isNilIf x

def eqniloE (neg : Bool) (k : Nat) (hp : Hp) (x : SV) : XR := match isNilO k hp x with
  | some (p, b, rd) => some (p, .rv (.bool (b != neg)), none, rd)
  | none => none

def eqsF (neg : Bool) : Option (Prop × Bool) → XR
  | some (p, b) => some (p, .rv (.bool (if neg then !b else b)), none, [])
  | none => none

def eqsE (neg agg : Bool) (ks : List CK) : SV → SV → XR
  | .agg xs, .agg ys => if agg then eqsF neg (cellsEq ks xs ys) else none
  | _, _ => none

def sbin (op : BinOp) (a b : ByteArray) : Option (Prop × RV) := match op with
  | .add => some (((a.size + b.size : Nat) : Int) ≤ 9223372036854775807, .str (a ++ b))
  | .eql => some (True, .bool (a.toList == b.toList))
  | .neq => some (True, .bool (!(a.toList == b.toList)))
  | .lss => some (True, .bool (Op.bytesLess a.toList b.toList))
  | .leq => some (True, .bool (Op.bytesLess a.toList b.toList || a.toList == b.toList))
  | .gtr => some (True, .bool (!(Op.bytesLess a.toList b.toList || a.toList == b.toList)))
  | .geq => some (True, .bool (!Op.bytesLess a.toList b.toList))
  | _ => none

def sbinE (op : BinOp) : SV → SV → XR
  | .rv (.str a), .rv (.str b) => match sbin op a b with
    | some (p, r) => some (p, .rv r, none, [])
    | none => none
  | _, _ => none

def ifcOf : SV → Option (TypeId × SV)
  | .ifc t x => some (t, x)
  | .rv (.ifc t r) => some (t, .rv r)
  | _ => none

def tasF (t : TypeId) (ok : Bool) (t' : TypeId) (x : SV) : XR := if t' = t then some (True, if ok then .tup [x, .rv (.bool true)] else x, none, []) else if ok then some (True, .tup [.dead, .rv (.bool false)], none, []) else none

def tasE (t : TypeId) (ok : Bool) : SV → XR
  | .ifc t' x => tasF t ok t' x
  | .rv (.ifc t' r) => tasF t ok t' (.rv r)
  | .rv .nili => if ok then some (True, .tup [.dead, .rv (.bool false)], none, []) else none
  | _ => none

def opE (ao : AO) (xs : List SV) (hp : Hp) (nx : Nat) : XR :=
  match ao with
  | .mv => o1 (fun x => some (True, x, none, [])) xs
  | .pick => pickE xs
  | .alloc z => allocE z nx xs
  | .box => o1 (boxE nx) xs
  | .build z ps => buildE z ps xs
  | .bsl e => bslE e nx xs
  | .load n agg => o1 (loadE n agg hp) xs
  | .store n => o2 (storeE n hp) xs
  | .nilchk => o1 (nilchkE hp) xs
  | .ibin op => o2 (ibinE op) xs
  | .ishf op => o2 (ishfE op) xs
  | .eqnil neg => o1 (eqnilE neg hp) xs
  | .eqb neg => o2 (eqbE neg) xs
  | .not => o1 notE xs
  | .neg => o1 negE xs
  | .cvi k => o1 (cviE k) xs
  | .mkif t => o1 (fun x => some (True, .ifc t x, none, [])) xs
  | .mkfn f => some (True, .fn f xs, none, [])
  | .mksl e bytes z => o2 (mkslE e bytes z nx) xs
  | .slc e lo hi => slcE e lo hi hp xs
  | .fld off => o1 (fldE off hp) xs
  | .fldv off n agg => o1 (fldvE off n agg) xs
  | .ixs e => o2 (ix2 (ixsE e hp)) xs
  | .ixa len e => o2 (ix2 (ixaE len e hp)) xs
  | .ixv len e agg => o2 (ix2 (fun x i => ixvE len e agg i x)) xs
  | .len => o1 (lenE hp) xs
  | .lens => o1 lensE xs
  | .app e bytes => o2 (appE e bytes hp nx) xs
  | .capn => o1 capE xs
  | .appn e bytes => o2 (appnE e bytes nx) xs
  | .mx => o2 mxE xs
  | .mn => o2 mnE xs
  | .ext i => o1 (extE i) xs
  | .eqs neg agg ks => o2 (eqsE neg agg ks) xs
  | .eqnilo neg k => o1 (eqniloE neg k hp) xs
  | .sbin op => o2 (sbinE op) xs
  | .tas t ok => o1 (tasE t ok) xs
  | .slca n e => o1 (slcaE n e hp) xs
  | .clr e z => o1 (clrE e z hp) xs
  | .call _ | .callv | .inv _ | .die => none

/-- One of the machine's operations as one of the engine's. -/
def eltT (P : Program) (t : TypeId) : Option (TypeId × Nat × Nat × List RV) := match P.underlying t with
  | some (.slice et) => match P.info? et with
    | some i => match zeroT P et with
      | some z => if z.length = i.size ∧ 0 < i.size then some (et, i.size, i.bytes, z) else none
      | none => none
    | none => none
  | _ => none

def compBin (P : Program) (op : BinOp) (t : TypeId) (x y : Operand) : Option (AO × List Operand) := match op with
  | .shl => some (.ishf .shl, [x, y])
  | .shr => some (.ishf .shr, [x, y])
  | _ => match P.underlying t with
    | some (.int _) => some (.ibin op, [x, y])
    | some .bool => match op with
      | .eql => some (.eqb false, [x, y])
      | .neq => some (.eqb true, [x, y])
      | _ => none
    | some (.pointer _) => match op, y with
      | .eql, .const (.pointer none) => some (.eqnil false, [x])
      | .neq, .const (.pointer none) => some (.eqnil true, [x])
      | _, _ => none
    | some .string => some (.sbin op, [x, y])
    | some (.slice _) => match op, y with
      | .eql, .const (.slice none 0 0) => some (.eqnilo false 0, [x])
      | .neq, .const (.slice none 0 0) => some (.eqnilo true 0, [x])
      | _, _ => none
    | some (.func _ _ _) => match op, y with
      | .eql, .const .nilFunc => some (.eqnilo false 1, [x])
      | .neq, .const .nilFunc => some (.eqnilo true 1, [x])
      | _, _ => none
    | some (.interface _) => match op, y with
      | .eql, .const .nilIface => some (.eqnilo false 2, [x])
      | .neq, .const .nilIface => some (.eqnilo true 2, [x])
      | _, _ => none
    | _ => match aggT P t, eqK P 64 t with
      | some true, some ks => if P.eqGuardType P.depth t then none else match op with
        | .eql => some (.eqs false true ks, [x, y])
        | .neq => some (.eqs true true ks, [x, y])
        | _ => none
      | _, _ => none

def compOp (P : Program) : Op → Option (AO × List Operand)
  | .move x => some (.mv, [x])
  | .assign x => some (.mv, [x])
  | .pick c a b => some (.pick, [c, a, b])
  | .alloc t => match zeroT P t with
    | some z => some (.alloc z, [])
    | none => none
  | .box _ x => some (.box, [x])
  | .build t parts => match zeroT P t, parts.toList.mapM (fun p => placesT P t p.1) with
    | some z, some ps => if fieldsSized P t then some (.build z ps, parts.toList.map (·.2)) else none
    | _, _ => none
  | .buildSlice t len parts => match eltT P t with
    | some (_, e, _, _) => if parts.toList.map (·.1) = List.range len then some (.bsl e, parts.toList.map (·.2)) else none
    | none => none
  | .load t x => match szT P t, aggT P t with
    | some n, some agg => some (.load n agg, [x])
    | _, _ => none
  | .store t p x => match szT P t with
    | some n => some (.store n, [p, x])
    | none => none
  | .nilCheck x => some (.nilchk, [x])
  | .binOp op t x y _ => compBin P op t x y
  | .unOp .not _ x => some (.not, [x])
  | .unOp .neg _ x => some (.neg, [x])
  | .convert src dst x => match P.underlying src, P.underlying dst with
    | some _, some (.int k) => some (.cvi k, [x])
    | _, _ => none
  | .makeInterface t x => match P.underlying t with
    | some (.interface _) => none
    | some _ => some (.mkif t, [x])
    | none => none
  | .makeFunc (.func f) first cap => if first.size = 0 then some (.mkfn f, cap.toList) else none
  | .makeSlice t l c => match eltT P t with
    | some (_, e, bytes, z) => some (.mksl e bytes z, [l, c])
    | none => none
  | .slice t x lo hi none => match eltT P t with
    | some (_, e, _, _) => some (.slc e lo.isSome hi.isSome, x :: (lo.toList ++ hi.toList))
    | none => match P.underlying t, lo, hi with
      | some (.array n et), none, none => match szT P et with
        | some e => some (.slca n e, [x])
        | none => none
      | _, _, _ => none
  | .panic x => some (.die, [x])
  | .fieldAddr s x f => match fldT P s f with
    | some (off, ft) => match szT P ft with
      | some (_ + 1) => some (.fld off, [x])
      | _ => none
    | none => none
  | .field s x f => match fldT P s f with
    | some (off, ft) => match szT P ft, aggT P ft with
      | some n, some agg => some (.fldv off n agg, [x])
      | _, _ => none
    | none => none
  | .indexAddr t x i => match P.underlying t with
    | some (.slice et) => match szT P et with
      | some e => some (.ixs e, [x, i])
      | none => none
    | some (.array len et) => match szT P et with
      | some e => some (.ixa len e, [x, i])
      | none => none
    | _ => none
  | .index t x i => match P.underlying t with
    | some (.array len et) => match szT P et, aggT P et with
      | some e, some agg => some (.ixv len e agg, [x, i])
      | _, _ => none
    | _ => none
  | .extract x i => some (.ext i, [x])
  | .call { callee := .builtin .len, args, argTypes } => match args.toList, argTypes.toList with
    | [x], [t] => match P.underlying t with
      | some (.slice _) => some (.len, [x])
      | some .string => some (.lens, [x])
      | _ => none
    | _, _ => none
  | .call { callee := .builtin .append, args, argTypes } => match args.toList, argTypes.toList with
    | [s, x], [t, t'] => if t = t' then match eltT P t with
      | some (_, e, bytes, _) => some (.app e bytes, [s, x])
      | none => none
      else match P.underlying t', eltT P t with
      | some (.int .i64), some (_, e, bytes, _) => some (.appn e bytes, [s, x])
      | _, _ => none
    | _, _ => none
  | .call { callee := .builtin .cap, args, argTypes } => match args.toList, argTypes.toList with
    | [x], [t] => match P.underlying t with
      | some (.slice _) => some (.capn, [x])
      | _ => none
    | _, _ => none
  | .call { callee := .builtin .clear, args, argTypes } => match args.toList, argTypes.toList with
    | [x], [t] => match eltT P t with
      | some (_, e, _, z) => some (.clr e z, [x])
      | none => none
    | _, _ => none
  | .call { callee := .builtin .max, args, .. } => if args.size = 2 then some (.mx, args.toList) else none
  | .call { callee := .builtin .min, args, .. } => if args.size = 2 then some (.mn, args.toList) else none
  | .typeAssert x _ t ok => match P.underlying t, zeroT P t with
    | some (.interface _), _ => none
    | some _, some _ => some (.tas t ok, [x])
    | _, _ => none
  | .call { callee := .invoke r name, args, .. } => some (.inv name, r :: args.toList)
  | .call { callee := .value (.func f), args, .. } => some (.call f, args.toList)
  | .call { callee := .value x, args, .. } => some (.callv, x :: args.toList)
  | _ => none
end Go.Eng

/- The machine does what the engine says, operation by operation. -/
namespace Go.Eng
open Go

section
variable {P : Program} {C : Ctx} {hp : Hp} {w : World} {rho : Nat → Option Nat}

def OpGood (P : Program) (C : Ctx) (hp : Hp) (w : World) (rho : Nat → Option Nat) (o : Oper) (a : Act) (sv : SV) (u : Option (Nat × HB)) : Prop :=
  ∃ n v w' rho', (execOp a.eval o).run P w = .ok n w' ∧ (n = .value v ∨ (n = .skip ∧ v = undef)) ∧ Step C hp (upo hp u) w w' rho rho' ∧ Rp w' (okk C rho' (upo hp u)) rho' (upo hp u) sv v

theorem good_read (R : RepH C hp w rho) {o : Oper} {a : Act} {sv : SV} {v : Value} (h : (execOp a.eval o).run P w = .ok (.value v) w) (hr : Rp w (okk C rho hp) rho hp sv v) : OpGood P C hp w rho o a sv none :=
  ⟨.value v, v, w, rho, h, .inl rfl, R.same, hr⟩

theorem good_make {o : Oper} {a : Act} {sv : SV} {id : Nat} {hb : HB} {m : Sem Value} (he : ∀ w, (execOp a.eval o).run P w = (m.run P w).andThen fun v w' => .ok (.value v) w')
    (h : ∃ u w' rho', m.run P w = .ok u w' ∧ Step C hp (up hp id (some hb)) w w' rho rho' ∧ Rp w' (okk C rho' (up hp id (some hb))) rho' (up hp id (some hb)) sv u) : OpGood P C hp w rho o a sv (some (id, hb)) := by
  obtain ⟨u, w', rho', h1, h2, h3⟩ := h
  exact ⟨.value u, u, w', rho', by rw [he, h1]; rfl, .inl rfl, h2, h3⟩

theorem good_read' (R : RepH C hp w rho) {o : Oper} {a : Act} {sv : SV} {m : Sem Value} (he : ∀ w, (execOp a.eval o).run P w = (m.run P w).andThen fun v w' => .ok (.value v) w')
    (h : ∃ u, m.run P w = .ok u w ∧ Rp w (okk C rho hp) rho hp sv u) : OpGood P C hp w rho o a sv none := by
  obtain ⟨u, h1, h2⟩ := h
  exact good_read R (by rw [he, h1]; rfl) h2

theorem load_good (R : RepH C hp w rho) {t : TypeId} {n : Nat} {agg : Bool} (hs : szT P t = some n) (ha : aggT P t = some agg) {s : SV} {v : Value} (hv : Rp w (okk C rho hp) rho hp s v) {p : Prop} {sv : SV} {u : Option (Nat × HB)} {rd : List Nat} (hE : loadE n agg hp s = some (p, sv, u, rd)) (hp' : p) :
    u = none ∧ ∃ x, (Instr.loadAt t v).run P w = .ok x w ∧ Rp w (okk C rho hp) rho hp sv x := by
  unfold loadE at hE
  split at hE
  · split at hE
    · rename_i id off cs hq
      cases agg with
      | true => simp only [if_true, Option.some.injEq, Prod.mk.injEq] at hE; obtain ⟨rfl, rfl, rfl, rfl⟩ := hE; exact ⟨rfl, loadVar_ptr R hv hq hs ha hp'⟩
      | false =>
        simp only [Bool.false_eq_true, if_false, Option.some.injEq, Prod.mk.injEq] at hE; obtain ⟨rfl, rfl, rfl, rfl⟩ := hE
        refine ⟨rfl, loadVar_ptr1 R hv hq ha ?_⟩
        rw [List.getElem?_eq_getElem hp']; rfl
    · cases hE
  · split at hE
    · rename_i id ver i off _ e ver' xs hq
      cases agg with
      | true =>
        simp only [if_true, Option.some.injEq, Prod.mk.injEq] at hE; obtain ⟨rfl, rfl, rfl, rfl⟩ := hE
        obtain ⟨rfl, h2, h3⟩ := hp'
        exact ⟨rfl, loadVar_ept R hv hq hs ha (by rw [List.getElem?_eq_getElem h2]; rfl) h3⟩
      | false =>
        simp only [Bool.false_eq_true, if_false, Option.some.injEq, Prod.mk.injEq] at hE; obtain ⟨rfl, rfl, rfl, rfl⟩ := hE
        obtain ⟨rfl, h2, h3⟩ := hp'
        have hx := List.getElem?_eq_getElem h2
        have hlen : (xs[i]).length = e := by
          rcases R.heap id _ hq with ⟨_, _, _, h'⟩ | ⟨b, cur, t0, g1, g2, g3⟩
          · cases h'; simp at h2
          · exact g3.1 _ (List.getElem_mem h2)
        refine ⟨rfl, loadVar_ept1 R hv hq ha (x := xs[i]) hx ?_⟩
        rw [hx, Option.getD_some, List.getElem?_eq_getElem (by rw [hlen]; exact h3)]; rfl
    · cases hE
  · rename_i cs
    cases hv with
    | rv _ _ hr =>
      cases agg with
      | true => simp only [if_true, Option.some.injEq, Prod.mk.injEq] at hE; obtain ⟨rfl, rfl, rfl, rfl⟩ := hE; exact ⟨rfl, loadVar_rop hr hs ha hp'⟩
      | false =>
        simp only [Bool.false_eq_true, if_false, Option.some.injEq, Prod.mk.injEq] at hE; obtain ⟨rfl, rfl, rfl, rfl⟩ := hE
        refine ⟨rfl, loadVar_rop1 hr ha ?_⟩
        rw [List.getElem?_eq_getElem hp']; rfl
  · cases hE

theorem store_good (R : RepH C hp w rho) {t : TypeId} {n : Nat} (hs : szT P t = some n) {s x : SV} {v y : Value} (hv : Rp w (okk C rho hp) rho hp s v) (hx : Rp w (okk C rho hp) rho hp x y) {p : Prop} {sv : SV} {u : Option (Nat × HB)} {rd : List Nat} (hE : storeE n hp s x = some (p, sv, u, rd)) (hp' : p) :
    sv = .dead ∧ ∃ w' rho', (Instr.storeAt t v y).run P w = .ok () w' ∧ Step C hp (upo hp u) w w' rho rho' := by
  unfold storeE at hE
  split at hE
  · cases hE
  · rename_i cx hc
    split at hE
    · split at hE
      · rename_i id off cs hq
        cases hE
        exact ⟨rfl, store_ptr R hv hq hs hx hc hp'.1 hp'.2⟩
      · cases hE
    · split at hE
      · rename_i id ver i off e ver' xs hq
        cases hE
        obtain ⟨rfl, h2, h3, h4⟩ := hp'
        have hxi := List.getElem?_eq_getElem h2
        have := store_ept R hv hq hs hx hc h3 hxi h4
        rw [hxi, Option.getD_some]
        exact ⟨rfl, this⟩
      · cases hE
    · cases hE

theorem fld_good {s0 ft : TypeId} {f off n : Nat} (h : fldT P s0 f = some (off, ft)) (hs : szT P ft = some (n + 1)) {s : SV} {v : Value} (hv : Rp w (okk C rho hp) rho hp s v) {p : Prop} {sv : SV} {u : Option (Nat × HB)} {rd : List Nat} (hE : fldE off hp s = some (p, sv, u, rd)) (hp' : p) :
    u = none ∧ ∃ x, (Instr.fieldAt s0 v f).run P w = .ok x w ∧ Rp w (okk C rho hp) rho hp sv x := by
  unfold fldE at hE
  split at hE
  · split at hE
    · rename_i cs hq; cases hE; exact ⟨rfl, fldAddr_ptr hv hq h hs⟩
    · cases hE
  · split at hE
    · rename_i e ver' xs hq; cases hE; cases hp'; exact ⟨rfl, fldAddr_ept hv hq h hs⟩
    · cases hE
  · cases hE
    cases hv with
    | rv _ _ hr => exact ⟨rfl, fldAddr_rop hr h hs⟩
  · cases hE

theorem ixs_good {t et : TypeId} {e : Nat} (ht : P.underlying t = some (.slice et)) (hs : szT P et = some e) {s : SV} {v : Value} (hv : Rp w (okk C rho hp) rho hp s v) {k : IntKind} {i : Int} {p : Prop} {sv : SV} {u : Option (Nat × HB)} {rd : List Nat} (hE : ixsE e hp s i = some (p, sv, u, rd)) (hp' : p) :
    u = none ∧ ∃ x, (Instr.indexAt t v (.int k i)).run P w = .ok x w ∧ Rp w (okk C rho hp) rho hp sv x := by
  unfold ixsE at hE
  split at hE
  · cases hE
    obtain ⟨rfl, h1, h2⟩ := hp'
    cases hv with
    | rv _ _ hr => exact ⟨rfl, ix_sl ht hs hr h1 h2⟩
  · split at hE
    · rename_i e' ver' xs hq
      cases hE
      obtain ⟨rfl, rfl, h1, h2⟩ := hp'
      exact ⟨rfl, ix_row ht hs hv hq h1 h2⟩
    · cases hE
  · split at hE
    · rename_i e' ver' xs hq
      cases hE
      obtain ⟨rfl, rfl, h1, h2⟩ := hp'
      exact ⟨rfl, ix_win_row ht hs hv hq h1 h2⟩
    · rename_i cs hq
      cases hE
      exact ⟨rfl, ix_win_var ht hs hv hq hp'.1 hp'.2⟩
    · cases hE
  · cases hE

theorem ixa_good {t et : TypeId} {len e : Nat} (ht : P.underlying t = some (.array len et)) (hs : szT P et = some e) {s : SV} {v : Value} (hv : Rp w (okk C rho hp) rho hp s v) {k : IntKind} {i : Int} {p : Prop} {sv : SV} {u : Option (Nat × HB)} {rd : List Nat} (hE : ixaE len e hp s i = some (p, sv, u, rd)) (hp' : p) :
    u = none ∧ ∃ x, (Instr.indexAt t v (.int k i)).run P w = .ok x w ∧ Rp w (okk C rho hp) rho hp sv x := by
  unfold ixaE at hE
  split at hE
  · split at hE
    · rename_i cs hq; cases hE; exact ⟨rfl, ix_arr_ptr ht hs hv hq hp'.1 hp'.2⟩
    · cases hE
  · split at hE
    · rename_i e' ver' xs hq; cases hE; obtain ⟨rfl, h1, h2⟩ := hp'; exact ⟨rfl, ix_arr_ept ht hs hv hq h1 h2⟩
    · cases hE
  · cases hE
    cases hv with
    | rv _ _ hr => exact ⟨rfl, ix_arr_rop ht hs hr hp'.1 hp'.2⟩
  · cases hE

theorem len_good {t et : TypeId} (ht : P.underlying t = some (.slice et)) (ty : TypeId) {s : SV} {v : Value} (hv : Rp w (okk C rho hp) rho hp s v) {p : Prop} {sv : SV} {u : Option (Nat × HB)} {rd : List Nat} (hE : lenE hp s = some (p, sv, u, rd)) (hp' : p) :
    u = none ∧ ∃ x, (Builtin.len_ #[t] ty #[v]).run P w = .ok x w ∧ Rp w (okk C rho hp) rho hp sv x := by
  unfold lenE at hE
  split at hE
  · cases hE
    cases hv with
    | rv _ _ hr => cases hr; exact ⟨rfl, _, run_len_sl ht ty _ _ _, .rv _ _ (.int _ _)⟩
  · cases hE
    cases hv with
    | rv _ _ hr => cases hr; exact ⟨rfl, _, run_len_sl ht ty _ _ _, .rv _ _ (.int _ _)⟩
  · cases hE
    cases hv with
    | rv _ _ hr => cases hr; exact ⟨rfl, _, run_len_sl ht ty _ _ _, .rv _ _ (.int _ _)⟩
  · split at hE
    · rename_i e ver' xs hq; cases hE; cases hp'; exact ⟨rfl, _, len_row ht ty hv hq, .rv _ _ (.int _ _)⟩
    · cases hE
  · split at hE
    · rename_i e ver' xs hq; cases hE; cases hp'; exact ⟨rfl, _, len_win ht ty hv (.inl ⟨_, _, hq⟩), .rv _ _ (.int _ _)⟩
    · rename_i cs hq; cases hE; exact ⟨rfl, _, len_win ht ty hv (.inr ⟨_, hq⟩), .rv _ _ (.int _ _)⟩
    · cases hE
  · cases hE

theorem lens_good {t : TypeId} (ht : P.underlying t = some .string) (ty : TypeId) {s : SV} {v : Value} (hv : Rp w (okk C rho hp) rho hp s v) {p : Prop} {sv : SV} {u : Option (Nat × HB)} {rd : List Nat} (hE : lensE s = some (p, sv, u, rd)) (hp' : p) :
    u = none ∧ ∃ x, (Builtin.len_ #[t] ty #[v]).run P w = .ok x w ∧ Rp w (okk C rho hp) rho hp sv x := by
  unfold lensE at hE
  split at hE
  · cases hE
    cases hv with
    | rv _ _ hr => cases hr; exact ⟨rfl, _, run_len_str ht ty _, .rv _ _ (.int _ _)⟩
  · cases hE

theorem src_good (R : RepH C hp w rho) {e : Nat} {s : SV} {v : Value} (hv : Rp w (okk C rho hp) rho hp s v) {p : Prop} {ys : List (List SV)} {rd : List Nat} (hE : srcE e hp s = some (p, ys, rd)) (hp' : p) : ElemsOf w (okk C rho hp) rho hp e v ys := by
  unfold srcE at hE
  split at hE
  · cases hE; cases hp'
    cases hv with
    | rv _ _ hr => exact elems_sl hr
  · cases hE
    cases hv with
    | rv _ _ hr => cases hr; exact elems_nil e
  · cases hE
    cases hv with
    | rv _ _ hr => exact elems_sl (RO.slz_sl e hr)
  · split at hE
    · rename_i e' ver' xs hq; cases hE; obtain ⟨rfl, rfl, h3⟩ := hp'; exact elems_row R hv hq h3
    · cases hE
  · split at hE
    · rename_i e' ver' xs hq; cases hE; obtain ⟨rfl, rfl, h3⟩ := hp'; exact elems_win_row R hv hq h3
    · rename_i cs hq; cases hE; exact elems_win_var R hv hq hp'
    · cases hE
  · cases hE

theorem eltT_ok {t et : TypeId} {e bytes : Nat} {z : List RV} (h : eltT P t = some (et, e, bytes, z)) : Elt P t et e bytes ∧ zeroT P et = some z ∧ z.length = e ∧ szT P et = some e := by
  unfold eltT at h
  split at h
  · rename_i et' ht
    split at h
    · rename_i i hi
      split at h
      · rename_i z' hz
        split at h
        · rename_i hc
          cases h
          refine ⟨⟨ht, ?_, hc.2⟩, hz, hc.1, by simp [szT, hi]⟩
          have hz' := hz
          unfold zeroT at hz'
          simp only [hi] at hz'
          cases hzz : i.zero with
          | none => simp [hzz] at hz'
          | some zv =>
            simp only [hzz] at hz'
            obtain ⟨c1, _⟩ := cvL_ok (default : World) (fun _ => True) (fun _ => none) (fun _ => none) hz'
            exact ⟨i, zv, hi, hzz, rfl, rfl, by simp at c1; omega⟩
        · cases h
      · cases h
    · cases h
  · cases h

theorem app_good (R : RepH C hp w rho) {t et : TypeId} {e bytes : Nat} (T : Elt P t et e bytes) (ty : TypeId) {nx : Nat} {s x : SV} {v y : Value} (hv : Rp w (okk C rho hp) rho hp s v) (hx : Rp w (okk C rho hp) rho hp x y)
    {p : Prop} {sv : SV} {u : Option (Nat × HB)} {rd : List Nat} (hf : ∀ hb, u = some (nx, hb) → hp nx = none ∧ C.h0 nx = none) (hE : appE e bytes hp nx s x = some (p, sv, u, rd)) (hp' : p) :
    ∃ id hb, u = some (id, hb) ∧ ∃ r w' rho', (Builtin.append_ #[t, t] ty #[v, y]).run P w = .ok r w' ∧ Step C hp (up hp id (some hb)) w w' rho rho' ∧ Rp w' (okk C rho' (up hp id (some hb))) rho' (up hp id (some hb)) sv r := by
  unfold appE at hE
  split at hE
  · cases hE
  · rename_i p' ys rd' hsrc
    split at hE
    · cases hE
      obtain ⟨h1, h2, h3⟩ := hp'
      have E := src_good R hx hsrc h1
      cases hv with
      | rv _ _ hr => cases hr; exact ⟨_, _, rfl, app_nil R T ty (hf _ rfl).1 (hf _ rfl).2 E h2 h3⟩
    · split at hE
      · rename_i id ver len e' ver' xs hq
        cases hE
        obtain ⟨h1, rfl, rfl, h4, h5, h6⟩ := hp'
        have E := src_good R hx hsrc h1
        exact ⟨_, _, rfl, app_row R T ty hv hq h4 E h5 h6⟩
      · cases hE
    · cases hE

theorem run_sbin {op : BinOp} {a b : ByteArray} {p : Prop} {r : RV} (h : sbin op a b = some (p, r)) (hp0 : p) (t : TypeId) : (binOp op t (.string a) (.string b)).run P w = .ok (valOf r) w ∧ ∀ ok, RO w ok r (valOf r) := by
  cases op <;> unfold sbin at h <;> (try (cases h; done))
  case add =>
    cases h
    refine ⟨?_, fun ok => .str _⟩
    have : ¬ ((a.size + b.size : Nat) : Int) > IntKind.i64.max := by
      simp only [IntKind.max, IntKind.signed, IntKind.bits]; simpa using hp0
    simp only [binOp, Op.stringOp, this, if_false]; rfl
  all_goals (cases h; exact ⟨rfl, fun ok => .bool _⟩)

theorem rp_str {ok : Nat → Prop} {s : ByteArray} {v : Value} (h : Rp w ok rho hp (.rv (.str s)) v) : v = .string s := by
  cases h with | rv _ _ h => cases h; rfl

/-- What the value is, as far as the comparison with nil sees it. -/
def nilV : Value → Option Bool
  | .slice a _ _ => some a.isNone
  | .nilIface => some true
  | .iface _ _ => some false
  | .nilFunc => some true
  | .func _ _ _ => some false
  | _ => none

theorem isNilSl_ok {s : SV} {v : Value} (hv : Rp w (okk C rho hp) rho hp s v) {p : Prop} {b : Bool} {rd : List Nat} (h : isNilSl hp s = some (p, b, rd)) (hp0 : p) : nilV v = some b ∧ ∃ a n c, v = .slice a n c := by
  cases hv with
  | rv r v hr =>
    cases hr <;> simp only [isNilSl] at h <;> first
      | (cases h; exact ⟨rfl, _, _, _, rfl⟩)
      | (cases h; done)
      | skip
    rename_i e xs a cap c h0 hc hm he hr1 h1 hy
    cases h
    cases a with
    | none => have := (h0 rfl).1; subst this; simp at hp0
    | some a => exact ⟨rfl, _, _, _, rfl⟩
  | row id ver len _ g1 g0 gle gv =>
    simp only [isNilSl] at h
    split at h
    · rename_i e ver' xs hq
      cases h
      obtain ⟨rfl, hl⟩ := hp0
      rcases gv e xs hq with ⟨_, rfl, rfl⟩ | ⟨b, cap, cur, t0, k1, rfl, k3, k4, k5, k6⟩
      · omega
      · exact ⟨rfl, _, _, _, rfl⟩
    · cases h
  | _ => cases h

theorem isNilFn_ok {s : SV} {v : Value} (hv : Rp w (okk C rho hp) rho hp s v) {p : Prop} {b : Bool} {rd : List Nat} (h : isNilFn s = some (p, b, rd)) : nilV v = some b ∧ (v = .nilFunc ∨ ∃ f x y, v = .func f x y) := by
  cases hv with
  | rv r v hr =>
    cases hr <;> simp only [isNilFn] at h <;> first
      | (cases h; exact ⟨rfl, .inl rfl⟩)
      | (cases h; exact ⟨rfl, .inr ⟨_, _, _, rfl⟩⟩)
      | (cases h; done)
  | fn f cs vs hl hy => cases h; exact ⟨rfl, .inr ⟨_, _, _, rfl⟩⟩
  | _ => cases h

theorem isNilIf_ok {s : SV} {v : Value} (hv : Rp w (okk C rho hp) rho hp s v) {p : Prop} {b : Bool} {rd : List Nat} (h : isNilIf s = some (p, b, rd)) : nilV v = some b ∧ (v = .nilIface ∨ ∃ f x, v = .iface f x) := by
  cases hv with
  | rv r v hr =>
    cases hr <;> simp only [isNilIf] at h <;> first
      | (cases h; exact ⟨rfl, .inl rfl⟩)
      | (cases h; exact ⟨rfl, .inr ⟨_, _, rfl⟩⟩)
      | (cases h; done)
  | ifc t x v h' => cases h; exact ⟨rfl, .inr ⟨_, _, rfl⟩⟩
  | _ => cases h

theorem run_eq_nilo {t : TypeId} {u : Value} (hk : (∃ el, P.underlying t = some (.slice el) ∧ u = .slice none 0 0) ∨ (∃ a b c, P.underlying t = some (.func a b c) ∧ u = .nilFunc) ∨ (∃ ms, P.underlying t = some (.interface ms) ∧ u = .nilIface)) {v : Value} {b : Bool} (hn : nilV v = some b)
    (hf : (∃ a n c, v = .slice a n c) ∧ (∃ a n c, u = .slice a n c) ∨ ((v = .nilFunc ∨ ∃ f x y, v = .func f x y) ∧ u = .nilFunc) ∨ ((v = .nilIface ∨ ∃ f x, v = .iface f x) ∧ u = .nilIface)) :
    (binOp .eql t v u).run P w = .ok (.bool b) w ∧ (binOp .neq t v u).run P w = .ok (.bool !b) w := by
  have core : (Op.equal t v u).run P w = .ok b w := by
    have c : ∀ d, (Op.equalIn (d + 1) t v u).run P w = .ok b w := fun d => by
      rcases hk with ⟨el, ht, rfl⟩ | ⟨x, y, z, ht, rfl⟩ | ⟨ms, ht, rfl⟩
      · rcases hf with ⟨⟨a, n, c, rfl⟩, _⟩ | ⟨_, h⟩ | ⟨_, h⟩
        · cases a <;> (simp [nilV] at hn; subst hn; simp [Op.equalIn, run_underlying ht])
        · cases h
        · cases h
      · rcases hf with ⟨_, a, n, c, h⟩ | ⟨h, _⟩ | ⟨_, h⟩
        · cases h
        · rcases h with rfl | ⟨f, x, y, rfl⟩ <;> (simp [nilV] at hn; subst hn; simp [Op.equalIn, run_underlying ht])
        · cases h
      · rcases hf with ⟨_, a, n, c, h⟩ | ⟨_, h⟩ | ⟨h, _⟩
        · cases h
        · cases h
        · rcases h with rfl | ⟨f, x, rfl⟩ <;> (simp [nilV] at hn; subst hn; simp [Op.equalIn, run_underlying ht])
    exact c 9999
  rcases hf with ⟨⟨a, n, c, rfl⟩, a', n', c', rfl⟩ | ⟨h, rfl⟩ | ⟨h, rfl⟩
  · constructor <;> simp [binOp, core]
  · rcases h with rfl | ⟨f, x, y, rfl⟩ <;> constructor <;> simp [binOp, core]
  · rcases h with rfl | ⟨f, x, rfl⟩ <;> constructor <;> simp [binOp, core]

theorem run_eqs {t : TypeId} {ks : List CK} (hk : eqK P 64 t = some ks) (ha : aggT P t = some true) {us vs : List Value} {b : Bool} (h : cellsEqV ks us vs = some b) :
    (binOp .eql t (.agg us.toArray) (.agg vs.toArray)).run P w = .ok (.bool b) w ∧ (binOp .neq t (.agg us.toArray) (.agg vs.toArray)).run P w = .ok (.bool !b) w := by
  have hw : ∀ cs : List Value, wrapT P t cs = .agg cs.toArray := fun cs => by
    unfold wrapT
    unfold aggT at ha
    cases hu : P.underlying t with
    | none => simp [hu] at ha
    | some d => cases d <;> simp [hu] at ha <;> rfl
  have core : (Op.equal t (.agg us.toArray) (.agg vs.toArray)).run P w = .ok b w := by
    have := eqK_ok (P := P) 9936 64 t ks hk us vs b h w
    rw [hw, hw] at this
    exact this
  constructor <;> simp [binOp, core]

theorem run_tas {xt t : TypeId} {ok : Bool} {z : List RV} (hni : ∀ ms, P.underlying t ≠ some (.interface ms)) {d : TypeDesc} (hd : P.underlying t = some d) (hz : zeroT P t = some z) {s : SV} {v : Value} {okb : Nat → Prop} (hv : Rp w okb rho hp s v) {p : Prop} {sv : SV} {u : Option (Nat × HB)} {rd : List Nat} (hE : tasE t ok s = some (p, sv, u, rd)) :
    u = none ∧ ∃ x, (Instr.typeAssert v xt t ok).run P w = .ok x w ∧ Rp w okb rho hp sv x := by
  have hdi : ∀ ms, d ≠ .interface ms := fun ms he => hni ms (by rw [hd, he])
  obtain ⟨zv, hzv, _⟩ := zeroT_run (P := P) hz w
  have holds : ∀ (t' : TypeId) (x : SV) (y : Value), Rp w okb rho hp x y → tasF t ok t' x = some (p, sv, u, rd) → u = none ∧ ∃ x, (Instr.typeAssert (.iface t' y) xt t ok).run P w = .ok x w ∧ Rp w okb rho hp sv x := fun t' x y hy hF => by
    unfold tasF at hF
    split at hF
    · rename_i he
      subst he
      cases hF
      refine ⟨rfl, if ok then .tuple #[y, .bool true] else y, ?_, ?_⟩
      · unfold Instr.typeAssert
        simp only [Sem.run_bind, run_underlying hd, Result.andThen_ok]
        cases d <;> first | exact absurd rfl (hdi _) | simp
      · cases ok with
        | false => exact hy
        | true => exact .tup [x, .rv (.bool true)] [y, .bool true] rfl (fun j z hz => by
            match j with
            | 0 => simp at hz; subst hz; exact hy
            | 1 => simp at hz; subst hz; exact .rv _ _ (.bool _)
            | j + 2 => simp at hz)
    · rename_i he
      split at hF
      · rename_i hok
        subst hok
        cases hF
        refine ⟨rfl, .tuple #[zv, .bool false], ?_, ?_⟩
        · unfold Instr.typeAssert
          simp only [Sem.run_bind, run_underlying hd, Result.andThen_ok]
          cases d <;> first | exact absurd rfl (hdi _) | simp [he, hzv]
        · exact .tup [.dead, .rv (.bool false)] [zv, .bool false] rfl (fun j z hz => by
            match j with
            | 0 => simp at hz; subst hz; exact .dead _
            | 1 => simp at hz; subst hz; exact .rv _ _ (.bool _)
            | j + 2 => simp at hz)
      · cases hF
  unfold tasE at hE
  split at hE
  · cases hv with | ifc _ _ v0 h0 => exact holds _ _ _ h0 hE
  · cases hv with | rv _ _ hr => cases hr with | ifc _ _ v0 h0 => exact holds _ _ _ (.rv _ _ h0) hE
  · cases hv with
    | rv _ _ hr =>
      cases hr
      split at hE
      · rename_i hok
        subst hok
        cases hE
        refine ⟨rfl, .tuple #[zv, .bool false], ?_, ?_⟩
        · unfold Instr.typeAssert
          simp only [Sem.run_bind, run_underlying hd, Result.andThen_ok]
          cases d <;> first | exact absurd rfl (hdi _) | simp [hzv]
        · exact .tup [.dead, .rv (.bool false)] [zv, .bool false] rfl (fun j z hz => by
            match j with
            | 0 => simp at hz; subst hz; exact .dead _
            | 1 => simp at hz; subst hz; exact .rv _ _ (.bool _)
            | j + 2 => simp at hz)
      · cases hE
  · cases hE
end
end Go.Eng
