/- The values of the engine, how they stand in memory, and that this is kept while memory grows or is written elsewhere. -/
import Derived.Orders
import Derived.Below
import Derived.Laws.OwnMore
import Derived.Deep.AppendSrc
namespace Go.Eng
open Go

/-- Pure values: nothing in them is ever written again. -/
inductive RV where
  | int (k : IntKind) (n : Int) | bool (b : Bool) | str (s : ByteArray)
  | sl (e : Nat) (xs : List (List RV)) | rop (cs : List RV)
  | nilp | nilsl | nili | nilf | slz
  | ifc (t : TypeId) (r : RV) | agg (rs : List RV) | fn (f : FuncId) (cap : List RV)
  deriving Inhabited

/-- A pure value that is one cell. -/
def RV.one : RV → Bool
  | .agg _ => false
  | _ => true

/-- How a pure value stands in the memory w, in blocks that are 'ok'. -/
inductive RO (w : World) (ok : Nat → Prop) : RV → Value → Prop where
  | int (k : IntKind) (n : Int) : RO w ok (.int k n) (.int k n)
  | bool (b : Bool) : RO w ok (.bool b) (.bool b)
  | str (s : ByteArray) : RO w ok (.str s) (.string s)
  | sl (e : Nat) (xs : List (List RV)) (a : Option Addr) (cap : Nat) (c : Nat → Nat → Value)
      (h0 : a = none → xs = [] ∧ cap = 0) (hc : xs.length ≤ cap) (hm : cap ≤ maxLen) (he : ∀ x ∈ xs, x.length = e)
      (hr : ∀ (i : Nat) (x : List RV) (j : Nat) (y : RV), xs[i]? = some x → x[j]? = some y → ∃ ad, a = some ad ∧ ok ad.block ∧ w.cell? (ad.add (i * e + j)) = some (c i j))
      (h1 : ∀ (i : Nat) (x : List RV) (j : Nat) (y : RV), xs[i]? = some x → x[j]? = some y → y.one = true)
      (hy : ∀ (i : Nat) (x : List RV) (j : Nat) (y : RV), xs[i]? = some x → x[j]? = some y → RO w ok y (c i j)) : RO w ok (.sl e xs) (.slice a xs.length cap)
  | rop (cs : List RV) (a : Addr) (c : Nat → Value)
      (hr : ∀ (j : Nat) (y : RV), cs[j]? = some y → ok a.block ∧ w.cell? (a.add j) = some (c j))
      (h1 : ∀ (j : Nat) (y : RV), cs[j]? = some y → y.one = true)
      (hy : ∀ (j : Nat) (y : RV), cs[j]? = some y → RO w ok y (c j)) : RO w ok (.rop cs) (.pointer (some a))
  | nilp : RO w ok .nilp (.pointer none)
  | nilsl : RO w ok .nilsl (.slice none 0 0)
  | slz (a : Addr) (cap : Nat) (hm : cap ≤ maxLen) : RO w ok .slz (.slice (some a) 0 cap)
  | nili : RO w ok .nili .nilIface
  | nilf : RO w ok .nilf .nilFunc
  | ifc (t : TypeId) (r : RV) (v : Value) (h : RO w ok r v) : RO w ok (.ifc t r) (.iface t v)
  | agg (rs : List RV) (vs : List Value) (hl : vs.length = rs.length) (h1 : ∀ (j : Nat) (y : RV), rs[j]? = some y → y.one = true)
      (hy : ∀ (j : Nat) (y : RV), rs[j]? = some y → RO w ok y (vs.getD j undef)) : RO w ok (.agg rs) (.agg vs.toArray)
  | fn (f : FuncId) (cap : List RV) (vs : List Value) (hl : vs.length = cap.length)
      (hy : ∀ (j : Nat) (y : RV), cap[j]? = some y → RO w ok y (vs.getD j undef)) : RO w ok (.fn f cap) (.func (.func f) #[] vs.toArray)

theorem RO.mono {w w' : World} {ok ok' : Nat → Prop} (h : ∀ b, ok b → b < w.heap.size → ok' b ∧ w'.heap[b]? = w.heap[b]?) {r : RV} {v : Value}
    (hr : RO w ok r v) : RO w' ok' r v := by
  induction hr with
  | int k n => exact .int k n
  | bool b => exact .bool b
  | str s => exact .str s
  | sl e xs a cap c h0 hc hm he hr h1 _ ih =>
    refine .sl e xs a cap c h0 hc hm he (fun i x j y hx hy => ?_) h1 ih
    obtain ⟨ad, ha, hok, hcell⟩ := hr i x j y hx hy
    have hb := h _ hok (by have := World.block_lt_of_cell? w _ hcell; simpa [Addr.add] using (show (ad.add (i * e + j)).block < w.heap.size from this) |> fun h => by unfold Addr.add at h; split at h <;> exact h)
    refine ⟨ad, ha, hb.1, ?_⟩
    rw [← hcell]
    refine World.cell?_of_block ?_
    have : (ad.add (i * e + j)).block = ad.block := by unfold Addr.add; split <;> rfl
    rw [this]; exact hb.2
  | rop cs a c hr h1 _ ih =>
    refine .rop cs a c (fun j y hy => ?_) h1 ih
    obtain ⟨hok, hcell⟩ := hr j y hy
    have hbl : (a.add j).block = a.block := by unfold Addr.add; split <;> rfl
    have hb := h _ hok (by have := World.block_lt_of_cell? w _ hcell; rwa [hbl] at this)
    refine ⟨hb.1, ?_⟩
    rw [← hcell]
    refine World.cell?_of_block ?_
    rw [hbl]; exact hb.2
  | nilp => exact .nilp
  | nilsl => exact .nilsl
  | slz a cap hm => exact .slz a cap hm
  | nili => exact .nili
  | nilf => exact .nilf
  | ifc t r v _ ih => exact .ifc t r v ih
  | agg rs vs hl h1 _ ih => exact .agg rs vs hl h1 ih
  | fn f cap vs hl _ ih => exact .fn f cap vs hl ih

theorem RO.oneCell {w : World} {ok : Nat → Prop} {r : RV} {v : Value} (h : RO w ok r v) (h1 : r.one = true) : v.oneCell' = true := by
  cases h <;> first | rfl | (simp [RV.one] at h1)

/-- Values that may point into memory of the call's own. -/
inductive SV where
  | dead
  | rv (r : RV)
  | ptr (id off : Nat)
  | ept (id ver i off : Nat)
  | row (id ver len : Nat)
  | agg (cs : List SV)
  | tup (xs : List SV)
  | fn (f : FuncId) (cap : List SV)
  | ifc (t : TypeId) (x : SV)
  deriving Inhabited

/-- Memory of the call's own: a variable, or a row of elements of e cells each. -/
inductive HB where
  | var (cs : List SV)
  | row (e ver : Nat) (xs : List (List SV))
  deriving Inhabited

def SV.one : SV → Bool
  | .rv r => r.one
  | .ptr .. | .ept .. | .row .. | .fn .. | .ifc .. => true
  | _ => false

abbrev Hp := Nat → Option HB

/-- How a value stands in memory: rho tells the block of each thing of the call's own. -/
inductive Rp (w : World) (ok : Nat → Prop) (rho : Nat → Option Nat) (hp : Hp) : SV → Value → Prop where
  | dead (v : Value) : Rp w ok rho hp .dead v
  | rv (r : RV) (v : Value) (h : RO w ok r v) : Rp w ok rho hp (.rv r) v
  | ptr (id off : Nat) (v : Value) (h1 : v.oneCell' = true) (h0 : (hp id).isSome = true) (h : ∀ cs, hp id = some (.var cs) → ∃ b, rho id = some b ∧ v = .pointer (some ⟨b, off, none⟩)) : Rp w ok rho hp (.ptr id off) v
  | ept (id ver i off : Nat) (v : Value) (h1 : v.oneCell' = true) (h0 : (hp id).isSome = true) (hv : ∀ e ver0 xs, hp id = some (.row e ver0 xs) → ver ≤ ver0) (h : ∀ e xs, hp id = some (.row e ver xs) → ∃ b, rho id = some b ∧ v = .pointer (some ⟨b, i * e + off, none⟩)) : Rp w ok rho hp (.ept id ver i off) v
  | row (id ver len : Nat) (v : Value) (h1 : v.oneCell' = true) (h0 : (hp id).isSome = true) (hv : ∀ e ver0 xs, hp id = some (.row e ver0 xs) → ver ≤ ver0)
      (h : ∀ e xs, hp id = some (.row e ver xs) → (rho id = none ∧ v = .slice none 0 0 ∧ len = 0) ∨
        ∃ b cap cur t, rho id = some b ∧ v = .slice (some ⟨b, 0, none⟩) len cap ∧ w.heap[b]? = some (.cells cur t (0, 0)) ∧ len ≤ cap ∧ cap ≤ maxLen ∧ cap * e ≤ cur.size) : Rp w ok rho hp (.row id ver len) v
  | agg (cs : List SV) (vs : List Value) (hl : vs.length = cs.length) (h1 : ∀ (j : Nat) (u : Value), vs[j]? = some u → u.oneCell' = true)
      (hy : ∀ (j : Nat) (y : SV), cs[j]? = some y → Rp w ok rho hp y (vs.getD j undef)) : Rp w ok rho hp (.agg cs) (.agg vs.toArray)
  | tup (cs : List SV) (vs : List Value) (hl : vs.length = cs.length)
      (hy : ∀ (j : Nat) (y : SV), cs[j]? = some y → Rp w ok rho hp y (vs.getD j undef)) : Rp w ok rho hp (.tup cs) (.tuple vs.toArray)
  | fn (f : FuncId) (cs : List SV) (vs : List Value) (hl : vs.length = cs.length)
      (hy : ∀ (j : Nat) (y : SV), cs[j]? = some y → Rp w ok rho hp y (vs.getD j undef)) : Rp w ok rho hp (.fn f cs) (.func (.func f) #[] vs.toArray)
  | ifc (t : TypeId) (x : SV) (v : Value) (h : Rp w ok rho hp x v) : Rp w ok rho hp (.ifc t x) (.iface t v)


/-- From one state of memory to a later one: what stood there stands there still. -/
structure Evo (w w' : World) (ok ok' : Nat → Prop) (rho rho' : Nat → Option Nat) (hp hp' : Hp) : Prop where
  ro : ∀ b, ok b → b < w.heap.size → ok' b ∧ w'.heap[b]? = w.heap[b]?
  var : ∀ id cs, hp id = some (.var cs) → ∃ cs', hp' id = some (.var cs') ∧ rho' id = rho id
  row : ∀ id e ver xs, hp id = some (.row e ver xs) → ∃ e' ver' xs', hp' id = some (.row e' ver' xs') ∧ ver ≤ ver' ∧
    (ver' = ver → e' = e ∧ rho' id = rho id ∧ ∀ b, rho id = some b → ∀ cur t, w.heap[b]? = some (.cells cur t (0, 0)) → ∃ cur' t', w'.heap[b]? = some (.cells cur' t' (0, 0)) ∧ cur'.size = cur.size)

theorem Evo.isSome {w w' : World} {ok ok' : Nat → Prop} {rho rho' : Nat → Option Nat} {hp hp' : Hp} (h : Evo w w' ok ok' rho rho' hp hp') {id : Nat} (hs : (hp id).isSome = true) : (hp' id).isSome = true := by
  cases hq : hp id with
  | none => simp [hq] at hs
  | some hb =>
    cases hb with
    | var cs => obtain ⟨cs', h', _⟩ := h.var id cs hq; simp [h']
    | row e ver xs => obtain ⟨e', ver', xs', h', _⟩ := h.row id e ver xs hq; simp [h']

theorem Rp.mono {w w' : World} {ok ok' : Nat → Prop} {rho rho' : Nat → Option Nat} {hp hp' : Hp} (h : Evo w w' ok ok' rho rho' hp hp') {s : SV} {v : Value}
    (hr : Rp w ok rho hp s v) : Rp w' ok' rho' hp' s v := by
  induction hr with
  | dead v => exact .dead v
  | rv r v hr => exact .rv r v (hr.mono h.ro)
  | ptr id off v h1 h0 hv =>
    refine .ptr id off v h1 (h.isSome h0) (fun cs' hcs' => ?_)
    cases hq : hp id with
    | none => simp [hq] at h0
    | some hb =>
      cases hb with
      | var cs => obtain ⟨cs2, _, hrho⟩ := h.var id cs hq; rw [hrho]; exact hv cs hq
      | row e ver xs => obtain ⟨_, _, _, h', _⟩ := h.row id e ver xs hq; rw [h'] at hcs'; cases hcs'
  | ept id ver i off v h1 h0 hle hv =>
    cases hq : hp id with
    | none => simp [hq] at h0
    | some hb =>
      cases hb with
      | var cs =>
        obtain ⟨cs2, h', _⟩ := h.var id cs hq
        exact .ept id ver i off v h1 (h.isSome h0) (fun _ _ _ hx => by rw [h'] at hx; cases hx) (fun _ _ hx => by rw [h'] at hx; cases hx)
      | row e ver0 xs =>
        obtain ⟨e2, ver2, xs2, h', hle2, hk⟩ := h.row id e ver0 xs hq
        have hl0 := hle _ _ _ hq
        refine .ept id ver i off v h1 (h.isSome h0) (fun _ _ _ hx => by rw [h'] at hx; cases hx; omega) (fun e' xs' hx' => ?_)
        rw [h'] at hx'; cases hx'
        obtain rfl : ver = ver0 := by omega
        obtain ⟨rfl, hrho, _⟩ := hk rfl
        rw [hrho]; exact hv _ xs hq
  | row id ver len v h1 h0 hle hv =>
    cases hq : hp id with
    | none => simp [hq] at h0
    | some hb =>
      cases hb with
      | var cs =>
        obtain ⟨cs2, h', _⟩ := h.var id cs hq
        exact .row id ver len v h1 (h.isSome h0) (fun _ _ _ hx => by rw [h'] at hx; cases hx) (fun _ _ hx => by rw [h'] at hx; cases hx)
      | row e ver0 xs =>
        obtain ⟨e2, ver2, xs2, h', hle2, hk⟩ := h.row id e ver0 xs hq
        have hl0 := hle _ _ _ hq
        refine .row id ver len v h1 (h.isSome h0) (fun _ _ _ hx => by rw [h'] at hx; cases hx; omega) (fun e' xs' hx' => ?_)
        rw [h'] at hx'; cases hx'
        obtain rfl : ver = ver0 := by omega
        obtain ⟨rfl, hrho, hsz⟩ := hk rfl
        rcases hv _ xs hq with ⟨g1, g2, g3⟩ | ⟨b, cap, cur, t, g1, g2, g3, g4, g5, g6⟩
        · exact .inl ⟨hrho.trans g1, g2, g3⟩
        · obtain ⟨cur', t', k1, k2⟩ := hsz b g1 cur t g3
          exact .inr ⟨b, cap, cur', t', hrho.trans g1, g2, k1, g4, g5, by omega⟩
  | agg cs vs hl h1 _ ih => exact .agg cs vs hl h1 ih
  | tup cs vs hl _ ih => exact .tup cs vs hl ih
  | fn f cs vs hl _ ih => exact .fn f cs vs hl ih
  | ifc t x v _ ih => exact .ifc t x v ih

end Go.Eng
