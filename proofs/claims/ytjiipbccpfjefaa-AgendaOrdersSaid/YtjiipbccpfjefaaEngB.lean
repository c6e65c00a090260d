/- The state of the engine: what it says of the machine's memory, and the one step by which memory of the call's own is made or written. -/
import Derived.Test.YtjiipbccpfjefaaEngA
namespace Go.Eng
open Go

structure Ctx where
  w0 : World
  okE : Nat → Prop
  prv : Nat → Prop
  N : Nat
  rho0 : Nat → Option Nat
  h0 : Hp

def okk (C : Ctx) (rho : Nat → Option Nat) (hp : Hp) (b : Nat) : Prop := (C.okE b ∨ C.w0.heap.size ≤ b) ∧ ∀ id, (hp id).isSome = true → rho id ≠ some b

def CellsIn (w : World) (ok : Nat → Prop) (rho : Nat → Option Nat) (hp : Hp) (cur : Array Value) (off : Nat) (cs : List SV) : Prop :=
  ∀ (j : Nat) (y : SV), cs[j]? = some y → ∃ v, cur[off + j]? = some v ∧ v.oneCell' = true ∧ Rp w ok rho hp y v

/-- What the cells 'cur' of a block must hold for a thing of the call's own. -/
def Holds (w : World) (ok : Nat → Prop) (rho : Nat → Option Nat) (hp : Hp) (cur : Array Value) : HB → Prop
  | .var cs => cur.size = cs.length ∧ CellsIn w ok rho hp cur 0 cs
  | .row e _ xs => (∀ x ∈ xs, x.length = e) ∧ xs.length * e ≤ cur.size ∧ ∀ (i : Nat) (x : List SV), xs[i]? = some x → CellsIn w ok rho hp cur (i * e) x

def HBRep (w : World) (ok : Nat → Prop) (rho : Nat → Option Nat) (hp : Hp) (id : Nat) (hb : HB) : Prop :=
  (rho id = none ∧ ∃ e ver, hb = .row e ver []) ∨ ∃ b cur t, rho id = some b ∧ w.heap[b]? = some (.cells cur t (0, 0)) ∧ Holds w ok rho hp cur hb

def Sizes (w w' : World) (b : Nat) : Prop := ∀ cur t, w.heap[b]? = some (.cells cur t (0, 0)) → ∃ cur' t', w'.heap[b]? = some (.cells cur' t' (0, 0)) ∧ cur'.size = cur.size

def EvoHB (w w' : World) (r r' : Option Nat) : HB → HB → Prop
  | .var _, .var _ => r' = r
  | .row e ver _, .row e' ver' _ => ver ≤ ver' ∧ (ver' = ver → e' = e ∧ r' = r ∧ ∀ b, r = some b → Sizes w w' b)
  | _, _ => False

theorem EvoHB.refl (w : World) (r : Option Nat) (hb : HB) : EvoHB w w r r hb hb := by
  cases hb
  · rfl
  · exact ⟨Nat.le_refl _, fun _ => ⟨rfl, rfl, fun _ _ cur t h => ⟨cur, t, h, rfl⟩⟩⟩

theorem Sizes.trans {w w1 w2 : World} {b : Nat} (h : Sizes w w1 b) (k : Sizes w1 w2 b) : Sizes w w2 b := fun cur t hc => by
  obtain ⟨c1, t1, h1, s1⟩ := h cur t hc
  obtain ⟨c2, t2, h2, s2⟩ := k c1 t1 h1
  exact ⟨c2, t2, h2, s2.trans s1⟩

theorem EvoHB.trans {w w1 w2 : World} {r r1 r2 : Option Nat} {a b c : HB} (h : EvoHB w w1 r r1 a b) (k : EvoHB w1 w2 r1 r2 b c) : EvoHB w w2 r r2 a c := by
  cases a <;> cases b <;> cases c <;> simp only [EvoHB] at h k ⊢
  · exact k.trans h
  · obtain ⟨h1, h2⟩ := h
    obtain ⟨k1, k2⟩ := k
    refine ⟨Nat.le_trans h1 k1, fun he => ?_⟩
    obtain ⟨rfl, rfl, s1⟩ := h2 (by omega)
    obtain ⟨rfl, rfl, s2⟩ := k2 (by omega)
    exact ⟨rfl, rfl, fun b hb => (s1 b hb).trans (s2 b hb)⟩

theorem Evo.of {w w' : World} {ok ok' : Nat → Prop} {rho rho' : Nat → Option Nat} {hp hp' : Hp} (hro : ∀ b, ok b → b < w.heap.size → ok' b ∧ w'.heap[b]? = w.heap[b]?)
    (h : ∀ id hb, hp id = some hb → ∃ hb', hp' id = some hb' ∧ EvoHB w w' (rho id) (rho' id) hb hb') : Evo w w' ok ok' rho rho' hp hp' where
  ro := hro
  var id cs hq := by
    obtain ⟨hb', h1, h2⟩ := h id _ hq
    cases hb' with
    | var cs' => exact ⟨cs', h1, h2⟩
    | row => exact h2.elim
  row id e ver xs hq := by
    obtain ⟨hb', h1, h2⟩ := h id _ hq
    cases hb' with
    | var cs' => exact h2.elim
    | row e' ver' xs' => exact ⟨e', ver', xs', h1, h2.1, h2.2⟩

theorem CellsIn.mono {w w' : World} {ok ok' : Nat → Prop} {rho rho' : Nat → Option Nat} {hp hp' : Hp} (h : Evo w w' ok ok' rho rho' hp hp') {cur : Array Value} {off : Nat} {cs : List SV}
    (hc : CellsIn w ok rho hp cur off cs) : CellsIn w' ok' rho' hp' cur off cs := fun j y hy => by
  obtain ⟨v, h1, h2, h3⟩ := hc j y hy
  exact ⟨v, h1, h2, h3.mono h⟩

theorem Holds.mono {w w' : World} {ok ok' : Nat → Prop} {rho rho' : Nat → Option Nat} {hp hp' : Hp} (h : Evo w w' ok ok' rho rho' hp hp') {cur : Array Value} {hb : HB}
    (hc : Holds w ok rho hp cur hb) : Holds w' ok' rho' hp' cur hb := by
  cases hb
  · exact ⟨hc.1, hc.2.mono h⟩
  · exact ⟨hc.1, hc.2.1, fun i x hx => (hc.2.2 i x hx).mono h⟩

structure Fr (C : Ctx) (w : World) : Prop where
  os : w.os = C.w0.os
  tape : w.tape = C.w0.tape
  output : w.output = C.w0.output
  size : C.w0.heap.size ≤ w.heap.size
  block : ∀ b, b < C.w0.heap.size → ¬ C.prv b → w.heap[b]? = C.w0.heap[b]?

structure RepH (C : Ctx) (hp : Hp) (w : World) (rho : Nat → Option Nat) : Prop where
  heap : ∀ id hb, hp id = some hb → HBRep w (okk C rho hp) rho hp id hb
  inj : ∀ id id' b, (hp id).isSome = true → (hp id').isSome = true → rho id = some b → rho id' = some b → id = id'
  own : ∀ id b, (hp id).isSome = true → rho id = some b → (((C.h0 id).isSome = true ∧ C.rho0 id = some b ∧ C.prv b) ∨ C.w0.heap.size ≤ b) ∧ b < w.heap.size
  fr : Fr C w
  evo : ∀ id hb hb0, hp id = some hb → C.h0 id = some hb0 → EvoHB C.w0 w (C.rho0 id) (rho id) hb0 hb

structure RepF (C : Ctx) (en : Nat → SV) (hp : Hp) (a : Act) (w : World) (rho : Nat → Option Nat) : Prop where
  mem : RepH C hp w rho
  env : ∀ n, Rp w (okk C rho hp) rho hp (en n) (a.tmps.getD n undef)
  size : a.tmps.size = C.N
  defers : a.defers = []

def up {α : Type} (f : Nat → α) (n : Nat) (x : α) : Nat → α := fun m => if m = n then x else f m
@[simp] theorem up_same {α : Type} (f : Nat → α) (n : Nat) (x : α) : up f n x n = x := by simp [up]
theorem up_other {α : Type} (f : Nat → α) {n m : Nat} (x : α) (h : m ≠ n) : up f n x m = f m := by simp [up, h]

/-- A step between two memories: what is told of the first is told of the second. -/
structure Step (C : Ctx) (hp hp' : Hp) (w w' : World) (rho rho' : Nat → Option Nat) : Prop where
  mem : RepH C hp' w' rho'
  evo : Evo w w' (okk C rho hp) (okk C rho' hp') rho rho' hp hp'

theorem RepF.step {C : Ctx} {en : Nat → SV} {hp hp' : Hp} {a : Act} {w w' : World} {rho rho' : Nat → Option Nat} (R : RepF C en hp a w rho) (S : Step C hp hp' w w' rho rho') : RepF C en hp' a w' rho' :=
  ⟨S.mem, fun n => (R.env n).mono S.evo, R.size, R.defers⟩

theorem Step.trans {C : Ctx} {hp hp1 hp2 : Hp} {w w1 w2 : World} {rho rho1 rho2 : Nat → Option Nat} (h : Step C hp hp1 w w1 rho rho1) (k : Step C hp1 hp2 w1 w2 rho1 rho2)
    (hs : w.heap.size ≤ w1.heap.size) : Step C hp hp2 w w2 rho rho2 := by
  refine ⟨k.mem, Evo.of (fun b hb hlt => ?_) (fun id hb hq => ?_)⟩
  · obtain ⟨h1, h2⟩ := h.evo.ro b hb hlt
    obtain ⟨k1, k2⟩ := k.evo.ro b h1 (by omega)
    exact ⟨k1, k2.trans h2⟩
  · cases hb with
    | var cs =>
      obtain ⟨cs1, a1, a2⟩ := h.evo.var id cs hq
      obtain ⟨cs2, b1, b2⟩ := k.evo.var id cs1 a1
      exact ⟨_, b1, b2.trans a2⟩
    | row e ver xs =>
      obtain ⟨e1, ver1, xs1, a1, a2, a3⟩ := h.evo.row id e ver xs hq
      obtain ⟨e2, ver2, xs2, b1, b2, b3⟩ := k.evo.row id e1 ver1 xs1 a1
      refine ⟨_, b1, EvoHB.trans (b := .row e1 ver1 xs1) ⟨a2, a3⟩ ⟨b2, b3⟩⟩

/-- The world's heap stays: draws. -/
theorem RepH.quiet {C : Ctx} {hp : Hp} {w w' : World} {rho : Nat → Option Nat} (R : RepH C hp w rho) (hh : w'.heap = w.heap) (ho : w'.os = w.os) (ht : w'.tape = w.tape) (hu : w'.output = w.output) :
    Step C hp hp w w' rho rho := by
  have E : Evo w w' (okk C rho hp) (okk C rho hp) rho rho hp hp := Evo.of (fun b h _ => ⟨h, by rw [hh]⟩) (fun id hb hq => ⟨hb, hq, by
    have := EvoHB.refl w (rho id) hb
    cases hb
    · exact this
    · exact ⟨this.1, fun h => ⟨(this.2 h).1, (this.2 h).2.1, fun b hb cur t hc => ⟨cur, t, by rw [hh]; exact hc, rfl⟩⟩⟩⟩)
  refine ⟨⟨fun id hb hq => ?_, R.inj, fun id b h1 h2 => by rw [hh]; exact R.own id b h1 h2, ⟨ho.trans R.fr.os, ht.trans R.fr.tape, hu.trans R.fr.output, by rw [hh]; exact R.fr.size, fun b h1 h2 => by rw [hh]; exact R.fr.block b h1 h2⟩, fun id hb hb0 h1 h2 => ?_⟩, E⟩
  · rcases R.heap id hb hq with h | ⟨b, cur, t, h1, h2, h3⟩
    · exact .inl h
    · exact .inr ⟨b, cur, t, h1, by rw [hh]; exact h2, h3.mono E⟩
  · have h := R.evo id hb hb0 h1 h2
    cases hb0 <;> cases hb <;> simp only [EvoHB] at h ⊢
    · exact h
    · refine ⟨h.1, fun he => ⟨(h.2 he).1, (h.2 he).2.1, fun b hb cur t hc => ?_⟩⟩
      rw [hh]; exact (h.2 he).2.2 b hb cur t hc

/-- A thing of the call's own is made, or written, or moved to a new block. -/
theorem RepH.replace {C : Ctx} {hp : Hp} {w w' : World} {rho : Nat → Option Nat} (R : RepH C hp w rho) (id : Nat) (hb' : HB) (b' : Nat) (cur' : Array Value) (t' : TypeId)
    (ho : w'.os = w.os) (ht : w'.tape = w.tape) (hu : w'.output = w.output) (hs : w.heap.size ≤ w'.heap.size)
    (hblk : w'.heap[b']? = some (.cells cur' t' (0, 0))) (hoth : ∀ k, k < w.heap.size → k ≠ b' → w'.heap[k]? = w.heap[k]?)
    (hown : ((hp id).isSome = true ∧ rho id = some b') ∨ w.heap.size ≤ b')
    (hkind : ∀ hb, hp id = some hb → EvoHB w w' (rho id) (some b') hb hb')
    (hfresh : hp id = none → C.h0 id = none)
    (hh : Holds w (okk C rho hp) rho hp cur' hb') :
    Step C hp (up hp id (some hb')) w w' rho (up rho id (some b')) := by
  have hne : ∀ id2 b, (hp id2).isSome = true → rho id2 = some b → id2 ≠ id → b ≠ b' := fun id2 b h1 h2 h3 he => by
    subst he
    rcases hown with ⟨g1, g2⟩ | g
    · exact h3 (R.inj id2 id b h1 g1 h2 g2)
    · have := (R.own id2 b h1 h2).2; omega
  have hok : ∀ b, okk C rho hp b → b < w.heap.size → okk C (up rho id (some b')) (up hp id (some hb')) b ∧ w'.heap[b]? = w.heap[b]? := fun b hb hlt => by
    have hbb : b ≠ b' := fun he => by
      subst he
      rcases hown with ⟨g1, g2⟩ | g
      · exact hb.2 id g1 g2
      · omega
    refine ⟨⟨hb.1, fun id2 h2 => ?_⟩, hoth b hlt hbb⟩
    by_cases h : id2 = id
    · subst h; rw [up_same]; intro he; cases he; exact hbb rfl
    · rw [up_other _ _ h]; rw [up_other _ _ h] at h2; exact hb.2 id2 h2
  have E : Evo w w' (okk C rho hp) (okk C (up rho id (some b')) (up hp id (some hb'))) rho (up rho id (some b')) hp (up hp id (some hb')) := by
    refine Evo.of hok (fun id2 hb hq => ?_)
    by_cases h : id2 = id
    · subst h; exact ⟨hb', up_same _ _ _, by rw [up_same]; exact hkind hb hq⟩
    · refine ⟨hb, by rw [up_other _ _ h]; exact hq, ?_⟩
      rw [up_other _ _ h]
      cases hb with
      | var cs => rfl
      | row e ver xs => exact ⟨Nat.le_refl _, fun _ => ⟨rfl, rfl, fun b hb cur t hc => ⟨cur, t, by
          rw [hoth b (Array.getElem?_eq_some_iff.1 hc).1 (hne id2 b (by simp [hq]) hb h)]; exact hc, rfl⟩⟩⟩
  refine ⟨⟨fun id2 hb hq => ?_, fun id1 id2 b h1 h2 h3 h4 => ?_, fun id2 b h1 h2 => ?_, ⟨ho.trans R.fr.os, ht.trans R.fr.tape, hu.trans R.fr.output, Nat.le_trans R.fr.size hs, fun b h1 h2 => ?_⟩, fun id2 hb hb0 h1 h2 => ?_⟩, E⟩
  · by_cases h : id2 = id
    · subst h
      rw [up_same] at hq; cases hq
      exact .inr ⟨b', cur', t', up_same _ _ _, hblk, hh.mono E⟩
    · rw [up_other _ _ h] at hq
      rcases R.heap id2 hb hq with g | ⟨b, cur, t, g1, g2, g3⟩
      · exact .inl ⟨by rw [up_other _ _ h]; exact g.1, g.2⟩
      · refine .inr ⟨b, cur, t, by rw [up_other _ _ h]; exact g1, ?_, g3.mono E⟩
        rw [hoth b (Array.getElem?_eq_some_iff.1 g2).1 (hne id2 b (by simp [hq]) g1 h)]; exact g2
  · by_cases e1 : id1 = id <;> by_cases e2 : id2 = id
    · rw [e1, e2]
    · subst e1
      rw [up_same] at h3; cases h3
      rw [up_other _ _ e2] at h2 h4
      exact absurd rfl (hne id2 b' h2 h4 e2)
    · subst e2
      rw [up_same] at h4; cases h4
      rw [up_other _ _ e1] at h1 h3
      exact absurd rfl (hne id1 b' h1 h3 e1)
    · rw [up_other _ _ e1] at h1 h3; rw [up_other _ _ e2] at h2 h4
      exact R.inj id1 id2 b h1 h2 h3 h4
  · by_cases h : id2 = id
    · subst h
      rw [up_same] at h2; cases h2
      refine ⟨?_, (Array.getElem?_eq_some_iff.1 hblk).1⟩
      rcases hown with ⟨g1, g2⟩ | g
      · exact (R.own _ _ g1 g2).1
      · exact .inr (Nat.le_trans R.fr.size g)
    · rw [up_other _ _ h] at h1 h2
      obtain ⟨g1, g2⟩ := R.own id2 b h1 h2
      exact ⟨g1, by omega⟩
  · have hbb : b ≠ b' := fun he => by
      subst he
      rcases hown with ⟨g1, g2⟩ | g
      · rcases (R.own _ _ g1 g2).1 with g | g
        · exact h2 g.2.2
        · omega
      · have := R.fr.size; omega
    rw [hoth b (by have := R.fr.size; omega) hbb]
    exact R.fr.block b h1 h2
  · by_cases h : id2 = id
    · subst h
      rw [up_same] at h1; cases h1
      rw [up_same]
      cases hq : hp id2 with
      | none => rw [hfresh hq] at h2; cases h2
      | some hb => exact (R.evo id2 hb hb0 hq h2).trans (hkind hb hq)
    · rw [up_other _ _ h] at h1 ⊢
      refine (R.evo id2 hb hb0 h1 h2).trans ?_
      cases hb with
      | var cs => rfl
      | row e ver xs => exact ⟨Nat.le_refl _, fun _ => ⟨rfl, rfl, fun b hb cur t hc => ⟨cur, t, by
          rw [hoth b (Array.getElem?_eq_some_iff.1 hc).1 (hne id2 b (by simp [h1]) hb h)]; exact hc, rfl⟩⟩⟩

theorem RepF.put {C : Ctx} {en : Nat → SV} {hp : Hp} {a : Act} {w : World} {rho : Nat → Option Nat} (R : RepF C en hp a w rho) {d : Nat} (hd : d < C.N) {s : SV} {v : Value}
    (h : Rp w (okk C rho hp) rho hp s v) : RepF C (up en d s) hp (a.put (some d) v) w rho := by
  refine ⟨R.mem, fun n => ?_, ?_, R.defers⟩
  · simp only [Act.put, Array.getD_eq_getD_getElem?, Array.getElem?_setIfInBounds]
    have hn := R.env n
    rw [Array.getD_eq_getD_getElem?] at hn
    by_cases e : n = d
    · subst e
      rw [up_same]
      have hl : n < a.tmps.size := by rw [R.size]; exact hd
      simp [hl]; exact h
    · rw [up_other _ _ e, if_neg (Ne.symm e)]; exact hn
  · simp [Act.put, R.size]

theorem RepH.same {C : Ctx} {hp : Hp} {w : World} {rho : Nat → Option Nat} (R : RepH C hp w rho) : Step C hp hp w w rho rho := R.quiet rfl rfl rfl rfl

/-- A new block for a new thing. -/
theorem RepH.make {C : Ctx} {hp : Hp} {w w1 : World} {rho : Nat → Option Nat} (R : RepH C hp w rho) (hw1 : w1.heap = w.heap) (ho : w1.os = w.os) (ht : w1.tape = w.tape) (hu : w1.output = w.output) (id : Nat) (hb : HB) (cur : Array Value) (t : TypeId)
    (hfr : hp id = none) (hfresh : C.h0 id = none) (hh : Holds w (okk C rho hp) rho hp cur hb) :
    Step C hp (up hp id (some hb)) w (w1.alloc (.cells cur t)) rho (up rho id (some w.heap.size)) := by
  refine R.replace id hb w.heap.size cur t (show w1.os = _ from ho) (show w1.tape = _ from ht) (show w1.output = _ from hu) ?_ ?_ ?_ (.inr (Nat.le_refl _)) (fun hb' hq => by rw [hfr] at hq; cases hq) (fun _ => hfresh) hh
  · simp [hw1]
  · have := heap_alloc_new w1 (.cells cur t); rwa [hw1] at this
  · intro k hk _
    have := heap_alloc_old w1 (.cells cur t) k (by rw [hw1]; exact hk); rw [this, hw1]

end Go.Eng
