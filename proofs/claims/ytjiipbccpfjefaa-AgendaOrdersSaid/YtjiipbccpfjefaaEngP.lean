/- Regions that draw their order: what is told of the order of the text holds of every order, where what is unordered touches nothing in common. -/
import Derived.Test.YtjiipbccpfjefaaEngO
set_option linter.unusedSimpArgs false
set_option linter.unusedVariables false
namespace Go.Eng
open Go

/-- What an operation of a region touches: slots read, slot written, things looked at, things written. -/
structure TE where
  rds : List Nat
  dst : Option Nat
  pre : List Nat
  us : List Nat

def rdsX : List XO → List Nat
  | [] => []
  | .t n :: r => n :: rdsX r
  | .c _ :: r => rdsX r

def rdsOf (op : AOp) : List Nat := match op.guard with
  | some (d, _) => d :: rdsX op.xs
  | none => rdsX op.xs

def disj (a b : List Nat) : Bool := a.all fun x => !b.contains x

def apartT (x y : TE) : Bool :=
  (match x.dst with
   | some d => !y.rds.contains d && !(y.dst == some d)
   | none => true) &&
  (match y.dst with
   | some d => !x.rds.contains d
   | none => true) && disj x.us y.pre && disj x.us y.us && disj y.us x.pre

/-- Each two are ordered or apart: x stands ahead of those of l, as number i; the first of l has number j. -/
def compat1 (bef : List (List Nat)) (i : Nat) (x : TE) : Nat → List TE → Bool
  | _, [] => true
  | j, y :: r => ((bef.getD j []).contains i || apartT x y) && compat1 bef i x (j + 1) r

def compat (bef : List (List Nat)) : Nat → List TE → Bool
  | _, [] => true
  | i, x :: r => compat1 bef i x (i + 1) r && compat bef (i + 1) r

theorem compat1_get {bef : List (List Nat)} {i : Nat} {x : TE} : ∀ {l : List TE} {j : Nat}, compat1 bef i x j l = true → ∀ (k : Nat) (y : TE), l[k]? = some y → (bef.getD (j + k) []).contains i = true ∨ apartT x y = true
  | [], j, _, k, y, h => by simp at h
  | z :: r, j, hc, k, y, h => by
    simp only [compat1, Bool.and_eq_true, Bool.or_eq_true] at hc
    cases k with
    | zero => simp at h; subst h; exact hc.1
    | succ k =>
      have := compat1_get hc.2 k y (by simpa using h)
      rwa [show j + 1 + k = j + (k + 1) by omega] at this

theorem compat_get {bef : List (List Nat)} : ∀ {l : List TE} {i : Nat}, compat bef i l = true → ∀ (a b : Nat) (x y : TE), a < b → l[a]? = some x → l[b]? = some y → (bef.getD (i + b) []).contains (i + a) = true ∨ apartT x y = true
  | [], i, _, a, b, x, y, _, h, _ => by simp at h
  | z :: r, i, hc, a, b, x, y, hab, hx, hy => by
    simp only [compat, Bool.and_eq_true] at hc
    cases b with
    | zero => omega
    | succ b =>
      simp only [List.getElem?_cons_succ] at hy
      cases a with
      | zero =>
        simp at hx; subst hx
        have := compat1_get hc.1 b y hy
        rwa [show i + 1 + b = i + (b + 1) by omega] at this
      | succ a =>
        simp only [List.getElem?_cons_succ] at hx
        have := compat_get hc.2 a b x y (by omega) hx hy
        rwa [show i + 1 + b = i + (b + 1) by omega, show i + 1 + a = i + (a + 1) by omega] at this

/-- Those that must have come up ahead, through others too. -/
def needs (o : Oper) : List Nat := (o.after.toList.filter (fun e => Region.binds .any e)).map (·.on)

/-- One entry of the trace of a region in the text's order. -/
inductive EN where
  | skip
  | run (args : List SV) (pre us : List (Nat × HB)) (sv : SV)

def nextS (op : AOp) (s : St) : EN → St
  | .skip => ⟨putE op.dst .dead s.env, s.h⟩
  | .run _ _ us sv => ⟨putE op.dst sv s.env, uphL s.h us⟩

def teOf (op : AOp) : EN → TE
  | .skip => ⟨rdsOf op, op.dst, [], []⟩
  | .run _ pre us _ => ⟨rdsOf op, op.dst, pre.map (·.1), us.map (·.1)⟩

/-- The trace: at each operation what it did, and that it could. -/
def Tr (P : Program) (ops : Array Oper) : Nat → List AOp → St → List EN → St → Prop
  | _, [], s, [], s' => s = s'
  | i, op :: l, s, e :: es, s' => (match e with
      | .skip => gOK (lk s.env) op.guard = some false
      | .run args pre us sv => gOK (lk s.env) op.guard = some true ∧ args = op.xs.map (evX (lk s.env)) ∧ (∀ o, ops[i]? = some o → OpS P o args pre us sv) ∧ PreOK (hget s.h) pre ∧ okU pre s.h us) ∧ Tr P ops (i + 1) l (nextS op s e) es s'
  | _, _, _, _, _ => False

def stAt : List AOp → List EN → St → Nat → St
  | op :: l, e :: es, s, i + 1 => stAt l es (nextS op s e) i
  | _, _, s, _ => s

theorem Tr.length {P : Program} {ops : Array Oper} : ∀ {l : List AOp} {i : Nat} {s s' : St} {es : List EN}, Tr P ops i l s es s' → es.length = l.length
  | [], i, s, s', [], _ => rfl
  | [], i, s, s', _ :: _, h => h.elim
  | _ :: _, i, s, s', [], h => h.elim
  | op :: l, i, s, s', e :: es, h => by simp [Tr.length h.2]

theorem Tr.last {P : Program} {ops : Array Oper} : ∀ {l : List AOp} {i : Nat} {s s' : St} {es : List EN}, Tr P ops i l s es s' → stAt l es s l.length = s'
  | [], i, s, s', [], h => h
  | [], i, s, s', _ :: _, h => h.elim
  | _ :: _, i, s, s', [], h => h.elim
  | op :: l, i, s, s', e :: es, h => by simpa [stAt] using Tr.last h.2

theorem Tr.at_ {P : Program} {ops : Array Oper} : ∀ {l : List AOp} {i : Nat} {s s' : St} {es : List EN}, Tr P ops i l s es s' → ∀ (j : Nat) (op : AOp), l[j]? = some op → ∃ e, es[j]? = some e ∧ stAt l es s (j + 1) = nextS op (stAt l es s j) e ∧ (match e with
      | .skip => gOK (lk (stAt l es s j).env) op.guard = some false
      | .run args pre us sv => gOK (lk (stAt l es s j).env) op.guard = some true ∧ args = op.xs.map (evX (lk (stAt l es s j).env)) ∧ (∀ o, ops[i + j]? = some o → OpS P o args pre us sv) ∧ PreOK (hget (stAt l es s j).h) pre ∧ okU pre (stAt l es s j).h us)
  | [], i, s, s', es, h, j, op, hj => by simp at hj
  | _ :: _, i, s, s', [], h, _, _, _ => h.elim
  | op0 :: l, i, s, s', e :: es, h, j, op, hj => by
    cases j with
    | zero =>
      simp at hj; subst hj
      refine ⟨e, rfl, ?_, ?_⟩
      · cases l <;> cases es <;> rfl
      · have := h.1
        cases e <;> exact this
    | succ j =>
      have := Tr.at_ h.2 j op (by simpa using hj)
      obtain ⟨e', h1, h2, h3⟩ := this
      refine ⟨e', by simpa using h1, h2, ?_⟩
      rw [show i + (j + 1) = i + 1 + j by omega]
      exact h3

theorem stAt_len {l : List AOp} {es : List EN} {s : St} (P : Program) (ops : Array Oper) {i : Nat} {s' : St} (h : Tr P ops i l s es s') : ∀ j, j ≤ l.length → s.h.length ≤ (stAt l es s j).h.length := fun j => by
  induction j with
  | zero => intro _; cases l <;> cases es <;> exact Nat.le_refl _
  | succ j ih =>
    intro hj
    obtain ⟨e, h1, h2, h3⟩ := h.at_ j _ (List.getElem?_eq_getElem (by omega))
    rw [h2]
    refine Nat.le_trans (ih (by omega)) ?_
    cases e with
    | skip => exact Nat.le_refl _
    | run args pre us sv => exact (hget_uphL h3.2.2.2.2).2

/-- The numbers of those that are not listed yet. -/
def cnt (L : Nat → Bool) : Nat → Nat
  | 0 => 0
  | n + 1 => cnt L n + (if L n then 0 else 1)

theorem cnt_same {L L' : Nat → Bool} : ∀ {n : Nat}, (∀ i, i < n → L' i = L i) → cnt L' n = cnt L n
  | 0, _ => rfl
  | n + 1, h => by rw [cnt, cnt, cnt_same (fun i hi => h i (by omega)), h n (by omega)]

theorem cnt_set {L L' : Nat → Bool} {j : Nat} (hj : L j = false) (hj' : L' j = true) (ho : ∀ i, i ≠ j → L' i = L i) : ∀ {n : Nat}, j < n → cnt L n = cnt L' n + 1
  | n + 1, h => by
    rw [cnt, cnt]
    by_cases hn : j = n
    · subst hn
      rw [cnt_same (L := L) (L' := L') (fun i hi => ho i (by omega)), hj, hj']; simp
    · rw [cnt_set hj hj' ho (n := n) (by omega), ho n (fun e => hn e.symm)]; omega

theorem cnt_zero {L : Nat → Bool} : ∀ {n : Nat}, cnt L n = 0 → ∀ i, i < n → L i = true
  | n + 1, h, i, hi => by
    rw [cnt] at h
    by_cases hn : i = n
    · subst hn; cases hL : L i with
      | true => rfl
      | false => simp [hL] at h
    · exact cnt_zero (n := n) (by omega) i (by omega)

theorem cnt_le (L : Nat → Bool) : ∀ n, cnt L n ≤ n
  | 0 => Nat.le_refl _
  | n + 1 => by rw [cnt]; have := cnt_le L n; split <;> omega

theorem upl_mem {hp hp' : Hp} : ∀ {us : List (Nat × HB)} {id : Nat}, id ∈ us.map (·.1) → upl hp us id = upl hp' us id
  | [], id, h => by simp at h
  | (i, hb) :: r, id, h => by
    by_cases hr : id ∈ r.map (·.1)
    · rw [upl, upl]; exact upl_mem hr
    · have hi : id = i := by
        rcases List.mem_cons.1 h with h | h
        · exact h
        · exact absurd h hr
      subst hi
      have hne : ∀ q ∈ r, q.1 ≠ id := fun q hq he => hr (List.mem_map.2 ⟨q, hq, he⟩)
      rw [upl, upl, upl_not hne, upl_not hne, up_same, up_same]

/-- Between two points of the text at which nobody writes a place, it holds the same. -/
theorem same_between {α : Type} (f : Nat → α) (wr : Nat → Prop) (hs : ∀ i, ¬ wr i → f (i + 1) = f i) {k j : Nat} (hkj : k ≤ j) (h : ∀ i, k ≤ i → i < j → ¬ wr i) : f j = f k := by
  induction j with
  | zero => have : k = 0 := by omega
            rw [this]
  | succ j ih =>
    by_cases he : k = j + 1
    · rw [he]
    · rw [hs j (h j (by omega) (by omega)), ih (by omega) (fun i h1 h2 => h i h1 (by omega))]

theorem disj_not {a b : List Nat} (h : disj a b = true) {x : Nat} (ha : x ∈ a) (hb : x ∈ b) : False := by
  unfold disj at h
  rw [List.all_eq_true] at h
  have := h x ha
  simp at this
  exact this hb

/-- All that the schedule's theorem is about. -/
structure Sch (P : Program) (ops : Array Oper) (N : Nat) (l : List AOp) (es : List EN) (s0 s1 : St) (bef : List (List Nat)) : Prop where
  tr : Tr P ops 0 l s0 es s1
  size : ops.size = l.length
  comp : ∀ (i : Nat) (op : AOp), l[i]? = some op → ∃ o, ops[i]? = some o ∧ compOper P ops N o = some op
  back : ∀ (i : Nat) (o : Oper), ops[i]? = some o → ∀ k ∈ needs o, k < i
  befOk : ∀ (i : Nat) (o : Oper), ops[i]? = some o → ∀ k ∈ bef.getD i [], ∃ (L : List Nat), (∀ x ∈ L, x ∈ needs o) ∧ (k ∈ L ∨ ∃ x ∈ L, k ∈ bef.getD x [])
  ok : ∀ (a b : Nat) (opa opb : AOp) (ea eb : EN), a < b → l[a]? = some opa → l[b]? = some opb → es[a]? = some ea → es[b]? = some eb → a ∈ bef.getD b [] ∨ apartT (teOf opa ea) (teOf opb eb) = true

section
variable {P : Program} {ops : Array Oper} {N : Nat} {l : List AOp} {es : List EN} {s0 s1 : St} {bef : List (List Nat)}

/-- Listed ones are closed: what must be ahead is listed. -/
def Clo (ops : Array Oper) (L : Nat → Bool) : Prop := ∀ (i : Nat) (o : Oper), ops[i]? = some o → L i = true → ∀ k ∈ needs o, L k = true

theorem Sch.bef_listed (H : Sch P ops N l es s0 s1 bef) {L : Nat → Bool} (hc : Clo ops L) : ∀ (i : Nat) (o : Oper), ops[i]? = some o → (∀ k ∈ needs o, L k = true) → ∀ k ∈ bef.getD i [], L k = true := by
  intro i
  induction i using Nat.strongRecOn with
  | _ i ih =>
    intro o ho hn k hk
    obtain ⟨ls, h1, h2⟩ := H.befOk i o ho k hk
    rcases h2 with h2 | ⟨x, hx, h2⟩
    · exact hn k (h1 k h2)
    · have hxi := H.back i o ho x (h1 x hx)
      have hxs : x < ops.size := by have := (Array.getElem?_eq_some_iff.1 ho).1; omega
      have hox := Array.getElem?_eq_getElem hxs
      exact ih x hxi _ hox (hc x _ hox (hn x (h1 x hx))) k h2

/-- What stands at the places when the ones of L have come up. -/
structure Inv (l : List AOp) (es : List EN) (s0 : St) (L : Nat → Bool) (en : Nat → SV) (hp : Hp) : Prop where
  env : ∀ m, ∃ k, k ≤ l.length ∧ en m = lk (stAt l es s0 k).env m ∧ (∀ (i : Nat) (op : AOp), i < k → l[i]? = some op → op.dst = some m → L i = true) ∧ (∀ (i : Nat) (op : AOp), k ≤ i → l[i]? = some op → op.dst = some m → L i = false)
  heap : ∀ id, ∃ k, k ≤ l.length ∧ hp id = hget (stAt l es s0 k).h id ∧ (∀ (i : Nat) (op : AOp) (e : EN), i < k → l[i]? = some op → es[i]? = some e → id ∈ (teOf op e).us → L i = true) ∧ (∀ (i : Nat) (op : AOp) (e : EN), k ≤ i → l[i]? = some op → es[i]? = some e → id ∈ (teOf op e).us → L i = false)

theorem Sch.env_step (H : Sch P ops N l es s0 s1 bef) (m i : Nat) (h : ∀ op, l[i]? = some op → op.dst ≠ some m) : lk (stAt l es s0 (i + 1)).env m = lk (stAt l es s0 i).env m := by
  cases hi : l[i]? with
  | none =>
    have hlen : ∀ (l : List AOp) (es : List EN) (s : St) (i : Nat), l.length ≤ i → stAt l es s (i + 1) = stAt l es s i := by
      intro l
      induction l with
      | nil => intro es s i _; cases i <;> rfl
      | cons op l ih =>
        intro es s i hi
        cases es with
        | nil => cases i <;> rfl
        | cons e es =>
          cases i with
          | zero => simp at hi
          | succ i => simp only [stAt]; exact ih es _ i (by simpa using hi)
    rw [hlen l es s0 i (List.getElem?_eq_none_iff.1 hi)]
  | some op =>
    obtain ⟨e, _, h2, _⟩ := H.tr.at_ i op hi
    rw [h2]
    have hd := h op hi
    have hput : ∀ v, lk (putE op.dst v (stAt l es s0 i).env) m = lk (stAt l es s0 i).env m := fun v => by
      cases hdd : op.dst with
      | none => rfl
      | some d =>
        rw [hdd] at hd
        rw [putE, lk_put, up_other _ _ (fun e => hd (by rw [e]))]
    cases e <;> exact hput _

theorem Sch.heap_step (H : Sch P ops N l es s0 s1 bef) (id i : Nat) (h : ∀ op e, l[i]? = some op → es[i]? = some e → id ∉ (teOf op e).us) : hget (stAt l es s0 (i + 1)).h id = hget (stAt l es s0 i).h id := by
  cases hi : l[i]? with
  | none =>
    have hlen : ∀ (l : List AOp) (es : List EN) (s : St) (i : Nat), l.length ≤ i → stAt l es s (i + 1) = stAt l es s i := by
      intro l
      induction l with
      | nil => intro es s i _; cases i <;> rfl
      | cons op l ih =>
        intro es s i hi
        cases es with
        | nil => cases i <;> rfl
        | cons e es =>
          cases i with
          | zero => simp at hi
          | succ i => simp only [stAt]; exact ih es _ i (by simpa using hi)
    rw [hlen l es s0 i (List.getElem?_eq_none_iff.1 hi)]
  | some op =>
    obtain ⟨e, he, h2, h3⟩ := H.tr.at_ i op hi
    rw [h2]
    have hd := h op e hi he
    cases e with
    | skip => rfl
    | run args pre us sv =>
      obtain ⟨_, _, _, _, hk⟩ := h3
      show hget (uphL (stAt l es s0 i).h us) id = _
      rw [(hget_uphL hk).1]
      exact upl_not (fun q hq he => hd (List.mem_map.2 ⟨q, hq, he⟩))

theorem Sch.wenv (H : Sch P ops N l es s0 s1 bef) {L : Nat → Bool} (hc : Clo ops L) {j : Nat} {op : AOp} {o : Oper} (hj : l[j]? = some op) (ho : ops[j]? = some o) (hL : L j = false) (hn : ∀ k ∈ needs o, L k = true)
    {m : Nat} (hm : m ∈ rdsOf op ∨ op.dst = some m) (i : Nat) (opi : AOp) (hi : l[i]? = some opi) (hd : opi.dst = some m) : (i < j → L i = true) ∧ (j < i → L i = false) := by
  obtain ⟨e, he, _⟩ := H.tr.at_ j op hj
  have hlen := H.tr.length
  have hil : i < es.length := by rw [hlen]; exact (List.getElem?_eq_some_iff.1 hi).1
  have hei := List.getElem?_eq_getElem hil
  have hdt : ∀ e, (teOf opi e).dst = some m := fun e => by cases e <;> exact hd
  have hrt : ∀ e, (teOf op e).rds = rdsOf op := fun e => by cases e <;> rfl
  have hdo : ∀ e, (teOf op e).dst = op.dst := fun e => by cases e <;> rfl
  refine ⟨fun hij => ?_, fun hji => ?_⟩
  · rcases H.ok i j opi op _ e hij hi hj hei he with h | h
    · exact H.bef_listed hc j o ho hn i h
    · exfalso
      simp only [apartT, Bool.and_eq_true] at h
      have ha := h.1.1.1.1
      rw [hdt] at ha
      rw [hrt, hdo] at ha
      rcases hm with hm | hm
      · simp [hm] at ha
      · simp [hm] at ha
  · cases hLi : L i with
    | false => rfl
    | true =>
      exfalso
      rcases H.ok j i op opi e _ hji hj hi he hei with h | h
      · have hoi := Array.getElem?_eq_getElem (xs := ops) (i := i) (by rw [H.size, ← hlen]; exact hil)
        have := H.bef_listed hc i _ hoi (hc i _ hoi hLi) j h
        rw [hL] at this; cases this
      · simp only [apartT, Bool.and_eq_true] at h
        have hb := h.1.1.1.2
        have ha := h.1.1.1.1
        rw [hdt] at hb
        rw [hrt] at hb
        rw [hdo, hdt] at ha
        rcases hm with hm | hm
        · simp [hm] at hb
        · simp [hm] at ha

theorem Sch.read_env (H : Sch P ops N l es s0 s1 bef) {L : Nat → Bool} (hc : Clo ops L) {en : Nat → SV} {hp : Hp} (I : Inv l es s0 L en hp) {j : Nat} {op : AOp} {o : Oper} (hj : l[j]? = some op) (ho : ops[j]? = some o) (hL : L j = false) (hn : ∀ k ∈ needs o, L k = true)
    {m : Nat} (hm : m ∈ rdsOf op ∨ op.dst = some m) : en m = lk (stAt l es s0 j).env m := by
  obtain ⟨k, hk, h1, h2, h3⟩ := I.env m
  rw [h1]
  have hw := H.wenv hc hj ho hL hn hm
  by_cases hkj : k ≤ j
  · refine (same_between (fun i => lk (stAt l es s0 i).env m) (fun i => ∃ opi, l[i]? = some opi ∧ opi.dst = some m) (fun i hi => H.env_step m i (fun op ho hd => hi ⟨op, ho, hd⟩)) hkj (fun i hi1 hi2 ⟨opi, ho, hd⟩ => ?_)).symm
    have := h3 i opi hi1 ho hd
    rw [(hw i opi ho hd).1 hi2] at this; cases this
  · refine same_between (fun i => lk (stAt l es s0 i).env m) (fun i => ∃ opi, l[i]? = some opi ∧ opi.dst = some m) (fun i hi => H.env_step m i (fun op ho hd => hi ⟨op, ho, hd⟩)) (by omega) (fun i hi1 hi2 ⟨opi, ho, hd⟩ => ?_)
    have := h2 i opi hi2 ho hd
    by_cases hij : i = j
    · subst hij; rw [hL] at this; cases this
    · rw [(hw i opi ho hd).2 (by omega)] at this; cases this

theorem Sch.wheap (H : Sch P ops N l es s0 s1 bef) {L : Nat → Bool} (hc : Clo ops L) {j : Nat} {op : AOp} {e : EN} {o : Oper} (hj : l[j]? = some op) (he : es[j]? = some e) (ho : ops[j]? = some o) (hL : L j = false) (hn : ∀ k ∈ needs o, L k = true)
    {id : Nat} (hm : id ∈ (teOf op e).pre ∨ id ∈ (teOf op e).us) (i : Nat) (opi : AOp) (ei : EN) (hi : l[i]? = some opi) (hei : es[i]? = some ei) (hd : id ∈ (teOf opi ei).us) : (i < j → L i = true) ∧ (j < i → L i = false) := by
  have hlen := H.tr.length
  refine ⟨fun hij => ?_, fun hji => ?_⟩
  · rcases H.ok i j opi op _ e hij hi hj hei he with h | h
    · exact H.bef_listed hc j o ho hn i h
    · exfalso
      simp only [apartT, Bool.and_eq_true] at h
      rcases hm with hm | hm
      · exact disj_not h.1.1.2 hd hm
      · exact disj_not h.1.2 hd hm
  · cases hLi : L i with
    | false => rfl
    | true =>
      exfalso
      rcases H.ok j i op opi e _ hji hj hi he hei with h | h
      · have hil : i < es.length := (List.getElem?_eq_some_iff.1 hei).1
        have hoi := Array.getElem?_eq_getElem (xs := ops) (i := i) (by rw [H.size, ← hlen]; exact hil)
        have := H.bef_listed hc i _ hoi (hc i _ hoi hLi) j h
        rw [hL] at this; cases this
      · simp only [apartT, Bool.and_eq_true] at h
        rcases hm with hm | hm
        · exact disj_not h.2 hd hm
        · exact disj_not h.1.2 hm hd

theorem Sch.read_heap (H : Sch P ops N l es s0 s1 bef) {L : Nat → Bool} (hc : Clo ops L) {en : Nat → SV} {hp : Hp} (I : Inv l es s0 L en hp) {j : Nat} {op : AOp} {e : EN} {o : Oper} (hj : l[j]? = some op) (he : es[j]? = some e) (ho : ops[j]? = some o) (hL : L j = false) (hn : ∀ k ∈ needs o, L k = true)
    {id : Nat} (hm : id ∈ (teOf op e).pre ∨ id ∈ (teOf op e).us) : hp id = hget (stAt l es s0 j).h id := by
  obtain ⟨k, hk, h1, h2, h3⟩ := I.heap id
  rw [h1]
  have hw := H.wheap hc hj he ho hL hn hm
  by_cases hkj : k ≤ j
  · refine (same_between (fun i => hget (stAt l es s0 i).h id) (fun i => ∃ opi ei, l[i]? = some opi ∧ es[i]? = some ei ∧ id ∈ (teOf opi ei).us) (fun i hi => H.heap_step id i (fun op e ho he hd => hi ⟨op, e, ho, he, hd⟩)) hkj (fun i hi1 hi2 ⟨opi, ei, ho, hei, hd⟩ => ?_)).symm
    have := h3 i opi ei hi1 ho hei hd
    rw [(hw i opi ei ho hei hd).1 hi2] at this; cases this
  · refine same_between (fun i => hget (stAt l es s0 i).h id) (fun i => ∃ opi ei, l[i]? = some opi ∧ es[i]? = some ei ∧ id ∈ (teOf opi ei).us) (fun i hi => H.heap_step id i (fun op e ho he hd => hi ⟨op, e, ho, he, hd⟩)) (by omega) (fun i hi1 hi2 ⟨opi, ei, ho, hei, hd⟩ => ?_)
    have := h2 i opi ei hi2 ho hei hd
    by_cases hij : i = j
    · subst hij; rw [hL] at this; cases this
    · rw [(hw i opi ei ho hei hd).2 (by omega)] at this; cases this

def setL (L : Nat → Bool) (j : Nat) : Nat → Bool := fun i => if i = j then true else L i

theorem Sch.inv_step (H : Sch P ops N l es s0 s1 bef) {L : Nat → Bool} (hc : Clo ops L) {en : Nat → SV} {hp : Hp} (I : Inv l es s0 L en hp) {j : Nat} {op : AOp} {e : EN} {o : Oper} (hj : l[j]? = some op) (he : es[j]? = some e) (ho : ops[j]? = some o) (hL : L j = false) (hn : ∀ k ∈ needs o, L k = true)
    {en' : Nat → SV} {hp' : Hp} (h1 : ∀ m, op.dst = some m → en' m = lk (stAt l es s0 (j + 1)).env m) (h2 : ∀ m, op.dst ≠ some m → en' m = en m) (h3 : ∀ id, id ∈ (teOf op e).us → hp' id = hget (stAt l es s0 (j + 1)).h id) (h4 : ∀ id, id ∉ (teOf op e).us → hp' id = hp id) :
    Inv l es s0 (setL L j) en' hp' := by
  have hjl := (List.getElem?_eq_some_iff.1 hj).1
  have up1 : ∀ i, L i = true → setL L j i = true := fun i h => by unfold setL; split <;> simp [h]
  refine ⟨fun m => ?_, fun id => ?_⟩
  · by_cases hm : op.dst = some m
    · have hw := H.wenv hc hj ho hL hn (.inr hm)
      refine ⟨j + 1, by omega, h1 m hm, fun i opi hi ho hd => ?_, fun i opi hi ho hd => ?_⟩
      · by_cases hij : i = j
        · subst hij; simp [setL]
        · exact up1 i ((hw i opi ho hd).1 (by omega))
      · unfold setL
        rw [if_neg (by omega)]
        exact (hw i opi ho hd).2 (by omega)
    · obtain ⟨k, g1, g2, g3, g4⟩ := I.env m
      refine ⟨k, g1, (h2 m hm).trans g2, fun i opi hi ho hd => up1 i (g3 i opi hi ho hd), fun i opi hi hoi hd => ?_⟩
      unfold setL
      by_cases hij : i = j
      · subst hij; rw [hj] at hoi; cases hoi; exact absurd hd hm
      · rw [if_neg hij]; exact g4 i opi hi hoi hd
  · by_cases hm : id ∈ (teOf op e).us
    · have hw := H.wheap hc hj he ho hL hn (.inr hm)
      refine ⟨j + 1, by omega, h3 id hm, fun i opi ei hi ho hei hd => ?_, fun i opi ei hi ho hei hd => ?_⟩
      · by_cases hij : i = j
        · subst hij; simp [setL]
        · exact up1 i ((hw i opi ei ho hei hd).1 (by omega))
      · unfold setL
        rw [if_neg (by omega)]
        exact (hw i opi ei ho hei hd).2 (by omega)
    · obtain ⟨k, g1, g2, g3, g4⟩ := I.heap id
      refine ⟨k, g1, (h4 id hm).trans g2, fun i opi ei hi ho hei hd => up1 i (g3 i opi ei hi ho hei hd), fun i opi ei hi hoi hei hd => ?_⟩
      unfold setL
      by_cases hij : i = j
      · subst hij; rw [hj] at hoi; cases hoi; rw [he] at hei; cases hei; exact absurd hd hm
      · rw [if_neg hij]; exact g4 i opi ei hi hoi hei hd

theorem Sch.inv_last (H : Sch P ops N l es s0 s1 bef) {L : Nat → Bool} {en : Nat → SV} {hp : Hp} (I : Inv l es s0 L en hp) (hall : ∀ i, i < l.length → L i = true) : en = lk s1.env ∧ hp = hget s1.h := by
  have hlast := H.tr.last
  refine ⟨funext fun m => ?_, funext fun id => ?_⟩
  · obtain ⟨k, g1, g2, g3, g4⟩ := I.env m
    rw [g2, ← hlast]
    refine (same_between (fun i => lk (stAt l es s0 i).env m) (fun i => ∃ opi, l[i]? = some opi ∧ opi.dst = some m) (fun i hi => H.env_step m i (fun op ho hd => hi ⟨op, ho, hd⟩)) g1 (fun i hi1 hi2 ⟨opi, ho, hd⟩ => ?_)).symm
    have := g4 i opi hi1 ho hd
    rw [hall i hi2] at this; cases this
  · obtain ⟨k, g1, g2, g3, g4⟩ := I.heap id
    rw [g2, ← hlast]
    refine (same_between (fun i => hget (stAt l es s0 i).h id) (fun i => ∃ opi ei, l[i]? = some opi ∧ es[i]? = some ei ∧ id ∈ (teOf opi ei).us) (fun i hi => H.heap_step id i (fun op e ho he hd => hi ⟨op, e, ho, he, hd⟩)) g1 (fun i hi1 hi2 ⟨opi, ei, ho, hei, hd⟩ => ?_)).symm
    have := g4 i opi ei hi1 ho hei hd
    rw [hall i hi2] at this; cases this

def Lf (listed : Array Bool) (i : Nat) : Bool := listed.getD i false

theorem ready_mem {listed : Array Bool} (hs : listed.size = ops.size) {i : Nat} : i ∈ Region.ready .any ops listed ↔ i < ops.size ∧ Lf listed i = false ∧ ∀ o, ops[i]? = some o → ∀ k ∈ needs o, Lf listed k = true := by
  unfold Region.ready
  rw [List.mem_filter, List.mem_range]
  constructor
  · rintro ⟨h1, h2⟩
    simp only [Bool.and_eq_true, Bool.not_eq_true'] at h2
    refine ⟨h1, ?_, fun o ho k hk => ?_⟩
    · have := h2.1
      simp only [Lf, Array.getD_eq_getD_getElem?] at this ⊢
      cases hx : listed[i]? with
      | none => simp [hx] at this
      | some x => simp [hx] at this ⊢; exact this
    · have h3 := h2.2
      rw [ho] at h3
      simp only [Option.map_some, Option.getD_some, Array.all_eq_true'] at h3
      unfold needs at hk
      obtain ⟨e, he, rfl⟩ := List.mem_map.1 hk
      obtain ⟨he1, he2⟩ := List.mem_filter.1 he
      have := h3 e (by simpa using he1)
      simp [he2] at this
      simpa [Lf] using this
  · rintro ⟨h1, h2, h3⟩
    refine ⟨h1, ?_⟩
    have ho := Array.getElem?_eq_getElem h1
    simp only [Bool.and_eq_true, Bool.not_eq_true']
    refine ⟨?_, ?_⟩
    · simp only [Lf, Array.getD_eq_getD_getElem?] at h2 ⊢
      have hx := Array.getElem?_eq_getElem (xs := listed) (i := i) (by omega)
      rw [hx] at h2 ⊢
      exact h2
    · rw [ho]
      simp only [Option.map_some, Option.getD_some, Array.all_eq_true']
      intro e he
      cases hb : Region.binds .any e with
      | false => simp
      | true =>
        have := h3 _ ho e.on (List.mem_map.2 ⟨e, List.mem_filter.2 ⟨by simpa using he, hb⟩, rfl⟩)
        simpa [Lf] using this

theorem mem_rdsX {xs : List XO} {n : Nat} (h : XO.t n ∈ xs) : n ∈ rdsX xs := by
  induction xs with
  | nil => simp at h
  | cons x r ih =>
    rcases List.mem_cons.1 h with rfl | h'
    · simp [rdsX]
    · cases x with
      | t m => simp [rdsX, ih h']
      | c s => exact ih h'

theorem evX_same {en en' : Nat → SV} {xs : List XO} (h : ∀ n, n ∈ rdsX xs → en n = en' n) : xs.map (evX en) = xs.map (evX en') := by
  refine List.map_congr_left (fun x hx => ?_)
  cases x with
  | t n => exact h n (mem_rdsX hx)
  | c s => rfl

theorem gOK_same {en en' : Nat → SV} {op : AOp} (h : ∀ n, n ∈ rdsOf op → en n = en' n) : gOK en op.guard = gOK en' op.guard := by
  cases hg : op.guard with
  | none => rfl
  | some q =>
    obtain ⟨d, b⟩ := q
    simp only [gOK]
    rw [h d (by simp [rdsOf, hg])]

theorem sch_any (H : Sch P ops N l es s0 s1 bef) {C : Ctx} (hN : C.N = N) {n0 : Nat} (hn0 : n0 ≤ s0.h.length) (hh0 : ∀ id, n0 ≤ id → C.h0 id = none) {Q : Exit → Act → World → Prop} (hQ : ∀ a w rho, RepF C (lk s1.env) (hget s1.h) a w rho → Q .normal a w) :
    ∀ (fuel : Nat) (listed : Array Bool) (en : Nat → SV) (hp : Hp) (a : Act) (w : World) (rho : Nat → Option Nat), listed.size = ops.size → cnt (Lf listed) l.length ≤ fuel → Clo ops (Lf listed) → Inv l es s0 (Lf listed) en hp → RepF C en hp a w rho →
      wpAny P .any ops Q fuel listed a w := by
  have hall_ready : ∀ listed : Array Bool, listed.size = ops.size → Region.ready .any ops listed = [] → ∀ i, i < l.length → Lf listed i = true := fun listed hs hr i => by
    induction i using Nat.strongRecOn with
    | _ i ih =>
      intro hi
      cases hL : Lf listed i with
      | true => rfl
      | false =>
        have : i ∈ Region.ready .any ops listed := (ready_mem hs).2 ⟨by rw [H.size]; exact hi, hL, fun o ho k hk => ih k (H.back i o ho k hk) (by have := H.back i o ho k hk; omega)⟩
        rw [hr] at this; cases this
  have hfin : ∀ (listed : Array Bool) (en : Nat → SV) (hp : Hp) (a : Act) (w : World) (rho : Nat → Option Nat), (∀ i, i < l.length → Lf listed i = true) → Inv l es s0 (Lf listed) en hp → RepF C en hp a w rho → Q .normal a w := fun listed en hp a w rho hall I R => by
    obtain ⟨rfl, rfl⟩ := H.inv_last I hall
    exact hQ a w rho R
  intro fuel
  induction fuel with
  | zero =>
    intro listed en hp a w rho hs hcnt hc I R
    have hall := cnt_zero (Nat.le_zero.1 hcnt)
    refine ⟨?_, hfin listed en hp a w rho hall I R⟩
    cases hr : Region.ready .any ops listed with
    | nil => rfl
    | cons i r =>
      have hm : i ∈ Region.ready .any ops listed := by rw [hr]; simp
      obtain ⟨h1, h2, _⟩ := (ready_mem hs).1 hm
      rw [hall i (by rw [← H.size]; exact h1)] at h2; cases h2
  | succ fuel ih =>
    intro listed en hp a w rho hs hcnt hc I R
    refine ⟨fun hr => hfin listed en hp a w rho (hall_ready listed hs hr) I R, fun j hj => ?_⟩
    obtain ⟨hj1, hL, hn⟩ := (ready_mem hs).1 hj
    have hjl : j < l.length := by rw [← H.size]; exact hj1
    have hop := List.getElem?_eq_getElem hjl
    obtain ⟨o, ho, hco⟩ := H.comp j _ hop
    obtain ⟨e, he, hst, htr⟩ := H.tr.at_ j _ hop
    obtain ⟨xs0, hc1, hc2, hc3, hc4⟩ := compOper_op hco
    have hn' := hn o ho
    have hrd : ∀ m, m ∈ rdsOf l[j] → en m = lk (stAt l es s0 j).env m := fun m hm => H.read_env hc I hop ho hL hn' (.inl hm)
    have hgs := gOK_same hrd
    have hLf : Lf (listed.setIfInBounds j true) = setL (Lf listed) j := by
      funext i
      simp only [Lf, setL, Array.getD_eq_getD_getElem?, Array.getElem?_setIfInBounds]
      by_cases hij : j = i
      · subst hij; simp [hs, hj1]
      · rw [if_neg hij, if_neg (Ne.symm hij)]
    have hcnt' : cnt (Lf (listed.setIfInBounds j true)) l.length ≤ fuel := by
      rw [hLf]
      have := cnt_set (L := Lf listed) (L' := setL (Lf listed) j) hL (by simp [setL]) (fun i hi => by simp [setL, hi]) hjl
      omega
    have hc' : Clo ops (Lf (listed.setIfInBounds j true)) := by
      rw [hLf]
      intro i oi hoi hi k hk
      unfold setL at hi ⊢
      by_cases hij : i = j
      · subst hij
        rw [ho] at hoi; cases hoi
        split
        · rfl
        · exact hn' k hk
      · rw [if_neg hij] at hi
        split
        · rfl
        · exact hc i oi hoi hi k hk
    unfold wpOp
    rw [ho]
    simp only
    cases e with
    | skip =>
      have hg : gOK en l[j].guard = some false := by rw [hgs]; exact htr
      have hw := gOK_wanted R hco hg
      rw [if_neg (by rw [hw]; simp)]
      have hdst : ∀ m, l[j].dst = some m → m < C.N := fun m hm => by rw [hN]; exact hc4 m hm
      have R' : RepF C (match l[j].dst with | some d => up en d .dead | none => en) hp (a.put o.dst undef) w rho := by
        rw [hc3]
        cases hd : l[j].dst with
        | none => exact R
        | some d => exact R.put (hdst d hd) (.dead _)
      refine ih _ _ _ _ _ _ (by simpa using hs) hcnt' hc' ?_ R'
      rw [hLf]
      refine H.inv_step hc I hop he ho hL hn' (fun m hm => ?_) (fun m hm => ?_) (fun id hid => by simp [teOf] at hid) (fun id _ => rfl)
      · rw [hst]
        show _ = lk (putE l[j].dst .dead (stAt l es s0 j).env) m
        rw [hm]; simp only [putE, lk_put, up_same]
      · cases hd : l[j].dst with
        | none => rfl
        | some d => rw [hd] at hm; exact up_other _ _ (fun e => hm (by rw [e]))
    | run args pre us sv =>
      obtain ⟨t1, t2, t3, t4, t5⟩ := htr
      have hg : gOK en l[j].guard = some true := by rw [hgs]; exact t1
      have hw := gOK_wanted R hco hg
      rw [if_pos hw]
      left
      have hrdx : ∀ m, m ∈ rdsX l[j].xs → en m = lk (stAt l es s0 j).env m := fun m hm => hrd m (by
        unfold rdsOf
        cases l[j].guard with
        | none => exact hm
        | some q => exact List.mem_cons_of_mem _ hm)
      have hargs : args = l[j].xs.map (evX en) := by rw [t2]; exact (evX_same hrdx).symm
      have hpre : ∀ id, id ∈ pre.map (·.1) → hp id = hget (stAt l es s0 j).h id := fun id hid => H.read_heap hc I hop he ho hL hn' (.inl hid)
      have hus : ∀ id, id ∈ us.map (·.1) → hp id = hget (stAt l es s0 j).h id := fun id hid => H.read_heap hc I hop he ho hL hn' (.inr hid)
      have hslen := stAt_len P ops H.tr j (by omega)
      have hnew : NewOK C hp pre us := by
        have gen : ∀ {us : List (Nat × HB)} {h : List (Option HB)}, (stAt l es s0 j).h.length ≤ h.length → okU pre h us → ∀ q ∈ us, (∃ hb, (q.1, hb) ∈ pre) ∨ (stAt l es s0 j).h.length ≤ q.1 := by
          intro us
          induction us with
          | nil => intro h _ _ q hq; simp at hq
          | cons p r ihu =>
            intro h hl hk q hq
            rcases List.mem_cons.1 hq with rfl | hq
            · rcases hk.1 with h1 | ⟨_, h1⟩
              · exact .inr (by omega)
              · exact .inl h1
            · exact ihu (h := uph h p) (by have := uph_length h p; omega) hk.2 q hq
        intro q hq
        rcases gen (Nat.le_refl _) t5 q hq with h | h
        · exact .inl h
        · refine .inr ⟨?_, hh0 _ (by omega)⟩
          rw [hus q.1 (List.mem_map.2 ⟨q, hq, rfl⟩)]
          unfold hget
          rw [List.getElem?_eq_none (by omega)]
      refine t3 o (by simpa using ho) C hp w rho a _ _ _ _ hc1 (fun q hq => ?_) hnew R.mem (by rw [hargs]; exact args_of R hc2) (fun v w' rho' hS hR => ?_)
      · rw [hpre q.1 (List.mem_map.2 ⟨q, hq, rfl⟩)]; exact t4 q hq
      · have hdst : ∀ m, l[j].dst = some m → m < C.N := fun m hm => by rw [hN]; exact hc4 m hm
        have R' : RepF C (match l[j].dst with | some d => up en d sv | none => en) (upl hp us) (a.put o.dst v) w' rho' := by
          rw [hc3]
          have RS := R.step hS
          cases hd : l[j].dst with
          | none => exact RS
          | some d => exact RS.put (hdst d hd) hR
        refine ih _ _ _ _ _ _ (by simpa using hs) hcnt' hc' ?_ R'
        rw [hLf]
        refine H.inv_step hc I hop he ho hL hn' (fun m hm => ?_) (fun m hm => ?_) (fun id hid => ?_) (fun id hid => ?_)
        · rw [hst]
          show _ = lk (putE l[j].dst sv (stAt l es s0 j).env) m
          rw [hm]; simp only [putE, lk_put, up_same]
        · cases hd : l[j].dst with
          | none => rfl
          | some d => rw [hd] at hm; exact up_other _ _ (fun e => hm (by rw [e]))
        · rw [hst]
          show _ = hget (uphL (stAt l es s0 j).h us) id
          rw [(hget_uphL t5).1]
          exact upl_mem hid
        · exact upl_not (fun q hq he => hid (List.mem_map.2 ⟨q, hq, he⟩))
end
end Go.Eng
