/- Operations and calls as steps that look at some things and write some; regions in the order of the text. -/
import Derived.Test.YtjiipbccpfjefaaEngM
set_option linter.unusedSimpArgs false
set_option linter.unusedVariables false
namespace Go.Eng
open Go

inductive XO where
  | t (n : Nat)
  | c (s : SV)
  deriving Inhabited

def cvO : Operand → Option XO
  | .tmp n => some (.t n)
  | .const v => match cvV v with
    | some r => some (.c (.rv r))
    | none => none
  | .func f => some (.c (.fn f []))
  | .global _ => none

def cvOs : List Operand → Option (List XO)
  | [] => some []
  | x :: r => match cvO x, cvOs r with
    | some y, some s => some (y :: s)
    | _, _ => none

def evX (en : Nat → SV) : XO → SV
  | .t n => en n
  | .c s => s

def upl (hp : Hp) : List (Nat × HB) → Hp
  | [] => hp
  | (id, hb) :: r => upl (up hp id (some hb)) r

theorem upl_not {hp : Hp} : ∀ {us : List (Nat × HB)} {id : Nat}, (∀ q ∈ us, q.1 ≠ id) → upl hp us id = hp id
  | [], id, _ => rfl
  | (i, hb) :: r, id, h => by
    rw [upl, upl_not (fun q hq => h q (by simp [hq])), up_other _ _ (Ne.symm (h (i, hb) (by simp)))]

def PreOK (hp : Hp) (pre : List (Nat × HB)) : Prop := ∀ q ∈ pre, hp q.1 = some q.2
def NewOK (C : Ctx) (hp : Hp) (pre us : List (Nat × HB)) : Prop := ∀ q ∈ us, (∃ hb, (q.1, hb) ∈ pre) ∨ (hp q.1 = none ∧ C.h0 q.1 = none)

section
variable {P : Program} {C : Ctx} {hp : Hp} {w : World} {rho : Nat → Option Nat}

theorem args_of {en : Nat → SV} {a : Act} (R : RepF C en hp a w rho) : ∀ {xs : List Operand} {ys : List XO}, cvOs xs = some ys → Args w (okk C rho hp) rho hp a (ys.map (evX en)) xs
  | [], ys, h => by cases h; exact .nil
  | x :: r, ys, h => by
    unfold cvOs at h
    split at h
    · rename_i y s hy hs
      cases h
      refine .cons ?_ (args_of R hs)
      cases x with
      | tmp n => cases hy; exact R.env n
      | const v =>
        simp only [cvO] at hy
        split at hy
        · rename_i r' hr; cases hy; exact .rv _ _ (cvV_ok hr _ _).1
        · cases hy
      | func f =>
        cases hy
        exact Rp.fn f [] [] rfl (fun j y hy => by simp at hy)
      | global g => cases hy
    · cases h
end

/-- An operation, as the engine knows it. -/
structure AOp where
  dst : Option Nat
  ao : AO
  xs : List XO
  guard : Option (Nat × Bool)
  deriving Inhabited

def compOper (P : Program) (ops : Array Oper) (N : Nat) (o : Oper) : Option AOp :=
  match compOp P o.op with
  | none => none
  | some (ao, xs) => match cvOs xs with
    | none => none
    | some ys => if o.dst.all (· < N) then match o.guard with
      | none => some ⟨o.dst, ao, ys, none⟩
      | some (j, b) => match (ops[j]?).bind (·.dst) with
        | some d => some ⟨o.dst, ao, ys, some (d, b)⟩
        | none => none
      else none

/-- What one operation does: it looks at 'pre', leaves 'us', gives sv. -/
def OpS (P : Program) (o : Oper) (args : List SV) (pre us : List (Nat × HB)) (sv : SV) : Prop :=
  ∀ (C : Ctx) (hp : Hp) (w : World) (rho : Nat → Option Nat) (a : Act) (next : Act → World → Prop) (Q : Exit → Act → World → Prop) (ao : AO) (xs : List Operand), compOp P o.op = some (ao, xs) → PreOK hp pre → NewOK C hp pre us → RepH C hp w rho → Args w (okk C rho hp) rho hp a args xs →
    (∀ v w' rho', Step C hp (upl hp us) w w' rho rho' → Rp w' (okk C rho' (upl hp us)) rho' (upl hp us) sv v → next (a.put o.dst v) w') → o.wp P a w next Q

def uList : Option (Nat × HB) → List (Nat × HB)
  | none => []
  | some q => [q]

theorem upl_uList (hp : Hp) (u : Option (Nat × HB)) : upl hp (uList u) = upo hp u := by
  cases u with
  | none => rfl
  | some q => rfl

def callable (P : Program) (f : FuncId) : Bool := match P.funcs[f]? with
  | some fn => !(fn.name == "runtime.NumGoroutine") && fn.body.isSome
  | none => false

/-- A call of a function: what it looks at, what it leaves, what it gives. -/
def CallR (P : Program) (f : FuncId) (args : List SV) (pre us : List (Nat × HB)) (sv : SV) : Prop :=
  callable P f = true ∧ ∀ (C : Ctx) (hp : Hp) (w : World) (rho : Nat → Option Nat) (vs : List Value), PreOK hp pre → NewOK C hp pre us → RepH C hp w rho → vs.length = args.length → (∀ (j : Nat) (s : SV), args[j]? = some s → Rp w (okk C rho hp) rho hp s (vs.getD j undef)) →
    Calls P f vs.toArray w fun e w' => ∃ v rho', e = .returned v ∧ Step C hp (upl hp us) w w' rho rho' ∧ Rp w' (okk C rho' (upl hp us)) rho' (upl hp us) sv v

theorem comp_call {P : Program} {op : Op} {f : FuncId} {xs : List Operand} (hc : compOp P op = some (.call f, xs)) : ∃ c : Call, op = .call c ∧ c.callee = .value (.func f) ∧ c.args.toList = xs := by
  cases op with
  | call c =>
    obtain ⟨callee, args, argTypes⟩ := c
    cases callee with
    | value g =>
      cases g with
      | func g => cases hc; exact ⟨_, rfl, rfl, rfl⟩
      | _ => cases hc
    | invoke r n => cases hc
    | builtin b => cases b <;> unfold compOp at hc <;> (try dsimp only at hc) <;> (try (repeat' split at hc)) <;> first | (cases hc; done) | contradiction
  | _ => unfold compOp at hc; (try dsimp only at hc); (try unfold compBin at hc); (try (repeat' split at hc)) <;> first | (cases hc; done) | contradiction

theorem comp_callv {P : Program} {op : Op} {xs : List Operand} (hc : compOp P op = some (.callv, xs)) : ∃ (c : Call) (x : Operand), op = .call c ∧ c.callee = .value x ∧ xs = x :: c.args.toList := by
  cases op with
  | call c =>
    obtain ⟨callee, args, argTypes⟩ := c
    cases callee with
    | value g => cases g <;> cases hc <;> exact ⟨_, _, rfl, rfl, rfl⟩
    | invoke r n => cases hc
    | builtin b => cases b <;> unfold compOp at hc <;> (try dsimp only at hc) <;> (try (repeat' split at hc)) <;> first | (cases hc; done) | contradiction
  | _ => unfold compOp at hc; (try dsimp only at hc); (try unfold compBin at hc); (try (repeat' split at hc)) <;> first | (cases hc; done) | contradiction

theorem run_callFunc {P : Program} {f : FuncId} (h : callable P f = true) (args : Array Value) (w : World) : (callFunc f args).run P w = .ok (.enter f args) w := by
  unfold callable at h
  split at h
  · rename_i fn hf
    simp only [Bool.and_eq_true, Bool.not_eq_true'] at h
    have hb : ¬ fn.body = none := by cases hfb : fn.body <;> simp [hfb] at h ⊢
    have hn : ¬ fn.name = "runtime.NumGoroutine" := by simpa using h.1
    simp [callFunc, hf, hn, hb]
  · cases h

theorem opS_call {P : Program} {o : Oper} {f : FuncId} {args : List SV} {pre us : List (Nat × HB)} {sv : SV} {xs0 : List Operand} (hc : compOp P o.op = some (.call f, xs0)) (h : CallR P f args pre us sv) : OpS P o args pre us sv := by
  intro C hp w rho a next Q ao xs hcx hpre hnew R A hk
  rw [hc] at hcx; cases hcx
  obtain ⟨c, hop, hcal, hargs⟩ := comp_call hc
  have hrun : (execOp a.eval o).run P w = .ok (.enter f (xs0.map a.eval).toArray) w := by
    have he : (c.args.map a.eval) = (xs0.map a.eval).toArray := by rw [← hargs]; apply Array.ext'; simp
    simp [execOp, hop, resolve, hcal, Act.eval, Deferred.ofValue, invoke, run_callFunc h.1, he]
  unfold Oper.wp
  rw [hrun, Oper.upon_enter]
  refine (h.2 C hp w rho (xs0.map a.eval) hpre hnew R (by simp [A.length]) A.get).mono ?_
  rintro e w' ⟨v, rho', rfl, h1, h2⟩
  exact hk v w' rho' h1 h2

theorem opS_callv {P : Program} {o : Oper} {f : FuncId} {caps args : List SV} {pre us : List (Nat × HB)} {sv : SV} {xs0 : List Operand} (hc : compOp P o.op = some (.callv, xs0)) (h : CallR P f (args ++ caps) pre us sv) : OpS P o (.fn f caps :: args) pre us sv := by
  intro C hp w rho a next Q ao xs hcx hpre hnew R A hk
  rw [hc] at hcx; cases hcx
  obtain ⟨c, x, hop, hcal, rfl⟩ := comp_callv hc
  cases A with
  | cons hf A =>
    generalize hfv : a.eval x = fv at hf
    cases hf with
    | fn _ _ cvs hcl hcy =>
      have hrun : (execOp a.eval o).run P w = .ok (.enter f (c.args.toList.map a.eval ++ cvs).toArray) w := by
        have he : (c.args.map a.eval) ++ cvs.toArray = (c.args.toList.map a.eval ++ cvs).toArray := by apply Array.ext'; simp
        simp [execOp, hop, resolve, hcal, hfv, Deferred.ofValue, invoke, run_callFunc h.1, he]
      unfold Oper.wp
      rw [hrun, Oper.upon_enter]
      refine (h.2 C hp w rho (c.args.toList.map a.eval ++ cvs) hpre hnew R (by simp [A.length, hcl]) (fun j s hj => ?_)).mono ?_
      · have hal := A.length
        by_cases hlt : j < args.length
        · rw [List.getElem?_append_left hlt] at hj
          have := A.get j s hj
          rw [List.getD_eq_getElem?_getD] at this ⊢
          rw [List.getElem?_append_left (by simp; simp at hal; omega)]; exact this
        · rw [List.getElem?_append_right (by omega)] at hj
          have := hcy _ s hj
          rw [List.getD_eq_getElem?_getD] at this ⊢
          rw [List.getElem?_append_right (by simp; simp at hal; omega)]
          simp at hal
          simpa [hal] using this
      · rintro e w' ⟨v, rho', rfl, h1, h2⟩
        exact hk v w' rho' h1 h2

section
variable {hp hp' : Hp} {p : Prop} {sv : SV} {u : Option (Nat × HB)} {rd : List Nat}

theorem loadE_local {n : Nat} {agg : Bool} {s : SV} (h : loadE n agg hp s = some (p, sv, u, rd)) (hl : ∀ id ∈ rd, hp' id = hp id) : loadE n agg hp' s = some (p, sv, u, rd) := by
  cases s with
  | ptr id off =>
    have : hp' id = hp id := by
      simp only [loadE] at h
      split at h
      · cases agg <;> (simp at h; exact hl id (by simp [← h.2.2.2]))
      · cases h
    simpa only [loadE, this] using h
  | ept id ver i off =>
    have : hp' id = hp id := by
      simp only [loadE] at h
      split at h
      · cases agg <;> (simp at h; exact hl id (by simp [← h.2.2.2]))
      · cases h
    simpa only [loadE, this] using h
  | rv r => cases r <;> exact h
  | _ => exact h

theorem storeE_local {n : Nat} {s x : SV} (h : storeE n hp s x = some (p, sv, u, rd)) (hl : ∀ id ∈ rd, hp' id = hp id) : storeE n hp' s x = some (p, sv, u, rd) := by
  unfold storeE at h ⊢
  cases hc : cellsSV x with
  | none => simp [hc] at h
  | some cx =>
    simp only [hc] at h ⊢
    cases s with
    | ptr id off =>
      have : hp' id = hp id := by
        simp only at h
        split at h
        · simp at h; exact hl id (by simp [← h.2.2.2])
        · cases h
      simpa only [this] using h
    | ept id ver i off =>
      have : hp' id = hp id := by
        simp only at h
        split at h
        · simp at h; exact hl id (by simp [← h.2.2.2])
        · cases h
      simpa only [this] using h
    | _ => exact h

theorem isNil_local {s : SV} {b : Bool} (h : isNilSV hp s = some (p, b, rd)) (hl : ∀ id ∈ rd, hp' id = hp id) : isNilSV hp' s = some (p, b, rd) := by
  cases s with
  | ptr id off =>
    have : hp' id = hp id := by
      simp only [isNilSV] at h
      split at h
      · simp at h; exact hl id (by simp [← h.2.2])
      · cases h
    simpa only [isNilSV, this] using h
  | ept id ver i off =>
    have : hp' id = hp id := by
      simp only [isNilSV] at h
      split at h
      · simp at h; exact hl id (by simp [← h.2.2])
      · cases h
    simpa only [isNilSV, this] using h
  | rv r => cases r <;> exact h
  | _ => exact h

theorem fldE_local {off : Nat} {s : SV} (h : fldE off hp s = some (p, sv, u, rd)) (hl : ∀ id ∈ rd, hp' id = hp id) : fldE off hp' s = some (p, sv, u, rd) := by
  cases s with
  | ptr id o =>
    have : hp' id = hp id := by
      simp only [fldE] at h
      split at h
      · simp at h; exact hl id (by simp [← h.2.2.2])
      · cases h
    simpa only [fldE, this] using h
  | ept id ver i o =>
    have : hp' id = hp id := by
      simp only [fldE] at h
      split at h
      · simp at h; exact hl id (by simp [← h.2.2.2])
      · cases h
    simpa only [fldE, this] using h
  | rv r => cases r <;> exact h
  | _ => exact h

theorem ixsE_local {e : Nat} {s : SV} {i : Int} (h : ixsE e hp s i = some (p, sv, u, rd)) (hl : ∀ id ∈ rd, hp' id = hp id) : ixsE e hp' s i = some (p, sv, u, rd) := by
  cases s with
  | row id ver len =>
    have : hp' id = hp id := by
      simp only [ixsE] at h
      split at h
      · simp at h; exact hl id (by simp [← h.2.2.2])
      · cases h
    simpa only [ixsE, this] using h
  | rv r => cases r <;> exact h
  | _ => exact h

theorem ixaE_local {len e : Nat} {s : SV} {i : Int} (h : ixaE len e hp s i = some (p, sv, u, rd)) (hl : ∀ id ∈ rd, hp' id = hp id) : ixaE len e hp' s i = some (p, sv, u, rd) := by
  cases s with
  | ptr id o =>
    have : hp' id = hp id := by
      simp only [ixaE] at h
      split at h
      · simp at h; exact hl id (by simp [← h.2.2.2])
      · cases h
    simpa only [ixaE, this] using h
  | ept id ver i0 o =>
    have : hp' id = hp id := by
      simp only [ixaE] at h
      split at h
      · simp at h; exact hl id (by simp [← h.2.2.2])
      · cases h
    simpa only [ixaE, this] using h
  | rv r => cases r <;> exact h
  | _ => exact h

theorem lenE_local {s : SV} (h : lenE hp s = some (p, sv, u, rd)) (hl : ∀ id ∈ rd, hp' id = hp id) : lenE hp' s = some (p, sv, u, rd) := by
  cases s with
  | row id ver len =>
    have : hp' id = hp id := by
      simp only [lenE] at h
      split at h
      · simp at h; exact hl id (by simp [← h.2.2.2])
      · cases h
    simpa only [lenE, this] using h
  | rv r => cases r <;> exact h
  | _ => exact h

theorem srcE_local {e : Nat} {s : SV} {ys : List (List SV)} (h : srcE e hp s = some (p, ys, rd)) (hl : ∀ id ∈ rd, hp' id = hp id) : srcE e hp' s = some (p, ys, rd) := by
  cases s with
  | row id ver len =>
    have : hp' id = hp id := by
      simp only [srcE] at h
      split at h
      · simp at h; exact hl id (by simp [← h.2.2])
      · cases h
    simpa only [srcE, this] using h
  | rv r => cases r <;> exact h
  | _ => exact h

theorem appE_local {e bytes nx : Nat} {s x : SV} (h : appE e bytes hp nx s x = some (p, sv, u, rd)) (hl : ∀ id ∈ rd, hp' id = hp id) : appE e bytes hp' nx s x = some (p, sv, u, rd) := by
  unfold appE at h ⊢
  cases hs : srcE e hp x with
  | none => simp [hs] at h
  | some q =>
    obtain ⟨p0, ys, rd0⟩ := q
    simp only [hs] at h
    cases s with
    | row id ver len =>
      simp only at h
      cases hq : hp id with
      | none => simp [hq] at h
      | some hb =>
        cases hb with
        | var cs => simp [hq] at h
        | row e' ver' xs =>
          simp only [hq, Option.some.injEq, Prod.mk.injEq] at h
          obtain ⟨rfl, rfl, rfl, rfl⟩ := h
          have h1 : hp' id = hp id := hl id (by simp)
          rw [srcE_local hs (fun i hi => hl i (by simp [hi]))]
          simp [h1, hq]
    | rv r =>
      cases r with
      | nilsl =>
        simp only [Option.some.injEq, Prod.mk.injEq] at h
        obtain ⟨rfl, rfl, rfl, rfl⟩ := h
        rw [srcE_local hs hl]
      | _ => cases h
    | _ => cases h

theorem slcC_local {e : Nat} {s : SV} {l k : Option Int} (h : slcC e hp s l k = some (p, sv, u, rd)) (hl : ∀ id ∈ rd, hp' id = hp id) : slcC e hp' s l k = some (p, sv, u, rd) := by
  cases s with
  | row id ver len =>
    have : hp' id = hp id := by
      simp only [slcC] at h
      split at h
      · simp at h; exact hl id (by simp [← h.2.2.2])
      · cases h
    simpa only [slcC, this] using h
  | rv r => cases r <;> exact h
  | _ => exact h

theorem eqniloE_local {neg : Bool} {k : Nat} {s : SV} (h : eqniloE neg k hp s = some (p, sv, u, rd)) (hl : ∀ id ∈ rd, hp' id = hp id) : eqniloE neg k hp' s = some (p, sv, u, rd) := by
  have key : ∀ {p b rd}, isNilO k hp s = some (p, b, rd) → (∀ id ∈ rd, hp' id = hp id) → isNilO k hp' s = some (p, b, rd) := fun {p b rd} h hl => by
    unfold isNilO at h ⊢
    split at h
    · cases s with
      | row id ver len =>
        have : hp' id = hp id := by
          simp only [isNilSl] at h
          split at h
          · simp at h; exact hl id (by simp [← h.2.2])
          · cases h
        simpa only [isNilSl, this] using h
      | rv r => cases r <;> exact h
      | _ => exact h
    · exact h
    · exact h
  unfold eqniloE at h ⊢
  split at h
  · rename_i hn
    cases h
    rw [key hn hl]
  · cases h

/-- The plain operations look at 'rd' alone. -/
theorem opE_local {ao : AO} {ss : List SV} {nx : Nat} (h : opE ao ss hp nx = some (p, sv, u, rd)) (hl : ∀ id ∈ rd, hp' id = hp id) : opE ao ss hp' nx = some (p, sv, u, rd) := by
  have l1 : ∀ (f g : SV → XR), (∀ s, f s = some (p, sv, u, rd) → g s = some (p, sv, u, rd)) → o1 f ss = some (p, sv, u, rd) → o1 g ss = some (p, sv, u, rd) := fun f g hfg ho => by
    unfold o1 at ho ⊢
    split at ho
    · exact hfg _ ho
    · cases ho
  have l2 : ∀ (f g : SV → SV → XR), (∀ s t, f s t = some (p, sv, u, rd) → g s t = some (p, sv, u, rd)) → o2 f ss = some (p, sv, u, rd) → o2 g ss = some (p, sv, u, rd) := fun f g hfg ho => by
    unfold o2 at ho ⊢
    split at ho
    · exact hfg _ _ ho
    · cases ho
  have li : ∀ (f g : SV → Int → XR), (∀ s t, f s t = some (p, sv, u, rd) → g s t = some (p, sv, u, rd)) → ∀ s t, ix2 f s t = some (p, sv, u, rd) → ix2 g s t = some (p, sv, u, rd) := fun f g hfg s t ho => by
    unfold ix2 at ho ⊢
    split at ho
    · exact hfg _ _ ho
    · cases ho
  cases ao <;> simp only [opE] at h ⊢ <;> first
    | exact h
    | exact l1 _ _ (fun s => fun h => loadE_local h hl) h
    | exact l2 _ _ (fun s t => fun h => storeE_local h hl) h
    | exact l1 _ _ (fun s => fun h => fldE_local h hl) h
    | exact l2 _ _ (li _ _ (fun s t => fun h => ixsE_local h hl)) h
    | exact l2 _ _ (li _ _ (fun s t => fun h => ixaE_local h hl)) h
    | exact l1 _ _ (fun s => fun h => lenE_local h hl) h
    | exact l1 _ _ (fun s => fun h => eqniloE_local h hl) h
    | exact l2 _ _ (fun s t => fun h => appE_local h hl) h
    | skip
  · refine l1 _ _ (fun s h => ?_) h
    unfold nilchkE at h ⊢
    split at h
    · rename_i hn
      cases h
      rw [isNil_local hn hl]
    · cases h
  · refine l1 _ _ (fun s h => ?_) h
    unfold eqnilE at h ⊢
    split at h
    · rename_i hn
      cases h
      rw [isNil_local hn hl]
    · cases h
  · unfold slcE at h ⊢
    split at h
    · split at h
      · exact slcC_local h hl
      · cases h
    · cases h
end

/-- What a plain operation writes is new, or what it looked at; what it looks at is there. -/
def UR (hp : Hp) (nx : Nat) (u : Option (Nat × HB)) (rd : List Nat) : Prop := (∀ q, u = some q → q.1 = nx ∨ q.1 ∈ rd) ∧ ∀ id ∈ rd, (hp id).isSome = true

theorem isNil_ur {hp : Hp} {nx : Nat} {s : SV} {p : Prop} {b : Bool} {rd : List Nat} (h : isNilSV hp s = some (p, b, rd)) : UR hp nx none rd := by
  unfold isNilSV at h
  repeat' split at h
  all_goals first | (cases h; done) | (cases h; simp [UR, *])

theorem srcE_ur {hp : Hp} {nx e : Nat} {s : SV} {p : Prop} {ys : List (List SV)} {rd : List Nat} (h : srcE e hp s = some (p, ys, rd)) : UR hp nx none rd := by
  unfold srcE at h
  repeat' split at h
  all_goals first | (cases h; done) | (cases h; simp [UR, *])

theorem opE_ur {ao : AO} {ss : List SV} {hp : Hp} {nx : Nat} {p : Prop} {sv : SV} {u : Option (Nat × HB)} {rd : List Nat} (h : opE ao ss hp nx = some (p, sv, u, rd)) : UR hp nx u rd := by
  cases ao <;> simp only [opE] at h <;> (try unfold o1 at h) <;> (try unfold o2 at h)
  case nilchk =>
    split at h
    · unfold nilchkE at h
      split at h
      · rename_i hn; cases h; exact isNil_ur hn
      · cases h
    · cases h
  case eqnil =>
    split at h
    · unfold eqnilE at h
      split at h
      · rename_i hn; cases h; exact isNil_ur hn
      · cases h
    · cases h
  case eqnilo =>
    split at h
    · unfold eqniloE at h
      split at h
      · rename_i hn
        cases h
        unfold isNilO isNilSl isNilFn isNilIf at hn
        repeat' split at hn
        all_goals first | (cases hn; done) | (cases hn; simp [UR, *])
      · cases h
    · cases h
  case app =>
    split at h
    · unfold appE at h
      split at h
      · cases h
      · rename_i hs
        have h1 := srcE_ur (nx := nx) hs
        repeat' split at h
        all_goals first | (cases h; done) | skip
        · cases h; exact ⟨fun q hq => by cases hq; exact .inl rfl, h1.2⟩
        · rename_i hq
          cases h
          refine ⟨fun q hq => by cases hq; exact .inr (by simp), fun id hid => ?_⟩
          rcases List.mem_cons.1 hid with rfl | hid
          · simp [hq]
          · exact h1.2 id hid
    · cases h
  case slc =>
    unfold slcE at h
    repeat' split at h
    all_goals first | (cases h; done) | skip
    unfold slcC at h
    repeat' split at h
    all_goals first | (cases h; done) | (cases h; simp [UR, *])
  all_goals
    first
    | (cases h; done)
    | (simp only [pickE, allocE, boxE, buildE, bslE, loadE, storeE, ibinE, ishfE, eqbE, notE, negE, cviE, mkslE, fldE, fldvE, ixsE, ixaE, ixvE, ix2, lenE, lensE, mxE, mnE, extE, eqsE, eqsF, sbinE, tasE, tasF] at h
       repeat' split at h
       all_goals first | (cases h; done) | (cases h; simp [UR, *]))
    | (repeat' split at h
       all_goals first | (cases h; done) | (cases h; simp [UR, *]))

theorem opS_plain {P : Program} {o : Oper} {ao : AO} {xs0 : List Operand} (hc : compOp P o.op = some (ao, xs0)) {args : List SV} {hp0 : Hp} {nx : Nat} {p : Prop} {sv : SV} {u : Option (Nat × HB)} {rd : List Nat}
    (hE : opE ao args hp0 nx = some (p, sv, u, rd)) (hp' : p) (hfr : hp0 nx = none) : OpS P o args (rd.filterMap fun id => (hp0 id).map fun hb => (id, hb)) (uList u) sv := by
  intro C hp w rho a next Q ao' xs hcx hpre hnew R A hk
  rw [hc] at hcx; cases hcx
  have ur := opE_ur hE
  have hag : ∀ id ∈ rd, hp id = hp0 id := fun id hid => by
    have h1 := ur.2 id hid
    cases hq : hp0 id with
    | none => simp [hq] at h1
    | some hb => exact hpre (id, hb) (List.mem_filterMap.2 ⟨id, hid, by simp [hq]⟩)
  have hE' := opE_local hE hag
  obtain ⟨n, v, w', rho', h1, h2, h3, h4⟩ := op_sound hc R a A (fun hb hu => by
    subst hu
    rcases hnew (nx, hb) (by simp [uList]) with ⟨hb', hm⟩ | h
    · obtain ⟨id, _, hid⟩ := List.mem_filterMap.1 hm
      cases hq : hp0 id with
      | none => simp [hq] at hid
      | some hb2 => simp [hq] at hid; rw [hid.1] at hq; rw [hfr] at hq; cases hq
    · exact h) hE' hp'
  unfold Oper.wp
  rw [h1]
  rw [← upl_uList] at h3 h4
  have := hk v w' rho' h3 h4
  rcases h2 with rfl | ⟨rfl, rfl⟩
  · exact this
  · exact this


/-- The function that a method's name means of a value of type t; with a value's method of a pointer: what is to be loaded. -/
def invF (P : Program) (t : TypeId) (name : String) : Option (FuncId × Option (Nat × Bool)) := match P.info? t with
  | some i => match i.methods.find? (·.name == name) with
    | some m => if m.path.isEmpty then match m.func, P.underlying t with
      | some (f, true), some (.pointer _) => some (f, none)
      | some (f, false), some (.pointer el) => match szT P el, aggT P el with
        | some n, some agg => some (f, some (n, agg))
        | _, _ => none
      | some (f, false), some _ => some (f, none)
      | _, _ => none
      else none
    | none => none
  | none => none

theorem comp_inv {P : Program} {op : Op} {name : String} {xs : List Operand} (hc : compOp P op = some (.inv name, xs)) : ∃ (c : Call) (x : Operand), op = .call c ∧ c.callee = .invoke x name ∧ xs = x :: c.args.toList := by
  cases op with
  | call c =>
    obtain ⟨callee, args, argTypes⟩ := c
    cases callee with
    | value g => cases g <;> cases hc
    | invoke r n => cases hc; exact ⟨_, _, rfl, rfl, rfl⟩
    | builtin b => cases b <;> unfold compOp at hc <;> (try dsimp only at hc) <;> (try (repeat' split at hc)) <;> first | (cases hc; done) | contradiction
  | _ => unfold compOp at hc; (try dsimp only at hc); (try unfold compBin at hc); (try (repeat' split at hc)) <;> first | (cases hc; done) | contradiction

theorem ifcOf_ok {w : World} {ok : Nat → Prop} {rho : Nat → Option Nat} {hp : Hp} {s : SV} {v : Value} (hv : Rp w ok rho hp s v) {t : TypeId} {x : SV} (h : ifcOf s = some (t, x)) : ∃ y, v = .iface t y ∧ Rp w ok rho hp x y := by
  unfold ifcOf at h
  split at h
  · cases h; cases hv with | ifc _ _ y h => exact ⟨y, rfl, h⟩
  · cases h; cases hv with | rv _ _ hr => cases hr with | ifc _ _ y h => exact ⟨y, rfl, .rv _ _ h⟩
  · cases h

theorem run_wrapChk {P : Program} (ats : Array TypeId) (ty : TypeId) (a : Addr) (s m : ByteArray) (w : World) : (Builtin.ssaWrapNilChk_ ats ty #[.pointer (some a), .string s, .string m]).run P w = .ok (.pointer (some a)) w := rfl

def ldOK (hp : Hp) (x y : SV) : Option (Nat × Bool) → Prop
  | none => y = x
  | some (n, agg) => ∃ p u rd, loadE n agg hp x = some (p, y, u, rd) ∧ p

theorem run_method {P : Program} {t : TypeId} {name : String} {f : FuncId} {ld : Option (Nat × Bool)} (h : invF P t name = some (f, ld)) {v y : Value} {w : World} (hl : match ld with
    | none => y = v
    | some (n, agg) => ∃ el a, P.underlying t = some (.pointer el) ∧ v = .pointer (some a) ∧ (loadVar el a).run P w = .ok y w) : ∀ fuel, (method (fuel + 1) t v name).run P w = .ok (f, y) w := by
  intro fuel
  unfold invF at h
  split at h
  · rename_i i hi
    split at h
    · rename_i m hm
      split at h
      · rename_i hp
        have hpath : m.path.toList = [] := by
          have : m.path = #[] := by simpa using hp
          rw [this]
        have hti : (typeInfo t).run P w = .ok i w := run_typeInfo w hi
        unfold method
        simp only [Sem.run_bind, hti, Result.andThen_ok, hm]
        split at h
        · rename_i f0 el hf hu
          cases h
          subst hl
          simp [hf, hpath, follow, receiverAt, run_underlying hu, Place.get]
        · rename_i f0 el hf hu
          split at h
          · rename_i n agg hn ha
            cases h
            obtain ⟨el', a, hu', rfl, hld⟩ := hl
            rw [hu] at hu'; cases hu'
            simp only [hf, hpath, follow, Sem.run_pure, Result.andThen_ok, hp, if_true, receiverAt, Sem.run_bind, run_underlying hu, Place.get, strVal, run_wrapChk, asAddr, hld]
          · cases h
        · rename_i f0 d hnp hf hu
          cases h
          subst hl
          cases d <;> first | (exact absurd rfl (hnp _)) | simp [hf, hpath, follow, receiverAt, run_underlying hu, Place.get]
        · cases h
      · cases h
    · cases h
  · cases h

theorem opS_inv {P : Program} {o : Oper} {name : String} {s y : SV} {t : TypeId} {x : SV} {args : List SV} {f : FuncId} {ld : Option (Nat × Bool)} {pre us : List (Nat × HB)} {sv : SV} {xs0 : List Operand} (hc : compOp P o.op = some (.inv name, xs0)) (hi : ifcOf s = some (t, x)) (hf : invF P t name = some (f, ld))
    (hl : ∀ hp, PreOK hp pre → ldOK hp x y ld) {pre0 : List (Nat × HB)} (hsub : ∀ q ∈ pre0, q ∈ pre) (h : CallR P f (y :: args) pre0 us sv) (hus : ∀ (C : Ctx) hp, NewOK C hp pre us → PreOK hp pre → NewOK C hp pre0 us) : OpS P o (s :: args) pre us sv := by
  intro C hp w rho a next Q ao xs hcx hpre hnew R A hk
  rw [hc] at hcx; cases hcx
  obtain ⟨c, r, hop, hcal, rfl⟩ := comp_inv hc
  cases A with
  | cons hs A =>
    obtain ⟨v, hv, hx⟩ := ifcOf_ok hs hi
    have hy : ∃ yv, (∀ fuel, (method (fuel + 1) t v name).run P w = .ok (f, yv) w) ∧ Rp w (okk C rho hp) rho hp y yv := by
      have hlp := hl hp hpre
      cases ld with
      | none => have hlp' : y = x := hlp
                subst hlp'; exact ⟨v, run_method hf rfl, hx⟩
      | some q =>
        obtain ⟨n, agg⟩ := q
        obtain ⟨p, u, rd, hE, hp'⟩ := hlp
        have hsz : ∃ el, P.underlying t = some (.pointer el) ∧ szT P el = some n ∧ aggT P el = some agg := by
          unfold invF at hf
          split at hf
          · split at hf
            · split at hf
              · split at hf
                · cases hf
                · rename_i hu
                  split at hf
                  · rename_i hn ha; cases hf; exact ⟨_, hu, hn, ha⟩
                  · cases hf
                · cases hf
                · cases hf
              · cases hf
            · cases hf
          · cases hf
        obtain ⟨el, hu, hn, ha⟩ := hsz
        obtain ⟨_, yv, hr, hry⟩ := load_good R hn ha hx hE hp'
        have hva : ∃ ad, v = .pointer (some ad) := by
          cases v with
          | pointer a0 =>
            cases a0 with
            | some a0 => exact ⟨a0, rfl⟩
            | none => simp [Instr.loadAt, Instr.sureAddr, stuck, Result.andThen] at hr
          | _ => simp [Instr.loadAt, Instr.sureAddr, stuck, Result.andThen] at hr
        obtain ⟨ad, rfl⟩ := hva
        exact ⟨yv, run_method hf ⟨el, ad, hu, rfl, hr⟩, hry⟩
    obtain ⟨yv, hm, hry⟩ := hy
    have hrun : (execOp a.eval o).run P w = .ok (.enter f (yv :: c.args.toList.map a.eval).toArray) w := by
      have he : #[yv] ++ (c.args.map a.eval) = (yv :: c.args.toList.map a.eval).toArray := by apply Array.ext'; simp
      have hm' : (method (P.types.size + Made.depth) t v name).run P w = .ok (f, yv) w := hm (P.types.size + 99)
      have hex : (#[a.eval r] ++ c.args.map a.eval).extract 1 (#[a.eval r] ++ c.args.map a.eval).size = c.args.map a.eval := by
        apply Array.ext'
        rw [Array.toList_extract]
        simp [List.extract, List.take_of_length_le]
      simp only [execOp, hop, resolve, hcal, Sem.run_bind, Sem.run_pure, Result.andThen_ok, invoke]
      have h0 : (#[a.eval r] ++ c.args.map a.eval)[0]? = some (a.eval r) := by rw [Array.getElem?_append_left (by simp)]; rfl
      rw [hv] at h0 hex
      simp only [hv, h0, hex, callMethod, Sem.run_bind, run_program, Result.andThen_ok, hm', run_callFunc h.1, he]
    unfold Oper.wp
    rw [hrun, Oper.upon_enter]
    refine (h.2 C hp w rho (yv :: c.args.toList.map a.eval) (fun q hq => hpre q (hsub q hq)) (hus C hp hnew hpre) R (by simp [A.length]) (fun j s hj => ?_)).mono ?_
    · cases j with
      | zero => simp at hj; subst hj; exact hry
      | succ j => simpa using A.get j s (by simpa using hj)
    · rintro e w' ⟨v, rho', rfl, h1, h2⟩
      exact hk v w' rho' h1 h2
end Go.Eng
