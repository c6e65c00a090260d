/- The contract of a function from the evaluation of its code. -/
import Derived.Test.YtjiipbccpfjefaaEngT
set_option linter.unusedSimpArgs false
set_option linter.unusedVariables false
namespace Go.Eng
open Go

/-- A result: a slot, or what lies behind a slot. -/
inductive RR where
  | t (n : Nat)
  | c (a n : Nat) (agg : Bool)
  deriving DecidableEq

def compRes (P : Program) : List ResultVar → Option (List RR)
  | [] => some []
  | .tmp t :: r => match compRes P r with
    | some l => some (.t t :: l)
    | none => none
  | .cell a t :: r => match szT P t, aggT P t, compRes P r with
    | some n, some agg, some l => some (.c a n agg :: l)
    | _, _, _ => none

def resL (en : Nat → SV) (hp : Hp) : List RR → Option (Prop × List SV)
  | [] => some (True, [])
  | .t n :: r => match resL en hp r with
    | some (p, xs) => some (p, en n :: xs)
    | none => none
  | .c a n agg :: r => match loadE n agg hp (en a), resL en hp r with
    | some (q, x, _, _), some (p, xs) => some (q ∧ p, x :: xs)
    | _, _ => none

def resT : List SV → SV
  | [x] => x
  | xs => .tup xs

def mkEnv : Nat → List SV → List (Nat × SV)
  | _, [] => []
  | n, x :: r => (n, x) :: mkEnv (n + 1) r

theorem lk_mkEnv : ∀ (xs : List SV) (n m : Nat), lk (mkEnv n xs) m = if n ≤ m then (xs[m - n]?).getD .dead else .dead
  | [], n, m => by simp [mkEnv, lk]
  | x :: r, n, m => by
    unfold mkEnv lk
    by_cases h : n = m
    · subst h; simp
    · rw [if_neg h, lk_mkEnv r (n + 1) m]
      by_cases h1 : n + 1 ≤ m
      · rw [if_pos h1, if_pos (by omega)]
        rw [show m - n = (m - (n + 1)) + 1 by omega, List.getElem?_cons_succ]
      · rw [if_neg h1, if_neg (by omega)]

/-- How a call may end. -/
structure Fin (σ : List Nat) (pre us : List (Nat × HB)) (rs : List RR) (sv : SV) (env : List (Nat × SV)) (h : List (Option HB)) (τ : Nat → Option Nat) : Prop where
  inj : ∀ i j id, τ i = some id → τ j = some id → i = j
  old : ∀ (j id : Nat), σ[j]? = some id → τ j = some id
  new : ∀ j id, τ j = some id → σ.length ≤ j → id ∈ us.map (·.1) ∧ ∀ q ∈ pre, q.1 ≠ id
  has : ∀ j id, τ j = some id → ∃ hb hb', hget h j = some hb ∧ RnH τ (hget h) hb hb' ∧ ∀ hp, PreOK hp pre → upl hp us id = some hb'
  all : ∀ q ∈ us, ∃ j, τ j = some q.1
  res : ∃ p xs, resL (lk env) (hget h) rs = some (p, xs) ∧ p ∧ Rn τ (hget h) (resT xs) sv

theorem upl_or {hp : Hp} : ∀ {us : List (Nat × HB)} {id : Nat}, id ∉ us.map (·.1) → upl hp us id = hp id
  | us, id, h => upl_not (fun q hq he => h (List.mem_map.2 ⟨q, hq, he⟩))

def resV (vs : List Value) : Value := match vs with
  | [v] => v
  | vs => .tuple vs.toArray

theorem rp_resT {w : World} {ok : Nat → Prop} {rho : Nat → Option Nat} {hp : Hp} {xs : List SV} {vs : List Value} (hl : vs.length = xs.length) (h : ∀ (j : Nat) (x : SV), xs[j]? = some x → Rp w ok rho hp x (vs.getD j undef)) : Rp w ok rho hp (resT xs) (resV vs) := by
  match xs, vs with
  | [], [] => exact .tup [] [] rfl h
  | [x], [v] => exact h 0 x rfl
  | x :: y :: r, u :: v :: s => exact .tup _ _ hl h

theorem load_addr {P : Program} {t : TypeId} {v x : Value} {w w' : World} (h : (Instr.loadAt t v).run P w = .ok x w') : (do loadVar t (← asAddr v) : Sem Value).run P w = .ok x w' := by
  cases v with
  | pointer a =>
    cases a with
    | some a => exact h
    | none => simp [Instr.loadAt, Instr.sureAddr, stuck, Result.andThen] at h
  | _ => simp [Instr.loadAt, Instr.sureAddr, stuck, Result.andThen] at h

theorem run_results {P : Program} {C : Ctx} {hp : Hp} {w : World} {rho : Nat → Option Nat} (R : RepH C hp w rho) {en : Nat → SV} {tmps : Array Value} (he : ∀ n, Rp w (okk C rho hp) rho hp (en n) (tmps.getD n undef)) {fn : Func} {rs : List RR} (h : compRes P fn.results.toList = some rs) {p : Prop} {xs : List SV} (hr : resL en hp rs = some (p, xs)) (hp' : p) :
    ∃ vs, (results fn tmps).run P w = .ok (resV vs) w ∧ Rp w (okk C rho hp) rho hp (resT xs) (resV vs) := by
  have key : ∀ (l : List ResultVar) (rs : List RR) (p : Prop) (xs : List SV), compRes P l = some rs → resL en hp rs = some (p, xs) → p → ∃ vs, vs.length = xs.length ∧ (∀ (j : Nat) (x : SV), xs[j]? = some x → Rp w (okk C rho hp) rho hp x (vs.getD j undef)) ∧ (l.mapM fun r => (match r with
      | .tmp t => pure (tmps.getD t undef)
      | .cell a t => do loadVar t (← asAddr (tmps.getD a undef)) : Sem Value)).run P w = .ok vs w := by
    intro l
    induction l with
    | nil => intro rs p xs h hr hp; cases h; cases hr; exact ⟨[], rfl, fun j x hx => by simp at hx, rfl⟩
    | cons x r ih =>
      intro rs p xs h hr hp
      cases x with
      | tmp t =>
        unfold compRes at h
        split at h
        · rename_i l hl
          cases h
          unfold resL at hr
          split at hr
          · rename_i p0 xs0 hr0
            cases hr
            obtain ⟨vs, h1, h2, h3⟩ := ih l p xs0 hl hr0 hp
            refine ⟨tmps.getD t undef :: vs, by simp [h1], fun j x hx => ?_, ?_⟩
            · cases j with
              | zero => simp at hx; subst hx; exact he t
              | succ j => exact h2 j x (by simpa using hx)
            · simp only [List.mapM_cons, Sem.run_bind, Sem.run_pure, h3, Result.andThen]
          · cases hr
        · cases h
      | cell a t =>
        unfold compRes at h
        split at h
        · rename_i n agg l hs ha hl
          cases h
          unfold resL at hr
          split at hr
          · rename_i q x u rd p0 xs0 hE hr0
            cases hr
            obtain ⟨vs, h1, h2, h3⟩ := ih l p0 xs0 hl hr0 hp.2
            obtain ⟨_, y, hy1, hy2⟩ := load_good R hs ha (he a) hE hp.1
            refine ⟨y :: vs, by simp [h1], fun j x hx => ?_, ?_⟩
            · cases j with
              | zero => simp at hx; subst hx; exact hy2
              | succ j => exact h2 j x (by simpa using hx)
            · have := load_addr hy1
              rw [List.mapM_cons, Sem.run_bind]
              refine (congrArg (fun r => Result.andThen r _) this).trans ?_
              simp only [Result.andThen, Sem.run_bind, h3, Sem.run_pure]
          · cases hr
        · cases h
  obtain ⟨vs, h1, h2, h3⟩ := key _ _ _ _ h hr hp'
  have hm : (fn.results.mapM fun r => (match r with
      | .tmp t => pure (tmps.getD t undef)
      | .cell a t => do loadVar t (← asAddr (tmps.getD a undef)) : Sem Value)).run P w = .ok vs.toArray w := by
    rw [Array.mapM_eq_mapM_toList, Sem.run_map, h3]
    rfl
  refine ⟨vs, ?_, rp_resT h1 h2⟩
  unfold results
  rw [Sem.run_bind]
  refine (congrArg (fun r => Result.andThen r _) hm).trans ?_
  show (pure _ : Sem Value).run P w = _
  rw [Sem.run_pure]
  match vs with
  | [] => rfl
  | [t] => rfl
  | t :: u :: r => rfl

section
variable {P : Program} {C : Ctx} {hp : Hp} {w : World} {rho : Nat → Option Nat}

/-- The context of the call: what the caller has becomes what is only read, but for the things handed in. -/
def inner (C : Ctx) (rho : Nat → Option Nat) (hp : Hp) (w : World) (N : Nat) (σ : List Nat) (hs0 : List (Option HB)) : Ctx :=
  ⟨w, okk C rho hp, fun b => ∃ (j : Nat) (id : Nat), σ[j]? = some id ∧ rho id = some b, N, fun j => (σ[j]?).bind rho, hget hs0⟩

theorem hget_some {hs : List (Option HB)} {j : Nat} {hb : HB} : hget hs j = some hb ↔ hs[j]? = some (some hb) := by
  unfold hget
  cases h : hs[j]? with
  | none => simp
  | some x => simp

theorem enter_ok (R : RepH C hp w rho) {N : Nat} {σ : List Nat} {hs0 : List (Option HB)} {pre : List (Nat × HB)} (hpre : PreOK hp pre) (hl : hs0.length = σ.length) (hinj : ∀ (i j id : Nat), σ[i]? = some id → σ[j]? = some id → i = j)
    (hσ : ∀ (j id : Nat), σ[j]? = some id → ∃ hb hb', hs0[j]? = some (some hb) ∧ (id, hb') ∈ pre ∧ BkH (fun j => σ[j]?) hb hb') :
    RepH (inner C rho hp w N σ hs0) (hget hs0) w (fun j => (σ[j]?).bind rho) ∧ (∀ b, okk C rho hp b → okk (inner C rho hp w N σ hs0) (fun j => (σ[j]?).bind rho) (hget hs0) b) ∧
    (∀ {x y : SV} {v : Value}, Rp w (okk C rho hp) rho hp y v → Bk (fun j => σ[j]?) x y → Rp w (okk (inner C rho hp w N σ hs0) (fun j => (σ[j]?).bind rho) (hget hs0)) (fun j => (σ[j]?).bind rho) (hget hs0) x v) := by
  have at_ : ∀ j hb, hget hs0 j = some hb → ∃ id hb', σ[j]? = some id ∧ hp id = some hb' ∧ BkH (fun j => σ[j]?) hb hb' := fun j hb h => by
    rw [hget_some] at h
    have hlt := (List.getElem?_eq_some_iff.1 h).1
    have hid := List.getElem?_eq_getElem (l := σ) (i := j) (by omega)
    obtain ⟨hb0, hb', h1, h2, h3⟩ := hσ j _ hid
    rw [h] at h1; cases h1
    exact ⟨_, hb', hid, hpre _ h2, h3⟩
  have hro : ∀ b, okk C rho hp b → okk (inner C rho hp w N σ hs0) (fun j => (σ[j]?).bind rho) (hget hs0) b := fun b hb => by
    refine ⟨.inl hb, fun j hj => ?_⟩
    obtain ⟨x, hx⟩ := Option.isSome_iff_exists.1 hj
    obtain ⟨id, hb', h1, h2, h3⟩ := at_ j x hx
    simp only [h1, Option.bind_some]
    exact hb.2 id (by simp [h2])
  have hs : ∀ (j id : Nat), σ[j]? = some id → (σ[j]?).bind rho = rho id ∧ ((hp id).isSome = true → (hget hs0 j).isSome = true) ∧ (∀ cs, hget hs0 j = some (.var cs) → ∃ cs', hp id = some (.var cs')) ∧ ∀ e ver xs, hget hs0 j = some (.row e ver xs) → ∃ xs', hp id = some (.row e ver xs') := fun j id h => by
    obtain ⟨hb0, hb', h1, h2, h3⟩ := hσ j id h
    refine ⟨by rw [h]; rfl, fun _ => by rw [hget_some.2 h1]; rfl, fun cs hc => ?_, fun e ver xs hc => ?_⟩
    · rw [hget_some.2 h1] at hc; cases hc
      cases h3 with
      | var _ ys _ => exact ⟨ys, hpre _ h2⟩
    · rw [hget_some.2 h1] at hc; cases hc
      cases h3 with
      | row _ _ _ ys _ _ => exact ⟨ys, hpre _ h2⟩
  refine ⟨⟨fun j hb h => ?_, fun i j b h1 h2 h3 h4 => ?_, fun j b h1 h2 => ?_, ⟨rfl, rfl, rfl, Nat.le_refl _, fun b _ _ => rfl⟩, fun j hb hb0 h1 h2 => ?_⟩, hro, fun hr hb => hr.back hro hs hb⟩
  · obtain ⟨id, hb', h1, h2, h3⟩ := at_ j hb h
    exact (R.heap id hb' h2).back hro hs h1 h3
  · obtain ⟨x, hx⟩ := Option.isSome_iff_exists.1 h1
    obtain ⟨y, hy⟩ := Option.isSome_iff_exists.1 h2
    obtain ⟨id, _, a1, a2, _⟩ := at_ i x hx
    obtain ⟨id', _, b1, b2, _⟩ := at_ j y hy
    simp only [a1, b1, Option.bind_some] at h3 h4
    obtain rfl := R.inj id id' b (by simp [a2]) (by simp [b2]) h3 h4
    exact hinj i j id a1 b1
  · obtain ⟨x, hx⟩ := Option.isSome_iff_exists.1 h1
    obtain ⟨id, _, a1, a2, _⟩ := at_ j x hx
    simp only [a1, Option.bind_some] at h2
    exact ⟨.inl ⟨h1, by simp only [inner, a1, Option.bind_some]; exact h2, j, id, a1, h2⟩, (R.own id b (by simp [a2]) h2).2⟩
  · have h2' : hget hs0 j = some hb0 := h2
    rw [h1] at h2'; cases h2'
    exact EvoHB.refl _ _ _

theorem leave_ok (R : RepH C hp w rho) {N : Nat} {σ : List Nat} {hs0 : List (Option HB)} {pre us : List (Nat × HB)} (hpre : PreOK hp pre) (hnew : NewOK C hp pre us)
    (hσ : ∀ (j id : Nat), σ[j]? = some id → ∃ hb hb', hs0[j]? = some (some hb) ∧ (id, hb') ∈ pre ∧ BkH (fun j => σ[j]?) hb hb')
    {w' : World} {rho' : Nat → Option Nat} {h : List (Option HB)} (R' : RepH (inner C rho hp w N σ hs0) (hget h) w' rho') {rs : List RR} {sv : SV} {env : List (Nat × SV)} {τ : Nat → Option Nat} (F : Fin σ pre us rs sv env h τ) :
    ∃ rhoF, Step C hp (upl hp us) w w' rho rhoF ∧ ∀ (x y : SV) (v : Value), Rp w' (okk (inner C rho hp w N σ hs0) rho' (hget h)) rho' (hget h) x v → Rn τ (hget h) x y → Rp w' (okk C rhoF (upl hp us)) rhoF (upl hp us) y v := by
  classical
  let rhoF : Nat → Option Nat := fun id => if h : ∃ j, τ j = some id then rho' h.choose else rho id
  have rT : ∀ j id, τ j = some id → rhoF id = rho' j := fun j id hj => by
    have hex : ∃ j, τ j = some id := ⟨j, hj⟩
    show (if h : ∃ j, τ j = some id then rho' h.choose else rho id) = _
    rw [dif_pos hex, F.inj _ _ _ hex.choose_spec hj]
  have rN : ∀ id, (¬ ∃ j, τ j = some id) → rhoF id = rho id := fun id hj => by
    show (if h : ∃ j, τ j = some id then rho' h.choose else rho id) = _
    rw [dif_neg hj]
  have hT : ∀ j id, τ j = some id → ∃ hb hb', hget h j = some hb ∧ RnH τ (hget h) hb hb' ∧ upl hp us id = some hb' := fun j id hj => by
    obtain ⟨hb, hb', h1, h2, h3⟩ := F.has j id hj
    exact ⟨hb, hb', h1, h2, h3 hp hpre⟩
  have hN : ∀ id, (¬ ∃ j, τ j = some id) → upl hp us id = hp id := fun id hj => upl_not (fun q hq he => hj (by rw [← he]; exact F.all q hq))
  have hold : ∀ j id, τ j = some id → (hp id).isSome = true → σ[j]? = some id := fun j id hj hs => by
    by_cases hlt : j < σ.length
    · have hid := List.getElem?_eq_getElem hlt
      have := F.old j _ hid
      rw [hj] at this; cases this
      exact hid
    · obtain ⟨hu, hq⟩ := F.new j id hj (by omega)
      obtain ⟨q, hq1, hq2⟩ := List.mem_map.1 hu
      rcases hnew q hq1 with ⟨hb, hm⟩ | ⟨hn, _⟩
      · exact absurd hq2 (hq (q.1, hb) hm)
      · rw [hq2] at hn; rw [hn] at hs; cases hs
  have hnone : ∀ j id, τ j = some id → hp id = none → C.h0 id = none := fun j id hj hn => by
    by_cases hlt : j < σ.length
    · have hid := List.getElem?_eq_getElem hlt
      have := F.old j _ hid
      rw [hj] at this; cases this
      obtain ⟨hb, hb', _, h2, _⟩ := hσ j _ hid
      rw [hpre _ h2] at hn; cases hn
    · obtain ⟨hu, hq⟩ := F.new j id hj (by omega)
      obtain ⟨q, hq1, hq2⟩ := List.mem_map.1 hu
      rcases hnew q hq1 with ⟨hb, hm⟩ | ⟨_, hn⟩
      · exact absurd hq2 (hq (q.1, hb) hm)
      · rw [← hq2]; exact hn
  have hsz : w.heap.size ≤ w'.heap.size := R'.fr.size
  have hblk : ∀ b, b < w.heap.size → (∀ j id, σ[j]? = some id → rho id ≠ some b) → w'.heap[b]? = w.heap[b]? := fun b hb hn => R'.fr.block b hb (fun ⟨j, id, h1, h2⟩ => hn j id h1 h2)
  have hin : ∀ (j id : Nat), σ[j]? = some id → (hp id).isSome = true := fun j id hj => by
    obtain ⟨hb, hb', _, h2, _⟩ := hσ j id hj
    rw [hpre _ h2]; rfl
  have hjs : ∀ j id, τ j = some id → (hget h j).isSome = true := fun j id hj => by
    obtain ⟨hb, _, h1, _⟩ := hT j id hj
    rw [h1]; rfl
  have ownT : ∀ j id b, τ j = some id → rho' j = some b → ((σ[j]? = some id ∧ rho id = some b) ∨ w.heap.size ≤ b) ∧ b < w'.heap.size := fun j id b hj hb => by
    obtain ⟨h1, h2⟩ := R'.own j b (hjs j id hj) hb
    refine ⟨?_, h2⟩
    rcases h1 with ⟨a1, a2, _⟩ | a
    · left
      have a2' : (σ[j]?).bind rho = some b := a2
      cases hid : σ[j]? with
      | none => rw [hid] at a2'; cases a2'
      | some id' =>
        rw [hid] at a2'
        have := F.old j id' hid
        rw [hj] at this; cases this
        exact ⟨rfl, a2'⟩
    · exact .inr a
  -- blocks that the caller only reads are the call's to read, and stay so
  have okIn : ∀ b, okk (inner C rho hp w N σ hs0) rho' (hget h) b → okk C rhoF (upl hp us) b := fun b hb => by
    obtain ⟨h1, h2⟩ := hb
    have hb0 : C.okE b ∨ C.w0.heap.size ≤ b := by
      rcases h1 with a | a
      · exact a.1
      · exact .inr (Nat.le_trans R.fr.size a)
    refine ⟨hb0, fun id hid he => ?_⟩
    by_cases hr : ∃ j, τ j = some id
    · obtain ⟨j, hj⟩ := hr
      rw [rT j id hj] at he
      exact h2 j (hjs j id hj) he
    · rw [hN id hr] at hid
      rw [rN id hr] at he
      rcases h1 with a | a
      · exact a.2 id hid he
      · have := (R.own id b hid he).2
        have a' : w.heap.size ≤ b := a
        omega
  have okfz : ∀ j b, τ j = none → (hget h j).isSome = true → rho' j = some b → okk C rhoF (upl hp us) b := fun j b hj hs hb => by
    have hbw : w.heap.size ≤ b := by
      rcases (R'.own j b hs hb).1 with ⟨a1, a2, _⟩ | a
      · have a2' : (σ[j]?).bind rho = some b := a2
        cases hid : σ[j]? with
        | none => rw [hid] at a2'; cases a2'
        | some id' => rw [F.old j id' hid] at hj; cases hj
      · exact a
    refine ⟨.inr (Nat.le_trans R.fr.size hbw), fun id hid he => ?_⟩
    by_cases hr : ∃ j, τ j = some id
    · obtain ⟨i, hi⟩ := hr
      rw [rT i id hi] at he
      have := R'.inj i j b (hjs i id hi) hs he hb
      subst this
      rw [hi] at hj; cases hj
    · rw [hN id hr] at hid
      rw [rN id hr] at he
      have := (R.own id b hid he).2
      omega
  have hs : ∀ j id, τ j = some id → rho' j = rhoF id ∧ ((hget h j).isSome = true → (upl hp us id).isSome = true) ∧ (∀ cs, upl hp us id = some (.var cs) → ∃ cs', hget h j = some (.var cs')) ∧ ∀ e ver xs, upl hp us id = some (.row e ver xs) → ∃ xs', hget h j = some (.row e ver xs') := fun j id hj => by
    obtain ⟨hb, hb', h1, h2, h3⟩ := hT j id hj
    refine ⟨(rT j id hj).symm, fun _ => by rw [h3]; rfl, fun cs hc => ?_, fun e ver xs hc => ?_⟩
    · rw [h3] at hc; cases hc
      cases h2 with
      | var xs _ _ => exact ⟨xs, h1⟩
    · rw [h3] at hc; cases hc
      cases h2 with
      | row _ _ xs _ _ _ => exact ⟨xs, h1⟩
  have okM : ∀ b, okk C rho hp b → b < w.heap.size → okk C rhoF (upl hp us) b ∧ w'.heap[b]? = w.heap[b]? := fun b hb hlt => by
    refine ⟨⟨hb.1, fun id hid he => ?_⟩, hblk b hlt (fun j id hj he => hb.2 id (hin j id hj) he)⟩
    by_cases hr : ∃ j, τ j = some id
    · obtain ⟨j, hj⟩ := hr
      rw [rT j id hj] at he
      rcases (ownT j id b hj he).1 with ⟨a1, a2⟩ | a
      · exact hb.2 id (hin j id a1) a2
      · omega
    · rw [hN id hr] at hid
      rw [rN id hr] at he
      exact hb.2 id hid he
  have evM : ∀ id hb, hp id = some hb → ∃ hb', upl hp us id = some hb' ∧ EvoHB w w' (rho id) (rhoF id) hb hb' := fun id hb hq => by
    by_cases hr : ∃ j, τ j = some id
    · obtain ⟨j, hj⟩ := hr
      obtain ⟨hbj, hb', h1, h2, h3⟩ := hT j id hj
      refine ⟨hb', h3, ?_⟩
      have hid := hold j id hj (by rw [hq]; rfl)
      obtain ⟨hb0, hbp, g1, g2, g3⟩ := hσ j id hid
      have := hpre _ g2
      rw [hq] at this; cases this
      have ev := R'.evo j hbj hb0 h1 (hget_some.2 g1)
      have ev' : EvoHB w w' (rho id) (rho' j) hb0 hbj := by
        have e : (inner C rho hp w N σ hs0).rho0 j = rho id := by show (σ[j]?).bind rho = _; rw [hid]; rfl
        rw [e] at ev; exact ev
      rw [rT j id hj]
      cases g3 with
      | var xs ys hb =>
        cases h2 with
        | var xs2 ys2 hf => exact ev'
        | row => exact ev'.elim
      | row e ver xs ys hl hb =>
        cases h2 with
        | var => exact ev'.elim
        | row e2 ver2 xs2 ys2 hl2 hf => exact ev'
    · refine ⟨hb, by rw [hN id hr]; exact hq, ?_⟩
      rw [rN id hr]
      cases hb with
      | var cs => rfl
      | row e ver xs =>
        refine ⟨Nat.le_refl _, fun _ => ⟨rfl, rfl, fun b hb cur t hc => ⟨cur, t, ?_, rfl⟩⟩⟩
        rw [hblk b ((R.own id b (by rw [hq]; rfl) hb).2) (fun j id' hj he => ?_)]; exact hc
        obtain rfl := R.inj id id' b (by rw [hq]; rfl) (hin j id' hj) hb he
        exact hr ⟨j, F.old j id hj⟩
  have E : Evo w w' (okk C rho hp) (okk C rhoF (upl hp us)) rho rhoF hp (upl hp us) := Evo.of okM evM
  refine ⟨rhoF, ⟨⟨fun id hb hq => ?_, fun i j b h1 h2 h3 h4 => ?_, fun id b h1 h2 => ?_, ⟨R'.fr.os.trans R.fr.os, R'.fr.tape.trans R.fr.tape, R'.fr.output.trans R.fr.output, Nat.le_trans R.fr.size hsz, fun b h1 h2 => ?_⟩, fun id hb hb0 h1 h2 => ?_⟩, E⟩, fun x y v hr hf => hr.leave okIn okfz (fun j hb hj => R'.heap j hb hj) hs hf⟩
  · by_cases hr : ∃ j, τ j = some id
    · obtain ⟨j, hj⟩ := hr
      obtain ⟨hbj, hb', h1, h2, h3⟩ := hT j id hj
      rw [hq] at h3; cases h3
      exact (R'.heap j hbj h1).leave okIn okfz (fun j hb hj => R'.heap j hb hj) hs hj h2
    · rw [hN id hr] at hq
      rcases R.heap id hb hq with ⟨a1, a2⟩ | ⟨b, cur, t, a1, a2, a3⟩
      · exact .inl ⟨(rN id hr).trans a1, a2⟩
      · refine .inr ⟨b, cur, t, (rN id hr).trans a1, ?_, a3.mono E⟩
        rw [hblk b ((R.own id b (by rw [hq]; rfl) a1).2) (fun j id' hj he => ?_)]; exact a2
        obtain rfl := R.inj id id' b (by rw [hq]; rfl) (hin j id' hj) a1 he
        exact hr ⟨j, F.old j id hj⟩
  · by_cases hi : ∃ k, τ k = some i <;> by_cases hj : ∃ k, τ k = some j
    · obtain ⟨k, hk⟩ := hi
      obtain ⟨l, hl⟩ := hj
      rw [rT k i hk] at h3
      rw [rT l j hl] at h4
      have := R'.inj k l b (hjs k i hk) (hjs l j hl) h3 h4
      subst this
      rw [hk] at hl; cases hl; rfl
    · obtain ⟨k, hk⟩ := hi
      rw [rT k i hk] at h3
      rw [rN j hj] at h4
      rw [hN j hj] at h2
      rcases (ownT k i b hk h3).1 with ⟨a1, a2⟩ | a
      · exact R.inj i j b (hin k i a1) h2 a2 h4
      · have := (R.own j b h2 h4).2; omega
    · obtain ⟨k, hk⟩ := hj
      rw [rT k j hk] at h4
      rw [rN i hi] at h3
      rw [hN i hi] at h1
      rcases (ownT k j b hk h4).1 with ⟨a1, a2⟩ | a
      · exact R.inj i j b h1 (hin k j a1) h3 a2
      · have := (R.own i b h1 h3).2; omega
    · rw [rN i hi] at h3; rw [hN i hi] at h1
      rw [rN j hj] at h4; rw [hN j hj] at h2
      exact R.inj i j b h1 h2 h3 h4
  · by_cases hr : ∃ j, τ j = some id
    · obtain ⟨j, hj⟩ := hr
      rw [rT j id hj] at h2
      obtain ⟨a, a'⟩ := ownT j id b hj h2
      refine ⟨?_, a'⟩
      rcases a with ⟨a1, a2⟩ | a
      · exact (R.own id b (hin j id a1) a2).1
      · exact .inr (Nat.le_trans R.fr.size a)
    · rw [hN id hr] at h1
      rw [rN id hr] at h2
      obtain ⟨a, a'⟩ := R.own id b h1 h2
      exact ⟨a, by omega⟩
  · rw [hblk b (by have := R.fr.size; omega) (fun j id hj he => ?_)]
    · exact R.fr.block b h1 h2
    · rcases (R.own id b (hin j id hj) he).1 with a | a
      · exact h2 a.2.2
      · omega
  · by_cases hq : ∃ hbm, hp id = some hbm
    · obtain ⟨hbm, hq⟩ := hq
      obtain ⟨hb', a1, a2⟩ := evM id hbm hq
      rw [h1] at a1; cases a1
      exact (R.evo id hbm hb0 hq h2).trans a2
    · have hn : hp id = none := by cases hq2 : hp id with
        | none => rfl
        | some x => exact absurd ⟨x, hq2⟩ hq
      by_cases hr : ∃ j, τ j = some id
      · obtain ⟨j, hj⟩ := hr
        rw [hnone j id hj hn] at h2; cases h2
      · rw [hN id hr, hn] at h1; cases h1
end

/-- A function as the engine has it: its number, its code, its results. -/
structure FnOK (P : Program) (f : FuncId) (N : Nat) (ac : AC) (rs : List RR) : Prop where
  call : callable P f = true
  ex : ∃ fn c, P.funcs[f]? = some fn ∧ fn.body = some c ∧ fn.ntmps = N ∧ comp P N c = some ac ∧ compRes P fn.results.toList = some rs

def fnCheck (P : Program) (f : FuncId) (N : Nat) (rs : List RR) : Option AC := match P.funcs[f]? with
  | some fn => if callable P f && fn.ntmps == N then match fn.body, compRes P fn.results.toList with
    | some c, some rs' => if rs' = rs then comp P N c else none
    | _, _ => none
    else none
  | none => none

theorem fnOK_of {P : Program} {f : FuncId} {N : Nat} {ac : AC} {rs : List RR} (h : fnCheck P f N rs = some ac) : FnOK P f N ac rs := by
  unfold fnCheck at h
  split at h
  · rename_i fn hf
    split at h
    · rename_i hc
      simp only [Bool.and_eq_true, beq_iff_eq] at hc
      split at h
      · rename_i c rs' hb hr
        split at h
        · rename_i he; subst he
          exact ⟨hc.1, fn, c, hf, hb, hc.2, h, hr⟩
        · cases h
      · cases h
    · cases h
  · cases h

theorem callR_of {P : Program} {f : FuncId} {N : Nat} {ac : AC} {rs : List RR} (H : FnOK P f N ac rs) {args : List SV} {pre us : List (Nat × HB)} {sv : SV} (σ : List Nat) (hs0 : List (Option HB)) (args0 : List SV)
    (hargs : args.length ≤ N) (hA : BkL (fun j => σ[j]?) args0 args) (hl : hs0.length = σ.length) (hinj : ∀ (i j id : Nat), σ[i]? = some id → σ[j]? = some id → i = j)
    (hσ : ∀ (j id : Nat), σ[j]? = some id → ∃ hb hb', hs0[j]? = some (some hb) ∧ (id, hb') ∈ pre ∧ BkH (fun j => σ[j]?) hb hb')
    (hrun : ∀ K : Ex → St → Prop, (∀ env h env' h' τ, Ent σ.length ⟨env, h⟩ ⟨env', h'⟩ → Fin σ pre us rs sv env' h' τ → K .normal ⟨env, h⟩ ∧ K .ret ⟨env, h⟩) → G P σ.length [.c ac] K (mkEnv 0 args0) hs0) : CallR P f args pre us sv := by
  obtain ⟨hcall, fn, c, hf, hb, hN, hc, hr⟩ := H
  subst hN
  refine ⟨hcall, fun C hp w rho vs hpre hnew R hvl hvs => ?_⟩
  obtain ⟨R0, hro, hbk⟩ := enter_ok R (N := fn.ntmps) hpre hl hinj hσ
  refine calls_of_wp hf hb ?_
  have hG := hrun (fun e s => (∀ id, e ≠ .exit id) ∧ ∃ s' τ, Ent σ.length s s' ∧ Fin σ pre us rs sv s'.env s'.h τ) (fun env h env' h' τ hE hF => ⟨⟨by simp, ⟨env', h'⟩, τ, hE, hF⟩, ⟨by simp, ⟨env', h'⟩, τ, hE, hF⟩⟩)
  have R1 : RepS (inner C rho hp w fn.ntmps σ hs0) σ.length ⟨mkEnv 0 args0, hs0⟩ { tmps := vs.toArray ++ Array.replicate (fn.ntmps - vs.toArray.size) undef, defers := [] } w := by
    refine ⟨⟨_, R0, fun n => ?_, ?_, rfl⟩, by rw [← hl]; exact Nat.le_refl _, fun id hid => ?_⟩
    · show Rp _ _ _ _ (lk (mkEnv 0 args0) n) _
      rw [lk_mkEnv, if_pos (Nat.zero_le _), Nat.sub_zero]
      cases hx : args0[n]? with
      | none => exact .dead _
      | some x =>
        have hlt := (List.getElem?_eq_some_iff.1 hx).1
        have hy := List.getElem?_eq_getElem (l := args) (i := n) (by have := hA.1; omega)
        have hv := hbk (hvs n _ hy) (hA.2 n x _ hx hy)
        have : (vs.toArray ++ Array.replicate (fn.ntmps - vs.toArray.size) undef).getD n undef = vs.getD n undef := by
          have hn : n < vs.length := by have := hA.1; omega
          simp [Array.getD_eq_getD_getElem?, List.getD_eq_getElem?_getD, Array.getElem?_append, hn]
        rw [this]; exact hv
    · show (vs.toArray ++ Array.replicate (fn.ntmps - vs.toArray.size) undef).size = fn.ntmps
      simp; omega
    · show hget hs0 id = none
      unfold hget
      rw [List.getElem?_eq_none (by omega)]
  refine w_sound c ac _ _ _ _ _ hc hG R1 (fun e s a w' hk RS => ?_)
  obtain ⟨hne, s', τ, hE, F⟩ := hk
  obtain ⟨⟨rho', RF⟩, _, _⟩ := hE _ _ _ RS
  obtain ⟨rhoF, hS, hL⟩ := leave_ok R hpre hnew hσ RF.mem F
  obtain ⟨p, xs, r1, r2, r3⟩ := F.res
  obtain ⟨vs, v1, v2⟩ := run_results RF.mem RF.env hr r1 r2
  have hres := hL _ _ _ v2 r3
  cases e with
  | normal => exact ⟨RF.defers, _, v1, _, rhoF, rfl, hS, hres⟩
  | exit id => exact absurd rfl (hne id)
  | ret => exact ⟨RF.defers, _, v1, _, rhoF, rfl, hS, hres⟩
end Go.Eng
