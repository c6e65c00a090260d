/- The evaluation in steps, each of them first order: what is left to do is a list. -/
import Derived.Test.YtjiipbccpfjefaaEngR
set_option linter.unusedSimpArgs false
set_option linter.unusedVariables false
namespace Go.Eng
open Go

inductive It where
  | c (a : AC)
  | o (l : List AOp)
  | d (bef : List Nat) (acc : List TE) (l : List AOp)
  | b (id : Nat)

def CI (P : Program) (n0 : Nat) : List It → (Ex → St → Prop) → Ex → St → Prop
  | [], K => K
  | .c a :: k, K => thenK (W P n0 a (CI P n0 k K)) (CI P n0 k K)
  | .o l :: k, K => thenK (RW P (CI P n0 k K .normal) l) (CI P n0 k K)
  | .d bef acc l :: k, K => thenK (RD P bef (CI P n0 k K .normal) l acc) (CI P n0 k K)
  | .b id :: k, K => blockK id (CI P n0 k K)

/-- What is left to do, in state (env, h). -/
def G (P : Program) (n0 : Nat) (k : List It) (K : Ex → St → Prop) (env : List (Nat × SV)) (h : List (Option HB)) : Prop := CI P n0 k K .normal ⟨env, h⟩

/-- It leaves the block id. -/
def GX (P : Program) (n0 : Nat) (id : Nat) (k : List It) (K : Ex → St → Prop) (env : List (Nat × SV)) (h : List (Option HB)) : Prop := CI P n0 k K (.exit id) ⟨env, h⟩

def condI (P : Program) (n0 : Nat) (a b : AC) (k : List It) (K : Ex → St → Prop) (env : List (Nat × SV)) (h : List (Option HB)) : SV → Prop
  | .rv (.bool t) => if t = true then G P n0 (.c a :: k) K env h else G P n0 (.c b :: k) K env h
  | _ => False

def callI (P : Program) (n0 : Nat) (f : FuncId) (args : List SV) (dst : Option Nat) (r : List AOp) (k : List It) (K : Ex → St → Prop) (env : List (Nat × SV)) (h : List (Option HB)) : Prop :=
  CallW P f args h fun sv h' => G P n0 (.o r :: k) K (putE dst sv env) h'

def callvI (P : Program) (n0 : Nat) (dst : Option Nat) (r : List AOp) (k : List It) (K : Ex → St → Prop) (env : List (Nat × SV)) (h : List (Option HB)) : List SV → Prop
  | .fn f caps :: args => callI P n0 f (args ++ caps) dst r k K env h
  | _ => False

def invI (P : Program) (n0 : Nat) (name : String) (dst : Option Nat) (r : List AOp) (k : List It) (K : Ex → St → Prop) (env : List (Nat × SV)) (h : List (Option HB)) : List SV → Prop
  | s :: args => match ifcOf s with
    | some (t, x) => match invF P t name with
      | some (f, none) => callI P n0 f (x :: args) dst r k K env h
      | some (f, some (n, agg)) => match loadE n agg (hget h) x with
        | some (p, y, _, _) => p ∧ callI P n0 f (y :: args) dst r k K env h
        | none => False
      | none => False
    | none => False
  | _ => False

def plainI (P : Program) (n0 : Nat) (dst : Option Nat) (r : List AOp) (k : List It) (K : Ex → St → Prop) (env : List (Nat × SV)) (h : List (Option HB)) : XR → Prop
  | some (p, sv, u, _) => p ∧ G P n0 (.o r :: k) K (putE dst sv env) (uphO h u)
  | none => False

def opI (P : Program) (n0 : Nat) (ao : AO) (args : List SV) (dst : Option Nat) (r : List AOp) (k : List It) (K : Ex → St → Prop) (env : List (Nat × SV)) (h : List (Option HB)) : Prop :=
  match ao with
  | .call f => callI P n0 f args dst r k K env h
  | .callv => callvI P n0 dst r k K env h args
  | .inv name => invI P n0 name dst r k K env h args
  | ao => plainI P n0 dst r k K env h (opE ao args (hget h) h.length)

def guardI (P : Program) (n0 : Nat) (b : Bool) (ao : AO) (xs : List XO) (dst : Option Nat) (r : List AOp) (k : List It) (K : Ex → St → Prop) (env : List (Nat × SV)) (h : List (Option HB)) : SV → Prop
  | .rv (.bool t) => if t = b then opI P n0 ao (xs.map (evX (lk env))) dst r k K env h else G P n0 (.o r :: k) K (putE dst .dead env) h
  | _ => False

def calldI (P : Program) (n0 : Nat) (bef : List Nat) (acc : List TE) (rds rd0 : List Nat) (f : FuncId) (args : List SV) (dst : Option Nat) (r : List AOp) (k : List It) (K : Ex → St → Prop) (env : List (Nat × SV)) (h : List (Option HB)) : Prop :=
  CallD P f args h fun sv h' pre us => G P n0 (.d bef (acc ++ [⟨rds, dst, rd0 ++ pre, us⟩]) r :: k) K (putE dst sv env) h'

def callvdI (P : Program) (n0 : Nat) (bef : List Nat) (acc : List TE) (rds : List Nat) (dst : Option Nat) (r : List AOp) (k : List It) (K : Ex → St → Prop) (env : List (Nat × SV)) (h : List (Option HB)) : List SV → Prop
  | .fn f caps :: args => calldI P n0 bef acc rds [] f (args ++ caps) dst r k K env h
  | _ => False

def invdI (P : Program) (n0 : Nat) (bef : List Nat) (acc : List TE) (rds : List Nat) (name : String) (dst : Option Nat) (r : List AOp) (k : List It) (K : Ex → St → Prop) (env : List (Nat × SV)) (h : List (Option HB)) : List SV → Prop
  | s :: args => match ifcOf s with
    | some (t, x) => match invF P t name with
      | some (f, none) => calldI P n0 bef acc rds [] f (x :: args) dst r k K env h
      | some (f, some (n, agg)) => match loadE n agg (hget h) x with
        | some (p, y, _, rd) => p ∧ calldI P n0 bef acc rds rd f (y :: args) dst r k K env h
        | none => False
      | none => False
    | none => False
  | _ => False

def plaindI (P : Program) (n0 : Nat) (bef : List Nat) (acc : List TE) (rds : List Nat) (dst : Option Nat) (r : List AOp) (k : List It) (K : Ex → St → Prop) (env : List (Nat × SV)) (h : List (Option HB)) : XR → Prop
  | some (p, sv, u, rd) => p ∧ G P n0 (.d bef (acc ++ [⟨rds, dst, rd, uIds u⟩]) r :: k) K (putE dst sv env) (uphO h u)
  | none => False

def opdI (P : Program) (n0 : Nat) (bef : List Nat) (acc : List TE) (rds : List Nat) (ao : AO) (args : List SV) (dst : Option Nat) (r : List AOp) (k : List It) (K : Ex → St → Prop) (env : List (Nat × SV)) (h : List (Option HB)) : Prop :=
  match ao with
  | .call f => calldI P n0 bef acc rds [] f args dst r k K env h
  | .callv => callvdI P n0 bef acc rds dst r k K env h args
  | .inv name => invdI P n0 bef acc rds name dst r k K env h args
  | ao => plaindI P n0 bef acc rds dst r k K env h (opE ao args (hget h) h.length)

def guarddI (P : Program) (n0 : Nat) (bef : List Nat) (acc : List TE) (rds : List Nat) (b : Bool) (ao : AO) (xs : List XO) (dst : Option Nat) (r : List AOp) (k : List It) (K : Ex → St → Prop) (env : List (Nat × SV)) (h : List (Option HB)) : SV → Prop
  | .rv (.bool t) => if t = b then opdI P n0 bef acc rds ao (xs.map (evX (lk env))) dst r k K env h else G P n0 (.d bef (acc ++ [⟨rds, dst, [], []⟩]) r :: k) K (putE dst .dead env) h
  | _ => False

section
variable {P : Program} {n0 : Nat} {k : List It} {K : Ex → St → Prop} {env : List (Nat × SV)} {h : List (Option HB)}

theorem g_nil : G P n0 [] K env h = K .normal ⟨env, h⟩ := rfl
theorem g_skip : G P n0 (.c .skip :: k) K env h = G P n0 k K env h := rfl
theorem g_reg {ops : List AOp} : G P n0 (.c (.reg ops) :: k) K env h = G P n0 (.o ops :: k) K env h := rfl
theorem g_regd {bef : List Nat} {ops : List AOp} : G P n0 (.c (.regd bef ops) :: k) K env h = G P n0 (.d bef [] ops :: k) K env h := rfl
theorem g_seq {a b : AC} : G P n0 (.c (.seq a b) :: k) K env h = G P n0 (.c a :: .c b :: k) K env h := rfl
theorem g_block {id : Nat} {a : AC} : G P n0 (.c (.block id a) :: k) K env h = G P n0 (.c a :: .b id :: k) K env h := rfl
theorem g_end {id : Nat} : G P n0 (.b id :: k) K env h = G P n0 k K env h := rfl
theorem g_exit {id : Nat} : G P n0 (.c (.exit id) :: k) K env h = GX P n0 id k K env h := rfl
theorem g_cond {x : XO} {a b : AC} : G P n0 (.c (.cond x a b) :: k) K env h = condI P n0 a b k K env h (evX (lk env) x) := by
  show condW _ _ _ = _
  generalize evX (lk env) x = y
  cases y with
  | rv r => cases r <;> rfl
  | _ => rfl
theorem CI_ret {P : Program} {n0 : Nat} {K : Ex → St → Prop} {s : St} : ∀ {k : List It}, CI P n0 k K .ret s = K .ret s
  | [] => rfl
  | .c a :: k => CI_ret (k := k)
  | .o a :: k => CI_ret (k := k)
  | .d a b c :: k => CI_ret (k := k)
  | .b a :: k => CI_ret (k := k)
theorem g_ret : G P n0 (.c .ret :: k) K env h = K .ret ⟨env, h⟩ := by
  show CI P n0 k K .ret ⟨env, h⟩ = _
  exact CI_ret
theorem gx_nil {id : Nat} : GX P n0 id [] K env h = K (.exit id) ⟨env, h⟩ := rfl
theorem gx_c {id : Nat} {a : AC} : GX P n0 id (.c a :: k) K env h = GX P n0 id k K env h := rfl
theorem gx_o {id : Nat} {a : List AOp} : GX P n0 id (.o a :: k) K env h = GX P n0 id k K env h := rfl
theorem gx_b {id j : Nat} : GX P n0 id (.b j :: k) K env h = if id = j then G P n0 k K env h else GX P n0 id k K env h := rfl
theorem g_onil : G P n0 (.o [] :: k) K env h = G P n0 k K env h := rfl
theorem g_dnil {bef : List Nat} {acc : List TE} : G P n0 (.d bef acc [] :: k) K env h = (compatB bef 0 acc = true ∧ G P n0 k K env h) := rfl
theorem plainW_I {dst : Option Nat} {r : List AOp} (o : XR) : plainW h (fun sv h' => RW P (CI P n0 k K .normal) r ⟨putE dst sv env, h'⟩) o = plainI P n0 dst r k K env h o := by
  cases o with
  | none => rfl
  | some q => obtain ⟨p, sv, u, rd⟩ := q; rfl
theorem opW_opI {dst : Option Nat} {ao : AO} {args : List SV} {r : List AOp} : opW P ao args h (fun sv h' => RW P (CI P n0 k K .normal) r ⟨putE dst sv env, h'⟩) = opI P n0 ao args dst r k K env h := by
  cases ao
  case call f => rfl
  case callv =>
    show callvW _ _ _ _ = callvI _ _ _ _ _ _ _ _ _
    cases args with
    | nil => rfl
    | cons x t => cases x <;> rfl
  case inv name =>
    show invW _ _ _ _ _ = invI _ _ _ _ _ _ _ _ _ _
    cases args with
    | nil => rfl
    | cons x t =>
      simp only [invW, invI]
      cases ifcOf x with
      | none => rfl
      | some q =>
        obtain ⟨t, y⟩ := q
        simp only
        cases invF P t name with
        | none => rfl
        | some q =>
          obtain ⟨f, ld⟩ := q
          cases ld with
          | none => rfl
          | some q =>
            obtain ⟨n, agg⟩ := q
            simp only
            cases loadE n agg (hget h) y with
            | none => rfl
            | some q => obtain ⟨p, z, u, rd⟩ := q; rfl
  all_goals first | exact plainW_I _ | rfl
theorem g_op {dst : Option Nat} {ao : AO} {xs : List XO} {r : List AOp} : G P n0 (.o (⟨dst, ao, xs, none⟩ :: r) :: k) K env h = opI P n0 ao (xs.map (evX (lk env))) dst r k K env h := opW_opI
theorem g_opg {dst : Option Nat} {ao : AO} {xs : List XO} {d : Nat} {b : Bool} {r : List AOp} : G P n0 (.o (⟨dst, ao, xs, some (d, b)⟩ :: r) :: k) K env h = guardI P n0 b ao xs dst r k K env h (lk env d) := by
  show RW P _ _ _ = _
  unfold RW
  simp only [gOK]
  generalize lk env d = x
  cases x with
  | rv q =>
    cases q with
    | bool t => cases t <;> cases b <;> first | exact opW_opI | rfl
    | _ => rfl
  | _ => rfl
theorem plainD_I {bef : List Nat} {acc : List TE} {rds : List Nat} {dst : Option Nat} {r : List AOp} (o : XR) : plainD h (fun sv h' pre us => RD P bef (CI P n0 k K .normal) r (acc ++ [⟨rds, dst, pre, us⟩]) ⟨putE dst sv env, h'⟩) o = plaindI P n0 bef acc rds dst r k K env h o := by
  cases o with
  | none => rfl
  | some q => obtain ⟨p, sv, u, rd⟩ := q; rfl
theorem opD_opdI {bef : List Nat} {acc : List TE} {rds : List Nat} {dst : Option Nat} {ao : AO} {args : List SV} {r : List AOp} : opD P ao args h (fun sv h' pre us => RD P bef (CI P n0 k K .normal) r (acc ++ [⟨rds, dst, pre, us⟩]) ⟨putE dst sv env, h'⟩) = opdI P n0 bef acc rds ao args dst r k K env h := by
  cases ao
  case call f => rfl
  case callv =>
    show callvD _ _ _ _ = callvdI _ _ _ _ _ _ _ _ _ _ _ _
    cases args with
    | nil => rfl
    | cons x t => cases x <;> rfl
  case inv name =>
    show invD _ _ _ _ _ = invdI _ _ _ _ _ _ _ _ _ _ _ _ _
    cases args with
    | nil => rfl
    | cons x t =>
      simp only [invD, invdI]
      cases ifcOf x with
      | none => rfl
      | some q =>
        obtain ⟨t, y⟩ := q
        simp only
        cases invF P t name with
        | none => rfl
        | some q =>
          obtain ⟨f, ld⟩ := q
          cases ld with
          | none => rfl
          | some q =>
            obtain ⟨n, agg⟩ := q
            simp only
            cases loadE n agg (hget h) y with
            | none => rfl
            | some q => obtain ⟨p, z, u, rd⟩ := q; rfl
  all_goals first | exact plainD_I _ | rfl
theorem g_opd {bef : List Nat} {acc : List TE} {dst : Option Nat} {ao : AO} {xs : List XO} {r : List AOp} : G P n0 (.d bef acc (⟨dst, ao, xs, none⟩ :: r) :: k) K env h = opdI P n0 bef acc (rdsX xs) ao (xs.map (evX (lk env))) dst r k K env h := opD_opdI
theorem g_opdg {bef : List Nat} {acc : List TE} {dst : Option Nat} {ao : AO} {xs : List XO} {d : Nat} {b : Bool} {r : List AOp} : G P n0 (.d bef acc (⟨dst, ao, xs, some (d, b)⟩ :: r) :: k) K env h = guarddI P n0 bef acc (d :: rdsX xs) b ao xs dst r k K env h (lk env d) := by
  show RD P _ _ _ _ _ = _
  unfold RD
  simp only [gOK]
  generalize lk env d = x
  cases x with
  | rv q =>
    cases q with
    | bool t => cases t <;> cases b <;> first | exact opD_opdI | rfl
    | _ => rfl
  | _ => rfl
end

/-- A call by its contract. -/
theorem g_call {P : Program} {n0 : Nat} {f : FuncId} {args : List SV} {dst : Option Nat} {r : List AOp} {k : List It} {K : Ex → St → Prop} {env : List (Nat × SV)} {h : List (Option HB)} {pre us : List (Nat × HB)} {sv : SV}
    (hc : CallR P f args pre us sv) (hp : PreOK (hget h) pre) (hu : okU pre h us) (hn : G P n0 (.o r :: k) K (putE dst sv env) (uphL h us)) : callI P n0 f args dst r k K env h := ⟨pre, us, sv, hc, hp, hu, hn⟩

/-- A call that touches nothing. -/
theorem g_call0 {P : Program} {n0 : Nat} {f : FuncId} {args : List SV} {dst : Option Nat} {r : List AOp} {k : List It} {K : Ex → St → Prop} {env : List (Nat × SV)} {h : List (Option HB)} {sv : SV}
    (hc : CallR P f args [] [] sv) (hn : G P n0 (.o r :: k) K (putE dst sv env) h) : callI P n0 f args dst r k K env h := ⟨[], [], sv, hc, fun q hq => by simp at hq, trivial, hn⟩

theorem g_calld {P : Program} {n0 : Nat} {bef : List Nat} {acc : List TE} {rds rd0 : List Nat} {f : FuncId} {args : List SV} {dst : Option Nat} {r : List AOp} {k : List It} {K : Ex → St → Prop} {env : List (Nat × SV)} {h : List (Option HB)} {pre us : List (Nat × HB)} {sv : SV}
    (hc : CallR P f args pre us sv) (hp : PreOK (hget h) pre) (hu : okU pre h us) (hn : G P n0 (.d bef (acc ++ [⟨rds, dst, rd0 ++ pre.map (·.1), us.map (·.1)⟩]) r :: k) K (putE dst sv env) (uphL h us)) : calldI P n0 bef acc rds rd0 f args dst r k K env h := ⟨pre, us, sv, hc, hp, hu, hn⟩

theorem g_calld0 {P : Program} {n0 : Nat} {bef : List Nat} {acc : List TE} {rds rd0 : List Nat} {f : FuncId} {args : List SV} {dst : Option Nat} {r : List AOp} {k : List It} {K : Ex → St → Prop} {env : List (Nat × SV)} {h : List (Option HB)} {sv : SV}
    (hc : CallR P f args [] [] sv) (hn : G P n0 (.d bef (acc ++ [⟨rds, dst, rd0, []⟩]) r :: k) K (putE dst sv env) h) : calldI P n0 bef acc rds rd0 f args dst r k K env h := ⟨[], [], sv, hc, fun q hq => by simp at hq, trivial, by simpa [uphL] using hn⟩

/-- A loop: a family of states, a measure, and one round from any of them. -/
theorem g_loop {P : Program} {n0 : Nat} {a : AC} {k : List It} {K : Ex → St → Prop} {env : List (Nat × SV)} {h : List (Option HB)} {ι : Type} (en : ι → List (Nat × SV)) (hh : ι → List (Option HB)) (pr : ι → Prop) (μ : ι → Nat) (i0 : ι)
    (h0 : pr i0) (he : Ent n0 ⟨env, h⟩ ⟨en i0, hh i0⟩)
    (hr : ∀ i, pr i → ∀ K' : Ex → St → Prop, (∀ i' e' h', pr i' → μ i' < μ i → Ent n0 ⟨e', h'⟩ ⟨en i', hh i'⟩ → K' .normal ⟨e', h'⟩) → (∀ id e' h', GX P n0 id k K e' h' → K' (.exit id) ⟨e', h'⟩) → (∀ e' h', K .ret ⟨e', h'⟩ → K' .ret ⟨e', h'⟩) → G P n0 [.c a] K' (en i) (hh i)) :
    G P n0 (.c (.loop a) :: k) K env h := by
  refine ⟨ι, fun i => ⟨en i, hh i⟩, pr, μ, i0, h0, he, fun i hi => ?_⟩
  refine hr i hi (thenK (fun s' => ∃ i', pr i' ∧ μ i' < μ i ∧ Ent n0 s' ⟨en i', hh i'⟩) (CI P n0 k K)) (fun i' e' h' h1 h2 h3 => ⟨i', h1, h2, h3⟩) (fun id e' h' hx => hx) (fun e' h' hx => ?_)
  show CI P n0 k K .ret _
  rw [CI_ret]; exact hx

/-- A cut: what holds when the first is done. -/
theorem g_cut {P : Program} {n0 : Nat} {it : It} {k : List It} {K : Ex → St → Prop} {env : List (Nat × SV)} {h : List (Option HB)} (J : List (Nat × SV) → List (Option HB) → Prop)
    (hJ : ∀ env h, J env h → G P n0 k K env h)
    (hr : ∀ K' : Ex → St → Prop, (∀ e' h', J e' h' → K' .normal ⟨e', h'⟩) → (∀ id e' h', GX P n0 id k K e' h' → K' (.exit id) ⟨e', h'⟩) → (∀ e' h', K .ret ⟨e', h'⟩ → K' .ret ⟨e', h'⟩) → G P n0 [it] K' env h) :
    G P n0 (it :: k) K env h := by
  have H := hr (CI P n0 k K) (fun e' h' hj => hJ e' h' hj) (fun id e' h' hx => hx) (fun e' h' hx => by
    show CI P n0 k K .ret _
    rw [CI_ret]; exact hx)
  cases it with
  | c a => 
    show W P n0 a (CI P n0 k K) ⟨env, h⟩
    refine W_mono (fun e s hs => ?_) (show W P n0 a (CI P n0 [] (CI P n0 k K)) ⟨env, h⟩ from H)
    exact hs
  | o l => exact H
  | d bef acc l => exact H
  | b id => exact H
theorem g_noent {P : Program} {n0 : Nat} {k : List It} {K : Ex → St → Prop} {env : List (Nat × SV)} {h : List (Option HB)} (hg : G P n0 k K env h) : G P n0 (.c .ent :: k) K env h := ⟨⟨env, h⟩, fun _ _ _ R => R, hg⟩

theorem g_ent {P : Program} {n0 : Nat} {k : List It} {K : Ex → St → Prop} {env : List (Nat × SV)} {h : List (Option HB)} (env' : List (Nat × SV)) (h' : List (Option HB)) (he : Ent n0 ⟨env, h⟩ ⟨env', h'⟩) (hg : G P n0 k K env' h') : G P n0 (.c .ent :: k) K env h := ⟨⟨env', h'⟩, he, hg⟩

/-- A cut at a join: what holds there, with less said of the state. -/
theorem g_join {P : Program} {n0 : Nat} {it : It} {k : List It} {K : Ex → St → Prop} {env : List (Nat × SV)} {h : List (Option HB)} (J : List (Nat × SV) → List (Option HB) → Prop)
    (hJ : ∀ env h, J env h → G P n0 k K env h)
    (hr : ∀ K' : Ex → St → Prop, (∀ e' h' e2 h2, J e2 h2 → Ent n0 ⟨e', h'⟩ ⟨e2, h2⟩ → K' .normal ⟨e', h'⟩) → (∀ id e' h', GX P n0 id k K e' h' → K' (.exit id) ⟨e', h'⟩) → (∀ e' h', K .ret ⟨e', h'⟩ → K' .ret ⟨e', h'⟩) → G P n0 [it] K' env h) :
    G P n0 (it :: .c .ent :: k) K env h := by
  refine g_cut (fun e2 h2 => ∃ e3 h3, Ent n0 ⟨e2, h2⟩ ⟨e3, h3⟩ ∧ J e3 h3) (fun e2 h2 ⟨e3, h3, he, hj⟩ => g_ent e3 h3 he (hJ e3 h3 hj)) (fun K' h1 h2 h3 => hr K' (fun e' h' e2 h2 hj he => h1 e' h' ⟨e2, h2, he, hj⟩) (fun id e' h' hx => h2 id e' h' hx) h3)
end Go.Eng
