/- Finishing: what a call gives; arithmetic; how lists of values are compared. -/
import Derived.Test.YtjiipbccpfjefaaEngV
set_option linter.unusedSimpArgs false
set_option linter.unusedVariables false
namespace Go.Eng
open Go

def RnAll (τ : Nat → Option Nat) (h : Hp) : List SV → List SV → Prop
  | [], [] => True
  | x :: xs, y :: ys => Rn τ h x y ∧ RnAll τ h xs ys
  | _, _ => False

theorem rnAll_iff {τ : Nat → Option Nat} {h : Hp} : ∀ {xs ys : List SV}, RnAll τ h xs ys ↔ RnL τ h xs ys
  | [], [] => ⟨fun _ => ⟨rfl, fun i x y hx => by simp at hx⟩, fun _ => trivial⟩
  | [], _ :: _ => ⟨fun h => h.elim, fun h => by simp [RnL] at h⟩
  | _ :: _, [] => ⟨fun h => h.elim, fun h => by simp [RnL] at h⟩
  | x :: xs, y :: ys => by
    unfold RnAll
    rw [rnAll_iff (xs := xs) (ys := ys)]
    constructor
    · rintro ⟨h1, h2, h3⟩
      refine ⟨by simp [h2], fun i a b ha hb => ?_⟩
      cases i with
      | zero => simp at ha hb; subst ha; subst hb; exact h1
      | succ i => exact h3 i a b (by simpa using ha) (by simpa using hb)
    · rintro ⟨h2, h3⟩
      exact ⟨h3 0 x y rfl rfl, by simpa using h2, fun i a b ha hb => h3 (i + 1) a b (by simpa using ha) (by simpa using hb)⟩

section
variable {τ : Nat → Option Nat} {h : Hp}
theorem rn_rv {r r' : RV} : Rn τ h (.rv r) (.rv r') ↔ r = r' := ⟨fun hr => by cases hr with | fz _ _ hf => cases hf; rfl, fun e => by subst e; exact .fz _ _ (.rv _)⟩
theorem rn_dead {x : SV} : Rn τ h x .dead ↔ True := ⟨fun _ => trivial, fun _ => .dead _⟩
theorem rn_ptr {i j o o' : Nat} : Rn τ h (.ptr i o) (.ptr j o') ↔ τ i = some j ∧ o = o' := ⟨fun hr => by cases hr with | ptr _ _ _ hj => exact ⟨hj, rfl⟩, fun ⟨e, e'⟩ => by subst e'; exact .ptr _ _ _ e⟩
theorem rn_row {i j v v' l l' : Nat} : Rn τ h (.row i v l) (.row j v' l') ↔ τ i = some j ∧ v = v' ∧ l = l' := ⟨fun hr => by cases hr with | row _ _ _ _ hj => exact ⟨hj, rfl, rfl⟩, fun ⟨e, e', e2⟩ => by subst e'; subst e2; exact .row _ _ _ _ e⟩
theorem rn_ept {i j v v' k k' o o' : Nat} : Rn τ h (.ept i v k o) (.ept j v' k' o') ↔ τ i = some j ∧ v = v' ∧ k = k' ∧ o = o' := ⟨fun hr => by cases hr with | ept _ _ _ _ _ hj => exact ⟨hj, rfl, rfl, rfl⟩, fun ⟨e, e', e2, e3⟩ => by subst e'; subst e2; subst e3; exact .ept _ _ _ _ _ e⟩
theorem rn_agg {xs ys : List SV} : Rn τ h (.agg xs) (.agg ys) ↔ RnAll τ h xs ys := by rw [rnAll_iff]; exact ⟨fun hr => by cases hr with | agg _ _ hl hf => exact ⟨hl, hf⟩, fun ⟨e, e'⟩ => .agg _ _ e e'⟩
theorem rn_tup {xs ys : List SV} : Rn τ h (.tup xs) (.tup ys) ↔ RnAll τ h xs ys := by rw [rnAll_iff]; exact ⟨fun hr => by cases hr with | tup _ _ hl hf => exact ⟨hl, hf⟩, fun ⟨e, e'⟩ => .tup _ _ e e'⟩
theorem rn_fn {f f' : FuncId} {xs ys : List SV} : Rn τ h (.fn f xs) (.fn f' ys) ↔ f = f' ∧ RnAll τ h xs ys := by rw [rnAll_iff]; exact ⟨fun hr => by cases hr with | fn _ _ _ hl hf => exact ⟨rfl, hl, hf⟩, fun ⟨e, e', e2⟩ => by subst e; exact .fn _ _ _ e' e2⟩
theorem rn_ifc {t t' : TypeId} {x y : SV} : Rn τ h (.ifc t x) (.ifc t' y) ↔ t = t' ∧ Rn τ h x y := ⟨fun hr => by cases hr with | ifc _ _ _ hf => exact ⟨rfl, hf⟩, fun ⟨e, e'⟩ => by subst e; exact .ifc _ _ _ e'⟩
theorem rn_fz {x : SV} {r : RV} : Fz τ h x r → Rn τ h x (.rv r) := .fz x r
end

def retP (τ : Nat → Option Nat) (h : Hp) (sv : SV) : Option (Prop × List SV) → Prop
  | some (p, xs) => p ∧ Rn τ h (resT xs) sv
  | none => False

/-- Calls that take and give pure values. -/
theorem callR_F {P : Program} {f : FuncId} {N : Nat} {ac : AC} {rs : List RR} (H : FnOK P f N ac rs) (as : List RV) (sv : SV) (hN : as.length ≤ N)
    (hrun : ∀ K : Ex → St → Prop, (∀ env h, retP (fun _ => none) (hget h) sv (resL (lk env) (hget h) rs) → K .normal ⟨env, h⟩ ∧ K .ret ⟨env, h⟩) → G P 0 [.c ac] K (mkEnv 0 (as.map .rv)) []) : CallR P f (as.map .rv) [] [] sv := by
  refine callR_of H [] [] (as.map .rv) (by simpa using hN) ⟨rfl, fun i x y hx hy => ?_⟩ rfl (by simp) (by simp) (fun K hK => hrun K (fun env h hr => ?_))
  · rw [hx] at hy; cases hy
    rw [List.getElem?_map] at hx
    cases hr : as[i]? with
    | none => simp [hr] at hx
    | some r => simp [hr] at hx; subst hx; exact .rv r
  · unfold retP at hr
    split at hr
    · rename_i p xs hres
      exact hK env h env h (fun _ => none) (ent_refl _ _) ⟨by simp, by simp, by simp, by simp, by simp, p, xs, hres, hr.1, hr.2⟩
    · exact hr.elim

theorem wrap_i64 {n : Int} (h1 : -9223372036854775808 ≤ n) (h2 : n < 9223372036854775808) : IntKind.i64.wrap n = n := by
  unfold IntKind.wrap
  simp only [IntKind.signed, IntKind.bits]
  by_cases h : (9223372036854775808 : Int) ≤ n % 18446744073709551616 <;> simp [h] <;> omega

theorem retP_some {τ : Nat → Option Nat} {h : Hp} {sv : SV} {p : Prop} {xs : List SV} : retP τ h sv (some (p, xs)) = (p ∧ Rn τ h (resT xs) sv) := rfl
theorem resT_one {x : SV} : resT [x] = x := rfl
theorem resT_nil : resT [] = .tup [] := rfl
theorem resT_two {x y : SV} {r : List SV} : resT (x :: y :: r) = .tup (x :: y :: r) := rfl
end Go.Eng
