/- Rows of the call's own: literals, make, append; parts of slices; aggregates that are built. -/
import Derived.Test.YtjiipbccpfjefaaEngE
set_option linter.unusedSimpArgs false
namespace Go.Eng
open Go

theorem foldl_set (cells : Array Value) (off : Nat) : ∀ (vs : List Value) (k : Nat) (cs : Array Value), off + k + vs.length ≤ cs.size →
    (vs.zipIdx k).foldl (fun cs (c, j) => cs.setIfInBounds (off + j) c) cs = (splice cs.toList (off + k) vs).toArray
  | [], k, cs, _ => by simp [splice]
  | v :: r, k, cs, h => by
    simp only [List.length_cons] at h
    rw [List.zipIdx_cons, List.foldl_cons, foldl_set cells off r (k + 1) _ (by simp; omega)]
    apply Array.ext'
    simp only [Array.toList_setIfInBounds]
    apply List.ext_getElem?
    intro j
    rw [splice_get _ _ _ (by simp; omega), splice_get _ _ _ (by simp; omega)]
    by_cases h1 : j = off + k
    · subst h1
      rw [if_neg (by omega), if_pos (by simp only [List.length_cons]; omega)]
      rw [List.getElem?_set_self (by simp; omega)]
      simp
    · by_cases h2 : off + (k + 1) ≤ j ∧ j < off + (k + 1) + r.length
      · rw [if_pos h2, if_pos (by simp only [List.length_cons]; omega), show j - (off + k) = (j - (off + (k + 1))) + 1 by omega, List.getElem?_cons_succ]
      · rw [if_neg h2, if_neg (by simp only [List.length_cons]; omega), List.getElem?_set_ne (by omega)]

/-- Parts laid into a list of cells: place and cells of each. -/
def lay {α : Type} (z : List α) : List (Nat × List α) → List α
  | [] => z
  | (o, x) :: r => lay (splice z o x) r

theorem fill_lay (place : Nat → Option (Nat × Nat)) : ∀ (ps : List (Nat × Value)) (qs : List (Nat × List Value)) (cs : Array Value),
    ps.length = qs.length → (∀ (j : Nat) (i : Nat) (v : Value) (o : Nat) (x : List Value), ps[j]? = some (i, v) → qs[j]? = some (o, x) → place i = some (o, x.length) ∧ v.cells = x.toArray ∧ o + x.length ≤ cs.size) →
    Instr.fill place cs ps = some (lay cs.toList qs).toArray
  | [], [], cs, _, _ => by simp [Instr.fill, lay]
  | [], _ :: _, _, h, _ => by simp at h
  | _ :: _, [], _, h, _ => by simp at h
  | (i, v) :: ps, (o, x) :: qs, cs, hl, h => by
    obtain ⟨h1, h2, h3⟩ := h 0 i v o x rfl rfl
    have hf := foldl_set cs o x 0 cs (by simpa using h3)
    simp only [Nat.add_zero] at hf
    have hsz : (splice cs.toList o x).length = cs.size := by rw [splice_length _ _ _ (by simpa using h3)]; simp
    have ih := fill_lay place ps qs (splice cs.toList o x).toArray (by simpa using hl) (fun j i' v' o' x' g1 g2 => by
      have := h (j + 1) i' v' o' x' (by simpa using g1) (by simpa using g2)
      refine ⟨this.1, this.2.1, ?_⟩
      simp only [List.size_toArray, hsz]; exact this.2.2)
    unfold Instr.fill
    simp only [h1, h2, List.size_toArray, ne_eq, not_true_eq_false, false_or]
    rw [if_neg (by simp; omega)]
    simp only [lay]
    rw [← Array.foldl_toList]
    simp only [Array.toList_zipIdx]
    rw [hf, ih]

theorem lay_length {α : Type} : ∀ (qs : List (Nat × List α)) (z : List α), (∀ q ∈ qs, q.1 + q.2.length ≤ z.length) → (lay z qs).length = z.length
  | [], z, _ => rfl
  | (o, x) :: r, z, h => by
    have h0 := h (o, x) (by simp)
    have hs : (splice z o x).length = z.length := splice_length _ _ _ h0
    rw [lay, lay_length r _ (fun q hq => by rw [hs]; exact h q (by simp [hq])), hs]

section
variable {P : Program} {C : Ctx} {hp : Hp} {w : World} {rho : Nat → Option Nat}

/-- The values of several arguments, cell by cell. -/
def cellsAll : List SV → Option (List (List SV))
  | [] => some []
  | s :: r => match cellsSV s, cellsAll r with
    | some x, some y => some (x :: y)
    | _, _ => none

theorem cellsAll_ok {ok : Nat → Prop} : ∀ {ss : List SV} {vs : List Value} {cs : List (List SV)}, cellsAll ss = some cs → vs.length = ss.length → (∀ (j : Nat) (s : SV), ss[j]? = some s → Rp w ok rho hp s (vs.getD j undef)) →
    ∃ us : List (List Value), us.length = cs.length ∧ (∀ (j : Nat) (v : Value), vs[j]? = some v → ∃ u, us[j]? = some u ∧ v.cells = u.toArray) ∧
      ∀ (j : Nat) (c : List SV), cs[j]? = some c → ∃ u, us[j]? = some u ∧ u.length = c.length ∧ (∀ (i : Nat) (x : Value), u[i]? = some x → x.oneCell' = true) ∧ ∀ (i : Nat) (y : SV), c[i]? = some y → Rp w ok rho hp y (u.getD i undef)
  | [], vs, cs, h, hl, _ => by
    cases h
    have : vs = [] := List.eq_nil_of_length_eq_zero hl
    subst this
    exact ⟨[], rfl, fun j v hv => by simp at hv, fun j c hc => by simp at hc⟩
  | s :: r, [], cs, h, hl, _ => by simp at hl
  | s :: r, v :: vs, cs, h, hl, hr => by
    unfold cellsAll at h
    cases hs : cellsSV s with
    | none => simp [hs] at h
    | some x =>
      cases hrr : cellsAll r with
      | none => simp [hs, hrr] at h
      | some y =>
        simp only [hs, hrr, Option.some.injEq] at h
        subst h
        obtain ⟨us, h1, h2, h3⟩ := cellsAll_ok (vs := vs) hrr (by simpa using hl) (fun j s hj => by
          have := hr (j + 1) s (by simpa using hj)
          simpa using this)
        have h0 := hr 0 s rfl
        simp only [List.getD_cons_zero] at h0
        obtain ⟨u, g1, g2, g3, g4⟩ := h0.cells hs
        refine ⟨u :: us, by simp [h1], fun j v' hv => ?_, fun j c hc => ?_⟩
        · cases j with
          | zero => simp at hv; subst hv; exact ⟨u, rfl, g1⟩
          | succ j => simp at hv; obtain ⟨u', k1, k2⟩ := h2 j v' hv; exact ⟨u', by simpa using k1, k2⟩
        · cases j with
          | zero => simp at hc; subst hc; exact ⟨u, rfl, g2, g3, g4⟩
          | succ j => simp at hc; obtain ⟨u', k1, k2⟩ := h3 j c hc; exact ⟨u', by simpa using k1, k2⟩

theorem flat_get {α : Type} (e : Nat) : ∀ (us : List (List α)) (_ : ∀ u ∈ us, u.length = e) (i j : Nat) (u : List α) (v : α), us[i]? = some u → u[j]? = some v → us.flatten[i * e + j]? = some v
  | [], _, i, j, u, v, h, _ => by simp at h
  | x :: r, hl, i, j, u, v, h, hv => by
    have hx := hl x (by simp)
    cases i with
    | zero =>
      simp at h; subst h
      have := (List.getElem?_eq_some_iff.1 hv).1
      rw [List.flatten_cons, List.getElem?_append_left (by omega)]
      simpa using hv
    | succ i =>
      have ih := flat_get e r (fun u hu => hl u (by simp [hu])) i j u v (by simpa using h) hv
      rw [List.flatten_cons, List.getElem?_append_right (by rw [Nat.add_mul]; omega), hx, show (i + 1) * e + j - e = i * e + j by rw [Nat.add_mul]; omega]
      exact ih

theorem flat_length {α : Type} (e : Nat) : ∀ (us : List (List α)), (∀ u ∈ us, u.length = e) → us.flatten.length = us.length * e
  | [], _ => by simp
  | x :: r, hl => by
    rw [List.flatten_cons, List.length_append, flat_length e r (fun u hu => hl u (by simp [hu])), hl x (by simp), List.length_cons, Nat.add_mul]; omega

/-- Elements whose cells lie one behind the other. -/
theorem Holds.row_of {ok : Nat → Prop} {e ver : Nat} {cs : List (List SV)} {us : List (List Value)} {tail : List Value} (hl : us.length = cs.length) (he : ∀ c ∈ cs, c.length = e)
    (h : ∀ (j : Nat) (c : List SV), cs[j]? = some c → ∃ u, us[j]? = some u ∧ u.length = c.length ∧ (∀ (i : Nat) (x : Value), u[i]? = some x → x.oneCell' = true) ∧ ∀ (i : Nat) (y : SV), c[i]? = some y → Rp w ok rho hp y (u.getD i undef)) :
    Holds w ok rho hp (us.flatten ++ tail).toArray (.row e ver cs) := by
  have hue : ∀ u ∈ us, u.length = e := fun u hu => by
    obtain ⟨j, hj⟩ := List.getElem?_of_mem hu
    have hjl : j < cs.length := by rw [← hl]; exact (List.getElem?_eq_some_iff.1 hj).1
    have hc := List.getElem?_eq_getElem hjl
    obtain ⟨u', h1, h2, _⟩ := h j _ hc
    rw [hj] at h1; cases h1
    rw [h2]; exact he _ (List.getElem_mem hjl)
  refine ⟨he, ?_, fun i x hx j y hy => ?_⟩
  · simp only [List.size_toArray, List.length_append, flat_length e us hue, hl]; omega
  · obtain ⟨u, h1, h2, h3, h4⟩ := h i x hx
    have hj : j < u.length := by rw [h2]; exact (List.getElem?_eq_some_iff.1 hy).1
    have hg := List.getElem?_eq_getElem hj
    refine ⟨u[j], ?_, h3 j _ hg, ?_⟩
    · have := flat_get e us hue i j u _ h1 hg
      simp only [List.getElem?_toArray]
      rw [List.getElem?_append_left (List.getElem?_eq_some_iff.1 this).1]; exact this
    · have := h4 j y hy
      rwa [List.getD_eq_getElem?_getD, hg, Option.getD_some] at this

end

end Go.Eng
