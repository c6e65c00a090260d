/- Calls that take and change things of the caller's; rows of pure values. -/
import Derived.Test.YtjiipbccpfjefaaEngX
set_option linter.unusedSimpArgs false
set_option linter.unusedVariables false
namespace Go.Eng
open Go

/-- Rows of pure values. -/
def rvs (xs : List (List RV)) : List (List SV) := xs.map (List.map SV.rv)

section
variable {xs ys : List (List RV)}
theorem rvs_fold : xs.map (List.map SV.rv) = rvs xs := rfl
theorem rvs_nil : rvs [] = [] := rfl
theorem rvs_len : (rvs xs).length = xs.length := by simp [rvs]
theorem rvs_get {i : Nat} : ((rvs xs)[i]?).getD [] = ((xs[i]?).getD []).map SV.rv := by
  unfold rvs
  rw [List.getElem?_map]
  cases xs[i]? <;> rfl
theorem rvs_take {n : Nat} : (rvs xs).take n = rvs (xs.take n) := by simp [rvs]
theorem rvs_drop {n : Nat} : (rvs xs).drop n = rvs (xs.drop n) := by simp [rvs]
theorem rvs_append : rvs xs ++ rvs ys = rvs (xs ++ ys) := by simp [rvs]
theorem rvs_set {i : Nat} {c : List RV} : (rvs xs).set i (c.map SV.rv) = rvs (xs.set i c) := by simp [rvs, List.map_set]
theorem rvs_one {c : List RV} : [c.map SV.rv] = rvs [c] := rfl
theorem rvs_rep {n : Nat} {c : List RV} : List.replicate n (c.map SV.rv) = rvs (List.replicate n c) := by simp [rvs]
theorem map_inj {α β : Type} {f : α → β} (hf : ∀ x y, f x = f y → x = y) : ∀ {a b : List α}, a.map f = b.map f → a = b
  | [], [], _ => rfl
  | [], _ :: _, h => by simp at h
  | _ :: _, [], h => by simp at h
  | x :: a, y :: b, h => by
    simp only [List.map_cons, List.cons.injEq] at h
    rw [hf x y h.1, map_inj hf h.2]
theorem rvs_inj : rvs xs = rvs ys ↔ xs = ys := by
  constructor
  · intro h
    exact map_inj (fun a b h => map_inj (fun x y h => by cases h; rfl) h) h
  · rintro rfl; rfl
end

/-- A part that is written over. -/
theorem splice_all {α : Type} {l x : List α} (h : x.length = l.length) : splice l 0 x = x := by
  simp [splice, h]
theorem drop0 {α : Type} {l : List α} : l.drop 0 = l := rfl
theorem take_len {α : Type} {l : List α} {n : Nat} (h : l.length = n) : l.take n = l := by rw [← h]; exact List.take_length

def RnRows (τ : Nat → Option Nat) (h : Hp) (xs ys : List (List SV)) : Prop := xs.length = ys.length ∧ ∀ (i : Nat) (x y : List SV), xs[i]? = some x → ys[i]? = some y → RnL τ h x y

theorem rnRows_rvs {τ : Nat → Option Nat} {h : Hp} {xs ys : List (List RV)} : RnRows τ h (rvs xs) (rvs ys) ↔ xs = ys := by
  constructor
  · rintro ⟨hl, hr⟩
    refine List.ext_getElem? (fun i => ?_)
    rw [rvs_len, rvs_len] at hl
    by_cases hi : i < xs.length
    · have h1 := List.getElem?_eq_getElem hi
      have h2 := List.getElem?_eq_getElem (l := ys) (i := i) (by omega)
      have := hr i (xs[i].map SV.rv) ((ys[i]'(by omega)).map SV.rv) (by simp [rvs, h1]) (by simp [rvs, h2])
      rw [h1, h2]
      obtain ⟨k1, k2⟩ := this
      simp at k1
      congr 1
      refine List.ext_getElem? (fun j => ?_)
      by_cases hj : j < (xs[i]).length
      · have g1 := List.getElem?_eq_getElem hj
        have g2 := List.getElem?_eq_getElem (l := ys[i]'(by omega)) (i := j) (by omega)
        have := k2 j _ _ (by rw [List.getElem?_map, g1]; rfl) (by rw [List.getElem?_map, g2]; rfl)
        rw [g1, g2, rn_rv.1 this]
      · rw [List.getElem?_eq_none (by omega), List.getElem?_eq_none (by omega)]
    · rw [List.getElem?_eq_none (by omega), List.getElem?_eq_none (by omega)]
  · rintro rfl
    refine ⟨rfl, fun i x y hx hy => ?_⟩
    rw [hx] at hy; cases hy
    refine ⟨rfl, fun j a b ha hb => ?_⟩
    rw [ha] at hb; cases hb
    unfold rvs at hx
    rw [List.getElem?_map] at hx
    cases hq : xs[i]? with
    | none => simp [hq] at hx
    | some q =>
      simp [hq] at hx
      subst hx
      rw [List.getElem?_map] at ha
      cases hr : q[j]? with
      | none => simp [hr] at ha
      | some r => simp [hr] at ha; subst ha; exact rn_rv.2 rfl

def RnHo (τ : Nat → Option Nat) (h : Hp) : Option HB → Option HB → Prop
  | some (.var xs), some (.var ys) => RnAll τ h xs ys
  | some (.row e v xs), some (.row e' v' ys) => e = e' ∧ v = v' ∧ RnRows τ h xs ys
  | _, _ => False

theorem RnHo.get {τ : Nat → Option Nat} {h : Hp} {x y : Option HB} (hr : RnHo τ h x y) : ∃ a b, x = some a ∧ y = some b ∧ RnH τ h a b := by
  unfold RnHo at hr
  split at hr
  · exact ⟨_, _, rfl, rfl, .var _ _ (rnAll_iff.1 hr)⟩
  · obtain ⟨rfl, rfl, h1, h2⟩ := hr
    exact ⟨_, _, rfl, rfl, .row _ _ _ _ h1 h2⟩
  · exact hr.elim

def lkp : List (Nat × HB) → Nat → Option HB
  | [], _ => none
  | (i, hb) :: r, id => if id = i then some hb else lkp r id

def finU : Option HB → List (Nat × HB) → Nat → Option HB
  | b, [], _ => b
  | b, (i, hb) :: r, id => finU (if id = i then some hb else b) r id

theorem upl_finU {id : Nat} : ∀ {us : List (Nat × HB)} {hp : Hp}, upl hp us id = finU (hp id) us id
  | [], hp => rfl
  | (i, hb) :: r, hp => by
    rw [upl, upl_finU, finU]
    unfold up
    rfl

theorem finU_none {id : Nat} {hb : HB} : ∀ {us : List (Nat × HB)} {a : Option HB}, finU none us id = some hb → finU a us id = some hb
  | [], a, h => by cases h
  | (i, hb0) :: r, a, h => by
    unfold finU at h ⊢
    by_cases hi : id = i
    · rw [if_pos hi] at h ⊢; exact h
    · rw [if_neg hi] at h ⊢; exact finU_none h

theorem lkp_mem {id : Nat} {hb : HB} : ∀ {pre : List (Nat × HB)}, lkp pre id = some hb → (id, hb) ∈ pre
  | [], h => by cases h
  | (i, hb0) :: r, h => by
    unfold lkp at h
    split at h
    · rename_i hi; cases h; subst hi; simp
    · exact List.mem_cons_of_mem _ (lkp_mem h)

theorem fin_upl {pre us : List (Nat × HB)} {id : Nat} {hb : HB} (h : finU (lkp pre id) us id = some hb) (hp : Hp) (hpre : PreOK hp pre) : upl hp us id = some hb := by
  rw [upl_finU]
  cases hl : lkp pre id with
  | none => rw [hl] at h; exact finU_none h
  | some b =>
    rw [hl] at h
    rw [hpre (id, b) (lkp_mem hl)]; exact h

def keptL (τ : Nat → Option Nat) (h : Hp) (pre us : List (Nat × HB)) : Nat → List (Option Nat) → Prop
  | _, [] => True
  | j, none :: r => keptL τ h pre us (j + 1) r
  | j, some id :: r => RnHo τ h (h j) (finU (lkp pre id) us id) ∧ keptL τ h pre us (j + 1) r

theorem keptL_get {τ : Nat → Option Nat} {h : Hp} {pre us : List (Nat × HB)} : ∀ {l : List (Option Nat)} {j : Nat}, keptL τ h pre us j l → ∀ (i id : Nat), l[i]? = some (some id) → RnHo τ h (h (j + i)) (finU (lkp pre id) us id)
  | [], j, _, i, id, hi => by simp at hi
  | x :: r, j, hk, i, id, hi => by
    cases i with
    | zero =>
      simp at hi
      subst hi
      exact hk.1
    | succ i =>
      have hk' : keptL τ h pre us (j + 1) r := by cases x with | none => exact hk | some q => exact hk.2
      have := keptL_get hk' i id (by simpa using hi)
      rwa [show j + 1 + i = j + (i + 1) by omega] at this

def ofL (τl : List (Option Nat)) (j : Nat) : Option Nat := (τl[j]?).getD none

def nodupL : List (Option Nat) → Prop
  | [] => True
  | none :: r => nodupL r
  | some x :: r => some x ∉ r ∧ nodupL r

theorem nodupL_inj : ∀ {l : List (Option Nat)}, nodupL l → ∀ (i j id : Nat), l[i]? = some (some id) → l[j]? = some (some id) → i = j
  | [], _, i, j, id, h, _ => by simp at h
  | x :: r, hn, i, j, id, h1, h2 => by
    have hn' : nodupL r := by cases x with | none => exact hn | some q => exact hn.2
    cases i with
    | zero =>
      simp at h1
      subst h1
      cases j with
      | zero => rfl
      | succ j => exact absurd (List.mem_of_getElem? (by simpa using h2)) hn.1
    | succ i =>
      cases j with
      | zero =>
        simp at h2
        subst h2
        exact absurd (List.mem_of_getElem? (by simpa using h1)) hn.1
      | succ j => rw [nodupL_inj hn' i j id (by simpa using h1) (by simpa using h2)]

/-- What is new: it is among what is told, and was not there. -/
def newL (pre us : List (Nat × HB)) : List (Option Nat) → Prop
  | [] => True
  | none :: r => newL pre us r
  | some id :: r => id ∈ us.map (·.1) ∧ id ∉ pre.map (·.1) ∧ newL pre us r

theorem newL_get {pre us : List (Nat × HB)} : ∀ {l : List (Option Nat)}, newL pre us l → ∀ (i id : Nat), l[i]? = some (some id) → id ∈ us.map (·.1) ∧ id ∉ pre.map (·.1)
  | [], _, i, id, h => by simp at h
  | x :: r, hn, i, id, h => by
    have hn' : newL pre us r := by cases x with | none => exact hn | some q => exact hn.2.2
    cases i with
    | zero => simp at h; subst h; exact ⟨hn.1, hn.2.1⟩
    | succ i => exact newL_get hn' i id (by simpa using h)

def allU (τl : List (Option Nat)) : List (Nat × HB) → Prop
  | [] => True
  | (i, _) :: r => some i ∈ τl ∧ allU τl r

theorem allU_get {τl : List (Option Nat)} : ∀ {us : List (Nat × HB)}, allU τl us → ∀ q ∈ us, some q.1 ∈ τl
  | [], _, q, h => by simp at h
  | (i, hb) :: r, hu, q, h => by
    rcases List.mem_cons.1 h with rfl | h
    · exact hu.1
    · exact allU_get hu.2 q h

/-- How a call ends, to be checked part by part. τl: the things that were handed in, then what is kept of the new ones. -/
def retM (σ : List Nat) (pre us : List (Nat × HB)) (rs : List RR) (sv : SV) (env : List (Nat × SV)) (h : List (Option HB)) (τn : List (Option Nat)) : Prop :=
  nodupL (σ.map some ++ τn) ∧ newL pre us τn ∧ allU (σ.map some ++ τn) us ∧ keptL (ofL (σ.map some ++ τn)) (hget h) pre us 0 (σ.map some ++ τn) ∧ retP (ofL (σ.map some ++ τn)) (hget h) sv (resL (lk env) (hget h) rs)

theorem fin_retM {σ : List Nat} {pre us : List (Nat × HB)} {rs : List RR} {sv : SV} {env : List (Nat × SV)} {h : List (Option HB)} {τn : List (Option Nat)} (hr : retM σ pre us rs sv env h τn) : Fin σ pre us rs sv env h (ofL (σ.map some ++ τn)) := by
  obtain ⟨h1, h2, h3, h4, h5⟩ := hr
  have hof : ∀ j id, ofL (σ.map some ++ τn) j = some id → (σ.map some ++ τn)[j]? = some (some id) := fun j id hj => by
    unfold ofL at hj
    cases hq : (σ.map some ++ τn)[j]? with
    | none => rw [hq] at hj; cases hj
    | some x => rw [hq] at hj; simp at hj; rw [hj]
  refine ⟨fun i j id hi hj => nodupL_inj h1 i j id (hof i id hi) (hof j id hj), fun j id hj => ?_, fun j id hj hl => ?_, fun j id hj => ?_, fun q hq => ?_, ?_⟩
  · unfold ofL
    rw [List.getElem?_append_left (by have := (List.getElem?_eq_some_iff.1 hj).1; simpa using this), List.getElem?_map, hj]; rfl
  · have := hof j id hj
    rw [List.getElem?_append_right (by simpa using hl)] at this
    obtain ⟨g1, g2⟩ := newL_get h2 _ id this
    exact ⟨g1, fun q hq he => g2 (List.mem_map.2 ⟨q, hq, he⟩)⟩
  · have := keptL_get h4 j id (hof j id hj)
    rw [Nat.zero_add] at this
    obtain ⟨a, b, g1, g2, g3⟩ := this.get
    exact ⟨a, b, g1, g3, fun hp hpre => fin_upl g2 hp hpre⟩
  · obtain ⟨j, hj, he⟩ := List.mem_iff_getElem.1 (allU_get h3 q hq)
    refine ⟨j, ?_⟩
    unfold ofL
    rw [List.getElem?_eq_getElem hj, he]; rfl
  · unfold retP at h5
    split at h5
    · rename_i p xs hres; exact ⟨p, xs, hres, h5.1, h5.2⟩
    · exact h5.elim

def BkAll (σ : Nat → Option Nat) : List SV → List SV → Prop
  | [], [] => True
  | x :: xs, y :: ys => Bk σ x y ∧ BkAll σ xs ys
  | _, _ => False

theorem bkAll_iff {σ : Nat → Option Nat} : ∀ {xs ys : List SV}, BkAll σ xs ys ↔ BkL σ xs ys
  | [], [] => ⟨fun _ => ⟨rfl, fun i x y hx => by simp at hx⟩, fun _ => trivial⟩
  | [], _ :: _ => ⟨fun h => h.elim, fun h => by simp [BkL] at h⟩
  | _ :: _, [] => ⟨fun h => h.elim, fun h => by simp [BkL] at h⟩
  | x :: xs, y :: ys => by
    unfold BkAll
    rw [bkAll_iff (xs := xs) (ys := ys)]
    constructor
    · rintro ⟨h1, h2, h3⟩
      refine ⟨by simp [h2], fun i a b ha hb => ?_⟩
      cases i with
      | zero => simp at ha hb; subst ha; subst hb; exact h1
      | succ i => exact h3 i a b (by simpa using ha) (by simpa using hb)
    · rintro ⟨h2, h3⟩
      exact ⟨h3 0 x y rfl rfl, by simpa using h2, fun i a b ha hb => h3 (i + 1) a b (by simpa using ha) (by simpa using hb)⟩

section
variable {σ : Nat → Option Nat}
theorem bk_rv {r r' : RV} : Bk σ (.rv r) (.rv r') ↔ r = r' := ⟨fun hr => by cases hr; rfl, fun e => by subst e; exact .rv _⟩
theorem bk_dead {x : SV} : Bk σ .dead x ↔ True := ⟨fun _ => trivial, fun _ => .dead _⟩
theorem bk_ptr {i j o o' : Nat} : Bk σ (.ptr i o) (.ptr j o') ↔ σ i = some j ∧ o = o' := ⟨fun hr => by cases hr with | ptr _ _ _ hj => exact ⟨hj, rfl⟩, fun ⟨e, e'⟩ => by subst e'; exact .ptr _ _ _ e⟩
theorem bk_row {i j v v' l l' : Nat} : Bk σ (.row i v l) (.row j v' l') ↔ σ i = some j ∧ v = v' ∧ l = l' := ⟨fun hr => by cases hr with | row _ _ _ _ hj => exact ⟨hj, rfl, rfl⟩, fun ⟨e, e', e2⟩ => by subst e'; subst e2; exact .row _ _ _ _ e⟩
theorem bk_ept {i j v v' k k' o o' : Nat} : Bk σ (.ept i v k o) (.ept j v' k' o') ↔ σ i = some j ∧ v = v' ∧ k = k' ∧ o = o' := ⟨fun hr => by cases hr with | ept _ _ _ _ _ hj => exact ⟨hj, rfl, rfl, rfl⟩, fun ⟨e, e', e2, e3⟩ => by subst e'; subst e2; subst e3; exact .ept _ _ _ _ _ e⟩
theorem bk_agg {xs ys : List SV} : Bk σ (.agg xs) (.agg ys) ↔ BkAll σ xs ys := by rw [bkAll_iff]; exact ⟨fun hr => by cases hr with | agg _ _ hl hf => exact ⟨hl, hf⟩, fun ⟨e, e'⟩ => .agg _ _ e e'⟩
theorem bk_tup {xs ys : List SV} : Bk σ (.tup xs) (.tup ys) ↔ BkAll σ xs ys := by rw [bkAll_iff]; exact ⟨fun hr => by cases hr with | tup _ _ hl hf => exact ⟨hl, hf⟩, fun ⟨e, e'⟩ => .tup _ _ e e'⟩
theorem bk_fn {f f' : FuncId} {xs ys : List SV} : Bk σ (.fn f xs) (.fn f' ys) ↔ f = f' ∧ BkAll σ xs ys := by rw [bkAll_iff]; exact ⟨fun hr => by cases hr with | fn _ _ _ hl hf => exact ⟨rfl, hl, hf⟩, fun ⟨e, e', e2⟩ => by subst e; exact .fn _ _ _ e' e2⟩
theorem bk_ifc {t t' : TypeId} {x y : SV} : Bk σ (.ifc t x) (.ifc t' y) ↔ t = t' ∧ Bk σ x y := ⟨fun hr => by cases hr with | ifc _ _ _ hf => exact ⟨rfl, hf⟩, fun ⟨e, e'⟩ => by subst e; exact .ifc _ _ _ e'⟩
theorem bkAll_map {rs : List RV} : BkAll σ (rs.map .rv) (rs.map .rv) ↔ True := ⟨fun _ => trivial, fun _ => bkAll_iff.2 ⟨rfl, fun i x y hx hy => by
  rw [hx] at hy; cases hy
  rw [List.getElem?_map] at hx
  cases hr : rs[i]? with
  | none => simp [hr] at hx
  | some r => simp [hr] at hx; subst hx; exact .rv r⟩⟩
end
theorem rnAll_map {τ : Nat → Option Nat} {h : Hp} {rs qs : List RV} : RnAll τ h (rs.map .rv) (qs.map .rv) ↔ rs = qs := by
  induction rs generalizing qs with
  | nil => cases qs <;> simp [RnAll]
  | cons r rs ih => cases qs with
    | nil => simp [RnAll]
    | cons q qs => simp [RnAll, rn_rv, ih]

def BkHs (σ : Nat → Option Nat) : List HB → List HB → Prop
  | [], [] => True
  | .var xs :: r, .var ys :: q => BkAll σ xs ys ∧ BkHs σ r q
  | .row e v xs :: r, .row e' v' ys :: q => e = e' ∧ v = v' ∧ (xs = ys ∧ ∃ zs, xs = rvs zs) ∧ BkHs σ r q
  | _, _ => False

theorem BkHs.get {σ : Nat → Option Nat} : ∀ {a b : List HB}, BkHs σ a b → a.length = b.length ∧ ∀ (j : Nat) (x y : HB), a[j]? = some x → b[j]? = some y → BkH σ x y
  | [], [], _ => ⟨rfl, fun j x y hx => by simp at hx⟩
  | .var xs :: r, .var ys :: q, h => by
    obtain ⟨g1, g2⟩ := BkHs.get h.2
    refine ⟨by simp [g1], fun j x y hx hy => ?_⟩
    cases j with
    | zero => simp at hx hy; subst hx; subst hy; exact .var _ _ (bkAll_iff.1 h.1)
    | succ j => exact g2 j x y (by simpa using hx) (by simpa using hy)
  | .row e v xs :: r, .row e' v' ys :: q, h => by
    obtain ⟨rfl, rfl, ⟨rfl, zs, rfl⟩, h4⟩ := h
    obtain ⟨g1, g2⟩ := BkHs.get h4
    refine ⟨by simp [g1], fun j x y hx hy => ?_⟩
    cases j with
    | zero =>
      simp at hx hy; subst hx; subst hy
      refine .row _ _ _ _ rfl (fun i x y hx hy => ?_)
      rw [hx] at hy; cases hy
      unfold rvs at hx
      rw [List.getElem?_map] at hx
      cases hq : zs[i]? with
      | none => simp [hq] at hx
      | some z => simp [hq] at hx; subst hx; exact bkAll_iff.1 (bkAll_map.2 trivial)
    | succ j => exact g2 j x y (by simpa using hx) (by simpa using hy)
  | [], _ :: _, h => h.elim
  | .var _ :: _, [], h => h.elim
  | .row .. :: _, [], h => h.elim
  | .var _ :: _, .row .. :: _, h => h.elim
  | .row .. :: _, .var _ :: _, h => h.elim

/-- Calls that are handed things of the caller's. -/
theorem callR_M {P : Program} {f : FuncId} {N : Nat} {ac : AC} {rs : List RR} (H : FnOK P f N ac rs) (σ : List Nat) (hbs hbs' : List HB) (args0 args : List SV) (us : List (Nat × HB)) (sv : SV) (hN : args.length ≤ N) (hA : BkAll (fun j => σ[j]?) args0 args) (hl : hbs.length = σ.length) (hnd : nodupL (σ.map some)) (hB : BkHs (fun j => σ[j]?) hbs hbs')
    (hrun : ∀ K : Ex → St → Prop, (∀ env h env' h' τn, Ent σ.length ⟨env, h⟩ ⟨env', h'⟩ → retM σ (σ.zip hbs') us rs sv env' h' τn → K .normal ⟨env, h⟩ ∧ K .ret ⟨env, h⟩) → G P σ.length [.c ac] K (mkEnv 0 args0) (hbs.map some)) : CallR P f args (σ.zip hbs') us sv := by
  obtain ⟨g1, g2⟩ := hB.get
  refine callR_of H σ (hbs.map some) args0 hN (bkAll_iff.1 hA) (by simpa using hl) (fun i j id h1 h2 => nodupL_inj hnd i j id (by simp [h1]) (by simp [h2])) (fun j id hj => ?_) (fun K hK => hrun K (fun env h env' h' τn hE hr => hK env h env' h' _ hE (fin_retM hr)))
  have hlt := (List.getElem?_eq_some_iff.1 hj).1
  have h1 := List.getElem?_eq_getElem (l := hbs) (i := j) (by omega)
  have h2 := List.getElem?_eq_getElem (l := hbs') (i := j) (by omega)
  refine ⟨_, _, by rw [List.getElem?_map, h1]; rfl, ?_, g2 j _ _ h1 h2⟩
  have hz : (σ.zip hbs')[j]? = some (id, hbs'[j]'(by omega)) := by
    rw [List.getElem?_zip_eq_some]; exact ⟨hj, h2⟩
  exact List.mem_of_getElem? hz
theorem hget_zero {x : Option HB} {r : List (Option HB)} : hget (x :: r) 0 = x := rfl
theorem hget_succ {x : Option HB} {r : List (Option HB)} {n : Nat} : hget (x :: r) (n + 1) = hget r n := rfl
theorem gx_d {P : Program} {n0 : Nat} {k : List It} {K : Ex → St → Prop} {env : List (Nat × SV)} {h : List (Option HB)} {id : Nat} {a : List Nat} {b : List TE} {c : List AOp} : GX P n0 id (.d a b c :: k) K env h = GX P n0 id k K env h := rfl
theorem splice0 {α : Type} {o : Nat} {x l : List α} : splice l o x = l.take o ++ x ++ l.drop (o + x.length) := rfl

def FzAll (τ : Nat → Option Nat) (h : Hp) : List SV → List RV → Prop
  | [], [] => True
  | x :: xs, r :: rs => Fz τ h x r ∧ FzAll τ h xs rs
  | _, _ => False

theorem FzAll.get {τ : Nat → Option Nat} {h : Hp} : ∀ {xs : List SV} {rs : List RV}, FzAll τ h xs rs → xs.length = rs.length ∧ ∀ (j : Nat) (x : SV) (r : RV), xs[j]? = some x → rs[j]? = some r → Fz τ h x r
  | [], [], _ => ⟨rfl, fun j x r hx => by simp at hx⟩
  | x :: xs, r :: rs, hf => by
    obtain ⟨g1, g2⟩ := FzAll.get hf.2
    refine ⟨by simp [g1], fun j y q hy hq => ?_⟩
    cases j with
    | zero => simp at hy hq; subst hy; subst hq; exact hf.1
    | succ j => exact g2 j y q (by simpa using hy) (by simpa using hq)
  | [], _ :: _, h => h.elim
  | _ :: _, [], h => h.elim

theorem fz_rv {τ : Nat → Option Nat} {h : Hp} {r r' : RV} : Fz τ h (.rv r) r' ↔ r = r' := ⟨fun hf => by cases hf; rfl, fun e => by subst e; exact .rv r⟩

/-- A row of pure values, from now on only read. -/
theorem fz_row {τ : Nat → Option Nat} {h : Hp} {j e ver len : Nat} {xs : List (List RV)} (hj : h j = some (.row e ver (rvs xs))) (hτ : τ j = none) (hl : len ≤ xs.length) (h1 : ∀ x ∈ xs, ∀ r ∈ x, r.one = true) : Fz τ h (.row j ver len) (.sl e (xs.take len)) := by
  have at_ : ∀ (i : Nat) (x : List SV) (r : List RV), (rvs xs)[i]? = some x → (xs.take len)[i]? = some r → x = r.map .rv ∧ r ∈ xs := fun i x r hx hr => by
    have h1 := List.mem_of_mem_take (List.mem_of_getElem? hr)
    have hlt := (List.getElem?_eq_some_iff.1 hr).1
    rw [List.getElem?_take, if_pos (by simp at hlt; omega)] at hr
    unfold rvs at hx
    rw [List.getElem?_map, hr] at hx
    simp at hx
    exact ⟨hx.symm, h1⟩
  refine .row j e ver len (rvs xs) (xs.take len) hτ hj (by simp; omega) (by rw [rvs_len]; exact hl) (fun i x r hx hr => ?_) (fun i r k q hr hq => ?_) (fun i x r k y q hx hr hy hq => ?_)
  · rw [(at_ i x r hx hr).1]; simp
  · exact h1 r (List.mem_of_mem_take (List.mem_of_getElem? hr)) q (List.mem_of_getElem? hq)
  · rw [(at_ i x r hx hr).1, List.getElem?_map, hq] at hy
    simp at hy
    subst hy
    exact .rv q

theorem callR_lend {P : Program} {f : FuncId} {rs : List RV} {args : List SV} {pre us : List (Nat × HB)} {sv : SV} (H : CallR P f (rs.map .rv) [] us sv) 
    (hz : ∀ hp, PreOK hp pre → FzAll (fun _ => none) hp args rs) (hl : args.length = rs.length) (hfl : FlatS sv) (hus : ∀ q ∈ us, FlatH q.2 ∧ ∀ p ∈ pre, p.1 ≠ q.1) : CallR P f args pre us sv :=
  callR_borrow H hl (fun hp hpre j y r hy hr => (hz hp hpre).get.2 j y r hy hr) hfl hus

/-- A nil slice within a variable as a row without elements. -/
theorem RepH.ghostVar {C : Ctx} {hp : Hp} {w : World} {rho : Nat → Option Nat} (R : RepH C hp w rho) {i0 m o : Nat} {cs : List SV} (e : Nat) (hi : hp i0 = some (.var cs)) (ho : cs[o]? = some (.rv .nilsl)) (hm : hp m = none) (hm0 : C.h0 m = none) :
    ∃ rho', Step C hp (up (up hp m (some (.row e 0 []))) i0 (some (.var (cs.set o (.row m 0 0))))) w w rho rho' := by
  have S := R.ghost m e 0 (.inl ⟨hm, hm0⟩)
  have hne : i0 ≠ m := fun h => by subst h; rw [hm] at hi; cases hi
  have hi' : (up hp m (some (.row e 0 []))) i0 = some (.var cs) := by rw [up_other _ _ hne]; exact hi
  rcases S.mem.heap i0 _ hi' with ⟨_, e', ver, hc⟩ | ⟨b, cur, t, h1, h2, h3⟩
  · cases hc
  · have S2 := S.mem.replace i0 (.var (cs.set o (.row m 0 0))) b cur t rfl rfl rfl (Nat.le_refl _) h2 (fun k _ _ => rfl) (.inl ⟨by rw [hi']; rfl, h1⟩) (fun hb hq => by rw [hi'] at hq; cases hq; exact h1.symm) (fun hq => by rw [hi'] at hq; cases hq) ⟨by rw [List.length_set]; exact h3.1, fun j y hy => by
      rw [List.getElem?_set] at hy
      split at hy
      · rename_i hj
        subst hj
        split at hy
        · cases hy
          obtain ⟨v, v1, v2, v3⟩ := h3.2 _ _ ho
          refine ⟨v, v1, v2, ?_⟩
          cases v3 with
          | rv _ _ hr =>
            cases hr
            exact .row _ _ _ _ rfl (by rw [up_same]; rfl) (fun e ver0 xs hx => by rw [up_same] at hx; cases hx; exact Nat.le_refl _) (fun e xs hx => .inl ⟨up_same _ _ _, rfl, rfl⟩)
        · cases hy
      · exact h3.2 j y hy⟩
    exact ⟨_, S.trans S2 (Nat.le_refl _)⟩

theorem callR_ghost {P : Program} {f : FuncId} {args : List SV} {pre us : List (Nat × HB)} {sv : SV} {i0 m e o : Nat} {cs : List SV} (ho : cs[o]? = some (.rv .nilsl)) (hm : ∀ q ∈ pre, q.1 ≠ m ∧ q.1 ≠ i0) (hne : m ≠ i0) (h1 : i0 ∈ us.map (·.1)) (h2 : m ∈ us.map (·.1))
    (H : CallR P f args ((i0, .var (cs.set o (.row m 0 0))) :: (m, .row e 0 []) :: pre) us sv) : CallR P f args ((i0, .var cs) :: pre) us sv := by
  refine ⟨H.1, fun C hp w rho vs hpre hnew R hvl hvs => ?_⟩
  have hi : hp i0 = some (.var cs) := hpre (i0, .var cs) (by simp)
  obtain ⟨hmn, hm0⟩ : hp m = none ∧ C.h0 m = none := by
    obtain ⟨q, hq, rfl⟩ := List.mem_map.1 h2
    rcases hnew q hq with ⟨hb, hmem⟩ | h
    · rcases List.mem_cons.1 hmem with he | hmem
      · cases he; exact absurd rfl hne
      · exact absurd rfl (hm _ hmem).1
    · exact h
  obtain ⟨rho1, S⟩ := R.ghostVar e hi ho hmn hm0
  have hE : ∀ id, id ≠ m → id ≠ i0 → (up (up hp m (some (.row e 0 []))) i0 (some (.var (cs.set o (.row m 0 0))))) id = hp id := fun id a b => by rw [up_other _ _ b, up_other _ _ a]
  have hup : upl (up (up hp m (some (.row e 0 []))) i0 (some (.var (cs.set o (.row m 0 0))))) us = upl hp us := by
    funext id
    by_cases hid : id ∈ us.map (·.1)
    · exact upl_mem hid
    · rw [upl_or hid, upl_or hid, hE id (fun h => hid (h ▸ h2)) (fun h => hid (h ▸ h1))]
  refine (H.2 C _ w rho1 vs (fun q hq => ?_) (fun q hq => ?_) S.mem hvl (fun j s hj => (hvs j s hj).mono S.evo)).mono ?_
  · rcases List.mem_cons.1 hq with rfl | hq
    · exact up_same _ _ _
    · rcases List.mem_cons.1 hq with rfl | hq
      · show (up (up hp m _) i0 _) m = _
        rw [up_other _ _ hne, up_same]
      · rw [hE _ (hm q hq).1 (hm q hq).2]; exact hpre q (by simp [hq])
  · rcases hnew q hq with ⟨hb, hmem⟩ | ⟨a, b⟩
    · rcases List.mem_cons.1 hmem with he | hmem
      · exact .inl ⟨_, by rw [(Prod.mk.inj he).1]; exact .head _⟩
      · exact .inl ⟨hb, by simp [hmem]⟩
    · by_cases hqm : q.1 = m
      · exact .inl ⟨.row e 0 [], by rw [hqm]; simp⟩
      · refine .inr ⟨?_, b⟩
        rw [hE _ hqm (fun h => by rw [h, hi] at a; cases a)]; exact a
  · rintro e' w' ⟨v, rho', rfl, S2, hR⟩
    rw [hup] at S2 hR
    exact ⟨v, rho', rfl, S.trans S2 (Nat.le_refl _), hR⟩
theorem bneTT : (true != true) = false := rfl
theorem bneTF : (true != false) = true := rfl
theorem bneFT : (false != true) = true := rfl
theorem bneFF : (false != false) = false := rfl
end Go.Eng
