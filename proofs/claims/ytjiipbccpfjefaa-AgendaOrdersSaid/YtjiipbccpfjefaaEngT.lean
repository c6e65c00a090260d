/- From the evaluation of a function's code to its contract: the things handed in are renamed; what is new and given up is only read from then on. -/
import Derived.Test.YtjiipbccpfjefaaEngS
set_option linter.unusedSimpArgs false
set_option linter.unusedVariables false
namespace Go.Eng
open Go

/-- A value within the call is that value of the caller; σ tells the caller's number of each thing. -/
inductive Bk (σ : Nat → Option Nat) : SV → SV → Prop where
  | dead (y : SV) : Bk σ .dead y
  | rv (r : RV) : Bk σ (.rv r) (.rv r)
  | ptr (j id off : Nat) (h : σ j = some id) : Bk σ (.ptr j off) (.ptr id off)
  | ept (j id ver i off : Nat) (h : σ j = some id) : Bk σ (.ept j ver i off) (.ept id ver i off)
  | row (j id ver len : Nat) (h : σ j = some id) : Bk σ (.row j ver len) (.row id ver len)
  | agg (xs ys : List SV) (hl : xs.length = ys.length) (h : ∀ (i : Nat) (x y : SV), xs[i]? = some x → ys[i]? = some y → Bk σ x y) : Bk σ (.agg xs) (.agg ys)
  | tup (xs ys : List SV) (hl : xs.length = ys.length) (h : ∀ (i : Nat) (x y : SV), xs[i]? = some x → ys[i]? = some y → Bk σ x y) : Bk σ (.tup xs) (.tup ys)
  | fn (f : FuncId) (xs ys : List SV) (hl : xs.length = ys.length) (h : ∀ (i : Nat) (x y : SV), xs[i]? = some x → ys[i]? = some y → Bk σ x y) : Bk σ (.fn f xs) (.fn f ys)
  | ifc (t : TypeId) (x y : SV) (h : Bk σ x y) : Bk σ (.ifc t x) (.ifc t y)

def BkL (σ : Nat → Option Nat) (xs ys : List SV) : Prop := xs.length = ys.length ∧ ∀ (i : Nat) (x y : SV), xs[i]? = some x → ys[i]? = some y → Bk σ x y

inductive BkH (σ : Nat → Option Nat) : HB → HB → Prop where
  | var (xs ys : List SV) (h : BkL σ xs ys) : BkH σ (.var xs) (.var ys)
  | row (e ver : Nat) (xs ys : List (List SV)) (hl : xs.length = ys.length) (h : ∀ (i : Nat) (x y : List SV), xs[i]? = some x → ys[i]? = some y → BkL σ x y) : BkH σ (.row e ver xs) (.row e ver ys)

section entry
variable {w : World} {ok ok' : Nat → Prop} {rho rho' : Nat → Option Nat} {hp hp' : Hp} {σ : Nat → Option Nat}

/-- What the caller's value is, the value within the call is. -/
theorem Rp.back (hro : ∀ b, ok b → ok' b) (hs : ∀ j id, σ j = some id → rho' j = rho id ∧ ((hp id).isSome = true → (hp' j).isSome = true) ∧ (∀ cs, hp' j = some (.var cs) → ∃ cs', hp id = some (.var cs')) ∧ ∀ e ver xs, hp' j = some (.row e ver xs) → ∃ xs', hp id = some (.row e ver xs')) {x y : SV} {v : Value} (hr : Rp w ok rho hp y v) (hb : Bk σ x y) : Rp w ok' rho' hp' x v := by
  induction hb generalizing v with
  | dead y => exact .dead v
  | rv r => cases hr with | rv _ _ h => exact .rv r v (h.mono fun b hb _ => ⟨hro b hb, rfl⟩)
  | ptr j id off hj =>
    obtain ⟨g1, g2, g3, g4⟩ := hs j id hj
    cases hr with
    | ptr _ _ _ h1 h0 h =>
      refine .ptr j off v h1 (g2 h0) (fun cs hc => ?_)
      obtain ⟨cs', hc'⟩ := g3 cs hc
      rw [g1]; exact h cs' hc'
  | ept j id ver i off hj =>
    obtain ⟨g1, g2, g3, g4⟩ := hs j id hj
    cases hr with
    | ept _ _ _ _ _ h1 h0 hv h =>
      refine .ept j ver i off v h1 (g2 h0) (fun e ver0 xs hx => ?_) (fun e xs hx => ?_)
      · obtain ⟨xs', hx'⟩ := g4 e ver0 xs hx; exact hv e ver0 xs' hx'
      · obtain ⟨xs', hx'⟩ := g4 e ver xs hx; rw [g1]; exact h e xs' hx'
  | row j id ver len hj =>
    obtain ⟨g1, g2, g3, g4⟩ := hs j id hj
    cases hr with
    | row _ _ _ _ h1 h0 hv h =>
      refine .row j ver len v h1 (g2 h0) (fun e ver0 xs hx => ?_) (fun e xs hx => ?_)
      · obtain ⟨xs', hx'⟩ := g4 e ver0 xs hx; exact hv e ver0 xs' hx'
      · obtain ⟨xs', hx'⟩ := g4 e ver xs hx; rw [g1]; exact h e xs' hx'
  | agg xs ys hl h ih =>
    cases hr with
    | agg _ vs hvl h1 hy =>
      refine .agg xs vs (by omega) h1 (fun j x hx => ?_)
      have hlt := (List.getElem?_eq_some_iff.1 hx).1
      have hyj := List.getElem?_eq_getElem (l := ys) (i := j) (by omega)
      exact ih j x _ hx hyj (hy j _ hyj)
  | tup xs ys hl h ih =>
    cases hr with
    | tup _ vs hvl hy =>
      refine .tup xs vs (by omega) (fun j x hx => ?_)
      have hlt := (List.getElem?_eq_some_iff.1 hx).1
      have hyj := List.getElem?_eq_getElem (l := ys) (i := j) (by omega)
      exact ih j x _ hx hyj (hy j _ hyj)
  | fn f xs ys hl h ih =>
    cases hr with
    | fn _ _ vs hvl hy =>
      refine .fn f xs vs (by omega) (fun j x hx => ?_)
      have hlt := (List.getElem?_eq_some_iff.1 hx).1
      have hyj := List.getElem?_eq_getElem (l := ys) (i := j) (by omega)
      exact ih j x _ hx hyj (hy j _ hyj)
  | ifc t x y h ih => cases hr with | ifc _ _ v0 h0 => exact .ifc t x v0 (ih h0)

theorem CellsIn.back (hro : ∀ b, ok b → ok' b) (hs : ∀ j id, σ j = some id → rho' j = rho id ∧ ((hp id).isSome = true → (hp' j).isSome = true) ∧ (∀ cs, hp' j = some (.var cs) → ∃ cs', hp id = some (.var cs')) ∧ ∀ e ver xs, hp' j = some (.row e ver xs) → ∃ xs', hp id = some (.row e ver xs')) {cur : Array Value} {off : Nat} {xs ys : List SV} (h : CellsIn w ok rho hp cur off ys) (hb : BkL σ xs ys) : CellsIn w ok' rho' hp' cur off xs := fun j x hx => by
  obtain ⟨hl, hb⟩ := hb
  have hlt := (List.getElem?_eq_some_iff.1 hx).1
  have hyj := List.getElem?_eq_getElem (l := ys) (i := j) (by omega)
  obtain ⟨v, h1, h2, h3⟩ := h j _ hyj
  exact ⟨v, h1, h2, h3.back hro hs (hb j x _ hx hyj)⟩

theorem HBRep.back (hro : ∀ b, ok b → ok' b) (hs : ∀ j id, σ j = some id → rho' j = rho id ∧ ((hp id).isSome = true → (hp' j).isSome = true) ∧ (∀ cs, hp' j = some (.var cs) → ∃ cs', hp id = some (.var cs')) ∧ ∀ e ver xs, hp' j = some (.row e ver xs) → ∃ xs', hp id = some (.row e ver xs')) {j id : Nat} (hj : σ j = some id) {x y : HB} (h : HBRep w ok rho hp id y) (hb : BkH σ x y) : HBRep w ok' rho' hp' j x := by
  have g1 := (hs j id hj).1
  rcases h with ⟨h1, e, ver, rfl⟩ | ⟨b, cur, t, h1, h2, h3⟩
  · cases hb with
    | row _ _ xs _ hl _ =>
      have : xs = [] := List.eq_nil_of_length_eq_zero (by simpa using hl)
      subst this
      exact .inl ⟨g1.trans h1, e, ver, rfl⟩
  · refine .inr ⟨b, cur, t, g1.trans h1, h2, ?_⟩
    cases hb with
    | var xs ys hb => exact ⟨by rw [h3.1, hb.1], h3.2.back hro hs hb⟩
    | row e ver xs ys hl hb =>
      obtain ⟨a1, a2, a3⟩ := h3
      refine ⟨fun x hx => ?_, by rw [hl]; exact a2, fun i x hx => ?_⟩
      · obtain ⟨i, hi, rfl⟩ := List.mem_iff_getElem.1 hx
        have hy := List.getElem?_eq_getElem (l := ys) (i := i) (by omega)
        rw [(hb i _ _ (List.getElem?_eq_getElem hi) hy).1]
        exact a1 _ (List.getElem_mem _)
      · have hlt := (List.getElem?_eq_some_iff.1 hx).1
        have hy := List.getElem?_eq_getElem (l := ys) (i := i) (by omega)
        exact (a3 i _ hy).back hro hs (hb i x _ hx hy)
end entry

/-- What is given up: from now on only read. τ tells which things are kept. -/
inductive Fz (τ : Nat → Option Nat) (h : Hp) : SV → RV → Prop where
  | rv (r : RV) : Fz τ h (.rv r) r
  | ptr (j : Nat) (cs : List SV) (rs : List RV) (hj : τ j = none) (hh : h j = some (.var cs)) (hl : cs.length = rs.length) (h1 : ∀ (i : Nat) (r : RV), rs[i]? = some r → r.one = true) (hf : ∀ (i : Nat) (x : SV) (r : RV), cs[i]? = some x → rs[i]? = some r → Fz τ h x r) : Fz τ h (.ptr j 0) (.rop rs)
  | row (j e ver len : Nat) (xs : List (List SV)) (rs : List (List RV)) (hj : τ j = none) (hh : h j = some (.row e ver xs)) (hl : rs.length = len) (hx : len ≤ xs.length) (hm : ∀ (i : Nat) (x : List SV) (r : List RV), xs[i]? = some x → rs[i]? = some r → x.length = r.length)
      (h1 : ∀ (i : Nat) (r : List RV) (k : Nat) (q : RV), rs[i]? = some r → r[k]? = some q → q.one = true) (hf : ∀ (i : Nat) (x : List SV) (r : List RV) (k : Nat) (y : SV) (q : RV), xs[i]? = some x → rs[i]? = some r → x[k]? = some y → r[k]? = some q → Fz τ h y q) : Fz τ h (.row j ver len) (.sl e rs)
  | agg (cs : List SV) (rs : List RV) (hl : cs.length = rs.length) (h1 : ∀ (i : Nat) (r : RV), rs[i]? = some r → r.one = true) (hf : ∀ (i : Nat) (x : SV) (r : RV), cs[i]? = some x → rs[i]? = some r → Fz τ h x r) : Fz τ h (.agg cs) (.agg rs)
  | fn (f : FuncId) (cs : List SV) (rs : List RV) (hl : cs.length = rs.length) (hf : ∀ (i : Nat) (x : SV) (r : RV), cs[i]? = some x → rs[i]? = some r → Fz τ h x r) : Fz τ h (.fn f cs) (.fn f rs)
  | ifc (t : TypeId) (x : SV) (r : RV) (hf : Fz τ h x r) : Fz τ h (.ifc t x) (.ifc t r)

/-- The value of the call's end as the caller's. -/
inductive Rn (τ : Nat → Option Nat) (h : Hp) : SV → SV → Prop where
  | dead (x : SV) : Rn τ h x .dead
  | fz (x : SV) (r : RV) (hf : Fz τ h x r) : Rn τ h x (.rv r)
  | ptr (j id off : Nat) (hj : τ j = some id) : Rn τ h (.ptr j off) (.ptr id off)
  | ept (j id ver i off : Nat) (hj : τ j = some id) : Rn τ h (.ept j ver i off) (.ept id ver i off)
  | row (j id ver len : Nat) (hj : τ j = some id) : Rn τ h (.row j ver len) (.row id ver len)
  | agg (xs ys : List SV) (hl : xs.length = ys.length) (hf : ∀ (i : Nat) (x y : SV), xs[i]? = some x → ys[i]? = some y → Rn τ h x y) : Rn τ h (.agg xs) (.agg ys)
  | tup (xs ys : List SV) (hl : xs.length = ys.length) (hf : ∀ (i : Nat) (x y : SV), xs[i]? = some x → ys[i]? = some y → Rn τ h x y) : Rn τ h (.tup xs) (.tup ys)
  | fn (f : FuncId) (xs ys : List SV) (hl : xs.length = ys.length) (hf : ∀ (i : Nat) (x y : SV), xs[i]? = some x → ys[i]? = some y → Rn τ h x y) : Rn τ h (.fn f xs) (.fn f ys)
  | ifc (t : TypeId) (x y : SV) (hf : Rn τ h x y) : Rn τ h (.ifc t x) (.ifc t y)

def RnL (τ : Nat → Option Nat) (h : Hp) (xs ys : List SV) : Prop := xs.length = ys.length ∧ ∀ (i : Nat) (x y : SV), xs[i]? = some x → ys[i]? = some y → Rn τ h x y

inductive RnH (τ : Nat → Option Nat) (h : Hp) : HB → HB → Prop where
  | var (xs ys : List SV) (hf : RnL τ h xs ys) : RnH τ h (.var xs) (.var ys)
  | row (e ver : Nat) (xs ys : List (List SV)) (hl : xs.length = ys.length) (hf : ∀ (i : Nat) (x y : List SV), xs[i]? = some x → ys[i]? = some y → RnL τ h x y) : RnH τ h (.row e ver xs) (.row e ver ys)

section leave
variable {w : World} {ok ok' : Nat → Prop} {rho rho' : Nat → Option Nat} {hp hp' : Hp} {τ : Nat → Option Nat}

theorem Fz.ro (hro : ∀ b, ok' b → ok b) (hfz : ∀ j b, τ j = none → (hp' j).isSome = true → rho' j = some b → ok b) (hmem : ∀ j hb, hp' j = some hb → HBRep w ok' rho' hp' j hb) {x : SV} {r : RV} {v : Value} (hr : Rp w ok' rho' hp' x v) (hf : Fz τ hp' x r) : RO w ok r v := by
  induction hf generalizing v with
  | rv r => cases hr with | rv _ _ h => exact h.mono fun b hb _ => ⟨hro b hb, rfl⟩
  | ptr j cs rs hj hh hl ho hf ih =>
    cases hr with
    | ptr _ _ _ h1 h0 h =>
      obtain ⟨b, hb, rfl⟩ := h cs hh
      rcases hmem j _ hh with ⟨h1, _⟩ | ⟨b', cur, t, h1, h2, h3⟩
      · rw [hb] at h1; cases h1
      · rw [hb] at h1; cases h1
        have hcell : ∀ (i : Nat) (r : RV), rs[i]? = some r → ∃ u, w.cell? ((⟨b, 0, none⟩ : Addr).add i) = some u ∧ RO w ok r u ∧ r.one = true := fun i r hi => by
          have hlt := (List.getElem?_eq_some_iff.1 hi).1
          have hx := List.getElem?_eq_getElem (l := cs) (i := i) (by omega)
          obtain ⟨u, a1, a2, a3⟩ := h3.2 i _ hx
          refine ⟨u, ?_, ih i _ r hx hi a3, ho i r hi⟩
          rw [add_lit, cell_blk h2]; exact a1
        refine .rop rs ⟨b, 0, none⟩ (fun i => (w.cell? ((⟨b, 0, none⟩ : Addr).add i)).getD undef) (fun i r hi => ?_) (fun i r hi => ?_) (fun i r hi => ?_)
        · obtain ⟨u, a1, _⟩ := hcell i r hi
          exact ⟨hfz j b hj (by simp [hh]) hb, by rw [a1]; rfl⟩
        · obtain ⟨u, _, _, a3⟩ := hcell i r hi; exact a3
        · obtain ⟨u, a1, a2, _⟩ := hcell i r hi; rw [a1]; exact a2
  | row j e ver len xs rs hj hh hl hx hm ho hf ih =>
    cases hr with
    | row _ _ _ _ h1 h0 hv h =>
      rcases h e xs hh with ⟨g1, rfl, g3⟩ | ⟨b, cap, cur, t, g1, rfl, g3, g4, g5, g6⟩
      · have : rs = [] := List.eq_nil_of_length_eq_zero (by omega)
        subst this
        exact .sl e [] none 0 (fun _ _ => undef) (fun _ => ⟨rfl, rfl⟩) (by simp) (by simp [maxLen]) (by simp) (fun i x j y hx => by simp at hx) (fun i x j y hx => by simp at hx) (fun i x j y hx => by simp at hx)
      · rcases hmem j _ hh with ⟨h1, _⟩ | ⟨b', cur', t', k1, k2, k3⟩
        · rw [g1] at h1; cases h1
        · rw [g1] at k1; cases k1
          rw [g3] at k2; cases k2
          obtain ⟨a1, a2, a3⟩ := k3
          have hlen : ∀ (i : Nat) (r : List RV), rs[i]? = some r → ∃ x, xs[i]? = some x ∧ x.length = e ∧ x.length = r.length := fun i r hi => by
            have hlt := (List.getElem?_eq_some_iff.1 hi).1
            have hxi := List.getElem?_eq_getElem (l := xs) (i := i) (by omega)
            exact ⟨_, hxi, a1 _ (List.getElem_mem _), hm i _ r hxi hi⟩
          have hcell : ∀ (i : Nat) (r : List RV) (k : Nat) (q : RV), rs[i]? = some r → r[k]? = some q → ∃ u, w.cell? ((⟨b, 0, none⟩ : Addr).add (i * e + k)) = some u ∧ RO w ok q u ∧ q.one = true := fun i r k q hi hk => by
            obtain ⟨x, hxi, hxe, hxr⟩ := hlen i r hi
            have hlt := (List.getElem?_eq_some_iff.1 hk).1
            have hy := List.getElem?_eq_getElem (l := x) (i := k) (by omega)
            obtain ⟨u, b1, b2, b3⟩ := a3 i x hxi k _ hy
            refine ⟨u, ?_, ih i x r k _ q hxi hi hy hk b3, ho i r k q hi hk⟩
            rw [add_lit, cell_blk g3, Nat.zero_add]; exact b1
          rw [← hl]
          refine .sl e rs (some ⟨b, 0, none⟩) cap (fun i k => (w.cell? ((⟨b, 0, none⟩ : Addr).add (i * e + k))).getD undef) (fun h => by cases h) (by omega) g5 (fun r hr => ?_) (fun i r k q hi hk => ?_) (fun i r k q hi hk => ?_) (fun i r k q hi hk => ?_)
          · obtain ⟨i, hi, rfl⟩ := List.mem_iff_getElem.1 hr
            obtain ⟨x, _, b1, b2⟩ := hlen i _ (List.getElem?_eq_getElem hi)
            omega
          · obtain ⟨u, b1, _⟩ := hcell i r k q hi hk
            exact ⟨_, rfl, hfz j b hj (by simp [hh]) g1, by rw [b1]; rfl⟩
          · obtain ⟨u, _, _, b3⟩ := hcell i r k q hi hk; exact b3
          · obtain ⟨u, b1, b2, _⟩ := hcell i r k q hi hk; rw [b1]; exact b2
  | agg cs rs hl ho hf ih =>
    cases hr with
    | agg _ vs hvl h1 hy =>
      refine .agg rs vs (by omega) (fun i r hi => ?_) (fun i r hi => ?_)
      · have hlt := (List.getElem?_eq_some_iff.1 hi).1
        exact ho i r hi
      · have hlt := (List.getElem?_eq_some_iff.1 hi).1
        have hx := List.getElem?_eq_getElem (l := cs) (i := i) (by omega)
        exact ih i _ r hx hi (hy i _ hx)
  | fn f cs rs hl hf ih =>
    cases hr with
    | fn _ _ vs hvl hy =>
      refine .fn f rs vs (by omega) (fun i r hi => ?_)
      have hlt := (List.getElem?_eq_some_iff.1 hi).1
      have hx := List.getElem?_eq_getElem (l := cs) (i := i) (by omega)
      exact ih i _ r hx hi (hy i _ hx)
  | ifc t x r hf ih => cases hr with | ifc _ _ v0 h0 => exact .ifc t r v0 (ih h0)

theorem Rp.leave (hro : ∀ b, ok' b → ok b) (hfz : ∀ j b, τ j = none → (hp' j).isSome = true → rho' j = some b → ok b) (hmem : ∀ j hb, hp' j = some hb → HBRep w ok' rho' hp' j hb)
    (hs : ∀ j id, τ j = some id → rho' j = rho id ∧ ((hp' j).isSome = true → (hp id).isSome = true) ∧ (∀ cs, hp id = some (.var cs) → ∃ cs', hp' j = some (.var cs')) ∧ ∀ e ver xs, hp id = some (.row e ver xs) → ∃ xs', hp' j = some (.row e ver xs'))
    {x y : SV} {v : Value} (hr : Rp w ok' rho' hp' x v) (hf : Rn τ hp' x y) : Rp w ok rho hp y v := by
  induction hf generalizing v with
  | dead x => exact .dead v
  | fz x r hf => exact .rv r v (Fz.ro hro hfz hmem hr hf)
  | ptr j id off hj =>
    obtain ⟨g1, g2, g3, g4⟩ := hs j id hj
    cases hr with
    | ptr _ _ _ h1 h0 h =>
      refine .ptr id off v h1 (g2 h0) (fun cs hc => ?_)
      obtain ⟨cs', hc'⟩ := g3 cs hc
      rw [← g1]; exact h cs' hc'
  | ept j id ver i off hj =>
    obtain ⟨g1, g2, g3, g4⟩ := hs j id hj
    cases hr with
    | ept _ _ _ _ _ h1 h0 hv h =>
      refine .ept id ver i off v h1 (g2 h0) (fun e ver0 xs hx => ?_) (fun e xs hx => ?_)
      · obtain ⟨xs', hx'⟩ := g4 e ver0 xs hx; exact hv e ver0 xs' hx'
      · obtain ⟨xs', hx'⟩ := g4 e ver xs hx; rw [← g1]; exact h e xs' hx'
  | row j id ver len hj =>
    obtain ⟨g1, g2, g3, g4⟩ := hs j id hj
    cases hr with
    | row _ _ _ _ h1 h0 hv h =>
      refine .row id ver len v h1 (g2 h0) (fun e ver0 xs hx => ?_) (fun e xs hx => ?_)
      · obtain ⟨xs', hx'⟩ := g4 e ver0 xs hx; exact hv e ver0 xs' hx'
      · obtain ⟨xs', hx'⟩ := g4 e ver xs hx; rw [← g1]; exact h e xs' hx'
  | agg xs ys hl h ih =>
    cases hr with
    | agg _ vs hvl h1 hy =>
      refine .agg ys vs (by omega) h1 (fun j y hyj => ?_)
      have hlt := (List.getElem?_eq_some_iff.1 hyj).1
      have hx := List.getElem?_eq_getElem (l := xs) (i := j) (by omega)
      exact ih j _ y hx hyj (hy j _ hx)
  | tup xs ys hl h ih =>
    cases hr with
    | tup _ vs hvl hy =>
      refine .tup ys vs (by omega) (fun j y hyj => ?_)
      have hlt := (List.getElem?_eq_some_iff.1 hyj).1
      have hx := List.getElem?_eq_getElem (l := xs) (i := j) (by omega)
      exact ih j _ y hx hyj (hy j _ hx)
  | fn f xs ys hl h ih =>
    cases hr with
    | fn _ _ vs hvl hy =>
      refine .fn f ys vs (by omega) (fun j y hyj => ?_)
      have hlt := (List.getElem?_eq_some_iff.1 hyj).1
      have hx := List.getElem?_eq_getElem (l := xs) (i := j) (by omega)
      exact ih j _ y hx hyj (hy j _ hx)
  | ifc t x y h ih => cases hr with | ifc _ _ v0 h0 => exact .ifc t y v0 (ih h0)

theorem CellsIn.leave (hro : ∀ b, ok' b → ok b) (hfz : ∀ j b, τ j = none → (hp' j).isSome = true → rho' j = some b → ok b) (hmem : ∀ j hb, hp' j = some hb → HBRep w ok' rho' hp' j hb)
    (hs : ∀ j id, τ j = some id → rho' j = rho id ∧ ((hp' j).isSome = true → (hp id).isSome = true) ∧ (∀ cs, hp id = some (.var cs) → ∃ cs', hp' j = some (.var cs')) ∧ ∀ e ver xs, hp id = some (.row e ver xs) → ∃ xs', hp' j = some (.row e ver xs'))
    {cur : Array Value} {off : Nat} {xs ys : List SV} (h : CellsIn w ok' rho' hp' cur off xs) (hb : RnL τ hp' xs ys) : CellsIn w ok rho hp cur off ys := fun j y hyj => by
  obtain ⟨hl, hb⟩ := hb
  have hlt := (List.getElem?_eq_some_iff.1 hyj).1
  have hx := List.getElem?_eq_getElem (l := xs) (i := j) (by omega)
  obtain ⟨v, h1, h2, h3⟩ := h j _ hx
  exact ⟨v, h1, h2, h3.leave hro hfz hmem hs (hb j _ y hx hyj)⟩

theorem HBRep.leave (hro : ∀ b, ok' b → ok b) (hfz : ∀ j b, τ j = none → (hp' j).isSome = true → rho' j = some b → ok b) (hmem : ∀ j hb, hp' j = some hb → HBRep w ok' rho' hp' j hb)
    (hs : ∀ j id, τ j = some id → rho' j = rho id ∧ ((hp' j).isSome = true → (hp id).isSome = true) ∧ (∀ cs, hp id = some (.var cs) → ∃ cs', hp' j = some (.var cs')) ∧ ∀ e ver xs, hp id = some (.row e ver xs) → ∃ xs', hp' j = some (.row e ver xs'))
    {j id : Nat} (hj : τ j = some id) {x y : HB} (h : HBRep w ok' rho' hp' j x) (hb : RnH τ hp' x y) : HBRep w ok rho hp id y := by
  have g1 := (hs j id hj).1
  rcases h with ⟨h1, e, ver, rfl⟩ | ⟨b, cur, t, h1, h2, h3⟩
  · cases hb with
    | row _ _ _ ys hl _ =>
      have : ys = [] := List.eq_nil_of_length_eq_zero (by simpa using hl.symm)
      subst this
      exact .inl ⟨g1.symm.trans h1, e, ver, rfl⟩
  · refine .inr ⟨b, cur, t, g1.symm.trans h1, h2, ?_⟩
    cases hb with
    | var xs ys hb => exact ⟨h3.1.trans hb.1, h3.2.leave hro hfz hmem hs hb⟩
    | row e ver xs ys hl hb =>
      obtain ⟨a1, a2, a3⟩ := h3
      refine ⟨fun y hy => ?_, by rw [← hl]; exact a2, fun i y hy => ?_⟩
      · obtain ⟨i, hi, rfl⟩ := List.mem_iff_getElem.1 hy
        have hx := List.getElem?_eq_getElem (l := xs) (i := i) (by omega)
        rw [← (hb i _ _ hx (List.getElem?_eq_getElem hi)).1]
        exact a1 _ (List.getElem_mem _)
      · have hlt := (List.getElem?_eq_some_iff.1 hy).1
        have hx := List.getElem?_eq_getElem (l := xs) (i := i) (by omega)
        exact (a3 i _ hx).leave hro hfz hmem hs (hb i _ y hx hy)
end leave
end Go.Eng
