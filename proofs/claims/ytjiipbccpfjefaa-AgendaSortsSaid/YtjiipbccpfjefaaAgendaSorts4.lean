/- Part 4 of the proof: AS, EngZa, EngZb, EngZc, EngZd, B1, EngZe, B2, B3, B5, BF. -/
import Derived.Test.YtjiipbccpfjefaaAgendaSorts3
import Derived.Test.YtjiipbccpfjefaaProg
import Derived.KernelRfl
set_option linter.unusedSimpArgs false
set_option linter.unusedVariables false
/- agenda: the least, and what is in order, as plain lists. -/
namespace Go.Eng
open Go
theorem least_min (es : List Ent3) : ∀ k, k ≤ es.length → ∀ j, j < k → leE (ga es (leastUp es k).toNat) (ga es j)
  | 0, _, j, hj => by omega
  | k + 1, hk, j, hj => by
    have ih := least_min es k (by omega)
    unfold leastUp
    by_cases hc : leastUp es k < 0 ∨ lessB (ga es k) (ga es (leastUp es k).toNat) = true
    · rw [if_pos hc, Int.toNat_natCast]
      by_cases e : j = k
      · subst e; exact leE_refl _
      · have hj2 : j < k := by omega
        rcases hc with hc | hc
        · exfalso
          have : ∃ q, k = q + 1 := ⟨k - 1, by omega⟩
          obtain ⟨q, rfl⟩ := this
          have := leastUp_lt es q
          unfold leastUp at hc
          split at hc <;> omega
        · exact leE_trans (leE_lt (less_cmp.1 hc)) (ih j hj2)
    · rw [if_neg hc]
      have hc2 : ¬ lessB (ga es k) (ga es (leastUp es k).toNat) = true := fun h => hc (.inr h)
      rw [less_cmp] at hc2
      by_cases e : j = k
      · subst e; exact leE_ge hc2
      · exact ih j (by omega)
theorem least_le {es : List Ent3} {x : Ent3} (h : x ∈ es) : leE (ga es (leastN es)) x := by
  obtain ⟨j, hj, rfl⟩ := List.getElem_of_mem h
  rw [ga_eq hj]
  exact least_min es es.length (Nat.le_refl _) j hj
theorem without_perm {es : List Ent3} {i : Nat} (h : i < es.length) : es.Perm (ga es i :: without es i) := by
  unfold without
  rw [← ga_eq h]
  have : es = es.take i ++ (es[i] :: es.drop (i + 1)) := by rw [← List.drop_eq_getElem_cons h, List.take_append_drop]
  conv => lhs; rw [this]
  exact List.perm_middle
theorem least_perm {a b : List Ent3} (h : a.Perm b) (h0 : 0 < a.length) : ga a (leastN a) = ga b (leastN b) := by
  have hb : 0 < b.length := by rw [← h.length_eq]; exact h0
  exact leE_anti (least_le (h.symm.subset (ga_mem (leastN_lt b hb)))) (least_le (h.subset (ga_mem (leastN_lt a h0))))
theorem sortRef_nil : sortRef [] = [] := by unfold sortRef; rfl
theorem sortRef_cons {es : List Ent3} (h : 0 < es.length) : sortRef es = ga es (leastN es) :: sortRef (without es (leastN es)) := by
  rw [sortRef, dif_pos h]
theorem sortRef_perm : ∀ (m : Nat) (a b : List Ent3), a.length ≤ m → a.Perm b → sortRef a = sortRef b
  | m, a, b, hm, h => by
    by_cases h0 : 0 < a.length
    · have hb : 0 < b.length := by rw [← h.length_eq]; exact h0
      have e := least_perm h h0
      rw [sortRef_cons h0, sortRef_cons hb, e]
      congr 1
      match m, hm with
      | 0, hm => omega
      | m + 1, hm =>
        refine sortRef_perm m _ _ (by rw [without_len (leastN_lt a h0)]; omega) ?_
        have h1 := (without_perm (leastN_lt a h0)).symm.trans (h.trans (without_perm (leastN_lt b hb)))
        rw [e] at h1
        exact h1.cons_inv
    · have ha : a = [] := List.eq_nil_of_length_eq_zero (by omega)
      subst ha
      have hb : b = [] := h.symm.eq_nil
      rw [hb]
/-- The first in order, and the rest. -/
theorem sortRef_min {es r : List Ent3} {x : Ent3} (h : es.Perm (x :: r)) (hx : ∀ y ∈ es, leE x y) : sortRef es = x :: sortRef r := by
  have h0 : 0 < es.length := by rw [h.length_eq]; simp
  have e : ga es (leastN es) = x := leE_anti (least_le (h.symm.subset (by simp))) (hx _ (ga_mem (leastN_lt es h0)))
  rw [sortRef_cons h0, e]
  congr 1
  refine sortRef_perm _ _ _ (Nat.le_refl _) ?_
  have h1 := (without_perm (leastN_lt es h0)).symm.trans h
  rw [e] at h1
  exact h1.cons_inv

def sortedTo (es : List Ent3) : Nat → Bool
  | 0 => true
  | k + 1 => if cmpE (ga es (k + 1)) (ga es k) < 0 then false else sortedTo es k
theorem sortedTo_le {es : List Ent3} : ∀ k, sortedTo es k = true → ∀ i, i < k → leE (ga es i) (ga es (i + 1))
  | 0, _, i, hi => by omega
  | k + 1, h, i, hi => by
    unfold sortedTo at h
    split at h
    · simp at h
    · rename_i hc
      by_cases e : i = k
      · subst e; exact leE_ge hc
      · exact sortedTo_le k h i (by omega)
theorem sorted_id : ∀ (es : List Ent3), (∀ i, i + 1 < es.length → leE (ga es i) (ga es (i + 1))) → sortRef es = es
  | [], _ => sortRef_nil
  | x :: r, h => by
    have hall : ∀ i, i < (x :: r).length → leE x (ga (x :: r) i) := fun i => by
      induction i with
      | zero => intro _; exact leE_refl _
      | succ i ih => intro hi; exact leE_trans (ih (by omega)) (h i hi)
    rw [sortRef_min (List.Perm.refl _) (fun y hy => by
      obtain ⟨j, hj, rfl⟩ := List.getElem_of_mem hy
      rw [ga_eq hj]; exact hall j hj)]
    congr 1
    exact sorted_id r fun i hi => by
      have := h (i + 1) (by simp; omega)
      simpa [ga] using this
theorem sortedTo_id {es : List Ent3} (h : sortedTo es (es.length - 1) = true) : sortRef es = es :=
  sorted_id es fun i hi => sortedTo_le _ h i (by omega)
theorem sortRef_len : ∀ (m : Nat) (es : List Ent3), es.length ≤ m → (sortRef es).length = es.length
  | m, es, hm => by
    by_cases h0 : 0 < es.length
    · rw [sortRef_cons h0]
      match m, hm with
      | 0, hm => omega
      | m + 1, hm =>
        have hw := without_len (leastN_lt es h0)
        rw [List.length_cons, sortRef_len m _ (by omega), hw]; omega
    · have ha : es = [] := List.eq_nil_of_length_eq_zero (by omega)
      subst ha; rw [sortRef_nil]
/-- What a heap gives next. -/
theorem heap_next {es : List Ent3} {n : Nat} (hl : n ≤ es.length) (h0 : 0 < n) (h : HeapP es n) : sortRef (es.take n) = ga (popF es n) (n - 1) :: sortRef ((popF es n).take (n - 1)) := by
  obtain ⟨r1, r2, r3, r4⟩ := pop_ok hl h0 h
  rw [r2]
  refine sortRef_min r3 fun y hy => ?_
  obtain ⟨j, hj, rfl⟩ := List.getElem_of_mem hy
  rw [ga_eq hj, take_ga (by simp at hj; omega)]
  exact heap_min h j j (Nat.le_refl _) (by simp at hj; omega)
end Go.Eng

/- Splitting on conditions: with a hypothesis for each way. -/
namespace Go.Eng
open Go

section
variable {P : Program} {n0 : Nat} {k : List It} {K : Ex → St → Prop} {env : List (Nat × SV)} {h : List (Option HB)}

theorem cdT {a b : AC} : condI P n0 a b k K env h (.rv (.bool true)) = G P n0 (.c a :: k) K env h := rfl
theorem cdF {a b : AC} : condI P n0 a b k K env h (.rv (.bool false)) = G P n0 (.c b :: k) K env h := rfl
theorem cdS {a b : AC} {t : Bool} (h1 : t = true → G P n0 (.c a :: k) K env h) (h2 : t = false → G P n0 (.c b :: k) K env h) : condI P n0 a b k K env h (.rv (.bool t)) := by
  cases t
  · exact h2 rfl
  · exact h1 rfl

section
variable {ao : AO} {xs : List XO} {dst : Option Nat} {r : List AOp} {bef : List Nat} {acc : List TE} {rds : List Nat}
theorem gdTT : guardI P n0 true ao xs dst r k K env h (.rv (.bool true)) = opI P n0 ao (xs.map (evX (lk env))) dst r k K env h := rfl
theorem gdTF : guardI P n0 true ao xs dst r k K env h (.rv (.bool false)) = G P n0 (.o r :: k) K (putE dst (.tup []) env) h := rfl
theorem gdFT : guardI P n0 false ao xs dst r k K env h (.rv (.bool true)) = G P n0 (.o r :: k) K (putE dst (.tup []) env) h := rfl
theorem gdFF : guardI P n0 false ao xs dst r k K env h (.rv (.bool false)) = opI P n0 ao (xs.map (evX (lk env))) dst r k K env h := rfl
theorem gdU {b : Bool} : guardI P n0 b ao xs dst r k K env h (.tup []) = G P n0 (.o r :: k) K (putE dst (.tup []) env) h := rfl
theorem gddU {b : Bool} : guarddI P n0 bef acc rds b ao xs dst r k K env h (.tup []) = G P n0 (.d bef (acc ++ [⟨rds, dst, [], []⟩]) r :: k) K (putE dst (.tup []) env) h := rfl
theorem gdS {b t : Bool} (h1 : t = b → opI P n0 ao (xs.map (evX (lk env))) dst r k K env h) (h2 : t = !b → G P n0 (.o r :: k) K (putE dst (.tup []) env) h) : guardI P n0 b ao xs dst r k K env h (.rv (.bool t)) := by
  cases t <;> cases b <;> first | exact h1 rfl | exact h2 rfl
theorem gddTT : guarddI P n0 bef acc rds true ao xs dst r k K env h (.rv (.bool true)) = opdI P n0 bef acc rds ao (xs.map (evX (lk env))) dst r k K env h := rfl
theorem gddTF : guarddI P n0 bef acc rds true ao xs dst r k K env h (.rv (.bool false)) = G P n0 (.d bef (acc ++ [⟨rds, dst, [], []⟩]) r :: k) K (putE dst (.tup []) env) h := rfl
theorem gddFT : guarddI P n0 bef acc rds false ao xs dst r k K env h (.rv (.bool true)) = G P n0 (.d bef (acc ++ [⟨rds, dst, [], []⟩]) r :: k) K (putE dst (.tup []) env) h := rfl
theorem gddFF : guarddI P n0 bef acc rds false ao xs dst r k K env h (.rv (.bool false)) = opdI P n0 bef acc rds ao (xs.map (evX (lk env))) dst r k K env h := rfl
theorem gddS {b t : Bool} (h1 : t = b → opdI P n0 bef acc rds ao (xs.map (evX (lk env))) dst r k K env h) (h2 : t = !b → G P n0 (.d bef (acc ++ [⟨rds, dst, [], []⟩]) r :: k) K (putE dst (.tup []) env) h) : guarddI P n0 bef acc rds b ao xs dst r k K env h (.rv (.bool t)) := by
  cases t <;> cases b <;> first | exact h1 rfl | exact h2 rfl
end
end
theorem pkT {x y : SV} : pickE [.rv (.bool true), x, y] = some (True, x, none, []) := rfl
theorem pkF {x y : SV} : pickE [.rv (.bool false), x, y] = some (True, y, none, []) := rfl
theorem callR_nil {P : Program} {f : FuncId} {args : List SV} {pre us : List (Nat × HB)} (e : Nat) (h : CallR P f args pre us (.rv .nilsl)) : CallR P f args pre us (.rv (.sl e [])) := by
  refine ⟨h.1, fun C hp w rho vs a b c d f => (h.2 C hp w rho vs a b c d f).mono ?_⟩
  rintro e w' ⟨v, rho', rfl, S, hR⟩
  refine ⟨v, rho', rfl, S, ?_⟩
  cases hR with
  | rv _ _ hr =>
    cases hr
    exact .rv _ _ (.sl _ [] none 0 (fun _ _ => undef) (fun _ => ⟨rfl, rfl⟩) (by simp) (by simp [maxLen]) (by simp) (fun i x j y hx => by simp at hx) (fun i x j y hx => by simp at hx) (fun i x j y hx => by simp at hx))

/-- A row of pointers into one thing. -/
def ptrs (i : Nat) (os : List Nat) : List (List SV) := os.map fun o => [.ptr i o]
/-- Calls that take pure values, of any shape, and give pure values: all that is new is given up. -/
theorem callR_G {P : Program} {f : FuncId} {N : Nat} {ac : AC} {rs : List RR} (H : FnOK P f N ac rs) (args : List SV) (sv : SV) (hN : args.length ≤ N) (hA : BkAll (fun j => ([] : List Nat)[j]?) args args)
    (hrun : ∀ K : Ex → St → Prop, (∀ env h, retP (fun _ => none) (hget h) sv (resL (lk env) (hget h) rs) → K .normal ⟨env, h⟩ ∧ K .ret ⟨env, h⟩) → G P 0 [.c ac] K (mkEnv 0 args) []) : CallR P f args [] [] sv := by
  refine callR_of H [] [] args hN (bkAll_iff.1 hA) rfl (by simp) (by simp) (fun K hK => hrun K (fun env h hr => ?_))
  unfold retP at hr
  split at hr
  · rename_i p xs hres
    exact hK env h env h (fun _ => none) (ent_refl _ _) ⟨by simp, by simp, by simp, by simp, by simp, p, xs, hres, hr.1, hr.2⟩
  · exact hr.elim

theorem ret_t {τ : Nat → Option Nat} {h : Hp} {env : List (Nat × SV)} {n : Nat} {r : RV} (hl : lk env n = .rv r) : retP τ h (.rv r) (resL (lk env) h [.t n]) := by
  simp [resL, retP, resT, hl, rn_rv]
end Go.Eng

/- Nil slices within rows as rows without elements; giving up what a call leaves. -/
namespace Go.Eng
open Go

theorem ent_ghostv {n0 : Nat} {env : List (Nat × SV)} {h : List (Option HB)} (n e v : Nat) (hn : lk env n = .rv .nilsl) : Ent n0 ⟨env, h⟩ ⟨(n, .row h.length v 0) :: env, h ++ [some (.row e v [])]⟩ := by
  intro C a w R
  obtain ⟨⟨rho, RF⟩, h1, h0⟩ := R
  have hnone : hget h h.length = none := by unfold hget; rw [List.getElem?_eq_none (Nat.le_refl _)]
  have hC0 : C.h0 h.length = none := h0 _ h1
  have S := RF.mem.ghost h.length e v (.inl ⟨hnone, hC0⟩)
  have RF' := RF.step S
  have hh : hget (h ++ [some (.row e v [])]) = up (hget h) h.length (some (.row e v [])) := by
    have := hget_uph (h := h) (q := (h.length, .row e v [])) (Nat.le_refl _)
    rw [← this]
    unfold uph; rw [if_pos rfl]
  have hv := RF.env n
  rw [hn] at hv
  refine ⟨⟨up rho h.length none, ?_, fun m => ?_, RF'.size, RF'.defers⟩, ?_, h0⟩
  · show RepH C (hget (h ++ [some (.row e v [])])) w (up rho h.length none)
    rw [hh]; exact RF'.mem
  · show Rp w (okk C (up rho h.length none) (hget (h ++ [some (.row e v [])]))) (up rho h.length none) (hget (h ++ [some (.row e v [])])) (lk ((n, .row h.length v 0) :: env) m) _
    rw [hh, lk_put]
    by_cases hm : m = n
    · subst hm
      rw [up_same]
      cases hv with
      | rv _ _ hr =>
        generalize a.tmps.getD m undef = v at hr
        cases hr
        refine .row _ _ _ _ rfl (by rw [up_same]; rfl) (fun e ver0 xs hx => by rw [up_same] at hx; cases hx; exact Nat.le_refl _) (fun e xs hx => .inl ⟨up_same _ _ _, rfl, rfl⟩)
    · rw [up_other _ _ hm]; exact RF'.env m
  · show n0 ≤ (h ++ [some (HB.row e v [])]).length
    have h1' : n0 ≤ h.length := h1
    simp; omega

def ghRows (n : Nat) (e : Nat) : List (Option HB) := List.replicate n (some (.row e 0 []))
/-- A row of nil slices, k of them taken as rows. -/
def ghTab (b n k : Nat) : List (List SV) := (List.range n).map fun p => if p < k then [.row (b + p) 0 0] else [.rv .nilsl]

/-- All that a call leaves is given up. -/
theorem callR_give {P : Program} {f : FuncId} {rs : List RV} {us : List (Nat × HB)} {sv sv' : SV} (H : CallR P f (rs.map .rv) [] us sv) (hz : Rn (fun _ => none) (upl (fun _ => none) us) sv sv') (hp' : ∃ rs', sv' = .rv rs' ∨ ∃ qs : List RV, sv' = .tup (qs.map .rv)) : CallR P f (rs.map .rv) [] [] sv' := by
  refine ⟨H.1, fun C hp w rho vs hpre hnew R hvl hvs => ?_⟩
  let C2 : Ctx := ⟨w, fun b => okk C rho hp b, fun _ => False, C.N, fun _ => none, fun _ => none⟩
  have hok2 : ∀ b, C2.okE b → okk C2 (fun _ => none) (fun _ => none) b := fun b hb => ⟨.inl hb, fun id hid => by simp at hid⟩
  have R2 : RepH C2 (fun _ => none) w (fun _ => none) := ⟨fun id hb h => (by cases h), fun i j b h => (by simp at h), fun i b h => (by simp at h), ⟨rfl, rfl, rfl, Nat.le_refl _, fun b _ _ => rfl⟩, fun id hb hb0 h => (by cases h)⟩
  refine (H.2 C2 (fun _ => none) w (fun _ => none) vs (fun q hq => by simp at hq) (fun q hq => .inr ⟨rfl, rfl⟩) R2 hvl (fun j s hj => ?_)).mono ?_
  · have h1 := hvs j s hj
    rw [List.getElem?_map] at hj
    cases hr : rs[j]? with
    | none => simp [hr] at hj
    | some r =>
      simp [hr] at hj
      subst hj
      cases h1 with
      | rv _ _ h => exact .rv _ _ (h.mono fun b hb _ => ⟨hok2 b hb, rfl⟩)
  · rintro e w' ⟨v, rho', rfl, S, hR⟩
    have R' := S.mem
    have hsz : w.heap.size ≤ w'.heap.size := R'.fr.size
    have okM : ∀ b, okk C rho hp b → b < w.heap.size → okk C rho hp b ∧ w'.heap[b]? = w.heap[b]? := fun b hb hlt => ⟨hb, R'.fr.block b hlt (fun h => h)⟩
    have okN : ∀ b, w.heap.size ≤ b → okk C rho hp b := fun b hb => ⟨.inr (Nat.le_trans R.fr.size hb), fun id hid he => by have := (R.own id b hid he).2; omega⟩
    have E : Evo w w' (okk C rho hp) (okk C rho hp) rho rho hp hp := Evo.of okM (fun id hb hq => ⟨hb, hq, by
      cases hb with
      | var cs => rfl
      | row e ver xs => exact ⟨Nat.le_refl _, fun _ => ⟨rfl, rfl, fun b hb cur t hc => ⟨cur, t, by rw [R'.fr.block b (R.own id b (by rw [hq]; rfl) hb).2 (fun h => h)]; exact hc, rfl⟩⟩⟩⟩)
    have out : Rp w' (okk C rho hp) rho hp sv' v := hR.leave (τ := fun _ => none) (rho := rho) (hp := hp) (fun b hb => by
        rcases hb.1 with h | h
        · exact h
        · exact okN b h) (fun j b _ hs hb => by
        rcases (R'.own j b hs hb).1 with ⟨h, _⟩ | h
        · cases h
        · exact okN b h) (fun j hb hj => R'.heap j hb hj) (fun j id hj => by cases hj) hz
    refine ⟨v, rho, rfl, ⟨⟨fun id hb hq => ?_, R.inj, fun id b h1 h2 => ⟨(R.own id b h1 h2).1, by have := (R.own id b h1 h2).2; omega⟩, ⟨R'.fr.os.trans R.fr.os, R'.fr.tape.trans R.fr.tape, R'.fr.output.trans R.fr.output, Nat.le_trans R.fr.size hsz, fun b h1 h2 => ?_⟩, fun id hb hb0 h1 h2 => ?_⟩, E⟩, out⟩
    · have hq' : hp id = some hb := hq
      rcases R.heap id hb hq' with h | ⟨b, cur, t, a1, a2, a3⟩
      · exact .inl h
      · refine .inr ⟨b, cur, t, a1, ?_, a3.mono E⟩
        rw [R'.fr.block b (R.own id b (by rw [hq']; rfl) a1).2 (fun h => h)]; exact a2
    · have hb : b < w.heap.size := by have := R.fr.size; omega
      rw [R'.fr.block b hb (fun h => h)]
      exact R.fr.block b h1 h2
    · have hq' : hp id = some hb := h1
      refine (R.evo id hb hb0 hq' h2).trans ?_
      cases hb with
      | var cs => rfl
      | row e ver xs => exact ⟨Nat.le_refl _, fun _ => ⟨rfl, rfl, fun b hb cur t hc => ⟨cur, t, by rw [R'.fr.block b (R.own id b (by rw [hq']; rfl) hb).2 (fun h => h)]; exact hc, rfl⟩⟩⟩

/-- A row that a call leaves, given up. -/
theorem callR_giveRow {P : Program} {f : FuncId} {rs : List RV} {m e ver len : Nat} {xs : List (List RV)} (H : CallR P f (rs.map .rv) [] [(m, .row e ver (rvs xs))] (.row m ver len)) (hl : len = xs.length) (h1 : ∀ x ∈ xs, ∀ r ∈ x, r.one = true) : CallR P f (rs.map .rv) [] [] (.rv (.sl e xs)) :=
  callR_give H (rn_frz (by simp [upl, up]) rfl hl h1) ⟨_, .inl rfl⟩
end Go.Eng

/- Things at the end given up. -/
namespace Go.Eng
open Go

/-- A value leads only to the first n things. -/
inductive ClS (n : Nat) : SV → Prop where
  | dead : ClS n .dead
  | rv (r : RV) : ClS n (.rv r)
  | ptr (id off : Nat) (h : id < n) : ClS n (.ptr id off)
  | ept (id ver i off : Nat) (h : id < n) : ClS n (.ept id ver i off)
  | row (id ver len : Nat) (h : id < n) : ClS n (.row id ver len)
  | win (id ver off len : Nat) (h : id < n) : ClS n (.win id ver off len)
  | agg (cs : List SV) (h : ∀ (j : Nat) (y : SV), cs[j]? = some y → ClS n y) : ClS n (.agg cs)
  | tup (cs : List SV) (h : ∀ (j : Nat) (y : SV), cs[j]? = some y → ClS n y) : ClS n (.tup cs)
  | fn (f : FuncId) (cs : List SV) (h : ∀ (j : Nat) (y : SV), cs[j]? = some y → ClS n y) : ClS n (.fn f cs)
  | ifc (t : TypeId) (x : SV) (h : ClS n x) : ClS n (.ifc t x)

theorem ClS.rn {n : Nat} {h : Hp} {x : SV} (hc : ClS n x) : Rn (τk n) h x x := by
  induction hc with
  | dead => exact .dead _
  | rv r => exact .fz _ _ (.rv r)
  | ptr id off h => exact .ptr _ _ _ (by simp [τk, h])
  | ept id ver i off h => exact .ept _ _ _ _ _ (by simp [τk, h])
  | row id ver len h => exact .row _ _ _ _ (by simp [τk, h])
  | win id ver off len h => exact .win _ _ _ _ _ (by simp [τk, h])
  | agg cs h ih => exact .agg _ _ rfl (fun i x y hx hy => by rw [hx] at hy; cases hy; exact ih i x hx)
  | tup cs h ih => exact .tup _ _ rfl (fun i x y hx hy => by rw [hx] at hy; cases hy; exact ih i x hx)
  | fn f cs h ih => exact .fn _ _ _ rfl (fun i x y hx hy => by rw [hx] at hy; cases hy; exact ih i x hx)
  | ifc t x h ih => exact .ifc _ _ _ ih

def ClA (n : Nat) : List SV → Prop
  | [] => True
  | x :: r => ClS n x ∧ ClA n r
theorem ClA.get {n : Nat} : ∀ {l : List SV}, ClA n l → ∀ (j : Nat) (y : SV), l[j]? = some y → ClS n y
  | [], _, j, y, h => by simp at h
  | x :: r, hc, j, y, h => by
    cases j with
    | zero => simp at h; subst h; exact hc.1
    | succ j => exact hc.2.get j y (by simpa using h)
theorem clS_rv {n : Nat} {r : RV} : ClS n (.rv r) ↔ True := ⟨fun _ => trivial, fun _ => .rv r⟩
theorem clS_ptr {n i o : Nat} : ClS n (.ptr i o) ↔ i < n := ⟨fun h => by cases h; assumption, fun h => .ptr _ _ h⟩
theorem clS_row {n i v l : Nat} : ClS n (.row i v l) ↔ i < n := ⟨fun h => by cases h; assumption, fun h => .row _ _ _ h⟩
theorem clA_map {n : Nat} {rs : List RV} : ClA n (rs.map .rv) := by
  induction rs with
  | nil => trivial
  | cons r rs ih => exact ⟨.rv r, ih⟩

def ClH (n : Nat) : HB → Prop
  | .var cs => ClA n cs
  | .row _ _ xs => ∀ (i : Nat) (x : List SV), xs[i]? = some x → ClA n x
theorem clH_rvs {n e v : Nat} {xs : List (List RV)} : ClH n (.row e v (rvs xs)) := fun i x hx => by
  unfold rvs at hx
  rw [List.getElem?_map] at hx
  cases hq : xs[i]? with
  | none => simp [hq] at hx
  | some z => simp [hq] at hx; subst hx; exact clA_map

theorem ClH.rn {n : Nat} {h : Hp} {hb : HB} (hc : ClH n hb) : RnH (τk n) h hb hb := by
  cases hb with
  | var cs => exact .var _ _ ⟨rfl, fun i x y hx hy => by rw [hx] at hy; cases hy; exact (ClA.get hc i x hx).rn⟩
  | row e v xs => exact .row _ _ _ _ rfl (fun i x y hx hy => by
      rw [hx] at hy; cases hy
      exact ⟨rfl, fun j a b ha hb => by rw [ha] at hb; cases hb; exact (ClA.get (hc i x hx) j a ha).rn⟩)

def ClEnv (n : Nat) (env : List (Nat × SV)) : List (Nat × SV) → Prop
  | [] => True
  | (m, v) :: r => (v = .dead ∨ lk env m = v ∧ ClS n v) ∧ ClEnv n env r
theorem ClEnv.get {n : Nat} {env : List (Nat × SV)} : ∀ {env' : List (Nat × SV)}, ClEnv n env env' → ∀ p ∈ env', p.2 = .dead ∨ lk env p.1 = p.2 ∧ ClS n p.2
  | [], _, p, hp => by simp at hp
  | (m, v) :: r, h, p, hp => by
    rcases List.mem_cons.1 hp with rfl | hp
    · exact h.1
    · exact h.2.get p hp

def AllSome (P : HB → Prop) : List (Option HB) → Prop
  | [] => True
  | some hb :: r => P hb ∧ AllSome P r
  | none :: _ => False
theorem AllSome.get {P : HB → Prop} : ∀ {l : List (Option HB)}, AllSome P l → ∀ j, j < l.length → ∃ hb, l[j]? = some (some hb) ∧ P hb
  | [], _, j, hj => by simp at hj
  | some hb :: r, h, j, hj => by
    cases j with
    | zero => exact ⟨hb, rfl, h.1⟩
    | succ j => obtain ⟨x, a, b⟩ := h.2.get j (by simpa using hj); exact ⟨x, by simpa using a, b⟩
  | none :: r, h, _, _ => h.elim
theorem AllSome.of {P : HB → Prop} : ∀ {l : List (Option HB)}, (∀ (j : Nat) (x : Option HB), l[j]? = some x → ∃ hb, x = some hb ∧ P hb) → AllSome P l
  | [], _ => trivial
  | x :: r, h => by
    obtain ⟨hb, rfl, hp⟩ := h 0 x rfl
    exact ⟨hp, AllSome.of fun j y hy => h (j + 1) y (by simpa using hy)⟩

/-- What stands behind the first things is given up; none of the first leads there. -/
theorem ent_tail {n0 : Nat} {env env' : List (Nat × SV)} {h' C : List (Option HB)} (hn : n0 ≤ h'.length) (hC : AllSome (ClH h'.length) h') (he : ClEnv h'.length env env') : Ent n0 ⟨env, h' ++ C⟩ ⟨env', h'⟩ := by
  refine ent_gen (τk h'.length) hn (fun j i hj => ?_) (fun j hj => ?_) (fun j => ?_) (lk_dead_of (fun x => .dead x) (fun p hp => ?_))
  · unfold τk at hj; split at hj <;> cases hj; rfl
  · unfold τk at hj; split at hj
    · cases hj
    · omega
  · by_cases hj : j < h'.length
    · obtain ⟨hb, g1, g2⟩ := hC.get j hj
      exact .inl ⟨hb, hb, by simp [τk, hj], hget_some.2 (by rw [List.getElem?_append_left hj]; exact g1), hget_some.2 g1, g2.rn⟩
    · refine .inr ⟨?_, .inl (by simp [τk, hj])⟩
      unfold hget
      rw [List.getElem?_eq_none (by omega)]
  · rcases he.get p hp with h | ⟨h1, h2⟩
    · rw [h]; exact .dead _
    · rw [h1]; exact h2.rn
/-- Cells of a type, not to be unfolded. -/
structure TyC (P : Program) (n : Nat) (t : TypeId) (rs : List RV) : Prop where
  ty : tyC P n t rs
theorem tyFs_mono {P : Program} {f g : TypeId → List RV → Prop} (h : ∀ t rs, f t rs → g t rs) : ∀ {fs : List Field} {rs : List RV}, tyFs P f fs rs → tyFs P g fs rs
  | [], _, hf => hf
  | _ :: _, _, ⟨a, b, e, h1, h2⟩ => ⟨a, b, e, h _ _ h1, tyFs_mono h h2⟩
theorem tyC_int {P : Program} {n : Nat} {t : TypeId} {k : IntKind} {rs : List RV} (hu : P.underlying t = some (.int k)) (h : TyC P (n + 1) t rs) : ∃ i, rs = [.int k i] ∧ (Lit.int k i).wf = true := by
  have h := h.ty; unfold tyC at h; simp only [hu] at h; exact h
theorem tyC_slice {P : Program} {n : Nat} {t e : TypeId} {rs : List RV} (hu : P.underlying t = some (.slice e)) (h : TyC P (n + 1) t rs) : ∃ xs, rs = [.sl (P.cellsOf e) xs] ∧ xs.length ≤ maxLen ∧ ∀ x ∈ xs, TyC P n e x := by
  have h := h.ty; unfold tyC at h; simp only [hu] at h
  obtain ⟨xs, h1, h2, h3⟩ := h
  exact ⟨xs, h1, h2, fun x hx => ⟨h3 x hx⟩⟩
theorem tyC_struct {P : Program} {n : Nat} {t : TypeId} {fs : Array Field} {rs : List RV} (hu : P.underlying t = some (.struct fs)) (h : TyC P (n + 1) t rs) : tyFs P (TyC P n) fs.toList rs := by
  have h := h.ty; unfold tyC at h; simp only [hu] at h
  exact tyFs_mono (fun _ _ h => ⟨h⟩) h
theorem open_arg2 {P : Program} {H : Type} {enc : TypeId × Value → H} {w : World} {r : Reach} {b0 n : Nat} {t : TypeId} {v : Value} {d : DataW H} {ps : List MemPlace} (hf : flatT P n t = true) (hval : Value.okWide P w r b0 t v) (hd : DataW.Trod enc P w 0 (fun _ => true) true t v d ps) :
    ∃ rs, TyC P n t rs ∧ ∀ (ok : Nat → Prop) (rho : Nat → Option Nat) (hp : Hp), (∀ b, b < w.heap.size → ok b) → Rp w ok rho hp (argS P t rs) v := by
  obtain ⟨rs, h1, h2⟩ := open_arg hf hval hd ⟨w, fun _ => True, fun _ => True, 0, fun _ => .none, fun _ => .none⟩ (fun _ => .none)
  exact ⟨rs, ⟨h1⟩, h2⟩
theorem argS_one {P : Program} {t : TypeId} {r : RV} (h : aggT P t = some false) : argS P t [r] = .rv r := by
  unfold argS; rw [h]; rfl
end Go.Eng

/- The rules of the evaluation, under one name. -/
namespace Go.Eng
open Go
attribute [go_sem] g_nil g_skip g_reg g_regd g_seq g_block g_end g_cond g_ret g_exit gx_nil gx_c gx_o gx_d gx_b g_onil g_dnil g_op g_opg g_opd g_opdg callvI invI plainI opI callvdI invdI plaindI opdI opE o1 o2 ix2 loadE storeE boxE allLen bslE buildE fits fldE ixsE ixaE ixvE fldvE lenE lensE srcE appE bnd2 bndL bndH bnd0 bndE slcE slcC allocE nilchkE isNilSV ibinE ibin ishfE ishf eqnilE eqbE notE negE cviE mkslE mxE mnE extE isNilSl isNilFn isNilIf isNilO eqniloE eqsF eqsE cellsEq cellEq sbinE sbin ifcOf tasF tasE cellsSV cellsAll layO mkEnv lk hget_zero hget_succ putE uphO uph uphL evX rdsX uIds List.map_cons List.map_nil List.length_cons List.length_nil List.length_append List.length_map List.length_set List.set_cons_zero List.set_cons_succ List.cons_append List.nil_append List.append_nil List.getElem?_cons_zero List.getElem?_cons_succ List.getElem?_nil List.take_succ_cons List.take_zero List.drop_succ_cons List.drop_zero List.drop_nil List.take_nil Option.getD_some Option.getD_none Option.map_some Option.map_none true_and and_true Nat.zero_add Nat.add_zero decide_eq_true_eq Bool.false_eq_true rvs_len rvs_get rvs_fold rvs_take rvs_append Int.toNat_natCast bneTT bneTF bneFT bneFF Bool.not_true Bool.not_false splice0 slcaE clrE chunks cdT cdF gdTT gdTF gdFT gdFF gddTT gddTF gddFT gddFF gdU gddU pkT pkF
end Go.Eng

/- agenda: nothing in order; the statement on a nil one. -/
namespace Go.Eng
open Go
/- slices.IsSortedFunc[[]decoupage/agenda.Entry,decoupage/agenda.Entry] -/
def c_slices_IsSortedFunc_Entry : AC := (.seq (.reg [⟨(some 4), .mv, [(.c (.rv (.bool false)))], none⟩]) (.seq (.seq (.reg [⟨(some 6), .mv, [(.t 0)], none⟩, ⟨(some 7), .len, [(.t 6)], none⟩, ⟨(some 8), (.ibin .sub), [(.t 7), (.c (.rv (.int .i64 1)))], none⟩, ⟨(some 5), .mv, [(.t 8)], none⟩]) (.seq (.block 0 (.loop (.seq (.seq (.reg [⟨(some 9), .mv, [(.t 5)], none⟩, ⟨(some 10), (.ibin .gtr), [(.t 9), (.c (.rv (.int .i64 0)))], none⟩]) (.cond (.t 10) .skip (.exit 0))) (.seq (.seq (.block 1 (.seq (.regd [0, 0, 0, 6, 14, 0, 0, 64, 224, 480, 1023, 2047] [⟨(some 13), .mv, [(.t 1)], none⟩, ⟨(some 14), .mv, [(.t 0)], none⟩, ⟨(some 15), .mv, [(.t 5)], none⟩, ⟨(some 16), (.ixs 3), [(.t 14), (.t 15)], none⟩, ⟨(some 17), (.load 3 true), [(.t 16)], none⟩, ⟨(some 18), .mv, [(.t 0)], none⟩, ⟨(some 19), .mv, [(.t 5)], none⟩, ⟨(some 20), (.ibin .sub), [(.t 19), (.c (.rv (.int .i64 1)))], none⟩, ⟨(some 21), (.ixs 3), [(.t 18), (.t 20)], none⟩, ⟨(some 22), (.load 3 true), [(.t 21)], none⟩, ⟨(some 23), .callv, [(.t 13), (.t 17), (.t 22)], none⟩, ⟨(some 24), (.ibin .lss), [(.t 23), (.c (.rv (.int .i64 0)))], none⟩]) (.cond (.t 24) (.seq (.reg [⟨(some 4), .mv, [(.c (.rv (.bool false)))], none⟩]) .ret) .skip))) .ent) (.reg [⟨(some 11), .mv, [(.t 5)], none⟩, ⟨(some 12), (.ibin .sub), [(.t 11), (.c (.rv (.int .i64 1)))], none⟩, ⟨(some 5), .mv, [(.t 12)], none⟩]))))) .ent)) (.seq (.reg [⟨(some 4), .mv, [(.c (.rv (.bool true)))], none⟩]) .ret)))
theorem k_slices_IsSortedFunc_Entry : FnOK Go.Proofs.Try.prog 23 25 c_slices_IsSortedFunc_Entry [(.t 4)] := fnOK_of (by kernel_rfl)

/- slices.Clone[[]decoupage/agenda.Entry,decoupage/agenda.Entry] -/
def c_slices_Clone_Entry : AC := (.seq (.reg [⟨(some 2), .mv, [(.c (.rv .nilsl))], none⟩]) (.seq (.seq (.reg [⟨(some 3), .mv, [(.t 0)], none⟩, ⟨(some 4), (.eqnilo false 0), [(.t 3)], none⟩]) (.cond (.t 4) (.seq (.reg [⟨(some 2), .mv, [(.c (.rv .nilsl))], none⟩]) .ret) .skip)) (.seq (.reg [⟨(some 5), (.bsl 3), [], none⟩, ⟨(some 6), .mv, [(.t 0)], none⟩, ⟨(some 7), (.app 3 24), [(.t 5), (.t 6)], none⟩, ⟨(some 2), .mv, [(.t 7)], none⟩]) .ret)))
theorem k_slices_Clone_Entry : FnOK Go.Proofs.Try.prog 24 8 c_slices_Clone_Entry [(.t 2)] := fnOK_of (by kernel_rfl)

/- decoupage/agenda.Sorted -/
def c_agenda_Sorted : AC := (.seq (.reg [⟨(some 2), .mv, [(.c (.rv .nilsl))], none⟩]) (.seq (.seq (.reg [⟨(some 9), .mv, [(.t 0)], none⟩, ⟨(some 10), (.call 23), [(.t 9), (.c (.fn 8 []))], none⟩]) (.cond (.t 10) (.seq (.reg [⟨(some 11), .mv, [(.t 0)], none⟩, ⟨(some 12), (.call 24), [(.t 11)], none⟩, ⟨(some 2), .mv, [(.t 12)], none⟩]) .ret) .skip)) (.seq (.reg [⟨(some 3), (.alloc [.nilsl]), [], none⟩]) (.seq (.seq (.reg [⟨(some 13), .mv, [(.t 0)], none⟩, ⟨(some 14), .len, [(.t 13)], none⟩, ⟨(some 15), .mv, [(.c (.rv (.int .i64 0)))], none⟩]) (.seq (.block 0 (.loop (.seq (.reg [⟨(some 16), (.ibin .lss), [(.t 15), (.t 14)], none⟩]) (.seq (.cond (.t 16) .skip (.exit 0)) (.seq (.seq (.block 1 (.seq (.reg [⟨(some 17), (.ixs 3), [(.t 13), (.t 15)], none⟩, ⟨(some 18), (.load 3 true), [(.t 17)], none⟩, ⟨(some 5), (.alloc [(.int .i64 0), (.int .i64 0), (.int .i64 0)]), [], none⟩, ⟨none, (.store 3), [(.t 5), (.t 18)], none⟩]) (.reg [⟨(some 19), (.load 3 true), [(.t 5)], none⟩, ⟨(some 20), (.call 11), [(.t 3), (.t 19)], none⟩]))) .ent) (.reg [⟨(some 21), (.ibin .add), [(.t 15), (.c (.rv (.int .i64 1)))], none⟩, ⟨(some 15), .mv, [(.t 21)], none⟩])))))) .ent)) (.seq (.reg [⟨(some 6), .mv, [(.c (.rv .nilsl))], none⟩]) (.seq (.seq (.reg [⟨(some 23), (.call 12), [(.t 3)], none⟩, ⟨(some 22), .mv, [(.t 23)], none⟩, ⟨(some 24), (.ext 0), [(.t 22)], none⟩, ⟨(some 25), (.ext 1), [(.t 22)], none⟩, ⟨(some 7), (.alloc [(.int .i64 0), (.int .i64 0), (.int .i64 0)]), [], none⟩, ⟨none, (.store 3), [(.t 7), (.t 24)], none⟩, ⟨(some 8), .mv, [(.t 25)], none⟩]) (.seq (.block 2 (.loop (.seq (.seq (.reg [⟨(some 26), .mv, [(.t 8)], none⟩]) (.cond (.t 26) .skip (.exit 2))) (.seq (.seq (.block 3 (.reg [⟨(some 31), .mv, [(.t 6)], none⟩, ⟨(some 32), (.load 3 true), [(.t 7)], none⟩, ⟨(some 33), (.bsl 3), [(.t 32)], none⟩, ⟨(some 34), (.app 3 24), [(.t 31), (.t 33)], none⟩, ⟨(some 6), .mv, [(.t 34)], none⟩])) .ent) (.seq (.seq (.reg [⟨(some 35), (.load 3 true), [(.t 7)], none⟩]) (.reg [⟨(some 7), (.alloc [(.int .i64 0), (.int .i64 0), (.int .i64 0)]), [], none⟩, ⟨none, (.store 3), [(.t 7), (.t 35)], none⟩])) (.reg [⟨(some 28), (.call 12), [(.t 3)], none⟩, ⟨(some 27), .mv, [(.t 28)], none⟩, ⟨(some 29), (.ext 0), [(.t 27)], none⟩, ⟨(some 30), (.ext 1), [(.t 27)], none⟩, ⟨none, (.store 3), [(.t 7), (.t 29)], none⟩, ⟨(some 8), .mv, [(.t 30)], none⟩])))))) .ent)) (.seq (.reg [⟨(some 36), .mv, [(.t 6)], none⟩, ⟨(some 2), .mv, [(.t 36)], none⟩]) .ret)))))))
theorem k_agenda_Sorted : FnOK Go.Proofs.Try.prog 16 37 c_agenda_Sorted [(.t 2)] := fnOK_of (by kernel_rfl)

theorem nz_IsSorted : CallR Go.Proofs.Try.prog 23 [.rv .nilsl, .fn 8 []] [] [] (.rv (.bool true)) := by
  refine callR_G k_slices_IsSortedFunc_Entry [.rv .nilsl, .fn 8 []] _ (by simp) (by simp [BkAll, bk_agg, bkAll_map, bk_rv, bk_fn, Ent3.sv]) (fun K hK => ?_)
  have e1 : IntKind.i64.wrap (((0 : Nat) : Int) - 1) = -1 := by decide
  simp -implicitDefEqProofs only [c_slices_IsSortedFunc_Entry, go_sem, ↓reduceIte, Nat.reduceEqDiff, Nat.reduceAdd, Nat.reduceSub, Nat.reduceMul, Nat.reduceLeDiff, Nat.reduceLT, reduceCtorEq, Int.reduceToNat]
  repeat' (first | (simp -implicitDefEqProofs only [go_sem, ↓reduceIte, Nat.reduceEqDiff, Nat.reduceAdd, Nat.reduceSub, Nat.reduceMul, Nat.reduceLeDiff, Nat.reduceLT, reduceCtorEq, Int.reduceToNat, e1]) | (with_reducible refine g_noent ?_) | (refine cdS (fun hg => ?_) (fun hg => ?_) <;> try simp -implicitDefEqProofs only [hg, Bool.not_true, Bool.not_false]) | (refine gdS (fun hg => ?_) (fun hg => ?_) <;> try simp -implicitDefEqProofs only [hg, Bool.not_true, Bool.not_false]) | (refine gddS (fun hg => ?_) (fun hg => ?_) <;> try simp -implicitDefEqProofs only [hg, Bool.not_true, Bool.not_false]) | ((with_reducible apply And.intro); focus (first | trivial | omega | decide | (simp -implicitDefEqProofs only [maxLen]; omega) | (simp [maxLen, sty_len, nd_len, ndL_len, lnL_len, intsL_len, rvs_len, lensS_len]; done) | (simp [maxLen, sty_len, nd_len, ndL_len, lnL_len, intsL_len, rvs_len, lensS_len]; omega))) | fail)
  refine g_loop (ι := Unit) (fun _ => [(5, .rv (.int .i64 (-1)))]) (fun _ => []) (fun _ => True) (fun _ => 0) () trivial (ent_env (by simp [lk]; decide)) (fun _ _ K' hN hX hR => ?_)
  have e2 : decide ((-1 : Int) > 0) = false := rfl
  simp -implicitDefEqProofs only [go_sem, ↓reduceIte, Nat.reduceEqDiff, Nat.reduceAdd, Nat.reduceSub, Nat.reduceMul, Nat.reduceLeDiff, Nat.reduceLT, reduceCtorEq, Int.reduceToNat]
  repeat' (first | (simp -implicitDefEqProofs only [go_sem, ↓reduceIte, Nat.reduceEqDiff, Nat.reduceAdd, Nat.reduceSub, Nat.reduceMul, Nat.reduceLeDiff, Nat.reduceLT, reduceCtorEq, Int.reduceToNat, e2]) | (with_reducible refine g_noent ?_) | (refine cdS (fun hg => ?_) (fun hg => ?_) <;> try simp -implicitDefEqProofs only [hg, Bool.not_true, Bool.not_false]) | (refine gdS (fun hg => ?_) (fun hg => ?_) <;> try simp -implicitDefEqProofs only [hg, Bool.not_true, Bool.not_false]) | (refine gddS (fun hg => ?_) (fun hg => ?_) <;> try simp -implicitDefEqProofs only [hg, Bool.not_true, Bool.not_false]) | ((with_reducible apply And.intro); focus (first | trivial | omega | decide | (simp -implicitDefEqProofs only [maxLen]; omega) | (simp [maxLen, sty_len, nd_len, ndL_len, lnL_len, intsL_len, rvs_len, lensS_len]; done) | (simp [maxLen, sty_len, nd_len, ndL_len, lnL_len, intsL_len, rvs_len, lensS_len]; omega))) | fail)
  refine hX _ _ _ ?_
  repeat' (first | (simp -implicitDefEqProofs only [go_sem, ↓reduceIte, Nat.reduceEqDiff, Nat.reduceAdd, Nat.reduceSub, Nat.reduceMul, Nat.reduceLeDiff, Nat.reduceLT, reduceCtorEq, Int.reduceToNat]) | (with_reducible refine g_noent ?_) | (refine cdS (fun hg => ?_) (fun hg => ?_) <;> try simp -implicitDefEqProofs only [hg, Bool.not_true, Bool.not_false]) | (refine gdS (fun hg => ?_) (fun hg => ?_) <;> try simp -implicitDefEqProofs only [hg, Bool.not_true, Bool.not_false]) | (refine gddS (fun hg => ?_) (fun hg => ?_) <;> try simp -implicitDefEqProofs only [hg, Bool.not_true, Bool.not_false]) | ((with_reducible apply And.intro); focus (first | trivial | omega | decide | (simp -implicitDefEqProofs only [maxLen]; omega) | (simp [maxLen, sty_len, nd_len, ndL_len, lnL_len, intsL_len, rvs_len, lensS_len]; done) | (simp [maxLen, sty_len, nd_len, ndL_len, lnL_len, intsL_len, rvs_len, lensS_len]; omega))) | fail)
  exact (hK _ _ (ret_t rfl)).2
theorem nz_Clone : CallR Go.Proofs.Try.prog 24 [.rv .nilsl] [] [] (.rv .nilsl) := by
  refine callR_G k_slices_Clone_Entry [.rv .nilsl] _ (by simp) (by simp [BkAll, bk_agg, bkAll_map, bk_rv, bk_fn, Ent3.sv]) (fun K hK => ?_)
  simp -implicitDefEqProofs only [c_slices_Clone_Entry, go_sem, ↓reduceIte, Nat.reduceEqDiff, Nat.reduceAdd, Nat.reduceSub, Nat.reduceMul, Nat.reduceLeDiff, Nat.reduceLT, reduceCtorEq, Int.reduceToNat]
  repeat' (first | (simp -implicitDefEqProofs only [go_sem, ↓reduceIte, Nat.reduceEqDiff, Nat.reduceAdd, Nat.reduceSub, Nat.reduceMul, Nat.reduceLeDiff, Nat.reduceLT, reduceCtorEq, Int.reduceToNat]) | (with_reducible refine g_noent ?_) | (refine cdS (fun hg => ?_) (fun hg => ?_) <;> try simp -implicitDefEqProofs only [hg, Bool.not_true, Bool.not_false]) | (refine gdS (fun hg => ?_) (fun hg => ?_) <;> try simp -implicitDefEqProofs only [hg, Bool.not_true, Bool.not_false]) | (refine gddS (fun hg => ?_) (fun hg => ?_) <;> try simp -implicitDefEqProofs only [hg, Bool.not_true, Bool.not_false]) | ((with_reducible apply And.intro); focus (first | trivial | omega | decide | (simp -implicitDefEqProofs only [maxLen]; omega) | (simp [maxLen, sty_len, nd_len, ndL_len, lnL_len, intsL_len, rvs_len, lensS_len]; done) | (simp [maxLen, sty_len, nd_len, ndL_len, lnL_len, intsL_len, rvs_len, lensS_len]; omega))) | fail)
  exact (hK _ _ (ret_t rfl)).2
theorem nz_Sorted : CallR Go.Proofs.Try.prog 16 [.rv .nilsl] [] [] (.rv .nilsl) := by
  refine callR_G k_agenda_Sorted [.rv .nilsl] _ (by simp) (by simp [BkAll, bk_agg, bkAll_map, bk_rv, bk_fn, Ent3.sv]) (fun K hK => ?_)
  simp -implicitDefEqProofs only [c_agenda_Sorted, go_sem, ↓reduceIte, Nat.reduceEqDiff, Nat.reduceAdd, Nat.reduceSub, Nat.reduceMul, Nat.reduceLeDiff, Nat.reduceLT, reduceCtorEq, Int.reduceToNat]
  have hcall1 := nz_IsSorted; have hcall2 := nz_Clone; repeat' (first | (simp -implicitDefEqProofs only [go_sem, ↓reduceIte, Nat.reduceEqDiff, Nat.reduceAdd, Nat.reduceSub, Nat.reduceMul, Nat.reduceLeDiff, Nat.reduceLT, reduceCtorEq, Int.reduceToNat]) | (with_reducible refine g_noent ?_) | (with_reducible refine g_call0 hcall1 ?_) | (with_reducible refine g_calld0 hcall1 ?_) | (with_reducible refine g_call0 hcall2 ?_) | (with_reducible refine g_calld0 hcall2 ?_) | (refine cdS (fun hg => ?_) (fun hg => ?_) <;> try simp -implicitDefEqProofs only [hg, Bool.not_true, Bool.not_false]) | (refine gdS (fun hg => ?_) (fun hg => ?_) <;> try simp -implicitDefEqProofs only [hg, Bool.not_true, Bool.not_false]) | (refine gddS (fun hg => ?_) (fun hg => ?_) <;> try simp -implicitDefEqProofs only [hg, Bool.not_true, Bool.not_false]) | ((with_reducible apply And.intro); focus (first | trivial | omega | decide | (simp -implicitDefEqProofs only [maxLen]; omega) | (simp [maxLen, sty_len, nd_len, ndL_len, lnL_len, intsL_len, rvs_len, lensS_len]; done) | (simp [maxLen, sty_len, nd_len, ndL_len, lnL_len, intsL_len, rvs_len, lensS_len]; omega))) | fail)
  exact (hK _ _ (ret_t rfl)).2
end Go.Eng

/- Things of the call's own under other numbers. -/
namespace Go.Eng
open Go

theorem ent_ren {n0 : Nat} {env env' : List (Nat × SV)} {h h' : List (Option HB)} (τ : Nat → Option Nat) (σ : Nat → Nat) (hn : n0 ≤ h'.length)
    (h1 : ∀ j i, τ j = some i → σ i = j) (hlow : ∀ j i, τ j = some i → j < n0 ∨ i < n0 → i = j) (hkeep : ∀ j, τ j = none → n0 ≤ j)
    (hh : ∀ i hb', hget h' i = some hb' → τ (σ i) = some i ∧ ∃ hb, hget h (σ i) = some hb ∧ RnH τ (hget h) hb hb')
    (hsm : ∀ j i, τ j = some i → (hget h j).isSome = true → (hget h' i).isSome = true)
    (he : ∀ n, Rn τ (hget h) (lk env n) (lk env' n)) : Ent n0 ⟨env, h⟩ ⟨env', h'⟩ := by
  intro C a w R
  obtain ⟨⟨rho, RF⟩, _, h0⟩ := R
  have M := RF.mem
  have hsome : ∀ i, (hget h' i).isSome = true → τ (σ i) = some i ∧ (hget h (σ i)).isSome = true := fun i hi => by
    obtain ⟨hb', hb2⟩ := Option.isSome_iff_exists.1 hi
    obtain ⟨a1, hb, a2, _⟩ := hh i hb' hb2
    exact ⟨a1, by rw [a2]; rfl⟩
  have okIn : ∀ b, okk C rho (hget h) b → okk C (fun i => rho (σ i)) (hget h') b := fun b hb => ⟨hb.1, fun id hid => hb.2 (σ id) (hsome id hid).2⟩
  have okfz : ∀ j b, τ j = none → (hget h j).isSome = true → rho j = some b → okk C (fun i => rho (σ i)) (hget h') b := fun j b hj hs hb => by
    refine ⟨?_, fun id hid he => ?_⟩
    · rcases (M.own j b hs hb).1 with ⟨a1, _⟩ | a
      · rw [h0 j (hkeep j hj)] at a1; cases a1
      · exact .inr a
    · have := M.inj (σ id) j b (hsome id hid).2 hs he hb
      rw [← this, (hsome id hid).1] at hj; cases hj
  have hs : ∀ j i, τ j = some i → rho j = (fun i => rho (σ i)) i ∧ ((hget h j).isSome = true → (hget h' i).isSome = true) ∧ (∀ cs, hget h' i = some (.var cs) → ∃ cs', hget h j = some (.var cs')) ∧ ∀ e ver xs, hget h' i = some (.row e ver xs) → ∃ xs', hget h j = some (.row e ver xs') := fun j i hj => by
    have hσ := h1 j i hj
    refine ⟨by simp only [hσ], hsm j i hj, fun cs hc => ?_, fun e ver xs hc => ?_⟩
    · obtain ⟨_, hb, a1, a2⟩ := hh i _ hc
      rw [hσ] at a1
      cases a2 with
      | var xs _ _ => exact ⟨xs, a1⟩
    · obtain ⟨_, hb, a1, a2⟩ := hh i _ hc
      rw [hσ] at a1
      cases a2 with
      | row _ _ xs _ _ _ => exact ⟨xs, a1⟩
  refine ⟨⟨fun i => rho (σ i), ⟨⟨fun i hb' hi => ?_, fun i j b g1 g2 g3 g4 => ?_, fun j b g1 g2 => ?_, M.fr, fun i hb' hb0 g1 g2 => ?_⟩, fun n => (RF.env n).leave okIn okfz (fun j hb hj => M.heap j hb hj) hs (he n), RF.size, RF.defers⟩⟩, hn, h0⟩
  · obtain ⟨a1, hb, a2, a3⟩ := hh i hb' hi
    exact (M.heap (σ i) hb a2).leave okIn okfz (fun j hb hj => M.heap j hb hj) hs a1 a3
  · have e := M.inj (σ i) (σ j) b (hsome i g1).2 (hsome j g2).2 g3 g4
    have t1 := (hsome i g1).1
    rw [e, (hsome j g2).1] at t1
    cases t1; rfl
  · obtain ⟨a, b2⟩ := M.own (σ j) b (hsome j g1).2 g2
    refine ⟨?_, b2⟩
    rcases a with ⟨p1, p2, p3⟩ | a
    · have hlt : σ j < n0 := by
        apply Classical.byContradiction
        intro hc
        rw [h0 (σ j) (by omega)] at p1; cases p1
      have := hlow _ _ (hsome j g1).1 (.inl hlt)
      rw [← this] at p1 p2
      exact .inl ⟨p1, p2, p3⟩
    · exact .inr a
  · obtain ⟨a1, hb, a2, a3⟩ := hh i hb' g1
    have hlt : i < n0 := by
      apply Classical.byContradiction
      intro hc
      rw [h0 i (by omega)] at g2; cases g2
    have hi := hlow _ _ a1 (.inr hlt)
    rw [← hi] at a2
    have ev := M.evo i hb hb0 a2 g2
    rw [← hi]
    cases a3 with
    | var xs ys _ => cases hb0 <;> exact ev
    | row e ver xs ys _ _ => cases hb0 <;> exact ev

/-- One thing takes another's place: number j becomes i; what stands from m on is given up, and so is the old i. -/
def τm (i j m k : Nat) : Option Nat := if k = j then some i else if k = i then none else if k < m then some k else none
def σm (i j k : Nat) : Nat := if k = i then j else k
theorem ent_move {n0 : Nat} {env env' : List (Nat × SV)} {h h' : List (Option HB)} (i j : Nat) (hi : n0 ≤ i) (him : i < h'.length) (hj : h'.length ≤ j)
    (hh : ∀ k, k < h'.length → ∃ hb hb', hget h (σm i j k) = some hb ∧ hget h' k = some hb' ∧ RnH (τm i j h'.length) (hget h) hb hb')
    (he : ∀ p ∈ env', Rn (τm i j h'.length) (hget h) (lk env p.1) p.2) : Ent n0 ⟨env, h⟩ ⟨env', h'⟩ := by
  refine ent_ren (τm i j h'.length) (σm i j) (by omega) (fun a b hab => ?_) (fun a b hab hlt => ?_) (fun a ha => ?_) (fun k hb' hk => ?_) (fun a b hab hs => ?_) (lk_dead_of (fun x => .dead x) he)
  · unfold τm at hab; unfold σm
    split at hab
    · cases hab; simp_all
    · split at hab
      · cases hab
      · split at hab
        · cases hab; rw [if_neg (by assumption)]
        · cases hab
  · unfold τm at hab
    split at hab
    · cases hab; omega
    · split at hab
      · cases hab
      · split at hab
        · cases hab; rfl
        · cases hab
  · unfold τm at ha
    split at ha
    · cases ha
    · split at ha
      · omega
      · split at ha
        · cases ha
        · omega
  · have hk2 : k < h'.length := by
      apply Classical.byContradiction
      intro hc
      unfold hget at hk
      rw [List.getElem?_eq_none (by omega)] at hk; cases hk
    obtain ⟨hb, hb2, a1, a2, a3⟩ := hh k hk2
    rw [a2] at hk; cases hk
    refine ⟨?_, hb, a1, a3⟩
    unfold σm τm
    by_cases e : k = i
    · simp [e]
    · rw [if_neg e, if_neg (by omega), if_neg e, if_pos hk2]
  · have hb : b < h'.length := by
      unfold τm at hab
      split at hab
      · cases hab; exact him
      · split at hab
        · cases hab
        · split at hab
          · cases hab; assumption
          · cases hab
    obtain ⟨_, hb', _, a2, _⟩ := hh b hb
    rw [a2]; rfl
end Go.Eng

/- agenda: is it in order; copies. -/
namespace Go.Eng
open Go

theorem ent_cells {es : List Ent3} {k : Nat} (h : k < es.length) : (cellsL es)[k]?.getD [] = [.int .i64 (ga es k).key, .int .i64 (ga es k).tie, .int .i64 (ga es k).n] := by
  rw [← ga_eq h]; simp [cellsL, h, Ent3.cells]

theorem sp_IsSorted (es : List Ent3) (h0 : 0 < es.length) (hb : es.length < 100000) : CallR Go.Proofs.Try.prog 23 [.rv (.sl 3 (cellsL es)), .fn 8 []] [] [] (.rv (.bool (sortedTo es (es.length - 1)))) := by
  refine callR_G k_slices_IsSortedFunc_Entry [.rv (.sl 3 (cellsL es)), .fn 8 []] _ (by simp) (by simp [BkAll, bk_agg, bkAll_map, bk_rv, bk_fn, Ent3.sv]) (fun K hK => ?_)
  have hlen : (cellsL es).length = es.length := by simp [cellsL]
  have w0 : IntKind.i64.wrap ((es.length : Int) - 1) = ((es.length - 1 : Nat) : Int) := by rw [wrap_i64 (by omega) (by omega)]; omega
  simp -implicitDefEqProofs only [c_slices_IsSortedFunc_Entry, go_sem, ↓reduceIte, Nat.reduceEqDiff, Nat.reduceAdd, Nat.reduceSub, Nat.reduceMul, Nat.reduceLeDiff, Nat.reduceLT, reduceCtorEq, Int.reduceToNat]
  repeat' (first | (simp -implicitDefEqProofs only [go_sem, ↓reduceIte, Nat.reduceEqDiff, Nat.reduceAdd, Nat.reduceSub, Nat.reduceMul, Nat.reduceLeDiff, Nat.reduceLT, reduceCtorEq, Int.reduceToNat, hlen, w0]) | (with_reducible refine g_noent ?_) | (refine cdS (fun hg => ?_) (fun hg => ?_) <;> try simp -implicitDefEqProofs only [hg, Bool.not_true, Bool.not_false]) | (refine gdS (fun hg => ?_) (fun hg => ?_) <;> try simp -implicitDefEqProofs only [hg, Bool.not_true, Bool.not_false]) | (refine gddS (fun hg => ?_) (fun hg => ?_) <;> try simp -implicitDefEqProofs only [hg, Bool.not_true, Bool.not_false]) | ((with_reducible apply And.intro); focus (first | trivial | omega | decide | (simp -implicitDefEqProofs only [maxLen]; omega) | (simp [maxLen, sty_len, nd_len, ndL_len, lnL_len, intsL_len, rvs_len, lensS_len]; done) | (simp [maxLen, sty_len, nd_len, ndL_len, lnL_len, intsL_len, rvs_len, lensS_len]; omega))) | fail)
  refine g_loop (ι := Nat) (fun k => [(5, .rv (.int .i64 k)), (0, .rv (.sl 3 (cellsL es))), (1, .fn 8 [])]) (fun _ => []) (fun k => k ≤ es.length - 1 ∧ sortedTo es k = sortedTo es (es.length - 1)) (fun k => k) (es.length - 1) ⟨Nat.le_refl _, rfl⟩ (ent_env (by simp [lk])) (fun k hk K' hN hX hR => ?_)
  obtain ⟨hk1, hk2⟩ := hk
  simp -implicitDefEqProofs only [go_sem, ↓reduceIte, Nat.reduceEqDiff, Nat.reduceAdd, Nat.reduceSub, Nat.reduceMul, Nat.reduceLeDiff, Nat.reduceLT, reduceCtorEq, Int.reduceToNat]
  refine cdS (fun hg => ?_) (fun hg => ?_)
  · obtain ⟨q, rfl⟩ : ∃ q, k = q + 1 := ⟨k - 1, by simp at hg; omega⟩
    have hx := ent_cells (es := es) (k := q + 1) (by omega)
    have hy := ent_cells (es := es) (k := q) (by omega)
    have w1 : IntKind.i64.wrap (((q + 1 : Nat) : Int) - 1) = ((q : Nat) : Int) := by rw [wrap_i64 (by omega) (by omega)]; omega
    have hc := sp8 (ga es (q + 1)) (ga es q)
    simp -implicitDefEqProofs only [Ent3.sv] at hc
    by_cases h1 : cmpE (ga es (q + 1)) (ga es q) < 0
    · have e1 : decide (cmpE (ga es (q + 1)) (ga es q) < 0) = true := decide_eq_true h1
      have hcall1 := hc; repeat' (first | (simp -implicitDefEqProofs only [go_sem, ↓reduceIte, Nat.reduceEqDiff, Nat.reduceAdd, Nat.reduceSub, Nat.reduceMul, Nat.reduceLeDiff, Nat.reduceLT, reduceCtorEq, Int.reduceToNat, hlen, hx, hy, w1, e1]) | (with_reducible refine g_noent ?_) | (with_reducible refine g_call0 hcall1 ?_) | (with_reducible refine g_calld0 hcall1 ?_) | (refine cdS (fun hg => ?_) (fun hg => ?_) <;> try simp -implicitDefEqProofs only [hg, Bool.not_true, Bool.not_false]) | (refine gdS (fun hg => ?_) (fun hg => ?_) <;> try simp -implicitDefEqProofs only [hg, Bool.not_true, Bool.not_false]) | (refine gddS (fun hg => ?_) (fun hg => ?_) <;> try simp -implicitDefEqProofs only [hg, Bool.not_true, Bool.not_false]) | ((with_reducible apply And.intro); focus (first | trivial | omega | decide | (simp -implicitDefEqProofs only [maxLen]; omega) | (simp [maxLen, sty_len, nd_len, ndL_len, lnL_len, intsL_len, rvs_len, lensS_len]; done) | (simp [maxLen, sty_len, nd_len, ndL_len, lnL_len, intsL_len, rvs_len, lensS_len]; omega))) | fail)
      refine hR _ _ (hK _ _ (ret_t ?_)).2
      rw [← hk2, sortedTo, if_pos h1]; rfl
    · have e1 : decide (cmpE (ga es (q + 1)) (ga es q) < 0) = false := decide_eq_false h1
      have hcall2 := hc; repeat' (first | (simp -implicitDefEqProofs only [go_sem, ↓reduceIte, Nat.reduceEqDiff, Nat.reduceAdd, Nat.reduceSub, Nat.reduceMul, Nat.reduceLeDiff, Nat.reduceLT, reduceCtorEq, Int.reduceToNat, hlen, hx, hy, w1, e1]) | (with_reducible refine g_noent ?_) | (with_reducible refine g_call0 hcall2 ?_) | (with_reducible refine g_calld0 hcall2 ?_) | (refine cdS (fun hg => ?_) (fun hg => ?_) <;> try simp -implicitDefEqProofs only [hg, Bool.not_true, Bool.not_false]) | (refine gdS (fun hg => ?_) (fun hg => ?_) <;> try simp -implicitDefEqProofs only [hg, Bool.not_true, Bool.not_false]) | (refine gddS (fun hg => ?_) (fun hg => ?_) <;> try simp -implicitDefEqProofs only [hg, Bool.not_true, Bool.not_false]) | ((with_reducible apply And.intro); focus (first | trivial | omega | decide | (simp -implicitDefEqProofs only [maxLen]; omega) | (simp [maxLen, sty_len, nd_len, ndL_len, lnL_len, intsL_len, rvs_len, lensS_len]; done) | (simp [maxLen, sty_len, nd_len, ndL_len, lnL_len, intsL_len, rvs_len, lensS_len]; omega))) | fail)
      refine hN q _ _ ⟨by omega, ?_⟩ (by omega) (ent_env (by simp [lk]))
      rw [← hk2]; conv => rhs; rw [sortedTo, if_neg h1]
  · obtain rfl : k = 0 := by simp at hg; omega
    simp -implicitDefEqProofs only [go_sem, ↓reduceIte, Nat.reduceEqDiff, Nat.reduceAdd, Nat.reduceSub, Nat.reduceMul, Nat.reduceLeDiff, Nat.reduceLT, reduceCtorEq, Int.reduceToNat]
    refine hX _ _ _ ?_
    repeat' (first | (simp -implicitDefEqProofs only [go_sem, ↓reduceIte, Nat.reduceEqDiff, Nat.reduceAdd, Nat.reduceSub, Nat.reduceMul, Nat.reduceLeDiff, Nat.reduceLT, reduceCtorEq, Int.reduceToNat]) | (with_reducible refine g_noent ?_) | (refine cdS (fun hg => ?_) (fun hg => ?_) <;> try simp -implicitDefEqProofs only [hg, Bool.not_true, Bool.not_false]) | (refine gdS (fun hg => ?_) (fun hg => ?_) <;> try simp -implicitDefEqProofs only [hg, Bool.not_true, Bool.not_false]) | (refine gddS (fun hg => ?_) (fun hg => ?_) <;> try simp -implicitDefEqProofs only [hg, Bool.not_true, Bool.not_false]) | ((with_reducible apply And.intro); focus (first | trivial | omega | decide | (simp -implicitDefEqProofs only [maxLen]; omega) | (simp [maxLen, sty_len, nd_len, ndL_len, lnL_len, intsL_len, rvs_len, lensS_len]; done) | (simp [maxLen, sty_len, nd_len, ndL_len, lnL_len, intsL_len, rvs_len, lensS_len]; omega))) | fail)
    refine (hK _ _ (ret_t ?_)).2
    rw [← hk2]; rfl

theorem sp_Clone (es : List Ent3) (m : Nat) (h0 : 0 < es.length) (hb : es.length < 100000) : CallR Go.Proofs.Try.prog 24 [.rv (.sl 3 (cellsL es))] [] [(m, .row 3 1 (rvs (cellsL es)))] (.row m 1 es.length) := by
  have hlen : (cellsL es).length = es.length := by simp [cellsL]
  refine callR_M k_slices_Clone_Entry [] [] [] [.rv (.sl 3 (cellsL es))] [.rv (.sl 3 (cellsL es))] _ _ (by simp) (by simp [BkAll, bk_ptr, bk_row, bk_rv, bk_agg, bk_ifc, bk_fn, bk_tup, bk_dead, BkHs, rvs_inj, nodupL]) rfl (by simp [nodupL]) (by simp [BkHs]) (fun K hK => ?_)
  simp -implicitDefEqProofs only [c_slices_Clone_Entry, go_sem, ↓reduceIte, Nat.reduceEqDiff, Nat.reduceAdd, Nat.reduceSub, Nat.reduceMul, Nat.reduceLeDiff, Nat.reduceLT, reduceCtorEq, Int.reduceToNat]
  repeat' (first | (simp -implicitDefEqProofs only [go_sem, ↓reduceIte, Nat.reduceEqDiff, Nat.reduceAdd, Nat.reduceSub, Nat.reduceMul, Nat.reduceLeDiff, Nat.reduceLT, reduceCtorEq, Int.reduceToNat, hlen, rvs_fold]) | (with_reducible refine g_noent ?_) | (refine cdS (fun hg => ?_) (fun hg => ?_) <;> try simp -implicitDefEqProofs only [hg, Bool.not_true, Bool.not_false]) | (refine gdS (fun hg => ?_) (fun hg => ?_) <;> try simp -implicitDefEqProofs only [hg, Bool.not_true, Bool.not_false]) | (refine gddS (fun hg => ?_) (fun hg => ?_) <;> try simp -implicitDefEqProofs only [hg, Bool.not_true, Bool.not_false]) | ((with_reducible apply And.intro); focus (first | trivial | omega | decide | (simp -implicitDefEqProofs only [maxLen]; omega) | (simp [maxLen, sty_len, nd_len, ndL_len, lnL_len, intsL_len, rvs_len, lensS_len]; done) | (simp [maxLen, sty_len, nd_len, ndL_len, lnL_len, intsL_len, rvs_len, lensS_len]; omega))) | fail)
  refine (hK _ _ _ _ [some m] (ent_refl _ _) ?_).2
  simp [retM, nodupL, newL, allU, keptL, retP, resL, lk, resT, RnHo, lkp, finU, hget_zero, hget_succ, hget, rnRows_rvs, rn_tup, rn_rv, rn_row, rn_ptr, rn_ifc, rn_agg, rn_dead, RnAll, ofL, rnAll_map, hlen]
end Go.Eng

/- agenda: Sorted. -/
namespace Go.Eng
open Go
theorem rh_var {τ : Nat → Option Nat} {h : Hp} {rs : List RV} : RnH τ h (.var (rs.map .rv)) (.var (rs.map .rv)) := .var _ _ (rnAll_iff.1 (rnAll_map.2 rfl))
theorem rh_rvs {τ : Nat → Option Nat} {h : Hp} {e v : Nat} {xs : List (List RV)} : RnH τ h (.row e v (rvs xs)) (.row e v (rvs xs)) := by
  obtain ⟨a, b⟩ := rnRows_rvs (τ := τ) (h := h) (xs := xs) (ys := xs) |>.2 rfl
  exact .row _ _ _ _ a b
theorem rh_vrow {τ : Nat → Option Nat} {h : Hp} {i j v n : Nat} (hτ : τ i = some j) : RnH τ h (.var [.row i v n]) (.var [.row j v n]) := .var _ _ (rnAll_iff.1 ⟨rn_row.2 ⟨hτ, rfl, rfl⟩, trivial⟩)
/-- The agenda's things while it is filled. -/
def fillH (x : Ent3) (k : Nat) (es : List Ent3) : List (Option HB) := if k = 0 then [some (.var [.rv .nilsl])] else [some (.var [.row 2 k k]), some (.var (x.cells.map .rv)), some (.row 3 k (rvs (cellsL es)))]
def fillP (l : List Ent3) (k : Nat) (es : List Ent3) : Prop := es.length = k ∧ HeapP es k ∧ es.Perm (l.take k)
theorem fill_next {l es : List Ent3} {k : Nat} (hk : k < l.length) (h : fillP l k es) : fillP l (k + 1) (pushF es k (ga l k)) := by
  obtain ⟨h1, h2, h3⟩ := h
  obtain ⟨r1, r2, r3⟩ := push_ok (es := es) (n := k) (e := ga l k) (by omega) h2
  refine ⟨r3, r1, r2.trans ?_⟩
  rw [List.take_of_length_le (by omega), List.take_succ_eq_append_getElem hk, ga_eq hk]
  exact (List.Perm.cons _ h3).trans (List.perm_append_comm (l₁ := [ga l k]))
theorem clH_cells {n : Nat} {x : Ent3} : ClH n (.var (x.cells.map .rv)) := clA_map

set_option maxHeartbeats 4000000 in
theorem sp_Sorted (l : List Ent3) (hl0 : 0 < l.length) (hb : l.length < 90000) : CallR Go.Proofs.Try.prog 16 [.rv (.sl 3 (cellsL l))] [] [] (.rv (.sl 3 (cellsL (sortRef l)))) := by
  refine callR_G k_agenda_Sorted [.rv (.sl 3 (cellsL l))] _ (by simp) (by simp [BkAll, bk_agg, bkAll_map, bk_rv, bk_fn, Ent3.sv]) (fun K hK => ?_)
  have hlen : (cellsL l).length = l.length := by simp [cellsL]
  have hs := sp_IsSorted l hl0 (by omega)
  simp -implicitDefEqProofs only [c_agenda_Sorted, go_sem, ↓reduceIte, Nat.reduceEqDiff, Nat.reduceAdd, Nat.reduceSub, Nat.reduceMul, Nat.reduceLeDiff, Nat.reduceLT, reduceCtorEq, Int.reduceToNat]
  cases hso : sortedTo l (l.length - 1) with
  | true =>
    rw [hso] at hs
    rw [sortedTo_id hso] at hK
    have hcall1 := hs; have hcall2 := sp_Clone l 0 hl0 (by omega); repeat' (first | (simp -implicitDefEqProofs only [go_sem, ↓reduceIte, Nat.reduceEqDiff, Nat.reduceAdd, Nat.reduceSub, Nat.reduceMul, Nat.reduceLeDiff, Nat.reduceLT, reduceCtorEq, Int.reduceToNat]) | (with_reducible refine g_noent ?_) | (with_reducible refine g_call0 hcall1 ?_) | (with_reducible refine g_calld0 hcall1 ?_) | (refine g_call hcall2 (by simp [PreOK, hget]; done) (by simp [okU, uph]; done) ?_) | (refine g_calld hcall2 (by simp [PreOK, hget]; done) (by simp [okU, uph]; done) ?_) | (refine cdS (fun hg => ?_) (fun hg => ?_) <;> try simp -implicitDefEqProofs only [hg, Bool.not_true, Bool.not_false]) | (refine gdS (fun hg => ?_) (fun hg => ?_) <;> try simp -implicitDefEqProofs only [hg, Bool.not_true, Bool.not_false]) | (refine gddS (fun hg => ?_) (fun hg => ?_) <;> try simp -implicitDefEqProofs only [hg, Bool.not_true, Bool.not_false]) | ((with_reducible apply And.intro); focus (first | trivial | omega | decide | (simp -implicitDefEqProofs only [maxLen]; omega) | (simp [maxLen, sty_len, nd_len, ndL_len, lnL_len, intsL_len, rvs_len, lensS_len]; done) | (simp [maxLen, sty_len, nd_len, ndL_len, lnL_len, intsL_len, rvs_len, lensS_len]; omega))) | fail)
    exact (hK _ _ ⟨trivial, rn_frz (xs := cellsL l) rfl rfl (by simp [cellsL]) cells_one⟩).2
  | false =>
    rw [hso] at hs
    have hcall3 := hs; repeat' (first | (simp -implicitDefEqProofs only [go_sem, ↓reduceIte, Nat.reduceEqDiff, Nat.reduceAdd, Nat.reduceSub, Nat.reduceMul, Nat.reduceLeDiff, Nat.reduceLT, reduceCtorEq, Int.reduceToNat, hlen]) | (with_reducible refine g_noent ?_) | (with_reducible refine g_call0 hcall3 ?_) | (with_reducible refine g_calld0 hcall3 ?_) | (refine cdS (fun hg => ?_) (fun hg => ?_) <;> try simp -implicitDefEqProofs only [hg, Bool.not_true, Bool.not_false]) | (refine gdS (fun hg => ?_) (fun hg => ?_) <;> try simp -implicitDefEqProofs only [hg, Bool.not_true, Bool.not_false]) | (refine gddS (fun hg => ?_) (fun hg => ?_) <;> try simp -implicitDefEqProofs only [hg, Bool.not_true, Bool.not_false]) | ((with_reducible apply And.intro); focus (first | trivial | omega | decide | (simp -implicitDefEqProofs only [maxLen]; omega) | (simp [maxLen, sty_len, nd_len, ndL_len, lnL_len, intsL_len, rvs_len, lensS_len]; done) | (simp [maxLen, sty_len, nd_len, ndL_len, lnL_len, intsL_len, rvs_len, lensS_len]; omega))) | fail)
    refine g_loop (ι := Nat × List Ent3) (fun q => [(15, .rv (.int .i64 q.1)), (14, .rv (.int .i64 l.length)), (13, .rv (.sl 3 (cellsL l))), (3, .ptr 0 0)]) (fun q => fillH (ga l 0) q.1 q.2) (fun q => q.1 ≤ l.length ∧ fillP l q.1 q.2) (fun q => l.length - q.1) (0, []) ⟨by simp, rfl, fun k a b => absurd b (by omega), by simp⟩ (by simp -implicitDefEqProofs only [fillH, if_pos]; exact ent_env (by simp [lk])) (fun q hq K' hN hX hR => ?_)
    obtain ⟨k, es⟩ := q
    obtain ⟨hk1, hk2⟩ := hq
    dsimp only at hk1 hk2 ⊢
    simp -implicitDefEqProofs only [go_sem, ↓reduceIte, Nat.reduceEqDiff, Nat.reduceAdd, Nat.reduceSub, Nat.reduceMul, Nat.reduceLeDiff, Nat.reduceLT, reduceCtorEq, Int.reduceToNat]
    refine cdS (fun hg => ?_) (fun hg => ?_)
    · have hk4 : k < l.length := by simp at hg; omega
      have hx := ent_cells (es := l) (k := k) hk4
      have hnx := fill_next hk4 hk2
      have wu : IntKind.i64.wrap ((k : Int) + 1) = ((k + 1 : Nat) : Int) := by rw [wrap_i64 (by omega) (by omega)]; omega
      by_cases h0 : k = 0
      · subst h0
        have hes : es = [] := List.eq_nil_of_length_eq_zero hk2.1
        subst hes
        have ha := sp11n 0 2 (ga l 0) (by decide)
        simp -implicitDefEqProofs only [Ent3.sv] at ha
        simp -implicitDefEqProofs only [fillH, if_pos]
        have hcall4 := ha; repeat' (first | (simp -implicitDefEqProofs only [go_sem, ↓reduceIte, Nat.reduceEqDiff, Nat.reduceAdd, Nat.reduceSub, Nat.reduceMul, Nat.reduceLeDiff, Nat.reduceLT, reduceCtorEq, Int.reduceToNat, hx, hlen, wu]) | (with_reducible refine g_noent ?_) | (refine g_call hcall4 (by simp [PreOK, hget]; done) (by simp [okU, uph]; done) ?_) | (refine g_calld hcall4 (by simp [PreOK, hget]; done) (by simp [okU, uph]; done) ?_) | (refine cdS (fun hg => ?_) (fun hg => ?_) <;> try simp -implicitDefEqProofs only [hg, Bool.not_true, Bool.not_false]) | (refine gdS (fun hg => ?_) (fun hg => ?_) <;> try simp -implicitDefEqProofs only [hg, Bool.not_true, Bool.not_false]) | (refine gddS (fun hg => ?_) (fun hg => ?_) <;> try simp -implicitDefEqProofs only [hg, Bool.not_true, Bool.not_false]) | ((with_reducible apply And.intro); focus (first | trivial | omega | decide | (simp -implicitDefEqProofs only [maxLen]; omega) | (simp [maxLen, sty_len, nd_len, ndL_len, lnL_len, intsL_len, rvs_len, lensS_len]; done) | (simp [maxLen, sty_len, nd_len, ndL_len, lnL_len, intsL_len, rvs_len, lensS_len]; omega))) | fail)
        exact hN (1, pushF [] 0 (ga l 0)) _ _ ⟨by dsimp only; omega, hnx⟩ (by dsimp only; omega) (by simp -implicitDefEqProofs only [fillH]; exact ent_env (by simp [lk]))
      · have ha := sp11 0 2 k k es (ga l k) (by decide) (by rw [hk2.1]; exact Nat.le_refl _) (by omega)
        simp -implicitDefEqProofs only [Ent3.sv] at ha
        simp -implicitDefEqProofs only [fillH, if_neg h0]
        have hcall5 := ha; repeat' (first | (simp -implicitDefEqProofs only [go_sem, ↓reduceIte, Nat.reduceEqDiff, Nat.reduceAdd, Nat.reduceSub, Nat.reduceMul, Nat.reduceLeDiff, Nat.reduceLT, reduceCtorEq, Int.reduceToNat, hx, hlen, wu]) | (with_reducible refine g_noent ?_) | (refine g_call hcall5 (by simp [PreOK, hget]; done) (by simp [okU, uph]; done) ?_) | (refine g_calld hcall5 (by simp [PreOK, hget]; done) (by simp [okU, uph]; done) ?_) | (refine cdS (fun hg => ?_) (fun hg => ?_) <;> try simp -implicitDefEqProofs only [hg, Bool.not_true, Bool.not_false]) | (refine gdS (fun hg => ?_) (fun hg => ?_) <;> try simp -implicitDefEqProofs only [hg, Bool.not_true, Bool.not_false]) | (refine gddS (fun hg => ?_) (fun hg => ?_) <;> try simp -implicitDefEqProofs only [hg, Bool.not_true, Bool.not_false]) | ((with_reducible apply And.intro); focus (first | trivial | omega | decide | (simp -implicitDefEqProofs only [maxLen]; omega) | (simp [maxLen, sty_len, nd_len, ndL_len, lnL_len, intsL_len, rvs_len, lensS_len]; done) | (simp [maxLen, sty_len, nd_len, ndL_len, lnL_len, intsL_len, rvs_len, lensS_len]; omega))) | fail)
        refine hN (k + 1, pushF es k (ga l k)) _ _ ⟨by dsimp only; omega, hnx⟩ (by dsimp only; omega) ?_
        simp -implicitDefEqProofs only [fillH, if_neg (Nat.succ_ne_zero k)]
        exact ent_tail (h' := [some (.var [.row 2 (k + 1) (k + 1)]), some (.var ((ga l 0).cells.map .rv)), some (.row 3 (k + 1) (rvs (cellsL (pushF es k (ga l k)))))]) (by simp) ⟨by simp [ClH, ClA, clS_row], clH_cells, clH_rvs, trivial⟩ (by simp [ClEnv, lk, clS_rv, clS_row, clS_ptr])
    · have hk4 : k = l.length := by simp at hg; omega
      subst hk4
      simp -implicitDefEqProofs only [go_sem, ↓reduceIte, Nat.reduceEqDiff, Nat.reduceAdd, Nat.reduceSub, Nat.reduceMul, Nat.reduceLeDiff, Nat.reduceLT, reduceCtorEq, Int.reduceToNat]
      refine hX _ _ _ ?_
      obtain ⟨f1, f2, f3⟩ := hk2
      rw [List.take_length] at f3
      have hn := sp12 0 2 l.length l.length es (by decide) (by omega) (by omega) (by omega)
      simp -implicitDefEqProofs only [Ent3.sv] at hn
      simp -implicitDefEqProofs only [fillH, if_neg (show ¬ l.length = 0 by omega)]
      have hcall6 := hn; repeat' (first | (simp -implicitDefEqProofs only [go_sem, ↓reduceIte, Nat.reduceEqDiff, Nat.reduceAdd, Nat.reduceSub, Nat.reduceMul, Nat.reduceLeDiff, Nat.reduceLT, reduceCtorEq, Int.reduceToNat]) | (with_reducible refine g_noent ?_) | (refine g_call hcall6 (by simp [PreOK, hget]; done) (by simp [okU, uph]; done) ?_) | (refine g_calld hcall6 (by simp [PreOK, hget]; done) (by simp [okU, uph]; done) ?_) | (refine cdS (fun hg => ?_) (fun hg => ?_) <;> try simp -implicitDefEqProofs only [hg, Bool.not_true, Bool.not_false]) | (refine gdS (fun hg => ?_) (fun hg => ?_) <;> try simp -implicitDefEqProofs only [hg, Bool.not_true, Bool.not_false]) | (refine gddS (fun hg => ?_) (fun hg => ?_) <;> try simp -implicitDefEqProofs only [hg, Bool.not_true, Bool.not_false]) | ((with_reducible apply And.intro); focus (first | trivial | omega | decide | (simp -implicitDefEqProofs only [maxLen]; omega) | (simp [maxLen, sty_len, nd_len, ndL_len, lnL_len, intsL_len, rvs_len, lensS_len]; done) | (simp [maxLen, sty_len, nd_len, ndL_len, lnL_len, intsL_len, rvs_len, lensS_len]; omega))) | fail)
      obtain ⟨p1, p2, p3, p4⟩ := pop_ok (es := es) (n := l.length) (by omega) hl0 f2
      have hsr := sortRef_perm _ _ _ (Nat.le_refl _) f3
      have hnx := heap_next (es := es) (n := l.length) (by omega) hl0 f2
      rw [List.take_of_length_le (by omega), hsr] at hnx
      refine g_loop (ι := List Ent3 × Nat × List Ent3 × Ent3 × Bool) (fun q => [(8, .rv (.bool q.2.2.2.2)), (7, .ptr 3 0), (6, .row 4 q.2.2.1.length q.2.2.1.length), (3, .ptr 0 0)])
        (fun q => [some (.var [.row 2 l.length q.2.1]), some (.var ((ga l 0).cells.map .rv)), some (.row 3 l.length (rvs (cellsL q.1))), some (.var (q.2.2.2.1.cells.map .rv)), some (.row 3 q.2.2.1.length (rvs (cellsL q.2.2.1)))])
        (fun q => q.2.1 ≤ q.1.length ∧ q.2.1 ≤ 90000 ∧ HeapP q.1 q.2.1 ∧ q.2.2.1.length ≤ l.length ∧ if q.2.2.2.2 = true then q.2.2.1 ++ q.2.2.2.1 :: sortRef (q.1.take q.2.1) = sortRef l else q.2.2.1 = sortRef l)
        (fun q => q.2.1 + if q.2.2.2.2 = true then 1 else 0) (popF es l.length, l.length - 1, [], ga (popF es l.length) (l.length - 1), true)
        ⟨by dsimp only; omega, by dsimp only; omega, p1, by simp, by simp [← hnx]⟩ ((ent_ghostv 6 3 0 rfl).trans (ent_env (by simp [lk]))) (fun q hq K' hN hX hR => ?_)
      obtain ⟨zs, n, out, x, ok⟩ := q
      obtain ⟨q1, q2, q3, q5, q4⟩ := hq
      dsimp only at q1 q2 q3 q4 q5 ⊢
      simp -implicitDefEqProofs only [go_sem, ↓reduceIte, Nat.reduceEqDiff, Nat.reduceAdd, Nat.reduceSub, Nat.reduceMul, Nat.reduceLeDiff, Nat.reduceLT, reduceCtorEq, Int.reduceToNat]
      cases ok with
      | false =>
        simp -implicitDefEqProofs only [Bool.false_eq_true, if_false] at q4
        subst q4
        repeat' (first | (simp -implicitDefEqProofs only [go_sem, ↓reduceIte, Nat.reduceEqDiff, Nat.reduceAdd, Nat.reduceSub, Nat.reduceMul, Nat.reduceLeDiff, Nat.reduceLT, reduceCtorEq, Int.reduceToNat]) | (with_reducible refine g_noent ?_) | (refine cdS (fun hg => ?_) (fun hg => ?_) <;> try simp -implicitDefEqProofs only [hg, Bool.not_true, Bool.not_false]) | (refine gdS (fun hg => ?_) (fun hg => ?_) <;> try simp -implicitDefEqProofs only [hg, Bool.not_true, Bool.not_false]) | (refine gddS (fun hg => ?_) (fun hg => ?_) <;> try simp -implicitDefEqProofs only [hg, Bool.not_true, Bool.not_false]) | ((with_reducible apply And.intro); focus (first | trivial | omega | decide | (simp -implicitDefEqProofs only [maxLen]; omega) | (simp [maxLen, sty_len, nd_len, ndL_len, lnL_len, intsL_len, rvs_len, lensS_len]; done) | (simp [maxLen, sty_len, nd_len, ndL_len, lnL_len, intsL_len, rvs_len, lensS_len]; omega))) | fail)
        refine hX _ _ _ ?_
        repeat' (first | (simp -implicitDefEqProofs only [go_sem, ↓reduceIte, Nat.reduceEqDiff, Nat.reduceAdd, Nat.reduceSub, Nat.reduceMul, Nat.reduceLeDiff, Nat.reduceLT, reduceCtorEq, Int.reduceToNat]) | (with_reducible refine g_noent ?_) | (refine cdS (fun hg => ?_) (fun hg => ?_) <;> try simp -implicitDefEqProofs only [hg, Bool.not_true, Bool.not_false]) | (refine gdS (fun hg => ?_) (fun hg => ?_) <;> try simp -implicitDefEqProofs only [hg, Bool.not_true, Bool.not_false]) | (refine gddS (fun hg => ?_) (fun hg => ?_) <;> try simp -implicitDefEqProofs only [hg, Bool.not_true, Bool.not_false]) | ((with_reducible apply And.intro); focus (first | trivial | omega | decide | (simp -implicitDefEqProofs only [maxLen]; omega) | (simp [maxLen, sty_len, nd_len, ndL_len, lnL_len, intsL_len, rvs_len, lensS_len]; done) | (simp [maxLen, sty_len, nd_len, ndL_len, lnL_len, intsL_len, rvs_len, lensS_len]; omega))) | fail)
        exact (hK _ _ ⟨trivial, rn_frz (xs := cellsL (sortRef l)) rfl rfl (by simp [cellsL]) cells_one⟩).2
      | true =>
        simp -implicitDefEqProofs only [if_true] at q4
        have hol : (cellsL out).length = out.length := by simp [cellsL]
        have hot : (cellsL out).take out.length = cellsL out := List.take_of_length_le (by omega)
        have happ : rvs (cellsL out) ++ [[.rv (.int .i64 x.key), .rv (.int .i64 x.tie), .rv (.int .i64 x.n)]] = rvs (cellsL (out ++ [x])) := by simp [rvs, cellsL, Ent3.cells]
        have happ2 : rvs (cellsL out) ++ [x.cells.map SV.rv] = rvs (cellsL (out ++ [x])) := by simp [rvs, cellsL]
        have hll := congrArg List.length q4
        have hsl := sortRef_len _ l (Nat.le_refl _)
        rw [hsl] at hll
        simp -implicitDefEqProofs only [List.length_append, List.length_cons] at hll
        have x3 : List.take 3 (x.cells.map SV.rv) = x.cells.map SV.rv := rfl
        have x3l : x.cells.length = 3 := rfl
        have x3d : List.drop 3 (x.cells.map SV.rv) = [] := rfl
        by_cases h0 : n = 0
        · subst h0
          have hn := sp12e 0 2 l.length zs (by decide)
          simp -implicitDefEqProofs only [Ent3.sv] at hn
          have hcall7 := hn; repeat' (first | (simp -implicitDefEqProofs only [go_sem, ↓reduceIte, Nat.reduceEqDiff, Nat.reduceAdd, Nat.reduceSub, Nat.reduceMul, Nat.reduceLeDiff, Nat.reduceLT, reduceCtorEq, Int.reduceToNat, hol, hot, happ, happ2, x3, x3l, x3d]) | (with_reducible refine g_noent ?_) | (refine g_call hcall7 (by simp [PreOK, hget]; done) (by simp [okU, uph]; done) ?_) | (refine g_calld hcall7 (by simp [PreOK, hget]; done) (by simp [okU, uph]; done) ?_) | (refine cdS (fun hg => ?_) (fun hg => ?_) <;> try simp -implicitDefEqProofs only [hg, Bool.not_true, Bool.not_false]) | (refine gdS (fun hg => ?_) (fun hg => ?_) <;> try simp -implicitDefEqProofs only [hg, Bool.not_true, Bool.not_false]) | (refine gddS (fun hg => ?_) (fun hg => ?_) <;> try simp -implicitDefEqProofs only [hg, Bool.not_true, Bool.not_false]) | ((with_reducible apply And.intro); focus (first | trivial | omega | decide | (simp -implicitDefEqProofs only [maxLen]; omega) | (simp [maxLen, sty_len, nd_len, ndL_len, lnL_len, intsL_len, rvs_len, lensS_len]; done) | (simp [maxLen, sty_len, nd_len, ndL_len, lnL_len, intsL_len, rvs_len, lensS_len]; omega) | (exact ⟨rfl, by decide⟩; done))) | fail)
          rw [List.take_zero, sortRef_nil] at q4
          refine hN (zs, 0, out ++ [x], ⟨0, 0, 0⟩, false) _ _ ⟨by dsimp only; omega, by dsimp only; omega, q3, by simp; omega, by simp [q4]⟩ (by dsimp only; simp; try omega) (ent_move 3 6 (by decide) (by simp) (by simp) (fun k hk => ?_) (by simp [lk, rn_rv, rn_ptr, rn_row, τm]))
          simp -implicitDefEqProofs only [List.length_cons, List.length_nil] at hk
          match k, hk with
          | 0, _ => exact ⟨_, _, rfl, rfl, rh_vrow rfl⟩
          | 1, _ => exact ⟨_, _, rfl, rfl, rh_var⟩
          | 2, _ => exact ⟨_, _, rfl, rfl, rh_rvs⟩
          | 3, _ => exact ⟨_, _, rfl, rfl, rh_var (rs := (⟨0, 0, 0⟩ : Ent3).cells)⟩
          | 4, _ => exact ⟨_, _, rfl, by simp -implicitDefEqProofs only [List.length_append, List.length_singleton]; rfl, rh_rvs⟩
        · have hn := sp12 0 2 l.length n zs (by decide) q1 h0 (by omega)
          simp -implicitDefEqProofs only [Ent3.sv] at hn
          have hcall8 := hn; repeat' (first | (simp -implicitDefEqProofs only [go_sem, ↓reduceIte, Nat.reduceEqDiff, Nat.reduceAdd, Nat.reduceSub, Nat.reduceMul, Nat.reduceLeDiff, Nat.reduceLT, reduceCtorEq, Int.reduceToNat, hol, hot, happ, happ2, x3, x3l, x3d]) | (with_reducible refine g_noent ?_) | (refine g_call hcall8 (by simp [PreOK, hget]; done) (by simp [okU, uph]; done) ?_) | (refine g_calld hcall8 (by simp [PreOK, hget]; done) (by simp [okU, uph]; done) ?_) | (refine cdS (fun hg => ?_) (fun hg => ?_) <;> try simp -implicitDefEqProofs only [hg, Bool.not_true, Bool.not_false]) | (refine gdS (fun hg => ?_) (fun hg => ?_) <;> try simp -implicitDefEqProofs only [hg, Bool.not_true, Bool.not_false]) | (refine gddS (fun hg => ?_) (fun hg => ?_) <;> try simp -implicitDefEqProofs only [hg, Bool.not_true, Bool.not_false]) | ((with_reducible apply And.intro); focus (first | trivial | omega | decide | (simp -implicitDefEqProofs only [maxLen]; omega) | (simp [maxLen, sty_len, nd_len, ndL_len, lnL_len, intsL_len, rvs_len, lensS_len]; done) | (simp [maxLen, sty_len, nd_len, ndL_len, lnL_len, intsL_len, rvs_len, lensS_len]; omega) | (exact ⟨rfl, by decide⟩; done))) | fail)
          obtain ⟨m1, m2, m3, m4⟩ := pop_ok (es := zs) (n := n) q1 (by omega) q3
          have hnx2 := heap_next (es := zs) (n := n) q1 (by omega) q3
          rw [hnx2] at q4
          refine hN (popF zs n, n - 1, out ++ [x], ga (popF zs n) (n - 1), true) _ _ ⟨by dsimp only; omega, by dsimp only; omega, m1, by simp; omega, by simp [← q4]⟩ (by dsimp only; simp; try omega) (ent_move 3 6 (by decide) (by simp) (by simp) (fun k hk => ?_) (by simp [lk, rn_rv, rn_ptr, rn_row, τm]))
          simp -implicitDefEqProofs only [List.length_cons, List.length_nil] at hk
          match k, hk with
          | 0, _ => exact ⟨_, _, rfl, rfl, rh_vrow rfl⟩
          | 1, _ => exact ⟨_, _, rfl, rfl, rh_var⟩
          | 2, _ => exact ⟨_, _, rfl, rfl, rh_rvs⟩
          | 3, _ => exact ⟨_, _, rfl, rfl, rh_var (rs := (ga (popF zs n) (n - 1) : Ent3).cells)⟩
          | 4, _ => exact ⟨_, _, rfl, by simp -implicitDefEqProofs only [List.length_append, List.length_singleton]; rfl, rh_rvs⟩
end Go.Eng

/- agenda: the statements as functions: in order. -/
namespace Go.Eng
open Go
/- decoupage/decoupagelaw04.AgendaSorts -/
def c_decoupagelaw04_AgendaSorts : AC := (.seq (.reg [⟨(some 2), .mv, [(.c (.rv (.bool false)))], none⟩]) (.seq (.seq (.reg [⟨(some 8), (.call 7), [], none⟩, ⟨(some 9), .not, [(.t 8)], none⟩, ⟨(some 10), .mv, [(.t 9)], none⟩, ⟨(some 11), .mv, [(.t 0)], (some (10, false))⟩, ⟨(some 12), .len, [(.t 11)], (some (10, false))⟩, ⟨(some 13), (.ibin .gtr), [(.t 12), (.c (.rv (.int .i64 200)))], (some (10, false))⟩, ⟨(some 14), .pick, [(.t 10), (.c (.rv (.bool true))), (.t 13)], none⟩]) (.cond (.t 14) (.seq (.reg [⟨(some 15), (.call 7), [], none⟩, ⟨(some 2), .mv, [(.t 15)], none⟩]) .ret) .skip)) (.seq (.reg [⟨(some 3), .mv, [(.c (.rv .nilsl))], none⟩]) (.seq (.seq (.reg [⟨(some 16), .mv, [(.t 0)], none⟩, ⟨(some 17), .len, [(.t 16)], none⟩, ⟨(some 18), .mv, [(.c (.rv (.int .i64 0)))], none⟩]) (.seq (.block 0 (.loop (.seq (.reg [⟨(some 19), (.ibin .lss), [(.t 18), (.t 17)], none⟩]) (.seq (.cond (.t 19) .skip (.exit 0)) (.seq (.seq (.block 1 (.seq (.reg [⟨(some 20), .mv, [(.t 18)], none⟩, ⟨(some 4), .mv, [(.t 20)], none⟩]) (.reg [⟨(some 21), .mv, [(.t 3)], none⟩, ⟨(some 22), .mv, [(.t 0)], none⟩, ⟨(some 23), .mv, [(.t 4)], none⟩, ⟨(some 24), (.ixs 3), [(.t 22), (.t 23)], none⟩, ⟨(some 25), (.load 3 true), [(.t 24)], none⟩, ⟨(some 26), (.bsl 3), [(.t 25)], none⟩, ⟨(some 27), (.app 3 24), [(.t 21), (.t 26)], none⟩, ⟨(some 3), .mv, [(.t 27)], none⟩]))) .ent) (.reg [⟨(some 28), (.ibin .add), [(.t 18), (.c (.rv (.int .i64 1)))], none⟩, ⟨(some 18), .mv, [(.t 28)], none⟩])))))) .ent)) (.seq (.reg [⟨(some 29), .mv, [(.t 0)], none⟩, ⟨(some 30), (.call 16), [(.t 29)], none⟩, ⟨(some 5), .mv, [(.t 30)], none⟩]) (.seq (.reg [⟨(some 31), .mv, [(.t 3)], none⟩, ⟨(some 32), (.call 17), [(.t 31)], none⟩, ⟨(some 6), .mv, [(.t 32)], none⟩]) (.seq (.seq (.reg [⟨(some 33), .mv, [(.t 5)], none⟩, ⟨(some 34), .len, [(.t 33)], none⟩, ⟨(some 35), .mv, [(.t 6)], none⟩, ⟨(some 36), .len, [(.t 35)], none⟩, ⟨(some 37), (.ibin .neq), [(.t 34), (.t 36)], none⟩]) (.cond (.t 37) (.seq (.reg [⟨(some 2), .mv, [(.c (.rv (.bool false)))], none⟩]) .ret) .skip)) (.seq (.seq (.reg [⟨(some 38), .mv, [(.t 5)], none⟩, ⟨(some 39), .len, [(.t 38)], none⟩, ⟨(some 40), .mv, [(.c (.rv (.int .i64 0)))], none⟩]) (.seq (.block 2 (.loop (.seq (.reg [⟨(some 41), (.ibin .lss), [(.t 40), (.t 39)], none⟩]) (.seq (.cond (.t 41) .skip (.exit 2)) (.seq (.seq (.block 3 (.seq (.reg [⟨(some 42), .mv, [(.t 40)], none⟩, ⟨(some 7), .mv, [(.t 42)], none⟩]) (.seq (.regd [0, 0, 3, 7, 0, 0, 48, 112, 255, 511, 1023, 1023, 4095, 8191, 1023, 1023, 50175, 115711, 262143, 524287] [⟨(some 43), .mv, [(.t 5)], none⟩, ⟨(some 44), .mv, [(.t 7)], none⟩, ⟨(some 45), (.ixs 3), [(.t 43), (.t 44)], none⟩, ⟨(some 46), (.load 3 true), [(.t 45)], none⟩, ⟨(some 47), .mv, [(.t 6)], none⟩, ⟨(some 48), .mv, [(.t 7)], none⟩, ⟨(some 49), (.ixs 3), [(.t 47), (.t 48)], none⟩, ⟨(some 50), (.load 3 true), [(.t 49)], none⟩, ⟨(some 51), (.eqs true true [.i, .i, .i]), [(.t 46), (.t 50)], none⟩, ⟨(some 52), .mv, [(.t 51)], none⟩, ⟨(some 53), .mv, [(.t 0)], (some (52, false))⟩, ⟨(some 54), .mv, [(.t 7)], (some (52, false))⟩, ⟨(some 55), (.ixs 3), [(.t 53), (.t 54)], (some (52, false))⟩, ⟨(some 56), (.load 3 true), [(.t 55)], (some (52, false))⟩, ⟨(some 57), .mv, [(.t 3)], (some (52, false))⟩, ⟨(some 58), .mv, [(.t 7)], (some (52, false))⟩, ⟨(some 59), (.ixs 3), [(.t 57), (.t 58)], (some (52, false))⟩, ⟨(some 60), (.load 3 true), [(.t 59)], (some (52, false))⟩, ⟨(some 61), (.eqs true true [.i, .i, .i]), [(.t 56), (.t 60)], (some (52, false))⟩, ⟨(some 62), .pick, [(.t 52), (.c (.rv (.bool true))), (.t 61)], none⟩]) (.cond (.t 62) (.seq (.reg [⟨(some 2), .mv, [(.c (.rv (.bool false)))], none⟩]) .ret) .skip)))) .ent) (.reg [⟨(some 63), (.ibin .add), [(.t 40), (.c (.rv (.int .i64 1)))], none⟩, ⟨(some 40), .mv, [(.t 63)], none⟩])))))) .ent)) (.seq (.reg [⟨(some 2), .mv, [(.c (.rv (.bool true)))], none⟩]) .ret)))))))))
theorem k_decoupagelaw04_AgendaSorts : FnOK Go.Proofs.Try.prog 5 64 c_decoupagelaw04_AgendaSorts [(.t 2)] := fnOK_of (by kernel_rfl)


/-- A row of the call's own, from now on only read. -/
theorem ent_freeze1 {env env' : List (Nat × SV)} {e v n : Nat} {C : List (Option HB)} {xs : List (List RV)} (hn : n = xs.length) (h1 : ∀ x ∈ xs, ∀ r ∈ x, r.one = true)
    (he : ∀ p ∈ env', (lk env p.1 = .row 0 v n ∧ p.2 = .rv (.sl e xs)) ∨ ∃ r, lk env p.1 = .rv r ∧ p.2 = .rv r) : Ent 0 ⟨env, some (.row e v (rvs xs)) :: C⟩ ⟨env', []⟩ := by
  refine ent_gen (fun _ => none) (by simp) (fun j i h => by cases h) (fun j _ => by omega) (fun j => .inr ⟨rfl, .inl rfl⟩) (lk_dead_of (fun x => .dead x) fun p hp => ?_)
  rcases he p hp with ⟨a, b⟩ | ⟨r, a, b⟩
  · rw [a, b]; exact rn_frz rfl rfl hn h1
  · rw [a, b]; exact rn_rv.2 rfl
theorem z_IsSorted : CallR Go.Proofs.Try.prog 23 [.rv .slz, .fn 8 []] [] [] (.rv (.bool true)) := by
  refine callR_G k_slices_IsSortedFunc_Entry [.rv .slz, .fn 8 []] _ (by simp) (by simp [BkAll, bk_agg, bkAll_map, bk_rv, bk_fn, Ent3.sv]) (fun K hK => ?_)
  have e1 : IntKind.i64.wrap (((0 : Nat) : Int) - 1) = -1 := by decide
  simp -implicitDefEqProofs only [c_slices_IsSortedFunc_Entry, go_sem, ↓reduceIte, Nat.reduceEqDiff, Nat.reduceAdd, Nat.reduceSub, Nat.reduceMul, Nat.reduceLeDiff, Nat.reduceLT, reduceCtorEq, Int.reduceToNat]
  repeat' (first | (simp -implicitDefEqProofs only [go_sem, ↓reduceIte, Nat.reduceEqDiff, Nat.reduceAdd, Nat.reduceSub, Nat.reduceMul, Nat.reduceLeDiff, Nat.reduceLT, reduceCtorEq, Int.reduceToNat, e1]) | (with_reducible refine g_noent ?_) | (refine cdS (fun hg => ?_) (fun hg => ?_) <;> try simp -implicitDefEqProofs only [hg, Bool.not_true, Bool.not_false]) | (refine gdS (fun hg => ?_) (fun hg => ?_) <;> try simp -implicitDefEqProofs only [hg, Bool.not_true, Bool.not_false]) | (refine gddS (fun hg => ?_) (fun hg => ?_) <;> try simp -implicitDefEqProofs only [hg, Bool.not_true, Bool.not_false]) | ((with_reducible apply And.intro); focus (first | trivial | omega | decide | (simp -implicitDefEqProofs only [maxLen]; omega) | (simp [maxLen, sty_len, nd_len, ndL_len, lnL_len, intsL_len, rvs_len, lensS_len]; done) | (simp [maxLen, sty_len, nd_len, ndL_len, lnL_len, intsL_len, rvs_len, lensS_len]; omega))) | fail)
  refine g_loop (ι := Unit) (fun _ => [(5, .rv (.int .i64 (-1)))]) (fun _ => []) (fun _ => True) (fun _ => 0) () trivial (ent_env (by simp [lk]; decide)) (fun _ _ K' hN hX hR => ?_)
  have e2 : decide ((-1 : Int) > 0) = false := rfl
  simp -implicitDefEqProofs only [go_sem, ↓reduceIte, Nat.reduceEqDiff, Nat.reduceAdd, Nat.reduceSub, Nat.reduceMul, Nat.reduceLeDiff, Nat.reduceLT, reduceCtorEq, Int.reduceToNat]
  repeat' (first | (simp -implicitDefEqProofs only [go_sem, ↓reduceIte, Nat.reduceEqDiff, Nat.reduceAdd, Nat.reduceSub, Nat.reduceMul, Nat.reduceLeDiff, Nat.reduceLT, reduceCtorEq, Int.reduceToNat, e2]) | (with_reducible refine g_noent ?_) | (refine cdS (fun hg => ?_) (fun hg => ?_) <;> try simp -implicitDefEqProofs only [hg, Bool.not_true, Bool.not_false]) | (refine gdS (fun hg => ?_) (fun hg => ?_) <;> try simp -implicitDefEqProofs only [hg, Bool.not_true, Bool.not_false]) | (refine gddS (fun hg => ?_) (fun hg => ?_) <;> try simp -implicitDefEqProofs only [hg, Bool.not_true, Bool.not_false]) | ((with_reducible apply And.intro); focus (first | trivial | omega | decide | (simp -implicitDefEqProofs only [maxLen]; omega) | (simp [maxLen, sty_len, nd_len, ndL_len, lnL_len, intsL_len, rvs_len, lensS_len]; done) | (simp [maxLen, sty_len, nd_len, ndL_len, lnL_len, intsL_len, rvs_len, lensS_len]; omega))) | fail)
  refine hX _ _ _ ?_
  repeat' (first | (simp -implicitDefEqProofs only [go_sem, ↓reduceIte, Nat.reduceEqDiff, Nat.reduceAdd, Nat.reduceSub, Nat.reduceMul, Nat.reduceLeDiff, Nat.reduceLT, reduceCtorEq, Int.reduceToNat]) | (with_reducible refine g_noent ?_) | (refine cdS (fun hg => ?_) (fun hg => ?_) <;> try simp -implicitDefEqProofs only [hg, Bool.not_true, Bool.not_false]) | (refine gdS (fun hg => ?_) (fun hg => ?_) <;> try simp -implicitDefEqProofs only [hg, Bool.not_true, Bool.not_false]) | (refine gddS (fun hg => ?_) (fun hg => ?_) <;> try simp -implicitDefEqProofs only [hg, Bool.not_true, Bool.not_false]) | ((with_reducible apply And.intro); focus (first | trivial | omega | decide | (simp -implicitDefEqProofs only [maxLen]; omega) | (simp [maxLen, sty_len, nd_len, ndL_len, lnL_len, intsL_len, rvs_len, lensS_len]; done) | (simp [maxLen, sty_len, nd_len, ndL_len, lnL_len, intsL_len, rvs_len, lensS_len]; omega))) | fail)
  exact (hK _ _ (ret_t rfl)).2
theorem z_Clone : CallR Go.Proofs.Try.prog 24 [.rv .slz] [] [] (.rv (.sl 3 [])) := by
  refine callR_G k_slices_Clone_Entry [.rv .slz] _ (by simp) (by simp [BkAll, bk_agg, bkAll_map, bk_rv, bk_fn, Ent3.sv]) (fun K hK => ?_)
  simp -implicitDefEqProofs only [c_slices_Clone_Entry, go_sem, ↓reduceIte, Nat.reduceEqDiff, Nat.reduceAdd, Nat.reduceSub, Nat.reduceMul, Nat.reduceLeDiff, Nat.reduceLT, reduceCtorEq, Int.reduceToNat]
  repeat' (first | (simp -implicitDefEqProofs only [go_sem, ↓reduceIte, Nat.reduceEqDiff, Nat.reduceAdd, Nat.reduceSub, Nat.reduceMul, Nat.reduceLeDiff, Nat.reduceLT, reduceCtorEq, Int.reduceToNat]) | (with_reducible refine g_noent ?_) | (refine cdS (fun hg => ?_) (fun hg => ?_) <;> try simp -implicitDefEqProofs only [hg, Bool.not_true, Bool.not_false]) | (refine gdS (fun hg => ?_) (fun hg => ?_) <;> try simp -implicitDefEqProofs only [hg, Bool.not_true, Bool.not_false]) | (refine gddS (fun hg => ?_) (fun hg => ?_) <;> try simp -implicitDefEqProofs only [hg, Bool.not_true, Bool.not_false]) | ((with_reducible apply And.intro); focus (first | trivial | omega | decide | (simp -implicitDefEqProofs only [maxLen]; omega) | (simp [maxLen, sty_len, nd_len, ndL_len, lnL_len, intsL_len, rvs_len, lensS_len]; done) | (simp [maxLen, sty_len, nd_len, ndL_len, lnL_len, intsL_len, rvs_len, lensS_len]; omega))) | fail)
  exact (hK _ _ ⟨trivial, rn_frz (xs := []) rfl rfl rfl (by simp)⟩).2
theorem z_Sorted : CallR Go.Proofs.Try.prog 16 [.rv .slz] [] [] (.rv (.sl 3 [])) := by
  refine callR_G k_agenda_Sorted [.rv .slz] _ (by simp) (by simp [BkAll, bk_agg, bkAll_map, bk_rv, bk_fn, Ent3.sv]) (fun K hK => ?_)
  simp -implicitDefEqProofs only [c_agenda_Sorted, go_sem, ↓reduceIte, Nat.reduceEqDiff, Nat.reduceAdd, Nat.reduceSub, Nat.reduceMul, Nat.reduceLeDiff, Nat.reduceLT, reduceCtorEq, Int.reduceToNat]
  have hcall1 := z_IsSorted; have hcall2 := z_Clone; repeat' (first | (simp -implicitDefEqProofs only [go_sem, ↓reduceIte, Nat.reduceEqDiff, Nat.reduceAdd, Nat.reduceSub, Nat.reduceMul, Nat.reduceLeDiff, Nat.reduceLT, reduceCtorEq, Int.reduceToNat]) | (with_reducible refine g_noent ?_) | (with_reducible refine g_call0 hcall1 ?_) | (with_reducible refine g_calld0 hcall1 ?_) | (with_reducible refine g_call0 hcall2 ?_) | (with_reducible refine g_calld0 hcall2 ?_) | (refine cdS (fun hg => ?_) (fun hg => ?_) <;> try simp -implicitDefEqProofs only [hg, Bool.not_true, Bool.not_false]) | (refine gdS (fun hg => ?_) (fun hg => ?_) <;> try simp -implicitDefEqProofs only [hg, Bool.not_true, Bool.not_false]) | (refine gddS (fun hg => ?_) (fun hg => ?_) <;> try simp -implicitDefEqProofs only [hg, Bool.not_true, Bool.not_false]) | ((with_reducible apply And.intro); focus (first | trivial | omega | decide | (simp -implicitDefEqProofs only [maxLen]; omega) | (simp [maxLen, sty_len, nd_len, ndL_len, lnL_len, intsL_len, rvs_len, lensS_len]; done) | (simp [maxLen, sty_len, nd_len, ndL_len, lnL_len, intsL_len, rvs_len, lensS_len]; omega))) | fail)
  exact (hK _ _ (ret_t rfl)).2
theorem sp_SortedA (l : List Ent3) (hb : l.length < 90000) : CallR Go.Proofs.Try.prog 16 [.rv (.sl 3 (cellsL l))] [] [] (.rv (.sl 3 (cellsL (sortRef l)))) := by
  by_cases h0 : l = []
  · subst h0
    rw [sortRef_nil]
    exact @callR_split _ _ _ [] [] _ _ _ (callR_nil 3 nz_Sorted) z_Sorted
  · exact sp_Sorted l (List.length_pos_iff.2 h0) hb

set_option maxHeartbeats 4000000 in
theorem sp_AgendaSorts (l : List Ent3) : CallR Go.Proofs.Try.prog 5 [.rv (.sl 3 (cellsL l))] [] [] (.rv (.bool true)) := by
  have hlen : (cellsL l).length = l.length := by simp [cellsL]
  refine callR_G k_decoupagelaw04_AgendaSorts [.rv (.sl 3 (cellsL l))] _ (by simp) (by simp [BkAll, bk_agg, bkAll_map, bk_rv, bk_fn, Ent3.sv]) (fun K hK => ?_)
  simp -implicitDefEqProofs only [c_decoupagelaw04_AgendaSorts, go_sem, ↓reduceIte, Nat.reduceEqDiff, Nat.reduceAdd, Nat.reduceSub, Nat.reduceMul, Nat.reduceLeDiff, Nat.reduceLT, reduceCtorEq, Int.reduceToNat]
  by_cases hl : l.length > 200
  · have e1 : decide ((l.length : Int) > 200) = true := decide_eq_true (by omega)
    have hcall3 := sp7; repeat' (first | (simp -implicitDefEqProofs only [go_sem, ↓reduceIte, Nat.reduceEqDiff, Nat.reduceAdd, Nat.reduceSub, Nat.reduceMul, Nat.reduceLeDiff, Nat.reduceLT, reduceCtorEq, Int.reduceToNat, hlen, e1]) | (with_reducible refine g_noent ?_) | (with_reducible refine g_call0 hcall3 ?_) | (with_reducible refine g_calld0 hcall3 ?_) | (refine cdS (fun hg => ?_) (fun hg => ?_) <;> try simp -implicitDefEqProofs only [hg, Bool.not_true, Bool.not_false]) | (refine gdS (fun hg => ?_) (fun hg => ?_) <;> try simp -implicitDefEqProofs only [hg, Bool.not_true, Bool.not_false]) | (refine gddS (fun hg => ?_) (fun hg => ?_) <;> try simp -implicitDefEqProofs only [hg, Bool.not_true, Bool.not_false]) | ((with_reducible apply And.intro); focus (first | trivial | omega | decide | (simp -implicitDefEqProofs only [maxLen]; omega) | (simp [maxLen, sty_len, nd_len, ndL_len, lnL_len, intsL_len, rvs_len, lensS_len]; done) | (simp [maxLen, sty_len, nd_len, ndL_len, lnL_len, intsL_len, rvs_len, lensS_len]; omega))) | fail)
    exact (hK _ _ (ret_t rfl)).2
  · have e1 : decide ((l.length : Int) > 200) = false := decide_eq_false (by omega)
    have hcall4 := sp7; repeat' (first | (simp -implicitDefEqProofs only [go_sem, ↓reduceIte, Nat.reduceEqDiff, Nat.reduceAdd, Nat.reduceSub, Nat.reduceMul, Nat.reduceLeDiff, Nat.reduceLT, reduceCtorEq, Int.reduceToNat, hlen, e1]) | (with_reducible refine g_noent ?_) | (with_reducible refine g_call0 hcall4 ?_) | (with_reducible refine g_calld0 hcall4 ?_) | (refine cdS (fun hg => ?_) (fun hg => ?_) <;> try simp -implicitDefEqProofs only [hg, Bool.not_true, Bool.not_false]) | (refine gdS (fun hg => ?_) (fun hg => ?_) <;> try simp -implicitDefEqProofs only [hg, Bool.not_true, Bool.not_false]) | (refine gddS (fun hg => ?_) (fun hg => ?_) <;> try simp -implicitDefEqProofs only [hg, Bool.not_true, Bool.not_false]) | ((with_reducible apply And.intro); focus (first | trivial | omega | decide | (simp -implicitDefEqProofs only [maxLen]; omega) | (simp [maxLen, sty_len, nd_len, ndL_len, lnL_len, intsL_len, rvs_len, lensS_len]; done) | (simp [maxLen, sty_len, nd_len, ndL_len, lnL_len, intsL_len, rvs_len, lensS_len]; omega))) | fail)
    refine g_loop (ι := Nat) (fun k => [(18, .rv (.int .i64 k)), (17, .rv (.int .i64 l.length)), (3, .row 0 k k), (0, .rv (.sl 3 (cellsL l)))]) (fun k => [some (.row 3 k (rvs (cellsL (l.take k))))]) (fun k => k ≤ l.length) (fun k => l.length - k) 0 (by simp) ((ent_ghostv 3 3 0 rfl).trans (ent_env (by simp [lk]))) (fun k hk K' hN hX hR => ?_)
    simp -implicitDefEqProofs only [go_sem, ↓reduceIte, Nat.reduceEqDiff, Nat.reduceAdd, Nat.reduceSub, Nat.reduceMul, Nat.reduceLeDiff, Nat.reduceLT, reduceCtorEq, Int.reduceToNat]
    refine cdS (fun hg => ?_) (fun hg => ?_)
    · have hk4 : k < l.length := by simp at hg; omega
      have hx := ent_cells (es := l) (k := k) hk4
      have wu : IntKind.i64.wrap ((k : Int) + 1) = ((k + 1 : Nat) : Int) := by rw [wrap_i64 (by omega) (by omega)]; omega
      have hol : (cellsL (l.take k)).length = k := by simp [cellsL]; omega
      have hot : (cellsL (l.take k)).take k = cellsL (l.take k) := List.take_of_length_le (by omega)
      have happ : rvs (cellsL (l.take k)) ++ [[.rv (.int .i64 (ga l k).key), .rv (.int .i64 (ga l k).tie), .rv (.int .i64 (ga l k).n)]] = rvs (cellsL (l.take (k + 1))) := by
        rw [List.take_succ_eq_append_getElem hk4, ga_eq hk4]; simp [rvs, cellsL, Ent3.cells]
      repeat' (first | (simp -implicitDefEqProofs only [go_sem, ↓reduceIte, Nat.reduceEqDiff, Nat.reduceAdd, Nat.reduceSub, Nat.reduceMul, Nat.reduceLeDiff, Nat.reduceLT, reduceCtorEq, Int.reduceToNat, hx, hlen, hol, hot, happ, wu]) | (with_reducible refine g_noent ?_) | (refine cdS (fun hg => ?_) (fun hg => ?_) <;> try simp -implicitDefEqProofs only [hg, Bool.not_true, Bool.not_false]) | (refine gdS (fun hg => ?_) (fun hg => ?_) <;> try simp -implicitDefEqProofs only [hg, Bool.not_true, Bool.not_false]) | (refine gddS (fun hg => ?_) (fun hg => ?_) <;> try simp -implicitDefEqProofs only [hg, Bool.not_true, Bool.not_false]) | ((with_reducible apply And.intro); focus (first | trivial | omega | decide | (simp -implicitDefEqProofs only [maxLen]; omega) | (simp [maxLen, sty_len, nd_len, ndL_len, lnL_len, intsL_len, rvs_len, lensS_len]; done) | (simp [maxLen, sty_len, nd_len, ndL_len, lnL_len, intsL_len, rvs_len, lensS_len]; omega))) | fail)
      exact hN (k + 1) _ _ (by omega) (by omega) (ent_tail (h' := [some (.row 3 (k + 1) (rvs (cellsL (l.take (k + 1)))))]) (by simp) ⟨clH_rvs, trivial⟩ (by simp [ClEnv, lk, clS_rv, clS_row]))
    · have hk4 : k = l.length := by simp at hg; omega
      subst hk4
      simp -implicitDefEqProofs only [go_sem, ↓reduceIte, Nat.reduceEqDiff, Nat.reduceAdd, Nat.reduceSub, Nat.reduceMul, Nat.reduceLeDiff, Nat.reduceLT, reduceCtorEq, Int.reduceToNat]
      refine hX _ _ _ ?_
      rw [List.take_length]
      refine g_ent [(3, .rv (.sl 3 (cellsL l))), (0, .rv (.sl 3 (cellsL l)))] [] (ent_freeze1 (xs := cellsL l) (by rw [hlen]) cells_one (by simp [lk])) ?_
      have h1 := sp_SortedA l (by omega)
      have h2 := callR_giveRow (rs := [.sl 3 (cellsL l)]) (sp17 l 0 (by omega)) (by simp [cellsL, sortRef_len _ l (Nat.le_refl _)]) cells_one
      simp -implicitDefEqProofs only [List.map_cons, List.map_nil] at h2
      have hsl : (cellsL (sortRef l)).length = l.length := by simp [cellsL, sortRef_len _ l (Nat.le_refl _)]
      have hcall5 := h1; have hcall6 := h2; repeat' (first | (simp -implicitDefEqProofs only [go_sem, ↓reduceIte, Nat.reduceEqDiff, Nat.reduceAdd, Nat.reduceSub, Nat.reduceMul, Nat.reduceLeDiff, Nat.reduceLT, reduceCtorEq, Int.reduceToNat, hsl, bne_self_eq_false]) | (with_reducible refine g_noent ?_) | (with_reducible refine g_call0 hcall5 ?_) | (with_reducible refine g_calld0 hcall5 ?_) | (with_reducible refine g_call0 hcall6 ?_) | (with_reducible refine g_calld0 hcall6 ?_) | (refine cdS (fun hg => ?_) (fun hg => ?_) <;> try simp -implicitDefEqProofs only [hg, Bool.not_true, Bool.not_false]) | (refine gdS (fun hg => ?_) (fun hg => ?_) <;> try simp -implicitDefEqProofs only [hg, Bool.not_true, Bool.not_false]) | (refine gddS (fun hg => ?_) (fun hg => ?_) <;> try simp -implicitDefEqProofs only [hg, Bool.not_true, Bool.not_false]) | ((with_reducible apply And.intro); focus (first | trivial | omega | decide | (simp -implicitDefEqProofs only [maxLen]; omega) | (simp [maxLen, sty_len, nd_len, ndL_len, lnL_len, intsL_len, rvs_len, lensS_len]; done) | (simp [maxLen, sty_len, nd_len, ndL_len, lnL_len, intsL_len, rvs_len, lensS_len]; omega))) | fail)
      refine g_loop (ι := Nat) (fun k => [(40, .rv (.int .i64 k)), (39, .rv (.int .i64 l.length)), (5, .rv (.sl 3 (cellsL (sortRef l)))), (6, .rv (.sl 3 (cellsL (sortRef l)))), (3, .rv (.sl 3 (cellsL l))), (0, .rv (.sl 3 (cellsL l)))]) (fun _ => []) (fun k => k ≤ l.length) (fun k => l.length - k) 0 (by simp) (ent_env (by simp [lk])) (fun k hk K' hN hX hR => ?_)
      simp -implicitDefEqProofs only [go_sem, ↓reduceIte, Nat.reduceEqDiff, Nat.reduceAdd, Nat.reduceSub, Nat.reduceMul, Nat.reduceLeDiff, Nat.reduceLT, reduceCtorEq, Int.reduceToNat]
      refine cdS (fun hg => ?_) (fun hg => ?_)
      · have hk4 : k < l.length := by simp at hg; omega
        have hx := ent_cells (es := l) (k := k) hk4
        have hy := ent_cells (es := sortRef l) (k := k) (by rw [sortRef_len _ l (Nat.le_refl _)]; exact hk4)
        have wu : IntKind.i64.wrap ((k : Int) + 1) = ((k + 1 : Nat) : Int) := by rw [wrap_i64 (by omega) (by omega)]; omega
        repeat' (first | (simp -implicitDefEqProofs only [go_sem, ↓reduceIte, Nat.reduceEqDiff, Nat.reduceAdd, Nat.reduceSub, Nat.reduceMul, Nat.reduceLeDiff, Nat.reduceLT, reduceCtorEq, Int.reduceToNat, hx, hy, hlen, hsl, wu, beq_self_eq_true, Bool.and_true, Bool.and_self]) | (with_reducible refine g_noent ?_) | (refine cdS (fun hg => ?_) (fun hg => ?_) <;> try simp -implicitDefEqProofs only [hg, Bool.not_true, Bool.not_false]) | (refine gdS (fun hg => ?_) (fun hg => ?_) <;> try simp -implicitDefEqProofs only [hg, Bool.not_true, Bool.not_false]) | (refine gddS (fun hg => ?_) (fun hg => ?_) <;> try simp -implicitDefEqProofs only [hg, Bool.not_true, Bool.not_false]) | ((with_reducible apply And.intro); focus (first | trivial | omega | decide | (simp -implicitDefEqProofs only [maxLen]; omega) | (simp [maxLen, sty_len, nd_len, ndL_len, lnL_len, intsL_len, rvs_len, lensS_len]; done) | (simp [maxLen, sty_len, nd_len, ndL_len, lnL_len, intsL_len, rvs_len, lensS_len]; omega))) | fail)
        exact hN (k + 1) _ _ (by omega) (by omega) (ent_env (by simp [lk]))
      · simp -implicitDefEqProofs only [go_sem, ↓reduceIte, Nat.reduceEqDiff, Nat.reduceAdd, Nat.reduceSub, Nat.reduceMul, Nat.reduceLeDiff, Nat.reduceLT, reduceCtorEq, Int.reduceToNat]
        refine hX _ _ _ ?_
        repeat' (first | (simp -implicitDefEqProofs only [go_sem, ↓reduceIte, Nat.reduceEqDiff, Nat.reduceAdd, Nat.reduceSub, Nat.reduceMul, Nat.reduceLeDiff, Nat.reduceLT, reduceCtorEq, Int.reduceToNat]) | (with_reducible refine g_noent ?_) | (refine cdS (fun hg => ?_) (fun hg => ?_) <;> try simp -implicitDefEqProofs only [hg, Bool.not_true, Bool.not_false]) | (refine gdS (fun hg => ?_) (fun hg => ?_) <;> try simp -implicitDefEqProofs only [hg, Bool.not_true, Bool.not_false]) | (refine gddS (fun hg => ?_) (fun hg => ?_) <;> try simp -implicitDefEqProofs only [hg, Bool.not_true, Bool.not_false]) | ((with_reducible apply And.intro); focus (first | trivial | omega | decide | (simp -implicitDefEqProofs only [maxLen]; omega) | (simp [maxLen, sty_len, nd_len, ndL_len, lnL_len, intsL_len, rvs_len, lensS_len]; done) | (simp [maxLen, sty_len, nd_len, ndL_len, lnL_len, intsL_len, rvs_len, lensS_len]; omega))) | fail)
        exact (hK _ _ (ret_t rfl)).2
end Go.Eng

/- What comes in, as entries. -/
namespace Go.Eng
open Go Go.Proofs
theorem tyIntE {n : Nat} {rs : List RV} (h : TyC Go.Proofs.Try.prog (n + 1) 3 rs) : ∃ i, rs = [.int .i64 i] := by
  obtain ⟨i, h, _⟩ := tyC_int Try.underlying3 h
  exact ⟨i, h⟩
theorem tyInt64E {n : Nat} {rs : List RV} (h : TyC Go.Proofs.Try.prog (n + 1) 2 rs) : ∃ i, rs = [.int .i64 i] := by
  obtain ⟨i, h, _⟩ := tyC_int Try.underlying2 h
  exact ⟨i, h⟩
theorem tyEnt {n : Nat} {rs : List RV} (h : TyC Go.Proofs.Try.prog (n + 2) 23 rs) : ∃ x : Ent3, rs = x.cells := by
  have h := tyC_struct Try.underlying23 h
  obtain ⟨_, _, rfl, h1, _, _, rfl, h2, _, _, rfl, h3, rfl⟩ := h
  obtain ⟨i, rfl⟩ := tyInt64E h1
  obtain ⟨j, rfl⟩ := tyInt64E h2
  obtain ⟨k, rfl⟩ := tyIntE h3
  exact ⟨⟨i, j, k⟩, rfl⟩
theorem list_ofE {α : Type} {f : α → List RV} : ∀ {xs : List (List RV)}, (∀ x ∈ xs, ∃ a, x = f a) → ∃ l : List α, xs = l.map f
  | [], _ => ⟨[], rfl⟩
  | x :: xs, h => by
    obtain ⟨a, rfl⟩ := h x (by simp)
    obtain ⟨l, rfl⟩ := list_ofE (xs := xs) fun y hy => h y (by simp [hy])
    exact ⟨a :: l, rfl⟩
theorem aggEnts : aggT Go.Proofs.Try.prog 30 = some false := by kernel_rfl
theorem cells3 : Program.cellsOf Go.Proofs.Try.prog 23 = 3 := by kernel_rfl
theorem openEnts {rs : List RV} (h : TyC Go.Proofs.Try.prog 3 30 rs) : ∃ l : List Ent3, argS Go.Proofs.Try.prog 30 rs = .rv (.sl 3 (cellsL l)) := by
  obtain ⟨xs, rfl, _, hx⟩ := tyC_slice Try.underlying30 h
  obtain ⟨l, rfl⟩ := list_ofE fun x hx' => tyEnt (hx x hx')
  refine ⟨l, ?_⟩
  rw [argS_one aggEnts, cells3]
end Go.Eng
