/- Saying less of a state: things dropped, or given up to be only read; nil slices taken as rows. -/
import Derived.Test.YtjiipbccpfjefaaEngU
set_option linter.unusedSimpArgs false
set_option linter.unusedVariables false
namespace Go.Eng
open Go

theorem ent_gen {n0 : Nat} {env env' : List (Nat × SV)} {h h' : List (Option HB)} (τ : Nat → Option Nat) (hn : n0 ≤ h'.length)
    (hid : ∀ j i, τ j = some i → i = j) (hkeep : ∀ j, τ j = none → n0 ≤ j)
    (hh : ∀ j, (∃ hb hb', τ j = some j ∧ hget h j = some hb ∧ hget h' j = some hb' ∧ RnH τ (hget h) hb hb') ∨ (hget h' j = none ∧ (τ j = none ∨ hget h j = none)))
    (he : ∀ n, Rn τ (hget h) (lk env n) (lk env' n)) : Ent n0 ⟨env, h⟩ ⟨env', h'⟩ := by
  intro C a w R
  obtain ⟨⟨rho, RF⟩, _, h0⟩ := R
  have hsub : ∀ j hb', hget h' j = some hb' → τ j = some j ∧ ∃ hb, hget h j = some hb ∧ RnH τ (hget h) hb hb' := fun j hb' hj => by
    rcases hh j with ⟨hb, hb2, a1, a2, a3, a4⟩ | ⟨a1, _⟩
    · rw [hj] at a3; cases a3; exact ⟨a1, hb, a2, a4⟩
    · rw [hj] at a1; cases a1
  have hsome : ∀ j, (hget h' j).isSome = true → (hget h j).isSome = true := fun j hj => by
    obtain ⟨hb', hb2⟩ := Option.isSome_iff_exists.1 hj
    obtain ⟨_, hb, h1, _⟩ := hsub j hb' hb2
    rw [h1]; rfl
  have M := RF.mem
  have okIn : ∀ b, okk C rho (hget h) b → okk C rho (hget h') b := fun b hb => ⟨hb.1, fun id hid => hb.2 id (hsome id hid)⟩
  have okfz : ∀ j b, τ j = none → (hget h j).isSome = true → rho j = some b → okk C rho (hget h') b := fun j b hj hs hb => by
    refine ⟨?_, fun id hid he => ?_⟩
    · rcases (M.own j b hs hb).1 with ⟨a1, _⟩ | a
      · rw [h0 j (hkeep j hj)] at a1; cases a1
      · exact .inr a
    · have := M.inj id j b (hsome id hid) hs he hb
      subst this
      obtain ⟨hb', hb2⟩ := Option.isSome_iff_exists.1 hid
      obtain ⟨h1, _⟩ := hsub id hb' hb2
      rw [h1] at hj; cases hj
  have hs : ∀ j i, τ j = some i → rho j = rho i ∧ ((hget h j).isSome = true → (hget h' i).isSome = true) ∧ (∀ cs, hget h' i = some (.var cs) → ∃ cs', hget h j = some (.var cs')) ∧ ∀ e ver xs, hget h' i = some (.row e ver xs) → ∃ xs', hget h j = some (.row e ver xs') := fun j i hj => by
    obtain rfl := hid j i hj
    refine ⟨rfl, fun hi => ?_, fun cs hc => ?_, fun e ver xs hc => ?_⟩
    · rcases hh i with ⟨hb, hb2, a1, a2, a3, a4⟩ | ⟨_, a1 | a1⟩
      · rw [a3]; rfl
      · rw [a1] at hj; cases hj
      · rw [a1] at hi; cases hi
    · obtain ⟨_, hb, h1, h2⟩ := hsub i _ hc
      cases h2 with
      | var xs _ _ => exact ⟨xs, h1⟩
    · obtain ⟨_, hb, h1, h2⟩ := hsub i _ hc
      cases h2 with
      | row _ _ xs _ _ _ => exact ⟨xs, h1⟩
  refine ⟨⟨rho, ⟨⟨fun j hb' hj => ?_, fun i j b h1 h2 => M.inj i j b (hsome i h1) (hsome j h2), fun j b h1 h2 => M.own j b (hsome j h1) h2, M.fr, fun j hb' hb0 h1 h2 => ?_⟩, fun n => (RF.env n).leave okIn okfz (fun j hb hj => M.heap j hb hj) hs (he n), RF.size, RF.defers⟩⟩, hn, h0⟩
  · obtain ⟨a1, hb, a2, a3⟩ := hsub j hb' hj
    exact (M.heap j hb a2).leave okIn okfz (fun j hb hj => M.heap j hb hj) hs a1 a3
  · obtain ⟨a1, hb, a2, a3⟩ := hsub j hb' h1
    have ev := M.evo j hb hb0 a2 h2
    cases a3 with
    | var xs ys _ => cases hb0 <;> exact ev
    | row e ver xs ys _ _ => cases hb0 <;> exact ev

theorem lk_dead_of {P : SV → SV → Prop} (hd : ∀ x, P x .dead) {env : List (Nat × SV)} : ∀ {env' : List (Nat × SV)}, (∀ p ∈ env', P (lk env p.1) p.2) → ∀ n, P (lk env n) (lk env' n)
  | [], _, n => hd _
  | (m, v) :: r, h, n => by
    show P (lk env n) (if m = n then v else lk r n)
    by_cases he : m = n
    · rw [if_pos he, ← he]; exact h (m, v) (by simp)
    · rw [if_neg he]; exact lk_dead_of hd (fun p hp => h p (List.mem_cons_of_mem _ hp)) n

theorem ent_refl (n0 : Nat) (s : St) : Ent n0 s s := fun _ _ _ R => R
theorem Ent.trans {n0 : Nat} {s s1 s2 : St} (h : Ent n0 s s1) (k : Ent n0 s1 s2) : Ent n0 s s2 := fun C a w R => k C a w (h C a w R)

/-- Slots dropped. -/
theorem ent_env {n0 : Nat} {env env' : List (Nat × SV)} {h : List (Option HB)} (he : ∀ p ∈ env', p.2 = .dead ∨ lk env p.1 = p.2) : Ent n0 ⟨env, h⟩ ⟨env', h⟩ := by
  intro C a w R
  obtain ⟨⟨rho, RF⟩, h1, h0⟩ := R
  refine ⟨⟨rho, RF.mem, fun n => ?_, RF.size, RF.defers⟩, h1, h0⟩
  have := lk_dead_of (P := fun x y => y = .dead ∨ x = y) (fun x => .inl rfl) he n
  rcases this with h | h
  · show Rp _ _ _ _ (lk env' n) _
    rw [h]; exact .dead _
  · show Rp _ _ _ _ (lk env' n) _
    rw [← h]; exact RF.env n

/-- A nil slice as a row without elements. -/
theorem ent_ghost {n0 : Nat} {env : List (Nat × SV)} {h : List (Option HB)} (n e : Nat) (hn : lk env n = .rv .nilsl) : Ent n0 ⟨env, h⟩ ⟨(n, .row h.length 0 0) :: env, h ++ [some (.row e 0 [])]⟩ := by
  intro C a w R
  obtain ⟨⟨rho, RF⟩, h1, h0⟩ := R
  have hnone : hget h h.length = none := by unfold hget; rw [List.getElem?_eq_none (Nat.le_refl _)]
  have hC0 : C.h0 h.length = none := h0 _ h1
  have S := RF.mem.ghost h.length e 0 (.inl ⟨hnone, hC0⟩)
  have RF' := RF.step S
  have hh : hget (h ++ [some (.row e 0 [])]) = up (hget h) h.length (some (.row e 0 [])) := by
    have := hget_uph (h := h) (q := (h.length, .row e 0 [])) (Nat.le_refl _)
    rw [← this]
    unfold uph; rw [if_pos rfl]
  have hv := RF.env n
  rw [hn] at hv
  refine ⟨⟨up rho h.length none, ?_, fun m => ?_, RF'.size, RF'.defers⟩, ?_, h0⟩
  · show RepH C (hget (h ++ [some (.row e 0 [])])) w (up rho h.length none)
    rw [hh]; exact RF'.mem
  · show Rp w (okk C (up rho h.length none) (hget (h ++ [some (.row e 0 [])]))) (up rho h.length none) (hget (h ++ [some (.row e 0 [])])) (lk ((n, .row h.length 0 0) :: env) m) _
    rw [hh, lk_put]
    by_cases hm : m = n
    · subst hm
      rw [up_same]
      cases hv with
      | rv _ _ hr =>
        generalize a.tmps.getD m undef = v at hr
        cases hr
        refine .row _ _ _ _ rfl (by rw [up_same]; rfl) (fun e ver0 xs hx => by rw [up_same] at hx; cases hx; exact Nat.le_refl _) (fun e xs hx => .inl ⟨up_same _ _ _, rfl, rfl⟩)
    · rw [up_other _ _ hm]; exact RF'.env m
  · show n0 ≤ (h ++ [some (HB.row e 0 [])]).length
    have h1' : n0 ≤ h.length := h1
    simp; omega

/-- Values that lead to no memory that is only read. -/
inductive FlatR : RV → Prop where
  | int (k : IntKind) (n : Int) : FlatR (.int k n)
  | bool (b : Bool) : FlatR (.bool b)
  | str (s : ByteArray) : FlatR (.str s)
  | nilp : FlatR .nilp
  | nilsl : FlatR .nilsl
  | nili : FlatR .nili
  | nilf : FlatR .nilf
  | ifc (t : TypeId) (r : RV) (h : FlatR r) : FlatR (.ifc t r)
  | agg (rs : List RV) (h : ∀ (j : Nat) (r : RV), rs[j]? = some r → FlatR r) : FlatR (.agg rs)
  | fn (f : FuncId) (rs : List RV) (h : ∀ (j : Nat) (r : RV), rs[j]? = some r → FlatR r) : FlatR (.fn f rs)

theorem RO.flat {w w' : World} {ok ok' : Nat → Prop} {r : RV} {v : Value} (hr : RO w ok r v) (hf : FlatR r) : RO w' ok' r v := by
  induction hf generalizing v with
  | int k n => cases hr; exact .int k n
  | bool b => cases hr; exact .bool b
  | str s => cases hr; exact .str s
  | nilp => cases hr; exact .nilp
  | nilsl => cases hr; exact .nilsl
  | nili => cases hr; exact .nili
  | nilf => cases hr; exact .nilf
  | ifc t r h ih => cases hr with | ifc _ _ v h => exact .ifc t r v (ih h)
  | agg rs h ih => cases hr with | agg _ vs hl h1 hy => exact .agg rs vs hl h1 (fun j y hj => ih j y hj (hy j y hj))
  | fn f rs h ih => cases hr with | fn _ _ vs hl hy => exact .fn f rs vs hl (fun j y hj => ih j y hj (hy j y hj))

inductive FlatS : SV → Prop where
  | dead : FlatS .dead
  | rv (r : RV) (h : FlatR r) : FlatS (.rv r)
  | ptr (id off : Nat) : FlatS (.ptr id off)
  | ept (id ver i off : Nat) : FlatS (.ept id ver i off)
  | row (id ver len : Nat) : FlatS (.row id ver len)
  | agg (cs : List SV) (h : ∀ (j : Nat) (y : SV), cs[j]? = some y → FlatS y) : FlatS (.agg cs)
  | tup (cs : List SV) (h : ∀ (j : Nat) (y : SV), cs[j]? = some y → FlatS y) : FlatS (.tup cs)
  | fn (f : FuncId) (cs : List SV) (h : ∀ (j : Nat) (y : SV), cs[j]? = some y → FlatS y) : FlatS (.fn f cs)
  | ifc (t : TypeId) (x : SV) (h : FlatS x) : FlatS (.ifc t x)

inductive FlatH : HB → Prop where
  | var (cs : List SV) (h : ∀ (j : Nat) (y : SV), cs[j]? = some y → FlatS y) : FlatH (.var cs)
  | row (e ver : Nat) (xs : List (List SV)) (h : ∀ (i : Nat) (x : List SV) (j : Nat) (y : SV), xs[i]? = some x → x[j]? = some y → FlatS y) : FlatH (.row e ver xs)

section
variable {w : World} {ok ok' : Nat → Prop} {rho rho' : Nat → Option Nat} {hp hp' : Hp}

theorem Rp.flat (hs : ∀ j, (hp j).isSome = true → hp' j = hp j ∧ rho' j = rho j) {s : SV} {v : Value} (hr : Rp w ok rho hp s v) (hf : FlatS s) : Rp w ok' rho' hp' s v := by
  induction hf generalizing v with
  | dead => exact .dead v
  | rv r h => cases hr with | rv _ _ hr => exact .rv r v (hr.flat h)
  | ptr id off => cases hr with | ptr _ _ _ h1 h0 h => obtain ⟨a, b⟩ := hs id h0; exact .ptr id off v h1 (by rw [a]; exact h0) (by rw [a, b]; exact h)
  | ept id ver i off => cases hr with | ept _ _ _ _ _ h1 h0 hv h => obtain ⟨a, b⟩ := hs id h0; exact .ept id ver i off v h1 (by rw [a]; exact h0) (by rw [a]; exact hv) (by rw [a, b]; exact h)
  | row id ver len => cases hr with | row _ _ _ _ h1 h0 hv h => obtain ⟨a, b⟩ := hs id h0; exact .row id ver len v h1 (by rw [a]; exact h0) (by rw [a]; exact hv) (by rw [a, b]; exact h)
  | agg cs h ih => cases hr with | agg _ vs hl h1 hy => exact .agg cs vs hl h1 (fun j y hj => ih j y hj (hy j y hj))
  | tup cs h ih => cases hr with | tup _ vs hl hy => exact .tup cs vs hl (fun j y hj => ih j y hj (hy j y hj))
  | fn f cs h ih => cases hr with | fn _ _ vs hl hy => exact .fn f cs vs hl (fun j y hj => ih j y hj (hy j y hj))
  | ifc t x h ih => cases hr with | ifc _ _ v0 h0 => exact .ifc t x v0 (ih h0)

theorem CellsIn.flat (hs : ∀ j, (hp j).isSome = true → hp' j = hp j ∧ rho' j = rho j) {cur : Array Value} {off : Nat} {cs : List SV} (h : CellsIn w ok rho hp cur off cs) (hf : ∀ (j : Nat) (y : SV), cs[j]? = some y → FlatS y) : CellsIn w ok' rho' hp' cur off cs := fun j y hy => by
  obtain ⟨v, h1, h2, h3⟩ := h j y hy
  exact ⟨v, h1, h2, h3.flat hs (hf j y hy)⟩

theorem HBRep.flat (hs : ∀ j, (hp j).isSome = true → hp' j = hp j ∧ rho' j = rho j) {id : Nat} {hb : HB} (hid : (hp id).isSome = true) (h : HBRep w ok rho hp id hb) (hf : FlatH hb) : HBRep w ok' rho' hp' id hb := by
  have hr := (hs id hid).2
  rcases h with ⟨h1, h2⟩ | ⟨b, cur, t, h1, h2, h3⟩
  · exact .inl ⟨hr.trans h1, h2⟩
  · refine .inr ⟨b, cur, t, hr.trans h1, h2, ?_⟩
    cases hf with
    | var cs hf => exact ⟨h3.1, h3.2.flat hs hf⟩
    | row e ver xs hf => exact ⟨h3.1, h3.2.1, fun i x hx => (h3.2.2 i x hx).flat hs (fun j y hy => hf i x j y hx hy)⟩
end

theorem upl_none {us : List (Nat × HB)} {id : Nat} : (upl (fun _ => none) us id).isSome = true ↔ id ∈ us.map (·.1) := by
  have gen : ∀ (us : List (Nat × HB)) (hp : Hp), (upl hp us id).isSome = true ↔ (hp id).isSome = true ∨ id ∈ us.map (·.1) := by
    intro us
    induction us with
    | nil => intro hp; simp [upl]
    | cons q r ih =>
      intro hp
      obtain ⟨i, hb⟩ := q
      rw [upl, ih]
      by_cases h : id = i
      · subst h; simp
      · rw [up_other _ _ h]; simp [h]
  rw [gen]; simp

theorem upl_val {us : List (Nat × HB)} {id : Nat} {hb : HB} : ∀ {hp : Hp}, upl hp us id = some hb → hp id = some hb ∨ (id, hb) ∈ us := by
  induction us with
  | nil => intro hp h; exact .inl h
  | cons q r ih =>
    intro hp h
    obtain ⟨i, hb0⟩ := q
    rcases ih h with h | h
    · by_cases he : id = i
      · subst he; rw [up_same] at h; cases h; exact .inr (by simp)
      · rw [up_other _ _ he] at h; exact .inl h
    · exact .inr (by simp [h])

/-- What is the caller's own is lent to a call that only reads it. -/
theorem callR_borrow {P : Program} {f : FuncId} {rs : List RV} {args : List SV} {pre us : List (Nat × HB)} {sv : SV} (H : CallR P f (rs.map .rv) [] us sv) (hl : args.length = rs.length)
    (hz : ∀ hp, PreOK hp pre → ∀ (j : Nat) (y : SV) (r : RV), args[j]? = some y → rs[j]? = some r → Fz (fun _ => none) hp y r) (hfl : FlatS sv) (hus : ∀ q ∈ us, FlatH q.2 ∧ ∀ p ∈ pre, p.1 ≠ q.1) : CallR P f args pre us sv := by
  refine ⟨H.1, fun C hp w rho vs hpre hnew R hvl hvs => ?_⟩
  let C2 : Ctx := ⟨w, fun b => okk C rho hp b ∨ ∃ id, (hp id).isSome = true ∧ rho id = some b, fun _ => False, C.N, fun _ => none, fun _ => none⟩
  have hok2 : ∀ b, C2.okE b → okk C2 (fun _ => none) (fun _ => none) b := fun b hb => ⟨.inl hb, fun id hid => by simp at hid⟩
  have R2 : RepH C2 (fun _ => none) w (fun _ => none) := ⟨fun id hb h => (by cases h), fun i j b h => (by simp at h), fun i b h => (by simp at h), ⟨rfl, rfl, rfl, Nat.le_refl _, fun b _ _ => rfl⟩, fun id hb hb0 h => (by cases h)⟩
  have hfresh : ∀ id, id ∈ us.map (·.1) → hp id = none ∧ C.h0 id = none := fun id hid => by
    obtain ⟨q, hq, rfl⟩ := List.mem_map.1 hid
    rcases hnew q hq with ⟨hb, hm⟩ | h
    · exact absurd rfl ((hus q hq).2 (q.1, hb) hm)
    · exact h
  refine (H.2 C2 (fun _ => none) w (fun _ => none) vs (fun q hq => by simp at hq) (fun q hq => .inr ⟨rfl, rfl⟩) R2 (by simp [hvl, hl]) (fun j s hj => ?_)).mono ?_
  · rw [List.getElem?_map] at hj
    cases hr : rs[j]? with
    | none => simp [hr] at hj
    | some r =>
      simp [hr] at hj
      subst hj
      have hlt := (List.getElem?_eq_some_iff.1 hr).1
      have hy := List.getElem?_eq_getElem (l := args) (i := j) (by omega)
      refine .rv _ _ (Fz.ro (τ := fun _ => none) (fun b hb => hok2 b (.inl hb)) (fun i b _ hi hb => hok2 b (.inr ⟨i, hi, hb⟩)) (fun i hb hi => R.heap i hb hi) (hvs j _ hy) (hz hp hpre j _ r hy hr))
  · rintro e w' ⟨v, rho', rfl, S, hR⟩
    have R' := S.mem
    have hblk : ∀ b, b < w.heap.size → w'.heap[b]? = w.heap[b]? := fun b hb => R'.fr.block b hb (fun h => h)
    have hsz : w.heap.size ≤ w'.heap.size := R'.fr.size
    have hnewb : ∀ id b, id ∈ us.map (·.1) → rho' id = some b → w.heap.size ≤ b ∧ b < w'.heap.size := fun id b hid hb => by
      obtain ⟨h1, h2⟩ := R'.own id b (upl_none.2 hid) hb
      rcases h1 with ⟨a, _⟩ | a
      · cases a
      · exact ⟨a, h2⟩
    let rhoF : Nat → Option Nat := fun id => if id ∈ us.map (·.1) then rho' id else rho id
    have rT : ∀ id, id ∈ us.map (·.1) → rhoF id = rho' id := fun id h => if_pos h
    have rN : ∀ id, id ∉ us.map (·.1) → rhoF id = rho id := fun id h => if_neg h
    have hN : ∀ id, id ∉ us.map (·.1) → upl hp us id = hp id := fun id h => upl_or h
    have hT : ∀ id, id ∈ us.map (·.1) → upl hp us id = upl (fun _ => none) us id := fun id h => upl_mem h
    have hs : ∀ j, (upl (fun _ => none) us j).isSome = true → upl hp us j = upl (fun _ => none) us j ∧ rhoF j = rho' j := fun j hj => ⟨hT j (upl_none.1 hj), rT j (upl_none.1 hj)⟩
    have okM : ∀ b, okk C rho hp b → b < w.heap.size → okk C rhoF (upl hp us) b ∧ w'.heap[b]? = w.heap[b]? := fun b hb hlt => by
      refine ⟨⟨hb.1, fun id hid he => ?_⟩, hblk b hlt⟩
      by_cases hm : id ∈ us.map (·.1)
      · rw [rT id hm] at he
        have := (hnewb id b hm he).1; omega
      · rw [hN id hm] at hid
        rw [rN id hm] at he
        exact hb.2 id hid he
    have E : Evo w w' (okk C rho hp) (okk C rhoF (upl hp us)) rho rhoF hp (upl hp us) := Evo.of okM (fun id hb hq => by
      have hm : id ∉ us.map (·.1) := fun hm => by rw [(hfresh id hm).1] at hq; cases hq
      refine ⟨hb, by rw [hN id hm]; exact hq, ?_⟩
      rw [rN id hm]
      cases hb with
      | var cs => rfl
      | row e ver xs => exact ⟨Nat.le_refl _, fun _ => ⟨rfl, rfl, fun b hb cur t hc => ⟨cur, t, by rw [hblk b (R.own id b (by rw [hq]; rfl) hb).2]; exact hc, rfl⟩⟩⟩)
    refine ⟨v, rhoF, rfl, ⟨⟨fun id hb hq => ?_, fun i j b h1 h2 h3 h4 => ?_, fun id b h1 h2 => ?_, ⟨R'.fr.os.trans R.fr.os, R'.fr.tape.trans R.fr.tape, R'.fr.output.trans R.fr.output, Nat.le_trans R.fr.size hsz, fun b h1 h2 => ?_⟩, fun id hb hb0 h1 h2 => ?_⟩, E⟩, hR.flat hs hfl⟩
    · by_cases hm : id ∈ us.map (·.1)
      · rw [hT id hm] at hq
        have hfh : FlatH hb := by
          rcases upl_val hq with h | h
          · cases h
          · exact (hus _ h).1
        exact (R'.heap id hb hq).flat hs (upl_none.2 hm) hfh
      · rw [hN id hm] at hq
        rcases R.heap id hb hq with ⟨a1, a2⟩ | ⟨b, cur, t, a1, a2, a3⟩
        · exact .inl ⟨(rN id hm).trans a1, a2⟩
        · refine .inr ⟨b, cur, t, (rN id hm).trans a1, ?_, a3.mono E⟩
          rw [hblk b (R.own id b (by rw [hq]; rfl) a1).2]; exact a2
    · by_cases hi : i ∈ us.map (·.1) <;> by_cases hj : j ∈ us.map (·.1)
      · rw [rT i hi] at h3; rw [rT j hj] at h4
        exact R'.inj i j b (upl_none.2 hi) (upl_none.2 hj) h3 h4
      · rw [rT i hi] at h3; rw [rN j hj] at h4; rw [hN j hj] at h2
        have h5 := hnewb i b hi h3; have h6 := R.own j b h2 h4; omega
      · rw [rN i hi] at h3; rw [rT j hj] at h4; rw [hN i hi] at h1
        have h5 := hnewb j b hj h4; have h6 := R.own i b h1 h3; omega
      · rw [rN i hi] at h3; rw [rN j hj] at h4; rw [hN i hi] at h1; rw [hN j hj] at h2
        exact R.inj i j b h1 h2 h3 h4
    · by_cases hm : id ∈ us.map (·.1)
      · rw [rT id hm] at h2
        obtain ⟨a1, a2⟩ := hnewb id b hm h2
        exact ⟨.inr (Nat.le_trans R.fr.size a1), a2⟩
      · rw [hN id hm] at h1; rw [rN id hm] at h2
        obtain ⟨a1, a2⟩ := R.own id b h1 h2
        exact ⟨a1, by omega⟩
    · rw [hblk b (by have := R.fr.size; omega)]; exact R.fr.block b h1 h2
    · by_cases hm : id ∈ us.map (·.1)
      · rw [(hfresh id hm).2] at h2; cases h2
      · rw [hN id hm] at h1
        have ev := R.evo id hb hb0 h1 h2
        obtain ⟨hb', g1, g2⟩ : ∃ hb', upl hp us id = some hb' ∧ EvoHB w w' (rho id) (rhoF id) hb hb' := by
          refine ⟨hb, by rw [hN id hm]; exact h1, ?_⟩
          rw [rN id hm]
          cases hb with
          | var cs => rfl
          | row e ver xs => exact ⟨Nat.le_refl _, fun _ => ⟨rfl, rfl, fun b hb cur t hc => ⟨cur, t, by rw [hblk b (R.own id b (by rw [h1]; rfl) hb).2]; exact hc, rfl⟩⟩⟩
        rw [hN id hm, h1] at g1; cases g1
        exact ev.trans g2
end Go.Eng
