/- Part 2 of the proof: EngM, EngN, EngO, EngP, EngQ, EngR, EngS, EngT, EngU, EngV, EngW. -/
import Derived.Test.YtiajmaeempoihaaPaintOrders1
set_option linter.unusedSimpArgs false
set_option linter.unusedVariables false
/- Each of the machine's operations that the engine takes. -/
namespace Go.Eng
open Go

inductive Args (w : World) (ok : Nat → Prop) (rho : Nat → Option Nat) (hp : Hp) (a : Act) : List SV → List Operand → Prop where
  | nil : Args w ok rho hp a [] []
  | cons {s : SV} {x : Operand} {ss : List SV} {xs : List Operand} (h : Rp w ok rho hp s (a.eval x)) (t : Args w ok rho hp a ss xs) : Args w ok rho hp a (s :: ss) (x :: xs)

section
variable {P : Program} {C : Ctx} {hp : Hp} {w : World} {rho : Nat → Option Nat}

theorem Args.length {ok : Nat → Prop} {a : Act} {ss : List SV} {xs : List Operand} (h : Args w ok rho hp a ss xs) : ss.length = xs.length := by
  induction h with
  | nil => rfl
  | cons _ _ ih => simp [ih]

theorem Args.get {ok : Nat → Prop} {a : Act} {ss : List SV} {xs : List Operand} (h : Args w ok rho hp a ss xs) : ∀ (j : Nat) (s : SV), ss[j]? = some s → Rp w ok rho hp s ((xs.map a.eval).getD j undef) := by
  induction h with
  | nil => intro j s hs; simp at hs
  | cons h _ ih =>
    intro j s hs
    cases j with
    | zero => simp at hs; subst hs; simpa using h
    | succ j => simp at hs; simpa using ih j s hs

theorem fits_get : ∀ (n : Nat) (ps : List (Nat × Nat)) (xs : List (List SV)), fits n ps xs → ∀ (j o k : Nat) (x : List SV), ps[j]? = some (o, k) → xs[j]? = some x → x.length = k ∧ o + k ≤ n
  | n, [], [], _, j, o, k, x, h, _ => by simp at h
  | n, [], _ :: _, h, _, _, _, _, _, _ => h.elim
  | n, _ :: _, [], h, _, _, _, _, _, _ => h.elim
  | n, (o, k) :: ps, x :: xs, h, j, o', k', x', h1, h2 => by
    obtain ⟨a, b, c⟩ := h
    cases j with
    | zero => simp at h1 h2; obtain ⟨rfl, rfl⟩ := h1; subst h2; exact ⟨a, b⟩
    | succ j => simp at h1 h2; exact fits_get n ps xs c j o' k' x' h1 h2

theorem allLen_mem {e : Nat} : ∀ {cs : List (List SV)}, allLen e cs → ∀ c ∈ cs, c.length = e
  | [], _, c, hc => by simp at hc
  | x :: r, h, c, hc => by
    rcases List.mem_cons.1 hc with rfl | hc
    · exact h.1
    · exact allLen_mem h.2 c hc

theorem mapM_some_get {α β : Type} (f : α → Option β) : ∀ (l : List α) (r : List β), l.mapM f = some r → r.length = l.length ∧ ∀ (j : Nat) (x : α), l[j]? = some x → r[j]? = f x ∧ (f x).isSome = true
  | [], r, h => by simp at h; subst h; exact ⟨rfl, fun j x hx => by simp at hx⟩
  | y :: l, r, h => by
    simp only [List.mapM_cons, Option.bind_eq_bind] at h
    cases hy : f y with
    | none => simp [hy] at h
    | some b =>
      cases hl : l.mapM f with
      | none => simp [hy, hl] at h
      | some bs =>
        simp [hy, hl] at h
        subst h
        obtain ⟨h1, h2⟩ := mapM_some_get f l bs hl
        refine ⟨by simp [h1], fun j x hx => ?_⟩
        cases j with
        | zero => simp at hx; subst hx; simp [hy]
        | succ j => simp at hx; simpa using h2 j x hx

theorem Args.zero {ok : Nat → Prop} {a : Act} {ss : List SV} (h : Args w ok rho hp a ss []) : ss = [] := by cases h; rfl
theorem Args.one {ok : Nat → Prop} {a : Act} {ss : List SV} {x : Operand} (h : Args w ok rho hp a ss [x]) : ∃ s, ss = [s] ∧ Rp w ok rho hp s (a.eval x) := by
  cases h with
  | cons h t => cases t; exact ⟨_, rfl, h⟩
theorem Args.two {ok : Nat → Prop} {a : Act} {ss : List SV} {x y : Operand} (h : Args w ok rho hp a ss [x, y]) : ∃ s t, ss = [s, t] ∧ Rp w ok rho hp s (a.eval x) ∧ Rp w ok rho hp t (a.eval y) := by
  cases h with
  | cons h t => obtain ⟨s, rfl, h2⟩ := t.one; exact ⟨_, _, rfl, h, h2⟩
theorem Args.three {ok : Nat → Prop} {a : Act} {ss : List SV} {x y z : Operand} (h : Args w ok rho hp a ss [x, y, z]) : ∃ s t r, ss = [s, t, r] ∧ Rp w ok rho hp s (a.eval x) ∧ Rp w ok rho hp t (a.eval y) ∧ Rp w ok rho hp r (a.eval z) := by
  cases h with
  | cons h t => obtain ⟨s, t, rfl, h2, h3⟩ := t.two; exact ⟨_, _, _, rfl, h, h2, h3⟩

theorem rp_int {ok : Nat → Prop} {k : IntKind} {n : Int} {v : Value} (h : Rp w ok rho hp (.rv (.int k n)) v) : v = .int k n := by
  cases h with | rv _ _ h => cases h; rfl
theorem rp_bool {ok : Nat → Prop} {b : Bool} {v : Value} (h : Rp w ok rho hp (.rv (.bool b)) v) : v = .bool b := by
  cases h with | rv _ _ h => cases h; rfl

theorem notnil_ptr {s : SV} {v : Value} (hv : Rp w (okk C rho hp) rho hp s v) {p : Prop} {rd : List Nat} (h : isNilSV hp s = some (p, false, rd)) (hp' : p) : ∃ ad, v = .pointer (some ad) := by
  cases hv with
  | rv r v hr =>
    cases r with
    | nilp => cases h
    | rop cs => cases hr; exact ⟨_, rfl⟩
    | _ => cases h
  | ptr id off _ h1 h0 hb =>
    simp only [isNilSV] at h
    split at h
    · rename_i cs hq
      obtain ⟨b', _, rfl⟩ := hb cs hq
      exact ⟨_, rfl⟩
    · cases h
  | ept id ver i off _ h1 h0 hle hb =>
    simp only [isNilSV] at h
    split at h
    · rename_i e ver' xs hq
      cases h; subst hp'
      obtain ⟨b', _, rfl⟩ := hb e xs hq
      exact ⟨_, rfl⟩
    · cases h
  | _ => cases h

theorem run_eqb {t : TypeId} (ht : P.underlying t = some .bool) (a b : Bool) : (binOp .eql t (.bool a) (.bool b)).run P w = .ok (.bool (a == b)) w ∧ (binOp .neq t (.bool a) (.bool b)).run P w = .ok (.bool !(a == b)) w := by
  have core : (Op.equal t (.bool a) (.bool b)).run P w = .ok (a == b) w := by
    have c : ∀ d, (Op.equalIn (d + 1) t (.bool a) (.bool b)).run P w = .ok (a == b) w := fun d => by
      simp [Op.equalIn, run_underlying ht]
    exact c 9999
  constructor <;> simp [binOp, core]

set_option maxHeartbeats 4000000 in
theorem op_sound {o : Oper} {ao : AO} {xs : List Operand} (hc : compOp P o.op = some (ao, xs)) (R : RepH C hp w rho) (a : Act) {ss : List SV} (A : Args w (okk C rho hp) rho hp a ss xs) {nx : Nat}
    {p : Prop} {sv : SV} {u : Option (Nat × HB)} {rd : List Nat} (hf : ∀ hb, u = some (nx, hb) → hp nx = none ∧ C.h0 nx = none) (hE : opE ao ss hp nx = some (p, sv, u, rd)) (hp' : p) : OpGood P C hp w rho o a sv u := by
  cases hop : o.op <;> rw [hop] at hc <;> unfold compOp at hc <;> (try dsimp only at hc) <;> (try (cases hc; done))
  case move x =>
    cases hc; obtain ⟨s, rfl, h⟩ := A.one; simp only [opE, o1] at hE; cases hE; exact good_read R (by simp [execOp, hop]) h
  case assign x =>
    cases hc; obtain ⟨s, rfl, h⟩ := A.one; simp only [opE, o1] at hE; cases hE; exact good_read R (by simp [execOp, hop]) h
  case pick c x y =>
    cases hc; obtain ⟨s1, s2, s3, rfl, h1, h2, h3⟩ := A.three
    simp only [opE, pickE] at hE
    split at hE
    · rename_i c' x' y' hh
      cases hE; cases hh
      have e1 := rp_bool h1
      refine good_read R (v := if c' then a.eval x else a.eval y) ?_ ?_
      · cases c' <;> simp [execOp, hop, e1, asBool]
      · cases c' <;> simp [h2, h3]
    · cases hE
  case alloc t =>
    split at hc
    · rename_i z hz
      cases hc; cases A.zero; simp only [opE, allocE] at hE; cases hE
      exact good_make (m := Instr.alloc t true (.tuple #[])) (fun w => by simp [execOp, hop]) (alloc_ok R (hf _ rfl).1 (hf _ rfl).2 hz _)
    · cases hc
  case box t x =>
    cases hc; obtain ⟨s, rfl, h⟩ := A.one
    simp only [opE, o1, boxE] at hE
    split at hE
    · rename_i cs hcs
      cases hE
      exact good_make (m := Instr.box t (a.eval x)) (fun w => by simp [execOp, hop]) (newVar_ok R (hf _ rfl).1 (hf _ rfl).2 t h hcs)
    · cases hE
  case build t parts =>
    split at hc
    · rename_i z ps hz hps
      split at hc
      · rename_i hfs
        cases hc
        simp only [opE, buildE] at hE
        split at hE
        · rename_i cs hcs
          split at hE
          · rename_i r hr
            cases hE
            obtain ⟨m1, m2⟩ := mapM_some_get _ _ _ hps
            refine good_read' R (m := Instr.build t (parts.map fun (i, x) => (i, a.eval x))) (fun w => by simp [execOp, hop]) ?_
            have := build_ok (P := P) (w := w) (rho := rho) (hp := hp) (ok := okk C rho hp) hz hfs (vs := (parts.toList.map (·.2)).map a.eval) (by simp [A.length]) A.get hcs hr (fun j o n x g1 g2 => fits_get _ _ _ hp' j o n x g1 g2) (pv := parts.toList.map fun (i, x) => (i, a.eval x)) (by simpa using m1.symm) (fun j i v hj => by
              rw [List.getElem?_map] at hj
              cases hpj : parts.toList[j]? with
              | none => simp [hpj] at hj
              | some q =>
                simp only [hpj, Option.map_some, Option.some.injEq, Prod.mk.injEq] at hj
                obtain ⟨rfl, rfl⟩ := hj
                refine ⟨by simp only [List.getElem?_map, hpj, Option.map_some], ?_⟩
                exact (m2 j q hpj).1)
            have he : (parts.map fun (i, x) => (i, a.eval x)) = (parts.toList.map fun (i, x) => (i, a.eval x)).toArray := by
              apply Array.ext'; simp
            rw [he]; exact this
          · cases hE
        · cases hE
      · cases hc
    · cases hc
  case buildSlice t len parts =>
    split at hc
    · rename_i et e by_ z hel
      split at hc
      · rename_i hidx
        cases hc
        obtain ⟨T, hz, hzl, hs⟩ := eltT_ok hel
        simp only [opE, bslE] at hE
        split at hE
        · rename_i cs hcs
          cases hE
          have hlen : parts.toList.length = len := by
            have := congrArg List.length hidx
            simpa using this
          have hsl : ss.length = len := by rw [A.length]; simpa using hlen
          have hlm : len ≤ maxLen := by
            have h1 := hp'.2
            have h2 := T.pos
            have : len * 1 ≤ len * e := Nat.mul_le_mul_left _ h2
            rw [hsl] at h1
            simp only [maxLen]; omega
          refine good_make (m := Instr.buildSlice t len (parts.map fun (i, x) => (i, a.eval x))) (fun w => by simp [execOp, hop]) ?_
          have := bsl_ok R (hf _ rfl).1 (hf _ rfl).2 T.ht hs hz (by rw [← hsl]; exact hp'.2) hlm hsl (vs := (parts.toList.map (·.2)).map a.eval) (by simp [A.length]) A.get hcs (allLen_mem hp'.1) (ps := parts.toList.map fun (i, x) => (i, a.eval x)) (by simpa using hlen) (fun j i v hj => by
            rw [List.getElem?_map] at hj
            cases hpj : parts.toList[j]? with
            | none => simp [hpj] at hj
            | some q =>
              simp only [hpj, Option.map_some, Option.some.injEq, Prod.mk.injEq] at hj
              obtain ⟨rfl, rfl⟩ := hj
              refine ⟨?_, by simp only [List.getElem?_map, hpj, Option.map_some]⟩
              have hj' : j < len := by rw [← hlen]; exact (List.getElem?_eq_some_iff.1 hpj).1
              have := congrArg (fun l : List Nat => l[j]?) hidx
              simp only [List.getElem?_map, hpj, Option.map_some, List.getElem?_range hj', Option.some.injEq] at this
              exact this)
          have he : (parts.map fun (i, x) => (i, a.eval x)) = (parts.toList.map fun (i, x) => (i, a.eval x)).toArray := by
            apply Array.ext'; simp
          rw [he, hsl]; exact this
        · cases hE
      · cases hc
    · cases hc
  case load t x =>
    split at hc
    · rename_i n agg hs ha
      cases hc; obtain ⟨s, rfl, h⟩ := A.one
      simp only [opE, o1] at hE
      obtain ⟨rfl, hx⟩ := load_good R hs ha h hE hp'
      exact good_read' R (m := Instr.loadAt t (a.eval x)) (fun w => by simp [execOp, hop]) hx
    · cases hc
  case store t x y =>
    split at hc
    · rename_i n hs
      cases hc; obtain ⟨s1, s2, rfl, h1, h2⟩ := A.two
      simp only [opE, o2] at hE
      obtain ⟨rfl, w', rho', hr, S⟩ := store_good R hs h1 h2 hE hp'
      exact ⟨.skip, undef, w', rho', by simp [execOp, hop, hr], .inr ⟨rfl, rfl⟩, S, .dead _⟩
    · cases hc
  case nilCheck x =>
    cases hc; obtain ⟨s, rfl, h⟩ := A.one
    simp only [opE, o1, nilchkE] at hE
    split at hE
    · rename_i p' rd' hn
      cases hE
      obtain ⟨ad, had⟩ := notnil_ptr h hn hp'
      exact good_read R (v := a.eval x) (by simp [execOp, hop, had]) h
    · cases hE
  case binOp op t x y yt =>
    have finI : ∀ (op : BinOp), (∃ k, P.underlying t = some (.int k)) → o.op = .binOp op t x y yt → some (AO.ibin op, [x, y]) = some (ao, xs) → OpGood P C hp w rho o a sv u := fun op _ hop hc => by
      cases hc; obtain ⟨s1, s2, rfl, h1, h2⟩ := A.two
      simp only [opE, o2, ibinE] at hE
      split at hE
      · split at hE
        · rename_i k a' k' b' p' r hb
          cases hE
          obtain ⟨rfl, hp2⟩ := hp'
          obtain ⟨g1, g2⟩ := run_ibin (P := P) (w := w) hb hp2 t
          refine good_read R (v := valOf r) ?_ (.rv _ _ (g2 _))
          simp [execOp, hop, rp_int h1, rp_int h2, eqGuard, g1]
        · cases hE
      · cases hE
    have finS : ∀ (op : BinOp), o.op = .binOp op t x y yt → some (AO.ishf op, [x, y]) = some (ao, xs) → OpGood P C hp w rho o a sv u := fun op hop hc => by
      cases hc; obtain ⟨s1, s2, rfl, h1, h2⟩ := A.two
      simp only [opE, o2, ishfE] at hE
      split at hE
      · split at hE
        · rename_i k1 a1 k2 b1 _ p' r hb
          cases hE
          obtain ⟨g1, g2⟩ := run_ishf (P := P) (w := w) (k' := k2) hb hp' t
          refine good_read R (v := valOf r) ?_ (.rv _ _ (g2 _))
          simp [execOp, hop, rp_int h1, rp_int h2, eqGuard, g1]
        · cases hE
      · cases hE
    have finB : ∀ (neg : Bool), P.underlying t = some .bool → o.op = .binOp (if neg then .neq else .eql) t x y yt → some (AO.eqb neg, [x, y]) = some (ao, xs) → OpGood P C hp w rho o a sv u := fun neg ht hop hc => by
      cases hc; obtain ⟨s1, s2, rfl, h1, h2⟩ := A.two
      simp only [opE, o2, eqbE] at hE
      split at hE
      · rename_i a' b'
        cases hE
        obtain ⟨g1, g2⟩ := run_eqb (P := P) (w := w) ht a' b'
        refine good_read R (v := .bool (if neg then !(a' == b') else a' == b')) ?_ (.rv _ _ (.bool _))
        cases neg <;> simp [execOp, hop, rp_bool h1, rp_bool h2, eqGuard, g1, g2]
      · cases hE
    have finN : ∀ (neg : Bool), (∃ el, P.underlying t = some (.pointer el)) → y = .const (.pointer none) → o.op = .binOp (if neg then .neq else .eql) t x y yt → some (AO.eqnil neg, [x]) = some (ao, xs) → OpGood P C hp w rho o a sv u := fun neg ⟨el, ht⟩ hy hop hc => by
      cases hc; obtain ⟨s1, rfl, h1⟩ := A.one
      simp only [opE, o1, eqnilE] at hE
      split at hE
      · rename_i p' b rd' hb
        cases hE
        obtain ⟨g1, g2⟩ := run_eq_nilp (P := P) ht h1 hb hp'
        have hey : a.eval y = .pointer none := by rw [hy]; rfl
        refine good_read R (v := .bool (b != neg)) ?_ (.rv _ _ (.bool _))
        have hg1 : ∀ v, (eqGuard .eql t x y v (.pointer none)).run P w = .ok () w := fun v => by cases v <;> simp [eqGuard]
        have hg2 : ∀ v, (eqGuard .neq t x y v (.pointer none)).run P w = .ok () w := fun v => by cases v <;> simp [eqGuard]
        cases neg <;> simp [execOp, hop, hey, hg1, hg2, g1, g2]
      · cases hE
    have finStr : ∀ (op : BinOp), o.op = .binOp op t x y yt → some (AO.sbin op, [x, y]) = some (ao, xs) → OpGood P C hp w rho o a sv u := fun op hop hc => by
      cases hc; obtain ⟨s1, s2, rfl, h1, h2⟩ := A.two
      simp only [opE, o2, sbinE] at hE
      split at hE
      · split at hE
        · rename_i a' b' p' r hb
          cases hE
          obtain ⟨g1, g2⟩ := run_sbin (P := P) (w := w) hb hp' t
          refine good_read R (v := valOf r) ?_ (.rv _ _ (g2 _))
          simp [execOp, hop, rp_str h1, rp_str h2, eqGuard, g1]
        · cases hE
      · cases hE
    have finO : ∀ (neg : Bool) (k : Nat) (u0 : Value), (k = 0 ∧ (∃ el, P.underlying t = some (.slice el)) ∧ u0 = .slice none 0 0) ∨ (k = 1 ∧ (∃ b1 b2 b3, P.underlying t = some (.func b1 b2 b3)) ∧ u0 = .nilFunc) ∨ (k = 2 ∧ (∃ ms, P.underlying t = some (.interface ms)) ∧ u0 = .nilIface) → y = .const u0 → o.op = .binOp (if neg then .neq else .eql) t x y yt → some (AO.eqnilo neg k, [x]) = some (ao, xs) → OpGood P C hp w rho o a sv u := fun neg k u0 hk hy hop hc => by
      cases hc; obtain ⟨s1, rfl, h1⟩ := A.one
      simp only [opE, o1, eqniloE] at hE
      split at hE
      · rename_i p' b rd' hb
        cases hE
        have hey : a.eval y = u0 := by rw [hy]; rfl
        refine good_read R (v := .bool (b != neg)) ?_ (.rv _ _ (.bool _))
        have hgg : ∀ op v, (eqGuard op t x y v u0).run P w = .ok () w := fun op v => by
          subst hy
          cases op <;> cases v <;> (rcases hk with ⟨_, _, rfl⟩ | ⟨_, _, rfl⟩ | ⟨_, _, rfl⟩) <;> simp [eqGuard]
        have key : (binOp .eql t (a.eval x) u0).run P w = .ok (.bool b) w ∧ (binOp .neq t (a.eval x) u0).run P w = .ok (.bool !b) w := by
          rcases hk with ⟨rfl, ⟨el, ht⟩, rfl⟩ | ⟨rfl, ⟨b1, b2, b3, ht⟩, rfl⟩ | ⟨rfl, ⟨ms, ht⟩, rfl⟩
          · obtain ⟨n1, n2⟩ := isNilSl_ok h1 hb hp'
            exact run_eq_nilo (.inl ⟨el, ht, rfl⟩) n1 (.inl ⟨n2, _, _, _, rfl⟩)
          · obtain ⟨n1, n2⟩ := isNilFn_ok h1 hb
            exact run_eq_nilo (.inr (.inl ⟨_, _, _, ht, rfl⟩)) n1 (.inr (.inl ⟨n2, rfl⟩))
          · obtain ⟨n1, n2⟩ := isNilIf_ok h1 hb
            exact run_eq_nilo (.inr (.inr ⟨_, ht, rfl⟩)) n1 (.inr (.inr ⟨n2, rfl⟩))
        obtain ⟨g1, g2⟩ := key
        cases neg <;> simp [execOp, hop, hey, hgg, g1, g2]
      · cases hE
    have finQ : ∀ (neg : Bool) (ks : List CK), aggT P t = some true → eqK P 64 t = some ks → P.eqGuardType P.depth t = false → o.op = .binOp (if neg then .neq else .eql) t x y yt → some (AO.eqs neg true ks, [x, y]) = some (ao, xs) → OpGood P C hp w rho o a sv u := fun neg ks ha hk hg hop hc => by
      cases hc; obtain ⟨s1, s2, rfl, h1, h2⟩ := A.two
      simp only [opE, o2, eqsE, if_true] at hE
      split at hE
      · rename_i xs' ys'
        generalize hvx : a.eval x = vx at h1
        generalize hvy : a.eval y = vy at h2
        cases h1 with
        | agg _ us hl1 g1 gy1 =>
          cases h2 with
          | agg _ vs hl2 g2 gy2 =>
            unfold eqsF at hE
            split at hE
            · rename_i p' b hb
              cases hE
              have hcv := cellsEq_ok hl1 hl2 gy1 gy2 hb hp'
              obtain ⟨e1, e2⟩ := run_eqs (P := P) (w := w) hk ha hcv
              refine good_read R (v := .bool (if neg then !b else b)) ?_ (.rv _ _ (.bool _))
              cases neg <;> simp [execOp, hop, hvx, hvy, eqGuard, hg, e1, e2]
            · cases hE
      · cases hE
    unfold compBin at hc
    split at hc
    · exact finS _ hop hc
    · exact finS _ hop hc
    · split at hc
      · rename_i k hk; exact finI op ⟨k, hk⟩ hop hc
      · rename_i hk
        split at hc
        · exact finB false hk hop hc
        · exact finB true hk hop hc
        · cases hc
      · rename_i el hk
        split at hc
        · exact finN false ⟨el, hk⟩ rfl hop hc
        · exact finN true ⟨el, hk⟩ rfl hop hc
        · cases hc
      · exact finStr op hop hc
      · rename_i el hk
        split at hc
        · exact finO false 0 _ (.inl ⟨rfl, ⟨el, hk⟩, rfl⟩) rfl hop hc
        · exact finO true 0 _ (.inl ⟨rfl, ⟨el, hk⟩, rfl⟩) rfl hop hc
        · cases hc
      · rename_i hk
        split at hc
        · exact finO false 1 _ (.inr (.inl ⟨rfl, ⟨_, _, _, hk⟩, rfl⟩)) rfl hop hc
        · exact finO true 1 _ (.inr (.inl ⟨rfl, ⟨_, _, _, hk⟩, rfl⟩)) rfl hop hc
        · cases hc
      · rename_i hk
        split at hc
        · exact finO false 2 _ (.inr (.inr ⟨rfl, ⟨_, hk⟩, rfl⟩)) rfl hop hc
        · exact finO true 2 _ (.inr (.inr ⟨rfl, ⟨_, hk⟩, rfl⟩)) rfl hop hc
        · cases hc
      · split at hc
        · rename_i ks hag hks
          split at hc
          · cases hc
          · rename_i hg
            have hg' : P.eqGuardType P.depth t = false := by simpa using hg
            split at hc
            · exact finQ false ks hag hks hg' hop hc
            · exact finQ true ks hag hks hg' hop hc
            · cases hc
        · cases hc
  case unOp op t x =>
    cases op with
    | not =>
      cases hc; obtain ⟨s, rfl, h⟩ := A.one
      simp only [opE, o1, notE] at hE
      split at hE
      · cases hE
        exact good_read R (v := .bool _) (by simp [execOp, hop, rp_bool h, Op.unary]) (.rv _ _ (.bool _))
      · cases hE
    | neg =>
      cases hc; obtain ⟨s, rfl, h⟩ := A.one
      simp only [opE, o1, negE] at hE
      split at hE
      · cases hE
        exact good_read R (v := .int _ _) (by simp [execOp, hop, rp_int h, Op.unary, Op.intArith]) (.rv _ _ (.int _ _))
      · cases hE
    | _ => cases hc
  case convert src dst x =>
    split at hc
    · rename_i d k hs hd
      cases hc; obtain ⟨s, rfl, h⟩ := A.one
      simp only [opE, o1, cviE] at hE
      split at hE
      · cases hE
        refine good_read R (v := .int k _) ?_ (.rv _ _ (.int _ _))
        simp [execOp, hop, rp_int h, convert, run_underlying hs, run_underlying hd, Conv.intToInt]
      · cases hE
    · cases hc
  case makeInterface t x =>
    split at hc
    · cases hc
    · rename_i d hni hd
      cases hc; obtain ⟨s, rfl, h⟩ := A.one
      simp only [opE, o1] at hE
      cases hE
      refine good_read R (v := .iface t (a.eval x)) ?_ (.ifc _ _ _ h)
      cases d <;> first | (exact absurd rfl (hni _)) | simp [execOp, hop, Instr.makeInterface, run_underlying hd]
    · cases hc
  case makeFunc fn first cap =>
    cases fn with
    | func f =>
      dsimp only at hc
      split at hc
      · rename_i hfst
        cases hc
        simp only [opE] at hE
        cases hE
        have he : first = #[] := Array.eq_empty_of_size_eq_zero hfst
        refine good_read R (v := .func (.func f) #[] (cap.map a.eval)) (by simp [execOp, hop, Instr.makeFunc, he]) ?_
        have := Rp.fn (w := w) (ok := okk C rho hp) (rho := rho) (hp := hp) f ss (cap.toList.map a.eval) (by simp [A.length]) A.get
        have hq : (cap.toList.map a.eval).toArray = cap.map a.eval := by apply Array.ext'; simp
        rwa [hq] at this
      · cases hc
    | _ => cases hc
  case makeSlice t l c =>
    split at hc
    · rename_i et e by_ z hel
      cases hc
      obtain ⟨T, hz, hzl, hs⟩ := eltT_ok hel
      obtain ⟨s1, s2, rfl, h1, h2⟩ := A.two
      simp only [opE, o2, mkslE] at hE
      split at hE
      · cases hE
        obtain ⟨rfl, g1, g2, g3⟩ := hp'
        have e1 := rp_int h1
        have e2 := rp_int h2
        refine good_make (m := Instr.makeSlice t (a.eval l) (a.eval c)) (fun w => by simp [execOp, hop]) ?_
        rw [e1, e2]
        exact mksl_ok R (hf _ rfl).1 (hf _ rfl).2 T hz hzl _ _ _ g1 g2 g3
      · cases hE
    · cases hc
  case typeAssert x xt t ok =>
    split at hc
    · cases hc
    · rename_i d z hni hd hz
      cases hc; obtain ⟨s, rfl, h⟩ := A.one
      simp only [opE, o1] at hE
      obtain ⟨rfl, hx⟩ := run_tas (xt := xt) (fun ms he => by rw [hd] at he; cases he; exact hni _ rfl) hd hz h hE
      exact good_read' R (m := Instr.typeAssert (a.eval x) xt t ok) (fun w => by simp [execOp, hop]) hx
    · cases hc
  case fieldAddr s0 x f =>
    split at hc
    · rename_i off ft hfl
      split at hc
      · rename_i n hs
        cases hc; obtain ⟨s, rfl, h⟩ := A.one
        simp only [opE, o1] at hE
        obtain ⟨rfl, hx⟩ := fld_good hfl hs h hE hp'
        exact good_read' R (m := Instr.fieldAt s0 (a.eval x) f) (fun w => by simp [execOp, hop]) hx
      · cases hc
    · cases hc
  case field s0 x f =>
    split at hc
    · rename_i off ft hfl
      split at hc
      · rename_i n agg hs ha
        cases hc; obtain ⟨s, rfl, h⟩ := A.one
        simp only [opE, o1, fldvE] at hE
        refine (?_ : u = none ∧ _).elim (fun hu hx => by subst hu; exact good_read' R (m := Instr.field s0 (a.eval x) f) (fun w => by simp [execOp, hop]) hx)
        split at hE
        · cases agg with
          | true => simp only [if_true, Option.some.injEq, Prod.mk.injEq] at hE; obtain ⟨rfl, rfl, rfl, rfl⟩ := hE; exact ⟨rfl, fldv_agg h hfl ha hs hp'⟩
          | false =>
            simp only [Bool.false_eq_true, if_false, Option.some.injEq, Prod.mk.injEq] at hE; obtain ⟨rfl, rfl, rfl, rfl⟩ := hE
            exact ⟨rfl, fldv_one h hfl ha (by rw [List.getElem?_eq_getElem hp']; rfl)⟩
        · cases hE
      · cases hc
    · cases hc
  case indexAddr t x i =>
    split at hc
    · rename_i et ht
      split at hc
      · rename_i e hs
        cases hc; obtain ⟨s1, s2, rfl, h1, h2⟩ := A.two
        simp only [opE, o2, ix2] at hE
        split at hE
        · have e2 := rp_int h2
          obtain ⟨rfl, hx⟩ := ixs_good ht hs h1 (k := by assumption) hE hp'
          refine good_read' R (m := Instr.indexAt t (a.eval x) (a.eval i)) (fun w => by simp [execOp, hop]) ?_
          rw [e2]; exact hx
        · cases hE
      · cases hc
    · rename_i len et ht
      split at hc
      · rename_i e hs
        cases hc; obtain ⟨s1, s2, rfl, h1, h2⟩ := A.two
        simp only [opE, o2, ix2] at hE
        split at hE
        · have e2 := rp_int h2
          obtain ⟨rfl, hx⟩ := ixa_good ht hs h1 (k := by assumption) hE hp'
          refine good_read' R (m := Instr.indexAt t (a.eval x) (a.eval i)) (fun w => by simp [execOp, hop]) ?_
          rw [e2]; exact hx
        · cases hE
      · cases hc
    · cases hc
  case index t x i =>
    split at hc
    · rename_i len et ht
      split at hc
      · rename_i e agg hs ha
        cases hc; obtain ⟨s1, s2, rfl, h1, h2⟩ := A.two
        simp only [opE, o2, ix2] at hE
        split at hE
        · rename_i k' i'
          have e2 := rp_int h2
          refine (?_ : u = none ∧ _).elim (fun hu hx => by subst hu; exact good_read' R (m := Instr.index t (a.eval x) (a.eval i)) (fun w => by simp [execOp, hop]) hx)
          rw [e2]
          unfold ixvE at hE
          split at hE
          · cases agg with
            | true => simp only [if_true, Option.some.injEq, Prod.mk.injEq] at hE; obtain ⟨rfl, rfl, rfl, rfl⟩ := hE; exact ⟨rfl, ixv_agg h1 ht hs ha _ _ hp'.1 hp'.2.1 hp'.2.2⟩
            | false =>
              simp only [Bool.false_eq_true, if_false, Option.some.injEq, Prod.mk.injEq] at hE; obtain ⟨rfl, rfl, rfl, rfl⟩ := hE
              exact ⟨rfl, ixv_one h1 ht hs ha _ _ hp'.1 hp'.2.1 (by rw [List.getElem?_eq_getElem hp'.2.2]; rfl)⟩
          · cases hE
        · cases hE
      · cases hc
    · cases hc
  case extract x i =>
    cases hc; obtain ⟨s, rfl, h⟩ := A.one
    simp only [opE, o1, extE] at hE
    split at hE
    · rename_i ts
      cases hE
      cases hev : a.eval x with
      | tuple arr =>
        rw [hev] at h
        cases h with
        | tup _ vs hl hy =>
          have hlt : i < vs.length := by rw [hl]; exact hp'
          have hg := List.getElem?_eq_getElem hlt
          have := hy i _ (List.getElem?_eq_getElem hp')
          rw [List.getD_eq_getElem?_getD, hg, Option.getD_some] at this
          refine good_read R (v := vs[i]) (by simp [execOp, hop, hev, Instr.extract, hlt]) ?_
          rw [List.getElem?_eq_getElem hp']; exact this
      | _ => rw [hev] at h; cases h
    · cases hE
  case slice t x lo hi mx =>
    cases mx with
    | some m => cases hc
    | none =>
      dsimp only at hc
      split at hc
      · rename_i et e by_ z hel
        cases hc
        obtain ⟨T, hz, hzl, hs⟩ := eltT_ok hel
        refine (?_ : u = none ∧ _).elim (fun hu hx => by subst hu; exact good_read' R (m := Instr.sliceAt t (a.eval x) (lo.map a.eval) (hi.map a.eval) none) (fun w => by simp [execOp, hop]) hx)
        have core : ∀ (s1 : SV) (l h : Option Int), Rp w (okk C rho hp) rho hp s1 (a.eval x) → ((lo = none ∧ l = none) ∨ ∃ y k l', lo = some y ∧ a.eval y = .int k l' ∧ l = some l') → ((hi = none ∧ h = none) ∨ ∃ y k h', hi = some y ∧ a.eval y = .int k h' ∧ h = some h') →
            slcC e hp s1 l h = some (p, sv, u, rd) → u = none ∧ ∃ v, (Instr.sliceAt t (a.eval x) (lo.map a.eval) (hi.map a.eval) none).run P w = .ok v w ∧ Rp w (okk C rho hp) rho hp sv v := by
          intro s1 l h h1 hlo hhi hm
          unfold slcC at hm
          split at hm
          · rename_i e' xs'
            cases hm
            obtain ⟨rfl, q1, q2, q3⟩ := hp'
            refine ⟨rfl, ?_⟩
            cases h1 with
            | rv _ _ hr =>
              obtain ⟨v, k1, k2⟩ := slc_sl (P := P) (w := w) T.ht hs hr (lo.map a.eval) (hi.map a.eval) (l.getD 0) (h.getD xs'.length) (by
                rcases hlo with ⟨rfl, rfl⟩ | ⟨y, k, l', rfl, hy, rfl⟩
                · exact .inl ⟨rfl, rfl⟩
                · exact .inr ⟨k, by simp [hy]⟩) (by
                rcases hhi with ⟨rfl, rfl⟩ | ⟨y, k, l', rfl, hy, rfl⟩
                · exact .inl ⟨rfl, rfl⟩
                · exact .inr ⟨k, by simp [hy]⟩) q1 q2 q3
              exact ⟨v, k1, .rv _ _ k2⟩
          · split at hm
            · rename_i id ver len _ _ e' ver' xs' h' hq
              rcases hhi with ⟨_, hh⟩ | ⟨y, k, l', rfl, hy, hh⟩
              · cases hh
              · cases hh
                split at hm
                · rename_i q1
                  cases hm
                  obtain ⟨rfl, rfl, q2, q3⟩ := hp'
                  refine ⟨rfl, ?_⟩
                  have := slc_row (P := P) T.ht hs h1 hq (lo.map a.eval) h' (by
                    rcases hlo with ⟨rfl, rfl⟩ | ⟨y', k', l2, rfl, hy', rfl⟩
                    · exact .inl rfl
                    · simp at q1; subst q1; exact .inr ⟨k', by simp [hy']⟩) k q2 q3
                  simpa [hy] using this
                · rename_i q1
                  cases hm
                  obtain ⟨rfl, rfl, q2, q3, q4⟩ := hp'
                  refine ⟨rfl, ?_⟩
                  rcases hlo with ⟨rfl, rfl⟩ | ⟨y', k', l2, rfl, hy', rfl⟩
                  · exact absurd rfl q1
                  · have := slc_win (P := P) T.ht hs h1 hq (some (.int k h')) k' l2 h' (.inr ⟨k, rfl⟩) q2 q3 q4
                    simpa [hy, hy'] using this
            · rename_i id ver len _ _ e' ver' xs' hq
              split at hm
              · rename_i l2
                cases hm
                obtain ⟨rfl, rfl, q2, q3⟩ := hp'
                refine ⟨rfl, ?_⟩
                rcases hlo with ⟨_, hh⟩ | ⟨y', k', l3, rfl, hy', hh⟩
                · cases hh
                · cases hh
                  rcases hhi with ⟨rfl, _⟩ | ⟨_, _, _, _, _, hh⟩
                  · have := slc_win (P := P) T.ht hs h1 hq none k' l2 len (.inl ⟨rfl, rfl⟩) q2 q3 (Int.le_refl _)
                    simpa [hy'] using this
                  · cases hh
              · cases hm
            · cases hm
          · cases hm
            obtain ⟨q1, q2⟩ := hp'
            refine ⟨rfl, ?_⟩
            cases h1 with
            | rv _ _ hr =>
              generalize hax : a.eval x = vx at *
              cases hr
              exact ⟨_, slc_nil (P := P) (w := w) T.ht hs (lo.map a.eval) (hi.map a.eval) (by
                rcases hlo with ⟨rfl, rfl⟩ | ⟨y, k, l', rfl, hy, rfl⟩
                · exact .inl rfl
                · simp at q1; subst q1; exact .inr ⟨k, by simp [hy]⟩) (by
                rcases hhi with ⟨rfl, rfl⟩ | ⟨y, k, h', rfl, hy, rfl⟩
                · exact .inl rfl
                · simp at q2; subst q2; exact .inr ⟨k, by simp [hy]⟩), .rv _ _ .nilsl⟩
          · cases hm
        cases lo with
        | none =>
          cases hi with
          | none =>
            obtain ⟨s1, rfl, h1⟩ := A.one
            simp only [opE, slcE, bndE, bnd0, Option.isSome_none, Bool.false_eq_true, if_false] at hE
            exact core s1 none none h1 (.inl ⟨rfl, rfl⟩) (.inl ⟨rfl, rfl⟩) hE
          | some y =>
            obtain ⟨s1, s2, rfl, h1, h2⟩ := A.two
            simp only [opE, slcE, bndE, Option.isSome_none, Option.isSome_some, Bool.false_eq_true, if_false, if_true] at hE
            cases hb : bndH [s2] with
            | none => simp [hb] at hE
            | some q =>
              simp only [hb] at hE
              unfold bndH at hb
              split at hb
              · rename_i k hh he
                cases hb; cases he
                exact core s1 none (some hh) h1 (.inl ⟨rfl, rfl⟩) (.inr ⟨y, k, hh, rfl, rp_int h2, rfl⟩) hE
              · cases hb
        | some y' =>
          cases hi with
          | none =>
            obtain ⟨s1, s2, rfl, h1, h2⟩ := A.two
            simp only [opE, slcE, bndE, Option.isSome_none, Option.isSome_some, Bool.false_eq_true, if_false, if_true] at hE
            cases hb : bndL [s2] with
            | none => simp [hb] at hE
            | some q =>
              simp only [hb] at hE
              unfold bndL at hb
              split at hb
              · rename_i k hh he
                cases hb; cases he
                exact core s1 (some hh) none h1 (.inr ⟨y', k, hh, rfl, rp_int h2, rfl⟩) (.inl ⟨rfl, rfl⟩) hE
              · cases hb
          | some y =>
            obtain ⟨s1, s2, s3, rfl, h1, h2, h3⟩ := A.three
            simp only [opE, slcE, bndE, Option.isSome_some, if_true] at hE
            cases hb : bnd2 [s2, s3] with
            | none => simp [hb] at hE
            | some q =>
              simp only [hb] at hE
              unfold bnd2 at hb
              split at hb
              · rename_i k ll k' hh he
                cases hb; cases he
                exact core s1 (some ll) (some hh) h1 (.inr ⟨y', k, ll, rfl, rp_int h2, rfl⟩) (.inr ⟨y, k', hh, rfl, rp_int h3, rfl⟩) hE
              · cases hb
      · split at hc
        · rename_i n et hu
          split at hc
          · rename_i e hs
            cases hc; obtain ⟨s1, rfl, h1⟩ := A.one
            simp only [opE, o1, slcaE] at hE
            split at hE
            · split at hE
              · rename_i cs hq
                cases hE
                obtain ⟨u, k1, k2⟩ := arr_win (P := P) hu hs h1 hq hp'.2
                exact good_read' R (m := Instr.sliceAt t (a.eval x) none none none) (fun w => by simp [execOp, hop]) ⟨u, k1, k2⟩
              · cases hE
            · cases hE
          · cases hc
        · cases hc
  case panic x =>
    cases hc; simp only [opE] at hE; cases hE
  case call c =>
    obtain ⟨callee, args, argTypes⟩ := c
    cases callee with
    | value f =>
      cases f with
      | func f => cases hc; simp only [opE, reduceCtorEq] at hE
      | _ => cases hc; simp only [opE, reduceCtorEq] at hE
    | invoke r n => cases hc; simp only [opE] at hE; cases hE
    | builtin b =>
      cases b with
      | len =>
        dsimp only at hc
        split at hc
        · rename_i x t hx ht
          have hargs : args = #[x] := by apply Array.ext'; simpa using hx
          have htys : argTypes = #[t] := by apply Array.ext'; simpa using ht
          split at hc
          · rename_i et hu
            cases hc; obtain ⟨s, rfl, h⟩ := A.one
            simp only [opE, o1] at hE
            obtain ⟨rfl, hx⟩ := len_good hu o.type h hE hp'
            exact good_read' R (m := Builtin.len_ #[t] o.type #[a.eval x]) (fun w => by simp [execOp, hop, hargs, htys, resolve, invoke, builtin]) hx
          · rename_i hu
            cases hc; obtain ⟨s, rfl, h⟩ := A.one
            simp only [opE, o1] at hE
            obtain ⟨rfl, hx⟩ := lens_good hu o.type h hE hp'
            exact good_read' R (m := Builtin.len_ #[t] o.type #[a.eval x]) (fun w => by simp [execOp, hop, hargs, htys, resolve, invoke, builtin]) hx
          · cases hc
        · cases hc
      | append =>
        dsimp only at hc
        split at hc
        · rename_i s0 x t t' hx ht
          split at hc
          · rename_i htt
            split at hc
            · rename_i et e bytes z hel
              cases hc; obtain ⟨s1, s2, rfl, h1, h2⟩ := A.two
              simp only [opE, o2] at hE
              subst htt
              have hargs : args = #[s0, x] := by apply Array.ext'; simpa using hx
              have htys : argTypes = #[t, t] := by apply Array.ext'; simpa using ht
              obtain ⟨T, hz, hzl, hs⟩ := eltT_ok hel
              obtain ⟨id, hb, rfl, hx⟩ := app_good R T o.type h1 h2 hf hE hp'
              refine good_make (m := Builtin.append_ #[t, t] o.type #[a.eval s0, a.eval x]) (fun w => by simp [execOp, hop, hargs, htys, resolve, invoke, builtin]) hx
            · cases hc
          · split at hc
            · rename_i et e bytes z hu hel
              cases hc; obtain ⟨s1, s2, rfl, h1, h2⟩ := A.two
              simp only [opE, o2, appnE] at hE
              split at hE
              · cases hE
                have hargs : args = #[s0, x] := by apply Array.ext'; simpa using hx
                have htys : argTypes = #[t, t'] := by apply Array.ext'; simpa using ht
                obtain ⟨T, hz, hzl, hs⟩ := eltT_ok hel
                have e2 := rp_int h2
                obtain ⟨g1, g2, g3⟩ := hp'
                refine good_make (m := Builtin.append_ #[t, t'] o.type #[a.eval s0, a.eval x]) (fun w => by simp [execOp, hop, hargs, htys, resolve, invoke, builtin]) ?_
                rw [e2]
                have hnil : a.eval s0 = .slice none 0 0 := by
                  generalize a.eval s0 = vx at *
                  cases h1 with
                  | rv _ _ hr => cases hr; rfl
                rw [hnil]
                exact appn_ok R T o.type hu (hf _ rfl).1 (hf _ rfl).2 _ _ g1 g2 g3
              · cases hE
            · cases hc
        · cases hc
      | cap =>
        dsimp only at hc
        split at hc
        · rename_i x t hx ht
          have hargs : args = #[x] := by apply Array.ext'; simpa using hx
          have htys : argTypes = #[t] := by apply Array.ext'; simpa using ht
          split at hc
          · rename_i et hu
            cases hc; obtain ⟨s, rfl, h⟩ := A.one
            simp only [opE, o1, capE] at hE
            split at hE
            · cases hE
              cases h with
              | rv _ _ hr =>
                generalize hax : a.eval x = vx at *
                cases hr
                exact good_read' R (m := Builtin.cap_ #[t] o.type #[a.eval x]) (fun w => by simp [execOp, hop, hargs, htys, resolve, invoke, builtin]) (by rw [hax]; exact ⟨_, by simp [Builtin.cap_, run_underlying hu]; rfl, .rv _ _ (.int _ _)⟩)
            · cases hE
          · cases hc
        · cases hc
      | clear =>
        dsimp only at hc
        split at hc
        · rename_i x t hx ht
          have hargs : args = #[x] := by apply Array.ext'; simpa using hx
          have htys : argTypes = #[t] := by apply Array.ext'; simpa using ht
          split at hc
          · rename_i et e by_ z hel
            cases hc; obtain ⟨s1, rfl, h1⟩ := A.one
            obtain ⟨T, hz, hzl, hs⟩ := eltT_ok hel
            simp only [opE, o1, clrE] at hE
            split at hE
            · split at hE
              · rename_i e' ver' xs hq
                cases hE
                obtain ⟨rfl, rfl, q1⟩ := hp'
                obtain ⟨w', rho', k1, S⟩ := clr_win (P := P) R T.ht hz hzl o.type h1 hq q1
                exact ⟨.value (.tuple #[]), .tuple #[], w', rho', by simp [execOp, hop, hargs, htys, resolve, invoke, builtin, k1], .inl rfl, S, .dead _⟩
              · cases hE
            · cases hE
          · cases hc
        · cases hc
      | max =>
        dsimp only at hc
        split at hc
        · rename_i hsz
          obtain ⟨x, y, rfl⟩ : ∃ x y, args = #[x, y] := by
            obtain ⟨l⟩ := args
            match l, hsz with
            | [x, y], _ => exact ⟨x, y, rfl⟩
          cases hc; obtain ⟨s1, s2, rfl, h1, h2⟩ := A.two
          simp only [opE, o2, mxE] at hE
          split at hE
          · cases hE
            refine good_read R (v := .int _ _) ?_ (.rv _ _ (.int _ _))
            simp [execOp, hop, resolve, invoke, builtin, Builtin.max_, Builtin.max2, rp_int h1, rp_int h2]
          · cases hE
        · cases hc
      | min =>
        dsimp only at hc
        split at hc
        · rename_i hsz
          obtain ⟨x, y, rfl⟩ : ∃ x y, args = #[x, y] := by
            obtain ⟨l⟩ := args
            match l, hsz with
            | [x, y], _ => exact ⟨x, y, rfl⟩
          cases hc; obtain ⟨s1, s2, rfl, h1, h2⟩ := A.two
          simp only [opE, o2, mnE] at hE
          split at hE
          · cases hE
            refine good_read R (v := .int _ _) ?_ (.rv _ _ (.int _ _))
            simp [execOp, hop, resolve, invoke, builtin, Builtin.min_, Builtin.min2, rp_int h1, rp_int h2]
          · cases hE
        · cases hc
      | _ => cases hc
end
end Go.Eng

/- Operations and calls as steps that look at some things and write some; regions in the order of the text. -/
namespace Go.Eng
open Go

inductive XO where
  | t (n : Nat)
  | c (s : SV)
  deriving Inhabited

def cvO : Operand → Option XO
  | .tmp n => some (.t n)
  | .const v => match cvV v with
    | some r => some (.c (.rv r))
    | none => none
  | .func f => some (.c (.fn f []))
  | .global _ => none

def cvOs : List Operand → Option (List XO)
  | [] => some []
  | x :: r => match cvO x, cvOs r with
    | some y, some s => some (y :: s)
    | _, _ => none

def evX (en : Nat → SV) : XO → SV
  | .t n => en n
  | .c s => s

def upl (hp : Hp) : List (Nat × HB) → Hp
  | [] => hp
  | (id, hb) :: r => upl (up hp id (some hb)) r

theorem upl_not {hp : Hp} : ∀ {us : List (Nat × HB)} {id : Nat}, (∀ q ∈ us, q.1 ≠ id) → upl hp us id = hp id
  | [], id, _ => rfl
  | (i, hb) :: r, id, h => by
    rw [upl, upl_not (fun q hq => h q (by simp [hq])), up_other _ _ (Ne.symm (h (i, hb) (by simp)))]

def PreOK (hp : Hp) (pre : List (Nat × HB)) : Prop := ∀ q ∈ pre, hp q.1 = some q.2
def NewOK (C : Ctx) (hp : Hp) (pre us : List (Nat × HB)) : Prop := ∀ q ∈ us, (∃ hb, (q.1, hb) ∈ pre) ∨ (hp q.1 = none ∧ C.h0 q.1 = none)

section
variable {P : Program} {C : Ctx} {hp : Hp} {w : World} {rho : Nat → Option Nat}

theorem args_of {en : Nat → SV} {a : Act} (R : RepF C en hp a w rho) : ∀ {xs : List Operand} {ys : List XO}, cvOs xs = some ys → Args w (okk C rho hp) rho hp a (ys.map (evX en)) xs
  | [], ys, h => by cases h; exact .nil
  | x :: r, ys, h => by
    unfold cvOs at h
    split at h
    · rename_i y s hy hs
      cases h
      refine .cons ?_ (args_of R hs)
      cases x with
      | tmp n => cases hy; exact R.env n
      | const v =>
        simp only [cvO] at hy
        split at hy
        · rename_i r' hr; cases hy; exact .rv _ _ (cvV_ok hr _ _).1
        · cases hy
      | func f =>
        cases hy
        exact Rp.fn f [] [] rfl (fun j y hy => by simp at hy)
      | global g => cases hy
    · cases h
end

/-- An operation, as the engine knows it. -/
structure AOp where
  dst : Option Nat
  ao : AO
  xs : List XO
  guard : Option (Nat × Bool)
  deriving Inhabited

def compOper (P : Program) (ops : Array Oper) (N : Nat) (o : Oper) : Option AOp :=
  match compOp P o.op with
  | none => none
  | some (ao, xs) => match cvOs xs with
    | none => none
    | some ys => if o.dst.all (· < N) then match o.guard with
      | none => some ⟨o.dst, ao, ys, none⟩
      | some (j, b) => match (ops[j]?).bind (·.dst) with
        | some d => some ⟨o.dst, ao, ys, some (d, b)⟩
        | none => none
      else none

/-- What one operation does: it looks at 'pre', leaves 'us', gives sv. -/
def OpS (P : Program) (o : Oper) (args : List SV) (pre us : List (Nat × HB)) (sv : SV) : Prop :=
  ∀ (C : Ctx) (hp : Hp) (w : World) (rho : Nat → Option Nat) (a : Act) (next : Act → World → Prop) (Q : Exit → Act → World → Prop) (ao : AO) (xs : List Operand), compOp P o.op = some (ao, xs) → PreOK hp pre → NewOK C hp pre us → RepH C hp w rho → Args w (okk C rho hp) rho hp a args xs →
    (∀ v w' rho', Step C hp (upl hp us) w w' rho rho' → Rp w' (okk C rho' (upl hp us)) rho' (upl hp us) sv v → next (a.put o.dst v) w') → o.wp P a w next Q

def uList : Option (Nat × HB) → List (Nat × HB)
  | none => []
  | some q => [q]

theorem upl_uList (hp : Hp) (u : Option (Nat × HB)) : upl hp (uList u) = upo hp u := by
  cases u with
  | none => rfl
  | some q => rfl

def callable (P : Program) (f : FuncId) : Bool := match P.funcs[f]? with
  | some fn => !(fn.name == "runtime.NumGoroutine") && fn.body.isSome
  | none => false

/-- A call of a function: what it looks at, what it leaves, what it gives. -/
def CallR (P : Program) (f : FuncId) (args : List SV) (pre us : List (Nat × HB)) (sv : SV) : Prop :=
  callable P f = true ∧ ∀ (C : Ctx) (hp : Hp) (w : World) (rho : Nat → Option Nat) (vs : List Value), PreOK hp pre → NewOK C hp pre us → RepH C hp w rho → vs.length = args.length → (∀ (j : Nat) (s : SV), args[j]? = some s → Rp w (okk C rho hp) rho hp s (vs.getD j undef)) →
    Calls P f vs.toArray w fun e w' => ∃ v rho', e = .returned v ∧ Step C hp (upl hp us) w w' rho rho' ∧ Rp w' (okk C rho' (upl hp us)) rho' (upl hp us) sv v

theorem comp_call {P : Program} {op : Op} {f : FuncId} {xs : List Operand} (hc : compOp P op = some (.call f, xs)) : ∃ c : Call, op = .call c ∧ c.callee = .value (.func f) ∧ c.args.toList = xs := by
  cases op with
  | call c =>
    obtain ⟨callee, args, argTypes⟩ := c
    cases callee with
    | value g =>
      cases g with
      | func g => cases hc; exact ⟨_, rfl, rfl, rfl⟩
      | _ => cases hc
    | invoke r n => cases hc
    | builtin b => cases b <;> unfold compOp at hc <;> (try dsimp only at hc) <;> (try (repeat' split at hc)) <;> first | (cases hc; done) | contradiction
  | _ => unfold compOp at hc; (try dsimp only at hc); (try unfold compBin at hc); (try (repeat' split at hc)) <;> first | (cases hc; done) | contradiction

theorem comp_callv {P : Program} {op : Op} {xs : List Operand} (hc : compOp P op = some (.callv, xs)) : ∃ (c : Call) (x : Operand), op = .call c ∧ c.callee = .value x ∧ xs = x :: c.args.toList := by
  cases op with
  | call c =>
    obtain ⟨callee, args, argTypes⟩ := c
    cases callee with
    | value g => cases g <;> cases hc <;> exact ⟨_, _, rfl, rfl, rfl⟩
    | invoke r n => cases hc
    | builtin b => cases b <;> unfold compOp at hc <;> (try dsimp only at hc) <;> (try (repeat' split at hc)) <;> first | (cases hc; done) | contradiction
  | _ => unfold compOp at hc; (try dsimp only at hc); (try unfold compBin at hc); (try (repeat' split at hc)) <;> first | (cases hc; done) | contradiction

theorem run_callFunc {P : Program} {f : FuncId} (h : callable P f = true) (args : Array Value) (w : World) : (callFunc f args).run P w = .ok (.enter f args) w := by
  unfold callable at h
  split at h
  · rename_i fn hf
    simp only [Bool.and_eq_true, Bool.not_eq_true'] at h
    have hb : ¬ fn.body = none := by cases hfb : fn.body <;> simp [hfb] at h ⊢
    have hn : ¬ fn.name = "runtime.NumGoroutine" := by simpa using h.1
    simp [callFunc, hf, hn, hb]
  · cases h

theorem opS_call {P : Program} {o : Oper} {f : FuncId} {args : List SV} {pre us : List (Nat × HB)} {sv : SV} {xs0 : List Operand} (hc : compOp P o.op = some (.call f, xs0)) (h : CallR P f args pre us sv) : OpS P o args pre us sv := by
  intro C hp w rho a next Q ao xs hcx hpre hnew R A hk
  rw [hc] at hcx; cases hcx
  obtain ⟨c, hop, hcal, hargs⟩ := comp_call hc
  have hrun : (execOp a.eval o).run P w = .ok (.enter f (xs0.map a.eval).toArray) w := by
    have he : (c.args.map a.eval) = (xs0.map a.eval).toArray := by rw [← hargs]; apply Array.ext'; simp
    simp [execOp, hop, resolve, hcal, Act.eval, Deferred.ofValue, invoke, run_callFunc h.1, he]
  unfold Oper.wp
  rw [hrun, Oper.upon_enter]
  refine (h.2 C hp w rho (xs0.map a.eval) hpre hnew R (by simp [A.length]) A.get).mono ?_
  rintro e w' ⟨v, rho', rfl, h1, h2⟩
  exact hk v w' rho' h1 h2

theorem opS_callv {P : Program} {o : Oper} {f : FuncId} {caps args : List SV} {pre us : List (Nat × HB)} {sv : SV} {xs0 : List Operand} (hc : compOp P o.op = some (.callv, xs0)) (h : CallR P f (args ++ caps) pre us sv) : OpS P o (.fn f caps :: args) pre us sv := by
  intro C hp w rho a next Q ao xs hcx hpre hnew R A hk
  rw [hc] at hcx; cases hcx
  obtain ⟨c, x, hop, hcal, rfl⟩ := comp_callv hc
  cases A with
  | cons hf A =>
    generalize hfv : a.eval x = fv at hf
    cases hf with
    | fn _ _ cvs hcl hcy =>
      have hrun : (execOp a.eval o).run P w = .ok (.enter f (c.args.toList.map a.eval ++ cvs).toArray) w := by
        have he : (c.args.map a.eval) ++ cvs.toArray = (c.args.toList.map a.eval ++ cvs).toArray := by apply Array.ext'; simp
        simp [execOp, hop, resolve, hcal, hfv, Deferred.ofValue, invoke, run_callFunc h.1, he]
      unfold Oper.wp
      rw [hrun, Oper.upon_enter]
      refine (h.2 C hp w rho (c.args.toList.map a.eval ++ cvs) hpre hnew R (by simp [A.length, hcl]) (fun j s hj => ?_)).mono ?_
      · have hal := A.length
        by_cases hlt : j < args.length
        · rw [List.getElem?_append_left hlt] at hj
          have := A.get j s hj
          rw [List.getD_eq_getElem?_getD] at this ⊢
          rw [List.getElem?_append_left (by simp; simp at hal; omega)]; exact this
        · rw [List.getElem?_append_right (by omega)] at hj
          have := hcy _ s hj
          rw [List.getD_eq_getElem?_getD] at this ⊢
          rw [List.getElem?_append_right (by simp; simp at hal; omega)]
          simp at hal
          simpa [hal] using this
      · rintro e w' ⟨v, rho', rfl, h1, h2⟩
        exact hk v w' rho' h1 h2

section
variable {hp hp' : Hp} {p : Prop} {sv : SV} {u : Option (Nat × HB)} {rd : List Nat}

theorem loadE_local {n : Nat} {agg : Bool} {s : SV} (h : loadE n agg hp s = some (p, sv, u, rd)) (hl : ∀ id ∈ rd, hp' id = hp id) : loadE n agg hp' s = some (p, sv, u, rd) := by
  cases s with
  | ptr id off =>
    have : hp' id = hp id := by
      simp only [loadE] at h
      split at h
      · cases agg <;> (simp at h; exact hl id (by simp [← h.2.2.2]))
      · cases h
    simpa only [loadE, this] using h
  | ept id ver i off =>
    have : hp' id = hp id := by
      simp only [loadE] at h
      split at h
      · cases agg <;> (simp at h; exact hl id (by simp [← h.2.2.2]))
      · cases h
    simpa only [loadE, this] using h
  | rv r => cases r <;> exact h
  | _ => exact h

theorem storeE_local {n : Nat} {s x : SV} (h : storeE n hp s x = some (p, sv, u, rd)) (hl : ∀ id ∈ rd, hp' id = hp id) : storeE n hp' s x = some (p, sv, u, rd) := by
  unfold storeE at h ⊢
  cases hc : cellsSV x with
  | none => simp [hc] at h
  | some cx =>
    simp only [hc] at h ⊢
    cases s with
    | ptr id off =>
      have : hp' id = hp id := by
        simp only at h
        split at h
        · simp at h; exact hl id (by simp [← h.2.2.2])
        · cases h
      simpa only [this] using h
    | ept id ver i off =>
      have : hp' id = hp id := by
        simp only at h
        split at h
        · simp at h; exact hl id (by simp [← h.2.2.2])
        · cases h
      simpa only [this] using h
    | _ => exact h

theorem isNil_local {s : SV} {b : Bool} (h : isNilSV hp s = some (p, b, rd)) (hl : ∀ id ∈ rd, hp' id = hp id) : isNilSV hp' s = some (p, b, rd) := by
  cases s with
  | ptr id off =>
    have : hp' id = hp id := by
      simp only [isNilSV] at h
      split at h
      · simp at h; exact hl id (by simp [← h.2.2])
      · cases h
    simpa only [isNilSV, this] using h
  | ept id ver i off =>
    have : hp' id = hp id := by
      simp only [isNilSV] at h
      split at h
      · simp at h; exact hl id (by simp [← h.2.2])
      · cases h
    simpa only [isNilSV, this] using h
  | rv r => cases r <;> exact h
  | _ => exact h

theorem fldE_local {off : Nat} {s : SV} (h : fldE off hp s = some (p, sv, u, rd)) (hl : ∀ id ∈ rd, hp' id = hp id) : fldE off hp' s = some (p, sv, u, rd) := by
  cases s with
  | ptr id o =>
    have : hp' id = hp id := by
      simp only [fldE] at h
      split at h
      · simp at h; exact hl id (by simp [← h.2.2.2])
      · cases h
    simpa only [fldE, this] using h
  | ept id ver i o =>
    have : hp' id = hp id := by
      simp only [fldE] at h
      split at h
      · simp at h; exact hl id (by simp [← h.2.2.2])
      · cases h
    simpa only [fldE, this] using h
  | rv r => cases r <;> exact h
  | _ => exact h

theorem ixsE_local {e : Nat} {s : SV} {i : Int} (h : ixsE e hp s i = some (p, sv, u, rd)) (hl : ∀ id ∈ rd, hp' id = hp id) : ixsE e hp' s i = some (p, sv, u, rd) := by
  cases s with
  | row id ver len =>
    have : hp' id = hp id := by
      simp only [ixsE] at h
      split at h
      · simp at h; exact hl id (by simp [← h.2.2.2])
      · cases h
    simpa only [ixsE, this] using h
  | win id ver off len =>
    have : hp' id = hp id := by
      simp only [ixsE] at h
      split at h
      · simp at h; exact hl id (by simp [← h.2.2.2])
      · simp at h; exact hl id (by simp [← h.2.2.2])
      · cases h
    simpa only [ixsE, this] using h
  | rv r => cases r <;> exact h
  | _ => exact h

theorem ixaE_local {len e : Nat} {s : SV} {i : Int} (h : ixaE len e hp s i = some (p, sv, u, rd)) (hl : ∀ id ∈ rd, hp' id = hp id) : ixaE len e hp' s i = some (p, sv, u, rd) := by
  cases s with
  | ptr id o =>
    have : hp' id = hp id := by
      simp only [ixaE] at h
      split at h
      · simp at h; exact hl id (by simp [← h.2.2.2])
      · cases h
    simpa only [ixaE, this] using h
  | ept id ver i0 o =>
    have : hp' id = hp id := by
      simp only [ixaE] at h
      split at h
      · simp at h; exact hl id (by simp [← h.2.2.2])
      · cases h
    simpa only [ixaE, this] using h
  | rv r => cases r <;> exact h
  | _ => exact h

theorem lenE_local {s : SV} (h : lenE hp s = some (p, sv, u, rd)) (hl : ∀ id ∈ rd, hp' id = hp id) : lenE hp' s = some (p, sv, u, rd) := by
  cases s with
  | row id ver len =>
    have : hp' id = hp id := by
      simp only [lenE] at h
      split at h
      · simp at h; exact hl id (by simp [← h.2.2.2])
      · cases h
    simpa only [lenE, this] using h
  | win id ver off len =>
    have : hp' id = hp id := by
      simp only [lenE] at h
      split at h
      · simp at h; exact hl id (by simp [← h.2.2.2])
      · simp at h; exact hl id (by simp [← h.2.2.2])
      · cases h
    simpa only [lenE, this] using h
  | rv r => cases r <;> exact h
  | _ => exact h

theorem srcE_local {e : Nat} {s : SV} {ys : List (List SV)} (h : srcE e hp s = some (p, ys, rd)) (hl : ∀ id ∈ rd, hp' id = hp id) : srcE e hp' s = some (p, ys, rd) := by
  cases s with
  | row id ver len =>
    have : hp' id = hp id := by
      simp only [srcE] at h
      split at h
      · simp at h; exact hl id (by simp [← h.2.2])
      · cases h
    simpa only [srcE, this] using h
  | win id ver off len =>
    have : hp' id = hp id := by
      simp only [srcE] at h
      split at h
      · simp at h; exact hl id (by simp [← h.2.2])
      · simp at h; exact hl id (by simp [← h.2.2])
      · cases h
    simpa only [srcE, this] using h
  | rv r => cases r <;> exact h
  | _ => exact h

theorem appE_local {e bytes nx : Nat} {s x : SV} (h : appE e bytes hp nx s x = some (p, sv, u, rd)) (hl : ∀ id ∈ rd, hp' id = hp id) : appE e bytes hp' nx s x = some (p, sv, u, rd) := by
  unfold appE at h ⊢
  cases hs : srcE e hp x with
  | none => simp [hs] at h
  | some q =>
    obtain ⟨p0, ys, rd0⟩ := q
    simp only [hs] at h
    cases s with
    | row id ver len =>
      simp only at h
      cases hq : hp id with
      | none => simp [hq] at h
      | some hb =>
        cases hb with
        | var cs => simp [hq] at h
        | row e' ver' xs =>
          simp only [hq, Option.some.injEq, Prod.mk.injEq] at h
          obtain ⟨rfl, rfl, rfl, rfl⟩ := h
          have h1 : hp' id = hp id := hl id (by simp)
          rw [srcE_local hs (fun i hi => hl i (by simp [hi]))]
          simp [h1, hq]
    | rv r =>
      cases r with
      | nilsl =>
        simp only [Option.some.injEq, Prod.mk.injEq] at h
        obtain ⟨rfl, rfl, rfl, rfl⟩ := h
        rw [srcE_local hs hl]
      | _ => cases h
    | _ => cases h

theorem slcC_local {e : Nat} {s : SV} {l k : Option Int} (h : slcC e hp s l k = some (p, sv, u, rd)) (hl : ∀ id ∈ rd, hp' id = hp id) : slcC e hp' s l k = some (p, sv, u, rd) := by
  cases s with
  | row id ver len =>
    have : hp' id = hp id := by
      simp only [slcC] at h
      split at h
      · split at h
        · simp at h; exact hl id (by simp [← h.2.2.2])
        · simp at h; exact hl id (by simp [← h.2.2.2])
      · split at h
        · simp at h; exact hl id (by simp [← h.2.2.2])
        · cases h
      · cases h
    simpa only [slcC, this] using h
  | rv r => cases r <;> exact h
  | _ => exact h

theorem slcaE_local {n e : Nat} {s : SV} (h : slcaE n e hp s = some (p, sv, u, rd)) (hl : ∀ id ∈ rd, hp' id = hp id) : slcaE n e hp' s = some (p, sv, u, rd) := by
  cases s with
  | ptr id off =>
    have : hp' id = hp id := by
      simp only [slcaE] at h
      split at h
      · simp at h; exact hl id (by simp [← h.2.2.2])
      · cases h
    simpa only [slcaE, this] using h
  | _ => exact h

theorem clrE_local {e : Nat} {z : List RV} {s : SV} (h : clrE e z hp s = some (p, sv, u, rd)) (hl : ∀ id ∈ rd, hp' id = hp id) : clrE e z hp' s = some (p, sv, u, rd) := by
  cases s with
  | win id ver off len =>
    have : hp' id = hp id := by
      simp only [clrE] at h
      split at h
      · simp at h; exact hl id (by simp [← h.2.2.2])
      · cases h
    simpa only [clrE, this] using h
  | _ => exact h

theorem eqniloE_local {neg : Bool} {k : Nat} {s : SV} (h : eqniloE neg k hp s = some (p, sv, u, rd)) (hl : ∀ id ∈ rd, hp' id = hp id) : eqniloE neg k hp' s = some (p, sv, u, rd) := by
  have key : ∀ {p b rd}, isNilO k hp s = some (p, b, rd) → (∀ id ∈ rd, hp' id = hp id) → isNilO k hp' s = some (p, b, rd) := fun {p b rd} h hl => by
    unfold isNilO at h ⊢
    split at h
    · cases s with
      | row id ver len =>
        have : hp' id = hp id := by
          simp only [isNilSl] at h
          split at h
          · simp at h; exact hl id (by simp [← h.2.2])
          · cases h
        simpa only [isNilSl, this] using h
      | rv r => cases r <;> exact h
      | _ => exact h
    · exact h
    · exact h
  unfold eqniloE at h ⊢
  split at h
  · rename_i hn
    cases h
    rw [key hn hl]
  · cases h

/-- The plain operations look at 'rd' alone. -/
theorem opE_local {ao : AO} {ss : List SV} {nx : Nat} (h : opE ao ss hp nx = some (p, sv, u, rd)) (hl : ∀ id ∈ rd, hp' id = hp id) : opE ao ss hp' nx = some (p, sv, u, rd) := by
  have l1 : ∀ (f g : SV → XR), (∀ s, f s = some (p, sv, u, rd) → g s = some (p, sv, u, rd)) → o1 f ss = some (p, sv, u, rd) → o1 g ss = some (p, sv, u, rd) := fun f g hfg ho => by
    unfold o1 at ho ⊢
    split at ho
    · exact hfg _ ho
    · cases ho
  have l2 : ∀ (f g : SV → SV → XR), (∀ s t, f s t = some (p, sv, u, rd) → g s t = some (p, sv, u, rd)) → o2 f ss = some (p, sv, u, rd) → o2 g ss = some (p, sv, u, rd) := fun f g hfg ho => by
    unfold o2 at ho ⊢
    split at ho
    · exact hfg _ _ ho
    · cases ho
  have li : ∀ (f g : SV → Int → XR), (∀ s t, f s t = some (p, sv, u, rd) → g s t = some (p, sv, u, rd)) → ∀ s t, ix2 f s t = some (p, sv, u, rd) → ix2 g s t = some (p, sv, u, rd) := fun f g hfg s t ho => by
    unfold ix2 at ho ⊢
    split at ho
    · exact hfg _ _ ho
    · cases ho
  cases ao <;> simp only [opE] at h ⊢ <;> first
    | exact h
    | exact l1 _ _ (fun s => fun h => loadE_local h hl) h
    | exact l2 _ _ (fun s t => fun h => storeE_local h hl) h
    | exact l1 _ _ (fun s => fun h => fldE_local h hl) h
    | exact l2 _ _ (li _ _ (fun s t => fun h => ixsE_local h hl)) h
    | exact l2 _ _ (li _ _ (fun s t => fun h => ixaE_local h hl)) h
    | exact l1 _ _ (fun s => fun h => lenE_local h hl) h
    | exact l1 _ _ (fun s => fun h => eqniloE_local h hl) h
    | exact l2 _ _ (fun s t => fun h => appE_local h hl) h
    | exact l1 _ _ (fun s => fun h => slcaE_local h hl) h
    | exact l1 _ _ (fun s => fun h => clrE_local h hl) h
    | skip
  · refine l1 _ _ (fun s h => ?_) h
    unfold nilchkE at h ⊢
    split at h
    · rename_i hn
      cases h
      rw [isNil_local hn hl]
    · cases h
  · refine l1 _ _ (fun s h => ?_) h
    unfold eqnilE at h ⊢
    split at h
    · rename_i hn
      cases h
      rw [isNil_local hn hl]
    · cases h
  · unfold slcE at h ⊢
    split at h
    · split at h
      · exact slcC_local h hl
      · cases h
    · cases h
end

/-- What a plain operation writes is new, or what it looked at; what it looks at is there. -/
def UR (hp : Hp) (nx : Nat) (u : Option (Nat × HB)) (rd : List Nat) : Prop := (∀ q, u = some q → q.1 = nx ∨ q.1 ∈ rd) ∧ ∀ id ∈ rd, (hp id).isSome = true

theorem isNil_ur {hp : Hp} {nx : Nat} {s : SV} {p : Prop} {b : Bool} {rd : List Nat} (h : isNilSV hp s = some (p, b, rd)) : UR hp nx none rd := by
  unfold isNilSV at h
  repeat' split at h
  all_goals first | (cases h; done) | (cases h; simp [UR, *])

theorem srcE_ur {hp : Hp} {nx e : Nat} {s : SV} {p : Prop} {ys : List (List SV)} {rd : List Nat} (h : srcE e hp s = some (p, ys, rd)) : UR hp nx none rd := by
  unfold srcE at h
  repeat' split at h
  all_goals first | (cases h; done) | (cases h; simp [UR, *])

theorem opE_ur {ao : AO} {ss : List SV} {hp : Hp} {nx : Nat} {p : Prop} {sv : SV} {u : Option (Nat × HB)} {rd : List Nat} (h : opE ao ss hp nx = some (p, sv, u, rd)) : UR hp nx u rd := by
  cases ao <;> simp only [opE] at h <;> (try unfold o1 at h) <;> (try unfold o2 at h)
  case nilchk =>
    split at h
    · unfold nilchkE at h
      split at h
      · rename_i hn; cases h; exact isNil_ur hn
      · cases h
    · cases h
  case eqnil =>
    split at h
    · unfold eqnilE at h
      split at h
      · rename_i hn; cases h; exact isNil_ur hn
      · cases h
    · cases h
  case eqnilo =>
    split at h
    · unfold eqniloE at h
      split at h
      · rename_i hn
        cases h
        unfold isNilO isNilSl isNilFn isNilIf at hn
        repeat' split at hn
        all_goals first | (cases hn; done) | (cases hn; simp [UR, *])
      · cases h
    · cases h
  case app =>
    split at h
    · unfold appE at h
      split at h
      · cases h
      · rename_i hs
        have h1 := srcE_ur (nx := nx) hs
        repeat' split at h
        all_goals first | (cases h; done) | skip
        · cases h; exact ⟨fun q hq => by cases hq; exact .inl rfl, h1.2⟩
        · rename_i hq
          cases h
          refine ⟨fun q hq => by cases hq; exact .inr (by simp), fun id hid => ?_⟩
          rcases List.mem_cons.1 hid with rfl | hid
          · simp [hq]
          · exact h1.2 id hid
    · cases h
  case slc =>
    unfold slcE at h
    repeat' split at h
    all_goals first | (cases h; done) | skip
    unfold slcC at h
    repeat' split at h
    all_goals first | (cases h; done) | (cases h; simp [UR, *])
  all_goals
    first
    | (cases h; done)
    | (simp only [pickE, allocE, boxE, buildE, bslE, loadE, storeE, ibinE, ishfE, eqbE, notE, negE, cviE, mkslE, fldE, fldvE, ixsE, ixaE, ixvE, ix2, lenE, lensE, slcaE, clrE, capE, appnE, mxE, mnE, extE, eqsE, eqsF, sbinE, tasE, tasF] at h
       repeat' split at h
       all_goals first | (cases h; done) | (cases h; simp [UR, *]))
    | (repeat' split at h
       all_goals first | (cases h; done) | (cases h; simp [UR, *]))

theorem opS_plain {P : Program} {o : Oper} {ao : AO} {xs0 : List Operand} (hc : compOp P o.op = some (ao, xs0)) {args : List SV} {hp0 : Hp} {nx : Nat} {p : Prop} {sv : SV} {u : Option (Nat × HB)} {rd : List Nat}
    (hE : opE ao args hp0 nx = some (p, sv, u, rd)) (hp' : p) (hfr : hp0 nx = none) : OpS P o args (rd.filterMap fun id => (hp0 id).map fun hb => (id, hb)) (uList u) sv := by
  intro C hp w rho a next Q ao' xs hcx hpre hnew R A hk
  rw [hc] at hcx; cases hcx
  have ur := opE_ur hE
  have hag : ∀ id ∈ rd, hp id = hp0 id := fun id hid => by
    have h1 := ur.2 id hid
    cases hq : hp0 id with
    | none => simp [hq] at h1
    | some hb => exact hpre (id, hb) (List.mem_filterMap.2 ⟨id, hid, by simp [hq]⟩)
  have hE' := opE_local hE hag
  obtain ⟨n, v, w', rho', h1, h2, h3, h4⟩ := op_sound hc R a A (fun hb hu => by
    subst hu
    rcases hnew (nx, hb) (by simp [uList]) with ⟨hb', hm⟩ | h
    · obtain ⟨id, _, hid⟩ := List.mem_filterMap.1 hm
      cases hq : hp0 id with
      | none => simp [hq] at hid
      | some hb2 => simp [hq] at hid; rw [hid.1] at hq; rw [hfr] at hq; cases hq
    · exact h) hE' hp'
  unfold Oper.wp
  rw [h1]
  rw [← upl_uList] at h3 h4
  have := hk v w' rho' h3 h4
  rcases h2 with rfl | ⟨rfl, rfl⟩
  · exact this
  · exact this


/-- The function that a method's name means of a value of type t; with a value's method of a pointer: what is to be loaded. -/
def invF (P : Program) (t : TypeId) (name : String) : Option (FuncId × Option (Nat × Bool)) := match P.info? t with
  | some i => match i.methods.find? (·.name == name) with
    | some m => if m.path.isEmpty then match m.func, P.underlying t with
      | some (f, true), some (.pointer _) => some (f, none)
      | some (f, false), some (.pointer el) => match szT P el, aggT P el with
        | some n, some agg => some (f, some (n, agg))
        | _, _ => none
      | some (f, false), some _ => some (f, none)
      | _, _ => none
      else none
    | none => none
  | none => none

theorem comp_inv {P : Program} {op : Op} {name : String} {xs : List Operand} (hc : compOp P op = some (.inv name, xs)) : ∃ (c : Call) (x : Operand), op = .call c ∧ c.callee = .invoke x name ∧ xs = x :: c.args.toList := by
  cases op with
  | call c =>
    obtain ⟨callee, args, argTypes⟩ := c
    cases callee with
    | value g => cases g <;> cases hc
    | invoke r n => cases hc; exact ⟨_, _, rfl, rfl, rfl⟩
    | builtin b => cases b <;> unfold compOp at hc <;> (try dsimp only at hc) <;> (try (repeat' split at hc)) <;> first | (cases hc; done) | contradiction
  | _ => unfold compOp at hc; (try dsimp only at hc); (try unfold compBin at hc); (try (repeat' split at hc)) <;> first | (cases hc; done) | contradiction

theorem ifcOf_ok {w : World} {ok : Nat → Prop} {rho : Nat → Option Nat} {hp : Hp} {s : SV} {v : Value} (hv : Rp w ok rho hp s v) {t : TypeId} {x : SV} (h : ifcOf s = some (t, x)) : ∃ y, v = .iface t y ∧ Rp w ok rho hp x y := by
  unfold ifcOf at h
  split at h
  · cases h; cases hv with | ifc _ _ y h => exact ⟨y, rfl, h⟩
  · cases h; cases hv with | rv _ _ hr => cases hr with | ifc _ _ y h => exact ⟨y, rfl, .rv _ _ h⟩
  · cases h

theorem run_wrapChk {P : Program} (ats : Array TypeId) (ty : TypeId) (a : Addr) (s m : ByteArray) (w : World) : (Builtin.ssaWrapNilChk_ ats ty #[.pointer (some a), .string s, .string m]).run P w = .ok (.pointer (some a)) w := rfl

def ldOK (hp : Hp) (x y : SV) : Option (Nat × Bool) → Prop
  | none => y = x
  | some (n, agg) => ∃ p u rd, loadE n agg hp x = some (p, y, u, rd) ∧ p

theorem run_method {P : Program} {t : TypeId} {name : String} {f : FuncId} {ld : Option (Nat × Bool)} (h : invF P t name = some (f, ld)) {v y : Value} {w : World} (hl : match ld with
    | none => y = v
    | some (n, agg) => ∃ el a, P.underlying t = some (.pointer el) ∧ v = .pointer (some a) ∧ (loadVar el a).run P w = .ok y w) : ∀ fuel, (method (fuel + 1) t v name).run P w = .ok (f, y) w := by
  intro fuel
  unfold invF at h
  split at h
  · rename_i i hi
    split at h
    · rename_i m hm
      split at h
      · rename_i hp
        have hpath : m.path.toList = [] := by
          have : m.path = #[] := by simpa using hp
          rw [this]
        have hti : (typeInfo t).run P w = .ok i w := run_typeInfo w hi
        unfold method
        simp only [Sem.run_bind, hti, Result.andThen_ok, hm]
        split at h
        · rename_i f0 el hf hu
          cases h
          subst hl
          simp [hf, hpath, follow, receiverAt, run_underlying hu, Place.get]
        · rename_i f0 el hf hu
          split at h
          · rename_i n agg hn ha
            cases h
            obtain ⟨el', a, hu', rfl, hld⟩ := hl
            rw [hu] at hu'; cases hu'
            simp only [hf, hpath, follow, Sem.run_pure, Result.andThen_ok, hp, if_true, receiverAt, Sem.run_bind, run_underlying hu, Place.get, strVal, run_wrapChk, asAddr, hld]
          · cases h
        · rename_i f0 d hnp hf hu
          cases h
          subst hl
          cases d <;> first | (exact absurd rfl (hnp _)) | simp [hf, hpath, follow, receiverAt, run_underlying hu, Place.get]
        · cases h
      · cases h
    · cases h
  · cases h

theorem opS_inv {P : Program} {o : Oper} {name : String} {s y : SV} {t : TypeId} {x : SV} {args : List SV} {f : FuncId} {ld : Option (Nat × Bool)} {pre us : List (Nat × HB)} {sv : SV} {xs0 : List Operand} (hc : compOp P o.op = some (.inv name, xs0)) (hi : ifcOf s = some (t, x)) (hf : invF P t name = some (f, ld))
    (hl : ∀ hp, PreOK hp pre → ldOK hp x y ld) {pre0 : List (Nat × HB)} (hsub : ∀ q ∈ pre0, q ∈ pre) (h : CallR P f (y :: args) pre0 us sv) (hus : ∀ (C : Ctx) hp, NewOK C hp pre us → PreOK hp pre → NewOK C hp pre0 us) : OpS P o (s :: args) pre us sv := by
  intro C hp w rho a next Q ao xs hcx hpre hnew R A hk
  rw [hc] at hcx; cases hcx
  obtain ⟨c, r, hop, hcal, rfl⟩ := comp_inv hc
  cases A with
  | cons hs A =>
    obtain ⟨v, hv, hx⟩ := ifcOf_ok hs hi
    have hy : ∃ yv, (∀ fuel, (method (fuel + 1) t v name).run P w = .ok (f, yv) w) ∧ Rp w (okk C rho hp) rho hp y yv := by
      have hlp := hl hp hpre
      cases ld with
      | none => have hlp' : y = x := hlp
                subst hlp'; exact ⟨v, run_method hf rfl, hx⟩
      | some q =>
        obtain ⟨n, agg⟩ := q
        obtain ⟨p, u, rd, hE, hp'⟩ := hlp
        have hsz : ∃ el, P.underlying t = some (.pointer el) ∧ szT P el = some n ∧ aggT P el = some agg := by
          unfold invF at hf
          split at hf
          · split at hf
            · split at hf
              · split at hf
                · cases hf
                · rename_i hu
                  split at hf
                  · rename_i hn ha; cases hf; exact ⟨_, hu, hn, ha⟩
                  · cases hf
                · cases hf
                · cases hf
              · cases hf
            · cases hf
          · cases hf
        obtain ⟨el, hu, hn, ha⟩ := hsz
        obtain ⟨_, yv, hr, hry⟩ := load_good R hn ha hx hE hp'
        have hva : ∃ ad, v = .pointer (some ad) := by
          cases v with
          | pointer a0 =>
            cases a0 with
            | some a0 => exact ⟨a0, rfl⟩
            | none => simp [Instr.loadAt, Instr.sureAddr, stuck, Result.andThen] at hr
          | _ => simp [Instr.loadAt, Instr.sureAddr, stuck, Result.andThen] at hr
        obtain ⟨ad, rfl⟩ := hva
        exact ⟨yv, run_method hf ⟨el, ad, hu, rfl, hr⟩, hry⟩
    obtain ⟨yv, hm, hry⟩ := hy
    have hrun : (execOp a.eval o).run P w = .ok (.enter f (yv :: c.args.toList.map a.eval).toArray) w := by
      have he : #[yv] ++ (c.args.map a.eval) = (yv :: c.args.toList.map a.eval).toArray := by apply Array.ext'; simp
      have hm' : (method (P.types.size + Made.depth) t v name).run P w = .ok (f, yv) w := hm (P.types.size + 99)
      have hex : (#[a.eval r] ++ c.args.map a.eval).extract 1 (#[a.eval r] ++ c.args.map a.eval).size = c.args.map a.eval := by
        apply Array.ext'
        rw [Array.toList_extract]
        simp [List.extract, List.take_of_length_le]
      simp only [execOp, hop, resolve, hcal, Sem.run_bind, Sem.run_pure, Result.andThen_ok, invoke]
      have h0 : (#[a.eval r] ++ c.args.map a.eval)[0]? = some (a.eval r) := by rw [Array.getElem?_append_left (by simp)]; rfl
      rw [hv] at h0 hex
      simp only [hv, h0, hex, callMethod, Sem.run_bind, run_program, Result.andThen_ok, hm', run_callFunc h.1, he]
    unfold Oper.wp
    rw [hrun, Oper.upon_enter]
    refine (h.2 C hp w rho (yv :: c.args.toList.map a.eval) (fun q hq => hpre q (hsub q hq)) (hus C hp hnew hpre) R (by simp [A.length]) (fun j s hj => ?_)).mono ?_
    · cases j with
      | zero => simp at hj; subst hj; exact hry
      | succ j => simpa using A.get j s (by simpa using hj)
    · rintro e w' ⟨v, rho', rfl, h1, h2⟩
      exact hk v w' rho' h1 h2
end Go.Eng

/- States of the engine; regions in the order of the text. -/
namespace Go.Eng
open Go

structure St where
  env : List (Nat × SV)
  h : List (Option HB)

def lk : List (Nat × SV) → Nat → SV
  | [], _ => .dead
  | (m, v) :: r, n => if m = n then v else lk r n

def hget (h : List (Option HB)) (id : Nat) : Option HB := match h[id]? with
  | some x => x
  | none => none

def putE (dst : Option Nat) (v : SV) (env : List (Nat × SV)) : List (Nat × SV) := match dst with
  | some d => (d, v) :: env
  | none => env

def uph (h : List (Option HB)) (q : Nat × HB) : List (Option HB) := if q.1 = h.length then h ++ [some q.2] else h.set q.1 (some q.2)

def uphO (h : List (Option HB)) : Option (Nat × HB) → List (Option HB)
  | none => h
  | some q => uph h q

def uphL : List (Option HB) → List (Nat × HB) → List (Option HB)
  | h, [] => h
  | h, q :: r => uphL (uph h q) r

def okU (pre : List (Nat × HB)) : List (Option HB) → List (Nat × HB) → Prop
  | _, [] => True
  | h, q :: r => (q.1 = h.length ∨ (q.1 < h.length ∧ ∃ hb, (q.1, hb) ∈ pre)) ∧ okU pre (uph h q) r

theorem lk_put (env : List (Nat × SV)) (d : Nat) (v : SV) : lk ((d, v) :: env) = up (lk env) d v := by
  funext n
  simp only [lk, up]
  by_cases h : d = n
  · simp [h]
  · rw [if_neg h, if_neg (Ne.symm h)]

theorem uph_length (h : List (Option HB)) (q : Nat × HB) : h.length ≤ (uph h q).length := by
  unfold uph; split <;> simp

theorem hget_uph {h : List (Option HB)} {q : Nat × HB} (hq : q.1 ≤ h.length) : hget (uph h q) = up (hget h) q.1 (some q.2) := by
  funext id
  unfold uph hget up
  by_cases he : q.1 = h.length
  · rw [if_pos he]
    by_cases hi : id = q.1
    · subst hi; simp [he]
    · rw [if_neg hi]
      show _ = (match h[id]? with | some x => x | none => none)
      by_cases hl : id < h.length
      · rw [List.getElem?_append_left hl]
      · rw [List.getElem?_append_right (by omega), List.getElem?_eq_none (l := h) (by omega), List.getElem?_eq_none (by simp; omega)]
  · rw [if_neg he, List.getElem?_set]
    by_cases hi : id = q.1
    · subst hi
      have : q.1 < h.length := by omega
      simp [this]
    · rw [if_neg (Ne.symm hi), if_neg hi]

theorem hget_uphL {pre : List (Nat × HB)} : ∀ {us : List (Nat × HB)} {h : List (Option HB)}, okU pre h us → hget (uphL h us) = upl (hget h) us ∧ h.length ≤ (uphL h us).length
  | [], h, _ => ⟨rfl, Nat.le_refl _⟩
  | q :: r, h, hk => by
    obtain ⟨h1, h2⟩ := hk
    have hle : q.1 ≤ h.length := by rcases h1 with h1 | ⟨h1, _⟩ <;> omega
    obtain ⟨g1, g2⟩ := hget_uphL h2
    refine ⟨?_, Nat.le_trans (uph_length h q) g2⟩
    obtain ⟨id, hb⟩ := q
    rw [uphL, g1, hget_uph hle]; rfl

structure RepS (C : Ctx) (n0 : Nat) (s : St) (a : Act) (w : World) : Prop where
  rep : ∃ rho, RepF C (lk s.env) (hget s.h) a w rho
  le0 : n0 ≤ s.h.length
  h0 : ∀ id, n0 ≤ id → C.h0 id = none

theorem okU_new {C : Ctx} {n0 : Nat} {s : St} {a : Act} {w : World} (R : RepS C n0 s a w) {pre : List (Nat × HB)} : ∀ {us : List (Nat × HB)} {h : List (Option HB)}, s.h.length ≤ h.length → okU pre h us → NewOK C (hget s.h) pre us
  | [], h, _, _ => fun q hq => by simp at hq
  | p :: r, h, hl, hk => fun q hq => by
    rcases List.mem_cons.1 hq with rfl | hq
    · rcases hk.1 with h1 | ⟨_, h1⟩
      · refine .inr ⟨?_, R.h0 _ (by have := R.le0; omega)⟩
        unfold hget
        rw [List.getElem?_eq_none (by omega)]
      · exact .inl h1
    · exact okU_new R (h := uph h p) (by have := uph_length h p; omega) hk.2 q hq

theorem rp_undef {w : World} {ok : Nat → Prop} {rho : Nat → Option Nat} {hp : Hp} : Rp w ok rho hp (.tup []) undef := .tup [] [] rfl (fun j y hj => by simp at hj)
theorem rp_tup0 {w : World} {ok : Nat → Prop} {rho : Nat → Option Nat} {hp : Hp} {v : Value} (h : Rp w ok rho hp (.tup []) v) : v = undef := by
  cases h with
  | tup _ vs hl _ =>
    have : vs = [] := List.eq_nil_of_length_eq_zero (by simpa using hl)
    subst this; rfl

/-- Whether an operation is wanted; what was left out holds nothing. -/
def gOK (en : Nat → SV) : Option (Nat × Bool) → Option Bool
  | none => some true
  | some (d, b) => match en d with
    | .rv (.bool t) => some (t == b)
    | .tup [] => some false
    | _ => none

/-- A call within a state. -/
def CallW (P : Program) (f : FuncId) (args : List SV) (h : List (Option HB)) (K : SV → List (Option HB) → Prop) : Prop :=
  ∃ pre us sv, CallR P f args pre us sv ∧ PreOK (hget h) pre ∧ okU pre h us ∧ K sv (uphL h us)

def callvW (P : Program) (h : List (Option HB)) (K : SV → List (Option HB) → Prop) : List SV → Prop
  | .fn f caps :: args => CallW P f (args ++ caps) h K
  | _ => False

/-- The method is called: of the value itself, or of what lies behind it. -/
def invW (P : Program) (name : String) (h : List (Option HB)) (K : SV → List (Option HB) → Prop) : List SV → Prop
  | s :: args => match ifcOf s with
    | some (t, x) => match invF P t name with
      | some (f, none) => CallW P f (x :: args) h K
      | some (f, some (n, agg)) => match loadE n agg (hget h) x with
        | some (p, y, _, _) => p ∧ CallW P f (y :: args) h K
        | none => False
      | none => False
    | none => False
  | _ => False

def plainW (h : List (Option HB)) (K : SV → List (Option HB) → Prop) : XR → Prop
  | some (p, sv, u, _) => p ∧ K sv (uphO h u)
  | none => False

def opW (P : Program) (ao : AO) (args : List SV) (h : List (Option HB)) (K : SV → List (Option HB) → Prop) : Prop :=
  match ao with
  | .call f => CallW P f args h K
  | .callv => callvW P h K args
  | .inv name => invW P name h K args
  | ao => plainW h K (opE ao args (hget h) h.length)

def RW (P : Program) (K : St → Prop) : List AOp → St → Prop
  | [], s => K s
  | op :: r, s => match gOK (lk s.env) op.guard with
    | some true => opW P op.ao (op.xs.map (evX (lk s.env))) s.h fun sv h' => RW P K r ⟨putE op.dst sv s.env, h'⟩
    | some false => RW P K r ⟨putE op.dst (.tup []) s.env, s.h⟩
    | none => False

theorem loadE_rd {n : Nat} {agg : Bool} {hp : Hp} {x y : SV} {p : Prop} {u : Option (Nat × HB)} {rd : List Nat} (h : loadE n agg hp x = some (p, y, u, rd)) : ∀ id ∈ rd, (hp id).isSome = true := by
  unfold loadE at h
  repeat' split at h
  all_goals first | (cases h; done) | (cases h; simp [*])

/-- What was looked at to find the receiver. -/
def rdPre (h : List (Option HB)) (rd : List Nat) : List (Nat × HB) := rd.filterMap fun id => (hget h id).map fun hb => (id, hb)

theorem inv_load {P : Program} {o : Oper} {name : String} {s x y : SV} {t : TypeId} {args : List SV} {f : FuncId} {n : Nat} {agg : Bool} {xs0 : List Operand} (hc : compOp P o.op = some (.inv name, xs0)) (hi : ifcOf s = some (t, x)) (hf : invF P t name = some (f, some (n, agg))) {h : List (Option HB)} {p : Prop} {u : Option (Nat × HB)} {rd : List Nat} (hE : loadE n agg (hget h) x = some (p, y, u, rd)) (hp' : p)
    {pre us : List (Nat × HB)} {sv : SV} (H : CallR P f (y :: args) pre us sv) (h2 : PreOK (hget h) pre) (h3 : okU pre h us) : OpS P o (s :: args) (rdPre h rd ++ pre) us sv ∧ PreOK (hget h) (rdPre h rd ++ pre) ∧ okU (rdPre h rd ++ pre) h us := by
  have hrd := loadE_rd hE
  have hpre : PreOK (hget h) (rdPre h rd ++ pre) := fun q hq => by
    rcases List.mem_append.1 hq with hq | hq
    · obtain ⟨id, _, hid⟩ := List.mem_filterMap.1 hq
      cases hq' : hget h id with
      | none => simp [hq'] at hid
      | some hb => simp [hq'] at hid; subst hid; exact hq'
    · exact h2 q hq
  have okm : ∀ {us : List (Nat × HB)} {h' : List (Option HB)}, okU pre h' us → okU (rdPre h rd ++ pre) h' us := by
    intro us
    induction us with
    | nil => intro h' _; trivial
    | cons q r ih =>
      intro h' hk
      refine ⟨hk.1.imp (fun h => h) (fun ⟨a, hb, hm⟩ => ⟨a, hb, List.mem_append.2 (.inr hm)⟩), ih hk.2⟩
  refine ⟨opS_inv hc hi hf (y := y) (fun hp hP => ?_) (pre0 := pre) (fun q hq => List.mem_append.2 (.inr hq)) H (fun C hp hnew hP q hq => ?_), hpre, okm h3⟩
  · refine ⟨p, u, rd, loadE_local hE (fun id hid => ?_), hp'⟩
    obtain ⟨hb, hhb⟩ := Option.isSome_iff_exists.1 (hrd id hid)
    rw [hhb]
    exact hP (id, hb) (List.mem_append.2 (.inl (List.mem_filterMap.2 ⟨id, hid, by simp [hhb]⟩)))
  · rcases hnew q hq with ⟨hb, hm⟩ | hn
    · rcases List.mem_append.1 hm with hm | hm
      · -- an id that is only looked at is not written by the call, unless it is among pre
        have : ∀ {us : List (Nat × HB)} {h' : List (Option HB)}, okU pre h' us → ∀ q ∈ us, (∃ hb, (q.1, hb) ∈ pre) ∨ h'.length ≤ q.1 := by
          intro us
          induction us with
          | nil => intro h' _ q hq; simp at hq
          | cons r l ih =>
            intro h' hk q hq
            rcases List.mem_cons.1 hq with rfl | hq
            · rcases hk.1 with h1 | ⟨_, h1⟩
              · exact .inr (by omega)
              · exact .inl h1
            · rcases ih hk.2 q hq with h1 | h1
              · exact .inl h1
              · exact .inr (by have := uph_length h' r; omega)
        rcases this h3 q hq with h1 | h1
        · exact .inl h1
        · exfalso
          obtain ⟨id, _, hid⟩ := List.mem_filterMap.1 hm
          cases hq' : hget h id with
          | none => simp [hq'] at hid
          | some hb' =>
            simp [hq'] at hid
            have : id < h.length := by
              unfold hget at hq'
              cases hl : h[id]? with
              | none => simp [hl] at hq'
              | some x => exact (List.getElem?_eq_some_iff.1 hl).1
            omega
      · exact .inl ⟨hb, hm⟩
    · exact .inr hn

/-- What a step of a region is, whatever the operation. -/
theorem opW_opS {P : Program} {o : Oper} {ao : AO} {xs0 : List Operand} (hc : compOp P o.op = some (ao, xs0)) {args : List SV} {h : List (Option HB)} {K : SV → List (Option HB) → Prop} (hW : opW P ao args h K) :
    ∃ pre us sv, OpS P o args pre us sv ∧ PreOK (hget h) pre ∧ okU pre h us ∧ K sv (uphL h us) := by
  unfold opW at hW
  split at hW
  · obtain ⟨pre, us, sv, h1, h2, h3, h4⟩ := hW
    exact ⟨pre, us, sv, opS_call hc h1, h2, h3, h4⟩
  · unfold callvW at hW
    split at hW
    · obtain ⟨pre, us, sv, h1, h2, h3, h4⟩ := hW
      exact ⟨pre, us, sv, opS_callv hc h1, h2, h3, h4⟩
    · exact hW.elim
  · unfold invW at hW
    split at hW
    · rename_i s args0
      split at hW
      · rename_i t x hi
        split at hW
        · rename_i f hf
          obtain ⟨pre, us, sv, h1, h2, h3, h4⟩ := hW
          exact ⟨pre, us, sv, opS_inv hc hi hf (y := x) (fun hp hP => rfl) (fun q hq => hq) h1 (fun C hp hn _ => hn), h2, h3, h4⟩
        · rename_i f n agg hf
          split at hW
          · rename_i p y u rd hE
            obtain ⟨hp', pre, us, sv, h1, h2, h3, h4⟩ := hW
            obtain ⟨g1, g2, g3⟩ := inv_load hc hi hf hE hp' h1 h2 h3
            exact ⟨_, us, sv, g1, g2, g3, h4⟩
          · exact hW.elim
        · exact hW.elim
      · exact hW.elim
    · exact hW.elim
  · unfold plainW at hW
    split at hW
    · rename_i p sv u rd hE
      obtain ⟨hp, hK⟩ := hW
      have hnx : hget h h.length = none := by unfold hget; rw [List.getElem?_eq_none (Nat.le_refl _)]
      refine ⟨_, uList u, sv, opS_plain hc hE hp hnx, fun q hq => ?_, ?_, ?_⟩
      · obtain ⟨id, _, hid⟩ := List.mem_filterMap.1 hq
        cases hq' : hget h id with
        | none => simp [hq'] at hid
        | some hb => simp [hq'] at hid; subst hid; exact hq'
      · cases u with
        | none => trivial
        | some q =>
          have ur := opE_ur hE
          refine ⟨?_, trivial⟩
          rcases ur.1 q rfl with h1 | h1
          · exact .inl h1
          · right
            have hs := ur.2 _ h1
            obtain ⟨hb, hhb⟩ := Option.isSome_iff_exists.1 hs
            refine ⟨?_, hb, List.mem_filterMap.2 ⟨q.1, h1, by simp [hhb]⟩⟩
            unfold hget at hhb
            cases hl : h[q.1]? with
            | none => simp [hl] at hhb
            | some x => exact (List.getElem?_eq_some_iff.1 hl).1
      · cases u with
        | none => exact hK
        | some q => exact hK
    · exact hW.elim

theorem gOK_wanted {C : Ctx} {en : Nat → SV} {hp : Hp} {a : Act} {w : World} {rho : Nat → Option Nat} (RF : RepF C en hp a w rho) {ops : Array Oper} {o : Oper} {N : Nat} {P : Program} {op : AOp} (hc : compOper P ops N o = some op) {b : Bool} (h : gOK en op.guard = some b) : Region.wanted o (yielded ops a.tmps) = b := by
  unfold compOper at hc
  split at hc
  · cases hc
  · split at hc
    · cases hc
    · split at hc
      · split at hc
        · rename_i hg
          cases hc
          simp only [gOK, Option.some.injEq] at h
          simp [Region.wanted, hg, ← h]
        · rename_i j b' hg
          split at hc
          · rename_i d hd
            cases hc
            simp only [gOK] at h
            split at h
            · rename_i t ht
              simp only [Option.some.injEq] at h
              have := RF.env d
              rw [ht] at this
              have hv := rp_bool this
              have htm : a.tmps[d]? = some (.bool t) := by
                rw [Array.getD_eq_getD_getElem?] at hv
                cases hx : a.tmps[d]? with
                | none => simp [hx, undef] at hv
                | some x => simp [hx] at hv; rw [hv]
              simp only [Region.wanted, hg, yielded, hd, Option.bind_some, htm]
              rw [← h]; cases t <;> cases b' <;> rfl
            · rename_i ht
              simp only [Option.some.injEq] at h
              have := RF.env d
              rw [ht] at this
              have hv := rp_tup0 this
              have hno : yielded ops a.tmps j = none := by
                simp only [yielded, hd, Option.bind_some]
                rw [Array.getD_eq_getD_getElem?] at hv
                cases hx : a.tmps[d]? with
                | none => rfl
                | some x => simp [hx] at hv; rw [hv]; rfl
              simp only [Region.wanted, hg, hno]
              rw [← h]; rfl
            · cases h
          · cases hc
      · cases hc

theorem compOper_op {P : Program} {ops : Array Oper} {N : Nat} {o : Oper} {op : AOp} (hc : compOper P ops N o = some op) : ∃ xs0, compOp P o.op = some (op.ao, xs0) ∧ cvOs xs0 = some op.xs ∧ o.dst = op.dst ∧ ∀ d, op.dst = some d → d < N := by
  unfold compOper at hc
  split at hc
  · cases hc
  · rename_i ao xs hao
    split at hc
    · cases hc
    · rename_i ys hys
      split at hc
      · rename_i hd
        split at hc
        · cases hc
          exact ⟨xs, hao, hys, rfl, fun d hdd => by have hdd' : o.dst = some d := hdd; rw [hdd'] at hd; simpa using hd⟩
        · split at hc
          · cases hc
            exact ⟨xs, hao, hys, rfl, fun d hdd => by have hdd' : o.dst = some d := hdd; rw [hdd'] at hd; simpa using hd⟩
          · cases hc
      · cases hc

theorem RepF.putO {C : Ctx} {env : List (Nat × SV)} {hp : Hp} {a : Act} {w : World} {rho : Nat → Option Nat} (R : RepF C (lk env) hp a w rho) {dst : Option Nat} (hd : ∀ d, dst = some d → d < C.N) {s : SV} {v : Value} (h : Rp w (okk C rho hp) rho hp s v) :
    RepF C (lk (putE dst s env)) hp (a.put dst v) w rho := by
  cases dst with
  | none => exact R
  | some d =>
    have := R.put (hd d rfl) h
    rw [← lk_put] at this; exact this

theorem rw_sound {P : Program} {C : Ctx} {n0 : Nat} {ops : Array Oper} {K : St → Prop} {Q : Exit → Act → World → Prop} (hK : ∀ s a w, K s → RepS C n0 s a w → Q .normal a w) :
    ∀ (l : List AOp) (is : List Nat) (s : St) (a : Act) (w : World), is.length = l.length → (∀ (j i : Nat) (op : AOp), is[j]? = some i → l[j]? = some op → ∃ o, ops[i]? = some o ∧ compOper P ops C.N o = some op) →
      RW P K l s → RepS C n0 s a w → wpOps P ops Q is a w
  | [], [], s, a, w, _, _, h, R => hK s a w h R
  | [], _ :: _, s, a, w, hl, _, _, _ => by simp at hl
  | _ :: _, [], s, a, w, hl, _, _, _ => by simp at hl
  | op :: l, i :: is, s, a, w, hl, hc, h, R => by
    obtain ⟨o, ho, hco⟩ := hc 0 i op rfl rfl
    obtain ⟨xs0, hc1, hc2, hc3, hc4⟩ := compOper_op hco
    have ih := rw_sound (P := P) (ops := ops) hK l is
    have hl' : is.length = l.length := by simpa using hl
    have hc' : ∀ (j i : Nat) (op : AOp), is[j]? = some i → l[j]? = some op → ∃ o, ops[i]? = some o ∧ compOper P ops C.N o = some op := fun j i op h1 h2 => hc (j + 1) i op (by simpa using h1) (by simpa using h2)
    simp only [wpOps, ho]
    unfold RW at h
    cases hg : gOK (lk s.env) op.guard with
    | none => simp [hg] at h
    | some b =>
      obtain ⟨rho, RF⟩ := R.rep
      have hw := gOK_wanted RF hco hg
      cases b with
      | false =>
        rw [hg] at h
        rw [if_neg (by rw [hw]; simp)]
        refine ih _ _ _ hl' hc' h ⟨⟨rho, ?_⟩, R.le0, R.h0⟩
        rw [hc3]
        exact RF.putO hc4 rp_undef
      | true =>
        rw [hg] at h
        rw [if_pos hw]
        left
        obtain ⟨pre, us, sv, h1, h2, h3, h4⟩ := opW_opS hc1 h
        obtain ⟨g1, g2⟩ := hget_uphL h3
        refine h1 C (hget s.h) w rho a _ _ _ _ hc1 h2 (okU_new R (Nat.le_refl _) h3) RF.mem (args_of RF hc2) (fun v w' rho' hS hR => ?_)
        refine ih _ _ _ hl' hc' h4 ⟨⟨rho', ?_⟩, Nat.le_trans R.le0 g2, R.h0⟩
        rw [hc3]
        have RF' := RF.step hS
        rw [← g1] at RF' hR
        exact RF'.putO hc4 hR
end Go.Eng

/- Regions that draw their order: what is told of the order of the text holds of every order, where what is unordered touches nothing in common. -/
namespace Go.Eng
open Go

/-- What an operation of a region touches: slots read, slot written, things looked at, things written. -/
structure TE where
  rds : List Nat
  dst : Option Nat
  pre : List Nat
  us : List Nat

def rdsX : List XO → List Nat
  | [] => []
  | .t n :: r => n :: rdsX r
  | .c _ :: r => rdsX r

def rdsOf (op : AOp) : List Nat := match op.guard with
  | some (d, _) => d :: rdsX op.xs
  | none => rdsX op.xs

def disj (a b : List Nat) : Bool := a.all fun x => !b.contains x

def apartT (x y : TE) : Bool :=
  (match x.dst with
   | some d => !y.rds.contains d && !(y.dst == some d)
   | none => true) &&
  (match y.dst with
   | some d => !x.rds.contains d
   | none => true) && disj x.us y.pre && disj x.us y.us && disj y.us x.pre

/-- Each two are ordered or apart: x stands ahead of those of l, as number i; the first of l has number j. -/
def compat1 (bef : List (List Nat)) (i : Nat) (x : TE) : Nat → List TE → Bool
  | _, [] => true
  | j, y :: r => ((bef.getD j []).contains i || apartT x y) && compat1 bef i x (j + 1) r

def compat (bef : List (List Nat)) : Nat → List TE → Bool
  | _, [] => true
  | i, x :: r => compat1 bef i x (i + 1) r && compat bef (i + 1) r

/-- Those that must have come up ahead, through others too. -/
def needs (o : Oper) : List Nat := (o.after.toList.filter (fun e => Region.binds .any e)).map (·.on)

/-- One entry of the trace of a region in the text's order. -/
inductive EN where
  | skip
  | run (args : List SV) (pre us : List (Nat × HB)) (sv : SV)

def nextS (op : AOp) (s : St) : EN → St
  | .skip => ⟨putE op.dst (.tup []) s.env, s.h⟩
  | .run _ _ us sv => ⟨putE op.dst sv s.env, uphL s.h us⟩

def teOf (op : AOp) : EN → TE
  | .skip => ⟨rdsOf op, op.dst, [], []⟩
  | .run _ pre us _ => ⟨rdsOf op, op.dst, pre.map (·.1), us.map (·.1)⟩

/-- The trace: at each operation what it did, and that it could. -/
def Tr (P : Program) (ops : Array Oper) : Nat → List AOp → St → List EN → St → Prop
  | _, [], s, [], s' => s = s'
  | i, op :: l, s, e :: es, s' => (match e with
      | .skip => gOK (lk s.env) op.guard = some false
      | .run args pre us sv => gOK (lk s.env) op.guard = some true ∧ args = op.xs.map (evX (lk s.env)) ∧ (∀ o, ops[i]? = some o → OpS P o args pre us sv) ∧ PreOK (hget s.h) pre ∧ okU pre s.h us) ∧ Tr P ops (i + 1) l (nextS op s e) es s'
  | _, _, _, _, _ => False

def stAt : List AOp → List EN → St → Nat → St
  | op :: l, e :: es, s, i + 1 => stAt l es (nextS op s e) i
  | _, _, s, _ => s

theorem Tr.length {P : Program} {ops : Array Oper} : ∀ {l : List AOp} {i : Nat} {s s' : St} {es : List EN}, Tr P ops i l s es s' → es.length = l.length
  | [], i, s, s', [], _ => rfl
  | [], i, s, s', _ :: _, h => h.elim
  | _ :: _, i, s, s', [], h => h.elim
  | op :: l, i, s, s', e :: es, h => by simp [Tr.length h.2]

theorem Tr.last {P : Program} {ops : Array Oper} : ∀ {l : List AOp} {i : Nat} {s s' : St} {es : List EN}, Tr P ops i l s es s' → stAt l es s l.length = s'
  | [], i, s, s', [], h => h
  | [], i, s, s', _ :: _, h => h.elim
  | _ :: _, i, s, s', [], h => h.elim
  | op :: l, i, s, s', e :: es, h => by simpa [stAt] using Tr.last h.2

theorem Tr.at_ {P : Program} {ops : Array Oper} : ∀ {l : List AOp} {i : Nat} {s s' : St} {es : List EN}, Tr P ops i l s es s' → ∀ (j : Nat) (op : AOp), l[j]? = some op → ∃ e, es[j]? = some e ∧ stAt l es s (j + 1) = nextS op (stAt l es s j) e ∧ (match e with
      | .skip => gOK (lk (stAt l es s j).env) op.guard = some false
      | .run args pre us sv => gOK (lk (stAt l es s j).env) op.guard = some true ∧ args = op.xs.map (evX (lk (stAt l es s j).env)) ∧ (∀ o, ops[i + j]? = some o → OpS P o args pre us sv) ∧ PreOK (hget (stAt l es s j).h) pre ∧ okU pre (stAt l es s j).h us)
  | [], i, s, s', es, h, j, op, hj => by simp at hj
  | _ :: _, i, s, s', [], h, _, _, _ => h.elim
  | op0 :: l, i, s, s', e :: es, h, j, op, hj => by
    cases j with
    | zero =>
      simp at hj; subst hj
      refine ⟨e, rfl, ?_, ?_⟩
      · cases l <;> cases es <;> rfl
      · have := h.1
        cases e <;> exact this
    | succ j =>
      have := Tr.at_ h.2 j op (by simpa using hj)
      obtain ⟨e', h1, h2, h3⟩ := this
      refine ⟨e', by simpa using h1, h2, ?_⟩
      rw [show i + (j + 1) = i + 1 + j by omega]
      exact h3

theorem stAt_len {l : List AOp} {es : List EN} {s : St} (P : Program) (ops : Array Oper) {i : Nat} {s' : St} (h : Tr P ops i l s es s') : ∀ j, j ≤ l.length → s.h.length ≤ (stAt l es s j).h.length := fun j => by
  induction j with
  | zero => intro _; cases l <;> cases es <;> exact Nat.le_refl _
  | succ j ih =>
    intro hj
    obtain ⟨e, h1, h2, h3⟩ := h.at_ j _ (List.getElem?_eq_getElem (by omega))
    rw [h2]
    refine Nat.le_trans (ih (by omega)) ?_
    cases e with
    | skip => exact Nat.le_refl _
    | run args pre us sv => exact (hget_uphL h3.2.2.2.2).2

/-- The numbers of those that are not listed yet. -/
def cnt (L : Nat → Bool) : Nat → Nat
  | 0 => 0
  | n + 1 => cnt L n + (if L n then 0 else 1)

theorem cnt_same {L L' : Nat → Bool} : ∀ {n : Nat}, (∀ i, i < n → L' i = L i) → cnt L' n = cnt L n
  | 0, _ => rfl
  | n + 1, h => by rw [cnt, cnt, cnt_same (fun i hi => h i (by omega)), h n (by omega)]

theorem cnt_set {L L' : Nat → Bool} {j : Nat} (hj : L j = false) (hj' : L' j = true) (ho : ∀ i, i ≠ j → L' i = L i) : ∀ {n : Nat}, j < n → cnt L n = cnt L' n + 1
  | n + 1, h => by
    rw [cnt, cnt]
    by_cases hn : j = n
    · subst hn
      rw [cnt_same (L := L) (L' := L') (fun i hi => ho i (by omega)), hj, hj']; simp
    · rw [cnt_set hj hj' ho (n := n) (by omega), ho n (fun e => hn e.symm)]; omega

theorem cnt_zero {L : Nat → Bool} : ∀ {n : Nat}, cnt L n = 0 → ∀ i, i < n → L i = true
  | n + 1, h, i, hi => by
    rw [cnt] at h
    by_cases hn : i = n
    · subst hn; cases hL : L i with
      | true => rfl
      | false => simp [hL] at h
    · exact cnt_zero (n := n) (by omega) i (by omega)

theorem cnt_le (L : Nat → Bool) : ∀ n, cnt L n ≤ n
  | 0 => Nat.le_refl _
  | n + 1 => by rw [cnt]; have := cnt_le L n; split <;> omega

theorem upl_mem {hp hp' : Hp} : ∀ {us : List (Nat × HB)} {id : Nat}, id ∈ us.map (·.1) → upl hp us id = upl hp' us id
  | [], id, h => by simp at h
  | (i, hb) :: r, id, h => by
    by_cases hr : id ∈ r.map (·.1)
    · rw [upl, upl]; exact upl_mem hr
    · have hi : id = i := by
        rcases List.mem_cons.1 h with h | h
        · exact h
        · exact absurd h hr
      subst hi
      have hne : ∀ q ∈ r, q.1 ≠ id := fun q hq he => hr (List.mem_map.2 ⟨q, hq, he⟩)
      rw [upl, upl, upl_not hne, upl_not hne, up_same, up_same]

/-- Between two points of the text at which nobody writes a place, it holds the same. -/
theorem same_between {α : Type} (f : Nat → α) (wr : Nat → Prop) (hs : ∀ i, ¬ wr i → f (i + 1) = f i) {k j : Nat} (hkj : k ≤ j) (h : ∀ i, k ≤ i → i < j → ¬ wr i) : f j = f k := by
  induction j with
  | zero => have : k = 0 := by omega
            rw [this]
  | succ j ih =>
    by_cases he : k = j + 1
    · rw [he]
    · rw [hs j (h j (by omega) (by omega)), ih (by omega) (fun i h1 h2 => h i h1 (by omega))]

theorem disj_not {a b : List Nat} (h : disj a b = true) {x : Nat} (ha : x ∈ a) (hb : x ∈ b) : False := by
  unfold disj at h
  rw [List.all_eq_true] at h
  have := h x ha
  simp at this
  exact this hb

/-- All that the schedule's theorem is about. -/
structure Sch (P : Program) (ops : Array Oper) (N : Nat) (l : List AOp) (es : List EN) (s0 s1 : St) (bef : List (List Nat)) : Prop where
  tr : Tr P ops 0 l s0 es s1
  size : ops.size = l.length
  comp : ∀ (i : Nat) (op : AOp), l[i]? = some op → ∃ o, ops[i]? = some o ∧ compOper P ops N o = some op
  back : ∀ (i : Nat) (o : Oper), ops[i]? = some o → ∀ k ∈ needs o, k < i
  befOk : ∀ (i : Nat) (o : Oper), ops[i]? = some o → ∀ k ∈ bef.getD i [], ∃ (L : List Nat), (∀ x ∈ L, x ∈ needs o) ∧ (k ∈ L ∨ ∃ x ∈ L, k ∈ bef.getD x [])
  ok : ∀ (a b : Nat) (opa opb : AOp) (ea eb : EN), a < b → l[a]? = some opa → l[b]? = some opb → es[a]? = some ea → es[b]? = some eb → a ∈ bef.getD b [] ∨ apartT (teOf opa ea) (teOf opb eb) = true

section
variable {P : Program} {ops : Array Oper} {N : Nat} {l : List AOp} {es : List EN} {s0 s1 : St} {bef : List (List Nat)}

/-- Listed ones are closed: what must be ahead is listed. -/
def Clo (ops : Array Oper) (L : Nat → Bool) : Prop := ∀ (i : Nat) (o : Oper), ops[i]? = some o → L i = true → ∀ k ∈ needs o, L k = true

theorem Sch.bef_listed (H : Sch P ops N l es s0 s1 bef) {L : Nat → Bool} (hc : Clo ops L) : ∀ (i : Nat) (o : Oper), ops[i]? = some o → (∀ k ∈ needs o, L k = true) → ∀ k ∈ bef.getD i [], L k = true := by
  intro i
  induction i using Nat.strongRecOn with
  | _ i ih =>
    intro o ho hn k hk
    obtain ⟨ls, h1, h2⟩ := H.befOk i o ho k hk
    rcases h2 with h2 | ⟨x, hx, h2⟩
    · exact hn k (h1 k h2)
    · have hxi := H.back i o ho x (h1 x hx)
      have hxs : x < ops.size := by have := (Array.getElem?_eq_some_iff.1 ho).1; omega
      have hox := Array.getElem?_eq_getElem hxs
      exact ih x hxi _ hox (hc x _ hox (hn x (h1 x hx))) k h2

/-- What stands at the places when the ones of L have come up. -/
structure Inv (l : List AOp) (es : List EN) (s0 : St) (L : Nat → Bool) (en : Nat → SV) (hp : Hp) : Prop where
  env : ∀ m, ∃ k, k ≤ l.length ∧ en m = lk (stAt l es s0 k).env m ∧ (∀ (i : Nat) (op : AOp), i < k → l[i]? = some op → op.dst = some m → L i = true) ∧ (∀ (i : Nat) (op : AOp), k ≤ i → l[i]? = some op → op.dst = some m → L i = false)
  heap : ∀ id, ∃ k, k ≤ l.length ∧ hp id = hget (stAt l es s0 k).h id ∧ (∀ (i : Nat) (op : AOp) (e : EN), i < k → l[i]? = some op → es[i]? = some e → id ∈ (teOf op e).us → L i = true) ∧ (∀ (i : Nat) (op : AOp) (e : EN), k ≤ i → l[i]? = some op → es[i]? = some e → id ∈ (teOf op e).us → L i = false)

theorem Sch.env_step (H : Sch P ops N l es s0 s1 bef) (m i : Nat) (h : ∀ op, l[i]? = some op → op.dst ≠ some m) : lk (stAt l es s0 (i + 1)).env m = lk (stAt l es s0 i).env m := by
  cases hi : l[i]? with
  | none =>
    have hlen : ∀ (l : List AOp) (es : List EN) (s : St) (i : Nat), l.length ≤ i → stAt l es s (i + 1) = stAt l es s i := by
      intro l
      induction l with
      | nil => intro es s i _; cases i <;> rfl
      | cons op l ih =>
        intro es s i hi
        cases es with
        | nil => cases i <;> rfl
        | cons e es =>
          cases i with
          | zero => simp at hi
          | succ i => simp only [stAt]; exact ih es _ i (by simpa using hi)
    rw [hlen l es s0 i (List.getElem?_eq_none_iff.1 hi)]
  | some op =>
    obtain ⟨e, _, h2, _⟩ := H.tr.at_ i op hi
    rw [h2]
    have hd := h op hi
    have hput : ∀ v, lk (putE op.dst v (stAt l es s0 i).env) m = lk (stAt l es s0 i).env m := fun v => by
      cases hdd : op.dst with
      | none => rfl
      | some d =>
        rw [hdd] at hd
        rw [putE, lk_put, up_other _ _ (fun e => hd (by rw [e]))]
    cases e <;> exact hput _

theorem Sch.heap_step (H : Sch P ops N l es s0 s1 bef) (id i : Nat) (h : ∀ op e, l[i]? = some op → es[i]? = some e → id ∉ (teOf op e).us) : hget (stAt l es s0 (i + 1)).h id = hget (stAt l es s0 i).h id := by
  cases hi : l[i]? with
  | none =>
    have hlen : ∀ (l : List AOp) (es : List EN) (s : St) (i : Nat), l.length ≤ i → stAt l es s (i + 1) = stAt l es s i := by
      intro l
      induction l with
      | nil => intro es s i _; cases i <;> rfl
      | cons op l ih =>
        intro es s i hi
        cases es with
        | nil => cases i <;> rfl
        | cons e es =>
          cases i with
          | zero => simp at hi
          | succ i => simp only [stAt]; exact ih es _ i (by simpa using hi)
    rw [hlen l es s0 i (List.getElem?_eq_none_iff.1 hi)]
  | some op =>
    obtain ⟨e, he, h2, h3⟩ := H.tr.at_ i op hi
    rw [h2]
    have hd := h op e hi he
    cases e with
    | skip => rfl
    | run args pre us sv =>
      obtain ⟨_, _, _, _, hk⟩ := h3
      show hget (uphL (stAt l es s0 i).h us) id = _
      rw [(hget_uphL hk).1]
      exact upl_not (fun q hq he => hd (List.mem_map.2 ⟨q, hq, he⟩))

theorem Sch.wenv (H : Sch P ops N l es s0 s1 bef) {L : Nat → Bool} (hc : Clo ops L) {j : Nat} {op : AOp} {o : Oper} (hj : l[j]? = some op) (ho : ops[j]? = some o) (hL : L j = false) (hn : ∀ k ∈ needs o, L k = true)
    {m : Nat} (hm : m ∈ rdsOf op ∨ op.dst = some m) (i : Nat) (opi : AOp) (hi : l[i]? = some opi) (hd : opi.dst = some m) : (i < j → L i = true) ∧ (j < i → L i = false) := by
  obtain ⟨e, he, _⟩ := H.tr.at_ j op hj
  have hlen := H.tr.length
  have hil : i < es.length := by rw [hlen]; exact (List.getElem?_eq_some_iff.1 hi).1
  have hei := List.getElem?_eq_getElem hil
  have hdt : ∀ e, (teOf opi e).dst = some m := fun e => by cases e <;> exact hd
  have hrt : ∀ e, (teOf op e).rds = rdsOf op := fun e => by cases e <;> rfl
  have hdo : ∀ e, (teOf op e).dst = op.dst := fun e => by cases e <;> rfl
  refine ⟨fun hij => ?_, fun hji => ?_⟩
  · rcases H.ok i j opi op _ e hij hi hj hei he with h | h
    · exact H.bef_listed hc j o ho hn i h
    · exfalso
      simp only [apartT, Bool.and_eq_true] at h
      have ha := h.1.1.1.1
      rw [hdt] at ha
      rw [hrt, hdo] at ha
      rcases hm with hm | hm
      · simp [hm] at ha
      · simp [hm] at ha
  · cases hLi : L i with
    | false => rfl
    | true =>
      exfalso
      rcases H.ok j i op opi e _ hji hj hi he hei with h | h
      · have hoi := Array.getElem?_eq_getElem (xs := ops) (i := i) (by rw [H.size, ← hlen]; exact hil)
        have := H.bef_listed hc i _ hoi (hc i _ hoi hLi) j h
        rw [hL] at this; cases this
      · simp only [apartT, Bool.and_eq_true] at h
        have hb := h.1.1.1.2
        have ha := h.1.1.1.1
        rw [hdt] at hb
        rw [hrt] at hb
        rw [hdo, hdt] at ha
        rcases hm with hm | hm
        · simp [hm] at hb
        · simp [hm] at ha

theorem Sch.read_env (H : Sch P ops N l es s0 s1 bef) {L : Nat → Bool} (hc : Clo ops L) {en : Nat → SV} {hp : Hp} (I : Inv l es s0 L en hp) {j : Nat} {op : AOp} {o : Oper} (hj : l[j]? = some op) (ho : ops[j]? = some o) (hL : L j = false) (hn : ∀ k ∈ needs o, L k = true)
    {m : Nat} (hm : m ∈ rdsOf op ∨ op.dst = some m) : en m = lk (stAt l es s0 j).env m := by
  obtain ⟨k, hk, h1, h2, h3⟩ := I.env m
  rw [h1]
  have hw := H.wenv hc hj ho hL hn hm
  by_cases hkj : k ≤ j
  · refine (same_between (fun i => lk (stAt l es s0 i).env m) (fun i => ∃ opi, l[i]? = some opi ∧ opi.dst = some m) (fun i hi => H.env_step m i (fun op ho hd => hi ⟨op, ho, hd⟩)) hkj (fun i hi1 hi2 ⟨opi, ho, hd⟩ => ?_)).symm
    have := h3 i opi hi1 ho hd
    rw [(hw i opi ho hd).1 hi2] at this; cases this
  · refine same_between (fun i => lk (stAt l es s0 i).env m) (fun i => ∃ opi, l[i]? = some opi ∧ opi.dst = some m) (fun i hi => H.env_step m i (fun op ho hd => hi ⟨op, ho, hd⟩)) (by omega) (fun i hi1 hi2 ⟨opi, ho, hd⟩ => ?_)
    have := h2 i opi hi2 ho hd
    by_cases hij : i = j
    · subst hij; rw [hL] at this; cases this
    · rw [(hw i opi ho hd).2 (by omega)] at this; cases this

theorem Sch.wheap (H : Sch P ops N l es s0 s1 bef) {L : Nat → Bool} (hc : Clo ops L) {j : Nat} {op : AOp} {e : EN} {o : Oper} (hj : l[j]? = some op) (he : es[j]? = some e) (ho : ops[j]? = some o) (hL : L j = false) (hn : ∀ k ∈ needs o, L k = true)
    {id : Nat} (hm : id ∈ (teOf op e).pre ∨ id ∈ (teOf op e).us) (i : Nat) (opi : AOp) (ei : EN) (hi : l[i]? = some opi) (hei : es[i]? = some ei) (hd : id ∈ (teOf opi ei).us) : (i < j → L i = true) ∧ (j < i → L i = false) := by
  have hlen := H.tr.length
  refine ⟨fun hij => ?_, fun hji => ?_⟩
  · rcases H.ok i j opi op _ e hij hi hj hei he with h | h
    · exact H.bef_listed hc j o ho hn i h
    · exfalso
      simp only [apartT, Bool.and_eq_true] at h
      rcases hm with hm | hm
      · exact disj_not h.1.1.2 hd hm
      · exact disj_not h.1.2 hd hm
  · cases hLi : L i with
    | false => rfl
    | true =>
      exfalso
      rcases H.ok j i op opi e _ hji hj hi he hei with h | h
      · have hil : i < es.length := (List.getElem?_eq_some_iff.1 hei).1
        have hoi := Array.getElem?_eq_getElem (xs := ops) (i := i) (by rw [H.size, ← hlen]; exact hil)
        have := H.bef_listed hc i _ hoi (hc i _ hoi hLi) j h
        rw [hL] at this; cases this
      · simp only [apartT, Bool.and_eq_true] at h
        rcases hm with hm | hm
        · exact disj_not h.2 hd hm
        · exact disj_not h.1.2 hm hd

theorem Sch.read_heap (H : Sch P ops N l es s0 s1 bef) {L : Nat → Bool} (hc : Clo ops L) {en : Nat → SV} {hp : Hp} (I : Inv l es s0 L en hp) {j : Nat} {op : AOp} {e : EN} {o : Oper} (hj : l[j]? = some op) (he : es[j]? = some e) (ho : ops[j]? = some o) (hL : L j = false) (hn : ∀ k ∈ needs o, L k = true)
    {id : Nat} (hm : id ∈ (teOf op e).pre ∨ id ∈ (teOf op e).us) : hp id = hget (stAt l es s0 j).h id := by
  obtain ⟨k, hk, h1, h2, h3⟩ := I.heap id
  rw [h1]
  have hw := H.wheap hc hj he ho hL hn hm
  by_cases hkj : k ≤ j
  · refine (same_between (fun i => hget (stAt l es s0 i).h id) (fun i => ∃ opi ei, l[i]? = some opi ∧ es[i]? = some ei ∧ id ∈ (teOf opi ei).us) (fun i hi => H.heap_step id i (fun op e ho he hd => hi ⟨op, e, ho, he, hd⟩)) hkj (fun i hi1 hi2 ⟨opi, ei, ho, hei, hd⟩ => ?_)).symm
    have := h3 i opi ei hi1 ho hei hd
    rw [(hw i opi ei ho hei hd).1 hi2] at this; cases this
  · refine same_between (fun i => hget (stAt l es s0 i).h id) (fun i => ∃ opi ei, l[i]? = some opi ∧ es[i]? = some ei ∧ id ∈ (teOf opi ei).us) (fun i hi => H.heap_step id i (fun op e ho he hd => hi ⟨op, e, ho, he, hd⟩)) (by omega) (fun i hi1 hi2 ⟨opi, ei, ho, hei, hd⟩ => ?_)
    have := h2 i opi ei hi2 ho hei hd
    by_cases hij : i = j
    · subst hij; rw [hL] at this; cases this
    · rw [(hw i opi ei ho hei hd).2 (by omega)] at this; cases this

def setL (L : Nat → Bool) (j : Nat) : Nat → Bool := fun i => if i = j then true else L i

theorem Sch.inv_step (H : Sch P ops N l es s0 s1 bef) {L : Nat → Bool} (hc : Clo ops L) {en : Nat → SV} {hp : Hp} (I : Inv l es s0 L en hp) {j : Nat} {op : AOp} {e : EN} {o : Oper} (hj : l[j]? = some op) (he : es[j]? = some e) (ho : ops[j]? = some o) (hL : L j = false) (hn : ∀ k ∈ needs o, L k = true)
    {en' : Nat → SV} {hp' : Hp} (h1 : ∀ m, op.dst = some m → en' m = lk (stAt l es s0 (j + 1)).env m) (h2 : ∀ m, op.dst ≠ some m → en' m = en m) (h3 : ∀ id, id ∈ (teOf op e).us → hp' id = hget (stAt l es s0 (j + 1)).h id) (h4 : ∀ id, id ∉ (teOf op e).us → hp' id = hp id) :
    Inv l es s0 (setL L j) en' hp' := by
  have hjl := (List.getElem?_eq_some_iff.1 hj).1
  have up1 : ∀ i, L i = true → setL L j i = true := fun i h => by unfold setL; split <;> simp [h]
  refine ⟨fun m => ?_, fun id => ?_⟩
  · by_cases hm : op.dst = some m
    · have hw := H.wenv hc hj ho hL hn (.inr hm)
      refine ⟨j + 1, by omega, h1 m hm, fun i opi hi ho hd => ?_, fun i opi hi ho hd => ?_⟩
      · by_cases hij : i = j
        · subst hij; simp [setL]
        · exact up1 i ((hw i opi ho hd).1 (by omega))
      · unfold setL
        rw [if_neg (by omega)]
        exact (hw i opi ho hd).2 (by omega)
    · obtain ⟨k, g1, g2, g3, g4⟩ := I.env m
      refine ⟨k, g1, (h2 m hm).trans g2, fun i opi hi ho hd => up1 i (g3 i opi hi ho hd), fun i opi hi hoi hd => ?_⟩
      unfold setL
      by_cases hij : i = j
      · subst hij; rw [hj] at hoi; cases hoi; exact absurd hd hm
      · rw [if_neg hij]; exact g4 i opi hi hoi hd
  · by_cases hm : id ∈ (teOf op e).us
    · have hw := H.wheap hc hj he ho hL hn (.inr hm)
      refine ⟨j + 1, by omega, h3 id hm, fun i opi ei hi ho hei hd => ?_, fun i opi ei hi ho hei hd => ?_⟩
      · by_cases hij : i = j
        · subst hij; simp [setL]
        · exact up1 i ((hw i opi ei ho hei hd).1 (by omega))
      · unfold setL
        rw [if_neg (by omega)]
        exact (hw i opi ei ho hei hd).2 (by omega)
    · obtain ⟨k, g1, g2, g3, g4⟩ := I.heap id
      refine ⟨k, g1, (h4 id hm).trans g2, fun i opi ei hi ho hei hd => up1 i (g3 i opi ei hi ho hei hd), fun i opi ei hi hoi hei hd => ?_⟩
      unfold setL
      by_cases hij : i = j
      · subst hij; rw [hj] at hoi; cases hoi; rw [he] at hei; cases hei; exact absurd hd hm
      · rw [if_neg hij]; exact g4 i opi ei hi hoi hei hd

theorem Sch.inv_last (H : Sch P ops N l es s0 s1 bef) {L : Nat → Bool} {en : Nat → SV} {hp : Hp} (I : Inv l es s0 L en hp) (hall : ∀ i, i < l.length → L i = true) : en = lk s1.env ∧ hp = hget s1.h := by
  have hlast := H.tr.last
  refine ⟨funext fun m => ?_, funext fun id => ?_⟩
  · obtain ⟨k, g1, g2, g3, g4⟩ := I.env m
    rw [g2, ← hlast]
    refine (same_between (fun i => lk (stAt l es s0 i).env m) (fun i => ∃ opi, l[i]? = some opi ∧ opi.dst = some m) (fun i hi => H.env_step m i (fun op ho hd => hi ⟨op, ho, hd⟩)) g1 (fun i hi1 hi2 ⟨opi, ho, hd⟩ => ?_)).symm
    have := g4 i opi hi1 ho hd
    rw [hall i hi2] at this; cases this
  · obtain ⟨k, g1, g2, g3, g4⟩ := I.heap id
    rw [g2, ← hlast]
    refine (same_between (fun i => hget (stAt l es s0 i).h id) (fun i => ∃ opi ei, l[i]? = some opi ∧ es[i]? = some ei ∧ id ∈ (teOf opi ei).us) (fun i hi => H.heap_step id i (fun op e ho he hd => hi ⟨op, e, ho, he, hd⟩)) g1 (fun i hi1 hi2 ⟨opi, ei, ho, hei, hd⟩ => ?_)).symm
    have := g4 i opi ei hi1 ho hei hd
    rw [hall i hi2] at this; cases this

def Lf (listed : Array Bool) (i : Nat) : Bool := listed.getD i false

theorem ready_mem {listed : Array Bool} (hs : listed.size = ops.size) {i : Nat} : i ∈ Region.ready .any ops listed ↔ i < ops.size ∧ Lf listed i = false ∧ ∀ o, ops[i]? = some o → ∀ k ∈ needs o, Lf listed k = true := by
  unfold Region.ready
  rw [List.mem_filter, List.mem_range]
  constructor
  · rintro ⟨h1, h2⟩
    simp only [Bool.and_eq_true, Bool.not_eq_true'] at h2
    refine ⟨h1, ?_, fun o ho k hk => ?_⟩
    · have := h2.1
      simp only [Lf, Array.getD_eq_getD_getElem?] at this ⊢
      cases hx : listed[i]? with
      | none => simp [hx] at this
      | some x => simp [hx] at this ⊢; exact this
    · have h3 := h2.2
      rw [ho] at h3
      simp only [Option.map_some, Option.getD_some, Array.all_eq_true'] at h3
      unfold needs at hk
      obtain ⟨e, he, rfl⟩ := List.mem_map.1 hk
      obtain ⟨he1, he2⟩ := List.mem_filter.1 he
      have := h3 e (by simpa using he1)
      simp [he2] at this
      simpa [Lf] using this
  · rintro ⟨h1, h2, h3⟩
    refine ⟨h1, ?_⟩
    have ho := Array.getElem?_eq_getElem h1
    simp only [Bool.and_eq_true, Bool.not_eq_true']
    refine ⟨?_, ?_⟩
    · simp only [Lf, Array.getD_eq_getD_getElem?] at h2 ⊢
      have hx := Array.getElem?_eq_getElem (xs := listed) (i := i) (by omega)
      rw [hx] at h2 ⊢
      exact h2
    · rw [ho]
      simp only [Option.map_some, Option.getD_some, Array.all_eq_true']
      intro e he
      cases hb : Region.binds .any e with
      | false => simp
      | true =>
        have := h3 _ ho e.on (List.mem_map.2 ⟨e, List.mem_filter.2 ⟨by simpa using he, hb⟩, rfl⟩)
        simpa [Lf] using this

theorem mem_rdsX {xs : List XO} {n : Nat} (h : XO.t n ∈ xs) : n ∈ rdsX xs := by
  induction xs with
  | nil => simp at h
  | cons x r ih =>
    rcases List.mem_cons.1 h with rfl | h'
    · simp [rdsX]
    · cases x with
      | t m => simp [rdsX, ih h']
      | c s => exact ih h'

theorem evX_same {en en' : Nat → SV} {xs : List XO} (h : ∀ n, n ∈ rdsX xs → en n = en' n) : xs.map (evX en) = xs.map (evX en') := by
  refine List.map_congr_left (fun x hx => ?_)
  cases x with
  | t n => exact h n (mem_rdsX hx)
  | c s => rfl

theorem gOK_same {en en' : Nat → SV} {op : AOp} (h : ∀ n, n ∈ rdsOf op → en n = en' n) : gOK en op.guard = gOK en' op.guard := by
  cases hg : op.guard with
  | none => rfl
  | some q =>
    obtain ⟨d, b⟩ := q
    simp only [gOK]
    rw [h d (by simp [rdsOf, hg])]

theorem sch_any (H : Sch P ops N l es s0 s1 bef) {C : Ctx} (hN : C.N = N) {n0 : Nat} (hn0 : n0 ≤ s0.h.length) (hh0 : ∀ id, n0 ≤ id → C.h0 id = none) {Q : Exit → Act → World → Prop} (hQ : ∀ a w rho, RepF C (lk s1.env) (hget s1.h) a w rho → Q .normal a w) :
    ∀ (fuel : Nat) (listed : Array Bool) (en : Nat → SV) (hp : Hp) (a : Act) (w : World) (rho : Nat → Option Nat), listed.size = ops.size → cnt (Lf listed) l.length ≤ fuel → Clo ops (Lf listed) → Inv l es s0 (Lf listed) en hp → RepF C en hp a w rho →
      wpAny P .any ops Q fuel listed a w := by
  have hall_ready : ∀ listed : Array Bool, listed.size = ops.size → Region.ready .any ops listed = [] → ∀ i, i < l.length → Lf listed i = true := fun listed hs hr i => by
    induction i using Nat.strongRecOn with
    | _ i ih =>
      intro hi
      cases hL : Lf listed i with
      | true => rfl
      | false =>
        have : i ∈ Region.ready .any ops listed := (ready_mem hs).2 ⟨by rw [H.size]; exact hi, hL, fun o ho k hk => ih k (H.back i o ho k hk) (by have := H.back i o ho k hk; omega)⟩
        rw [hr] at this; cases this
  have hfin : ∀ (listed : Array Bool) (en : Nat → SV) (hp : Hp) (a : Act) (w : World) (rho : Nat → Option Nat), (∀ i, i < l.length → Lf listed i = true) → Inv l es s0 (Lf listed) en hp → RepF C en hp a w rho → Q .normal a w := fun listed en hp a w rho hall I R => by
    obtain ⟨rfl, rfl⟩ := H.inv_last I hall
    exact hQ a w rho R
  intro fuel
  induction fuel with
  | zero =>
    intro listed en hp a w rho hs hcnt hc I R
    have hall := cnt_zero (Nat.le_zero.1 hcnt)
    refine ⟨?_, hfin listed en hp a w rho hall I R⟩
    cases hr : Region.ready .any ops listed with
    | nil => rfl
    | cons i r =>
      have hm : i ∈ Region.ready .any ops listed := by rw [hr]; simp
      obtain ⟨h1, h2, _⟩ := (ready_mem hs).1 hm
      rw [hall i (by rw [← H.size]; exact h1)] at h2; cases h2
  | succ fuel ih =>
    intro listed en hp a w rho hs hcnt hc I R
    refine ⟨fun hr => hfin listed en hp a w rho (hall_ready listed hs hr) I R, fun j hj => ?_⟩
    obtain ⟨hj1, hL, hn⟩ := (ready_mem hs).1 hj
    have hjl : j < l.length := by rw [← H.size]; exact hj1
    have hop := List.getElem?_eq_getElem hjl
    obtain ⟨o, ho, hco⟩ := H.comp j _ hop
    obtain ⟨e, he, hst, htr⟩ := H.tr.at_ j _ hop
    obtain ⟨xs0, hc1, hc2, hc3, hc4⟩ := compOper_op hco
    have hn' := hn o ho
    have hrd : ∀ m, m ∈ rdsOf l[j] → en m = lk (stAt l es s0 j).env m := fun m hm => H.read_env hc I hop ho hL hn' (.inl hm)
    have hgs := gOK_same hrd
    have hLf : Lf (listed.setIfInBounds j true) = setL (Lf listed) j := by
      funext i
      simp only [Lf, setL, Array.getD_eq_getD_getElem?, Array.getElem?_setIfInBounds]
      by_cases hij : j = i
      · subst hij; simp [hs, hj1]
      · rw [if_neg hij, if_neg (Ne.symm hij)]
    have hcnt' : cnt (Lf (listed.setIfInBounds j true)) l.length ≤ fuel := by
      rw [hLf]
      have := cnt_set (L := Lf listed) (L' := setL (Lf listed) j) hL (by simp [setL]) (fun i hi => by simp [setL, hi]) hjl
      omega
    have hc' : Clo ops (Lf (listed.setIfInBounds j true)) := by
      rw [hLf]
      intro i oi hoi hi k hk
      unfold setL at hi ⊢
      by_cases hij : i = j
      · subst hij
        rw [ho] at hoi; cases hoi
        split
        · rfl
        · exact hn' k hk
      · rw [if_neg hij] at hi
        split
        · rfl
        · exact hc i oi hoi hi k hk
    unfold wpOp
    rw [ho]
    simp only
    cases e with
    | skip =>
      have hg : gOK en l[j].guard = some false := by rw [hgs]; exact htr
      have hw := gOK_wanted R hco hg
      rw [if_neg (by rw [hw]; simp)]
      have hdst : ∀ m, l[j].dst = some m → m < C.N := fun m hm => by rw [hN]; exact hc4 m hm
      have R' : RepF C (match l[j].dst with | some d => up en d (.tup []) | none => en) hp (a.put o.dst undef) w rho := by
        rw [hc3]
        cases hd : l[j].dst with
        | none => exact R
        | some d => exact R.put (hdst d hd) rp_undef
      refine ih _ _ _ _ _ _ (by simpa using hs) hcnt' hc' ?_ R'
      rw [hLf]
      refine H.inv_step hc I hop he ho hL hn' (fun m hm => ?_) (fun m hm => ?_) (fun id hid => by simp [teOf] at hid) (fun id _ => rfl)
      · rw [hst]
        show _ = lk (putE l[j].dst (.tup []) (stAt l es s0 j).env) m
        rw [hm]; simp only [putE, lk_put, up_same]
      · cases hd : l[j].dst with
        | none => rfl
        | some d => rw [hd] at hm; exact up_other _ _ (fun e => hm (by rw [e]))
    | run args pre us sv =>
      obtain ⟨t1, t2, t3, t4, t5⟩ := htr
      have hg : gOK en l[j].guard = some true := by rw [hgs]; exact t1
      have hw := gOK_wanted R hco hg
      rw [if_pos hw]
      left
      have hrdx : ∀ m, m ∈ rdsX l[j].xs → en m = lk (stAt l es s0 j).env m := fun m hm => hrd m (by
        unfold rdsOf
        cases l[j].guard with
        | none => exact hm
        | some q => exact List.mem_cons_of_mem _ hm)
      have hargs : args = l[j].xs.map (evX en) := by rw [t2]; exact (evX_same hrdx).symm
      have hpre : ∀ id, id ∈ pre.map (·.1) → hp id = hget (stAt l es s0 j).h id := fun id hid => H.read_heap hc I hop he ho hL hn' (.inl hid)
      have hus : ∀ id, id ∈ us.map (·.1) → hp id = hget (stAt l es s0 j).h id := fun id hid => H.read_heap hc I hop he ho hL hn' (.inr hid)
      have hslen := stAt_len P ops H.tr j (by omega)
      have hnew : NewOK C hp pre us := by
        have gen : ∀ {us : List (Nat × HB)} {h : List (Option HB)}, (stAt l es s0 j).h.length ≤ h.length → okU pre h us → ∀ q ∈ us, (∃ hb, (q.1, hb) ∈ pre) ∨ (stAt l es s0 j).h.length ≤ q.1 := by
          intro us
          induction us with
          | nil => intro h _ _ q hq; simp at hq
          | cons p r ihu =>
            intro h hl hk q hq
            rcases List.mem_cons.1 hq with rfl | hq
            · rcases hk.1 with h1 | ⟨_, h1⟩
              · exact .inr (by omega)
              · exact .inl h1
            · exact ihu (h := uph h p) (by have := uph_length h p; omega) hk.2 q hq
        intro q hq
        rcases gen (Nat.le_refl _) t5 q hq with h | h
        · exact .inl h
        · refine .inr ⟨?_, hh0 _ (by omega)⟩
          rw [hus q.1 (List.mem_map.2 ⟨q, hq, rfl⟩)]
          unfold hget
          rw [List.getElem?_eq_none (by omega)]
      refine t3 o (by simpa using ho) C hp w rho a _ _ _ _ hc1 (fun q hq => ?_) hnew R.mem (by rw [hargs]; exact args_of R hc2) (fun v w' rho' hS hR => ?_)
      · rw [hpre q.1 (List.mem_map.2 ⟨q, hq, rfl⟩)]; exact t4 q hq
      · have hdst : ∀ m, l[j].dst = some m → m < C.N := fun m hm => by rw [hN]; exact hc4 m hm
        have R' : RepF C (match l[j].dst with | some d => up en d sv | none => en) (upl hp us) (a.put o.dst v) w' rho' := by
          rw [hc3]
          have RS := R.step hS
          cases hd : l[j].dst with
          | none => exact RS
          | some d => exact RS.put (hdst d hd) hR
        refine ih _ _ _ _ _ _ (by simpa using hs) hcnt' hc' ?_ R'
        rw [hLf]
        refine H.inv_step hc I hop he ho hL hn' (fun m hm => ?_) (fun m hm => ?_) (fun id hid => ?_) (fun id hid => ?_)
        · rw [hst]
          show _ = lk (putE l[j].dst sv (stAt l es s0 j).env) m
          rw [hm]; simp only [putE, lk_put, up_same]
        · cases hd : l[j].dst with
          | none => rfl
          | some d => rw [hd] at hm; exact up_other _ _ (fun e => hm (by rw [e]))
        · rw [hst]
          show _ = hget (uphL (stAt l es s0 j).h us) id
          rw [(hget_uphL t5).1]
          exact upl_mem hid
        · exact upl_not (fun q hq he => hid (List.mem_map.2 ⟨q, hq, he⟩))
end
end Go.Eng

/- Regions that draw their order, evaluated in the order of the text, with a check that what is unordered is apart. -/
namespace Go.Eng
open Go

/-- For each operation, as bits, those that must have come up ahead, through others too. -/
def befL : List Oper → List Nat → List Nat
  | [], acc => acc
  | o :: r, acc => befL r (acc ++ [(needs o).foldl (fun m k => m ||| 2 ^ k ||| acc.getD k 0) 0])

theorem fold_bits (acc : List Nat) (k : Nat) : ∀ (l : List Nat) (m : Nat), (l.foldl (fun m k => m ||| 2 ^ k ||| acc.getD k 0) m).testBit k = true → m.testBit k = true ∨ k ∈ l ∨ ∃ x ∈ l, (acc.getD x 0).testBit k = true
  | [], m, h => .inl h
  | x :: l, m, h => by
    rw [List.foldl_cons] at h
    rcases fold_bits acc k l _ h with h | h | ⟨y, hy, h⟩
    · rw [Nat.testBit_or, Nat.testBit_or, Nat.testBit_two_pow] at h
      simp only [Bool.or_eq_true, decide_eq_true_eq] at h
      rcases h with (h | h) | h
      · exact .inl h
      · exact .inr (.inl (by simp [h]))
      · exact .inr (.inr ⟨x, by simp, h⟩)
    · exact .inr (.inl (by simp [h]))
    · exact .inr (.inr ⟨y, by simp [hy], h⟩)

theorem befL_pre : ∀ (ops : List Oper) (acc : List Nat) (x : Nat), x < acc.length → (befL ops acc).getD x 0 = acc.getD x 0
  | [], acc, x, _ => rfl
  | o :: r, acc, x, h => by
    unfold befL
    rw [befL_pre r _ x (by simp; omega)]
    simp only [List.getD_eq_getElem?_getD, List.getElem?_append_left h]

theorem befL_at : ∀ (ops : List Oper) (acc : List Nat) (i : Nat) (o : Oper), ops[i]? = some o → ∀ k, ((befL ops acc).getD (acc.length + i) 0).testBit k = true → k ∈ needs o ∨ ∃ x ∈ needs o, ((befL ops acc).getD x 0).testBit k = true
  | [], acc, i, o, h, k, _ => by simp at h
  | p :: r, acc, i, o, h, k, hk => by
    cases i with
    | zero =>
      simp only [List.getElem?_cons_zero, Option.some.injEq] at h
      subst h
      unfold befL at hk ⊢
      rw [befL_pre r _ _ (by simp)] at hk
      simp only [Nat.add_zero, List.getD_eq_getElem?_getD, List.getElem?_concat_length, Option.getD_some] at hk
      rcases fold_bits acc k (needs p) 0 (by simpa [List.getD_eq_getElem?_getD] using hk) with hk | hk | ⟨x, hx, hk⟩
      · simp at hk
      · exact .inl hk
      · refine .inr ⟨x, hx, ?_⟩
        have hl : x < acc.length := by
          by_cases hl : x < acc.length
          · exact hl
          · rw [List.getD_eq_getElem?_getD, List.getElem?_eq_none (by omega)] at hk; simp at hk
        rw [befL_pre r _ x (by simp; omega)]
        simp only [List.getD_eq_getElem?_getD, List.getElem?_append_left hl]
        simpa [List.getD_eq_getElem?_getD] using hk
    | succ i =>
      unfold befL at hk ⊢
      refine befL_at r _ i o (by simpa using h) k ?_
      have : (acc ++ [(needs p).foldl (fun m k => m ||| 2 ^ k ||| acc.getD k 0) 0]).length + i = acc.length + (i + 1) := by simp; omega
      rw [this]; exact hk

/-- Each two are ordered or apart. -/
def compatB1 (bef : List Nat) (i : Nat) (x : TE) : Nat → List TE → Bool
  | _, [] => true
  | j, y :: r => ((bef.getD j 0).testBit i || apartT x y) && compatB1 bef i x (j + 1) r

def compatB (bef : List Nat) : Nat → List TE → Bool
  | _, [] => true
  | i, x :: r => compatB1 bef i x (i + 1) r && compatB bef (i + 1) r

theorem compatB1_get {bef : List Nat} {i : Nat} {x : TE} : ∀ {l : List TE} {j : Nat}, compatB1 bef i x j l = true → ∀ (k : Nat) (y : TE), l[k]? = some y → (bef.getD (j + k) 0).testBit i = true ∨ apartT x y = true
  | [], j, _, k, y, h => by simp at h
  | z :: r, j, hc, k, y, h => by
    simp only [compatB1, Bool.and_eq_true, Bool.or_eq_true] at hc
    cases k with
    | zero => simp at h; subst h; exact hc.1
    | succ k =>
      have := compatB1_get hc.2 k y (by simpa using h)
      rwa [show j + 1 + k = j + (k + 1) by omega] at this

theorem compatB_get {bef : List Nat} : ∀ {l : List TE} {i : Nat}, compatB bef i l = true → ∀ (a b : Nat) (x y : TE), a < b → l[a]? = some x → l[b]? = some y → (bef.getD (i + b) 0).testBit (i + a) = true ∨ apartT x y = true
  | [], i, _, a, b, x, y, _, h, _ => by simp at h
  | z :: r, i, hc, a, b, x, y, hab, hx, hy => by
    simp only [compatB, Bool.and_eq_true] at hc
    cases b with
    | zero => omega
    | succ b =>
      simp only [List.getElem?_cons_succ] at hy
      cases a with
      | zero =>
        simp at hx; subst hx
        have := compatB1_get hc.1 b y hy
        rwa [show i + 1 + b = i + (b + 1) by omega] at this
      | succ a =>
        simp only [List.getElem?_cons_succ] at hx
        have := compatB_get hc.2 a b x y (by omega) hx hy
        rwa [show i + 1 + b = i + (b + 1) by omega, show i + 1 + a = i + (a + 1) by omega] at this

/-- The bits as lists. -/
def befLists (n : Nat) (bef : List Nat) : List (List Nat) := bef.map fun m => (List.range n).filter fun k => m.testBit k

theorem mem_befLists {n : Nat} {bef : List Nat} {i k : Nat} : k ∈ (befLists n bef).getD i [] ↔ k < n ∧ (bef.getD i 0).testBit k = true := by
  unfold befLists
  rw [List.getD_eq_getElem?_getD, List.getElem?_map, List.getD_eq_getElem?_getD]
  cases h : bef[i]? with
  | none => simp
  | some m => simp

def backOk : Nat → List Oper → Bool
  | _, [] => true
  | i, o :: r => (needs o).all (· < i) && backOk (i + 1) r

theorem backOk_get : ∀ {ops : List Oper} {i : Nat}, backOk i ops = true → ∀ (j : Nat) (o : Oper), ops[j]? = some o → ∀ k ∈ needs o, k < i + j
  | [], i, _, j, o, h, _, _ => by simp at h
  | p :: r, i, hb, j, o, h, k, hk => by
    simp only [backOk, Bool.and_eq_true, List.all_eq_true, decide_eq_true_eq] at hb
    cases j with
    | zero => simp at h; subst h; exact hb.1 k hk
    | succ j => have := backOk_get hb.2 j o (by simpa using h) k hk; omega

def uIds : Option (Nat × HB) → List Nat
  | none => []
  | some q => [q.1]

def CallD (P : Program) (f : FuncId) (args : List SV) (h : List (Option HB)) (K : SV → List (Option HB) → List Nat → List Nat → Prop) : Prop :=
  ∃ pre us sv, CallR P f args pre us sv ∧ PreOK (hget h) pre ∧ okU pre h us ∧ K sv (uphL h us) (pre.map (·.1)) (us.map (·.1))

def callvD (P : Program) (h : List (Option HB)) (K : SV → List (Option HB) → List Nat → List Nat → Prop) : List SV → Prop
  | .fn f caps :: args => CallD P f (args ++ caps) h K
  | _ => False

def invD (P : Program) (name : String) (h : List (Option HB)) (K : SV → List (Option HB) → List Nat → List Nat → Prop) : List SV → Prop
  | s :: args => match ifcOf s with
    | some (t, x) => match invF P t name with
      | some (f, none) => CallD P f (x :: args) h K
      | some (f, some (n, agg)) => match loadE n agg (hget h) x with
        | some (p, y, _, rd) => p ∧ CallD P f (y :: args) h fun sv h' pre us => K sv h' (rd ++ pre) us
        | none => False
      | none => False
    | none => False
  | _ => False

def plainD (h : List (Option HB)) (K : SV → List (Option HB) → List Nat → List Nat → Prop) : XR → Prop
  | some (p, sv, u, rd) => p ∧ K sv (uphO h u) rd (uIds u)
  | none => False

def opD (P : Program) (ao : AO) (args : List SV) (h : List (Option HB)) (K : SV → List (Option HB) → List Nat → List Nat → Prop) : Prop :=
  match ao with
  | .call f => CallD P f args h K
  | .callv => callvD P h K args
  | .inv name => invD P name h K args
  | ao => plainD h K (opE ao args (hget h) h.length)

def RD (P : Program) (bef : List Nat) (K : St → Prop) : List AOp → List TE → St → Prop
  | [], acc, s => compatB bef 0 acc = true ∧ K s
  | op :: r, acc, s => match gOK (lk s.env) op.guard with
    | some true => opD P op.ao (op.xs.map (evX (lk s.env))) s.h fun sv h' pre us => RD P bef K r (acc ++ [⟨rdsOf op, op.dst, pre, us⟩]) ⟨putE op.dst sv s.env, h'⟩
    | some false => RD P bef K r (acc ++ [⟨rdsOf op, op.dst, [], []⟩]) ⟨putE op.dst (.tup []) s.env, s.h⟩
    | none => False

theorem rd_ids {hp : Hp} : ∀ {rd : List Nat}, (∀ id ∈ rd, (hp id).isSome = true) → (rd.filterMap fun id => (hp id).map fun hb => (id, hb)).map (·.1) = rd
  | [], _ => rfl
  | x :: r, h => by
    obtain ⟨hb, hx⟩ := Option.isSome_iff_exists.1 (h x (by simp))
    simp only [List.filterMap_cons, hx, Option.map_some, List.map_cons]
    rw [rd_ids (fun id hid => h id (by simp [hid]))]

theorem opD_opS {P : Program} {o : Oper} {ao : AO} {xs0 : List Operand} (hc : compOp P o.op = some (ao, xs0)) {args : List SV} {h : List (Option HB)} {K : SV → List (Option HB) → List Nat → List Nat → Prop} (hW : opD P ao args h K) :
    ∃ pre us sv, OpS P o args pre us sv ∧ PreOK (hget h) pre ∧ okU pre h us ∧ K sv (uphL h us) (pre.map (·.1)) (us.map (·.1)) := by
  unfold opD at hW
  split at hW
  · obtain ⟨pre, us, sv, h1, h2, h3, h4⟩ := hW
    exact ⟨pre, us, sv, opS_call hc h1, h2, h3, h4⟩
  · unfold callvD at hW
    split at hW
    · obtain ⟨pre, us, sv, h1, h2, h3, h4⟩ := hW
      exact ⟨pre, us, sv, opS_callv hc h1, h2, h3, h4⟩
    · exact hW.elim
  · unfold invD at hW
    split at hW
    · rename_i s args0
      split at hW
      · rename_i t x hi
        split at hW
        · rename_i f hf
          obtain ⟨pre, us, sv, h1, h2, h3, h4⟩ := hW
          exact ⟨pre, us, sv, opS_inv hc hi hf (y := x) (fun hp hP => rfl) (fun q hq => hq) h1 (fun C hp hn _ => hn), h2, h3, h4⟩
        · rename_i f n agg hf
          split at hW
          · rename_i p y u rd hE
            obtain ⟨hp', pre, us, sv, h1, h2, h3, h4⟩ := hW
            obtain ⟨g1, g2, g3⟩ := inv_load hc hi hf hE hp' h1 h2 h3
            refine ⟨_, us, sv, g1, g2, g3, ?_⟩
            rw [List.map_append]
            have : (rdPre h rd).map (·.1) = rd := rd_ids (fun id hid => loadE_rd hE id hid)
            rw [this]; exact h4
          · exact hW.elim
        · exact hW.elim
      · exact hW.elim
    · exact hW.elim
  · unfold plainD at hW
    split at hW
    · rename_i p sv u rd hE
      obtain ⟨hp, hK⟩ := hW
      have hnx : hget h h.length = none := by unfold hget; rw [List.getElem?_eq_none (Nat.le_refl _)]
      have ur := opE_ur hE
      refine ⟨_, uList u, sv, opS_plain hc hE hp hnx, fun q hq => ?_, ?_, ?_⟩
      · obtain ⟨id, _, hid⟩ := List.mem_filterMap.1 hq
        cases hq' : hget h id with
        | none => simp [hq'] at hid
        | some hb => simp [hq'] at hid; subst hid; exact hq'
      · cases u with
        | none => trivial
        | some q =>
          refine ⟨?_, trivial⟩
          rcases ur.1 q rfl with h1 | h1
          · exact .inl h1
          · right
            have hs := ur.2 _ h1
            obtain ⟨hb, hhb⟩ := Option.isSome_iff_exists.1 hs
            refine ⟨?_, hb, List.mem_filterMap.2 ⟨q.1, h1, by simp [hhb]⟩⟩
            unfold hget at hhb
            cases hl : h[q.1]? with
            | none => simp [hl] at hhb
            | some x => exact (List.getElem?_eq_some_iff.1 hl).1
      · have := rd_ids (hp := hget h) (rd := rd) (fun id hid => ur.2 id hid)
        rw [this]
        cases u with
        | none => exact hK
        | some q => exact hK
    · exact hW.elim

def teL : List AOp → List EN → List TE
  | op :: l, e :: es => teOf op e :: teL l es
  | _, _ => []

theorem teL_get : ∀ {l : List AOp} {es : List EN} {a : Nat} {op : AOp} {e : EN}, l[a]? = some op → es[a]? = some e → (teL l es)[a]? = some (teOf op e)
  | [], es, a, op, e, h, _ => by simp at h
  | _ :: _, [], a, op, e, _, h => by simp at h
  | p :: l, q :: es, a, op, e, h1, h2 => by
    cases a with
    | zero => simp at h1 h2; subst h1; subst h2; rfl
    | succ a => simp only [teL, List.getElem?_cons_succ] at h1 h2 ⊢; exact teL_get h1 h2

theorem rd_tr {P : Program} {ops : Array Oper} {N : Nat} {bef : List Nat} {K : St → Prop} : ∀ (l : List AOp) (i : Nat) (acc : List TE) (s : St), (∀ (j : Nat) (op : AOp), l[j]? = some op → ∃ o, ops[i + j]? = some o ∧ compOper P ops N o = some op) → RD P bef K l acc s →
    ∃ es s', Tr P ops i l s es s' ∧ compatB bef 0 (acc ++ teL l es) = true ∧ K s'
  | [], i, acc, s, _, h => ⟨[], s, rfl, by simpa [teL] using h.1, h.2⟩
  | op :: l, i, acc, s, hc, h => by
    have hc' : ∀ (j : Nat) (op : AOp), l[j]? = some op → ∃ o, ops[i + 1 + j]? = some o ∧ compOper P ops N o = some op := fun j op' hj => by
      have := hc (j + 1) op' (by simpa using hj)
      rwa [show i + (j + 1) = i + 1 + j by omega] at this
    obtain ⟨o, ho, hco⟩ := hc 0 op rfl
    rw [Nat.add_zero] at ho
    obtain ⟨xs0, hc1, hc2, hc3, hc4⟩ := compOper_op hco
    unfold RD at h
    split at h
    · rename_i hg
      obtain ⟨pre, us, sv, h1, h2, h3, h4⟩ := opD_opS hc1 h
      obtain ⟨es, s', g1, g2, g3⟩ := rd_tr l (i + 1) _ _ hc' h4
      refine ⟨.run (op.xs.map (evX (lk s.env))) pre us sv :: es, s', ⟨⟨hg, rfl, fun o' ho' => ?_, h2, h3⟩, g1⟩, ?_, g3⟩
      · rw [ho] at ho'; cases ho'; exact h1
      · simpa [teL, teOf] using g2
    · rename_i hg
      obtain ⟨es, s', g1, g2, g3⟩ := rd_tr l (i + 1) _ _ hc' h
      exact ⟨.skip :: es, s', ⟨hg, g1⟩, by simpa [teL, teOf] using g2, g3⟩
    · exact h.elim

theorem rd_sound {P : Program} {C : Ctx} {n0 : Nat} {ops : Array Oper} {K : St → Prop} {Q : Exit → Act → World → Prop} {l : List AOp} (hm : P.follows .mixedOrders = true) (hsz : ops.size = l.length) (hcomp : ∀ (j : Nat) (op : AOp), l[j]? = some op → ∃ o, ops[j]? = some o ∧ compOper P ops C.N o = some op)
    (hback : backOk 0 ops.toList = true) {s : St} {a : Act} {w : World} (h : RD P (befL ops.toList []) K l [] s) (R : RepS C n0 s a w) (hK : ∀ s a w, K s → RepS C n0 s a w → Q .normal a w) (id : Nat) : (Code.region id ops true).wp P Q a w := by
  refine wp_region_any hm ?_
  obtain ⟨es, s', h1, h2, h3⟩ := rd_tr l 0 [] s (fun j op hj => by rw [Nat.zero_add]; exact hcomp j op hj) h
  have H : Sch P ops C.N l es s s' (befLists l.length (befL ops.toList [])) := by
    refine ⟨h1, hsz, hcomp, fun i o ho k hk => ?_, fun i o ho k hk => ?_, fun x y opa opb ea eb hxy ha hb hea heb => ?_⟩
    · have := backOk_get hback i o (by simpa using ho) k hk; omega
    · obtain ⟨hkl, hk⟩ := mem_befLists.1 hk
      have := befL_at ops.toList [] i o (by simpa using ho) k (by simpa using hk)
      rcases this with g | ⟨x, hx, g⟩
      · exact ⟨needs o, fun x hx => hx, .inl g⟩
      · exact ⟨needs o, fun x hx => hx, .inr ⟨x, hx, mem_befLists.2 ⟨hkl, g⟩⟩⟩
    · have := compatB_get (bef := befL ops.toList []) (l := teL l es) (i := 0) (by simpa using h2) x y _ _ hxy (teL_get ha hea) (teL_get hb heb)
      rw [Nat.zero_add, Nat.zero_add] at this
      refine this.imp (fun h => mem_befLists.2 ⟨(List.getElem?_eq_some_iff.1 ha).1, h⟩) (fun h => h)
  have hlen := h1.length
  obtain ⟨rho, RF⟩ := R.rep
  have hst := stAt_len P ops h1 l.length (Nat.le_refl _)
  rw [h1.last] at hst
  have RF' : RepF C (lk s.env) (hget s.h) a { w with drawn := w.drawn + 1 } rho := RF.step (RF.mem.quiet (w' := { w with drawn := w.drawn + 1 }) rfl rfl rfl rfl)
  refine sch_any H rfl R.le0 R.h0 (fun a w rho RF => hK s' a w h3 ⟨⟨rho, RF⟩, Nat.le_trans R.le0 hst, R.h0⟩) ops.size _ (lk s.env) (hget s.h) a _ rho (by simp) ?_ ?_ ?_ RF'
  · rw [hsz]; exact cnt_le _ _
  · intro i o ho hL
    exfalso
    simp only [Lf, Array.getD_eq_getD_getElem?, Array.getElem?_replicate] at hL
    split at hL <;> simp at hL
  · have hf : ∀ i, Lf (Array.replicate ops.size false) i = false := fun i => by
      simp only [Lf, Array.getD_eq_getD_getElem?, Array.getElem?_replicate]
      split <;> simp
    refine ⟨fun m => ⟨0, by omega, ?_, fun i op hi => by omega, fun i op _ _ _ => hf i⟩, fun id => ⟨0, by omega, ?_, fun i op e hi => by omega, fun i op e _ _ _ _ => hf i⟩⟩
    · cases l <;> cases es <;> rfl
    · cases l <;> cases es <;> rfl
end Go.Eng

/- Code of functions, compiled and evaluated. -/
namespace Go.Eng
open Go

inductive AC where
  | skip
  | reg (ops : List AOp)
  | regd (bef : List Nat) (ops : List AOp)
  | seq (a b : AC)
  | cond (x : XO) (a b : AC)
  | block (id : Nat) (a : AC)
  | loop (a : AC)
  | exit (id : Nat)
  | ret
  | ent
  deriving Inhabited

/-- It may come to its end. -/
def AC.falls : AC → Bool
  | .seq a b => a.falls && b.falls
  | .cond _ a b => a.falls || b.falls
  | .loop _ | .exit _ | .ret => false
  | _ => true

def compOps (P : Program) (ops : Array Oper) (N : Nat) : List Oper → Option (List AOp)
  | [] => some []
  | o :: r => match compOper P ops N o, compOps P ops N r with
    | some x, some l => some (x :: l)
    | _, _ => none

theorem compOps_get {P : Program} {ops : Array Oper} {N : Nat} : ∀ {os : List Oper} {l : List AOp}, compOps P ops N os = some l → os.length = l.length ∧ ∀ (j : Nat) (op : AOp), l[j]? = some op → ∃ o, os[j]? = some o ∧ compOper P ops N o = some op
  | [], l, h => by cases h; exact ⟨rfl, fun j op hj => by simp at hj⟩
  | o :: r, l, h => by
    unfold compOps at h
    split at h
    · rename_i x l' hx hl
      cases h
      obtain ⟨g1, g2⟩ := compOps_get hl
      refine ⟨by simp [g1], fun j op hj => ?_⟩
      cases j with
      | zero => simp at hj; subst hj; exact ⟨o, rfl, hx⟩
      | succ j => simp only [List.getElem?_cons_succ] at hj ⊢; exact g2 j op hj
    · cases h

def comp (P : Program) (N : Nat) : Code → Option AC
  | .skip => some .skip
  | .region _ ops draw => match draw, compOps P ops N ops.toList with
    | false, some l => some (.reg l)
    | true, some l => if P.follows .mixedOrders && backOk 0 ops.toList then some (.regd (befL ops.toList []) l) else none
    | _, none => none
  | .seq a b => match comp P N a, comp P N b with
    | some x, some y => some (.seq x y)
    | _, _ => none
  | .cond c a b => match cvO c, comp P N a, comp P N b with
    | some q, some x, some y => if x.falls && y.falls then some (.seq (.cond q x y) .ent) else some (.cond q x y)
    | _, _, _ => none
  | .block id c => match comp P N c with
    | some x => some (.seq (.block id x) .ent)
    | none => none
  | .loop c => match comp P N c with
    | some x => some (.loop x)
    | none => none
  | .exit id => some (.exit id)
  | .ret => some .ret
  | _ => none

inductive Ex where
  | normal
  | exit (id : Nat)
  | ret

def Ex.toX : Ex → Exit
  | .normal => .normal
  | .exit id => .exit id
  | .ret => .ret

/-- One state says all that the other says. -/
def Ent (n0 : Nat) (s s' : St) : Prop := ∀ C a w, RepS C n0 s a w → RepS C n0 s' a w

def thenK (n : St → Prop) (K : Ex → St → Prop) : Ex → St → Prop
  | .normal, s => n s
  | .exit id, s => K (.exit id) s
  | .ret, s => K .ret s

def blockK (id : Nat) (K : Ex → St → Prop) : Ex → St → Prop
  | .normal, s => K .normal s
  | .exit j, s => if j = id then K .normal s else K (.exit j) s
  | .ret, s => K .ret s

def condW (T F : Prop) : SV → Prop
  | .rv (.bool t) => if t = true then T else F
  | _ => False

def W (P : Program) (n0 : Nat) : AC → (Ex → St → Prop) → St → Prop
  | .skip, K, s => K .normal s
  | .reg ops, K, s => RW P (K .normal) ops s
  | .regd bef ops, K, s => RD P bef (K .normal) ops [] s
  | .seq a b, K, s => W P n0 a (thenK (W P n0 b K) K) s
  | .cond x a b, K, s => condW (W P n0 a K s) (W P n0 b K s) (evX (lk s.env) x)
  | .block id a, K, s => W P n0 a (blockK id K) s
  | .loop a, K, s => ∃ (ι : Type) (σ : ι → St) (pr : ι → Prop) (μ : ι → Nat) (i0 : ι), pr i0 ∧ Ent n0 s (σ i0) ∧ ∀ i, pr i → W P n0 a (thenK (fun s' => ∃ i', pr i' ∧ μ i' < μ i ∧ Ent n0 s' (σ i')) K) (σ i)
  | .exit id, K, s => K (.exit id) s
  | .ret, K, s => K .ret s
  | .ent, K, s => ∃ s', Ent n0 s s' ∧ K .normal s'

theorem least {p : Nat → Prop} (h : ∃ m, p m) : ∃ m, p m ∧ ∀ k, p k → m ≤ k := by
  obtain ⟨m, hm⟩ := h
  induction m using Nat.strongRecOn with
  | _ m ih =>
    by_cases hl : ∃ k, p k ∧ k < m
    · obtain ⟨k, hk, hlt⟩ := hl
      exact ih k hlt hk
    · exact ⟨m, hm, fun k hk => by
        by_cases hlt : k < m
        · exact absurd ⟨k, hk, hlt⟩ hl
        · omega⟩

theorem ent_post {P : Program} {n0 : Nat} {C : Ctx} {K : Ex → St → Prop} {Q : Exit → Act → World → Prop} (hq : ∀ e s a w, K e s → RepS C n0 s a w → Q e.toX a w) :
    ∀ e s a w, thenK (W P n0 .ent K) K e s → RepS C n0 s a w → Q e.toX a w
  | .normal, s, a, w, ⟨s', h1, h2⟩, R => hq .normal s' a w h2 (h1 C a w R)
  | .exit id, s, a, w, hk, R => hq (.exit id) s a w hk R
  | .ret, s, a, w, hk, R => hq .ret s a w hk R

theorem w_sound {P : Program} {n0 : Nat} {C : Ctx} : ∀ (c : Code) (ac : AC) (K : Ex → St → Prop) (Q : Exit → Act → World → Prop) (s : St) (a : Act) (w : World), comp P C.N c = some ac → W P n0 ac K s → RepS C n0 s a w → (∀ e s a w, K e s → RepS C n0 s a w → Q e.toX a w) → c.wp P Q a w := by
  intro c
  induction c with
  | skip => intro ac K Q s a w hc hw R hq; cases hc; exact wp_skip (hq _ _ _ _ hw R)
  | region id ops draw =>
    intro ac K Q s a w hc hw R hq
    unfold comp at hc
    split at hc
    · rename_i l hl
      cases hc
      obtain ⟨g1, g2⟩ := compOps_get hl
      refine wp_region (rw_sound (C := C) (n0 := n0) (fun s a w hk R => hq .normal s a w hk R) l _ s a w (by simpa using g1) (fun j i op hi hj => ?_) hw R)
      obtain ⟨o, ho, hco⟩ := g2 j op hj
      have hlt : j < ops.size := by
        have := (List.getElem?_eq_some_iff.1 hj).1
        have e : ops.toList.length = ops.size := by simp
        omega
      rw [List.getElem?_range hlt] at hi
      cases hi
      exact ⟨o, by simpa using ho, hco⟩
    · rename_i l hl
      split at hc
      · rename_i hb
        cases hc
        simp only [Bool.and_eq_true] at hb
        obtain ⟨g1, g2⟩ := compOps_get hl
        exact rd_sound hb.1 (by simpa using g1) (fun j op hj => by
          obtain ⟨o, ho, hco⟩ := g2 j op hj
          exact ⟨o, by simpa using ho, hco⟩) hb.2 hw R (fun s a w hk R => hq .normal s a w hk R) id
      · cases hc
    · cases hc
  | seq x y ihx ihy =>
    intro ac K Q s a w hc hw R hq
    unfold comp at hc
    split at hc
    · rename_i x' y' hx hy
      cases hc
      refine wp_seq (ihx x' _ _ s a w hx hw R (fun e s a w hk R => ?_))
      cases e with
      | normal => exact ihy y' K Q s a w hy hk R hq
      | exit id => exact hq (.exit id) s a w hk R
      | ret => exact hq .ret s a w hk R
    · cases hc
  | cond c x y ihx ihy =>
    intro ac K Q s a w hc hw R hq
    unfold comp at hc
    split at hc
    · rename_i q x' y' hcv hx hy
      have base : ∀ (K : Ex → St → Prop), W P n0 (.cond q x' y') K s → (∀ e s a w, K e s → RepS C n0 s a w → Q e.toX a w) → (Code.cond c x y).wp P Q a w := by
        intro K hw hq
        unfold W condW at hw
        split at hw
        · rename_i t ht
          obtain ⟨rho, RF⟩ := R.rep
          have hA := args_of RF (xs := [c]) (ys := [q]) (by simp [cvOs, hcv])
          cases hA with
          | cons h1 _ =>
            rw [ht] at h1
            have hb := rp_bool h1
            refine wp_cond hb ?_
            cases t with
            | true => exact ihx x' K Q s a w hx (by simpa using hw) R hq
            | false => exact ihy y' K Q s a w hy (by simpa using hw) R hq
        · exact hw.elim
      split at hc
      · cases hc
        exact base _ hw (ent_post hq)
      · cases hc
        exact base K hw hq
    · cases hc
  | block id c ih =>
    intro ac K Q s a w hc hw R hq
    unfold comp at hc
    split at hc
    · rename_i x hx
      cases hc
      have hq' := ent_post (P := P) hq
      refine wp_block (ih x _ _ s a w hx hw R (fun e s a w hk R => ?_))
      cases e with
      | normal => exact hq' .normal s a w hk R
      | exit j =>
        have hk' : if j = id then (∃ s', Ent n0 s s' ∧ K .normal s') else K (.exit j) s := hk
        show if j = id then Q .normal a w else Q (.exit j) a w
        by_cases hj : j = id
        · rw [if_pos hj] at hk' ⊢; exact hq' .normal s a w hk' R
        · rw [if_neg hj] at hk' ⊢; exact hq (.exit j) s a w hk' R
      | ret => exact hq .ret s a w hk R
    · cases hc
  | loop c ih =>
    intro ac K Q s a w hc hw R hq
    unfold comp at hc
    split at hc
    · rename_i x hx
      cases hc
      obtain ⟨ι, σ, pr, μ, i0, h0, he, hr⟩ := hw
      -- the measure, read off a state of the machine: the least index that fits
      have key : ∀ n i, μ i = n → pr i → ∀ a w, RepS C n0 (σ i) a w → (Code.loop c).wp P Q a w := by
        classical
        intro n i hn hi a w R
        let I : Act → World → Prop := fun a w => ∃ i, pr i ∧ RepS C n0 (σ i) a w
        have hex : ∀ a w, I a w → ∃ m, ∃ i, pr i ∧ RepS C n0 (σ i) a w ∧ μ i = m := fun a w ⟨i, h1, h2⟩ => ⟨μ i, i, h1, h2, rfl⟩
        have hex2 : ∀ a w, ∃ m, I a w → (∃ i, pr i ∧ RepS C n0 (σ i) a w ∧ μ i = m) ∧ ∀ i, pr i → RepS C n0 (σ i) a w → m ≤ μ i := fun a w => by
          by_cases h : I a w
          · obtain ⟨m, hm, hl⟩ := least (p := fun m => ∃ i, pr i ∧ RepS C n0 (σ i) a w ∧ μ i = m) (hex a w h)
            exact ⟨m, fun _ => ⟨hm, fun i hi hR => hl _ ⟨i, hi, hR, rfl⟩⟩⟩
          · exact ⟨0, fun h' => absurd h' h⟩
        let M : Act → World → Nat := fun a w => (hex2 a w).choose
        have hM : ∀ a w, I a w → (∃ i, pr i ∧ RepS C n0 (σ i) a w ∧ μ i = M a w) ∧ ∀ i, pr i → RepS C n0 (σ i) a w → M a w ≤ μ i := fun a w h => (hex2 a w).choose_spec h
        refine wp_loop I M ⟨i, hi, R⟩ (fun a w hI => ?_)
        obtain ⟨⟨j, hj, hR, hmu⟩, _⟩ := hM a w hI
        refine ih x _ _ (σ j) a w hx (hr j hj) hR (fun e s' a' w' hk R' => ?_)
        cases e with
        | normal =>
          obtain ⟨j', hj', hlt, hent⟩ := hk
          have hR' := hent C a' w' R'
          have hI' : I a' w' := ⟨j', hj', hR'⟩
          refine ⟨hI', ?_⟩
          have := (hM a' w' hI').2 j' hj' hR'
          omega
        | exit id => exact hq (.exit id) s' a' w' hk R'
        | ret => exact hq .ret s' a' w' hk R'
      exact key _ i0 rfl h0 a w (he C a w R)
    · cases hc
  | exit id => intro ac K Q s a w hc hw R hq; cases hc; exact wp_exit (hq _ _ _ _ hw R)
  | ret => intro ac K Q s a w hc hw R hq; cases hc; exact wp_ret (hq _ _ _ _ hw R)
  | rangeFunc => intro ac K Q s a w hc; cases hc
  | scope => intro ac K Q s a w hc; cases hc
  | label => intro ac K Q s a w hc; cases hc
  | goto => intro ac K Q s a w hc; cases hc
  | refuse => intro ac K Q s a w hc; cases hc
end Go.Eng

/- The evaluation in steps, each of them first order: what is left to do is a list. -/
namespace Go.Eng
open Go

inductive It where
  | c (a : AC)
  | o (l : List AOp)
  | d (bef : List Nat) (acc : List TE) (l : List AOp)
  | b (id : Nat)

def CI (P : Program) (n0 : Nat) : List It → (Ex → St → Prop) → Ex → St → Prop
  | [], K => K
  | .c a :: k, K => thenK (W P n0 a (CI P n0 k K)) (CI P n0 k K)
  | .o l :: k, K => thenK (RW P (CI P n0 k K .normal) l) (CI P n0 k K)
  | .d bef acc l :: k, K => thenK (RD P bef (CI P n0 k K .normal) l acc) (CI P n0 k K)
  | .b id :: k, K => blockK id (CI P n0 k K)

/-- What is left to do, in state (env, h). -/
def G (P : Program) (n0 : Nat) (k : List It) (K : Ex → St → Prop) (env : List (Nat × SV)) (h : List (Option HB)) : Prop := CI P n0 k K .normal ⟨env, h⟩

/-- It leaves the block id. -/
def GX (P : Program) (n0 : Nat) (id : Nat) (k : List It) (K : Ex → St → Prop) (env : List (Nat × SV)) (h : List (Option HB)) : Prop := CI P n0 k K (.exit id) ⟨env, h⟩

def condI (P : Program) (n0 : Nat) (a b : AC) (k : List It) (K : Ex → St → Prop) (env : List (Nat × SV)) (h : List (Option HB)) : SV → Prop
  | .rv (.bool t) => if t = true then G P n0 (.c a :: k) K env h else G P n0 (.c b :: k) K env h
  | _ => False

def callI (P : Program) (n0 : Nat) (f : FuncId) (args : List SV) (dst : Option Nat) (r : List AOp) (k : List It) (K : Ex → St → Prop) (env : List (Nat × SV)) (h : List (Option HB)) : Prop :=
  CallW P f args h fun sv h' => G P n0 (.o r :: k) K (putE dst sv env) h'

def callvI (P : Program) (n0 : Nat) (dst : Option Nat) (r : List AOp) (k : List It) (K : Ex → St → Prop) (env : List (Nat × SV)) (h : List (Option HB)) : List SV → Prop
  | .fn f caps :: args => callI P n0 f (args ++ caps) dst r k K env h
  | _ => False

def invI (P : Program) (n0 : Nat) (name : String) (dst : Option Nat) (r : List AOp) (k : List It) (K : Ex → St → Prop) (env : List (Nat × SV)) (h : List (Option HB)) : List SV → Prop
  | s :: args => match ifcOf s with
    | some (t, x) => match invF P t name with
      | some (f, none) => callI P n0 f (x :: args) dst r k K env h
      | some (f, some (n, agg)) => match loadE n agg (hget h) x with
        | some (p, y, _, _) => p ∧ callI P n0 f (y :: args) dst r k K env h
        | none => False
      | none => False
    | none => False
  | _ => False

def plainI (P : Program) (n0 : Nat) (dst : Option Nat) (r : List AOp) (k : List It) (K : Ex → St → Prop) (env : List (Nat × SV)) (h : List (Option HB)) : XR → Prop
  | some (p, sv, u, _) => p ∧ G P n0 (.o r :: k) K (putE dst sv env) (uphO h u)
  | none => False

def opI (P : Program) (n0 : Nat) (ao : AO) (args : List SV) (dst : Option Nat) (r : List AOp) (k : List It) (K : Ex → St → Prop) (env : List (Nat × SV)) (h : List (Option HB)) : Prop :=
  match ao with
  | .call f => callI P n0 f args dst r k K env h
  | .callv => callvI P n0 dst r k K env h args
  | .inv name => invI P n0 name dst r k K env h args
  | ao => plainI P n0 dst r k K env h (opE ao args (hget h) h.length)

def guardI (P : Program) (n0 : Nat) (b : Bool) (ao : AO) (xs : List XO) (dst : Option Nat) (r : List AOp) (k : List It) (K : Ex → St → Prop) (env : List (Nat × SV)) (h : List (Option HB)) : SV → Prop
  | .rv (.bool t) => if t = b then opI P n0 ao (xs.map (evX (lk env))) dst r k K env h else G P n0 (.o r :: k) K (putE dst (.tup []) env) h
  | .tup [] => G P n0 (.o r :: k) K (putE dst (.tup []) env) h
  | _ => False

def calldI (P : Program) (n0 : Nat) (bef : List Nat) (acc : List TE) (rds rd0 : List Nat) (f : FuncId) (args : List SV) (dst : Option Nat) (r : List AOp) (k : List It) (K : Ex → St → Prop) (env : List (Nat × SV)) (h : List (Option HB)) : Prop :=
  CallD P f args h fun sv h' pre us => G P n0 (.d bef (acc ++ [⟨rds, dst, rd0 ++ pre, us⟩]) r :: k) K (putE dst sv env) h'

def callvdI (P : Program) (n0 : Nat) (bef : List Nat) (acc : List TE) (rds : List Nat) (dst : Option Nat) (r : List AOp) (k : List It) (K : Ex → St → Prop) (env : List (Nat × SV)) (h : List (Option HB)) : List SV → Prop
  | .fn f caps :: args => calldI P n0 bef acc rds [] f (args ++ caps) dst r k K env h
  | _ => False

def invdI (P : Program) (n0 : Nat) (bef : List Nat) (acc : List TE) (rds : List Nat) (name : String) (dst : Option Nat) (r : List AOp) (k : List It) (K : Ex → St → Prop) (env : List (Nat × SV)) (h : List (Option HB)) : List SV → Prop
  | s :: args => match ifcOf s with
    | some (t, x) => match invF P t name with
      | some (f, none) => calldI P n0 bef acc rds [] f (x :: args) dst r k K env h
      | some (f, some (n, agg)) => match loadE n agg (hget h) x with
        | some (p, y, _, rd) => p ∧ calldI P n0 bef acc rds rd f (y :: args) dst r k K env h
        | none => False
      | none => False
    | none => False
  | _ => False

def plaindI (P : Program) (n0 : Nat) (bef : List Nat) (acc : List TE) (rds : List Nat) (dst : Option Nat) (r : List AOp) (k : List It) (K : Ex → St → Prop) (env : List (Nat × SV)) (h : List (Option HB)) : XR → Prop
  | some (p, sv, u, rd) => p ∧ G P n0 (.d bef (acc ++ [⟨rds, dst, rd, uIds u⟩]) r :: k) K (putE dst sv env) (uphO h u)
  | none => False

def opdI (P : Program) (n0 : Nat) (bef : List Nat) (acc : List TE) (rds : List Nat) (ao : AO) (args : List SV) (dst : Option Nat) (r : List AOp) (k : List It) (K : Ex → St → Prop) (env : List (Nat × SV)) (h : List (Option HB)) : Prop :=
  match ao with
  | .call f => calldI P n0 bef acc rds [] f args dst r k K env h
  | .callv => callvdI P n0 bef acc rds dst r k K env h args
  | .inv name => invdI P n0 bef acc rds name dst r k K env h args
  | ao => plaindI P n0 bef acc rds dst r k K env h (opE ao args (hget h) h.length)

def guarddI (P : Program) (n0 : Nat) (bef : List Nat) (acc : List TE) (rds : List Nat) (b : Bool) (ao : AO) (xs : List XO) (dst : Option Nat) (r : List AOp) (k : List It) (K : Ex → St → Prop) (env : List (Nat × SV)) (h : List (Option HB)) : SV → Prop
  | .rv (.bool t) => if t = b then opdI P n0 bef acc rds ao (xs.map (evX (lk env))) dst r k K env h else G P n0 (.d bef (acc ++ [⟨rds, dst, [], []⟩]) r :: k) K (putE dst (.tup []) env) h
  | .tup [] => G P n0 (.d bef (acc ++ [⟨rds, dst, [], []⟩]) r :: k) K (putE dst (.tup []) env) h
  | _ => False

section
variable {P : Program} {n0 : Nat} {k : List It} {K : Ex → St → Prop} {env : List (Nat × SV)} {h : List (Option HB)}

theorem g_nil : G P n0 [] K env h = K .normal ⟨env, h⟩ := rfl
theorem g_skip : G P n0 (.c .skip :: k) K env h = G P n0 k K env h := rfl
theorem g_reg {ops : List AOp} : G P n0 (.c (.reg ops) :: k) K env h = G P n0 (.o ops :: k) K env h := rfl
theorem g_regd {bef : List Nat} {ops : List AOp} : G P n0 (.c (.regd bef ops) :: k) K env h = G P n0 (.d bef [] ops :: k) K env h := rfl
theorem g_seq {a b : AC} : G P n0 (.c (.seq a b) :: k) K env h = G P n0 (.c a :: .c b :: k) K env h := rfl
theorem g_block {id : Nat} {a : AC} : G P n0 (.c (.block id a) :: k) K env h = G P n0 (.c a :: .b id :: k) K env h := rfl
theorem g_end {id : Nat} : G P n0 (.b id :: k) K env h = G P n0 k K env h := rfl
theorem g_exit {id : Nat} : G P n0 (.c (.exit id) :: k) K env h = GX P n0 id k K env h := rfl
theorem g_cond {x : XO} {a b : AC} : G P n0 (.c (.cond x a b) :: k) K env h = condI P n0 a b k K env h (evX (lk env) x) := by
  show condW _ _ _ = _
  generalize evX (lk env) x = y
  cases y with
  | rv r => cases r <;> rfl
  | _ => rfl
theorem CI_ret {P : Program} {n0 : Nat} {K : Ex → St → Prop} {s : St} : ∀ {k : List It}, CI P n0 k K .ret s = K .ret s
  | [] => rfl
  | .c a :: k => CI_ret (k := k)
  | .o a :: k => CI_ret (k := k)
  | .d a b c :: k => CI_ret (k := k)
  | .b a :: k => CI_ret (k := k)
theorem g_ret : G P n0 (.c .ret :: k) K env h = K .ret ⟨env, h⟩ := by
  show CI P n0 k K .ret ⟨env, h⟩ = _
  exact CI_ret
theorem gx_nil {id : Nat} : GX P n0 id [] K env h = K (.exit id) ⟨env, h⟩ := rfl
theorem gx_c {id : Nat} {a : AC} : GX P n0 id (.c a :: k) K env h = GX P n0 id k K env h := rfl
theorem gx_o {id : Nat} {a : List AOp} : GX P n0 id (.o a :: k) K env h = GX P n0 id k K env h := rfl
theorem gx_b {id j : Nat} : GX P n0 id (.b j :: k) K env h = if id = j then G P n0 k K env h else GX P n0 id k K env h := rfl
theorem g_onil : G P n0 (.o [] :: k) K env h = G P n0 k K env h := rfl
theorem g_dnil {bef : List Nat} {acc : List TE} : G P n0 (.d bef acc [] :: k) K env h = (compatB bef 0 acc = true ∧ G P n0 k K env h) := rfl
theorem plainW_I {dst : Option Nat} {r : List AOp} (o : XR) : plainW h (fun sv h' => RW P (CI P n0 k K .normal) r ⟨putE dst sv env, h'⟩) o = plainI P n0 dst r k K env h o := by
  cases o with
  | none => rfl
  | some q => obtain ⟨p, sv, u, rd⟩ := q; rfl
theorem opW_opI {dst : Option Nat} {ao : AO} {args : List SV} {r : List AOp} : opW P ao args h (fun sv h' => RW P (CI P n0 k K .normal) r ⟨putE dst sv env, h'⟩) = opI P n0 ao args dst r k K env h := by
  cases ao
  case call f => rfl
  case callv =>
    show callvW _ _ _ _ = callvI _ _ _ _ _ _ _ _ _
    cases args with
    | nil => rfl
    | cons x t => cases x <;> rfl
  case inv name =>
    show invW _ _ _ _ _ = invI _ _ _ _ _ _ _ _ _ _
    cases args with
    | nil => rfl
    | cons x t =>
      simp only [invW, invI]
      cases ifcOf x with
      | none => rfl
      | some q =>
        obtain ⟨t, y⟩ := q
        simp only
        cases invF P t name with
        | none => rfl
        | some q =>
          obtain ⟨f, ld⟩ := q
          cases ld with
          | none => rfl
          | some q =>
            obtain ⟨n, agg⟩ := q
            simp only
            cases loadE n agg (hget h) y with
            | none => rfl
            | some q => obtain ⟨p, z, u, rd⟩ := q; rfl
  all_goals first | exact plainW_I _ | rfl
theorem g_op {dst : Option Nat} {ao : AO} {xs : List XO} {r : List AOp} : G P n0 (.o (⟨dst, ao, xs, none⟩ :: r) :: k) K env h = opI P n0 ao (xs.map (evX (lk env))) dst r k K env h := opW_opI
theorem g_opg {dst : Option Nat} {ao : AO} {xs : List XO} {d : Nat} {b : Bool} {r : List AOp} : G P n0 (.o (⟨dst, ao, xs, some (d, b)⟩ :: r) :: k) K env h = guardI P n0 b ao xs dst r k K env h (lk env d) := by
  show RW P _ _ _ = _
  unfold RW
  simp only [gOK]
  generalize lk env d = x
  cases x with
  | rv q =>
    cases q with
    | bool t => cases t <;> cases b <;> first | exact opW_opI | rfl
    | _ => rfl
  | tup xs => cases xs <;> rfl
  | _ => rfl
theorem plainD_I {bef : List Nat} {acc : List TE} {rds : List Nat} {dst : Option Nat} {r : List AOp} (o : XR) : plainD h (fun sv h' pre us => RD P bef (CI P n0 k K .normal) r (acc ++ [⟨rds, dst, pre, us⟩]) ⟨putE dst sv env, h'⟩) o = plaindI P n0 bef acc rds dst r k K env h o := by
  cases o with
  | none => rfl
  | some q => obtain ⟨p, sv, u, rd⟩ := q; rfl
theorem opD_opdI {bef : List Nat} {acc : List TE} {rds : List Nat} {dst : Option Nat} {ao : AO} {args : List SV} {r : List AOp} : opD P ao args h (fun sv h' pre us => RD P bef (CI P n0 k K .normal) r (acc ++ [⟨rds, dst, pre, us⟩]) ⟨putE dst sv env, h'⟩) = opdI P n0 bef acc rds ao args dst r k K env h := by
  cases ao
  case call f => rfl
  case callv =>
    show callvD _ _ _ _ = callvdI _ _ _ _ _ _ _ _ _ _ _ _
    cases args with
    | nil => rfl
    | cons x t => cases x <;> rfl
  case inv name =>
    show invD _ _ _ _ _ = invdI _ _ _ _ _ _ _ _ _ _ _ _ _
    cases args with
    | nil => rfl
    | cons x t =>
      simp only [invD, invdI]
      cases ifcOf x with
      | none => rfl
      | some q =>
        obtain ⟨t, y⟩ := q
        simp only
        cases invF P t name with
        | none => rfl
        | some q =>
          obtain ⟨f, ld⟩ := q
          cases ld with
          | none => rfl
          | some q =>
            obtain ⟨n, agg⟩ := q
            simp only
            cases loadE n agg (hget h) y with
            | none => rfl
            | some q => obtain ⟨p, z, u, rd⟩ := q; rfl
  all_goals first | exact plainD_I _ | rfl
theorem g_opd {bef : List Nat} {acc : List TE} {dst : Option Nat} {ao : AO} {xs : List XO} {r : List AOp} : G P n0 (.d bef acc (⟨dst, ao, xs, none⟩ :: r) :: k) K env h = opdI P n0 bef acc (rdsX xs) ao (xs.map (evX (lk env))) dst r k K env h := opD_opdI
theorem g_opdg {bef : List Nat} {acc : List TE} {dst : Option Nat} {ao : AO} {xs : List XO} {d : Nat} {b : Bool} {r : List AOp} : G P n0 (.d bef acc (⟨dst, ao, xs, some (d, b)⟩ :: r) :: k) K env h = guarddI P n0 bef acc (d :: rdsX xs) b ao xs dst r k K env h (lk env d) := by
  show RD P _ _ _ _ _ = _
  unfold RD
  simp only [gOK]
  generalize lk env d = x
  cases x with
  | rv q =>
    cases q with
    | bool t => cases t <;> cases b <;> first | exact opD_opdI | rfl
    | _ => rfl
  | tup xs => cases xs <;> rfl
  | _ => rfl
end

/-- A call by its contract. -/
theorem g_call {P : Program} {n0 : Nat} {f : FuncId} {args : List SV} {dst : Option Nat} {r : List AOp} {k : List It} {K : Ex → St → Prop} {env : List (Nat × SV)} {h : List (Option HB)} {pre us : List (Nat × HB)} {sv : SV}
    (hc : CallR P f args pre us sv) (hp : PreOK (hget h) pre) (hu : okU pre h us) (hn : G P n0 (.o r :: k) K (putE dst sv env) (uphL h us)) : callI P n0 f args dst r k K env h := ⟨pre, us, sv, hc, hp, hu, hn⟩

/-- A call that touches nothing. -/
theorem g_call0 {P : Program} {n0 : Nat} {f : FuncId} {args : List SV} {dst : Option Nat} {r : List AOp} {k : List It} {K : Ex → St → Prop} {env : List (Nat × SV)} {h : List (Option HB)} {sv : SV}
    (hc : CallR P f args [] [] sv) (hn : G P n0 (.o r :: k) K (putE dst sv env) h) : callI P n0 f args dst r k K env h := ⟨[], [], sv, hc, fun q hq => by simp at hq, trivial, hn⟩

theorem g_calld {P : Program} {n0 : Nat} {bef : List Nat} {acc : List TE} {rds rd0 : List Nat} {f : FuncId} {args : List SV} {dst : Option Nat} {r : List AOp} {k : List It} {K : Ex → St → Prop} {env : List (Nat × SV)} {h : List (Option HB)} {pre us : List (Nat × HB)} {sv : SV}
    (hc : CallR P f args pre us sv) (hp : PreOK (hget h) pre) (hu : okU pre h us) (hn : G P n0 (.d bef (acc ++ [⟨rds, dst, rd0 ++ pre.map (·.1), us.map (·.1)⟩]) r :: k) K (putE dst sv env) (uphL h us)) : calldI P n0 bef acc rds rd0 f args dst r k K env h := ⟨pre, us, sv, hc, hp, hu, hn⟩

theorem g_calld0 {P : Program} {n0 : Nat} {bef : List Nat} {acc : List TE} {rds rd0 : List Nat} {f : FuncId} {args : List SV} {dst : Option Nat} {r : List AOp} {k : List It} {K : Ex → St → Prop} {env : List (Nat × SV)} {h : List (Option HB)} {sv : SV}
    (hc : CallR P f args [] [] sv) (hn : G P n0 (.d bef (acc ++ [⟨rds, dst, rd0, []⟩]) r :: k) K (putE dst sv env) h) : calldI P n0 bef acc rds rd0 f args dst r k K env h := ⟨[], [], sv, hc, fun q hq => by simp at hq, trivial, by simpa [uphL] using hn⟩

/-- A loop: a family of states, a measure, and one round from any of them. -/
theorem g_loop {P : Program} {n0 : Nat} {a : AC} {k : List It} {K : Ex → St → Prop} {env : List (Nat × SV)} {h : List (Option HB)} {ι : Type} (en : ι → List (Nat × SV)) (hh : ι → List (Option HB)) (pr : ι → Prop) (μ : ι → Nat) (i0 : ι)
    (h0 : pr i0) (he : Ent n0 ⟨env, h⟩ ⟨en i0, hh i0⟩)
    (hr : ∀ i, pr i → ∀ K' : Ex → St → Prop, (∀ i' e' h', pr i' → μ i' < μ i → Ent n0 ⟨e', h'⟩ ⟨en i', hh i'⟩ → K' .normal ⟨e', h'⟩) → (∀ id e' h', GX P n0 id k K e' h' → K' (.exit id) ⟨e', h'⟩) → (∀ e' h', K .ret ⟨e', h'⟩ → K' .ret ⟨e', h'⟩) → G P n0 [.c a] K' (en i) (hh i)) :
    G P n0 (.c (.loop a) :: k) K env h := by
  refine ⟨ι, fun i => ⟨en i, hh i⟩, pr, μ, i0, h0, he, fun i hi => ?_⟩
  refine hr i hi (thenK (fun s' => ∃ i', pr i' ∧ μ i' < μ i ∧ Ent n0 s' ⟨en i', hh i'⟩) (CI P n0 k K)) (fun i' e' h' h1 h2 h3 => ⟨i', h1, h2, h3⟩) (fun id e' h' hx => hx) (fun e' h' hx => ?_)
  show CI P n0 k K .ret _
  rw [CI_ret]; exact hx

theorem g_noent {P : Program} {n0 : Nat} {k : List It} {K : Ex → St → Prop} {env : List (Nat × SV)} {h : List (Option HB)} (hg : G P n0 k K env h) : G P n0 (.c .ent :: k) K env h := ⟨⟨env, h⟩, fun _ _ _ R => R, hg⟩

theorem g_ent {P : Program} {n0 : Nat} {k : List It} {K : Ex → St → Prop} {env : List (Nat × SV)} {h : List (Option HB)} (env' : List (Nat × SV)) (h' : List (Option HB)) (he : Ent n0 ⟨env, h⟩ ⟨env', h'⟩) (hg : G P n0 k K env' h') : G P n0 (.c .ent :: k) K env h := ⟨⟨env', h'⟩, he, hg⟩

end Go.Eng

/- From the evaluation of a function's code to its contract: the things handed in are renamed; what is new and given up is only read from then on. -/
namespace Go.Eng
open Go

/-- A value within the call is that value of the caller; σ tells the caller's number of each thing. -/
inductive Bk (σ : Nat → Option Nat) : SV → SV → Prop where
  | dead (y : SV) : Bk σ .dead y
  | rv (r : RV) : Bk σ (.rv r) (.rv r)
  | ptr (j id off : Nat) (h : σ j = some id) : Bk σ (.ptr j off) (.ptr id off)
  | ept (j id ver i off : Nat) (h : σ j = some id) : Bk σ (.ept j ver i off) (.ept id ver i off)
  | row (j id ver len : Nat) (h : σ j = some id) : Bk σ (.row j ver len) (.row id ver len)
  | win (j id ver off len : Nat) (h : σ j = some id) : Bk σ (.win j ver off len) (.win id ver off len)
  | agg (xs ys : List SV) (hl : xs.length = ys.length) (h : ∀ (i : Nat) (x y : SV), xs[i]? = some x → ys[i]? = some y → Bk σ x y) : Bk σ (.agg xs) (.agg ys)
  | tup (xs ys : List SV) (hl : xs.length = ys.length) (h : ∀ (i : Nat) (x y : SV), xs[i]? = some x → ys[i]? = some y → Bk σ x y) : Bk σ (.tup xs) (.tup ys)
  | fn (f : FuncId) (xs ys : List SV) (hl : xs.length = ys.length) (h : ∀ (i : Nat) (x y : SV), xs[i]? = some x → ys[i]? = some y → Bk σ x y) : Bk σ (.fn f xs) (.fn f ys)
  | ifc (t : TypeId) (x y : SV) (h : Bk σ x y) : Bk σ (.ifc t x) (.ifc t y)

def BkL (σ : Nat → Option Nat) (xs ys : List SV) : Prop := xs.length = ys.length ∧ ∀ (i : Nat) (x y : SV), xs[i]? = some x → ys[i]? = some y → Bk σ x y

inductive BkH (σ : Nat → Option Nat) : HB → HB → Prop where
  | var (xs ys : List SV) (h : BkL σ xs ys) : BkH σ (.var xs) (.var ys)
  | row (e ver : Nat) (xs ys : List (List SV)) (hl : xs.length = ys.length) (h : ∀ (i : Nat) (x y : List SV), xs[i]? = some x → ys[i]? = some y → BkL σ x y) : BkH σ (.row e ver xs) (.row e ver ys)

section entry
variable {w : World} {ok ok' : Nat → Prop} {rho rho' : Nat → Option Nat} {hp hp' : Hp} {σ : Nat → Option Nat}

/-- What the caller's value is, the value within the call is. -/
theorem Rp.back (hro : ∀ b, ok b → ok' b) (hs : ∀ j id, σ j = some id → rho' j = rho id ∧ ((hp id).isSome = true → (hp' j).isSome = true) ∧ (∀ cs, hp' j = some (.var cs) → ∃ cs', hp id = some (.var cs')) ∧ ∀ e ver xs, hp' j = some (.row e ver xs) → ∃ xs', hp id = some (.row e ver xs')) {x y : SV} {v : Value} (hr : Rp w ok rho hp y v) (hb : Bk σ x y) : Rp w ok' rho' hp' x v := by
  induction hb generalizing v with
  | dead y => exact .dead v
  | rv r => cases hr with | rv _ _ h => exact .rv r v (h.mono fun b hb _ => ⟨hro b hb, rfl⟩)
  | ptr j id off hj =>
    obtain ⟨g1, g2, g3, g4⟩ := hs j id hj
    cases hr with
    | ptr _ _ _ h1 h0 h =>
      refine .ptr j off v h1 (g2 h0) (fun cs hc => ?_)
      obtain ⟨cs', hc'⟩ := g3 cs hc
      rw [g1]; exact h cs' hc'
  | ept j id ver i off hj =>
    obtain ⟨g1, g2, g3, g4⟩ := hs j id hj
    cases hr with
    | ept _ _ _ _ _ h1 h0 hv h =>
      refine .ept j ver i off v h1 (g2 h0) (fun e ver0 xs hx => ?_) (fun e xs hx => ?_)
      · obtain ⟨xs', hx'⟩ := g4 e ver0 xs hx; exact hv e ver0 xs' hx'
      · obtain ⟨xs', hx'⟩ := g4 e ver xs hx; rw [g1]; exact h e xs' hx'
  | row j id ver len hj =>
    obtain ⟨g1, g2, g3, g4⟩ := hs j id hj
    cases hr with
    | row _ _ _ _ h1 h0 hv h =>
      refine .row j ver len v h1 (g2 h0) (fun e ver0 xs hx => ?_) (fun e xs hx => ?_)
      · obtain ⟨xs', hx'⟩ := g4 e ver0 xs hx; exact hv e ver0 xs' hx'
      · obtain ⟨xs', hx'⟩ := g4 e ver xs hx; rw [g1]; exact h e xs' hx'
  | win j id ver off len hj =>
    obtain ⟨g1, g2, g3, g4⟩ := hs j id hj
    cases hr with
    | win _ _ _ _ _ h1 h0 hv hr hc =>
      refine .win j ver off len v h1 (g2 h0) (fun e ver0 xs hx => ?_) (fun e xs hx => ?_) (fun cs hx => ?_)
      · obtain ⟨xs', hx'⟩ := g4 e ver0 xs hx; exact hv e ver0 xs' hx'
      · obtain ⟨xs', hx'⟩ := g4 e ver xs hx; rw [g1]; exact hr e xs' hx'
      · obtain ⟨cs', hx'⟩ := g3 cs hx; rw [g1]; exact hc cs' hx'
  | agg xs ys hl h ih =>
    cases hr with
    | agg _ vs hvl h1 hy =>
      refine .agg xs vs (by omega) h1 (fun j x hx => ?_)
      have hlt := (List.getElem?_eq_some_iff.1 hx).1
      have hyj := List.getElem?_eq_getElem (l := ys) (i := j) (by omega)
      exact ih j x _ hx hyj (hy j _ hyj)
  | tup xs ys hl h ih =>
    cases hr with
    | tup _ vs hvl hy =>
      refine .tup xs vs (by omega) (fun j x hx => ?_)
      have hlt := (List.getElem?_eq_some_iff.1 hx).1
      have hyj := List.getElem?_eq_getElem (l := ys) (i := j) (by omega)
      exact ih j x _ hx hyj (hy j _ hyj)
  | fn f xs ys hl h ih =>
    cases hr with
    | fn _ _ vs hvl hy =>
      refine .fn f xs vs (by omega) (fun j x hx => ?_)
      have hlt := (List.getElem?_eq_some_iff.1 hx).1
      have hyj := List.getElem?_eq_getElem (l := ys) (i := j) (by omega)
      exact ih j x _ hx hyj (hy j _ hyj)
  | ifc t x y h ih => cases hr with | ifc _ _ v0 h0 => exact .ifc t x v0 (ih h0)

theorem CellsIn.back (hro : ∀ b, ok b → ok' b) (hs : ∀ j id, σ j = some id → rho' j = rho id ∧ ((hp id).isSome = true → (hp' j).isSome = true) ∧ (∀ cs, hp' j = some (.var cs) → ∃ cs', hp id = some (.var cs')) ∧ ∀ e ver xs, hp' j = some (.row e ver xs) → ∃ xs', hp id = some (.row e ver xs')) {cur : Array Value} {off : Nat} {xs ys : List SV} (h : CellsIn w ok rho hp cur off ys) (hb : BkL σ xs ys) : CellsIn w ok' rho' hp' cur off xs := fun j x hx => by
  obtain ⟨hl, hb⟩ := hb
  have hlt := (List.getElem?_eq_some_iff.1 hx).1
  have hyj := List.getElem?_eq_getElem (l := ys) (i := j) (by omega)
  obtain ⟨v, h1, h2, h3⟩ := h j _ hyj
  exact ⟨v, h1, h2, h3.back hro hs (hb j x _ hx hyj)⟩

theorem HBRep.back (hro : ∀ b, ok b → ok' b) (hs : ∀ j id, σ j = some id → rho' j = rho id ∧ ((hp id).isSome = true → (hp' j).isSome = true) ∧ (∀ cs, hp' j = some (.var cs) → ∃ cs', hp id = some (.var cs')) ∧ ∀ e ver xs, hp' j = some (.row e ver xs) → ∃ xs', hp id = some (.row e ver xs')) {j id : Nat} (hj : σ j = some id) {x y : HB} (h : HBRep w ok rho hp id y) (hb : BkH σ x y) : HBRep w ok' rho' hp' j x := by
  have g1 := (hs j id hj).1
  rcases h with ⟨h1, e, ver, rfl⟩ | ⟨b, cur, t, h1, h2, h3⟩
  · cases hb with
    | row _ _ xs _ hl _ =>
      have : xs = [] := List.eq_nil_of_length_eq_zero (by simpa using hl)
      subst this
      exact .inl ⟨g1.trans h1, e, ver, rfl⟩
  · refine .inr ⟨b, cur, t, g1.trans h1, h2, ?_⟩
    cases hb with
    | var xs ys hb => exact ⟨by rw [h3.1, hb.1], h3.2.back hro hs hb⟩
    | row e ver xs ys hl hb =>
      obtain ⟨a1, a2, a3⟩ := h3
      refine ⟨fun x hx => ?_, by rw [hl]; exact a2, fun i x hx => ?_⟩
      · obtain ⟨i, hi, rfl⟩ := List.mem_iff_getElem.1 hx
        have hy := List.getElem?_eq_getElem (l := ys) (i := i) (by omega)
        rw [(hb i _ _ (List.getElem?_eq_getElem hi) hy).1]
        exact a1 _ (List.getElem_mem _)
      · have hlt := (List.getElem?_eq_some_iff.1 hx).1
        have hy := List.getElem?_eq_getElem (l := ys) (i := i) (by omega)
        exact (a3 i _ hy).back hro hs (hb i x _ hx hy)
end entry

/-- What is given up: from now on only read. τ tells which things are kept. -/
inductive Fz (τ : Nat → Option Nat) (h : Hp) : SV → RV → Prop where
  | rv (r : RV) : Fz τ h (.rv r) r
  | ptr (j : Nat) (cs : List SV) (rs : List RV) (hj : τ j = none) (hh : h j = some (.var cs)) (hl : cs.length = rs.length) (h1 : ∀ (i : Nat) (r : RV), rs[i]? = some r → r.one = true) (hf : ∀ (i : Nat) (x : SV) (r : RV), cs[i]? = some x → rs[i]? = some r → Fz τ h x r) : Fz τ h (.ptr j 0) (.rop rs)
  | row (j e ver len : Nat) (xs : List (List SV)) (rs : List (List RV)) (hj : τ j = none) (hh : h j = some (.row e ver xs)) (hl : rs.length = len) (hx : len ≤ xs.length) (hm : ∀ (i : Nat) (x : List SV) (r : List RV), xs[i]? = some x → rs[i]? = some r → x.length = r.length)
      (h1 : ∀ (i : Nat) (r : List RV) (k : Nat) (q : RV), rs[i]? = some r → r[k]? = some q → q.one = true) (hf : ∀ (i : Nat) (x : List SV) (r : List RV) (k : Nat) (y : SV) (q : RV), xs[i]? = some x → rs[i]? = some r → x[k]? = some y → r[k]? = some q → Fz τ h y q) : Fz τ h (.row j ver len) (.sl e rs)
  | win (j ver off e len : Nat) (cs : List SV) (rs : List (List RV)) (hj : τ j = none) (hh : h j = some (.var cs)) (hl : rs.length = len) (hx : off + len * e ≤ cs.length) (hm : ∀ r ∈ rs, r.length = e)
      (h1 : ∀ (i : Nat) (r : List RV) (k : Nat) (q : RV), rs[i]? = some r → r[k]? = some q → q.one = true) (hf : ∀ (i : Nat) (r : List RV) (k : Nat) (y : SV) (q : RV), rs[i]? = some r → cs[off + (i * e + k)]? = some y → r[k]? = some q → Fz τ h y q) : Fz τ h (.win j ver off len) (.sl e rs)
  | agg (cs : List SV) (rs : List RV) (hl : cs.length = rs.length) (h1 : ∀ (i : Nat) (r : RV), rs[i]? = some r → r.one = true) (hf : ∀ (i : Nat) (x : SV) (r : RV), cs[i]? = some x → rs[i]? = some r → Fz τ h x r) : Fz τ h (.agg cs) (.agg rs)
  | fn (f : FuncId) (cs : List SV) (rs : List RV) (hl : cs.length = rs.length) (hf : ∀ (i : Nat) (x : SV) (r : RV), cs[i]? = some x → rs[i]? = some r → Fz τ h x r) : Fz τ h (.fn f cs) (.fn f rs)
  | ifc (t : TypeId) (x : SV) (r : RV) (hf : Fz τ h x r) : Fz τ h (.ifc t x) (.ifc t r)

/-- The value of the call's end as the caller's. -/
inductive Rn (τ : Nat → Option Nat) (h : Hp) : SV → SV → Prop where
  | dead (x : SV) : Rn τ h x .dead
  | fz (x : SV) (r : RV) (hf : Fz τ h x r) : Rn τ h x (.rv r)
  | ptr (j id off : Nat) (hj : τ j = some id) : Rn τ h (.ptr j off) (.ptr id off)
  | ept (j id ver i off : Nat) (hj : τ j = some id) : Rn τ h (.ept j ver i off) (.ept id ver i off)
  | row (j id ver len : Nat) (hj : τ j = some id) : Rn τ h (.row j ver len) (.row id ver len)
  | win (j id ver off len : Nat) (hj : τ j = some id) : Rn τ h (.win j ver off len) (.win id ver off len)
  | agg (xs ys : List SV) (hl : xs.length = ys.length) (hf : ∀ (i : Nat) (x y : SV), xs[i]? = some x → ys[i]? = some y → Rn τ h x y) : Rn τ h (.agg xs) (.agg ys)
  | tup (xs ys : List SV) (hl : xs.length = ys.length) (hf : ∀ (i : Nat) (x y : SV), xs[i]? = some x → ys[i]? = some y → Rn τ h x y) : Rn τ h (.tup xs) (.tup ys)
  | fn (f : FuncId) (xs ys : List SV) (hl : xs.length = ys.length) (hf : ∀ (i : Nat) (x y : SV), xs[i]? = some x → ys[i]? = some y → Rn τ h x y) : Rn τ h (.fn f xs) (.fn f ys)
  | ifc (t : TypeId) (x y : SV) (hf : Rn τ h x y) : Rn τ h (.ifc t x) (.ifc t y)

def RnL (τ : Nat → Option Nat) (h : Hp) (xs ys : List SV) : Prop := xs.length = ys.length ∧ ∀ (i : Nat) (x y : SV), xs[i]? = some x → ys[i]? = some y → Rn τ h x y

inductive RnH (τ : Nat → Option Nat) (h : Hp) : HB → HB → Prop where
  | var (xs ys : List SV) (hf : RnL τ h xs ys) : RnH τ h (.var xs) (.var ys)
  | row (e ver : Nat) (xs ys : List (List SV)) (hl : xs.length = ys.length) (hf : ∀ (i : Nat) (x y : List SV), xs[i]? = some x → ys[i]? = some y → RnL τ h x y) : RnH τ h (.row e ver xs) (.row e ver ys)

section leave
variable {w : World} {ok ok' : Nat → Prop} {rho rho' : Nat → Option Nat} {hp hp' : Hp} {τ : Nat → Option Nat}

theorem Fz.ro (hro : ∀ b, ok' b → ok b) (hfz : ∀ j b, τ j = none → (hp' j).isSome = true → rho' j = some b → ok b) (hmem : ∀ j hb, hp' j = some hb → HBRep w ok' rho' hp' j hb) {x : SV} {r : RV} {v : Value} (hr : Rp w ok' rho' hp' x v) (hf : Fz τ hp' x r) : RO w ok r v := by
  induction hf generalizing v with
  | rv r => cases hr with | rv _ _ h => exact h.mono fun b hb _ => ⟨hro b hb, rfl⟩
  | ptr j cs rs hj hh hl ho hf ih =>
    cases hr with
    | ptr _ _ _ h1 h0 h =>
      obtain ⟨b, hb, rfl⟩ := h cs hh
      rcases hmem j _ hh with ⟨h1, _⟩ | ⟨b', cur, t, h1, h2, h3⟩
      · rw [hb] at h1; cases h1
      · rw [hb] at h1; cases h1
        have hcell : ∀ (i : Nat) (r : RV), rs[i]? = some r → ∃ u, w.cell? ((⟨b, 0, none⟩ : Addr).add i) = some u ∧ RO w ok r u ∧ r.one = true := fun i r hi => by
          have hlt := (List.getElem?_eq_some_iff.1 hi).1
          have hx := List.getElem?_eq_getElem (l := cs) (i := i) (by omega)
          obtain ⟨u, a1, a2, a3⟩ := h3.2 i _ hx
          refine ⟨u, ?_, ih i _ r hx hi a3, ho i r hi⟩
          rw [add_lit, cell_blk h2]; exact a1
        refine .rop rs ⟨b, 0, none⟩ (fun i => (w.cell? ((⟨b, 0, none⟩ : Addr).add i)).getD undef) (fun i r hi => ?_) (fun i r hi => ?_) (fun i r hi => ?_)
        · obtain ⟨u, a1, _⟩ := hcell i r hi
          exact ⟨hfz j b hj (by simp [hh]) hb, by rw [a1]; rfl⟩
        · obtain ⟨u, _, _, a3⟩ := hcell i r hi; exact a3
        · obtain ⟨u, a1, a2, _⟩ := hcell i r hi; rw [a1]; exact a2
  | row j e ver len xs rs hj hh hl hx hm ho hf ih =>
    cases hr with
    | row _ _ _ _ h1 h0 hv h =>
      rcases h e xs hh with ⟨g1, rfl, g3⟩ | ⟨b, cap, cur, t, g1, rfl, g3, g4, g5, g6⟩
      · have : rs = [] := List.eq_nil_of_length_eq_zero (by omega)
        subst this
        exact .sl e [] none 0 (fun _ _ => undef) (fun _ => ⟨rfl, rfl⟩) (by simp) (by simp [maxLen]) (by simp) (fun i x j y hx => by simp at hx) (fun i x j y hx => by simp at hx) (fun i x j y hx => by simp at hx)
      · rcases hmem j _ hh with ⟨h1, _⟩ | ⟨b', cur', t', k1, k2, k3⟩
        · rw [g1] at h1; cases h1
        · rw [g1] at k1; cases k1
          rw [g3] at k2; cases k2
          obtain ⟨a1, a2, a3⟩ := k3
          have hlen : ∀ (i : Nat) (r : List RV), rs[i]? = some r → ∃ x, xs[i]? = some x ∧ x.length = e ∧ x.length = r.length := fun i r hi => by
            have hlt := (List.getElem?_eq_some_iff.1 hi).1
            have hxi := List.getElem?_eq_getElem (l := xs) (i := i) (by omega)
            exact ⟨_, hxi, a1 _ (List.getElem_mem _), hm i _ r hxi hi⟩
          have hcell : ∀ (i : Nat) (r : List RV) (k : Nat) (q : RV), rs[i]? = some r → r[k]? = some q → ∃ u, w.cell? ((⟨b, 0, none⟩ : Addr).add (i * e + k)) = some u ∧ RO w ok q u ∧ q.one = true := fun i r k q hi hk => by
            obtain ⟨x, hxi, hxe, hxr⟩ := hlen i r hi
            have hlt := (List.getElem?_eq_some_iff.1 hk).1
            have hy := List.getElem?_eq_getElem (l := x) (i := k) (by omega)
            obtain ⟨u, b1, b2, b3⟩ := a3 i x hxi k _ hy
            refine ⟨u, ?_, ih i x r k _ q hxi hi hy hk b3, ho i r k q hi hk⟩
            rw [add_lit, cell_blk g3, Nat.zero_add]; exact b1
          rw [← hl]
          refine .sl e rs (some ⟨b, 0, none⟩) cap (fun i k => (w.cell? ((⟨b, 0, none⟩ : Addr).add (i * e + k))).getD undef) (fun h => by cases h) (by omega) g5 (fun r hr => ?_) (fun i r k q hi hk => ?_) (fun i r k q hi hk => ?_) (fun i r k q hi hk => ?_)
          · obtain ⟨i, hi, rfl⟩ := List.mem_iff_getElem.1 hr
            obtain ⟨x, _, b1, b2⟩ := hlen i _ (List.getElem?_eq_getElem hi)
            omega
          · obtain ⟨u, b1, _⟩ := hcell i r k q hi hk
            exact ⟨_, rfl, hfz j b hj (by simp [hh]) g1, by rw [b1]; rfl⟩
          · obtain ⟨u, _, _, b3⟩ := hcell i r k q hi hk; exact b3
          · obtain ⟨u, b1, b2, _⟩ := hcell i r k q hi hk; rw [b1]; exact b2
  | win j ver off e len cs rs hj hh hl hx hm ho hf ih =>
    cases hr with
    | win _ _ _ _ _ h1 h0 hv hr hc =>
      obtain ⟨ad, cap, rfl, g1, g2, g3, g4⟩ := hc cs hh
      rw [← hl]
      have key : ∀ (i : Nat) (r : List RV) (k : Nat) (q : RV), rs[i]? = some r → r[k]? = some q → ∃ a u, ad = some a ∧ ok a.block ∧ w.cell? (a.add (i * e + k)) = some u ∧ RO w ok q u := fun i r k q hi hk => by
        have hlt := (List.getElem?_eq_some_iff.1 hi).1
        have hre := hm r (List.mem_of_getElem? hi)
        have hkl := (List.getElem?_eq_some_iff.1 hk).1
        obtain ⟨b, hb, rfl⟩ := g4 (by omega)
        rcases hmem j _ hh with ⟨h1, _, _, h2⟩ | ⟨b', cur, t, a1, a2, a3⟩
        · cases h2
        · rw [hb] at a1; cases a1
          have hik : i * e + k < len * e := by
            have : (i + 1) * e ≤ len * e := Nat.mul_le_mul_right _ (by omega)
            rw [Nat.add_mul] at this; omega
          have hy := List.getElem?_eq_getElem (l := cs) (i := off + (i * e + k)) (by omega)
          obtain ⟨u, b1, b2, b3⟩ := a3.2 _ _ hy
          refine ⟨⟨b, off, none⟩, u, rfl, hfz j b hj (by simp [hh]) hb, ?_, ih i r k _ q hi hy hk b3⟩
          rw [add_lit, cell_blk a2]; simpa using b1
      refine .sl e rs ad cap (fun i k => match ad with | some a => (w.cell? (a.add (i * e + k))).getD undef | none => undef) (fun h => ?_) (by omega) g2 hm (fun i r k q hi hk => ?_) ho (fun i r k q hi hk => ?_)
      · have := g3 h; exact ⟨List.eq_nil_of_length_eq_zero (by omega), this⟩
      · obtain ⟨a, u, rfl, b1, b2, b3⟩ := key i r k q hi hk
        exact ⟨a, rfl, b1, by simp only [b2]; rfl⟩
      · obtain ⟨a, u, rfl, b1, b2, b3⟩ := key i r k q hi hk
        simp only [b2]; exact b3
  | agg cs rs hl ho hf ih =>
    cases hr with
    | agg _ vs hvl h1 hy =>
      refine .agg rs vs (by omega) (fun i r hi => ?_) (fun i r hi => ?_)
      · have hlt := (List.getElem?_eq_some_iff.1 hi).1
        exact ho i r hi
      · have hlt := (List.getElem?_eq_some_iff.1 hi).1
        have hx := List.getElem?_eq_getElem (l := cs) (i := i) (by omega)
        exact ih i _ r hx hi (hy i _ hx)
  | fn f cs rs hl hf ih =>
    cases hr with
    | fn _ _ vs hvl hy =>
      refine .fn f rs vs (by omega) (fun i r hi => ?_)
      have hlt := (List.getElem?_eq_some_iff.1 hi).1
      have hx := List.getElem?_eq_getElem (l := cs) (i := i) (by omega)
      exact ih i _ r hx hi (hy i _ hx)
  | ifc t x r hf ih => cases hr with | ifc _ _ v0 h0 => exact .ifc t r v0 (ih h0)

theorem Rp.leave (hro : ∀ b, ok' b → ok b) (hfz : ∀ j b, τ j = none → (hp' j).isSome = true → rho' j = some b → ok b) (hmem : ∀ j hb, hp' j = some hb → HBRep w ok' rho' hp' j hb)
    (hs : ∀ j id, τ j = some id → rho' j = rho id ∧ ((hp' j).isSome = true → (hp id).isSome = true) ∧ (∀ cs, hp id = some (.var cs) → ∃ cs', hp' j = some (.var cs')) ∧ ∀ e ver xs, hp id = some (.row e ver xs) → ∃ xs', hp' j = some (.row e ver xs'))
    {x y : SV} {v : Value} (hr : Rp w ok' rho' hp' x v) (hf : Rn τ hp' x y) : Rp w ok rho hp y v := by
  induction hf generalizing v with
  | dead x => exact .dead v
  | fz x r hf => exact .rv r v (Fz.ro hro hfz hmem hr hf)
  | ptr j id off hj =>
    obtain ⟨g1, g2, g3, g4⟩ := hs j id hj
    cases hr with
    | ptr _ _ _ h1 h0 h =>
      refine .ptr id off v h1 (g2 h0) (fun cs hc => ?_)
      obtain ⟨cs', hc'⟩ := g3 cs hc
      rw [← g1]; exact h cs' hc'
  | ept j id ver i off hj =>
    obtain ⟨g1, g2, g3, g4⟩ := hs j id hj
    cases hr with
    | ept _ _ _ _ _ h1 h0 hv h =>
      refine .ept id ver i off v h1 (g2 h0) (fun e ver0 xs hx => ?_) (fun e xs hx => ?_)
      · obtain ⟨xs', hx'⟩ := g4 e ver0 xs hx; exact hv e ver0 xs' hx'
      · obtain ⟨xs', hx'⟩ := g4 e ver xs hx; rw [← g1]; exact h e xs' hx'
  | row j id ver len hj =>
    obtain ⟨g1, g2, g3, g4⟩ := hs j id hj
    cases hr with
    | row _ _ _ _ h1 h0 hv h =>
      refine .row id ver len v h1 (g2 h0) (fun e ver0 xs hx => ?_) (fun e xs hx => ?_)
      · obtain ⟨xs', hx'⟩ := g4 e ver0 xs hx; exact hv e ver0 xs' hx'
      · obtain ⟨xs', hx'⟩ := g4 e ver xs hx; rw [← g1]; exact h e xs' hx'
  | win j id ver off len hj =>
    obtain ⟨g1, g2, g3, g4⟩ := hs j id hj
    cases hr with
    | win _ _ _ _ _ h1 h0 hv hr hc =>
      refine .win id ver off len v h1 (g2 h0) (fun e ver0 xs hx => ?_) (fun e xs hx => ?_) (fun cs hx => ?_)
      · obtain ⟨xs', hx'⟩ := g4 e ver0 xs hx; exact hv e ver0 xs' hx'
      · obtain ⟨xs', hx'⟩ := g4 e ver xs hx; rw [← g1]; exact hr e xs' hx'
      · obtain ⟨cs', hx'⟩ := g3 cs hx; rw [← g1]; exact hc cs' hx'
  | agg xs ys hl h ih =>
    cases hr with
    | agg _ vs hvl h1 hy =>
      refine .agg ys vs (by omega) h1 (fun j y hyj => ?_)
      have hlt := (List.getElem?_eq_some_iff.1 hyj).1
      have hx := List.getElem?_eq_getElem (l := xs) (i := j) (by omega)
      exact ih j _ y hx hyj (hy j _ hx)
  | tup xs ys hl h ih =>
    cases hr with
    | tup _ vs hvl hy =>
      refine .tup ys vs (by omega) (fun j y hyj => ?_)
      have hlt := (List.getElem?_eq_some_iff.1 hyj).1
      have hx := List.getElem?_eq_getElem (l := xs) (i := j) (by omega)
      exact ih j _ y hx hyj (hy j _ hx)
  | fn f xs ys hl h ih =>
    cases hr with
    | fn _ _ vs hvl hy =>
      refine .fn f ys vs (by omega) (fun j y hyj => ?_)
      have hlt := (List.getElem?_eq_some_iff.1 hyj).1
      have hx := List.getElem?_eq_getElem (l := xs) (i := j) (by omega)
      exact ih j _ y hx hyj (hy j _ hx)
  | ifc t x y h ih => cases hr with | ifc _ _ v0 h0 => exact .ifc t y v0 (ih h0)

theorem CellsIn.leave (hro : ∀ b, ok' b → ok b) (hfz : ∀ j b, τ j = none → (hp' j).isSome = true → rho' j = some b → ok b) (hmem : ∀ j hb, hp' j = some hb → HBRep w ok' rho' hp' j hb)
    (hs : ∀ j id, τ j = some id → rho' j = rho id ∧ ((hp' j).isSome = true → (hp id).isSome = true) ∧ (∀ cs, hp id = some (.var cs) → ∃ cs', hp' j = some (.var cs')) ∧ ∀ e ver xs, hp id = some (.row e ver xs) → ∃ xs', hp' j = some (.row e ver xs'))
    {cur : Array Value} {off : Nat} {xs ys : List SV} (h : CellsIn w ok' rho' hp' cur off xs) (hb : RnL τ hp' xs ys) : CellsIn w ok rho hp cur off ys := fun j y hyj => by
  obtain ⟨hl, hb⟩ := hb
  have hlt := (List.getElem?_eq_some_iff.1 hyj).1
  have hx := List.getElem?_eq_getElem (l := xs) (i := j) (by omega)
  obtain ⟨v, h1, h2, h3⟩ := h j _ hx
  exact ⟨v, h1, h2, h3.leave hro hfz hmem hs (hb j _ y hx hyj)⟩

theorem HBRep.leave (hro : ∀ b, ok' b → ok b) (hfz : ∀ j b, τ j = none → (hp' j).isSome = true → rho' j = some b → ok b) (hmem : ∀ j hb, hp' j = some hb → HBRep w ok' rho' hp' j hb)
    (hs : ∀ j id, τ j = some id → rho' j = rho id ∧ ((hp' j).isSome = true → (hp id).isSome = true) ∧ (∀ cs, hp id = some (.var cs) → ∃ cs', hp' j = some (.var cs')) ∧ ∀ e ver xs, hp id = some (.row e ver xs) → ∃ xs', hp' j = some (.row e ver xs'))
    {j id : Nat} (hj : τ j = some id) {x y : HB} (h : HBRep w ok' rho' hp' j x) (hb : RnH τ hp' x y) : HBRep w ok rho hp id y := by
  have g1 := (hs j id hj).1
  rcases h with ⟨h1, e, ver, rfl⟩ | ⟨b, cur, t, h1, h2, h3⟩
  · cases hb with
    | row _ _ _ ys hl _ =>
      have : ys = [] := List.eq_nil_of_length_eq_zero (by simpa using hl.symm)
      subst this
      exact .inl ⟨g1.symm.trans h1, e, ver, rfl⟩
  · refine .inr ⟨b, cur, t, g1.symm.trans h1, h2, ?_⟩
    cases hb with
    | var xs ys hb => exact ⟨h3.1.trans hb.1, h3.2.leave hro hfz hmem hs hb⟩
    | row e ver xs ys hl hb =>
      obtain ⟨a1, a2, a3⟩ := h3
      refine ⟨fun y hy => ?_, by rw [← hl]; exact a2, fun i y hy => ?_⟩
      · obtain ⟨i, hi, rfl⟩ := List.mem_iff_getElem.1 hy
        have hx := List.getElem?_eq_getElem (l := xs) (i := i) (by omega)
        rw [← (hb i _ _ hx (List.getElem?_eq_getElem hi)).1]
        exact a1 _ (List.getElem_mem _)
      · have hlt := (List.getElem?_eq_some_iff.1 hy).1
        have hx := List.getElem?_eq_getElem (l := xs) (i := i) (by omega)
        exact (a3 i _ hx).leave hro hfz hmem hs (hb i _ y hx hy)
end leave
end Go.Eng

/- The contract of a function from the evaluation of its code. -/
namespace Go.Eng
open Go

/-- A result: a slot, or what lies behind a slot. -/
inductive RR where
  | t (n : Nat)
  | c (a n : Nat) (agg : Bool)
  deriving DecidableEq

def compRes (P : Program) : List ResultVar → Option (List RR)
  | [] => some []
  | .tmp t :: r => match compRes P r with
    | some l => some (.t t :: l)
    | none => none
  | .cell a t :: r => match szT P t, aggT P t, compRes P r with
    | some n, some agg, some l => some (.c a n agg :: l)
    | _, _, _ => none

def resL (en : Nat → SV) (hp : Hp) : List RR → Option (Prop × List SV)
  | [] => some (True, [])
  | .t n :: r => match resL en hp r with
    | some (p, xs) => some (p, en n :: xs)
    | none => none
  | .c a n agg :: r => match loadE n agg hp (en a), resL en hp r with
    | some (q, x, _, _), some (p, xs) => some (q ∧ p, x :: xs)
    | _, _ => none

def resT : List SV → SV
  | [x] => x
  | xs => .tup xs

def mkEnv : Nat → List SV → List (Nat × SV)
  | _, [] => []
  | n, x :: r => (n, x) :: mkEnv (n + 1) r

theorem lk_mkEnv : ∀ (xs : List SV) (n m : Nat), lk (mkEnv n xs) m = if n ≤ m then (xs[m - n]?).getD .dead else .dead
  | [], n, m => by simp [mkEnv, lk]
  | x :: r, n, m => by
    unfold mkEnv lk
    by_cases h : n = m
    · subst h; simp
    · rw [if_neg h, lk_mkEnv r (n + 1) m]
      by_cases h1 : n + 1 ≤ m
      · rw [if_pos h1, if_pos (by omega)]
        rw [show m - n = (m - (n + 1)) + 1 by omega, List.getElem?_cons_succ]
      · rw [if_neg h1, if_neg (by omega)]

/-- How a call may end. -/
structure Fin (σ : List Nat) (pre us : List (Nat × HB)) (rs : List RR) (sv : SV) (env : List (Nat × SV)) (h : List (Option HB)) (τ : Nat → Option Nat) : Prop where
  inj : ∀ i j id, τ i = some id → τ j = some id → i = j
  old : ∀ (j id : Nat), σ[j]? = some id → τ j = some id
  new : ∀ j id, τ j = some id → σ.length ≤ j → id ∈ us.map (·.1) ∧ ∀ q ∈ pre, q.1 ≠ id
  has : ∀ j id, τ j = some id → ∃ hb hb', hget h j = some hb ∧ RnH τ (hget h) hb hb' ∧ ∀ hp, PreOK hp pre → upl hp us id = some hb'
  all : ∀ q ∈ us, ∃ j, τ j = some q.1
  res : ∃ p xs, resL (lk env) (hget h) rs = some (p, xs) ∧ p ∧ Rn τ (hget h) (resT xs) sv

theorem upl_or {hp : Hp} : ∀ {us : List (Nat × HB)} {id : Nat}, id ∉ us.map (·.1) → upl hp us id = hp id
  | us, id, h => upl_not (fun q hq he => h (List.mem_map.2 ⟨q, hq, he⟩))

def resV (vs : List Value) : Value := match vs with
  | [v] => v
  | vs => .tuple vs.toArray

theorem rp_resT {w : World} {ok : Nat → Prop} {rho : Nat → Option Nat} {hp : Hp} {xs : List SV} {vs : List Value} (hl : vs.length = xs.length) (h : ∀ (j : Nat) (x : SV), xs[j]? = some x → Rp w ok rho hp x (vs.getD j undef)) : Rp w ok rho hp (resT xs) (resV vs) := by
  match xs, vs with
  | [], [] => exact .tup [] [] rfl h
  | [x], [v] => exact h 0 x rfl
  | x :: y :: r, u :: v :: s => exact .tup _ _ hl h

theorem load_addr {P : Program} {t : TypeId} {v x : Value} {w w' : World} (h : (Instr.loadAt t v).run P w = .ok x w') : (do loadVar t (← asAddr v) : Sem Value).run P w = .ok x w' := by
  cases v with
  | pointer a =>
    cases a with
    | some a => exact h
    | none => simp [Instr.loadAt, Instr.sureAddr, stuck, Result.andThen] at h
  | _ => simp [Instr.loadAt, Instr.sureAddr, stuck, Result.andThen] at h

theorem run_results {P : Program} {C : Ctx} {hp : Hp} {w : World} {rho : Nat → Option Nat} (R : RepH C hp w rho) {en : Nat → SV} {tmps : Array Value} (he : ∀ n, Rp w (okk C rho hp) rho hp (en n) (tmps.getD n undef)) {fn : Func} {rs : List RR} (h : compRes P fn.results.toList = some rs) {p : Prop} {xs : List SV} (hr : resL en hp rs = some (p, xs)) (hp' : p) :
    ∃ vs, (results fn tmps).run P w = .ok (resV vs) w ∧ Rp w (okk C rho hp) rho hp (resT xs) (resV vs) := by
  have key : ∀ (l : List ResultVar) (rs : List RR) (p : Prop) (xs : List SV), compRes P l = some rs → resL en hp rs = some (p, xs) → p → ∃ vs, vs.length = xs.length ∧ (∀ (j : Nat) (x : SV), xs[j]? = some x → Rp w (okk C rho hp) rho hp x (vs.getD j undef)) ∧ (l.mapM fun r => (match r with
      | .tmp t => pure (tmps.getD t undef)
      | .cell a t => do loadVar t (← asAddr (tmps.getD a undef)) : Sem Value)).run P w = .ok vs w := by
    intro l
    induction l with
    | nil => intro rs p xs h hr hp; cases h; cases hr; exact ⟨[], rfl, fun j x hx => by simp at hx, rfl⟩
    | cons x r ih =>
      intro rs p xs h hr hp
      cases x with
      | tmp t =>
        unfold compRes at h
        split at h
        · rename_i l hl
          cases h
          unfold resL at hr
          split at hr
          · rename_i p0 xs0 hr0
            cases hr
            obtain ⟨vs, h1, h2, h3⟩ := ih l p xs0 hl hr0 hp
            refine ⟨tmps.getD t undef :: vs, by simp [h1], fun j x hx => ?_, ?_⟩
            · cases j with
              | zero => simp at hx; subst hx; exact he t
              | succ j => exact h2 j x (by simpa using hx)
            · simp only [List.mapM_cons, Sem.run_bind, Sem.run_pure, h3, Result.andThen]
          · cases hr
        · cases h
      | cell a t =>
        unfold compRes at h
        split at h
        · rename_i n agg l hs ha hl
          cases h
          unfold resL at hr
          split at hr
          · rename_i q x u rd p0 xs0 hE hr0
            cases hr
            obtain ⟨vs, h1, h2, h3⟩ := ih l p0 xs0 hl hr0 hp.2
            obtain ⟨_, y, hy1, hy2⟩ := load_good R hs ha (he a) hE hp.1
            refine ⟨y :: vs, by simp [h1], fun j x hx => ?_, ?_⟩
            · cases j with
              | zero => simp at hx; subst hx; exact hy2
              | succ j => exact h2 j x (by simpa using hx)
            · have := load_addr hy1
              rw [List.mapM_cons, Sem.run_bind]
              refine (congrArg (fun r => Result.andThen r _) this).trans ?_
              simp only [Result.andThen, Sem.run_bind, h3, Sem.run_pure]
          · cases hr
        · cases h
  obtain ⟨vs, h1, h2, h3⟩ := key _ _ _ _ h hr hp'
  have hm : (fn.results.mapM fun r => (match r with
      | .tmp t => pure (tmps.getD t undef)
      | .cell a t => do loadVar t (← asAddr (tmps.getD a undef)) : Sem Value)).run P w = .ok vs.toArray w := by
    rw [Array.mapM_eq_mapM_toList, Sem.run_map, h3]
    rfl
  refine ⟨vs, ?_, rp_resT h1 h2⟩
  unfold results
  rw [Sem.run_bind]
  refine (congrArg (fun r => Result.andThen r _) hm).trans ?_
  show (pure _ : Sem Value).run P w = _
  rw [Sem.run_pure]
  match vs with
  | [] => rfl
  | [t] => rfl
  | t :: u :: r => rfl

section
variable {P : Program} {C : Ctx} {hp : Hp} {w : World} {rho : Nat → Option Nat}

/-- The context of the call: what the caller has becomes what is only read, but for the things handed in. -/
def inner (C : Ctx) (rho : Nat → Option Nat) (hp : Hp) (w : World) (N : Nat) (σ : List Nat) (hs0 : List (Option HB)) : Ctx :=
  ⟨w, okk C rho hp, fun b => ∃ (j : Nat) (id : Nat), σ[j]? = some id ∧ rho id = some b, N, fun j => (σ[j]?).bind rho, hget hs0⟩

theorem hget_some {hs : List (Option HB)} {j : Nat} {hb : HB} : hget hs j = some hb ↔ hs[j]? = some (some hb) := by
  unfold hget
  cases h : hs[j]? with
  | none => simp
  | some x => simp

theorem enter_ok (R : RepH C hp w rho) {N : Nat} {σ : List Nat} {hs0 : List (Option HB)} {pre : List (Nat × HB)} (hpre : PreOK hp pre) (hl : hs0.length = σ.length) (hinj : ∀ (i j id : Nat), σ[i]? = some id → σ[j]? = some id → i = j)
    (hσ : ∀ (j id : Nat), σ[j]? = some id → ∃ hb hb', hs0[j]? = some (some hb) ∧ (id, hb') ∈ pre ∧ BkH (fun j => σ[j]?) hb hb') :
    RepH (inner C rho hp w N σ hs0) (hget hs0) w (fun j => (σ[j]?).bind rho) ∧ (∀ b, okk C rho hp b → okk (inner C rho hp w N σ hs0) (fun j => (σ[j]?).bind rho) (hget hs0) b) ∧
    (∀ {x y : SV} {v : Value}, Rp w (okk C rho hp) rho hp y v → Bk (fun j => σ[j]?) x y → Rp w (okk (inner C rho hp w N σ hs0) (fun j => (σ[j]?).bind rho) (hget hs0)) (fun j => (σ[j]?).bind rho) (hget hs0) x v) := by
  have at_ : ∀ j hb, hget hs0 j = some hb → ∃ id hb', σ[j]? = some id ∧ hp id = some hb' ∧ BkH (fun j => σ[j]?) hb hb' := fun j hb h => by
    rw [hget_some] at h
    have hlt := (List.getElem?_eq_some_iff.1 h).1
    have hid := List.getElem?_eq_getElem (l := σ) (i := j) (by omega)
    obtain ⟨hb0, hb', h1, h2, h3⟩ := hσ j _ hid
    rw [h] at h1; cases h1
    exact ⟨_, hb', hid, hpre _ h2, h3⟩
  have hro : ∀ b, okk C rho hp b → okk (inner C rho hp w N σ hs0) (fun j => (σ[j]?).bind rho) (hget hs0) b := fun b hb => by
    refine ⟨.inl hb, fun j hj => ?_⟩
    obtain ⟨x, hx⟩ := Option.isSome_iff_exists.1 hj
    obtain ⟨id, hb', h1, h2, h3⟩ := at_ j x hx
    simp only [h1, Option.bind_some]
    exact hb.2 id (by simp [h2])
  have hs : ∀ (j id : Nat), σ[j]? = some id → (σ[j]?).bind rho = rho id ∧ ((hp id).isSome = true → (hget hs0 j).isSome = true) ∧ (∀ cs, hget hs0 j = some (.var cs) → ∃ cs', hp id = some (.var cs')) ∧ ∀ e ver xs, hget hs0 j = some (.row e ver xs) → ∃ xs', hp id = some (.row e ver xs') := fun j id h => by
    obtain ⟨hb0, hb', h1, h2, h3⟩ := hσ j id h
    refine ⟨by rw [h]; rfl, fun _ => by rw [hget_some.2 h1]; rfl, fun cs hc => ?_, fun e ver xs hc => ?_⟩
    · rw [hget_some.2 h1] at hc; cases hc
      cases h3 with
      | var _ ys _ => exact ⟨ys, hpre _ h2⟩
    · rw [hget_some.2 h1] at hc; cases hc
      cases h3 with
      | row _ _ _ ys _ _ => exact ⟨ys, hpre _ h2⟩
  refine ⟨⟨fun j hb h => ?_, fun i j b h1 h2 h3 h4 => ?_, fun j b h1 h2 => ?_, ⟨rfl, rfl, rfl, Nat.le_refl _, fun b _ _ => rfl⟩, fun j hb hb0 h1 h2 => ?_⟩, hro, fun hr hb => hr.back hro hs hb⟩
  · obtain ⟨id, hb', h1, h2, h3⟩ := at_ j hb h
    exact (R.heap id hb' h2).back hro hs h1 h3
  · obtain ⟨x, hx⟩ := Option.isSome_iff_exists.1 h1
    obtain ⟨y, hy⟩ := Option.isSome_iff_exists.1 h2
    obtain ⟨id, _, a1, a2, _⟩ := at_ i x hx
    obtain ⟨id', _, b1, b2, _⟩ := at_ j y hy
    simp only [a1, b1, Option.bind_some] at h3 h4
    obtain rfl := R.inj id id' b (by simp [a2]) (by simp [b2]) h3 h4
    exact hinj i j id a1 b1
  · obtain ⟨x, hx⟩ := Option.isSome_iff_exists.1 h1
    obtain ⟨id, _, a1, a2, _⟩ := at_ j x hx
    simp only [a1, Option.bind_some] at h2
    exact ⟨.inl ⟨h1, by simp only [inner, a1, Option.bind_some]; exact h2, j, id, a1, h2⟩, (R.own id b (by simp [a2]) h2).2⟩
  · have h2' : hget hs0 j = some hb0 := h2
    rw [h1] at h2'; cases h2'
    exact EvoHB.refl _ _ _

theorem leave_ok (R : RepH C hp w rho) {N : Nat} {σ : List Nat} {hs0 : List (Option HB)} {pre us : List (Nat × HB)} (hpre : PreOK hp pre) (hnew : NewOK C hp pre us)
    (hσ : ∀ (j id : Nat), σ[j]? = some id → ∃ hb hb', hs0[j]? = some (some hb) ∧ (id, hb') ∈ pre ∧ BkH (fun j => σ[j]?) hb hb')
    {w' : World} {rho' : Nat → Option Nat} {h : List (Option HB)} (R' : RepH (inner C rho hp w N σ hs0) (hget h) w' rho') {rs : List RR} {sv : SV} {env : List (Nat × SV)} {τ : Nat → Option Nat} (F : Fin σ pre us rs sv env h τ) :
    ∃ rhoF, Step C hp (upl hp us) w w' rho rhoF ∧ ∀ (x y : SV) (v : Value), Rp w' (okk (inner C rho hp w N σ hs0) rho' (hget h)) rho' (hget h) x v → Rn τ (hget h) x y → Rp w' (okk C rhoF (upl hp us)) rhoF (upl hp us) y v := by
  classical
  let rhoF : Nat → Option Nat := fun id => if h : ∃ j, τ j = some id then rho' h.choose else rho id
  have rT : ∀ j id, τ j = some id → rhoF id = rho' j := fun j id hj => by
    have hex : ∃ j, τ j = some id := ⟨j, hj⟩
    show (if h : ∃ j, τ j = some id then rho' h.choose else rho id) = _
    rw [dif_pos hex, F.inj _ _ _ hex.choose_spec hj]
  have rN : ∀ id, (¬ ∃ j, τ j = some id) → rhoF id = rho id := fun id hj => by
    show (if h : ∃ j, τ j = some id then rho' h.choose else rho id) = _
    rw [dif_neg hj]
  have hT : ∀ j id, τ j = some id → ∃ hb hb', hget h j = some hb ∧ RnH τ (hget h) hb hb' ∧ upl hp us id = some hb' := fun j id hj => by
    obtain ⟨hb, hb', h1, h2, h3⟩ := F.has j id hj
    exact ⟨hb, hb', h1, h2, h3 hp hpre⟩
  have hN : ∀ id, (¬ ∃ j, τ j = some id) → upl hp us id = hp id := fun id hj => upl_not (fun q hq he => hj (by rw [← he]; exact F.all q hq))
  have hold : ∀ j id, τ j = some id → (hp id).isSome = true → σ[j]? = some id := fun j id hj hs => by
    by_cases hlt : j < σ.length
    · have hid := List.getElem?_eq_getElem hlt
      have := F.old j _ hid
      rw [hj] at this; cases this
      exact hid
    · obtain ⟨hu, hq⟩ := F.new j id hj (by omega)
      obtain ⟨q, hq1, hq2⟩ := List.mem_map.1 hu
      rcases hnew q hq1 with ⟨hb, hm⟩ | ⟨hn, _⟩
      · exact absurd hq2 (hq (q.1, hb) hm)
      · rw [hq2] at hn; rw [hn] at hs; cases hs
  have hnone : ∀ j id, τ j = some id → hp id = none → C.h0 id = none := fun j id hj hn => by
    by_cases hlt : j < σ.length
    · have hid := List.getElem?_eq_getElem hlt
      have := F.old j _ hid
      rw [hj] at this; cases this
      obtain ⟨hb, hb', _, h2, _⟩ := hσ j _ hid
      rw [hpre _ h2] at hn; cases hn
    · obtain ⟨hu, hq⟩ := F.new j id hj (by omega)
      obtain ⟨q, hq1, hq2⟩ := List.mem_map.1 hu
      rcases hnew q hq1 with ⟨hb, hm⟩ | ⟨_, hn⟩
      · exact absurd hq2 (hq (q.1, hb) hm)
      · rw [← hq2]; exact hn
  have hsz : w.heap.size ≤ w'.heap.size := R'.fr.size
  have hblk : ∀ b, b < w.heap.size → (∀ j id, σ[j]? = some id → rho id ≠ some b) → w'.heap[b]? = w.heap[b]? := fun b hb hn => R'.fr.block b hb (fun ⟨j, id, h1, h2⟩ => hn j id h1 h2)
  have hin : ∀ (j id : Nat), σ[j]? = some id → (hp id).isSome = true := fun j id hj => by
    obtain ⟨hb, hb', _, h2, _⟩ := hσ j id hj
    rw [hpre _ h2]; rfl
  have hjs : ∀ j id, τ j = some id → (hget h j).isSome = true := fun j id hj => by
    obtain ⟨hb, _, h1, _⟩ := hT j id hj
    rw [h1]; rfl
  have ownT : ∀ j id b, τ j = some id → rho' j = some b → ((σ[j]? = some id ∧ rho id = some b) ∨ w.heap.size ≤ b) ∧ b < w'.heap.size := fun j id b hj hb => by
    obtain ⟨h1, h2⟩ := R'.own j b (hjs j id hj) hb
    refine ⟨?_, h2⟩
    rcases h1 with ⟨a1, a2, _⟩ | a
    · left
      have a2' : (σ[j]?).bind rho = some b := a2
      cases hid : σ[j]? with
      | none => rw [hid] at a2'; cases a2'
      | some id' =>
        rw [hid] at a2'
        have := F.old j id' hid
        rw [hj] at this; cases this
        exact ⟨rfl, a2'⟩
    · exact .inr a
  -- blocks that the caller only reads are the call's to read, and stay so
  have okIn : ∀ b, okk (inner C rho hp w N σ hs0) rho' (hget h) b → okk C rhoF (upl hp us) b := fun b hb => by
    obtain ⟨h1, h2⟩ := hb
    have hb0 : C.okE b ∨ C.w0.heap.size ≤ b := by
      rcases h1 with a | a
      · exact a.1
      · exact .inr (Nat.le_trans R.fr.size a)
    refine ⟨hb0, fun id hid he => ?_⟩
    by_cases hr : ∃ j, τ j = some id
    · obtain ⟨j, hj⟩ := hr
      rw [rT j id hj] at he
      exact h2 j (hjs j id hj) he
    · rw [hN id hr] at hid
      rw [rN id hr] at he
      rcases h1 with a | a
      · exact a.2 id hid he
      · have := (R.own id b hid he).2
        have a' : w.heap.size ≤ b := a
        omega
  have okfz : ∀ j b, τ j = none → (hget h j).isSome = true → rho' j = some b → okk C rhoF (upl hp us) b := fun j b hj hs hb => by
    have hbw : w.heap.size ≤ b := by
      rcases (R'.own j b hs hb).1 with ⟨a1, a2, _⟩ | a
      · have a2' : (σ[j]?).bind rho = some b := a2
        cases hid : σ[j]? with
        | none => rw [hid] at a2'; cases a2'
        | some id' => rw [F.old j id' hid] at hj; cases hj
      · exact a
    refine ⟨.inr (Nat.le_trans R.fr.size hbw), fun id hid he => ?_⟩
    by_cases hr : ∃ j, τ j = some id
    · obtain ⟨i, hi⟩ := hr
      rw [rT i id hi] at he
      have := R'.inj i j b (hjs i id hi) hs he hb
      subst this
      rw [hi] at hj; cases hj
    · rw [hN id hr] at hid
      rw [rN id hr] at he
      have := (R.own id b hid he).2
      omega
  have hs : ∀ j id, τ j = some id → rho' j = rhoF id ∧ ((hget h j).isSome = true → (upl hp us id).isSome = true) ∧ (∀ cs, upl hp us id = some (.var cs) → ∃ cs', hget h j = some (.var cs')) ∧ ∀ e ver xs, upl hp us id = some (.row e ver xs) → ∃ xs', hget h j = some (.row e ver xs') := fun j id hj => by
    obtain ⟨hb, hb', h1, h2, h3⟩ := hT j id hj
    refine ⟨(rT j id hj).symm, fun _ => by rw [h3]; rfl, fun cs hc => ?_, fun e ver xs hc => ?_⟩
    · rw [h3] at hc; cases hc
      cases h2 with
      | var xs _ _ => exact ⟨xs, h1⟩
    · rw [h3] at hc; cases hc
      cases h2 with
      | row _ _ xs _ _ _ => exact ⟨xs, h1⟩
  have okM : ∀ b, okk C rho hp b → b < w.heap.size → okk C rhoF (upl hp us) b ∧ w'.heap[b]? = w.heap[b]? := fun b hb hlt => by
    refine ⟨⟨hb.1, fun id hid he => ?_⟩, hblk b hlt (fun j id hj he => hb.2 id (hin j id hj) he)⟩
    by_cases hr : ∃ j, τ j = some id
    · obtain ⟨j, hj⟩ := hr
      rw [rT j id hj] at he
      rcases (ownT j id b hj he).1 with ⟨a1, a2⟩ | a
      · exact hb.2 id (hin j id a1) a2
      · omega
    · rw [hN id hr] at hid
      rw [rN id hr] at he
      exact hb.2 id hid he
  have evM : ∀ id hb, hp id = some hb → ∃ hb', upl hp us id = some hb' ∧ EvoHB w w' (rho id) (rhoF id) hb hb' := fun id hb hq => by
    by_cases hr : ∃ j, τ j = some id
    · obtain ⟨j, hj⟩ := hr
      obtain ⟨hbj, hb', h1, h2, h3⟩ := hT j id hj
      refine ⟨hb', h3, ?_⟩
      have hid := hold j id hj (by rw [hq]; rfl)
      obtain ⟨hb0, hbp, g1, g2, g3⟩ := hσ j id hid
      have := hpre _ g2
      rw [hq] at this; cases this
      have ev := R'.evo j hbj hb0 h1 (hget_some.2 g1)
      have ev' : EvoHB w w' (rho id) (rho' j) hb0 hbj := by
        have e : (inner C rho hp w N σ hs0).rho0 j = rho id := by show (σ[j]?).bind rho = _; rw [hid]; rfl
        rw [e] at ev; exact ev
      rw [rT j id hj]
      cases g3 with
      | var xs ys hb =>
        cases h2 with
        | var xs2 ys2 hf => exact ev'
        | row => exact ev'.elim
      | row e ver xs ys hl hb =>
        cases h2 with
        | var => exact ev'.elim
        | row e2 ver2 xs2 ys2 hl2 hf => exact ev'
    · refine ⟨hb, by rw [hN id hr]; exact hq, ?_⟩
      rw [rN id hr]
      cases hb with
      | var cs => rfl
      | row e ver xs =>
        refine ⟨Nat.le_refl _, fun _ => ⟨rfl, rfl, fun b hb cur t hc => ⟨cur, t, ?_, rfl⟩⟩⟩
        rw [hblk b ((R.own id b (by rw [hq]; rfl) hb).2) (fun j id' hj he => ?_)]; exact hc
        obtain rfl := R.inj id id' b (by rw [hq]; rfl) (hin j id' hj) hb he
        exact hr ⟨j, F.old j id hj⟩
  have E : Evo w w' (okk C rho hp) (okk C rhoF (upl hp us)) rho rhoF hp (upl hp us) := Evo.of okM evM
  refine ⟨rhoF, ⟨⟨fun id hb hq => ?_, fun i j b h1 h2 h3 h4 => ?_, fun id b h1 h2 => ?_, ⟨R'.fr.os.trans R.fr.os, R'.fr.tape.trans R.fr.tape, R'.fr.output.trans R.fr.output, Nat.le_trans R.fr.size hsz, fun b h1 h2 => ?_⟩, fun id hb hb0 h1 h2 => ?_⟩, E⟩, fun x y v hr hf => hr.leave okIn okfz (fun j hb hj => R'.heap j hb hj) hs hf⟩
  · by_cases hr : ∃ j, τ j = some id
    · obtain ⟨j, hj⟩ := hr
      obtain ⟨hbj, hb', h1, h2, h3⟩ := hT j id hj
      rw [hq] at h3; cases h3
      exact (R'.heap j hbj h1).leave okIn okfz (fun j hb hj => R'.heap j hb hj) hs hj h2
    · rw [hN id hr] at hq
      rcases R.heap id hb hq with ⟨a1, a2⟩ | ⟨b, cur, t, a1, a2, a3⟩
      · exact .inl ⟨(rN id hr).trans a1, a2⟩
      · refine .inr ⟨b, cur, t, (rN id hr).trans a1, ?_, a3.mono E⟩
        rw [hblk b ((R.own id b (by rw [hq]; rfl) a1).2) (fun j id' hj he => ?_)]; exact a2
        obtain rfl := R.inj id id' b (by rw [hq]; rfl) (hin j id' hj) a1 he
        exact hr ⟨j, F.old j id hj⟩
  · by_cases hi : ∃ k, τ k = some i <;> by_cases hj : ∃ k, τ k = some j
    · obtain ⟨k, hk⟩ := hi
      obtain ⟨l, hl⟩ := hj
      rw [rT k i hk] at h3
      rw [rT l j hl] at h4
      have := R'.inj k l b (hjs k i hk) (hjs l j hl) h3 h4
      subst this
      rw [hk] at hl; cases hl; rfl
    · obtain ⟨k, hk⟩ := hi
      rw [rT k i hk] at h3
      rw [rN j hj] at h4
      rw [hN j hj] at h2
      rcases (ownT k i b hk h3).1 with ⟨a1, a2⟩ | a
      · exact R.inj i j b (hin k i a1) h2 a2 h4
      · have := (R.own j b h2 h4).2; omega
    · obtain ⟨k, hk⟩ := hj
      rw [rT k j hk] at h4
      rw [rN i hi] at h3
      rw [hN i hi] at h1
      rcases (ownT k j b hk h4).1 with ⟨a1, a2⟩ | a
      · exact R.inj i j b h1 (hin k j a1) h3 a2
      · have := (R.own i b h1 h3).2; omega
    · rw [rN i hi] at h3; rw [hN i hi] at h1
      rw [rN j hj] at h4; rw [hN j hj] at h2
      exact R.inj i j b h1 h2 h3 h4
  · by_cases hr : ∃ j, τ j = some id
    · obtain ⟨j, hj⟩ := hr
      rw [rT j id hj] at h2
      obtain ⟨a, a'⟩ := ownT j id b hj h2
      refine ⟨?_, a'⟩
      rcases a with ⟨a1, a2⟩ | a
      · exact (R.own id b (hin j id a1) a2).1
      · exact .inr (Nat.le_trans R.fr.size a)
    · rw [hN id hr] at h1
      rw [rN id hr] at h2
      obtain ⟨a, a'⟩ := R.own id b h1 h2
      exact ⟨a, by omega⟩
  · rw [hblk b (by have := R.fr.size; omega) (fun j id hj he => ?_)]
    · exact R.fr.block b h1 h2
    · rcases (R.own id b (hin j id hj) he).1 with a | a
      · exact h2 a.2.2
      · omega
  · by_cases hq : ∃ hbm, hp id = some hbm
    · obtain ⟨hbm, hq⟩ := hq
      obtain ⟨hb', a1, a2⟩ := evM id hbm hq
      rw [h1] at a1; cases a1
      exact (R.evo id hbm hb0 hq h2).trans a2
    · have hn : hp id = none := by cases hq2 : hp id with
        | none => rfl
        | some x => exact absurd ⟨x, hq2⟩ hq
      by_cases hr : ∃ j, τ j = some id
      · obtain ⟨j, hj⟩ := hr
        rw [hnone j id hj hn] at h2; cases h2
      · rw [hN id hr, hn] at h1; cases h1
end

/-- A function as the engine has it: its number, its code, its results. -/
structure FnOK (P : Program) (f : FuncId) (N : Nat) (ac : AC) (rs : List RR) : Prop where
  call : callable P f = true
  ex : ∃ fn c, P.funcs[f]? = some fn ∧ fn.body = some c ∧ fn.ntmps = N ∧ comp P N c = some ac ∧ compRes P fn.results.toList = some rs

def fnCheck (P : Program) (f : FuncId) (N : Nat) (rs : List RR) : Option AC := match P.funcs[f]? with
  | some fn => if callable P f && fn.ntmps == N then match fn.body, compRes P fn.results.toList with
    | some c, some rs' => if rs' = rs then comp P N c else none
    | _, _ => none
    else none
  | none => none

theorem fnOK_of {P : Program} {f : FuncId} {N : Nat} {ac : AC} {rs : List RR} (h : fnCheck P f N rs = some ac) : FnOK P f N ac rs := by
  unfold fnCheck at h
  split at h
  · rename_i fn hf
    split at h
    · rename_i hc
      simp only [Bool.and_eq_true, beq_iff_eq] at hc
      split at h
      · rename_i c rs' hb hr
        split at h
        · rename_i he; subst he
          exact ⟨hc.1, fn, c, hf, hb, hc.2, h, hr⟩
        · cases h
      · cases h
    · cases h
  · cases h

theorem callR_of {P : Program} {f : FuncId} {N : Nat} {ac : AC} {rs : List RR} (H : FnOK P f N ac rs) {args : List SV} {pre us : List (Nat × HB)} {sv : SV} (σ : List Nat) (hs0 : List (Option HB)) (args0 : List SV)
    (hargs : args.length ≤ N) (hA : BkL (fun j => σ[j]?) args0 args) (hl : hs0.length = σ.length) (hinj : ∀ (i j id : Nat), σ[i]? = some id → σ[j]? = some id → i = j)
    (hσ : ∀ (j id : Nat), σ[j]? = some id → ∃ hb hb', hs0[j]? = some (some hb) ∧ (id, hb') ∈ pre ∧ BkH (fun j => σ[j]?) hb hb')
    (hrun : ∀ K : Ex → St → Prop, (∀ env h env' h' τ, Ent σ.length ⟨env, h⟩ ⟨env', h'⟩ → Fin σ pre us rs sv env' h' τ → K .normal ⟨env, h⟩ ∧ K .ret ⟨env, h⟩) → G P σ.length [.c ac] K (mkEnv 0 args0) hs0) : CallR P f args pre us sv := by
  obtain ⟨hcall, fn, c, hf, hb, hN, hc, hr⟩ := H
  subst hN
  refine ⟨hcall, fun C hp w rho vs hpre hnew R hvl hvs => ?_⟩
  obtain ⟨R0, hro, hbk⟩ := enter_ok R (N := fn.ntmps) hpre hl hinj hσ
  refine calls_of_wp hf hb ?_
  have hG := hrun (fun e s => (∀ id, e ≠ .exit id) ∧ ∃ s' τ, Ent σ.length s s' ∧ Fin σ pre us rs sv s'.env s'.h τ) (fun env h env' h' τ hE hF => ⟨⟨by simp, ⟨env', h'⟩, τ, hE, hF⟩, ⟨by simp, ⟨env', h'⟩, τ, hE, hF⟩⟩)
  have R1 : RepS (inner C rho hp w fn.ntmps σ hs0) σ.length ⟨mkEnv 0 args0, hs0⟩ { tmps := vs.toArray ++ Array.replicate (fn.ntmps - vs.toArray.size) undef, defers := [] } w := by
    refine ⟨⟨_, R0, fun n => ?_, ?_, rfl⟩, by rw [← hl]; exact Nat.le_refl _, fun id hid => ?_⟩
    · show Rp _ _ _ _ (lk (mkEnv 0 args0) n) _
      rw [lk_mkEnv, if_pos (Nat.zero_le _), Nat.sub_zero]
      cases hx : args0[n]? with
      | none => exact .dead _
      | some x =>
        have hlt := (List.getElem?_eq_some_iff.1 hx).1
        have hy := List.getElem?_eq_getElem (l := args) (i := n) (by have := hA.1; omega)
        have hv := hbk (hvs n _ hy) (hA.2 n x _ hx hy)
        have : (vs.toArray ++ Array.replicate (fn.ntmps - vs.toArray.size) undef).getD n undef = vs.getD n undef := by
          have hn : n < vs.length := by have := hA.1; omega
          simp [Array.getD_eq_getD_getElem?, List.getD_eq_getElem?_getD, Array.getElem?_append, hn]
        rw [this]; exact hv
    · show (vs.toArray ++ Array.replicate (fn.ntmps - vs.toArray.size) undef).size = fn.ntmps
      simp; omega
    · show hget hs0 id = none
      unfold hget
      rw [List.getElem?_eq_none (by omega)]
  refine w_sound c ac _ _ _ _ _ hc hG R1 (fun e s a w' hk RS => ?_)
  obtain ⟨hne, s', τ, hE, F⟩ := hk
  obtain ⟨⟨rho', RF⟩, _, _⟩ := hE _ _ _ RS
  obtain ⟨rhoF, hS, hL⟩ := leave_ok R hpre hnew hσ RF.mem F
  obtain ⟨p, xs, r1, r2, r3⟩ := F.res
  obtain ⟨vs, v1, v2⟩ := run_results RF.mem RF.env hr r1 r2
  have hres := hL _ _ _ v2 r3
  cases e with
  | normal => exact ⟨RF.defers, _, v1, _, rhoF, rfl, hS, hres⟩
  | exit id => exact absurd rfl (hne id)
  | ret => exact ⟨RF.defers, _, v1, _, rhoF, rfl, hS, hres⟩
end Go.Eng

/- Saying less of a state: things dropped, or given up to be only read; nil slices taken as rows. -/
namespace Go.Eng
open Go

theorem ent_gen {n0 : Nat} {env env' : List (Nat × SV)} {h h' : List (Option HB)} (τ : Nat → Option Nat) (hn : n0 ≤ h'.length)
    (hid : ∀ j i, τ j = some i → i = j) (hkeep : ∀ j, τ j = none → n0 ≤ j)
    (hh : ∀ j, (∃ hb hb', τ j = some j ∧ hget h j = some hb ∧ hget h' j = some hb' ∧ RnH τ (hget h) hb hb') ∨ (hget h' j = none ∧ (τ j = none ∨ hget h j = none)))
    (he : ∀ n, Rn τ (hget h) (lk env n) (lk env' n)) : Ent n0 ⟨env, h⟩ ⟨env', h'⟩ := by
  intro C a w R
  obtain ⟨⟨rho, RF⟩, _, h0⟩ := R
  have hsub : ∀ j hb', hget h' j = some hb' → τ j = some j ∧ ∃ hb, hget h j = some hb ∧ RnH τ (hget h) hb hb' := fun j hb' hj => by
    rcases hh j with ⟨hb, hb2, a1, a2, a3, a4⟩ | ⟨a1, _⟩
    · rw [hj] at a3; cases a3; exact ⟨a1, hb, a2, a4⟩
    · rw [hj] at a1; cases a1
  have hsome : ∀ j, (hget h' j).isSome = true → (hget h j).isSome = true := fun j hj => by
    obtain ⟨hb', hb2⟩ := Option.isSome_iff_exists.1 hj
    obtain ⟨_, hb, h1, _⟩ := hsub j hb' hb2
    rw [h1]; rfl
  have M := RF.mem
  have okIn : ∀ b, okk C rho (hget h) b → okk C rho (hget h') b := fun b hb => ⟨hb.1, fun id hid => hb.2 id (hsome id hid)⟩
  have okfz : ∀ j b, τ j = none → (hget h j).isSome = true → rho j = some b → okk C rho (hget h') b := fun j b hj hs hb => by
    refine ⟨?_, fun id hid he => ?_⟩
    · rcases (M.own j b hs hb).1 with ⟨a1, _⟩ | a
      · rw [h0 j (hkeep j hj)] at a1; cases a1
      · exact .inr a
    · have := M.inj id j b (hsome id hid) hs he hb
      subst this
      obtain ⟨hb', hb2⟩ := Option.isSome_iff_exists.1 hid
      obtain ⟨h1, _⟩ := hsub id hb' hb2
      rw [h1] at hj; cases hj
  have hs : ∀ j i, τ j = some i → rho j = rho i ∧ ((hget h j).isSome = true → (hget h' i).isSome = true) ∧ (∀ cs, hget h' i = some (.var cs) → ∃ cs', hget h j = some (.var cs')) ∧ ∀ e ver xs, hget h' i = some (.row e ver xs) → ∃ xs', hget h j = some (.row e ver xs') := fun j i hj => by
    obtain rfl := hid j i hj
    refine ⟨rfl, fun hi => ?_, fun cs hc => ?_, fun e ver xs hc => ?_⟩
    · rcases hh i with ⟨hb, hb2, a1, a2, a3, a4⟩ | ⟨_, a1 | a1⟩
      · rw [a3]; rfl
      · rw [a1] at hj; cases hj
      · rw [a1] at hi; cases hi
    · obtain ⟨_, hb, h1, h2⟩ := hsub i _ hc
      cases h2 with
      | var xs _ _ => exact ⟨xs, h1⟩
    · obtain ⟨_, hb, h1, h2⟩ := hsub i _ hc
      cases h2 with
      | row _ _ xs _ _ _ => exact ⟨xs, h1⟩
  refine ⟨⟨rho, ⟨⟨fun j hb' hj => ?_, fun i j b h1 h2 => M.inj i j b (hsome i h1) (hsome j h2), fun j b h1 h2 => M.own j b (hsome j h1) h2, M.fr, fun j hb' hb0 h1 h2 => ?_⟩, fun n => (RF.env n).leave okIn okfz (fun j hb hj => M.heap j hb hj) hs (he n), RF.size, RF.defers⟩⟩, hn, h0⟩
  · obtain ⟨a1, hb, a2, a3⟩ := hsub j hb' hj
    exact (M.heap j hb a2).leave okIn okfz (fun j hb hj => M.heap j hb hj) hs a1 a3
  · obtain ⟨a1, hb, a2, a3⟩ := hsub j hb' h1
    have ev := M.evo j hb hb0 a2 h2
    cases a3 with
    | var xs ys _ => cases hb0 <;> exact ev
    | row e ver xs ys _ _ => cases hb0 <;> exact ev

theorem lk_dead_of {P : SV → SV → Prop} (hd : ∀ x, P x .dead) {env : List (Nat × SV)} : ∀ {env' : List (Nat × SV)}, (∀ p ∈ env', P (lk env p.1) p.2) → ∀ n, P (lk env n) (lk env' n)
  | [], _, n => hd _
  | (m, v) :: r, h, n => by
    show P (lk env n) (if m = n then v else lk r n)
    by_cases he : m = n
    · rw [if_pos he, ← he]; exact h (m, v) (by simp)
    · rw [if_neg he]; exact lk_dead_of hd (fun p hp => h p (List.mem_cons_of_mem _ hp)) n

theorem ent_refl (n0 : Nat) (s : St) : Ent n0 s s := fun _ _ _ R => R
theorem Ent.trans {n0 : Nat} {s s1 s2 : St} (h : Ent n0 s s1) (k : Ent n0 s1 s2) : Ent n0 s s2 := fun C a w R => k C a w (h C a w R)

/-- Slots dropped. -/
theorem ent_env {n0 : Nat} {env env' : List (Nat × SV)} {h : List (Option HB)} (he : ∀ p ∈ env', p.2 = .dead ∨ lk env p.1 = p.2) : Ent n0 ⟨env, h⟩ ⟨env', h⟩ := by
  intro C a w R
  obtain ⟨⟨rho, RF⟩, h1, h0⟩ := R
  refine ⟨⟨rho, RF.mem, fun n => ?_, RF.size, RF.defers⟩, h1, h0⟩
  have := lk_dead_of (P := fun x y => y = .dead ∨ x = y) (fun x => .inl rfl) he n
  rcases this with h | h
  · show Rp _ _ _ _ (lk env' n) _
    rw [h]; exact .dead _
  · show Rp _ _ _ _ (lk env' n) _
    rw [← h]; exact RF.env n

/-- Values that lead to no memory that is only read. -/
inductive FlatR : RV → Prop where
  | int (k : IntKind) (n : Int) : FlatR (.int k n)
  | bool (b : Bool) : FlatR (.bool b)
  | str (s : ByteArray) : FlatR (.str s)
  | nilp : FlatR .nilp
  | nilsl : FlatR .nilsl
  | nili : FlatR .nili
  | nilf : FlatR .nilf
  | ifc (t : TypeId) (r : RV) (h : FlatR r) : FlatR (.ifc t r)
  | agg (rs : List RV) (h : ∀ (j : Nat) (r : RV), rs[j]? = some r → FlatR r) : FlatR (.agg rs)
  | fn (f : FuncId) (rs : List RV) (h : ∀ (j : Nat) (r : RV), rs[j]? = some r → FlatR r) : FlatR (.fn f rs)

theorem RO.flat {w w' : World} {ok ok' : Nat → Prop} {r : RV} {v : Value} (hr : RO w ok r v) (hf : FlatR r) : RO w' ok' r v := by
  induction hf generalizing v with
  | int k n => cases hr; exact .int k n
  | bool b => cases hr; exact .bool b
  | str s => cases hr; exact .str s
  | nilp => cases hr; exact .nilp
  | nilsl => cases hr; exact .nilsl
  | nili => cases hr; exact .nili
  | nilf => cases hr; exact .nilf
  | ifc t r h ih => cases hr with | ifc _ _ v h => exact .ifc t r v (ih h)
  | agg rs h ih => cases hr with | agg _ vs hl h1 hy => exact .agg rs vs hl h1 (fun j y hj => ih j y hj (hy j y hj))
  | fn f rs h ih => cases hr with | fn _ _ vs hl hy => exact .fn f rs vs hl (fun j y hj => ih j y hj (hy j y hj))

inductive FlatS : SV → Prop where
  | dead : FlatS .dead
  | rv (r : RV) (h : FlatR r) : FlatS (.rv r)
  | ptr (id off : Nat) : FlatS (.ptr id off)
  | ept (id ver i off : Nat) : FlatS (.ept id ver i off)
  | row (id ver len : Nat) : FlatS (.row id ver len)
  | win (id ver off len : Nat) : FlatS (.win id ver off len)
  | agg (cs : List SV) (h : ∀ (j : Nat) (y : SV), cs[j]? = some y → FlatS y) : FlatS (.agg cs)
  | tup (cs : List SV) (h : ∀ (j : Nat) (y : SV), cs[j]? = some y → FlatS y) : FlatS (.tup cs)
  | fn (f : FuncId) (cs : List SV) (h : ∀ (j : Nat) (y : SV), cs[j]? = some y → FlatS y) : FlatS (.fn f cs)
  | ifc (t : TypeId) (x : SV) (h : FlatS x) : FlatS (.ifc t x)

inductive FlatH : HB → Prop where
  | var (cs : List SV) (h : ∀ (j : Nat) (y : SV), cs[j]? = some y → FlatS y) : FlatH (.var cs)
  | row (e ver : Nat) (xs : List (List SV)) (h : ∀ (i : Nat) (x : List SV) (j : Nat) (y : SV), xs[i]? = some x → x[j]? = some y → FlatS y) : FlatH (.row e ver xs)

section
variable {w : World} {ok ok' : Nat → Prop} {rho rho' : Nat → Option Nat} {hp hp' : Hp}

theorem Rp.flat (hs : ∀ j, (hp j).isSome = true → hp' j = hp j ∧ rho' j = rho j) {s : SV} {v : Value} (hr : Rp w ok rho hp s v) (hf : FlatS s) : Rp w ok' rho' hp' s v := by
  induction hf generalizing v with
  | dead => exact .dead v
  | rv r h => cases hr with | rv _ _ hr => exact .rv r v (hr.flat h)
  | ptr id off => cases hr with | ptr _ _ _ h1 h0 h => obtain ⟨a, b⟩ := hs id h0; exact .ptr id off v h1 (by rw [a]; exact h0) (by rw [a, b]; exact h)
  | ept id ver i off => cases hr with | ept _ _ _ _ _ h1 h0 hv h => obtain ⟨a, b⟩ := hs id h0; exact .ept id ver i off v h1 (by rw [a]; exact h0) (by rw [a]; exact hv) (by rw [a, b]; exact h)
  | row id ver len => cases hr with | row _ _ _ _ h1 h0 hv h => obtain ⟨a, b⟩ := hs id h0; exact .row id ver len v h1 (by rw [a]; exact h0) (by rw [a]; exact hv) (by rw [a, b]; exact h)
  | win id ver off len => cases hr with | win _ _ _ _ _ h1 h0 hv hr hc => obtain ⟨a, b⟩ := hs id h0; exact .win id ver off len v h1 (by rw [a]; exact h0) (by rw [a]; exact hv) (by rw [a, b]; exact hr) (by rw [a, b]; exact hc)
  | agg cs h ih => cases hr with | agg _ vs hl h1 hy => exact .agg cs vs hl h1 (fun j y hj => ih j y hj (hy j y hj))
  | tup cs h ih => cases hr with | tup _ vs hl hy => exact .tup cs vs hl (fun j y hj => ih j y hj (hy j y hj))
  | fn f cs h ih => cases hr with | fn _ _ vs hl hy => exact .fn f cs vs hl (fun j y hj => ih j y hj (hy j y hj))
  | ifc t x h ih => cases hr with | ifc _ _ v0 h0 => exact .ifc t x v0 (ih h0)

theorem CellsIn.flat (hs : ∀ j, (hp j).isSome = true → hp' j = hp j ∧ rho' j = rho j) {cur : Array Value} {off : Nat} {cs : List SV} (h : CellsIn w ok rho hp cur off cs) (hf : ∀ (j : Nat) (y : SV), cs[j]? = some y → FlatS y) : CellsIn w ok' rho' hp' cur off cs := fun j y hy => by
  obtain ⟨v, h1, h2, h3⟩ := h j y hy
  exact ⟨v, h1, h2, h3.flat hs (hf j y hy)⟩

theorem HBRep.flat (hs : ∀ j, (hp j).isSome = true → hp' j = hp j ∧ rho' j = rho j) {id : Nat} {hb : HB} (hid : (hp id).isSome = true) (h : HBRep w ok rho hp id hb) (hf : FlatH hb) : HBRep w ok' rho' hp' id hb := by
  have hr := (hs id hid).2
  rcases h with ⟨h1, h2⟩ | ⟨b, cur, t, h1, h2, h3⟩
  · exact .inl ⟨hr.trans h1, h2⟩
  · refine .inr ⟨b, cur, t, hr.trans h1, h2, ?_⟩
    cases hf with
    | var cs hf => exact ⟨h3.1, h3.2.flat hs hf⟩
    | row e ver xs hf => exact ⟨h3.1, h3.2.1, fun i x hx => (h3.2.2 i x hx).flat hs (fun j y hy => hf i x j y hx hy)⟩
end

theorem upl_none {us : List (Nat × HB)} {id : Nat} : (upl (fun _ => none) us id).isSome = true ↔ id ∈ us.map (·.1) := by
  have gen : ∀ (us : List (Nat × HB)) (hp : Hp), (upl hp us id).isSome = true ↔ (hp id).isSome = true ∨ id ∈ us.map (·.1) := by
    intro us
    induction us with
    | nil => intro hp; simp [upl]
    | cons q r ih =>
      intro hp
      obtain ⟨i, hb⟩ := q
      rw [upl, ih]
      by_cases h : id = i
      · subst h; simp
      · rw [up_other _ _ h]; simp [h]
  rw [gen]; simp

theorem upl_val {us : List (Nat × HB)} {id : Nat} {hb : HB} : ∀ {hp : Hp}, upl hp us id = some hb → hp id = some hb ∨ (id, hb) ∈ us := by
  induction us with
  | nil => intro hp h; exact .inl h
  | cons q r ih =>
    intro hp h
    obtain ⟨i, hb0⟩ := q
    rcases ih h with h | h
    · by_cases he : id = i
      · subst he; rw [up_same] at h; cases h; exact .inr (by simp)
      · rw [up_other _ _ he] at h; exact .inl h
    · exact .inr (by simp [h])

/-- What is the caller's own is lent to a call that only reads it. -/
theorem callR_borrow {P : Program} {f : FuncId} {rs : List RV} {args : List SV} {pre us : List (Nat × HB)} {sv : SV} (H : CallR P f (rs.map .rv) [] us sv) (hl : args.length = rs.length)
    (hz : ∀ hp, PreOK hp pre → ∀ (j : Nat) (y : SV) (r : RV), args[j]? = some y → rs[j]? = some r → Fz (fun _ => none) hp y r) (hfl : FlatS sv) (hus : ∀ q ∈ us, FlatH q.2 ∧ ∀ p ∈ pre, p.1 ≠ q.1) : CallR P f args pre us sv := by
  refine ⟨H.1, fun C hp w rho vs hpre hnew R hvl hvs => ?_⟩
  let C2 : Ctx := ⟨w, fun b => okk C rho hp b ∨ ∃ id, (hp id).isSome = true ∧ rho id = some b, fun _ => False, C.N, fun _ => none, fun _ => none⟩
  have hok2 : ∀ b, C2.okE b → okk C2 (fun _ => none) (fun _ => none) b := fun b hb => ⟨.inl hb, fun id hid => by simp at hid⟩
  have R2 : RepH C2 (fun _ => none) w (fun _ => none) := ⟨fun id hb h => (by cases h), fun i j b h => (by simp at h), fun i b h => (by simp at h), ⟨rfl, rfl, rfl, Nat.le_refl _, fun b _ _ => rfl⟩, fun id hb hb0 h => (by cases h)⟩
  have hfresh : ∀ id, id ∈ us.map (·.1) → hp id = none ∧ C.h0 id = none := fun id hid => by
    obtain ⟨q, hq, rfl⟩ := List.mem_map.1 hid
    rcases hnew q hq with ⟨hb, hm⟩ | h
    · exact absurd rfl ((hus q hq).2 (q.1, hb) hm)
    · exact h
  refine (H.2 C2 (fun _ => none) w (fun _ => none) vs (fun q hq => by simp at hq) (fun q hq => .inr ⟨rfl, rfl⟩) R2 (by simp [hvl, hl]) (fun j s hj => ?_)).mono ?_
  · rw [List.getElem?_map] at hj
    cases hr : rs[j]? with
    | none => simp [hr] at hj
    | some r =>
      simp [hr] at hj
      subst hj
      have hlt := (List.getElem?_eq_some_iff.1 hr).1
      have hy := List.getElem?_eq_getElem (l := args) (i := j) (by omega)
      refine .rv _ _ (Fz.ro (τ := fun _ => none) (fun b hb => hok2 b (.inl hb)) (fun i b _ hi hb => hok2 b (.inr ⟨i, hi, hb⟩)) (fun i hb hi => R.heap i hb hi) (hvs j _ hy) (hz hp hpre j _ r hy hr))
  · rintro e w' ⟨v, rho', rfl, S, hR⟩
    have R' := S.mem
    have hblk : ∀ b, b < w.heap.size → w'.heap[b]? = w.heap[b]? := fun b hb => R'.fr.block b hb (fun h => h)
    have hsz : w.heap.size ≤ w'.heap.size := R'.fr.size
    have hnewb : ∀ id b, id ∈ us.map (·.1) → rho' id = some b → w.heap.size ≤ b ∧ b < w'.heap.size := fun id b hid hb => by
      obtain ⟨h1, h2⟩ := R'.own id b (upl_none.2 hid) hb
      rcases h1 with ⟨a, _⟩ | a
      · cases a
      · exact ⟨a, h2⟩
    let rhoF : Nat → Option Nat := fun id => if id ∈ us.map (·.1) then rho' id else rho id
    have rT : ∀ id, id ∈ us.map (·.1) → rhoF id = rho' id := fun id h => if_pos h
    have rN : ∀ id, id ∉ us.map (·.1) → rhoF id = rho id := fun id h => if_neg h
    have hN : ∀ id, id ∉ us.map (·.1) → upl hp us id = hp id := fun id h => upl_or h
    have hT : ∀ id, id ∈ us.map (·.1) → upl hp us id = upl (fun _ => none) us id := fun id h => upl_mem h
    have hs : ∀ j, (upl (fun _ => none) us j).isSome = true → upl hp us j = upl (fun _ => none) us j ∧ rhoF j = rho' j := fun j hj => ⟨hT j (upl_none.1 hj), rT j (upl_none.1 hj)⟩
    have okM : ∀ b, okk C rho hp b → b < w.heap.size → okk C rhoF (upl hp us) b ∧ w'.heap[b]? = w.heap[b]? := fun b hb hlt => by
      refine ⟨⟨hb.1, fun id hid he => ?_⟩, hblk b hlt⟩
      by_cases hm : id ∈ us.map (·.1)
      · rw [rT id hm] at he
        have := (hnewb id b hm he).1; omega
      · rw [hN id hm] at hid
        rw [rN id hm] at he
        exact hb.2 id hid he
    have E : Evo w w' (okk C rho hp) (okk C rhoF (upl hp us)) rho rhoF hp (upl hp us) := Evo.of okM (fun id hb hq => by
      have hm : id ∉ us.map (·.1) := fun hm => by rw [(hfresh id hm).1] at hq; cases hq
      refine ⟨hb, by rw [hN id hm]; exact hq, ?_⟩
      rw [rN id hm]
      cases hb with
      | var cs => rfl
      | row e ver xs => exact ⟨Nat.le_refl _, fun _ => ⟨rfl, rfl, fun b hb cur t hc => ⟨cur, t, by rw [hblk b (R.own id b (by rw [hq]; rfl) hb).2]; exact hc, rfl⟩⟩⟩)
    refine ⟨v, rhoF, rfl, ⟨⟨fun id hb hq => ?_, fun i j b h1 h2 h3 h4 => ?_, fun id b h1 h2 => ?_, ⟨R'.fr.os.trans R.fr.os, R'.fr.tape.trans R.fr.tape, R'.fr.output.trans R.fr.output, Nat.le_trans R.fr.size hsz, fun b h1 h2 => ?_⟩, fun id hb hb0 h1 h2 => ?_⟩, E⟩, hR.flat hs hfl⟩
    · by_cases hm : id ∈ us.map (·.1)
      · rw [hT id hm] at hq
        have hfh : FlatH hb := by
          rcases upl_val hq with h | h
          · cases h
          · exact (hus _ h).1
        exact (R'.heap id hb hq).flat hs (upl_none.2 hm) hfh
      · rw [hN id hm] at hq
        rcases R.heap id hb hq with ⟨a1, a2⟩ | ⟨b, cur, t, a1, a2, a3⟩
        · exact .inl ⟨(rN id hm).trans a1, a2⟩
        · refine .inr ⟨b, cur, t, (rN id hm).trans a1, ?_, a3.mono E⟩
          rw [hblk b (R.own id b (by rw [hq]; rfl) a1).2]; exact a2
    · by_cases hi : i ∈ us.map (·.1) <;> by_cases hj : j ∈ us.map (·.1)
      · rw [rT i hi] at h3; rw [rT j hj] at h4
        exact R'.inj i j b (upl_none.2 hi) (upl_none.2 hj) h3 h4
      · rw [rT i hi] at h3; rw [rN j hj] at h4; rw [hN j hj] at h2
        have h5 := hnewb i b hi h3; have h6 := R.own j b h2 h4; omega
      · rw [rN i hi] at h3; rw [rT j hj] at h4; rw [hN i hi] at h1
        have h5 := hnewb j b hj h4; have h6 := R.own i b h1 h3; omega
      · rw [rN i hi] at h3; rw [rN j hj] at h4; rw [hN i hi] at h1; rw [hN j hj] at h2
        exact R.inj i j b h1 h2 h3 h4
    · by_cases hm : id ∈ us.map (·.1)
      · rw [rT id hm] at h2
        obtain ⟨a1, a2⟩ := hnewb id b hm h2
        exact ⟨.inr (Nat.le_trans R.fr.size a1), a2⟩
      · rw [hN id hm] at h1; rw [rN id hm] at h2
        obtain ⟨a1, a2⟩ := R.own id b h1 h2
        exact ⟨a1, by omega⟩
    · rw [hblk b (by have := R.fr.size; omega)]; exact R.fr.block b h1 h2
    · by_cases hm : id ∈ us.map (·.1)
      · rw [(hfresh id hm).2] at h2; cases h2
      · rw [hN id hm] at h1
        have ev := R.evo id hb hb0 h1 h2
        obtain ⟨hb', g1, g2⟩ : ∃ hb', upl hp us id = some hb' ∧ EvoHB w w' (rho id) (rhoF id) hb hb' := by
          refine ⟨hb, by rw [hN id hm]; exact h1, ?_⟩
          rw [rN id hm]
          cases hb with
          | var cs => rfl
          | row e ver xs => exact ⟨Nat.le_refl _, fun _ => ⟨rfl, rfl, fun b hb cur t hc => ⟨cur, t, by rw [hblk b (R.own id b (by rw [h1]; rfl) hb).2]; exact hc, rfl⟩⟩⟩
        rw [hN id hm, h1] at g1; cases g1
        exact ev.trans g2
end Go.Eng

/- Finishing: what a call gives; arithmetic; how lists of values are compared. -/
namespace Go.Eng
open Go

def RnAll (τ : Nat → Option Nat) (h : Hp) : List SV → List SV → Prop
  | [], [] => True
  | x :: xs, y :: ys => Rn τ h x y ∧ RnAll τ h xs ys
  | _, _ => False

theorem rnAll_iff {τ : Nat → Option Nat} {h : Hp} : ∀ {xs ys : List SV}, RnAll τ h xs ys ↔ RnL τ h xs ys
  | [], [] => ⟨fun _ => ⟨rfl, fun i x y hx => by simp at hx⟩, fun _ => trivial⟩
  | [], _ :: _ => ⟨fun h => h.elim, fun h => by simp [RnL] at h⟩
  | _ :: _, [] => ⟨fun h => h.elim, fun h => by simp [RnL] at h⟩
  | x :: xs, y :: ys => by
    unfold RnAll
    rw [rnAll_iff (xs := xs) (ys := ys)]
    constructor
    · rintro ⟨h1, h2, h3⟩
      refine ⟨by simp [h2], fun i a b ha hb => ?_⟩
      cases i with
      | zero => simp at ha hb; subst ha; subst hb; exact h1
      | succ i => exact h3 i a b (by simpa using ha) (by simpa using hb)
    · rintro ⟨h2, h3⟩
      exact ⟨h3 0 x y rfl rfl, by simpa using h2, fun i a b ha hb => h3 (i + 1) a b (by simpa using ha) (by simpa using hb)⟩

section
variable {τ : Nat → Option Nat} {h : Hp}
theorem rn_rv {r r' : RV} : Rn τ h (.rv r) (.rv r') ↔ r = r' := ⟨fun hr => by cases hr with | fz _ _ hf => cases hf; rfl, fun e => by subst e; exact .fz _ _ (.rv _)⟩
theorem rn_dead {x : SV} : Rn τ h x .dead ↔ True := ⟨fun _ => trivial, fun _ => .dead _⟩
theorem rn_ptr {i j o o' : Nat} : Rn τ h (.ptr i o) (.ptr j o') ↔ τ i = some j ∧ o = o' := ⟨fun hr => by cases hr with | ptr _ _ _ hj => exact ⟨hj, rfl⟩, fun ⟨e, e'⟩ => by subst e'; exact .ptr _ _ _ e⟩
theorem rn_row {i j v v' l l' : Nat} : Rn τ h (.row i v l) (.row j v' l') ↔ τ i = some j ∧ v = v' ∧ l = l' := ⟨fun hr => by cases hr with | row _ _ _ _ hj => exact ⟨hj, rfl, rfl⟩, fun ⟨e, e', e2⟩ => by subst e'; subst e2; exact .row _ _ _ _ e⟩
theorem rn_agg {xs ys : List SV} : Rn τ h (.agg xs) (.agg ys) ↔ RnAll τ h xs ys := by rw [rnAll_iff]; exact ⟨fun hr => by cases hr with | agg _ _ hl hf => exact ⟨hl, hf⟩, fun ⟨e, e'⟩ => .agg _ _ e e'⟩
theorem rn_tup {xs ys : List SV} : Rn τ h (.tup xs) (.tup ys) ↔ RnAll τ h xs ys := by rw [rnAll_iff]; exact ⟨fun hr => by cases hr with | tup _ _ hl hf => exact ⟨hl, hf⟩, fun ⟨e, e'⟩ => .tup _ _ e e'⟩
theorem rn_ifc {t t' : TypeId} {x y : SV} : Rn τ h (.ifc t x) (.ifc t' y) ↔ t = t' ∧ Rn τ h x y := ⟨fun hr => by cases hr with | ifc _ _ _ hf => exact ⟨rfl, hf⟩, fun ⟨e, e'⟩ => by subst e; exact .ifc _ _ _ e'⟩
end

def retP (τ : Nat → Option Nat) (h : Hp) (sv : SV) : Option (Prop × List SV) → Prop
  | some (p, xs) => p ∧ Rn τ h (resT xs) sv
  | none => False

/-- Calls that take and give pure values. -/
theorem callR_F {P : Program} {f : FuncId} {N : Nat} {ac : AC} {rs : List RR} (H : FnOK P f N ac rs) (aas : List RV) (sv : SV) (hN : aas.length ≤ N)
    (hrun : ∀ K : Ex → St → Prop, (∀ env h, retP (fun _ => none) (hget h) sv (resL (lk env) (hget h) rs) → K .normal ⟨env, h⟩ ∧ K .ret ⟨env, h⟩) → G P 0 [.c ac] K (mkEnv 0 (aas.map .rv)) []) : CallR P f (aas.map .rv) [] [] sv := by
  refine callR_of H [] [] (aas.map .rv) (by simpa using hN) ⟨rfl, fun i x y hx hy => ?_⟩ rfl (by simp) (by simp) (fun K hK => hrun K (fun env h hr => ?_))
  · rw [hx] at hy; cases hy
    rw [List.getElem?_map] at hx
    cases hr : aas[i]? with
    | none => simp [hr] at hx
    | some r => simp [hr] at hx; subst hx; exact .rv r
  · unfold retP at hr
    split at hr
    · rename_i p xs hres
      exact hK env h env h (fun _ => none) (ent_refl _ _) ⟨by simp, by simp, by simp, by simp, by simp, p, xs, hres, hr.1, hr.2⟩
    · exact hr.elim

theorem wrap_i64 {n : Int} (h1 : -9223372036854775808 ≤ n) (h2 : n < 9223372036854775808) : IntKind.i64.wrap n = n := by
  unfold IntKind.wrap
  simp only [IntKind.signed, IntKind.bits]
  by_cases h : (9223372036854775808 : Int) ≤ n % 18446744073709551616 <;> simp [h] <;> omega

end Go.Eng
