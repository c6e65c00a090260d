/- Each of the machine's operations that the engine takes. -/
import Derived.Test.YtjiipbccpfjefaaEngL
set_option linter.unusedSimpArgs false
set_option linter.unusedVariables false
namespace Go.Eng
open Go

inductive Args (w : World) (ok : Nat → Prop) (rho : Nat → Option Nat) (hp : Hp) (a : Act) : List SV → List Operand → Prop where
  | nil : Args w ok rho hp a [] []
  | cons {s : SV} {x : Operand} {ss : List SV} {xs : List Operand} (h : Rp w ok rho hp s (a.eval x)) (t : Args w ok rho hp a ss xs) : Args w ok rho hp a (s :: ss) (x :: xs)

section
variable {P : Program} {C : Ctx} {hp : Hp} {w : World} {rho : Nat → Option Nat}

theorem Args.length {ok : Nat → Prop} {a : Act} {ss : List SV} {xs : List Operand} (h : Args w ok rho hp a ss xs) : ss.length = xs.length := by
  induction h with
  | nil => rfl
  | cons _ _ ih => simp [ih]

theorem Args.get {ok : Nat → Prop} {a : Act} {ss : List SV} {xs : List Operand} (h : Args w ok rho hp a ss xs) : ∀ (j : Nat) (s : SV), ss[j]? = some s → Rp w ok rho hp s ((xs.map a.eval).getD j undef) := by
  induction h with
  | nil => intro j s hs; simp at hs
  | cons h _ ih =>
    intro j s hs
    cases j with
    | zero => simp at hs; subst hs; simpa using h
    | succ j => simp at hs; simpa using ih j s hs

theorem fits_get : ∀ (n : Nat) (ps : List (Nat × Nat)) (xs : List (List SV)), fits n ps xs → ∀ (j o k : Nat) (x : List SV), ps[j]? = some (o, k) → xs[j]? = some x → x.length = k ∧ o + k ≤ n
  | n, [], [], _, j, o, k, x, h, _ => by simp at h
  | n, [], _ :: _, h, _, _, _, _, _, _ => h.elim
  | n, _ :: _, [], h, _, _, _, _, _, _ => h.elim
  | n, (o, k) :: ps, x :: xs, h, j, o', k', x', h1, h2 => by
    obtain ⟨a, b, c⟩ := h
    cases j with
    | zero => simp at h1 h2; obtain ⟨rfl, rfl⟩ := h1; subst h2; exact ⟨a, b⟩
    | succ j => simp at h1 h2; exact fits_get n ps xs c j o' k' x' h1 h2

theorem allLen_mem {e : Nat} : ∀ {cs : List (List SV)}, allLen e cs → ∀ c ∈ cs, c.length = e
  | [], _, c, hc => by simp at hc
  | x :: r, h, c, hc => by
    rcases List.mem_cons.1 hc with rfl | hc
    · exact h.1
    · exact allLen_mem h.2 c hc

theorem mapM_some_get {α β : Type} (f : α → Option β) : ∀ (l : List α) (r : List β), l.mapM f = some r → r.length = l.length ∧ ∀ (j : Nat) (x : α), l[j]? = some x → r[j]? = f x ∧ (f x).isSome = true
  | [], r, h => by simp at h; subst h; exact ⟨rfl, fun j x hx => by simp at hx⟩
  | y :: l, r, h => by
    simp only [List.mapM_cons, Option.bind_eq_bind] at h
    cases hy : f y with
    | none => simp [hy] at h
    | some b =>
      cases hl : l.mapM f with
      | none => simp [hy, hl] at h
      | some bs =>
        simp [hy, hl] at h
        subst h
        obtain ⟨h1, h2⟩ := mapM_some_get f l bs hl
        refine ⟨by simp [h1], fun j x hx => ?_⟩
        cases j with
        | zero => simp at hx; subst hx; simp [hy]
        | succ j => simp at hx; simpa using h2 j x hx

theorem Args.zero {ok : Nat → Prop} {a : Act} {ss : List SV} (h : Args w ok rho hp a ss []) : ss = [] := by cases h; rfl
theorem Args.one {ok : Nat → Prop} {a : Act} {ss : List SV} {x : Operand} (h : Args w ok rho hp a ss [x]) : ∃ s, ss = [s] ∧ Rp w ok rho hp s (a.eval x) := by
  cases h with
  | cons h t => cases t; exact ⟨_, rfl, h⟩
theorem Args.two {ok : Nat → Prop} {a : Act} {ss : List SV} {x y : Operand} (h : Args w ok rho hp a ss [x, y]) : ∃ s t, ss = [s, t] ∧ Rp w ok rho hp s (a.eval x) ∧ Rp w ok rho hp t (a.eval y) := by
  cases h with
  | cons h t => obtain ⟨s, rfl, h2⟩ := t.one; exact ⟨_, _, rfl, h, h2⟩
theorem Args.three {ok : Nat → Prop} {a : Act} {ss : List SV} {x y z : Operand} (h : Args w ok rho hp a ss [x, y, z]) : ∃ s t r, ss = [s, t, r] ∧ Rp w ok rho hp s (a.eval x) ∧ Rp w ok rho hp t (a.eval y) ∧ Rp w ok rho hp r (a.eval z) := by
  cases h with
  | cons h t => obtain ⟨s, t, rfl, h2, h3⟩ := t.two; exact ⟨_, _, _, rfl, h, h2, h3⟩

theorem rp_int {ok : Nat → Prop} {k : IntKind} {n : Int} {v : Value} (h : Rp w ok rho hp (.rv (.int k n)) v) : v = .int k n := by
  cases h with | rv _ _ h => cases h; rfl
theorem rp_bool {ok : Nat → Prop} {b : Bool} {v : Value} (h : Rp w ok rho hp (.rv (.bool b)) v) : v = .bool b := by
  cases h with | rv _ _ h => cases h; rfl

theorem notnil_ptr {s : SV} {v : Value} (hv : Rp w (okk C rho hp) rho hp s v) {p : Prop} {rd : List Nat} (h : isNilSV hp s = some (p, false, rd)) (hp' : p) : ∃ ad, v = .pointer (some ad) := by
  cases hv with
  | rv r v hr =>
    cases r with
    | nilp => cases h
    | rop cs => cases hr; exact ⟨_, rfl⟩
    | _ => cases h
  | ptr id off _ h1 h0 hb =>
    simp only [isNilSV] at h
    split at h
    · rename_i cs hq
      obtain ⟨b', _, rfl⟩ := hb cs hq
      exact ⟨_, rfl⟩
    · cases h
  | ept id ver i off _ h1 h0 hle hb =>
    simp only [isNilSV] at h
    split at h
    · rename_i e ver' xs hq
      cases h; subst hp'
      obtain ⟨b', _, rfl⟩ := hb e xs hq
      exact ⟨_, rfl⟩
    · cases h
  | _ => cases h

theorem run_eqb {t : TypeId} (ht : P.underlying t = some .bool) (a b : Bool) : (binOp .eql t (.bool a) (.bool b)).run P w = .ok (.bool (a == b)) w ∧ (binOp .neq t (.bool a) (.bool b)).run P w = .ok (.bool !(a == b)) w := by
  have core : (Op.equal t (.bool a) (.bool b)).run P w = .ok (a == b) w := by
    have c : ∀ d, (Op.equalIn (d + 1) t (.bool a) (.bool b)).run P w = .ok (a == b) w := fun d => by
      simp [Op.equalIn, run_underlying ht]
    exact c 9999
  constructor <;> simp [binOp, core]

set_option maxHeartbeats 4000000 in
theorem op_sound {o : Oper} {ao : AO} {xs : List Operand} (hc : compOp P o.op = some (ao, xs)) (R : RepH C hp w rho) (a : Act) {ss : List SV} (A : Args w (okk C rho hp) rho hp a ss xs) {nx : Nat}
    {p : Prop} {sv : SV} {u : Option (Nat × HB)} {rd : List Nat} (hf : ∀ hb, u = some (nx, hb) → hp nx = none ∧ C.h0 nx = none) (hE : opE ao ss hp nx = some (p, sv, u, rd)) (hp' : p) : OpGood P C hp w rho o a sv u := by
  cases hop : o.op <;> rw [hop] at hc <;> unfold compOp at hc <;> (try dsimp only at hc) <;> (try (cases hc; done))
  case move x =>
    cases hc; obtain ⟨s, rfl, h⟩ := A.one; simp only [opE, o1] at hE; cases hE; exact good_read R (by simp [execOp, hop]) h
  case assign x =>
    cases hc; obtain ⟨s, rfl, h⟩ := A.one; simp only [opE, o1] at hE; cases hE; exact good_read R (by simp [execOp, hop]) h
  case pick c x y =>
    cases hc; obtain ⟨s1, s2, s3, rfl, h1, h2, h3⟩ := A.three
    simp only [opE, pickE] at hE
    split at hE
    · rename_i c' x' y' hh
      cases hE; cases hh
      have e1 := rp_bool h1
      refine good_read R (v := if c' then a.eval x else a.eval y) ?_ ?_
      · cases c' <;> simp [execOp, hop, e1, asBool]
      · cases c' <;> simp [h2, h3]
    · cases hE
  case alloc t =>
    split at hc
    · rename_i z hz
      cases hc; cases A.zero; simp only [opE, allocE] at hE; cases hE
      exact good_make (m := Instr.alloc t true (.tuple #[])) (fun w => by simp [execOp, hop]) (alloc_ok R (hf _ rfl).1 (hf _ rfl).2 hz _)
    · cases hc
  case box t x =>
    cases hc; obtain ⟨s, rfl, h⟩ := A.one
    simp only [opE, o1, boxE] at hE
    split at hE
    · rename_i cs hcs
      cases hE
      exact good_make (m := Instr.box t (a.eval x)) (fun w => by simp [execOp, hop]) (newVar_ok R (hf _ rfl).1 (hf _ rfl).2 t h hcs)
    · cases hE
  case build t parts =>
    split at hc
    · rename_i z ps hz hps
      split at hc
      · rename_i hfs
        cases hc
        simp only [opE, buildE] at hE
        split at hE
        · rename_i cs hcs
          split at hE
          · rename_i r hr
            cases hE
            obtain ⟨m1, m2⟩ := mapM_some_get _ _ _ hps
            refine good_read' R (m := Instr.build t (parts.map fun (i, x) => (i, a.eval x))) (fun w => by simp [execOp, hop]) ?_
            have := build_ok (P := P) (w := w) (rho := rho) (hp := hp) (ok := okk C rho hp) hz hfs (vs := (parts.toList.map (·.2)).map a.eval) (by simp [A.length]) A.get hcs hr (fun j o n x g1 g2 => fits_get _ _ _ hp' j o n x g1 g2) (pv := parts.toList.map fun (i, x) => (i, a.eval x)) (by simpa using m1.symm) (fun j i v hj => by
              rw [List.getElem?_map] at hj
              cases hpj : parts.toList[j]? with
              | none => simp [hpj] at hj
              | some q =>
                simp only [hpj, Option.map_some, Option.some.injEq, Prod.mk.injEq] at hj
                obtain ⟨rfl, rfl⟩ := hj
                refine ⟨by simp only [List.getElem?_map, hpj, Option.map_some], ?_⟩
                exact (m2 j q hpj).1)
            have he : (parts.map fun (i, x) => (i, a.eval x)) = (parts.toList.map fun (i, x) => (i, a.eval x)).toArray := by
              apply Array.ext'; simp
            rw [he]; exact this
          · cases hE
        · cases hE
      · cases hc
    · cases hc
  case buildSlice t len parts =>
    split at hc
    · rename_i et e by_ z hel
      split at hc
      · rename_i hidx
        cases hc
        obtain ⟨T, hz, hzl, hs⟩ := eltT_ok hel
        simp only [opE, bslE] at hE
        split at hE
        · rename_i cs hcs
          cases hE
          have hlen : parts.toList.length = len := by
            have := congrArg List.length hidx
            simpa using this
          have hsl : ss.length = len := by rw [A.length]; simpa using hlen
          have hlm : len ≤ maxLen := by
            have h1 := hp'.2
            have h2 := T.pos
            have : len * 1 ≤ len * e := Nat.mul_le_mul_left _ h2
            rw [hsl] at h1
            simp only [maxLen]; omega
          refine good_make (m := Instr.buildSlice t len (parts.map fun (i, x) => (i, a.eval x))) (fun w => by simp [execOp, hop]) ?_
          have := bsl_ok R (hf _ rfl).1 (hf _ rfl).2 T.ht hs hz (by rw [← hsl]; exact hp'.2) hlm hsl (vs := (parts.toList.map (·.2)).map a.eval) (by simp [A.length]) A.get hcs (allLen_mem hp'.1) (ps := parts.toList.map fun (i, x) => (i, a.eval x)) (by simpa using hlen) (fun j i v hj => by
            rw [List.getElem?_map] at hj
            cases hpj : parts.toList[j]? with
            | none => simp [hpj] at hj
            | some q =>
              simp only [hpj, Option.map_some, Option.some.injEq, Prod.mk.injEq] at hj
              obtain ⟨rfl, rfl⟩ := hj
              refine ⟨?_, by simp only [List.getElem?_map, hpj, Option.map_some]⟩
              have hj' : j < len := by rw [← hlen]; exact (List.getElem?_eq_some_iff.1 hpj).1
              have := congrArg (fun l : List Nat => l[j]?) hidx
              simp only [List.getElem?_map, hpj, Option.map_some, List.getElem?_range hj', Option.some.injEq] at this
              exact this)
          have he : (parts.map fun (i, x) => (i, a.eval x)) = (parts.toList.map fun (i, x) => (i, a.eval x)).toArray := by
            apply Array.ext'; simp
          rw [he, hsl]; exact this
        · cases hE
      · cases hc
    · cases hc
  case load t x =>
    split at hc
    · rename_i n agg hs ha
      cases hc; obtain ⟨s, rfl, h⟩ := A.one
      simp only [opE, o1] at hE
      obtain ⟨rfl, hx⟩ := load_good R hs ha h hE hp'
      exact good_read' R (m := Instr.loadAt t (a.eval x)) (fun w => by simp [execOp, hop]) hx
    · cases hc
  case store t x y =>
    split at hc
    · rename_i n hs
      cases hc; obtain ⟨s1, s2, rfl, h1, h2⟩ := A.two
      simp only [opE, o2] at hE
      obtain ⟨rfl, w', rho', hr, S⟩ := store_good R hs h1 h2 hE hp'
      exact ⟨.skip, undef, w', rho', by simp [execOp, hop, hr], .inr ⟨rfl, rfl⟩, S, .dead _⟩
    · cases hc
  case nilCheck x =>
    cases hc; obtain ⟨s, rfl, h⟩ := A.one
    simp only [opE, o1, nilchkE] at hE
    split at hE
    · rename_i p' rd' hn
      cases hE
      obtain ⟨ad, had⟩ := notnil_ptr h hn hp'
      exact good_read R (v := a.eval x) (by simp [execOp, hop, had]) h
    · cases hE
  case binOp op t x y yt =>
    have finI : ∀ (op : BinOp), (∃ k, P.underlying t = some (.int k)) → o.op = .binOp op t x y yt → some (AO.ibin op, [x, y]) = some (ao, xs) → OpGood P C hp w rho o a sv u := fun op _ hop hc => by
      cases hc; obtain ⟨s1, s2, rfl, h1, h2⟩ := A.two
      simp only [opE, o2, ibinE] at hE
      split at hE
      · split at hE
        · rename_i k a' k' b' p' r hb
          cases hE
          obtain ⟨rfl, hp2⟩ := hp'
          obtain ⟨g1, g2⟩ := run_ibin (P := P) (w := w) hb hp2 t
          refine good_read R (v := valOf r) ?_ (.rv _ _ (g2 _))
          simp [execOp, hop, rp_int h1, rp_int h2, eqGuard, g1]
        · cases hE
      · cases hE
    have finS : ∀ (op : BinOp), o.op = .binOp op t x y yt → some (AO.ishf op, [x, y]) = some (ao, xs) → OpGood P C hp w rho o a sv u := fun op hop hc => by
      cases hc; obtain ⟨s1, s2, rfl, h1, h2⟩ := A.two
      simp only [opE, o2, ishfE] at hE
      split at hE
      · split at hE
        · rename_i k1 a1 k2 b1 _ p' r hb
          cases hE
          obtain ⟨g1, g2⟩ := run_ishf (P := P) (w := w) (k' := k2) hb hp' t
          refine good_read R (v := valOf r) ?_ (.rv _ _ (g2 _))
          simp [execOp, hop, rp_int h1, rp_int h2, eqGuard, g1]
        · cases hE
      · cases hE
    have finB : ∀ (neg : Bool), P.underlying t = some .bool → o.op = .binOp (if neg then .neq else .eql) t x y yt → some (AO.eqb neg, [x, y]) = some (ao, xs) → OpGood P C hp w rho o a sv u := fun neg ht hop hc => by
      cases hc; obtain ⟨s1, s2, rfl, h1, h2⟩ := A.two
      simp only [opE, o2, eqbE] at hE
      split at hE
      · rename_i a' b'
        cases hE
        obtain ⟨g1, g2⟩ := run_eqb (P := P) (w := w) ht a' b'
        refine good_read R (v := .bool (if neg then !(a' == b') else a' == b')) ?_ (.rv _ _ (.bool _))
        cases neg <;> simp [execOp, hop, rp_bool h1, rp_bool h2, eqGuard, g1, g2]
      · cases hE
    have finN : ∀ (neg : Bool), (∃ el, P.underlying t = some (.pointer el)) → y = .const (.pointer none) → o.op = .binOp (if neg then .neq else .eql) t x y yt → some (AO.eqnil neg, [x]) = some (ao, xs) → OpGood P C hp w rho o a sv u := fun neg ⟨el, ht⟩ hy hop hc => by
      cases hc; obtain ⟨s1, rfl, h1⟩ := A.one
      simp only [opE, o1, eqnilE] at hE
      split at hE
      · rename_i p' b rd' hb
        cases hE
        obtain ⟨g1, g2⟩ := run_eq_nilp (P := P) ht h1 hb hp'
        have hey : a.eval y = .pointer none := by rw [hy]; rfl
        refine good_read R (v := .bool (b != neg)) ?_ (.rv _ _ (.bool _))
        have hg1 : ∀ v, (eqGuard .eql t x y v (.pointer none)).run P w = .ok () w := fun v => by cases v <;> simp [eqGuard]
        have hg2 : ∀ v, (eqGuard .neq t x y v (.pointer none)).run P w = .ok () w := fun v => by cases v <;> simp [eqGuard]
        cases neg <;> simp [execOp, hop, hey, hg1, hg2, g1, g2]
      · cases hE
    have finStr : ∀ (op : BinOp), o.op = .binOp op t x y yt → some (AO.sbin op, [x, y]) = some (ao, xs) → OpGood P C hp w rho o a sv u := fun op hop hc => by
      cases hc; obtain ⟨s1, s2, rfl, h1, h2⟩ := A.two
      simp only [opE, o2, sbinE] at hE
      split at hE
      · split at hE
        · rename_i a' b' p' r hb
          cases hE
          obtain ⟨g1, g2⟩ := run_sbin (P := P) (w := w) hb hp' t
          refine good_read R (v := valOf r) ?_ (.rv _ _ (g2 _))
          simp [execOp, hop, rp_str h1, rp_str h2, eqGuard, g1]
        · cases hE
      · cases hE
    have finO : ∀ (neg : Bool) (k : Nat) (u0 : Value), (k = 0 ∧ (∃ el, P.underlying t = some (.slice el)) ∧ u0 = .slice none 0 0) ∨ (k = 1 ∧ (∃ b1 b2 b3, P.underlying t = some (.func b1 b2 b3)) ∧ u0 = .nilFunc) ∨ (k = 2 ∧ (∃ ms, P.underlying t = some (.interface ms)) ∧ u0 = .nilIface) → y = .const u0 → o.op = .binOp (if neg then .neq else .eql) t x y yt → some (AO.eqnilo neg k, [x]) = some (ao, xs) → OpGood P C hp w rho o a sv u := fun neg k u0 hk hy hop hc => by
      cases hc; obtain ⟨s1, rfl, h1⟩ := A.one
      simp only [opE, o1, eqniloE] at hE
      split at hE
      · rename_i p' b rd' hb
        cases hE
        have hey : a.eval y = u0 := by rw [hy]; rfl
        refine good_read R (v := .bool (b != neg)) ?_ (.rv _ _ (.bool _))
        have hgg : ∀ op v, (eqGuard op t x y v u0).run P w = .ok () w := fun op v => by
          subst hy
          cases op <;> cases v <;> (rcases hk with ⟨_, _, rfl⟩ | ⟨_, _, rfl⟩ | ⟨_, _, rfl⟩) <;> simp [eqGuard]
        have key : (binOp .eql t (a.eval x) u0).run P w = .ok (.bool b) w ∧ (binOp .neq t (a.eval x) u0).run P w = .ok (.bool !b) w := by
          rcases hk with ⟨rfl, ⟨el, ht⟩, rfl⟩ | ⟨rfl, ⟨b1, b2, b3, ht⟩, rfl⟩ | ⟨rfl, ⟨ms, ht⟩, rfl⟩
          · obtain ⟨n1, n2⟩ := isNilSl_ok h1 hb hp'
            exact run_eq_nilo (.inl ⟨el, ht, rfl⟩) n1 (.inl ⟨n2, _, _, _, rfl⟩)
          · obtain ⟨n1, n2⟩ := isNilFn_ok h1 hb
            exact run_eq_nilo (.inr (.inl ⟨_, _, _, ht, rfl⟩)) n1 (.inr (.inl ⟨n2, rfl⟩))
          · obtain ⟨n1, n2⟩ := isNilIf_ok h1 hb
            exact run_eq_nilo (.inr (.inr ⟨_, ht, rfl⟩)) n1 (.inr (.inr ⟨n2, rfl⟩))
        obtain ⟨g1, g2⟩ := key
        cases neg <;> simp [execOp, hop, hey, hgg, g1, g2]
      · cases hE
    have finQ : ∀ (neg : Bool) (ks : List CK), aggT P t = some true → eqK P 64 t = some ks → P.eqGuardType P.depth t = false → o.op = .binOp (if neg then .neq else .eql) t x y yt → some (AO.eqs neg true ks, [x, y]) = some (ao, xs) → OpGood P C hp w rho o a sv u := fun neg ks ha hk hg hop hc => by
      cases hc; obtain ⟨s1, s2, rfl, h1, h2⟩ := A.two
      simp only [opE, o2, eqsE, if_true] at hE
      split at hE
      · rename_i xs' ys'
        generalize hvx : a.eval x = vx at h1
        generalize hvy : a.eval y = vy at h2
        cases h1 with
        | agg _ us hl1 g1 gy1 =>
          cases h2 with
          | agg _ vs hl2 g2 gy2 =>
            unfold eqsF at hE
            split at hE
            · rename_i p' b hb
              cases hE
              have hcv := cellsEq_ok hl1 hl2 gy1 gy2 hb hp'
              obtain ⟨e1, e2⟩ := run_eqs (P := P) (w := w) hk ha hcv
              refine good_read R (v := .bool (if neg then !b else b)) ?_ (.rv _ _ (.bool _))
              cases neg <;> simp [execOp, hop, hvx, hvy, eqGuard, hg, e1, e2]
            · cases hE
      · cases hE
    unfold compBin at hc
    split at hc
    · exact finS _ hop hc
    · exact finS _ hop hc
    · split at hc
      · rename_i k hk; exact finI op ⟨k, hk⟩ hop hc
      · rename_i hk
        split at hc
        · exact finB false hk hop hc
        · exact finB true hk hop hc
        · cases hc
      · rename_i el hk
        split at hc
        · exact finN false ⟨el, hk⟩ rfl hop hc
        · exact finN true ⟨el, hk⟩ rfl hop hc
        · cases hc
      · exact finStr op hop hc
      · rename_i el hk
        split at hc
        · exact finO false 0 _ (.inl ⟨rfl, ⟨el, hk⟩, rfl⟩) rfl hop hc
        · exact finO true 0 _ (.inl ⟨rfl, ⟨el, hk⟩, rfl⟩) rfl hop hc
        · cases hc
      · rename_i hk
        split at hc
        · exact finO false 1 _ (.inr (.inl ⟨rfl, ⟨_, _, _, hk⟩, rfl⟩)) rfl hop hc
        · exact finO true 1 _ (.inr (.inl ⟨rfl, ⟨_, _, _, hk⟩, rfl⟩)) rfl hop hc
        · cases hc
      · rename_i hk
        split at hc
        · exact finO false 2 _ (.inr (.inr ⟨rfl, ⟨_, hk⟩, rfl⟩)) rfl hop hc
        · exact finO true 2 _ (.inr (.inr ⟨rfl, ⟨_, hk⟩, rfl⟩)) rfl hop hc
        · cases hc
      · split at hc
        · rename_i ks hag hks
          split at hc
          · cases hc
          · rename_i hg
            have hg' : P.eqGuardType P.depth t = false := by simpa using hg
            split at hc
            · exact finQ false ks hag hks hg' hop hc
            · exact finQ true ks hag hks hg' hop hc
            · cases hc
        · cases hc
  case unOp op t x =>
    cases op with
    | not =>
      cases hc; obtain ⟨s, rfl, h⟩ := A.one
      simp only [opE, o1, notE] at hE
      split at hE
      · cases hE
        exact good_read R (v := .bool _) (by simp [execOp, hop, rp_bool h, Op.unary]) (.rv _ _ (.bool _))
      · cases hE
    | neg =>
      cases hc; obtain ⟨s, rfl, h⟩ := A.one
      simp only [opE, o1, negE] at hE
      split at hE
      · cases hE
        exact good_read R (v := .int _ _) (by simp [execOp, hop, rp_int h, Op.unary, Op.intArith]) (.rv _ _ (.int _ _))
      · cases hE
    | _ => cases hc
  case convert src dst x =>
    split at hc
    · rename_i d k hs hd
      cases hc; obtain ⟨s, rfl, h⟩ := A.one
      simp only [opE, o1, cviE] at hE
      split at hE
      · cases hE
        refine good_read R (v := .int k _) ?_ (.rv _ _ (.int _ _))
        simp [execOp, hop, rp_int h, convert, run_underlying hs, run_underlying hd, Conv.intToInt]
      · cases hE
    · cases hc
  case makeInterface t x =>
    split at hc
    · cases hc
    · rename_i d hni hd
      cases hc; obtain ⟨s, rfl, h⟩ := A.one
      simp only [opE, o1] at hE
      cases hE
      refine good_read R (v := .iface t (a.eval x)) ?_ (.ifc _ _ _ h)
      cases d <;> first | (exact absurd rfl (hni _)) | simp [execOp, hop, Instr.makeInterface, run_underlying hd]
    · cases hc
  case makeFunc fn first cap =>
    cases fn with
    | func f =>
      dsimp only at hc
      split at hc
      · rename_i hfst
        cases hc
        simp only [opE] at hE
        cases hE
        have he : first = #[] := Array.eq_empty_of_size_eq_zero hfst
        refine good_read R (v := .func (.func f) #[] (cap.map a.eval)) (by simp [execOp, hop, Instr.makeFunc, he]) ?_
        have := Rp.fn (w := w) (ok := okk C rho hp) (rho := rho) (hp := hp) f ss (cap.toList.map a.eval) (by simp [A.length]) A.get
        have hq : (cap.toList.map a.eval).toArray = cap.map a.eval := by apply Array.ext'; simp
        rwa [hq] at this
      · cases hc
    | _ => cases hc
  case makeSlice t l c =>
    split at hc
    · rename_i et e by_ z hel
      cases hc
      obtain ⟨T, hz, hzl, hs⟩ := eltT_ok hel
      obtain ⟨s1, s2, rfl, h1, h2⟩ := A.two
      simp only [opE, o2, mkslE] at hE
      split at hE
      · cases hE
        obtain ⟨rfl, g1, g2, g3⟩ := hp'
        have e1 := rp_int h1
        have e2 := rp_int h2
        refine good_make (m := Instr.makeSlice t (a.eval l) (a.eval c)) (fun w => by simp [execOp, hop]) ?_
        rw [e1, e2]
        exact mksl_ok R (hf _ rfl).1 (hf _ rfl).2 T hz hzl _ _ _ g1 g2 g3
      · cases hE
    · cases hc
  case typeAssert x xt t ok =>
    split at hc
    · cases hc
    · rename_i d z hni hd hz
      cases hc; obtain ⟨s, rfl, h⟩ := A.one
      simp only [opE, o1] at hE
      obtain ⟨rfl, hx⟩ := run_tas (xt := xt) (fun ms he => by rw [hd] at he; cases he; exact hni _ rfl) hd hz h hE
      exact good_read' R (m := Instr.typeAssert (a.eval x) xt t ok) (fun w => by simp [execOp, hop]) hx
    · cases hc
  case fieldAddr s0 x f =>
    split at hc
    · rename_i off ft hfl
      split at hc
      · rename_i n hs
        cases hc; obtain ⟨s, rfl, h⟩ := A.one
        simp only [opE, o1] at hE
        obtain ⟨rfl, hx⟩ := fld_good hfl hs h hE hp'
        exact good_read' R (m := Instr.fieldAt s0 (a.eval x) f) (fun w => by simp [execOp, hop]) hx
      · cases hc
    · cases hc
  case field s0 x f =>
    split at hc
    · rename_i off ft hfl
      split at hc
      · rename_i n agg hs ha
        cases hc; obtain ⟨s, rfl, h⟩ := A.one
        simp only [opE, o1, fldvE] at hE
        refine (?_ : u = none ∧ _).elim (fun hu hx => by subst hu; exact good_read' R (m := Instr.field s0 (a.eval x) f) (fun w => by simp [execOp, hop]) hx)
        split at hE
        · cases agg with
          | true => simp only [if_true, Option.some.injEq, Prod.mk.injEq] at hE; obtain ⟨rfl, rfl, rfl, rfl⟩ := hE; exact ⟨rfl, fldv_agg h hfl ha hs hp'⟩
          | false =>
            simp only [Bool.false_eq_true, if_false, Option.some.injEq, Prod.mk.injEq] at hE; obtain ⟨rfl, rfl, rfl, rfl⟩ := hE
            exact ⟨rfl, fldv_one h hfl ha (by rw [List.getElem?_eq_getElem hp']; rfl)⟩
        · cases hE
      · cases hc
    · cases hc
  case indexAddr t x i =>
    split at hc
    · rename_i et ht
      split at hc
      · rename_i e hs
        cases hc; obtain ⟨s1, s2, rfl, h1, h2⟩ := A.two
        simp only [opE, o2, ix2] at hE
        split at hE
        · have e2 := rp_int h2
          obtain ⟨rfl, hx⟩ := ixs_good ht hs h1 (k := by assumption) hE hp'
          refine good_read' R (m := Instr.indexAt t (a.eval x) (a.eval i)) (fun w => by simp [execOp, hop]) ?_
          rw [e2]; exact hx
        · cases hE
      · cases hc
    · rename_i len et ht
      split at hc
      · rename_i e hs
        cases hc; obtain ⟨s1, s2, rfl, h1, h2⟩ := A.two
        simp only [opE, o2, ix2] at hE
        split at hE
        · have e2 := rp_int h2
          obtain ⟨rfl, hx⟩ := ixa_good ht hs h1 (k := by assumption) hE hp'
          refine good_read' R (m := Instr.indexAt t (a.eval x) (a.eval i)) (fun w => by simp [execOp, hop]) ?_
          rw [e2]; exact hx
        · cases hE
      · cases hc
    · cases hc
  case index t x i =>
    split at hc
    · rename_i len et ht
      split at hc
      · rename_i e agg hs ha
        cases hc; obtain ⟨s1, s2, rfl, h1, h2⟩ := A.two
        simp only [opE, o2, ix2] at hE
        split at hE
        · rename_i k' i'
          have e2 := rp_int h2
          refine (?_ : u = none ∧ _).elim (fun hu hx => by subst hu; exact good_read' R (m := Instr.index t (a.eval x) (a.eval i)) (fun w => by simp [execOp, hop]) hx)
          rw [e2]
          unfold ixvE at hE
          split at hE
          · cases agg with
            | true => simp only [if_true, Option.some.injEq, Prod.mk.injEq] at hE; obtain ⟨rfl, rfl, rfl, rfl⟩ := hE; exact ⟨rfl, ixv_agg h1 ht hs ha _ _ hp'.1 hp'.2.1 hp'.2.2⟩
            | false =>
              simp only [Bool.false_eq_true, if_false, Option.some.injEq, Prod.mk.injEq] at hE; obtain ⟨rfl, rfl, rfl, rfl⟩ := hE
              exact ⟨rfl, ixv_one h1 ht hs ha _ _ hp'.1 hp'.2.1 (by rw [List.getElem?_eq_getElem hp'.2.2]; rfl)⟩
          · cases hE
        · cases hE
      · cases hc
    · cases hc
  case extract x i =>
    cases hc; obtain ⟨s, rfl, h⟩ := A.one
    simp only [opE, o1, extE] at hE
    split at hE
    · rename_i ts
      cases hE
      cases hev : a.eval x with
      | tuple arr =>
        rw [hev] at h
        cases h with
        | tup _ vs hl hy =>
          have hlt : i < vs.length := by rw [hl]; exact hp'
          have hg := List.getElem?_eq_getElem hlt
          have := hy i _ (List.getElem?_eq_getElem hp')
          rw [List.getD_eq_getElem?_getD, hg, Option.getD_some] at this
          refine good_read R (v := vs[i]) (by simp [execOp, hop, hev, Instr.extract, hlt]) ?_
          rw [List.getElem?_eq_getElem hp']; exact this
      | _ => rw [hev] at h; cases h
    · cases hE
  case slice t x lo hi mx =>
    cases mx with
    | some m => cases hc
    | none =>
      dsimp only at hc
      split at hc
      · rename_i et e by_ z hel
        cases hc
        obtain ⟨T, hz, hzl, hs⟩ := eltT_ok hel
        refine (?_ : u = none ∧ _).elim (fun hu hx => by subst hu; exact good_read' R (m := Instr.sliceAt t (a.eval x) (lo.map a.eval) (hi.map a.eval) none) (fun w => by simp [execOp, hop]) hx)
        have core : ∀ (s1 : SV) (l h : Option Int), Rp w (okk C rho hp) rho hp s1 (a.eval x) → ((lo = none ∧ l = none) ∨ ∃ y k l', lo = some y ∧ a.eval y = .int k l' ∧ l = some l') → ((hi = none ∧ h = none) ∨ ∃ y k h', hi = some y ∧ a.eval y = .int k h' ∧ h = some h') →
            slcC e hp s1 l h = some (p, sv, u, rd) → u = none ∧ ∃ v, (Instr.sliceAt t (a.eval x) (lo.map a.eval) (hi.map a.eval) none).run P w = .ok v w ∧ Rp w (okk C rho hp) rho hp sv v := by
          intro s1 l h h1 hlo hhi hm
          unfold slcC at hm
          split at hm
          · rename_i e' xs'
            cases hm
            obtain ⟨rfl, q1, q2, q3⟩ := hp'
            refine ⟨rfl, ?_⟩
            cases h1 with
            | rv _ _ hr =>
              obtain ⟨v, k1, k2⟩ := slc_sl (P := P) (w := w) T.ht hs hr (lo.map a.eval) (hi.map a.eval) (l.getD 0) (h.getD xs'.length) (by
                rcases hlo with ⟨rfl, rfl⟩ | ⟨y, k, l', rfl, hy, rfl⟩
                · exact .inl ⟨rfl, rfl⟩
                · exact .inr ⟨k, by simp [hy]⟩) (by
                rcases hhi with ⟨rfl, rfl⟩ | ⟨y, k, l', rfl, hy, rfl⟩
                · exact .inl ⟨rfl, rfl⟩
                · exact .inr ⟨k, by simp [hy]⟩) q1 q2 q3
              exact ⟨v, k1, .rv _ _ k2⟩
          · split at hm
            · rename_i id ver len _ _ e' ver' xs' h' hq
              cases hm
              obtain ⟨rfl, rfl, q1, q2, q3⟩ := hp'
              refine ⟨rfl, ?_⟩
              rcases hhi with ⟨_, hh⟩ | ⟨y, k, l', rfl, hy, hh⟩
              · cases hh
              · cases hh
                have := slc_row (P := P) T.ht hs h1 hq (lo.map a.eval) h' (by
                  rcases hlo with ⟨rfl, rfl⟩ | ⟨y', k', l2, rfl, hy', rfl⟩
                  · exact .inl rfl
                  · simp at q1; subst q1; exact .inr ⟨k', by simp [hy']⟩) k q2 q3
                simpa [hy] using this
            · cases hm
          · cases hm
        cases lo with
        | none =>
          cases hi with
          | none =>
            obtain ⟨s1, rfl, h1⟩ := A.one
            simp only [opE, slcE, bndE, bnd0, Option.isSome_none, Bool.false_eq_true, if_false] at hE
            exact core s1 none none h1 (.inl ⟨rfl, rfl⟩) (.inl ⟨rfl, rfl⟩) hE
          | some y =>
            obtain ⟨s1, s2, rfl, h1, h2⟩ := A.two
            simp only [opE, slcE, bndE, Option.isSome_none, Option.isSome_some, Bool.false_eq_true, if_false, if_true] at hE
            cases hb : bndH [s2] with
            | none => simp [hb] at hE
            | some q =>
              simp only [hb] at hE
              unfold bndH at hb
              split at hb
              · rename_i k hh he
                cases hb; cases he
                exact core s1 none (some hh) h1 (.inl ⟨rfl, rfl⟩) (.inr ⟨y, k, hh, rfl, rp_int h2, rfl⟩) hE
              · cases hb
        | some y' =>
          cases hi with
          | none =>
            obtain ⟨s1, s2, rfl, h1, h2⟩ := A.two
            simp only [opE, slcE, bndE, Option.isSome_none, Option.isSome_some, Bool.false_eq_true, if_false, if_true] at hE
            cases hb : bndL [s2] with
            | none => simp [hb] at hE
            | some q =>
              simp only [hb] at hE
              unfold bndL at hb
              split at hb
              · rename_i k hh he
                cases hb; cases he
                exact core s1 (some hh) none h1 (.inr ⟨y', k, hh, rfl, rp_int h2, rfl⟩) (.inl ⟨rfl, rfl⟩) hE
              · cases hb
          | some y =>
            obtain ⟨s1, s2, s3, rfl, h1, h2, h3⟩ := A.three
            simp only [opE, slcE, bndE, Option.isSome_some, if_true] at hE
            cases hb : bnd2 [s2, s3] with
            | none => simp [hb] at hE
            | some q =>
              simp only [hb] at hE
              unfold bnd2 at hb
              split at hb
              · rename_i k ll k' hh he
                cases hb; cases he
                exact core s1 (some ll) (some hh) h1 (.inr ⟨y', k, ll, rfl, rp_int h2, rfl⟩) (.inr ⟨y, k', hh, rfl, rp_int h3, rfl⟩) hE
              · cases hb
      · cases hc
  case call c =>
    obtain ⟨callee, args, argTypes⟩ := c
    cases callee with
    | value f =>
      cases f with
      | func f => cases hc; simp only [opE, reduceCtorEq] at hE
      | _ => cases hc; simp only [opE, reduceCtorEq] at hE
    | invoke r n => cases hc; simp only [opE] at hE; cases hE
    | builtin b =>
      cases b with
      | len =>
        dsimp only at hc
        split at hc
        · rename_i x t hx ht
          have hargs : args = #[x] := by apply Array.ext'; simpa using hx
          have htys : argTypes = #[t] := by apply Array.ext'; simpa using ht
          split at hc
          · rename_i et hu
            cases hc; obtain ⟨s, rfl, h⟩ := A.one
            simp only [opE, o1] at hE
            obtain ⟨rfl, hx⟩ := len_good hu o.type h hE hp'
            exact good_read' R (m := Builtin.len_ #[t] o.type #[a.eval x]) (fun w => by simp [execOp, hop, hargs, htys, resolve, invoke, builtin]) hx
          · rename_i hu
            cases hc; obtain ⟨s, rfl, h⟩ := A.one
            simp only [opE, o1] at hE
            obtain ⟨rfl, hx⟩ := lens_good hu o.type h hE hp'
            exact good_read' R (m := Builtin.len_ #[t] o.type #[a.eval x]) (fun w => by simp [execOp, hop, hargs, htys, resolve, invoke, builtin]) hx
          · cases hc
        · cases hc
      | append =>
        dsimp only at hc
        split at hc
        · rename_i s0 x t t' hx ht
          split at hc
          · rename_i htt
            split at hc
            · rename_i et e bytes z hel
              cases hc; obtain ⟨s1, s2, rfl, h1, h2⟩ := A.two
              simp only [opE, o2] at hE
              subst htt
              have hargs : args = #[s0, x] := by apply Array.ext'; simpa using hx
              have htys : argTypes = #[t, t] := by apply Array.ext'; simpa using ht
              obtain ⟨T, hz, hzl, hs⟩ := eltT_ok hel
              obtain ⟨id, hb, rfl, hx⟩ := app_good R T o.type h1 h2 hf hE hp'
              refine good_make (m := Builtin.append_ #[t, t] o.type #[a.eval s0, a.eval x]) (fun w => by simp [execOp, hop, hargs, htys, resolve, invoke, builtin]) hx
            · cases hc
          · cases hc
        · cases hc
      | max =>
        dsimp only at hc
        split at hc
        · rename_i hsz
          obtain ⟨x, y, rfl⟩ : ∃ x y, args = #[x, y] := by
            obtain ⟨l⟩ := args
            match l, hsz with
            | [x, y], _ => exact ⟨x, y, rfl⟩
          cases hc; obtain ⟨s1, s2, rfl, h1, h2⟩ := A.two
          simp only [opE, o2, mxE] at hE
          split at hE
          · cases hE
            refine good_read R (v := .int _ _) ?_ (.rv _ _ (.int _ _))
            simp [execOp, hop, resolve, invoke, builtin, Builtin.max_, Builtin.max2, rp_int h1, rp_int h2]
          · cases hE
        · cases hc
      | min =>
        dsimp only at hc
        split at hc
        · rename_i hsz
          obtain ⟨x, y, rfl⟩ : ∃ x y, args = #[x, y] := by
            obtain ⟨l⟩ := args
            match l, hsz with
            | [x, y], _ => exact ⟨x, y, rfl⟩
          cases hc; obtain ⟨s1, s2, rfl, h1, h2⟩ := A.two
          simp only [opE, o2, mnE] at hE
          split at hE
          · cases hE
            refine good_read R (v := .int _ _) ?_ (.rv _ _ (.int _ _))
            simp [execOp, hop, resolve, invoke, builtin, Builtin.min_, Builtin.min2, rp_int h1, rp_int h2]
          · cases hE
        · cases hc
      | _ => cases hc
end
end Go.Eng
