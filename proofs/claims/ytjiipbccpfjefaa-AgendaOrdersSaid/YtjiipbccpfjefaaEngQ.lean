/- Regions that draw their order, evaluated in the order of the text, with a check that what is unordered is apart. -/
import Derived.Test.YtjiipbccpfjefaaEngP
set_option linter.unusedSimpArgs false
set_option linter.unusedVariables false
namespace Go.Eng
open Go

/-- For each operation, as bits, those that must have come up ahead, through others too. -/
def befL : List Oper → List Nat → List Nat
  | [], acc => acc
  | o :: r, acc => befL r (acc ++ [(needs o).foldl (fun m k => m ||| 2 ^ k ||| acc.getD k 0) 0])

theorem fold_bits (acc : List Nat) (k : Nat) : ∀ (l : List Nat) (m : Nat), (l.foldl (fun m k => m ||| 2 ^ k ||| acc.getD k 0) m).testBit k = true → m.testBit k = true ∨ k ∈ l ∨ ∃ x ∈ l, (acc.getD x 0).testBit k = true
  | [], m, h => .inl h
  | x :: l, m, h => by
    rw [List.foldl_cons] at h
    rcases fold_bits acc k l _ h with h | h | ⟨y, hy, h⟩
    · rw [Nat.testBit_or, Nat.testBit_or, Nat.testBit_two_pow] at h
      simp only [Bool.or_eq_true, decide_eq_true_eq] at h
      rcases h with (h | h) | h
      · exact .inl h
      · exact .inr (.inl (by simp [h]))
      · exact .inr (.inr ⟨x, by simp, h⟩)
    · exact .inr (.inl (by simp [h]))
    · exact .inr (.inr ⟨y, by simp [hy], h⟩)

theorem befL_pre : ∀ (ops : List Oper) (acc : List Nat) (x : Nat), x < acc.length → (befL ops acc).getD x 0 = acc.getD x 0
  | [], acc, x, _ => rfl
  | o :: r, acc, x, h => by
    unfold befL
    rw [befL_pre r _ x (by simp; omega)]
    simp only [List.getD_eq_getElem?_getD, List.getElem?_append_left h]

theorem befL_at : ∀ (ops : List Oper) (acc : List Nat) (i : Nat) (o : Oper), ops[i]? = some o → ∀ k, ((befL ops acc).getD (acc.length + i) 0).testBit k = true → k ∈ needs o ∨ ∃ x ∈ needs o, ((befL ops acc).getD x 0).testBit k = true
  | [], acc, i, o, h, k, _ => by simp at h
  | p :: r, acc, i, o, h, k, hk => by
    cases i with
    | zero =>
      simp only [List.getElem?_cons_zero, Option.some.injEq] at h
      subst h
      unfold befL at hk ⊢
      rw [befL_pre r _ _ (by simp)] at hk
      simp only [Nat.add_zero, List.getD_eq_getElem?_getD, List.getElem?_concat_length, Option.getD_some] at hk
      rcases fold_bits acc k (needs p) 0 (by simpa [List.getD_eq_getElem?_getD] using hk) with hk | hk | ⟨x, hx, hk⟩
      · simp at hk
      · exact .inl hk
      · refine .inr ⟨x, hx, ?_⟩
        have hl : x < acc.length := by
          by_cases hl : x < acc.length
          · exact hl
          · rw [List.getD_eq_getElem?_getD, List.getElem?_eq_none (by omega)] at hk; simp at hk
        rw [befL_pre r _ x (by simp; omega)]
        simp only [List.getD_eq_getElem?_getD, List.getElem?_append_left hl]
        simpa [List.getD_eq_getElem?_getD] using hk
    | succ i =>
      unfold befL at hk ⊢
      refine befL_at r _ i o (by simpa using h) k ?_
      have : (acc ++ [(needs p).foldl (fun m k => m ||| 2 ^ k ||| acc.getD k 0) 0]).length + i = acc.length + (i + 1) := by simp; omega
      rw [this]; exact hk

/-- Each two are ordered or apart. -/
def compatB1 (bef : List Nat) (i : Nat) (x : TE) : Nat → List TE → Bool
  | _, [] => true
  | j, y :: r => ((bef.getD j 0).testBit i || apartT x y) && compatB1 bef i x (j + 1) r

def compatB (bef : List Nat) : Nat → List TE → Bool
  | _, [] => true
  | i, x :: r => compatB1 bef i x (i + 1) r && compatB bef (i + 1) r

theorem compatB1_get {bef : List Nat} {i : Nat} {x : TE} : ∀ {l : List TE} {j : Nat}, compatB1 bef i x j l = true → ∀ (k : Nat) (y : TE), l[k]? = some y → (bef.getD (j + k) 0).testBit i = true ∨ apartT x y = true
  | [], j, _, k, y, h => by simp at h
  | z :: r, j, hc, k, y, h => by
    simp only [compatB1, Bool.and_eq_true, Bool.or_eq_true] at hc
    cases k with
    | zero => simp at h; subst h; exact hc.1
    | succ k =>
      have := compatB1_get hc.2 k y (by simpa using h)
      rwa [show j + 1 + k = j + (k + 1) by omega] at this

theorem compatB_get {bef : List Nat} : ∀ {l : List TE} {i : Nat}, compatB bef i l = true → ∀ (a b : Nat) (x y : TE), a < b → l[a]? = some x → l[b]? = some y → (bef.getD (i + b) 0).testBit (i + a) = true ∨ apartT x y = true
  | [], i, _, a, b, x, y, _, h, _ => by simp at h
  | z :: r, i, hc, a, b, x, y, hab, hx, hy => by
    simp only [compatB, Bool.and_eq_true] at hc
    cases b with
    | zero => omega
    | succ b =>
      simp only [List.getElem?_cons_succ] at hy
      cases a with
      | zero =>
        simp at hx; subst hx
        have := compatB1_get hc.1 b y hy
        rwa [show i + 1 + b = i + (b + 1) by omega] at this
      | succ a =>
        simp only [List.getElem?_cons_succ] at hx
        have := compatB_get hc.2 a b x y (by omega) hx hy
        rwa [show i + 1 + b = i + (b + 1) by omega, show i + 1 + a = i + (a + 1) by omega] at this

/-- The bits as lists. -/
def befLists (n : Nat) (bef : List Nat) : List (List Nat) := bef.map fun m => (List.range n).filter fun k => m.testBit k

theorem mem_befLists {n : Nat} {bef : List Nat} {i k : Nat} : k ∈ (befLists n bef).getD i [] ↔ k < n ∧ (bef.getD i 0).testBit k = true := by
  unfold befLists
  rw [List.getD_eq_getElem?_getD, List.getElem?_map, List.getD_eq_getElem?_getD]
  cases h : bef[i]? with
  | none => simp
  | some m => simp

def backOk : Nat → List Oper → Bool
  | _, [] => true
  | i, o :: r => (needs o).all (· < i) && backOk (i + 1) r

theorem backOk_get : ∀ {ops : List Oper} {i : Nat}, backOk i ops = true → ∀ (j : Nat) (o : Oper), ops[j]? = some o → ∀ k ∈ needs o, k < i + j
  | [], i, _, j, o, h, _, _ => by simp at h
  | p :: r, i, hb, j, o, h, k, hk => by
    simp only [backOk, Bool.and_eq_true, List.all_eq_true, decide_eq_true_eq] at hb
    cases j with
    | zero => simp at h; subst h; exact hb.1 k hk
    | succ j => have := backOk_get hb.2 j o (by simpa using h) k hk; omega

def uIds : Option (Nat × HB) → List Nat
  | none => []
  | some q => [q.1]

def CallD (P : Program) (f : FuncId) (args : List SV) (h : List (Option HB)) (K : SV → List (Option HB) → List Nat → List Nat → Prop) : Prop :=
  ∃ pre us sv, CallR P f args pre us sv ∧ PreOK (hget h) pre ∧ okU pre h us ∧ K sv (uphL h us) (pre.map (·.1)) (us.map (·.1))

def callvD (P : Program) (h : List (Option HB)) (K : SV → List (Option HB) → List Nat → List Nat → Prop) : List SV → Prop
  | .fn f caps :: args => CallD P f (args ++ caps) h K
  | _ => False

def invD (P : Program) (name : String) (h : List (Option HB)) (K : SV → List (Option HB) → List Nat → List Nat → Prop) : List SV → Prop
  | s :: args => match ifcOf s with
    | some (t, x) => match invF P t name with
      | some (f, none) => CallD P f (x :: args) h K
      | some (f, some (n, agg)) => match loadE n agg (hget h) x with
        | some (p, y, _, rd) => p ∧ CallD P f (y :: args) h fun sv h' pre us => K sv h' (rd ++ pre) us
        | none => False
      | none => False
    | none => False
  | _ => False

def plainD (h : List (Option HB)) (K : SV → List (Option HB) → List Nat → List Nat → Prop) : XR → Prop
  | some (p, sv, u, rd) => p ∧ K sv (uphO h u) rd (uIds u)
  | none => False

def opD (P : Program) (ao : AO) (args : List SV) (h : List (Option HB)) (K : SV → List (Option HB) → List Nat → List Nat → Prop) : Prop :=
  match ao with
  | .call f => CallD P f args h K
  | .callv => callvD P h K args
  | .inv name => invD P name h K args
  | ao => plainD h K (opE ao args (hget h) h.length)

def RD (P : Program) (bef : List Nat) (K : St → Prop) : List AOp → List TE → St → Prop
  | [], acc, s => compatB bef 0 acc = true ∧ K s
  | op :: r, acc, s => match gOK (lk s.env) op.guard with
    | some true => opD P op.ao (op.xs.map (evX (lk s.env))) s.h fun sv h' pre us => RD P bef K r (acc ++ [⟨rdsOf op, op.dst, pre, us⟩]) ⟨putE op.dst sv s.env, h'⟩
    | some false => RD P bef K r (acc ++ [⟨rdsOf op, op.dst, [], []⟩]) ⟨putE op.dst .dead s.env, s.h⟩
    | none => False

theorem rd_ids {hp : Hp} : ∀ {rd : List Nat}, (∀ id ∈ rd, (hp id).isSome = true) → (rd.filterMap fun id => (hp id).map fun hb => (id, hb)).map (·.1) = rd
  | [], _ => rfl
  | x :: r, h => by
    obtain ⟨hb, hx⟩ := Option.isSome_iff_exists.1 (h x (by simp))
    simp only [List.filterMap_cons, hx, Option.map_some, List.map_cons]
    rw [rd_ids (fun id hid => h id (by simp [hid]))]

theorem opD_opS {P : Program} {o : Oper} {ao : AO} {xs0 : List Operand} (hc : compOp P o.op = some (ao, xs0)) {args : List SV} {h : List (Option HB)} {K : SV → List (Option HB) → List Nat → List Nat → Prop} (hW : opD P ao args h K) :
    ∃ pre us sv, OpS P o args pre us sv ∧ PreOK (hget h) pre ∧ okU pre h us ∧ K sv (uphL h us) (pre.map (·.1)) (us.map (·.1)) := by
  unfold opD at hW
  split at hW
  · obtain ⟨pre, us, sv, h1, h2, h3, h4⟩ := hW
    exact ⟨pre, us, sv, opS_call hc h1, h2, h3, h4⟩
  · unfold callvD at hW
    split at hW
    · obtain ⟨pre, us, sv, h1, h2, h3, h4⟩ := hW
      exact ⟨pre, us, sv, opS_callv hc h1, h2, h3, h4⟩
    · exact hW.elim
  · unfold invD at hW
    split at hW
    · rename_i s args0
      split at hW
      · rename_i t x hi
        split at hW
        · rename_i f hf
          obtain ⟨pre, us, sv, h1, h2, h3, h4⟩ := hW
          exact ⟨pre, us, sv, opS_inv hc hi hf (y := x) (fun hp hP => rfl) (fun q hq => hq) h1 (fun C hp hn _ => hn), h2, h3, h4⟩
        · rename_i f n agg hf
          split at hW
          · rename_i p y u rd hE
            obtain ⟨hp', pre, us, sv, h1, h2, h3, h4⟩ := hW
            obtain ⟨g1, g2, g3⟩ := inv_load hc hi hf hE hp' h1 h2 h3
            refine ⟨_, us, sv, g1, g2, g3, ?_⟩
            rw [List.map_append]
            have : (rdPre h rd).map (·.1) = rd := rd_ids (fun id hid => loadE_rd hE id hid)
            rw [this]; exact h4
          · exact hW.elim
        · exact hW.elim
      · exact hW.elim
    · exact hW.elim
  · unfold plainD at hW
    split at hW
    · rename_i p sv u rd hE
      obtain ⟨hp, hK⟩ := hW
      have hnx : hget h h.length = none := by unfold hget; rw [List.getElem?_eq_none (Nat.le_refl _)]
      have ur := opE_ur hE
      refine ⟨_, uList u, sv, opS_plain hc hE hp hnx, fun q hq => ?_, ?_, ?_⟩
      · obtain ⟨id, _, hid⟩ := List.mem_filterMap.1 hq
        cases hq' : hget h id with
        | none => simp [hq'] at hid
        | some hb => simp [hq'] at hid; subst hid; exact hq'
      · cases u with
        | none => trivial
        | some q =>
          refine ⟨?_, trivial⟩
          rcases ur.1 q rfl with h1 | h1
          · exact .inl h1
          · right
            have hs := ur.2 _ h1
            obtain ⟨hb, hhb⟩ := Option.isSome_iff_exists.1 hs
            refine ⟨?_, hb, List.mem_filterMap.2 ⟨q.1, h1, by simp [hhb]⟩⟩
            unfold hget at hhb
            cases hl : h[q.1]? with
            | none => simp [hl] at hhb
            | some x => exact (List.getElem?_eq_some_iff.1 hl).1
      · have := rd_ids (hp := hget h) (rd := rd) (fun id hid => ur.2 id hid)
        rw [this]
        cases u with
        | none => exact hK
        | some q => exact hK
    · exact hW.elim

def teL : List AOp → List EN → List TE
  | op :: l, e :: es => teOf op e :: teL l es
  | _, _ => []

theorem teL_get : ∀ {l : List AOp} {es : List EN} {a : Nat} {op : AOp} {e : EN}, l[a]? = some op → es[a]? = some e → (teL l es)[a]? = some (teOf op e)
  | [], es, a, op, e, h, _ => by simp at h
  | _ :: _, [], a, op, e, _, h => by simp at h
  | p :: l, q :: es, a, op, e, h1, h2 => by
    cases a with
    | zero => simp at h1 h2; subst h1; subst h2; rfl
    | succ a => simp only [teL, List.getElem?_cons_succ] at h1 h2 ⊢; exact teL_get h1 h2

theorem rd_tr {P : Program} {ops : Array Oper} {N : Nat} {bef : List Nat} {K : St → Prop} : ∀ (l : List AOp) (i : Nat) (acc : List TE) (s : St), (∀ (j : Nat) (op : AOp), l[j]? = some op → ∃ o, ops[i + j]? = some o ∧ compOper P ops N o = some op) → RD P bef K l acc s →
    ∃ es s', Tr P ops i l s es s' ∧ compatB bef 0 (acc ++ teL l es) = true ∧ K s'
  | [], i, acc, s, _, h => ⟨[], s, rfl, by simpa [teL] using h.1, h.2⟩
  | op :: l, i, acc, s, hc, h => by
    have hc' : ∀ (j : Nat) (op : AOp), l[j]? = some op → ∃ o, ops[i + 1 + j]? = some o ∧ compOper P ops N o = some op := fun j op' hj => by
      have := hc (j + 1) op' (by simpa using hj)
      rwa [show i + (j + 1) = i + 1 + j by omega] at this
    obtain ⟨o, ho, hco⟩ := hc 0 op rfl
    rw [Nat.add_zero] at ho
    obtain ⟨xs0, hc1, hc2, hc3, hc4⟩ := compOper_op hco
    unfold RD at h
    split at h
    · rename_i hg
      obtain ⟨pre, us, sv, h1, h2, h3, h4⟩ := opD_opS hc1 h
      obtain ⟨es, s', g1, g2, g3⟩ := rd_tr l (i + 1) _ _ hc' h4
      refine ⟨.run (op.xs.map (evX (lk s.env))) pre us sv :: es, s', ⟨⟨hg, rfl, fun o' ho' => ?_, h2, h3⟩, g1⟩, ?_, g3⟩
      · rw [ho] at ho'; cases ho'; exact h1
      · simpa [teL, teOf] using g2
    · rename_i hg
      obtain ⟨es, s', g1, g2, g3⟩ := rd_tr l (i + 1) _ _ hc' h
      exact ⟨.skip :: es, s', ⟨hg, g1⟩, by simpa [teL, teOf] using g2, g3⟩
    · exact h.elim

theorem rd_sound {P : Program} {C : Ctx} {n0 : Nat} {ops : Array Oper} {K : St → Prop} {Q : Exit → Act → World → Prop} {l : List AOp} (hm : P.follows .mixedOrders = true) (hsz : ops.size = l.length) (hcomp : ∀ (j : Nat) (op : AOp), l[j]? = some op → ∃ o, ops[j]? = some o ∧ compOper P ops C.N o = some op)
    (hback : backOk 0 ops.toList = true) {s : St} {a : Act} {w : World} (h : RD P (befL ops.toList []) K l [] s) (R : RepS C n0 s a w) (hK : ∀ s a w, K s → RepS C n0 s a w → Q .normal a w) (id : Nat) : (Code.region id ops true).wp P Q a w := by
  refine wp_region_any hm ?_
  obtain ⟨es, s', h1, h2, h3⟩ := rd_tr l 0 [] s (fun j op hj => by rw [Nat.zero_add]; exact hcomp j op hj) h
  have H : Sch P ops C.N l es s s' (befLists l.length (befL ops.toList [])) := by
    refine ⟨h1, hsz, hcomp, fun i o ho k hk => ?_, fun i o ho k hk => ?_, fun x y opa opb ea eb hxy ha hb hea heb => ?_⟩
    · have := backOk_get hback i o (by simpa using ho) k hk; omega
    · obtain ⟨hkl, hk⟩ := mem_befLists.1 hk
      have := befL_at ops.toList [] i o (by simpa using ho) k (by simpa using hk)
      rcases this with g | ⟨x, hx, g⟩
      · exact ⟨needs o, fun x hx => hx, .inl g⟩
      · exact ⟨needs o, fun x hx => hx, .inr ⟨x, hx, mem_befLists.2 ⟨hkl, g⟩⟩⟩
    · have := compatB_get (bef := befL ops.toList []) (l := teL l es) (i := 0) (by simpa using h2) x y _ _ hxy (teL_get ha hea) (teL_get hb heb)
      rw [Nat.zero_add, Nat.zero_add] at this
      refine this.imp (fun h => mem_befLists.2 ⟨(List.getElem?_eq_some_iff.1 ha).1, h⟩) (fun h => h)
  have hlen := h1.length
  obtain ⟨rho, RF⟩ := R.rep
  have hst := stAt_len P ops h1 l.length (Nat.le_refl _)
  rw [h1.last] at hst
  have RF' : RepF C (lk s.env) (hget s.h) a { w with drawn := w.drawn + 1 } rho := RF.step (RF.mem.quiet (w' := { w with drawn := w.drawn + 1 }) rfl rfl rfl rfl)
  refine sch_any H rfl R.le0 R.h0 (fun a w rho RF => hK s' a w h3 ⟨⟨rho, RF⟩, Nat.le_trans R.le0 hst, R.h0⟩) ops.size _ (lk s.env) (hget s.h) a _ rho (by simp) ?_ ?_ ?_ RF'
  · rw [hsz]; exact cnt_le _ _
  · intro i o ho hL
    exfalso
    simp only [Lf, Array.getD_eq_getD_getElem?, Array.getElem?_replicate] at hL
    split at hL <;> simp at hL
  · have hf : ∀ i, Lf (Array.replicate ops.size false) i = false := fun i => by
      simp only [Lf, Array.getD_eq_getD_getElem?, Array.getElem?_replicate]
      split <;> simp
    refine ⟨fun m => ⟨0, by omega, ?_, fun i op hi => by omega, fun i op _ _ _ => hf i⟩, fun id => ⟨0, by omega, ?_, fun i op e hi => by omega, fun i op e _ _ _ _ => hf i⟩⟩
    · cases l <;> cases es <;> rfl
    · cases l <;> cases es <;> rfl
end Go.Eng
