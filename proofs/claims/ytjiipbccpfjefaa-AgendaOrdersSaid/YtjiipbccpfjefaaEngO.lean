/- States of the engine; regions in the order of the text. -/
import Derived.Test.YtjiipbccpfjefaaEngN
set_option linter.unusedSimpArgs false
set_option linter.unusedVariables false
namespace Go.Eng
open Go

structure St where
  env : List (Nat × SV)
  h : List (Option HB)

def lk : List (Nat × SV) → Nat → SV
  | [], _ => .dead
  | (m, v) :: r, n => if m = n then v else lk r n

def hget (h : List (Option HB)) (id : Nat) : Option HB := match h[id]? with
  | some x => x
  | none => none

def putE (dst : Option Nat) (v : SV) (env : List (Nat × SV)) : List (Nat × SV) := match dst with
  | some d => (d, v) :: env
  | none => env

def uph (h : List (Option HB)) (q : Nat × HB) : List (Option HB) := if q.1 = h.length then h ++ [some q.2] else h.set q.1 (some q.2)

def uphO (h : List (Option HB)) : Option (Nat × HB) → List (Option HB)
  | none => h
  | some q => uph h q

def uphL : List (Option HB) → List (Nat × HB) → List (Option HB)
  | h, [] => h
  | h, q :: r => uphL (uph h q) r

def okU (pre : List (Nat × HB)) : List (Option HB) → List (Nat × HB) → Prop
  | _, [] => True
  | h, q :: r => (q.1 = h.length ∨ (q.1 < h.length ∧ ∃ hb, (q.1, hb) ∈ pre)) ∧ okU pre (uph h q) r

theorem lk_put (env : List (Nat × SV)) (d : Nat) (v : SV) : lk ((d, v) :: env) = up (lk env) d v := by
  funext n
  simp only [lk, up]
  by_cases h : d = n
  · simp [h]
  · rw [if_neg h, if_neg (Ne.symm h)]

theorem uph_length (h : List (Option HB)) (q : Nat × HB) : h.length ≤ (uph h q).length := by
  unfold uph; split <;> simp

theorem hget_uph {h : List (Option HB)} {q : Nat × HB} (hq : q.1 ≤ h.length) : hget (uph h q) = up (hget h) q.1 (some q.2) := by
  funext id
  unfold uph hget up
  by_cases he : q.1 = h.length
  · rw [if_pos he]
    by_cases hi : id = q.1
    · subst hi; simp [he]
    · rw [if_neg hi]
      show _ = (match h[id]? with | some x => x | none => none)
      by_cases hl : id < h.length
      · rw [List.getElem?_append_left hl]
      · rw [List.getElem?_append_right (by omega), List.getElem?_eq_none (l := h) (by omega), List.getElem?_eq_none (by simp; omega)]
  · rw [if_neg he, List.getElem?_set]
    by_cases hi : id = q.1
    · subst hi
      have : q.1 < h.length := by omega
      simp [this]
    · rw [if_neg (Ne.symm hi), if_neg hi]

theorem hget_uphL {pre : List (Nat × HB)} : ∀ {us : List (Nat × HB)} {h : List (Option HB)}, okU pre h us → hget (uphL h us) = upl (hget h) us ∧ h.length ≤ (uphL h us).length
  | [], h, _ => ⟨rfl, Nat.le_refl _⟩
  | q :: r, h, hk => by
    obtain ⟨h1, h2⟩ := hk
    have hle : q.1 ≤ h.length := by rcases h1 with h1 | ⟨h1, _⟩ <;> omega
    obtain ⟨g1, g2⟩ := hget_uphL h2
    refine ⟨?_, Nat.le_trans (uph_length h q) g2⟩
    obtain ⟨id, hb⟩ := q
    rw [uphL, g1, hget_uph hle]; rfl

structure RepS (C : Ctx) (n0 : Nat) (s : St) (a : Act) (w : World) : Prop where
  rep : ∃ rho, RepF C (lk s.env) (hget s.h) a w rho
  le0 : n0 ≤ s.h.length
  h0 : ∀ id, n0 ≤ id → C.h0 id = none

theorem okU_new {C : Ctx} {n0 : Nat} {s : St} {a : Act} {w : World} (R : RepS C n0 s a w) {pre : List (Nat × HB)} : ∀ {us : List (Nat × HB)} {h : List (Option HB)}, s.h.length ≤ h.length → okU pre h us → NewOK C (hget s.h) pre us
  | [], h, _, _ => fun q hq => by simp at hq
  | p :: r, h, hl, hk => fun q hq => by
    rcases List.mem_cons.1 hq with rfl | hq
    · rcases hk.1 with h1 | ⟨_, h1⟩
      · refine .inr ⟨?_, R.h0 _ (by have := R.le0; omega)⟩
        unfold hget
        rw [List.getElem?_eq_none (by omega)]
      · exact .inl h1
    · exact okU_new R (h := uph h p) (by have := uph_length h p; omega) hk.2 q hq

def gOK (en : Nat → SV) : Option (Nat × Bool) → Option Bool
  | none => some true
  | some (d, b) => match en d with
    | .rv (.bool t) => some (t == b)
    | _ => none

/-- A call within a state. -/
def CallW (P : Program) (f : FuncId) (args : List SV) (h : List (Option HB)) (K : SV → List (Option HB) → Prop) : Prop :=
  ∃ pre us sv, CallR P f args pre us sv ∧ PreOK (hget h) pre ∧ okU pre h us ∧ K sv (uphL h us)

def callvW (P : Program) (h : List (Option HB)) (K : SV → List (Option HB) → Prop) : List SV → Prop
  | .fn f caps :: args => CallW P f (args ++ caps) h K
  | _ => False

/-- The method is called: of the value itself, or of what lies behind it. -/
def invW (P : Program) (name : String) (h : List (Option HB)) (K : SV → List (Option HB) → Prop) : List SV → Prop
  | s :: args => match ifcOf s with
    | some (t, x) => match invF P t name with
      | some (f, none) => CallW P f (x :: args) h K
      | some (f, some (n, agg)) => match loadE n agg (hget h) x with
        | some (p, y, _, _) => p ∧ CallW P f (y :: args) h K
        | none => False
      | none => False
    | none => False
  | _ => False

def plainW (h : List (Option HB)) (K : SV → List (Option HB) → Prop) : XR → Prop
  | some (p, sv, u, _) => p ∧ K sv (uphO h u)
  | none => False

def opW (P : Program) (ao : AO) (args : List SV) (h : List (Option HB)) (K : SV → List (Option HB) → Prop) : Prop :=
  match ao with
  | .call f => CallW P f args h K
  | .callv => callvW P h K args
  | .inv name => invW P name h K args
  | ao => plainW h K (opE ao args (hget h) h.length)

def RW (P : Program) (K : St → Prop) : List AOp → St → Prop
  | [], s => K s
  | op :: r, s => match gOK (lk s.env) op.guard with
    | some true => opW P op.ao (op.xs.map (evX (lk s.env))) s.h fun sv h' => RW P K r ⟨putE op.dst sv s.env, h'⟩
    | some false => RW P K r ⟨putE op.dst .dead s.env, s.h⟩
    | none => False

theorem loadE_rd {n : Nat} {agg : Bool} {hp : Hp} {x y : SV} {p : Prop} {u : Option (Nat × HB)} {rd : List Nat} (h : loadE n agg hp x = some (p, y, u, rd)) : ∀ id ∈ rd, (hp id).isSome = true := by
  unfold loadE at h
  repeat' split at h
  all_goals first | (cases h; done) | (cases h; simp [*])

/-- What was looked at to find the receiver. -/
def rdPre (h : List (Option HB)) (rd : List Nat) : List (Nat × HB) := rd.filterMap fun id => (hget h id).map fun hb => (id, hb)

theorem inv_load {P : Program} {o : Oper} {name : String} {s x y : SV} {t : TypeId} {args : List SV} {f : FuncId} {n : Nat} {agg : Bool} {xs0 : List Operand} (hc : compOp P o.op = some (.inv name, xs0)) (hi : ifcOf s = some (t, x)) (hf : invF P t name = some (f, some (n, agg))) {h : List (Option HB)} {p : Prop} {u : Option (Nat × HB)} {rd : List Nat} (hE : loadE n agg (hget h) x = some (p, y, u, rd)) (hp' : p)
    {pre us : List (Nat × HB)} {sv : SV} (H : CallR P f (y :: args) pre us sv) (h2 : PreOK (hget h) pre) (h3 : okU pre h us) : OpS P o (s :: args) (rdPre h rd ++ pre) us sv ∧ PreOK (hget h) (rdPre h rd ++ pre) ∧ okU (rdPre h rd ++ pre) h us := by
  have hrd := loadE_rd hE
  have hpre : PreOK (hget h) (rdPre h rd ++ pre) := fun q hq => by
    rcases List.mem_append.1 hq with hq | hq
    · obtain ⟨id, _, hid⟩ := List.mem_filterMap.1 hq
      cases hq' : hget h id with
      | none => simp [hq'] at hid
      | some hb => simp [hq'] at hid; subst hid; exact hq'
    · exact h2 q hq
  have okm : ∀ {us : List (Nat × HB)} {h' : List (Option HB)}, okU pre h' us → okU (rdPre h rd ++ pre) h' us := by
    intro us
    induction us with
    | nil => intro h' _; trivial
    | cons q r ih =>
      intro h' hk
      refine ⟨hk.1.imp (fun h => h) (fun ⟨a, hb, hm⟩ => ⟨a, hb, List.mem_append.2 (.inr hm)⟩), ih hk.2⟩
  refine ⟨opS_inv hc hi hf (y := y) (fun hp hP => ?_) (pre0 := pre) (fun q hq => List.mem_append.2 (.inr hq)) H (fun C hp hnew hP q hq => ?_), hpre, okm h3⟩
  · refine ⟨p, u, rd, loadE_local hE (fun id hid => ?_), hp'⟩
    obtain ⟨hb, hhb⟩ := Option.isSome_iff_exists.1 (hrd id hid)
    rw [hhb]
    exact hP (id, hb) (List.mem_append.2 (.inl (List.mem_filterMap.2 ⟨id, hid, by simp [hhb]⟩)))
  · rcases hnew q hq with ⟨hb, hm⟩ | hn
    · rcases List.mem_append.1 hm with hm | hm
      · -- an id that is only looked at is not written by the call, unless it is among pre
        have : ∀ {us : List (Nat × HB)} {h' : List (Option HB)}, okU pre h' us → ∀ q ∈ us, (∃ hb, (q.1, hb) ∈ pre) ∨ h'.length ≤ q.1 := by
          intro us
          induction us with
          | nil => intro h' _ q hq; simp at hq
          | cons r l ih =>
            intro h' hk q hq
            rcases List.mem_cons.1 hq with rfl | hq
            · rcases hk.1 with h1 | ⟨_, h1⟩
              · exact .inr (by omega)
              · exact .inl h1
            · rcases ih hk.2 q hq with h1 | h1
              · exact .inl h1
              · exact .inr (by have := uph_length h' r; omega)
        rcases this h3 q hq with h1 | h1
        · exact .inl h1
        · exfalso
          obtain ⟨id, _, hid⟩ := List.mem_filterMap.1 hm
          cases hq' : hget h id with
          | none => simp [hq'] at hid
          | some hb' =>
            simp [hq'] at hid
            have : id < h.length := by
              unfold hget at hq'
              cases hl : h[id]? with
              | none => simp [hl] at hq'
              | some x => exact (List.getElem?_eq_some_iff.1 hl).1
            omega
      · exact .inl ⟨hb, hm⟩
    · exact .inr hn

/-- What a step of a region is, whatever the operation. -/
theorem opW_opS {P : Program} {o : Oper} {ao : AO} {xs0 : List Operand} (hc : compOp P o.op = some (ao, xs0)) {args : List SV} {h : List (Option HB)} {K : SV → List (Option HB) → Prop} (hW : opW P ao args h K) :
    ∃ pre us sv, OpS P o args pre us sv ∧ PreOK (hget h) pre ∧ okU pre h us ∧ K sv (uphL h us) := by
  unfold opW at hW
  split at hW
  · obtain ⟨pre, us, sv, h1, h2, h3, h4⟩ := hW
    exact ⟨pre, us, sv, opS_call hc h1, h2, h3, h4⟩
  · unfold callvW at hW
    split at hW
    · obtain ⟨pre, us, sv, h1, h2, h3, h4⟩ := hW
      exact ⟨pre, us, sv, opS_callv hc h1, h2, h3, h4⟩
    · exact hW.elim
  · unfold invW at hW
    split at hW
    · rename_i s args0
      split at hW
      · rename_i t x hi
        split at hW
        · rename_i f hf
          obtain ⟨pre, us, sv, h1, h2, h3, h4⟩ := hW
          exact ⟨pre, us, sv, opS_inv hc hi hf (y := x) (fun hp hP => rfl) (fun q hq => hq) h1 (fun C hp hn _ => hn), h2, h3, h4⟩
        · rename_i f n agg hf
          split at hW
          · rename_i p y u rd hE
            obtain ⟨hp', pre, us, sv, h1, h2, h3, h4⟩ := hW
            obtain ⟨g1, g2, g3⟩ := inv_load hc hi hf hE hp' h1 h2 h3
            exact ⟨_, us, sv, g1, g2, g3, h4⟩
          · exact hW.elim
        · exact hW.elim
      · exact hW.elim
    · exact hW.elim
  · unfold plainW at hW
    split at hW
    · rename_i p sv u rd hE
      obtain ⟨hp, hK⟩ := hW
      have hnx : hget h h.length = none := by unfold hget; rw [List.getElem?_eq_none (Nat.le_refl _)]
      refine ⟨_, uList u, sv, opS_plain hc hE hp hnx, fun q hq => ?_, ?_, ?_⟩
      · obtain ⟨id, _, hid⟩ := List.mem_filterMap.1 hq
        cases hq' : hget h id with
        | none => simp [hq'] at hid
        | some hb => simp [hq'] at hid; subst hid; exact hq'
      · cases u with
        | none => trivial
        | some q =>
          have ur := opE_ur hE
          refine ⟨?_, trivial⟩
          rcases ur.1 q rfl with h1 | h1
          · exact .inl h1
          · right
            have hs := ur.2 _ h1
            obtain ⟨hb, hhb⟩ := Option.isSome_iff_exists.1 hs
            refine ⟨?_, hb, List.mem_filterMap.2 ⟨q.1, h1, by simp [hhb]⟩⟩
            unfold hget at hhb
            cases hl : h[q.1]? with
            | none => simp [hl] at hhb
            | some x => exact (List.getElem?_eq_some_iff.1 hl).1
      · cases u with
        | none => exact hK
        | some q => exact hK
    · exact hW.elim

theorem gOK_wanted {C : Ctx} {en : Nat → SV} {hp : Hp} {a : Act} {w : World} {rho : Nat → Option Nat} (RF : RepF C en hp a w rho) {ops : Array Oper} {o : Oper} {N : Nat} {P : Program} {op : AOp} (hc : compOper P ops N o = some op) {b : Bool} (h : gOK en op.guard = some b) : Region.wanted o (yielded ops a.tmps) = b := by
  unfold compOper at hc
  split at hc
  · cases hc
  · split at hc
    · cases hc
    · split at hc
      · split at hc
        · rename_i hg
          cases hc
          simp only [gOK, Option.some.injEq] at h
          simp [Region.wanted, hg, ← h]
        · rename_i j b' hg
          split at hc
          · rename_i d hd
            cases hc
            simp only [gOK] at h
            split at h
            · rename_i t ht
              simp only [Option.some.injEq] at h
              have := RF.env d
              rw [ht] at this
              have hv := rp_bool this
              have htm : a.tmps[d]? = some (.bool t) := by
                rw [Array.getD_eq_getD_getElem?] at hv
                cases hx : a.tmps[d]? with
                | none => simp [hx, undef] at hv
                | some x => simp [hx] at hv; rw [hv]
              simp only [Region.wanted, hg, yielded, hd, Option.bind_some, htm]
              rw [← h]; cases t <;> cases b' <;> rfl
            · cases h
          · cases hc
      · cases hc

theorem compOper_op {P : Program} {ops : Array Oper} {N : Nat} {o : Oper} {op : AOp} (hc : compOper P ops N o = some op) : ∃ xs0, compOp P o.op = some (op.ao, xs0) ∧ cvOs xs0 = some op.xs ∧ o.dst = op.dst ∧ ∀ d, op.dst = some d → d < N := by
  unfold compOper at hc
  split at hc
  · cases hc
  · rename_i ao xs hao
    split at hc
    · cases hc
    · rename_i ys hys
      split at hc
      · rename_i hd
        split at hc
        · cases hc
          exact ⟨xs, hao, hys, rfl, fun d hdd => by have hdd' : o.dst = some d := hdd; rw [hdd'] at hd; simpa using hd⟩
        · split at hc
          · cases hc
            exact ⟨xs, hao, hys, rfl, fun d hdd => by have hdd' : o.dst = some d := hdd; rw [hdd'] at hd; simpa using hd⟩
          · cases hc
      · cases hc

theorem RepF.putO {C : Ctx} {env : List (Nat × SV)} {hp : Hp} {a : Act} {w : World} {rho : Nat → Option Nat} (R : RepF C (lk env) hp a w rho) {dst : Option Nat} (hd : ∀ d, dst = some d → d < C.N) {s : SV} {v : Value} (h : Rp w (okk C rho hp) rho hp s v) :
    RepF C (lk (putE dst s env)) hp (a.put dst v) w rho := by
  cases dst with
  | none => exact R
  | some d =>
    have := R.put (hd d rfl) h
    rw [← lk_put] at this; exact this

theorem rw_sound {P : Program} {C : Ctx} {n0 : Nat} {ops : Array Oper} {K : St → Prop} {Q : Exit → Act → World → Prop} (hK : ∀ s a w, K s → RepS C n0 s a w → Q .normal a w) :
    ∀ (l : List AOp) (is : List Nat) (s : St) (a : Act) (w : World), is.length = l.length → (∀ (j i : Nat) (op : AOp), is[j]? = some i → l[j]? = some op → ∃ o, ops[i]? = some o ∧ compOper P ops C.N o = some op) →
      RW P K l s → RepS C n0 s a w → wpOps P ops Q is a w
  | [], [], s, a, w, _, _, h, R => hK s a w h R
  | [], _ :: _, s, a, w, hl, _, _, _ => by simp at hl
  | _ :: _, [], s, a, w, hl, _, _, _ => by simp at hl
  | op :: l, i :: is, s, a, w, hl, hc, h, R => by
    obtain ⟨o, ho, hco⟩ := hc 0 i op rfl rfl
    obtain ⟨xs0, hc1, hc2, hc3, hc4⟩ := compOper_op hco
    have ih := rw_sound (P := P) (ops := ops) hK l is
    have hl' : is.length = l.length := by simpa using hl
    have hc' : ∀ (j i : Nat) (op : AOp), is[j]? = some i → l[j]? = some op → ∃ o, ops[i]? = some o ∧ compOper P ops C.N o = some op := fun j i op h1 h2 => hc (j + 1) i op (by simpa using h1) (by simpa using h2)
    simp only [wpOps, ho]
    unfold RW at h
    cases hg : gOK (lk s.env) op.guard with
    | none => simp [hg] at h
    | some b =>
      obtain ⟨rho, RF⟩ := R.rep
      have hw := gOK_wanted RF hco hg
      cases b with
      | false =>
        rw [hg] at h
        rw [if_neg (by rw [hw]; simp)]
        refine ih _ _ _ hl' hc' h ⟨⟨rho, ?_⟩, R.le0, R.h0⟩
        rw [hc3]
        exact RF.putO hc4 (.dead _)
      | true =>
        rw [hg] at h
        rw [if_pos hw]
        left
        obtain ⟨pre, us, sv, h1, h2, h3, h4⟩ := opW_opS hc1 h
        obtain ⟨g1, g2⟩ := hget_uphL h3
        refine h1 C (hget s.h) w rho a _ _ _ _ hc1 h2 (okU_new R (Nat.le_refl _) h3) RF.mem (args_of RF hc2) (fun v w' rho' hS hR => ?_)
        refine ih _ _ _ hl' hc' h4 ⟨⟨rho', ?_⟩, Nat.le_trans R.le0 g2, R.h0⟩
        rw [hc3]
        have RF' := RF.step hS
        rw [← g1] at RF' hR
        exact RF'.putO hc4 hR
end Go.Eng
