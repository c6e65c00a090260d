/- Equality of values of many cells, cell by cell. -/
import Derived.Test.YtjiipbccpfjefaaEngJ
import Derived.ChangeKeysEq
set_option linter.unusedSimpArgs false
set_option linter.unusedVariables false
namespace Go.Eng
open Go

inductive CK where
  | b | i | s
  deriving Inhabited, DecidableEq

def cellEqV : CK → Value → Value → Option Bool
  | .b, .bool a, .bool b => some (a == b)
  | .i, .int k a, .int k' b => if k = k' then some (a == b) else none
  | .s, .string a, .string b => some (a.toList == b.toList)
  | _, _, _ => none

def cellsEqV : List CK → List Value → List Value → Option Bool
  | [], [], [] => some true
  | k :: ks, x :: xs, y :: ys => match cellEqV k x y, cellsEqV ks xs ys with
    | some a, some b => some (a && b)
    | _, _ => none
  | _, _, _ => none

def eqF (P : Program) (rec : TypeId → Option (List CK)) : Nat → List Field → Option (List CK)
  | _, [] => some []
  | off, f :: r => if f.name = "_" ∨ f.offset ≠ off then none else match rec f.type, P.info? f.type with
    | some ks, some i => if i.size = ks.length then match eqF P rec (off + ks.length) r with
      | some l => some (ks ++ l)
      | none => none
      else none
    | _, _ => none

/-- The kinds of the cells of a type whose values are compared cell by cell. -/
def eqK (P : Program) : Nat → TypeId → Option (List CK)
  | 0, _ => none
  | D + 1, t => match P.underlying t with
    | some .bool => some [.b]
    | some (.int _) => some [.i]
    | some .string => some [.s]
    | some (.array n e) => match eqK P D e, P.info? e with
      | some ks, some i => if i.size = ks.length then some ((List.replicate n ks).flatten) else none
      | _, _ => none
    | some (.struct fs) => if P.stoodInHeld t then none else eqF P (eqK P D) 0 fs.toList
    | _ => none

def wrapT (P : Program) (t : TypeId) (cs : List Value) : Value := match P.underlying t with
  | some (.struct _) | some (.array _ _) => .agg cs.toArray
  | _ => cs.headD undef

theorem cellsEqV_len : ∀ {ks : List CK} {xs ys : List Value} {r : Bool}, cellsEqV ks xs ys = some r → xs.length = ks.length ∧ ys.length = ks.length
  | [], [], [], _, _ => ⟨rfl, rfl⟩
  | k :: ks, x :: xs, y :: ys, r, h => by
    unfold cellsEqV at h
    split at h
    · rename_i a b ha hb
      have := cellsEqV_len hb
      simp [this.1, this.2]
    · cases h
  | [], _ :: _, _, _, h => by cases h
  | [], [], _ :: _, _, h => by cases h
  | _ :: _, [], _, _, h => by cases h
  | _ :: _, _ :: _, [], _, h => by cases h

theorem cellsEqV_app : ∀ {ks ls : List CK} {xs ys : List Value} {r : Bool}, cellsEqV (ks ++ ls) xs ys = some r →
    ∃ r1 r2, cellsEqV ks (xs.take ks.length) (ys.take ks.length) = some r1 ∧ cellsEqV ls (xs.drop ks.length) (ys.drop ks.length) = some r2 ∧ r = (r1 && r2)
  | [], ls, xs, ys, r, h => ⟨true, r, rfl, by simpa using h, by simp⟩
  | k :: ks, ls, x :: xs, y :: ys, r, h => by
    simp only [List.cons_append, cellsEqV] at h
    split at h
    · rename_i a b ha hb
      obtain ⟨r1, r2, h1, h2, h3⟩ := cellsEqV_app hb
      cases h
      refine ⟨a && r1, r2, ?_, by simpa using h2, by rw [h3, Bool.and_assoc]⟩
      simp only [List.length_cons, List.take_succ_cons, cellsEqV, ha, h1]
    · cases h
  | _ :: _, _, [], _, _, h => by simp [cellsEqV] at h
  | _ :: _, _, _ :: _, [], _, h => by simp [cellsEqV] at h

section
variable {P : Program}

theorem run_part_wrap {e : TypeId} {i : TypeInfo} (hi : P.info? e = some i) {kd : TypeDesc} (hu : P.underlying e = some kd) {ks : List CK} (hn : i.size = ks.length) (hk : aggT P e = some false → ks.length = 1) {xs : List Value} {off : Nat} (hl : off + ks.length ≤ xs.length) (w : World) :
    (part e xs.toArray off).run P w = .ok (wrapT P e ((xs.drop off).take ks.length)) w := by
  have hs : szT P e = some ks.length := by simp [szT, hi, hn]
  have ht : ∃ b, aggT P e = some b := by simp [aggT, hu]
  obtain ⟨b, hb⟩ := ht
  cases b with
  | true =>
    have hw : wrapT P e ((xs.drop off).take ks.length) = .agg ((xs.drop off).take ks.length).toArray := by
      unfold wrapT
      simp only [aggT, hu, Option.map_some, Option.some.injEq] at hb
      rw [hu]
      split at hb
      · rfl
      · rfl
      · cases hb
    rw [hw]
    simp only [part, Sem.run_bind, run_isAgg' hb, Result.andThen_ok, if_true, run_sizeOf' hs, Sem.run_pure]
    have : (xs.toArray.extract off (off + ks.length)) = ((xs.drop off).take ks.length).toArray := by
      apply Array.ext'
      rw [Array.toList_extract]
      simp [List.extract]
    rw [this]
  | false =>
    have h1 := hk hb
    rw [h1] at hl ⊢
    have hlt : off < xs.length := by omega
    have hd : (xs.drop off).take 1 = [xs[off]] := by
      rw [List.drop_eq_getElem_cons hlt]; rfl
    have hw : wrapT P e [xs[off]] = xs[off] := by
      unfold wrapT
      simp only [aggT, hu, Option.map_some, Option.some.injEq] at hb
      rw [hu]
      split at hb
      · cases hb
      · cases hb
      · rename_i h1 h2
        split
        · rename_i he; cases he; exact absurd rfl (h1 _)
        · rename_i he; cases he; exact absurd rfl (h2 _ _)
        · rfl
    rw [hd, hw]
    simp only [part, Sem.run_bind, run_isAgg' hb, Result.andThen_ok, Bool.false_eq_true, if_false]
    have : xs.toArray[off]? = some xs[off] := by simp [hlt]
    rw [this]; rfl

theorem eqK_one {D : Nat} {t : TypeId} {ks : List CK} (h : eqK P D t = some ks) (ha : aggT P t = some false) : ks.length = 1 := by
  cases D with
  | zero => cases h
  | succ D =>
    unfold eqK at h
    unfold aggT at ha
    split at h
    · cases h; rfl
    · cases h; rfl
    · cases h; rfl
    · rename_i hu; simp [hu] at ha
    · rename_i hu; simp [hu] at ha
    · cases h

def EqOK (P : Program) (d : Nat) (t : TypeId) (ks : List CK) : Prop := ∀ (cx cy : List Value) (r : Bool), cellsEqV ks cx cy = some r → ∀ w, (Op.equalIn d t (wrapT P t cx) (wrapT P t cy)).run P w = .ok r w

theorem eqK_und {D : Nat} {t : TypeId} {ks : List CK} (h : eqK P D t = some ks) : ∃ kd, P.underlying t = some kd := by
  cases D with
  | zero => cases h
  | succ D =>
    unfold eqK at h
    split at h <;> first | exact ⟨_, by assumption⟩ | cases h

theorem run_eqF {d D : Nat} (IH : ∀ (t : TypeId) (ks : List CK), eqK P D t = some ks → EqOK P d t ks) {X Y : List Value} : ∀ (fs : List Field) (off : Nat) (ks : List CK) (r : Bool), eqF P (eqK P D) off fs = some ks → cellsEqV ks (X.drop off) (Y.drop off) = some r → off ≤ X.length → off ≤ Y.length → ∀ w, (Op.eqFields d X.toArray Y.toArray fs).run P w = .ok r w
  | [], off, ks, r, h, hc, _, _, w => by
    cases h
    cases hx : X.drop off with
    | nil => cases hy : Y.drop off with
      | nil => rw [hx, hy] at hc; cases hc; rfl
      | cons => rw [hx, hy] at hc; cases hc
    | cons => rw [hx] at hc; cases hc
  | f :: fs, off, ks, r, h, hc, hX, hY, w => by
    unfold eqF at h
    split at h
    · cases h
    · rename_i hno
      split at h
      · rename_i k1 i hk1 hi
        split at h
        · rename_i hsz
          split at h
          · rename_i l hl
            cases h
            obtain ⟨r1, r2, h1, h2, rfl⟩ := cellsEqV_app hc
            have hlen := cellsEqV_len hc
            simp only [List.length_drop, List.length_append] at hlen
            obtain ⟨kd, hu⟩ := eqK_und hk1
            have hoff : f.offset = off := by
              by_cases he : f.offset = off
              · exact he
              · exact absurd (.inr he) hno
            have hname : ¬ f.name = "_" := fun he => hno (.inl he)
            have pX := run_part_wrap (P := P) hi hu hsz (eqK_one hk1) (xs := X) (off := off) (by omega) w
            have pY := run_part_wrap (P := P) hi hu hsz (eqK_one hk1) (xs := Y) (off := off) (by omega) w
            have pE := IH f.type k1 hk1 _ _ r1 h1 w
            simp only [Op.eqFields, hname, ne_eq, not_false_eq_true, if_true, Sem.run_bind, hoff, pX, pY, pE, Result.andThen_ok]
            cases r1 with
            | false => simp
            | true =>
              simp only [Bool.not_true, Bool.false_eq_true, if_false, Bool.true_and]
              refine run_eqF IH fs (off + k1.length) l r2 hl ?_ (by omega) (by omega) w
              rw [← List.drop_drop, ← List.drop_drop]; exact h2
          · cases h
        · cases h
      · cases h

theorem run_eqI {d D : Nat} {e : TypeId} {ks : List CK} (hk : eqK P D e = some ks) (IH : EqOK P d e ks) {i : TypeInfo} (hi : P.info? e = some i) (hsz : i.size = ks.length) {X Y : List Value} : ∀ (n k : Nat) (r : Bool), cellsEqV ((List.replicate n ks).flatten) (X.drop (k * ks.length)) (Y.drop (k * ks.length)) = some r → k * ks.length ≤ X.length → k * ks.length ≤ Y.length → ∀ w, (Op.eqItems d e ks.length X.toArray Y.toArray (List.range' k n)).run P w = .ok r w
  | 0, k, r, hc, _, _, w => by
    simp only [List.replicate_zero, List.flatten_nil] at hc
    cases hx : X.drop (k * ks.length) with
    | nil => cases hy : Y.drop (k * ks.length) with
      | nil => rw [hx, hy] at hc; cases hc; rfl
      | cons => rw [hx, hy] at hc; cases hc
    | cons => rw [hx] at hc; cases hc
  | n + 1, k, r, hc, hX, hY, w => by
    rw [List.replicate_succ, List.flatten_cons] at hc
    obtain ⟨r1, r2, h1, h2, rfl⟩ := cellsEqV_app hc
    have hlen := cellsEqV_len hc
    simp only [List.length_drop, List.length_append] at hlen
    obtain ⟨kd, hu⟩ := eqK_und hk
    have pX := run_part_wrap (P := P) hi hu hsz (eqK_one hk) (xs := X) (off := k * ks.length) (by omega) w
    have pY := run_part_wrap (P := P) hi hu hsz (eqK_one hk) (xs := Y) (off := k * ks.length) (by omega) w
    have pE := IH _ _ r1 h1 w
    have hs : (k + 1) * ks.length = k * ks.length + ks.length := by rw [Nat.add_mul, Nat.one_mul]
    simp only [List.range'_succ, Op.eqItems, Sem.run_bind, pX, pY, pE, Result.andThen_ok]
    cases r1 with
    | false => simp
    | true =>
      simp only [Bool.not_true, Bool.false_eq_true, if_false, Bool.true_and]
      refine run_eqI hk IH hi hsz n (k + 1) r2 ?_ (by omega) (by omega) w
      rw [hs, ← List.drop_drop, ← List.drop_drop]; exact h2

theorem eqK_ok (d : Nat) : ∀ (D : Nat) (t : TypeId) (ks : List CK), eqK P D t = some ks → EqOK P (d + D) t ks
  | 0, t, ks, h => by cases h
  | D + 1, t, ks, h => by
    intro cx cy r hc w
    have hlen := cellsEqV_len hc
    unfold eqK at h
    split at h
    · rename_i hu
      cases h
      obtain ⟨x, rfl⟩ := List.length_eq_one_iff.1 hlen.1
      obtain ⟨y, rfl⟩ := List.length_eq_one_iff.1 hlen.2
      cases x <;> cases y <;> (simp [cellsEqV, cellEqV] at hc)
      subst hc
      simp only [wrapT, hu, List.headD_cons]
      exact run_equalIn_bool w (d + D) t _ _ hu
    · rename_i k hu
      cases h
      obtain ⟨x, rfl⟩ := List.length_eq_one_iff.1 hlen.1
      obtain ⟨y, rfl⟩ := List.length_eq_one_iff.1 hlen.2
      cases x <;> cases y <;> (simp [cellsEqV, cellEqV] at hc)
      rename_i k1 a k2 b
      by_cases hk : k1 = k2
      · subst hk
        simp at hc
        subst hc
        simp only [wrapT, hu, List.headD_cons]
        exact run_equalIn_int w (d + D) t _ _ _ _ hu
      · simp [hk] at hc
    · rename_i hu
      cases h
      obtain ⟨x, rfl⟩ := List.length_eq_one_iff.1 hlen.1
      obtain ⟨y, rfl⟩ := List.length_eq_one_iff.1 hlen.2
      cases x <;> cases y <;> (simp [cellsEqV, cellEqV] at hc)
      subst hc
      simp only [wrapT, hu, List.headD_cons]
      exact run_equalIn_string w (d + D) t _ _ hu
    · rename_i n e hu
      split at h
      · rename_i k1 i hk1 hi
        split at h
        · rename_i hsz
          cases h
          simp only [wrapT, hu]
          have hco : P.cellsOf e = k1.length := by simp [Program.cellsOf, hi, hsz]
          rw [show d + (D + 1) = (d + D) + 1 from rfl, run_equalIn_array w (d + D) _ _ hu hi, hco, List.range_eq_range']
          refine run_eqI hk1 (eqK_ok d D e k1 hk1) hi hsz n 0 r ?_ (by simp) (by simp) w
          simpa using hc
        · cases h
      · cases h
    · rename_i fs hu
      split at h
      · cases h
      · rename_i hst
        simp only [wrapT, hu]
        have hfs : P.fieldsOf t = fs := by simp [Program.fieldsOf, hu]
        rw [show d + (D + 1) = (d + D) + 1 from rfl, run_equalIn_struct w (d + D) t _ _ (by rw [hfs]; exact hu) (by simpa using hst), hfs]
        exact run_eqF (eqK_ok d D) fs.toList 0 ks r h (by simpa using hc) (by simp) (by simp) w
    · cases h
end

def cellEq : CK → SV → SV → Option (Prop × Bool)
  | .b, .rv (.bool a), .rv (.bool b) => some (True, a == b)
  | .i, .rv (.int k a), .rv (.int k' b) => some (k = k', a == b)
  | .s, .rv (.str a), .rv (.str b) => some (True, a.toList == b.toList)
  | _, _, _ => none

def cellsEq : List CK → List SV → List SV → Option (Prop × Bool)
  | [], [], [] => some (True, true)
  | k :: ks, x :: xs, y :: ys => match cellEq k x y, cellsEq ks xs ys with
    | some (p, a), some (q, b) => some (p ∧ q, a && b)
    | _, _ => none
  | _, _, _ => none

theorem cellEq_ok {w : World} {ok : Nat → Prop} {rho : Nat → Option Nat} {hp : Hp} {k : CK} {x y : SV} {u v : Value} (hu : Rp w ok rho hp x u) (hv : Rp w ok rho hp y v) {p : Prop} {b : Bool} (h : cellEq k x y = some (p, b)) (hp' : p) : cellEqV k u v = some b := by
  unfold cellEq at h
  split at h
  · cases h
    cases hu with | rv _ _ hr => cases hv with | rv _ _ hs => cases hr; cases hs; rfl
  · cases h
    cases hu with | rv _ _ hr => cases hv with | rv _ _ hs => cases hr; cases hs; simp [cellEqV, hp']
  · cases h
    cases hu with | rv _ _ hr => cases hv with | rv _ _ hs => cases hr; cases hs; rfl
  · cases h

theorem cellsEq_ok {w : World} {ok : Nat → Prop} {rho : Nat → Option Nat} {hp : Hp} : ∀ {ks : List CK} {xs ys : List SV} {us vs : List Value} {p : Prop} {b : Bool}, us.length = xs.length → vs.length = ys.length → (∀ (j : Nat) (y : SV), xs[j]? = some y → Rp w ok rho hp y (us.getD j undef)) → (∀ (j : Nat) (y : SV), ys[j]? = some y → Rp w ok rho hp y (vs.getD j undef)) →
    cellsEq ks xs ys = some (p, b) → p → cellsEqV ks us vs = some b
  | [], [], [], us, vs, p, b, h1, h2, _, _, h, _ => by
    cases h
    obtain rfl := List.eq_nil_of_length_eq_zero h1
    obtain rfl := List.eq_nil_of_length_eq_zero h2
    rfl
  | k :: ks, x :: xs, y :: ys, us, vs, p, b, h1, h2, hu, hv, h, hp' => by
    unfold cellsEq at h
    split at h
    · rename_i p1 a q c ha hc
      cases h
      cases us with
      | nil => simp at h1
      | cons u us =>
        cases vs with
        | nil => simp at h2
        | cons v vs =>
          have e1 := cellEq_ok (hu 0 x rfl) (hv 0 y rfl) ha hp'.1
          have e2 := cellsEq_ok (us := us) (vs := vs) (by simpa using h1) (by simpa using h2) (fun j y hj => hu (j + 1) y (by simpa using hj)) (fun j y hj => hv (j + 1) y (by simpa using hj)) hc hp'.2
          simp only [List.getD_cons_zero] at e1
          simp only [cellsEqV, e1, e2]
    · cases h
  | [], _ :: _, _, _, _, _, _, _, _, _, _, h, _ => by cases h
  | [], [], _ :: _, _, _, _, _, _, _, _, _, h, _ => by cases h
  | _ :: _, [], _, _, _, _, _, _, _, _, _, h, _ => by cases h
  | _ :: _, _ :: _, [], _, _, _, _, _, _, _, _, h, _ => by cases h
end Go.Eng
