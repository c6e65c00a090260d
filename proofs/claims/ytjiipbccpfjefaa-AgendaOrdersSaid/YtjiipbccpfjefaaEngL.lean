/- The machine does what the engine says, operation by operation. -/
import Derived.Test.YtjiipbccpfjefaaEngK
set_option linter.unusedSimpArgs false
set_option linter.unusedVariables false
namespace Go.Eng
open Go

section
variable {P : Program} {C : Ctx} {hp : Hp} {w : World} {rho : Nat → Option Nat}

def OpGood (P : Program) (C : Ctx) (hp : Hp) (w : World) (rho : Nat → Option Nat) (o : Oper) (a : Act) (sv : SV) (u : Option (Nat × HB)) : Prop :=
  ∃ n v w' rho', (execOp a.eval o).run P w = .ok n w' ∧ (n = .value v ∨ (n = .skip ∧ v = undef)) ∧ Step C hp (upo hp u) w w' rho rho' ∧ Rp w' (okk C rho' (upo hp u)) rho' (upo hp u) sv v

theorem good_read (R : RepH C hp w rho) {o : Oper} {a : Act} {sv : SV} {v : Value} (h : (execOp a.eval o).run P w = .ok (.value v) w) (hr : Rp w (okk C rho hp) rho hp sv v) : OpGood P C hp w rho o a sv none :=
  ⟨.value v, v, w, rho, h, .inl rfl, R.same, hr⟩

theorem good_make {o : Oper} {a : Act} {sv : SV} {id : Nat} {hb : HB} {m : Sem Value} (he : ∀ w, (execOp a.eval o).run P w = (m.run P w).andThen fun v w' => .ok (.value v) w')
    (h : ∃ u w' rho', m.run P w = .ok u w' ∧ Step C hp (up hp id (some hb)) w w' rho rho' ∧ Rp w' (okk C rho' (up hp id (some hb))) rho' (up hp id (some hb)) sv u) : OpGood P C hp w rho o a sv (some (id, hb)) := by
  obtain ⟨u, w', rho', h1, h2, h3⟩ := h
  exact ⟨.value u, u, w', rho', by rw [he, h1]; rfl, .inl rfl, h2, h3⟩

theorem good_read' (R : RepH C hp w rho) {o : Oper} {a : Act} {sv : SV} {m : Sem Value} (he : ∀ w, (execOp a.eval o).run P w = (m.run P w).andThen fun v w' => .ok (.value v) w')
    (h : ∃ u, m.run P w = .ok u w ∧ Rp w (okk C rho hp) rho hp sv u) : OpGood P C hp w rho o a sv none := by
  obtain ⟨u, h1, h2⟩ := h
  exact good_read R (by rw [he, h1]; rfl) h2

theorem load_good (R : RepH C hp w rho) {t : TypeId} {n : Nat} {agg : Bool} (hs : szT P t = some n) (ha : aggT P t = some agg) {s : SV} {v : Value} (hv : Rp w (okk C rho hp) rho hp s v) {p : Prop} {sv : SV} {u : Option (Nat × HB)} {rd : List Nat} (hE : loadE n agg hp s = some (p, sv, u, rd)) (hp' : p) :
    u = none ∧ ∃ x, (Instr.loadAt t v).run P w = .ok x w ∧ Rp w (okk C rho hp) rho hp sv x := by
  unfold loadE at hE
  split at hE
  · split at hE
    · rename_i id off cs hq
      cases agg with
      | true => simp only [if_true, Option.some.injEq, Prod.mk.injEq] at hE; obtain ⟨rfl, rfl, rfl, rfl⟩ := hE; exact ⟨rfl, loadVar_ptr R hv hq hs ha hp'⟩
      | false =>
        simp only [Bool.false_eq_true, if_false, Option.some.injEq, Prod.mk.injEq] at hE; obtain ⟨rfl, rfl, rfl, rfl⟩ := hE
        refine ⟨rfl, loadVar_ptr1 R hv hq ha ?_⟩
        rw [List.getElem?_eq_getElem hp']; rfl
    · cases hE
  · split at hE
    · rename_i id ver i off _ e ver' xs hq
      cases agg with
      | true =>
        simp only [if_true, Option.some.injEq, Prod.mk.injEq] at hE; obtain ⟨rfl, rfl, rfl, rfl⟩ := hE
        obtain ⟨rfl, h2, h3⟩ := hp'
        exact ⟨rfl, loadVar_ept R hv hq hs ha (by rw [List.getElem?_eq_getElem h2]; rfl) h3⟩
      | false =>
        simp only [Bool.false_eq_true, if_false, Option.some.injEq, Prod.mk.injEq] at hE; obtain ⟨rfl, rfl, rfl, rfl⟩ := hE
        obtain ⟨rfl, h2, h3⟩ := hp'
        have hx := List.getElem?_eq_getElem h2
        have hlen : (xs[i]).length = e := by
          rcases R.heap id _ hq with ⟨_, _, _, h'⟩ | ⟨b, cur, t0, g1, g2, g3⟩
          · cases h'; simp at h2
          · exact g3.1 _ (List.getElem_mem h2)
        refine ⟨rfl, loadVar_ept1 R hv hq ha (x := xs[i]) hx ?_⟩
        rw [hx, Option.getD_some, List.getElem?_eq_getElem (by rw [hlen]; exact h3)]; rfl
    · cases hE
  · rename_i cs
    cases hv with
    | rv _ _ hr =>
      cases agg with
      | true => simp only [if_true, Option.some.injEq, Prod.mk.injEq] at hE; obtain ⟨rfl, rfl, rfl, rfl⟩ := hE; exact ⟨rfl, loadVar_rop hr hs ha hp'⟩
      | false =>
        simp only [Bool.false_eq_true, if_false, Option.some.injEq, Prod.mk.injEq] at hE; obtain ⟨rfl, rfl, rfl, rfl⟩ := hE
        refine ⟨rfl, loadVar_rop1 hr ha ?_⟩
        rw [List.getElem?_eq_getElem hp']; rfl
  · cases hE

theorem store_good (R : RepH C hp w rho) {t : TypeId} {n : Nat} (hs : szT P t = some n) {s x : SV} {v y : Value} (hv : Rp w (okk C rho hp) rho hp s v) (hx : Rp w (okk C rho hp) rho hp x y) {p : Prop} {sv : SV} {u : Option (Nat × HB)} {rd : List Nat} (hE : storeE n hp s x = some (p, sv, u, rd)) (hp' : p) :
    sv = .dead ∧ ∃ w' rho', (Instr.storeAt t v y).run P w = .ok () w' ∧ Step C hp (upo hp u) w w' rho rho' := by
  unfold storeE at hE
  split at hE
  · cases hE
  · rename_i cx hc
    split at hE
    · split at hE
      · rename_i id off cs hq
        cases hE
        exact ⟨rfl, store_ptr R hv hq hs hx hc hp'.1 hp'.2⟩
      · cases hE
    · split at hE
      · rename_i id ver i off e ver' xs hq
        cases hE
        obtain ⟨rfl, h2, h3, h4⟩ := hp'
        have hxi := List.getElem?_eq_getElem h2
        have := store_ept R hv hq hs hx hc h3 hxi h4
        rw [hxi, Option.getD_some]
        exact ⟨rfl, this⟩
      · cases hE
    · cases hE

theorem fld_good {s0 ft : TypeId} {f off n : Nat} (h : fldT P s0 f = some (off, ft)) (hs : szT P ft = some (n + 1)) {s : SV} {v : Value} (hv : Rp w (okk C rho hp) rho hp s v) {p : Prop} {sv : SV} {u : Option (Nat × HB)} {rd : List Nat} (hE : fldE off hp s = some (p, sv, u, rd)) (hp' : p) :
    u = none ∧ ∃ x, (Instr.fieldAt s0 v f).run P w = .ok x w ∧ Rp w (okk C rho hp) rho hp sv x := by
  unfold fldE at hE
  split at hE
  · split at hE
    · rename_i cs hq; cases hE; exact ⟨rfl, fldAddr_ptr hv hq h hs⟩
    · cases hE
  · split at hE
    · rename_i e ver' xs hq; cases hE; cases hp'; exact ⟨rfl, fldAddr_ept hv hq h hs⟩
    · cases hE
  · cases hE
    cases hv with
    | rv _ _ hr => exact ⟨rfl, fldAddr_rop hr h hs⟩
  · cases hE

theorem ixs_good {t et : TypeId} {e : Nat} (ht : P.underlying t = some (.slice et)) (hs : szT P et = some e) {s : SV} {v : Value} (hv : Rp w (okk C rho hp) rho hp s v) {k : IntKind} {i : Int} {p : Prop} {sv : SV} {u : Option (Nat × HB)} {rd : List Nat} (hE : ixsE e hp s i = some (p, sv, u, rd)) (hp' : p) :
    u = none ∧ ∃ x, (Instr.indexAt t v (.int k i)).run P w = .ok x w ∧ Rp w (okk C rho hp) rho hp sv x := by
  unfold ixsE at hE
  split at hE
  · cases hE
    obtain ⟨rfl, h1, h2⟩ := hp'
    cases hv with
    | rv _ _ hr => exact ⟨rfl, ix_sl ht hs hr h1 h2⟩
  · split at hE
    · rename_i e' ver' xs hq
      cases hE
      obtain ⟨rfl, rfl, h1, h2⟩ := hp'
      exact ⟨rfl, ix_row ht hs hv hq h1 h2⟩
    · cases hE
  · cases hE

theorem ixa_good {t et : TypeId} {len e : Nat} (ht : P.underlying t = some (.array len et)) (hs : szT P et = some e) {s : SV} {v : Value} (hv : Rp w (okk C rho hp) rho hp s v) {k : IntKind} {i : Int} {p : Prop} {sv : SV} {u : Option (Nat × HB)} {rd : List Nat} (hE : ixaE len e hp s i = some (p, sv, u, rd)) (hp' : p) :
    u = none ∧ ∃ x, (Instr.indexAt t v (.int k i)).run P w = .ok x w ∧ Rp w (okk C rho hp) rho hp sv x := by
  unfold ixaE at hE
  split at hE
  · split at hE
    · rename_i cs hq; cases hE; exact ⟨rfl, ix_arr_ptr ht hs hv hq hp'.1 hp'.2⟩
    · cases hE
  · split at hE
    · rename_i e' ver' xs hq; cases hE; obtain ⟨rfl, h1, h2⟩ := hp'; exact ⟨rfl, ix_arr_ept ht hs hv hq h1 h2⟩
    · cases hE
  · cases hE
    cases hv with
    | rv _ _ hr => exact ⟨rfl, ix_arr_rop ht hs hr hp'.1 hp'.2⟩
  · cases hE

theorem len_good {t et : TypeId} (ht : P.underlying t = some (.slice et)) (ty : TypeId) {s : SV} {v : Value} (hv : Rp w (okk C rho hp) rho hp s v) {p : Prop} {sv : SV} {u : Option (Nat × HB)} {rd : List Nat} (hE : lenE hp s = some (p, sv, u, rd)) (hp' : p) :
    u = none ∧ ∃ x, (Builtin.len_ #[t] ty #[v]).run P w = .ok x w ∧ Rp w (okk C rho hp) rho hp sv x := by
  unfold lenE at hE
  split at hE
  · cases hE
    cases hv with
    | rv _ _ hr => cases hr; exact ⟨rfl, _, run_len_sl ht ty _ _ _, .rv _ _ (.int _ _)⟩
  · cases hE
    cases hv with
    | rv _ _ hr => cases hr; exact ⟨rfl, _, run_len_sl ht ty _ _ _, .rv _ _ (.int _ _)⟩
  · split at hE
    · rename_i e ver' xs hq; cases hE; cases hp'; exact ⟨rfl, _, len_row ht ty hv hq, .rv _ _ (.int _ _)⟩
    · cases hE
  · cases hE

theorem lens_good {t : TypeId} (ht : P.underlying t = some .string) (ty : TypeId) {s : SV} {v : Value} (hv : Rp w (okk C rho hp) rho hp s v) {p : Prop} {sv : SV} {u : Option (Nat × HB)} {rd : List Nat} (hE : lensE s = some (p, sv, u, rd)) (hp' : p) :
    u = none ∧ ∃ x, (Builtin.len_ #[t] ty #[v]).run P w = .ok x w ∧ Rp w (okk C rho hp) rho hp sv x := by
  unfold lensE at hE
  split at hE
  · cases hE
    cases hv with
    | rv _ _ hr => cases hr; exact ⟨rfl, _, run_len_str ht ty _, .rv _ _ (.int _ _)⟩
  · cases hE

theorem src_good (R : RepH C hp w rho) {e : Nat} {s : SV} {v : Value} (hv : Rp w (okk C rho hp) rho hp s v) {p : Prop} {ys : List (List SV)} {rd : List Nat} (hE : srcE e hp s = some (p, ys, rd)) (hp' : p) : ElemsOf w (okk C rho hp) rho hp e v ys := by
  unfold srcE at hE
  split at hE
  · cases hE; cases hp'
    cases hv with
    | rv _ _ hr => exact elems_sl hr
  · cases hE
    cases hv with
    | rv _ _ hr => cases hr; exact elems_nil e
  · split at hE
    · rename_i e' ver' xs hq; cases hE; obtain ⟨rfl, rfl, h3⟩ := hp'; exact elems_row R hv hq h3
    · cases hE
  · cases hE

theorem eltT_ok {t et : TypeId} {e bytes : Nat} {z : List RV} (h : eltT P t = some (et, e, bytes, z)) : Elt P t et e bytes ∧ zeroT P et = some z ∧ z.length = e ∧ szT P et = some e := by
  unfold eltT at h
  split at h
  · rename_i et' ht
    split at h
    · rename_i i hi
      split at h
      · rename_i z' hz
        split at h
        · rename_i hc
          cases h
          refine ⟨⟨ht, ?_, hc.2⟩, hz, hc.1, by simp [szT, hi]⟩
          have hz' := hz
          unfold zeroT at hz'
          simp only [hi] at hz'
          cases hzz : i.zero with
          | none => simp [hzz] at hz'
          | some zv =>
            simp only [hzz] at hz'
            obtain ⟨c1, _⟩ := cvL_ok (default : World) (fun _ => True) (fun _ => none) (fun _ => none) hz'
            exact ⟨i, zv, hi, hzz, rfl, rfl, by simp at c1; omega⟩
        · cases h
      · cases h
    · cases h
  · cases h

theorem app_good (R : RepH C hp w rho) {t et : TypeId} {e bytes : Nat} (T : Elt P t et e bytes) (ty : TypeId) {nx : Nat} {s x : SV} {v y : Value} (hv : Rp w (okk C rho hp) rho hp s v) (hx : Rp w (okk C rho hp) rho hp x y)
    {p : Prop} {sv : SV} {u : Option (Nat × HB)} {rd : List Nat} (hf : ∀ hb, u = some (nx, hb) → hp nx = none ∧ C.h0 nx = none) (hE : appE e bytes hp nx s x = some (p, sv, u, rd)) (hp' : p) :
    ∃ id hb, u = some (id, hb) ∧ ∃ r w' rho', (Builtin.append_ #[t, t] ty #[v, y]).run P w = .ok r w' ∧ Step C hp (up hp id (some hb)) w w' rho rho' ∧ Rp w' (okk C rho' (up hp id (some hb))) rho' (up hp id (some hb)) sv r := by
  unfold appE at hE
  split at hE
  · cases hE
  · rename_i p' ys rd' hsrc
    split at hE
    · cases hE
      obtain ⟨h1, h2, h3⟩ := hp'
      have E := src_good R hx hsrc h1
      cases hv with
      | rv _ _ hr => cases hr; exact ⟨_, _, rfl, app_nil R T ty (hf _ rfl).1 (hf _ rfl).2 E h2 h3⟩
    · split at hE
      · rename_i id ver len e' ver' xs hq
        cases hE
        obtain ⟨h1, rfl, rfl, h4, h5, h6⟩ := hp'
        have E := src_good R hx hsrc h1
        exact ⟨_, _, rfl, app_row R T ty hv hq h4 E h5 h6⟩
      · cases hE
    · cases hE

theorem run_sbin {op : BinOp} {a b : ByteArray} {p : Prop} {r : RV} (h : sbin op a b = some (p, r)) (hp0 : p) (t : TypeId) : (binOp op t (.string a) (.string b)).run P w = .ok (valOf r) w ∧ ∀ ok, RO w ok r (valOf r) := by
  cases op <;> unfold sbin at h <;> (try (cases h; done))
  case add =>
    cases h
    refine ⟨?_, fun ok => .str _⟩
    have : ¬ ((a.size + b.size : Nat) : Int) > IntKind.i64.max := by
      simp only [IntKind.max, IntKind.signed, IntKind.bits]; simpa using hp0
    simp only [binOp, Op.stringOp, this, if_false]; rfl
  all_goals (cases h; exact ⟨rfl, fun ok => .bool _⟩)

theorem rp_str {ok : Nat → Prop} {s : ByteArray} {v : Value} (h : Rp w ok rho hp (.rv (.str s)) v) : v = .string s := by
  cases h with | rv _ _ h => cases h; rfl

/-- What the value is, as far as the comparison with nil sees it. -/
def nilV : Value → Option Bool
  | .slice a _ _ => some a.isNone
  | .nilIface => some true
  | .iface _ _ => some false
  | .nilFunc => some true
  | .func _ _ _ => some false
  | _ => none

theorem isNilSl_ok {s : SV} {v : Value} (hv : Rp w (okk C rho hp) rho hp s v) {p : Prop} {b : Bool} {rd : List Nat} (h : isNilSl hp s = some (p, b, rd)) (hp0 : p) : nilV v = some b ∧ ∃ a n c, v = .slice a n c := by
  cases hv with
  | rv r v hr =>
    cases hr <;> simp only [isNilSl] at h <;> first
      | (cases h; exact ⟨rfl, _, _, _, rfl⟩)
      | (cases h; done)
      | skip
    rename_i e xs a cap c h0 hc hm he hr1 h1 hy
    cases h
    cases a with
    | none => have := (h0 rfl).1; subst this; simp at hp0
    | some a => exact ⟨rfl, _, _, _, rfl⟩
  | row id ver len _ g1 g0 gle gv =>
    simp only [isNilSl] at h
    split at h
    · rename_i e ver' xs hq
      cases h
      obtain ⟨rfl, hl⟩ := hp0
      rcases gv e xs hq with ⟨_, rfl, rfl⟩ | ⟨b, cap, cur, t0, k1, rfl, k3, k4, k5, k6⟩
      · omega
      · exact ⟨rfl, _, _, _, rfl⟩
    · cases h
  | _ => cases h

theorem isNilFn_ok {s : SV} {v : Value} (hv : Rp w (okk C rho hp) rho hp s v) {p : Prop} {b : Bool} {rd : List Nat} (h : isNilFn s = some (p, b, rd)) : nilV v = some b ∧ (v = .nilFunc ∨ ∃ f x y, v = .func f x y) := by
  cases hv with
  | rv r v hr =>
    cases hr <;> simp only [isNilFn] at h <;> first
      | (cases h; exact ⟨rfl, .inl rfl⟩)
      | (cases h; exact ⟨rfl, .inr ⟨_, _, _, rfl⟩⟩)
      | (cases h; done)
  | fn f cs vs hl hy => cases h; exact ⟨rfl, .inr ⟨_, _, _, rfl⟩⟩
  | _ => cases h

theorem isNilIf_ok {s : SV} {v : Value} (hv : Rp w (okk C rho hp) rho hp s v) {p : Prop} {b : Bool} {rd : List Nat} (h : isNilIf s = some (p, b, rd)) : nilV v = some b ∧ (v = .nilIface ∨ ∃ f x, v = .iface f x) := by
  cases hv with
  | rv r v hr =>
    cases hr <;> simp only [isNilIf] at h <;> first
      | (cases h; exact ⟨rfl, .inl rfl⟩)
      | (cases h; exact ⟨rfl, .inr ⟨_, _, rfl⟩⟩)
      | (cases h; done)
  | ifc t x v h' => cases h; exact ⟨rfl, .inr ⟨_, _, rfl⟩⟩
  | _ => cases h

theorem run_eq_nilo {t : TypeId} {u : Value} (hk : (∃ el, P.underlying t = some (.slice el) ∧ u = .slice none 0 0) ∨ (∃ a b c, P.underlying t = some (.func a b c) ∧ u = .nilFunc) ∨ (∃ ms, P.underlying t = some (.interface ms) ∧ u = .nilIface)) {v : Value} {b : Bool} (hn : nilV v = some b)
    (hf : (∃ a n c, v = .slice a n c) ∧ (∃ a n c, u = .slice a n c) ∨ ((v = .nilFunc ∨ ∃ f x y, v = .func f x y) ∧ u = .nilFunc) ∨ ((v = .nilIface ∨ ∃ f x, v = .iface f x) ∧ u = .nilIface)) :
    (binOp .eql t v u).run P w = .ok (.bool b) w ∧ (binOp .neq t v u).run P w = .ok (.bool !b) w := by
  have core : (Op.equal t v u).run P w = .ok b w := by
    have c : ∀ d, (Op.equalIn (d + 1) t v u).run P w = .ok b w := fun d => by
      rcases hk with ⟨el, ht, rfl⟩ | ⟨x, y, z, ht, rfl⟩ | ⟨ms, ht, rfl⟩
      · rcases hf with ⟨⟨a, n, c, rfl⟩, _⟩ | ⟨_, h⟩ | ⟨_, h⟩
        · cases a <;> (simp [nilV] at hn; subst hn; simp [Op.equalIn, run_underlying ht])
        · cases h
        · cases h
      · rcases hf with ⟨_, a, n, c, h⟩ | ⟨h, _⟩ | ⟨_, h⟩
        · cases h
        · rcases h with rfl | ⟨f, x, y, rfl⟩ <;> (simp [nilV] at hn; subst hn; simp [Op.equalIn, run_underlying ht])
        · cases h
      · rcases hf with ⟨_, a, n, c, h⟩ | ⟨_, h⟩ | ⟨h, _⟩
        · cases h
        · cases h
        · rcases h with rfl | ⟨f, x, rfl⟩ <;> (simp [nilV] at hn; subst hn; simp [Op.equalIn, run_underlying ht])
    exact c 9999
  rcases hf with ⟨⟨a, n, c, rfl⟩, a', n', c', rfl⟩ | ⟨h, rfl⟩ | ⟨h, rfl⟩
  · constructor <;> simp [binOp, core]
  · rcases h with rfl | ⟨f, x, y, rfl⟩ <;> constructor <;> simp [binOp, core]
  · rcases h with rfl | ⟨f, x, rfl⟩ <;> constructor <;> simp [binOp, core]

theorem run_eqs {t : TypeId} {ks : List CK} (hk : eqK P 64 t = some ks) (ha : aggT P t = some true) {us vs : List Value} {b : Bool} (h : cellsEqV ks us vs = some b) :
    (binOp .eql t (.agg us.toArray) (.agg vs.toArray)).run P w = .ok (.bool b) w ∧ (binOp .neq t (.agg us.toArray) (.agg vs.toArray)).run P w = .ok (.bool !b) w := by
  have hw : ∀ cs : List Value, wrapT P t cs = .agg cs.toArray := fun cs => by
    unfold wrapT
    unfold aggT at ha
    cases hu : P.underlying t with
    | none => simp [hu] at ha
    | some d => cases d <;> simp [hu] at ha <;> rfl
  have core : (Op.equal t (.agg us.toArray) (.agg vs.toArray)).run P w = .ok b w := by
    have := eqK_ok (P := P) 9936 64 t ks hk us vs b h w
    rw [hw, hw] at this
    exact this
  constructor <;> simp [binOp, core]

theorem run_tas {xt t : TypeId} {ok : Bool} {z : List RV} (hni : ∀ ms, P.underlying t ≠ some (.interface ms)) {d : TypeDesc} (hd : P.underlying t = some d) (hz : zeroT P t = some z) {s : SV} {v : Value} {okb : Nat → Prop} (hv : Rp w okb rho hp s v) {p : Prop} {sv : SV} {u : Option (Nat × HB)} {rd : List Nat} (hE : tasE t ok s = some (p, sv, u, rd)) :
    u = none ∧ ∃ x, (Instr.typeAssert v xt t ok).run P w = .ok x w ∧ Rp w okb rho hp sv x := by
  have hdi : ∀ ms, d ≠ .interface ms := fun ms he => hni ms (by rw [hd, he])
  obtain ⟨zv, hzv, _⟩ := zeroT_run (P := P) hz w
  have holds : ∀ (t' : TypeId) (x : SV) (y : Value), Rp w okb rho hp x y → tasF t ok t' x = some (p, sv, u, rd) → u = none ∧ ∃ x, (Instr.typeAssert (.iface t' y) xt t ok).run P w = .ok x w ∧ Rp w okb rho hp sv x := fun t' x y hy hF => by
    unfold tasF at hF
    split at hF
    · rename_i he
      subst he
      cases hF
      refine ⟨rfl, if ok then .tuple #[y, .bool true] else y, ?_, ?_⟩
      · unfold Instr.typeAssert
        simp only [Sem.run_bind, run_underlying hd, Result.andThen_ok]
        cases d <;> first | exact absurd rfl (hdi _) | simp
      · cases ok with
        | false => exact hy
        | true => exact .tup [x, .rv (.bool true)] [y, .bool true] rfl (fun j z hz => by
            match j with
            | 0 => simp at hz; subst hz; exact hy
            | 1 => simp at hz; subst hz; exact .rv _ _ (.bool _)
            | j + 2 => simp at hz)
    · rename_i he
      split at hF
      · rename_i hok
        subst hok
        cases hF
        refine ⟨rfl, .tuple #[zv, .bool false], ?_, ?_⟩
        · unfold Instr.typeAssert
          simp only [Sem.run_bind, run_underlying hd, Result.andThen_ok]
          cases d <;> first | exact absurd rfl (hdi _) | simp [he, hzv]
        · exact .tup [.dead, .rv (.bool false)] [zv, .bool false] rfl (fun j z hz => by
            match j with
            | 0 => simp at hz; subst hz; exact .dead _
            | 1 => simp at hz; subst hz; exact .rv _ _ (.bool _)
            | j + 2 => simp at hz)
      · cases hF
  unfold tasE at hE
  split at hE
  · cases hv with | ifc _ _ v0 h0 => exact holds _ _ _ h0 hE
  · cases hv with | rv _ _ hr => cases hr with | ifc _ _ v0 h0 => exact holds _ _ _ (.rv _ _ h0) hE
  · cases hv with
    | rv _ _ hr =>
      cases hr
      split at hE
      · rename_i hok
        subst hok
        cases hE
        refine ⟨rfl, .tuple #[zv, .bool false], ?_, ?_⟩
        · unfold Instr.typeAssert
          simp only [Sem.run_bind, run_underlying hd, Result.andThen_ok]
          cases d <;> first | exact absurd rfl (hdi _) | simp [hzv]
        · exact .tup [.dead, .rv (.bool false)] [zv, .bool false] rfl (fun j z hz => by
            match j with
            | 0 => simp at hz; subst hz; exact .dead _
            | 1 => simp at hz; subst hz; exact .rv _ _ (.bool _)
            | j + 2 => simp at hz)
      · cases hE
  · cases hE
end
end Go.Eng
