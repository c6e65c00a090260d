/- What comes in: values of plain types, read as the statement reads them, as values of the engine. And a call of a law. -/
import Derived.Test.YtjiipbccpfjefaaEngW
import Derived.ProofKit
import Derived.OpenShut
import Derived.Below
set_option linter.unusedSimpArgs false
set_option linter.unusedVariables false
namespace Go.Eng
open Go

def flatFs (P : Program) (rec : TypeId → Bool) : Nat → List Field → Option Nat
  | off, [] => some off
  | off, f :: r => if f.offset = off && rec f.type then flatFs P rec (off + P.cellsOf f.type) r else none

/-- A type of numbers, bools, strings, slices, structs and arrays, whose cells lie one behind the other. -/
def flatT (P : Program) : Nat → TypeId → Bool
  | 0, _ => false
  | n + 1, t => match P.underlying t with
    | some .bool | some (.int _) | some .string => P.cellsOf t == 1
    | some (.slice e) => P.cellsOf t == 1 && flatT P n e
    | some (.struct fs) => flatFs P (flatT P n) 0 fs.toList == some (P.cellsOf t)
    | some (.array m e) => flatT P n e && P.cellsOf t == m * P.cellsOf e
    | _ => false

def tyFs (P : Program) (rec : TypeId → List RV → Prop) : List Field → List RV → Prop
  | [], rs => rs = []
  | f :: r, rs => ∃ a b, rs = a ++ b ∧ rec f.type a ∧ tyFs P rec r b

/-- Cells of a type. -/
def tyC (P : Program) : Nat → TypeId → List RV → Prop
  | 0, _, _ => False
  | n + 1, t, rs => match P.underlying t with
    | some .bool => ∃ b, rs = [.bool b]
    | some (.int k) => ∃ i, rs = [.int k i] ∧ (Lit.int k i).wf = true
    | some .string => ∃ s, rs = [.str s] ∧ s.size ≤ maxLen
    | some (.slice e) => ∃ xs, rs = [.sl (P.cellsOf e) xs] ∧ xs.length ≤ maxLen ∧ ∀ x ∈ xs, tyC P n e x
    | some (.struct fs) => tyFs P (tyC P n) fs.toList rs
    | some (.array m e) => ∃ xs : List (List RV), rs = xs.flatten ∧ xs.length = m ∧ ∀ x ∈ xs, tyC P n e x
    | _ => False

def RLc (w : World) (ok : Nat → Prop) (vs : List Value) (rs : List RV) : Prop := vs.length = rs.length ∧ ∀ (j : Nat) (r : RV), rs[j]? = some r → r.one = true ∧ RO w ok r (vs.getD j undef)

theorem RLc.append {w : World} {ok : Nat → Prop} {vs us : List Value} {rs qs : List RV} (h : RLc w ok vs rs) (k : RLc w ok us qs) : RLc w ok (vs ++ us) (rs ++ qs) := by
  refine ⟨by simp [h.1, k.1], fun j r hj => ?_⟩
  by_cases hlt : j < rs.length
  · rw [List.getElem?_append_left hlt] at hj
    have := h.2 j r hj
    rw [List.getD_eq_getElem?_getD, List.getElem?_append_left (by rw [h.1]; exact hlt), ← List.getD_eq_getElem?_getD]
    exact this
  · rw [List.getElem?_append_right (by omega)] at hj
    have := k.2 _ r hj
    rw [List.getD_eq_getElem?_getD, List.getElem?_append_right (by rw [h.1]; omega), h.1, ← List.getD_eq_getElem?_getD]
    exact this

theorem RLc.one {w : World} {ok : Nat → Prop} {v : Value} {r : RV} (h : RO w ok r v) (h1 : r.one = true) : RLc w ok [v] [r] :=
  ⟨rfl, fun j q hj => by
    cases j with
    | zero => simp at hj; subst hj; exact ⟨h1, h⟩
    | succ j => simp at hj⟩

section
variable {P : Program} {H : Type} {enc : TypeId × Value → H} {w : World} {base : Nat} {spare : Nat → Bool} {held : Bool}

theorem typed_fs (ok : Nat → Prop) {n m : Nat} (IH : ∀ t, flatT P n t = true → ∀ cs x, DataW.trod enc P w base spare held m t cs = some x → ∃ rs, tyC P n t rs ∧ RLc w ok cs rs ∧ cs.length = P.cellsOf t) :
    ∀ (fs : List Field) (off tot : Nat) (cs : List Value), flatFs P (flatT P n) off fs = some tot → cs.length = tot → (∀ f ∈ fs, ∃ x, DataW.trod enc P w base spare held m f.type ((cs.drop f.offset).take (P.cellsOf f.type)) = some x) →
    ∃ rs, tyFs P (tyC P n) fs rs ∧ RLc w ok (cs.drop off) rs
  | [], off, tot, cs, h, hl, _ => by
    simp only [flatFs, Option.some.injEq] at h
    subst h
    refine ⟨[], rfl, ?_⟩
    rw [List.drop_of_length_le (by omega)]
    exact ⟨rfl, fun j r hj => by simp at hj⟩
  | f :: fs, off, tot, cs, h, hl, hx => by
    unfold flatFs at h
    split at h
    · rename_i hf
      simp only [Bool.and_eq_true, decide_eq_true_eq] at hf
      obtain ⟨x, hx0⟩ := hx f (by simp)
      obtain ⟨a, ha1, ha2, ha3⟩ := IH f.type hf.2 _ _ hx0
      obtain ⟨b, hb1, hb2⟩ := typed_fs ok IH fs (off + P.cellsOf f.type) tot cs h hl (fun g hg => hx g (by simp [hg]))
      refine ⟨a ++ b, ⟨a, b, rfl, ha1, hb1⟩, ?_⟩
      rw [hf.1] at ha2
      have : cs.drop off = (cs.drop off).take (P.cellsOf f.type) ++ cs.drop (off + P.cellsOf f.type) := by
        rw [← List.drop_drop, List.take_append_drop]
      rw [this]
      exact ha2.append hb2
    · cases h

theorem typed_arr (ok : Nat → Prop) {n m : Nat} {e : TypeId} (IH : ∀ cs x, DataW.trod enc P w base spare held m e cs = some x → ∃ rs, tyC P n e rs ∧ RLc w ok cs rs ∧ cs.length = P.cellsOf e) :
    ∀ (k i : Nat) (cs : List Value), cs.length = (i + k) * P.cellsOf e → (∀ j, i ≤ j → j < i + k → ∃ x, DataW.trod enc P w base spare held m e ((cs.drop (j * P.cellsOf e)).take (P.cellsOf e)) = some x) →
    ∃ xs : List (List RV), xs.length = k ∧ (∀ x ∈ xs, tyC P n e x) ∧ RLc w ok (cs.drop (i * P.cellsOf e)) xs.flatten
  | 0, i, cs, hl, _ => by
    refine ⟨[], rfl, by simp, ?_⟩
    rw [List.drop_of_length_le (by simp at hl; omega)]
    exact ⟨rfl, fun j r hj => by simp at hj⟩
  | k + 1, i, cs, hl, hx => by
    obtain ⟨x, hx0⟩ := hx i (Nat.le_refl _) (by omega)
    obtain ⟨a, ha1, ha2, ha3⟩ := IH _ _ hx0
    obtain ⟨xs, h1, h2, h3⟩ := typed_arr ok IH k (i + 1) cs (by rw [hl]; congr 1; omega) (fun j h1 h2 => hx j (by omega) (by omega))
    refine ⟨a :: xs, by simp [h1], fun x hx => ?_, ?_⟩
    · rcases List.mem_cons.1 hx with rfl | hx
      · exact ha1
      · exact h2 x hx
    · have : cs.drop (i * P.cellsOf e) = (cs.drop (i * P.cellsOf e)).take (P.cellsOf e) ++ cs.drop ((i + 1) * P.cellsOf e) := by
        rw [Nat.add_mul, Nat.one_mul, ← List.drop_drop, List.take_append_drop]
      rw [this, List.flatten_cons]
      exact ha2.append h3

theorem cells_get {a : Addr} {n : Nat} {cs : List Value} (h : w.cells? base a n = some cs) : cs.length = n ∧ ∀ j, j < n → w.cell? (a.add j) = some (cs.getD j undef) := by
  unfold World.cells? at h
  split at h
  · obtain ⟨h1, h2⟩ := mapM_some_get _ _ _ h
    refine ⟨by simpa using h1, fun j hj => ?_⟩
    have hr : (List.range n)[j]? = some j := List.getElem?_range hj
    obtain ⟨h3, h4⟩ := h2 j j hr
    have hlt : j < cs.length := by rw [h1]; simpa using hj
    rw [List.getD_eq_getElem?_getD, List.getElem?_eq_getElem hlt, Option.getD_some, ← h3, List.getElem?_eq_getElem hlt]
  · cases h

theorem typed (ok : Nat → Prop) (hok : ∀ b, b < w.heap.size → ok b) : ∀ (n : Nat) (t : TypeId), flatT P n t = true → ∀ (fuel : Nat) (cs : List Value) (x : DataW H × List MemPlace), DataW.trod enc P w base spare held fuel t cs = some x → ∃ rs, tyC P n t rs ∧ RLc w ok cs rs ∧ cs.length = P.cellsOf t
  | 0, t, h, _, _, _, _ => by cases h
  | n + 1, t, h, fuel, cs, x, hx => by
    unfold flatT at h
    unfold tyC
    split at h
    · rename_i hu
      obtain ⟨b, rfl, _⟩ := DataW.trod_bool hu hx
      try simp only [hu]
      exact ⟨[.bool b], ⟨b, rfl⟩, .one (.bool b) rfl, by simp at h; simp [h]⟩
    · rename_i k hu
      obtain ⟨i, rfl, _, hw⟩ := DataW.trod_int hu hx
      try simp only [hu]
      exact ⟨[.int k i], ⟨i, rfl, hw⟩, .one (.int k i) rfl, by simp at h; simp [h]⟩
    · rename_i hu
      obtain ⟨s, rfl, _, hs⟩ := DataW.trod_string hu hx
      try simp only [hu]
      exact ⟨[.str s], ⟨s, rfl, hs⟩, .one (.str s) rfl, by simp at h; simp [h]⟩
    · rename_i e hu
      simp only [Bool.and_eq_true, beq_iff_eq] at h
      try simp only [hu]
      rcases DataW.trod_slice hu hx with ⟨rfl, _⟩ | ⟨a, len, cap, elems, rest, m, rfl, rfl, _, hb, hl, hm, hel, hcell, _, _⟩
      · refine ⟨[.sl (P.cellsOf e) []], ⟨[], rfl, by simp, by simp⟩, .one ?_ rfl, by simpa using h.1.symm⟩
        exact .sl _ [] none 0 (fun _ _ => undef) (fun _ => ⟨rfl, rfl⟩) (by simp) (by simp [maxLen]) (by simp) (fun i x j y hx => by simp at hx) (fun i x j y hx => by simp at hx) (fun i x j y hx => by simp at hx)
      · have key : ∀ i, i < len → ∃ (ci : List Value) (r : List RV), tyC P n e r ∧ RLc w ok ci r ∧ ci.length = P.cellsOf e ∧ ∀ j, j < P.cellsOf e → w.cell? ((a.add (i * P.cellsOf e)).add j) = some (ci.getD j undef) := fun i hi => by
          have h1 := hcell i hi
          rw [List.getElem?_eq_getElem (by omega)] at h1
          simp only [Option.bind_eq_some_iff] at h1
          obtain ⟨ci, h2, h3⟩ := h1
          obtain ⟨r, g1, g2, g3⟩ := typed ok hok n e h.2 m ci _ h3
          exact ⟨ci, r, g1, g2, g3, (cells_get h2).2⟩
        classical
        let cf : Nat → List Value := fun i => if h : i < len then (key i h).choose else []
        let rf : Nat → List RV := fun i => if h : i < len then (key i h).choose_spec.choose else []
        have hf : ∀ i, i < len → tyC P n e (rf i) ∧ RLc w ok (cf i) (rf i) ∧ (cf i).length = P.cellsOf e ∧ ∀ j, j < P.cellsOf e → w.cell? ((a.add (i * P.cellsOf e)).add j) = some ((cf i).getD j undef) := fun i hi => by
          have h1 : cf i = (key i hi).choose := dif_pos hi
          have h2 : rf i = (key i hi).choose_spec.choose := dif_pos hi
          rw [h1, h2]
          exact (key i hi).choose_spec.choose_spec
        have hlen : ((List.range len).map rf).length = len := by simp
        have hget : ∀ (i : Nat) (x : List RV), ((List.range len).map rf)[i]? = some x → i < len ∧ x = rf i := fun i x hi => by
          rw [List.getElem?_map] at hi
          cases hr : (List.range len)[i]? with
          | none => simp [hr] at hi
          | some j =>
            have hlt := (List.getElem?_eq_some_iff.1 hr).1
            simp at hlt
            rw [List.getElem?_range hlt] at hr
            cases hr
            rw [List.getElem?_range hlt] at hi
            simp at hi
            exact ⟨hlt, hi.symm⟩
        refine ⟨[.sl (P.cellsOf e) ((List.range len).map rf)], ⟨_, rfl, by rw [hlen]; omega, fun x hx => ?_⟩, .one ?_ rfl, by simpa using h.1.symm⟩
        · obtain ⟨i, hi, rfl⟩ := List.mem_map.1 hx
          exact (hf i (by simpa using hi)).1
        · have hcs : ∀ (i : Nat) (x : List RV) (j : Nat) (y : RV), ((List.range len).map rf)[i]? = some x → x[j]? = some y → i < len ∧ (rf i)[j]? = some y ∧ w.cell? (a.add (i * P.cellsOf e + j)) = some ((cf i).getD j undef) := fun i x j y hi hj => by
            obtain ⟨h1, rfl⟩ := hget i x hi
            obtain ⟨_, g2, g3, g4⟩ := hf i h1
            have hlt := (List.getElem?_eq_some_iff.1 hj).1
            have := g4 j (by rw [← g3, g2.1]; exact hlt)
            rw [addr_add_add] at this
            exact ⟨h1, hj, this⟩
          have := RO.sl (w := w) (ok := ok) (P.cellsOf e) ((List.range len).map rf) (some a) cap (fun i j => (cf i).getD j undef) (fun h => by cases h) (by rw [hlen]; exact hl) hm (fun x hx => by
            obtain ⟨i, hi, rfl⟩ := List.mem_map.1 hx
            obtain ⟨_, g2, g3, _⟩ := hf i (by simpa using hi)
            rw [← g2.1, g3]) (fun i x j y hi hj => by
            obtain ⟨_, _, h3⟩ := hcs i x j y hi hj
            exact ⟨a, rfl, hok _ (by have := World.block_lt_of_cell? w _ h3; rwa [addr_add_block] at this), h3⟩) (fun i x j y hi hj => by
            obtain ⟨h1, h2, _⟩ := hcs i x j y hi hj
            exact ((hf i h1).2.1.2 j y h2).1) (fun i x j y hi hj => by
            obtain ⟨h1, h2, _⟩ := hcs i x j y hi hj
            exact ((hf i h1).2.1.2 j y h2).2)
          rw [hlen] at this
          exact this
    · rename_i fs hu
      simp only [beq_iff_eq] at h
      try simp only [hu]
      obtain ⟨xs, m, rfl, _, hl, hxl, hf⟩ := DataW.trod_struct hu hx
      obtain ⟨rs, g1, g2⟩ := typed_fs (enc := enc) (m := m) ok (fun t ht cs x hx => typed ok hok n t ht m cs x hx) fs.toList 0 (P.cellsOf t) cs h hl (fun f hfm => by
        obtain ⟨i, hi, he⟩ := List.mem_iff_getElem.1 hfm
        have hi' : i < fs.size := by simpa using hi
        have hfi : fs[i]? = some f := by rw [Array.getElem?_eq_getElem hi']; simp at he; rw [he]
        have := hf i f hfi
        rw [List.getElem?_eq_getElem (by omega)] at this
        exact ⟨_, this⟩)
      exact ⟨rs, g1, by simpa using g2, hl⟩
    · rename_i k e hu
      simp only [Bool.and_eq_true, beq_iff_eq] at h
      try simp only [hu]
      obtain ⟨xs, m, rfl, _, hl, hxl, hf⟩ := DataW.trod_array hu hx
      obtain ⟨ys, g1, g2, g3⟩ := typed_arr (enc := enc) (m := m) ok (fun cs x hx => typed ok hok n e h.1 m cs x hx) k 0 cs (by rw [hl, h.2]; congr 1; omega) (fun j _ hj => by
        have := hf j (by omega)
        rw [List.getElem?_eq_getElem (by omega)] at this
        exact ⟨_, this⟩)
      exact ⟨ys.flatten, ⟨ys, rfl, g1, g2⟩, by simpa using g3, hl⟩
    · cases h
end

/-- An argument as the engine has it. -/
def argS (P : Program) (t : TypeId) (rs : List RV) : SV := match aggT P t with
  | some true => .agg (rs.map .rv)
  | _ => .rv (rs.headD .nilp)

theorem open_arg {P : Program} {H : Type} {enc : TypeId × Value → H} {w : World} {r : Reach} {b0 n : Nat} {t : TypeId} {v : Value} {d : DataW H} {ps : List MemPlace} (hf : flatT P n t = true) (hval : Value.okWide P w r b0 t v) (hd : DataW.Trod enc P w 0 (fun _ => true) true t v d ps) (C : Ctx) (rho : Nat → Option Nat) :
    ∃ rs, tyC P n t rs ∧ ∀ (ok : Nat → Prop) (rho : Nat → Option Nat) (hp : Hp), (∀ b, b < w.heap.size → ok b) → Rp w ok rho hp (argS P t rs) v := by
  obtain ⟨fuel, hx⟩ := hd
  obtain ⟨rs, h1, h2, h3⟩ := typed (enc := enc) (fun b => b < w.heap.size) (fun b hb => hb) n t hf fuel _ _ hx
  refine ⟨rs, h1, fun ok rho hp hok => ?_⟩
  have h2' : RLc w ok v.cells.toList rs := ⟨h2.1, fun j q hj => ⟨(h2.2 j q hj).1, (h2.2 j q hj).2.mono fun b hb _ => ⟨hok b hb, rfl⟩⟩⟩
  unfold argS
  cases hu : P.underlying t with
  | none => cases n <;> simp [flatT, hu] at hf
  | some kd =>
    have scalar : (aggT P t = some false) → v.cells = #[v] → Rp w ok rho hp (.rv (rs.headD .nilp)) v := fun _ hc => by
      have hl := h2'.1
      rw [hc] at hl h2'
      obtain ⟨q, rfl⟩ := List.length_eq_one_iff.1 hl.symm
      exact .rv _ _ (h2'.2 0 q rfl).2
    have aggr : (∃ cs, v = .agg cs) → Rp w ok rho hp (.agg (rs.map .rv)) v := fun ⟨cs, hv⟩ => by
      subst hv
      have hl := h2'.1
      have : Rp w ok rho hp (.agg (rs.map .rv)) (.agg cs.toList.toArray) := by
        refine .agg _ _ (by simpa [Value.cells] using hl) (fun j u hj => ?_) (fun j y hj => ?_)
        · have hlt := (List.getElem?_eq_some_iff.1 hj).1
          have hr := List.getElem?_eq_getElem (l := rs) (i := j) (by simp [Value.cells] at hl; simp at hlt; omega)
          have := h2'.2 j _ hr
          have hu : (Value.cells (.agg cs)).toList.getD j undef = u := by rw [List.getD_eq_getElem?_getD]; show (cs.toList[j]?).getD undef = u; rw [hj]; rfl
          rw [hu] at this
          exact this.2.oneCell this.1
        · rw [List.getElem?_map] at hj
          cases hr : rs[j]? with
          | none => simp [hr] at hj
          | some q => simp [hr] at hj; subst hj; exact .rv _ _ (h2'.2 j q hr).2
      simpa using this
    have hcells : (∀ cs, v ≠ .agg cs) → v.cells = #[v] := fun h => by cases v <;> first | rfl | exact absurd rfl (h _)
    cases n with
    | zero => cases hf
    | succ n =>
      unfold flatT at hf
      unfold Value.okWide at hval
      cases kd <;> simp only [hu] at hf hval <;> first
        | (cases hf; done)
        | (have ha : aggT P t = some true := by simp [aggT, hu]
           simp only [ha]
           obtain ⟨cs, hv, _⟩ := hval
           exact aggr ⟨cs, hv⟩)
        | (have ha : aggT P t = some false := by simp [aggT, hu]
           simp only [ha]
           refine scalar ha (hcells (fun cs hv => ?_))
           subst hv
           simp [Cell.okWide, hu, Cell.ok] at hval)

/-- A law's call, from its contract. -/
theorem law_calls {P : Program} {f : FuncId} {ss : List SV} (h : CallR P f ss [] [] (.rv (.bool true))) {w : World} {vs : List Value} (hl : vs.length = ss.length)
    (ha : ∀ (j : Nat) (s : SV), ss[j]? = some s → ∀ (ok : Nat → Prop) (rho : Nat → Option Nat) (hp : Hp), (∀ b, b < w.heap.size → ok b) → Rp w ok rho hp s (vs.getD j undef)) :
    Calls P f vs.toArray w fun e w' => e = .returned (.bool true) ∧ RowKit.Below w.heap.size w w' := by
  let C : Ctx := ⟨w, fun _ => True, fun _ => False, 0, fun _ => none, fun _ => none⟩
  have R : RepH C (fun _ => none) w (fun _ => none) := ⟨fun id hb h => (by cases h), fun i j b h => (by simp at h), fun i b h => (by simp at h), ⟨rfl, rfl, rfl, Nat.le_refl _, fun b _ _ => rfl⟩, fun id hb hb0 h => (by cases h)⟩
  refine (h.2 C (fun _ => none) w (fun _ => none) vs (fun q hq => by simp at hq) (fun q hq => by simp at hq) R hl (fun j s hj => ha j s hj _ _ _ (fun b hb => ⟨.inl trivial, fun id hid => by simp at hid⟩))).mono ?_
  rintro e w' ⟨v, rho', rfl, S, hR⟩
  refine ⟨by rw [rp_bool hR], S.mem.fr.os, S.mem.fr.tape, S.mem.fr.output, S.mem.fr.size, fun k hk => S.mem.fr.block k hk (fun h => h)⟩
end Go.Eng
