/- Part 3 of the proof: EngX, EngY, EngZ, EngZa, EngZb, EngZc, EngZd, K0, KF, C1, T0, T1, T2, K1, K2, K3, K4, K5. -/
import Derived.Test.YtiajmaeempoihaaPaintOrders2
import Derived.ProofKit
import Derived.OpenShut
import Derived.Below
import Derived.Test.YtiajmaeempoihaaProg
import Derived.KernelRfl
set_option linter.unusedSimpArgs false
set_option linter.unusedVariables false
/- What comes in: values of plain types, read as the statement reads them, as values of the engine. And a call of a law. -/
namespace Go.Eng
open Go

def flatFs (P : Program) (rec : TypeId → Bool) : Nat → List Field → Option Nat
  | off, [] => some off
  | off, f :: r => if f.offset = off && rec f.type then flatFs P rec (off + P.cellsOf f.type) r else none

/-- A type of numbers, bools, strings, slices, structs and arrays, whose cells lie one behind the other. -/
def flatT (P : Program) : Nat → TypeId → Bool
  | 0, _ => false
  | n + 1, t => match P.underlying t with
    | some .bool | some (.int _) | some .string => P.cellsOf t == 1
    | some (.slice e) => P.cellsOf t == 1 && flatT P n e
    | some (.struct fs) => flatFs P (flatT P n) 0 fs.toList == some (P.cellsOf t)
    | some (.array m e) => flatT P n e && P.cellsOf t == m * P.cellsOf e
    | _ => false

def tyFs (P : Program) (rec : TypeId → List RV → Prop) : List Field → List RV → Prop
  | [], rs => rs = []
  | f :: r, rs => ∃ a b, rs = a ++ b ∧ rec f.type a ∧ tyFs P rec r b

/-- Cells of a type. -/
def tyC (P : Program) : Nat → TypeId → List RV → Prop
  | 0, _, _ => False
  | n + 1, t, rs => match P.underlying t with
    | some .bool => ∃ b, rs = [.bool b]
    | some (.int k) => ∃ i, rs = [.int k i] ∧ (Lit.int k i).wf = true
    | some .string => ∃ s, rs = [.str s] ∧ s.size ≤ maxLen
    | some (.slice e) => ∃ xs, rs = [.sl (P.cellsOf e) xs] ∧ xs.length ≤ maxLen ∧ ∀ x ∈ xs, tyC P n e x
    | some (.struct fs) => tyFs P (tyC P n) fs.toList rs
    | some (.array m e) => ∃ xs : List (List RV), rs = xs.flatten ∧ xs.length = m ∧ ∀ x ∈ xs, tyC P n e x
    | _ => False

def RLc (w : World) (ok : Nat → Prop) (vs : List Value) (rs : List RV) : Prop := vs.length = rs.length ∧ ∀ (j : Nat) (r : RV), rs[j]? = some r → r.one = true ∧ RO w ok r (vs.getD j undef)

theorem RLc.append {w : World} {ok : Nat → Prop} {vs us : List Value} {rs qs : List RV} (h : RLc w ok vs rs) (k : RLc w ok us qs) : RLc w ok (vs ++ us) (rs ++ qs) := by
  refine ⟨by simp [h.1, k.1], fun j r hj => ?_⟩
  by_cases hlt : j < rs.length
  · rw [List.getElem?_append_left hlt] at hj
    have := h.2 j r hj
    rw [List.getD_eq_getElem?_getD, List.getElem?_append_left (by rw [h.1]; exact hlt), ← List.getD_eq_getElem?_getD]
    exact this
  · rw [List.getElem?_append_right (by omega)] at hj
    have := k.2 _ r hj
    rw [List.getD_eq_getElem?_getD, List.getElem?_append_right (by rw [h.1]; omega), h.1, ← List.getD_eq_getElem?_getD]
    exact this

theorem RLc.one {w : World} {ok : Nat → Prop} {v : Value} {r : RV} (h : RO w ok r v) (h1 : r.one = true) : RLc w ok [v] [r] :=
  ⟨rfl, fun j q hj => by
    cases j with
    | zero => simp at hj; subst hj; exact ⟨h1, h⟩
    | succ j => simp at hj⟩

section
variable {P : Program} {H : Type} {enc : TypeId × Value → H} {w : World} {base : Nat} {spare : Nat → Bool} {held : Bool}

theorem typed_fs (ok : Nat → Prop) {n m : Nat} (IH : ∀ t, flatT P n t = true → ∀ cs x, DataW.trod enc P w base spare held m t cs = some x → ∃ rs, tyC P n t rs ∧ RLc w ok cs rs ∧ cs.length = P.cellsOf t) :
    ∀ (fs : List Field) (off tot : Nat) (cs : List Value), flatFs P (flatT P n) off fs = some tot → cs.length = tot → (∀ f ∈ fs, ∃ x, DataW.trod enc P w base spare held m f.type ((cs.drop f.offset).take (P.cellsOf f.type)) = some x) →
    ∃ rs, tyFs P (tyC P n) fs rs ∧ RLc w ok (cs.drop off) rs
  | [], off, tot, cs, h, hl, _ => by
    simp only [flatFs, Option.some.injEq] at h
    subst h
    refine ⟨[], rfl, ?_⟩
    rw [List.drop_of_length_le (by omega)]
    exact ⟨rfl, fun j r hj => by simp at hj⟩
  | f :: fs, off, tot, cs, h, hl, hx => by
    unfold flatFs at h
    split at h
    · rename_i hf
      simp only [Bool.and_eq_true, decide_eq_true_eq] at hf
      obtain ⟨x, hx0⟩ := hx f (by simp)
      obtain ⟨a, ha1, ha2, ha3⟩ := IH f.type hf.2 _ _ hx0
      obtain ⟨b, hb1, hb2⟩ := typed_fs ok IH fs (off + P.cellsOf f.type) tot cs h hl (fun g hg => hx g (by simp [hg]))
      refine ⟨a ++ b, ⟨a, b, rfl, ha1, hb1⟩, ?_⟩
      rw [hf.1] at ha2
      have : cs.drop off = (cs.drop off).take (P.cellsOf f.type) ++ cs.drop (off + P.cellsOf f.type) := by
        rw [← List.drop_drop, List.take_append_drop]
      rw [this]
      exact ha2.append hb2
    · cases h

theorem typed_arr (ok : Nat → Prop) {n m : Nat} {e : TypeId} (IH : ∀ cs x, DataW.trod enc P w base spare held m e cs = some x → ∃ rs, tyC P n e rs ∧ RLc w ok cs rs ∧ cs.length = P.cellsOf e) :
    ∀ (k i : Nat) (cs : List Value), cs.length = (i + k) * P.cellsOf e → (∀ j, i ≤ j → j < i + k → ∃ x, DataW.trod enc P w base spare held m e ((cs.drop (j * P.cellsOf e)).take (P.cellsOf e)) = some x) →
    ∃ xs : List (List RV), xs.length = k ∧ (∀ x ∈ xs, tyC P n e x) ∧ RLc w ok (cs.drop (i * P.cellsOf e)) xs.flatten
  | 0, i, cs, hl, _ => by
    refine ⟨[], rfl, by simp, ?_⟩
    rw [List.drop_of_length_le (by simp at hl; omega)]
    exact ⟨rfl, fun j r hj => by simp at hj⟩
  | k + 1, i, cs, hl, hx => by
    obtain ⟨x, hx0⟩ := hx i (Nat.le_refl _) (by omega)
    obtain ⟨a, ha1, ha2, ha3⟩ := IH _ _ hx0
    obtain ⟨xs, h1, h2, h3⟩ := typed_arr ok IH k (i + 1) cs (by rw [hl]; congr 1; omega) (fun j h1 h2 => hx j (by omega) (by omega))
    refine ⟨a :: xs, by simp [h1], fun x hx => ?_, ?_⟩
    · rcases List.mem_cons.1 hx with rfl | hx
      · exact ha1
      · exact h2 x hx
    · have : cs.drop (i * P.cellsOf e) = (cs.drop (i * P.cellsOf e)).take (P.cellsOf e) ++ cs.drop ((i + 1) * P.cellsOf e) := by
        rw [Nat.add_mul, Nat.one_mul, ← List.drop_drop, List.take_append_drop]
      rw [this, List.flatten_cons]
      exact ha2.append h3

theorem cells_get {a : Addr} {n : Nat} {cs : List Value} (h : w.cells? base a n = some cs) : cs.length = n ∧ ∀ j, j < n → w.cell? (a.add j) = some (cs.getD j undef) := by
  unfold World.cells? at h
  split at h
  · obtain ⟨h1, h2⟩ := mapM_some_get _ _ _ h
    refine ⟨by simpa using h1, fun j hj => ?_⟩
    have hr : (List.range n)[j]? = some j := List.getElem?_range hj
    obtain ⟨h3, h4⟩ := h2 j j hr
    have hlt : j < cs.length := by rw [h1]; simpa using hj
    rw [List.getD_eq_getElem?_getD, List.getElem?_eq_getElem hlt, Option.getD_some, ← h3, List.getElem?_eq_getElem hlt]
  · cases h

theorem typed (ok : Nat → Prop) (hok : ∀ b, b < w.heap.size → ok b) : ∀ (n : Nat) (t : TypeId), flatT P n t = true → ∀ (fuel : Nat) (cs : List Value) (x : DataW H × List MemPlace), DataW.trod enc P w base spare held fuel t cs = some x → ∃ rs, tyC P n t rs ∧ RLc w ok cs rs ∧ cs.length = P.cellsOf t
  | 0, t, h, _, _, _, _ => by cases h
  | n + 1, t, h, fuel, cs, x, hx => by
    unfold flatT at h
    unfold tyC
    split at h
    · rename_i hu
      obtain ⟨b, rfl, _⟩ := DataW.trod_bool hu hx
      try simp only [hu]
      exact ⟨[.bool b], ⟨b, rfl⟩, .one (.bool b) rfl, by simp at h; simp [h]⟩
    · rename_i k hu
      obtain ⟨i, rfl, _, hw⟩ := DataW.trod_int hu hx
      try simp only [hu]
      exact ⟨[.int k i], ⟨i, rfl, hw⟩, .one (.int k i) rfl, by simp at h; simp [h]⟩
    · rename_i hu
      obtain ⟨s, rfl, _, hs⟩ := DataW.trod_string hu hx
      try simp only [hu]
      exact ⟨[.str s], ⟨s, rfl, hs⟩, .one (.str s) rfl, by simp at h; simp [h]⟩
    · rename_i e hu
      simp only [Bool.and_eq_true, beq_iff_eq] at h
      try simp only [hu]
      rcases DataW.trod_slice hu hx with ⟨rfl, _⟩ | ⟨a, len, cap, elems, rest, m, rfl, rfl, _, hb, hl, hm, hel, hcell, _, _⟩
      · refine ⟨[.sl (P.cellsOf e) []], ⟨[], rfl, by simp, by simp⟩, .one ?_ rfl, by simpa using h.1.symm⟩
        exact .sl _ [] none 0 (fun _ _ => undef) (fun _ => ⟨rfl, rfl⟩) (by simp) (by simp [maxLen]) (by simp) (fun i x j y hx => by simp at hx) (fun i x j y hx => by simp at hx) (fun i x j y hx => by simp at hx)
      · have key : ∀ i, i < len → ∃ (ci : List Value) (r : List RV), tyC P n e r ∧ RLc w ok ci r ∧ ci.length = P.cellsOf e ∧ ∀ j, j < P.cellsOf e → w.cell? ((a.add (i * P.cellsOf e)).add j) = some (ci.getD j undef) := fun i hi => by
          have h1 := hcell i hi
          rw [List.getElem?_eq_getElem (by omega)] at h1
          simp only [Option.bind_eq_some_iff] at h1
          obtain ⟨ci, h2, h3⟩ := h1
          obtain ⟨r, g1, g2, g3⟩ := typed ok hok n e h.2 m ci _ h3
          exact ⟨ci, r, g1, g2, g3, (cells_get h2).2⟩
        classical
        let cf : Nat → List Value := fun i => if h : i < len then (key i h).choose else []
        let rf : Nat → List RV := fun i => if h : i < len then (key i h).choose_spec.choose else []
        have hf : ∀ i, i < len → tyC P n e (rf i) ∧ RLc w ok (cf i) (rf i) ∧ (cf i).length = P.cellsOf e ∧ ∀ j, j < P.cellsOf e → w.cell? ((a.add (i * P.cellsOf e)).add j) = some ((cf i).getD j undef) := fun i hi => by
          have h1 : cf i = (key i hi).choose := dif_pos hi
          have h2 : rf i = (key i hi).choose_spec.choose := dif_pos hi
          rw [h1, h2]
          exact (key i hi).choose_spec.choose_spec
        have hlen : ((List.range len).map rf).length = len := by simp
        have hget : ∀ (i : Nat) (x : List RV), ((List.range len).map rf)[i]? = some x → i < len ∧ x = rf i := fun i x hi => by
          rw [List.getElem?_map] at hi
          cases hr : (List.range len)[i]? with
          | none => simp [hr] at hi
          | some j =>
            have hlt := (List.getElem?_eq_some_iff.1 hr).1
            simp at hlt
            rw [List.getElem?_range hlt] at hr
            cases hr
            rw [List.getElem?_range hlt] at hi
            simp at hi
            exact ⟨hlt, hi.symm⟩
        refine ⟨[.sl (P.cellsOf e) ((List.range len).map rf)], ⟨_, rfl, by rw [hlen]; omega, fun x hx => ?_⟩, .one ?_ rfl, by simpa using h.1.symm⟩
        · obtain ⟨i, hi, rfl⟩ := List.mem_map.1 hx
          exact (hf i (by simpa using hi)).1
        · have hcs : ∀ (i : Nat) (x : List RV) (j : Nat) (y : RV), ((List.range len).map rf)[i]? = some x → x[j]? = some y → i < len ∧ (rf i)[j]? = some y ∧ w.cell? (a.add (i * P.cellsOf e + j)) = some ((cf i).getD j undef) := fun i x j y hi hj => by
            obtain ⟨h1, rfl⟩ := hget i x hi
            obtain ⟨_, g2, g3, g4⟩ := hf i h1
            have hlt := (List.getElem?_eq_some_iff.1 hj).1
            have := g4 j (by rw [← g3, g2.1]; exact hlt)
            rw [addr_add_add] at this
            exact ⟨h1, hj, this⟩
          have := RO.sl (w := w) (ok := ok) (P.cellsOf e) ((List.range len).map rf) (some a) cap (fun i j => (cf i).getD j undef) (fun h => by cases h) (by rw [hlen]; exact hl) hm (fun x hx => by
            obtain ⟨i, hi, rfl⟩ := List.mem_map.1 hx
            obtain ⟨_, g2, g3, _⟩ := hf i (by simpa using hi)
            rw [← g2.1, g3]) (fun i x j y hi hj => by
            obtain ⟨_, _, h3⟩ := hcs i x j y hi hj
            exact ⟨a, rfl, hok _ (by have := World.block_lt_of_cell? w _ h3; rwa [addr_add_block] at this), h3⟩) (fun i x j y hi hj => by
            obtain ⟨h1, h2, _⟩ := hcs i x j y hi hj
            exact ((hf i h1).2.1.2 j y h2).1) (fun i x j y hi hj => by
            obtain ⟨h1, h2, _⟩ := hcs i x j y hi hj
            exact ((hf i h1).2.1.2 j y h2).2)
          rw [hlen] at this
          exact this
    · rename_i fs hu
      simp only [beq_iff_eq] at h
      try simp only [hu]
      obtain ⟨xs, m, rfl, _, hl, hxl, hf⟩ := DataW.trod_struct hu hx
      obtain ⟨rs, g1, g2⟩ := typed_fs (enc := enc) (m := m) ok (fun t ht cs x hx => typed ok hok n t ht m cs x hx) fs.toList 0 (P.cellsOf t) cs h hl (fun f hfm => by
        obtain ⟨i, hi, he⟩ := List.mem_iff_getElem.1 hfm
        have hi' : i < fs.size := by simpa using hi
        have hfi : fs[i]? = some f := by rw [Array.getElem?_eq_getElem hi']; simp at he; rw [he]
        have := hf i f hfi
        rw [List.getElem?_eq_getElem (by omega)] at this
        exact ⟨_, this⟩)
      exact ⟨rs, g1, by simpa using g2, hl⟩
    · rename_i k e hu
      simp only [Bool.and_eq_true, beq_iff_eq] at h
      try simp only [hu]
      obtain ⟨xs, m, rfl, _, hl, hxl, hf⟩ := DataW.trod_array hu hx
      obtain ⟨ys, g1, g2, g3⟩ := typed_arr (enc := enc) (m := m) ok (fun cs x hx => typed ok hok n e h.1 m cs x hx) k 0 cs (by rw [hl, h.2]; congr 1; omega) (fun j _ hj => by
        have := hf j (by omega)
        rw [List.getElem?_eq_getElem (by omega)] at this
        exact ⟨_, this⟩)
      exact ⟨ys.flatten, ⟨ys, rfl, g1, g2⟩, by simpa using g3, hl⟩
    · cases h
end

/-- An argument as the engine has it. -/
def argS (P : Program) (t : TypeId) (rs : List RV) : SV := match aggT P t with
  | some true => .agg (rs.map .rv)
  | _ => .rv (rs.headD .nilp)

theorem open_arg {P : Program} {H : Type} {enc : TypeId × Value → H} {w : World} {r : Reach} {b0 n : Nat} {t : TypeId} {v : Value} {d : DataW H} {ps : List MemPlace} (hf : flatT P n t = true) (hval : Value.okWide P w r b0 t v) (hd : DataW.Trod enc P w 0 (fun _ => true) true t v d ps) (C : Ctx) (rho : Nat → Option Nat) :
    ∃ rs, tyC P n t rs ∧ ∀ (ok : Nat → Prop) (rho : Nat → Option Nat) (hp : Hp), (∀ b, b < w.heap.size → ok b) → Rp w ok rho hp (argS P t rs) v := by
  obtain ⟨fuel, hx⟩ := hd
  obtain ⟨rs, h1, h2, h3⟩ := typed (enc := enc) (fun b => b < w.heap.size) (fun b hb => hb) n t hf fuel _ _ hx
  refine ⟨rs, h1, fun ok rho hp hok => ?_⟩
  have h2' : RLc w ok v.cells.toList rs := ⟨h2.1, fun j q hj => ⟨(h2.2 j q hj).1, (h2.2 j q hj).2.mono fun b hb _ => ⟨hok b hb, rfl⟩⟩⟩
  unfold argS
  cases hu : P.underlying t with
  | none => cases n <;> simp [flatT, hu] at hf
  | some kd =>
    have scalar : (aggT P t = some false) → v.cells = #[v] → Rp w ok rho hp (.rv (rs.headD .nilp)) v := fun _ hc => by
      have hl := h2'.1
      rw [hc] at hl h2'
      obtain ⟨q, rfl⟩ := List.length_eq_one_iff.1 hl.symm
      exact .rv _ _ (h2'.2 0 q rfl).2
    have aggr : (∃ cs, v = .agg cs) → Rp w ok rho hp (.agg (rs.map .rv)) v := fun ⟨cs, hv⟩ => by
      subst hv
      have hl := h2'.1
      have : Rp w ok rho hp (.agg (rs.map .rv)) (.agg cs.toList.toArray) := by
        refine .agg _ _ (by simpa [Value.cells] using hl) (fun j u hj => ?_) (fun j y hj => ?_)
        · have hlt := (List.getElem?_eq_some_iff.1 hj).1
          have hr := List.getElem?_eq_getElem (l := rs) (i := j) (by simp [Value.cells] at hl; simp at hlt; omega)
          have := h2'.2 j _ hr
          have hu : (Value.cells (.agg cs)).toList.getD j undef = u := by rw [List.getD_eq_getElem?_getD]; show (cs.toList[j]?).getD undef = u; rw [hj]; rfl
          rw [hu] at this
          exact this.2.oneCell this.1
        · rw [List.getElem?_map] at hj
          cases hr : rs[j]? with
          | none => simp [hr] at hj
          | some q => simp [hr] at hj; subst hj; exact .rv _ _ (h2'.2 j q hr).2
      simpa using this
    have hcells : (∀ cs, v ≠ .agg cs) → v.cells = #[v] := fun h => by cases v <;> first | rfl | exact absurd rfl (h _)
    cases n with
    | zero => cases hf
    | succ n =>
      unfold flatT at hf
      unfold Value.okWide at hval
      cases kd <;> simp only [hu] at hf hval <;> first
        | (cases hf; done)
        | (have ha : aggT P t = some true := by simp [aggT, hu]
           simp only [ha]
           obtain ⟨cs, hv, _⟩ := hval
           exact aggr ⟨cs, hv⟩)
        | (have ha : aggT P t = some false := by simp [aggT, hu]
           simp only [ha]
           refine scalar ha (hcells (fun cs hv => ?_))
           subst hv
           simp [Cell.okWide, hu, Cell.ok] at hval)

/-- A law's call, from its contract. -/
theorem law_calls {P : Program} {f : FuncId} {ss : List SV} (h : CallR P f ss [] [] (.rv (.bool true))) {w : World} {vs : List Value} (hl : vs.length = ss.length)
    (ha : ∀ (j : Nat) (s : SV), ss[j]? = some s → ∀ (ok : Nat → Prop) (rho : Nat → Option Nat) (hp : Hp), (∀ b, b < w.heap.size → ok b) → Rp w ok rho hp s (vs.getD j undef)) :
    Calls P f vs.toArray w fun e w' => e = .returned (.bool true) ∧ RowKit.Below w.heap.size w w' := by
  let C : Ctx := ⟨w, fun _ => True, fun _ => False, 0, fun _ => none, fun _ => none⟩
  have R : RepH C (fun _ => none) w (fun _ => none) := ⟨fun id hb h => (by cases h), fun i j b h => (by simp at h), fun i b h => (by simp at h), ⟨rfl, rfl, rfl, Nat.le_refl _, fun b _ _ => rfl⟩, fun id hb hb0 h => (by cases h)⟩
  refine (h.2 C (fun _ => none) w (fun _ => none) vs (fun q hq => by simp at hq) (fun q hq => by simp at hq) R hl (fun j s hj => ha j s hj _ _ _ (fun b hb => ⟨.inl trivial, fun id hid => by simp at hid⟩))).mono ?_
  rintro e w' ⟨v, rho', rfl, S, hR⟩
  refine ⟨by rw [rp_bool hR], S.mem.fr.os, S.mem.fr.tape, S.mem.fr.output, S.mem.fr.size, fun k hk => S.mem.fr.block k hk (fun h => h)⟩
end Go.Eng

/- Calls that take and change things of the caller's; rows of pure values. -/
namespace Go.Eng
open Go

/-- Rows of pure values. -/
def rvs (xs : List (List RV)) : List (List SV) := xs.map (List.map SV.rv)

section
variable {xs ys : List (List RV)}
theorem rvs_fold : xs.map (List.map SV.rv) = rvs xs := rfl
theorem rvs_len : (rvs xs).length = xs.length := by simp [rvs]
theorem rvs_get {i : Nat} : ((rvs xs)[i]?).getD [] = ((xs[i]?).getD []).map SV.rv := by
  unfold rvs
  rw [List.getElem?_map]
  cases xs[i]? <;> rfl
theorem rvs_take {n : Nat} : (rvs xs).take n = rvs (xs.take n) := by simp [rvs]
theorem rvs_append : rvs xs ++ rvs ys = rvs (xs ++ ys) := by simp [rvs]
theorem rvs_set {i : Nat} {c : List RV} : (rvs xs).set i (c.map SV.rv) = rvs (xs.set i c) := by simp [rvs, List.map_set]
theorem map_inj {α β : Type} {f : α → β} (hf : ∀ x y, f x = f y → x = y) : ∀ {a b : List α}, a.map f = b.map f → a = b
  | [], [], _ => rfl
  | [], _ :: _, h => by simp at h
  | _ :: _, [], h => by simp at h
  | x :: a, y :: b, h => by
    simp only [List.map_cons, List.cons.injEq] at h
    rw [hf x y h.1, map_inj hf h.2]
theorem rvs_inj : rvs xs = rvs ys ↔ xs = ys := by
  constructor
  · intro h
    exact map_inj (fun a b h => map_inj (fun x y h => by cases h; rfl) h) h
  · rintro rfl; rfl
end

def RnRows (τ : Nat → Option Nat) (h : Hp) (xs ys : List (List SV)) : Prop := xs.length = ys.length ∧ ∀ (i : Nat) (x y : List SV), xs[i]? = some x → ys[i]? = some y → RnL τ h x y

theorem rnRows_rvs {τ : Nat → Option Nat} {h : Hp} {xs ys : List (List RV)} : RnRows τ h (rvs xs) (rvs ys) ↔ xs = ys := by
  constructor
  · rintro ⟨hl, hr⟩
    refine List.ext_getElem? (fun i => ?_)
    rw [rvs_len, rvs_len] at hl
    by_cases hi : i < xs.length
    · have h1 := List.getElem?_eq_getElem hi
      have h2 := List.getElem?_eq_getElem (l := ys) (i := i) (by omega)
      have := hr i (xs[i].map SV.rv) ((ys[i]'(by omega)).map SV.rv) (by simp [rvs, h1]) (by simp [rvs, h2])
      rw [h1, h2]
      obtain ⟨k1, k2⟩ := this
      simp at k1
      congr 1
      refine List.ext_getElem? (fun j => ?_)
      by_cases hj : j < (xs[i]).length
      · have g1 := List.getElem?_eq_getElem hj
        have g2 := List.getElem?_eq_getElem (l := ys[i]'(by omega)) (i := j) (by omega)
        have := k2 j _ _ (by rw [List.getElem?_map, g1]; rfl) (by rw [List.getElem?_map, g2]; rfl)
        rw [g1, g2, rn_rv.1 this]
      · rw [List.getElem?_eq_none (by omega), List.getElem?_eq_none (by omega)]
    · rw [List.getElem?_eq_none (by omega), List.getElem?_eq_none (by omega)]
  · rintro rfl
    refine ⟨rfl, fun i x y hx hy => ?_⟩
    rw [hx] at hy; cases hy
    refine ⟨rfl, fun j a b ha hb => ?_⟩
    rw [ha] at hb; cases hb
    unfold rvs at hx
    rw [List.getElem?_map] at hx
    cases hq : xs[i]? with
    | none => simp [hq] at hx
    | some q =>
      simp [hq] at hx
      subst hx
      rw [List.getElem?_map] at ha
      cases hr : q[j]? with
      | none => simp [hr] at ha
      | some r => simp [hr] at ha; subst ha; exact rn_rv.2 rfl

def RnHo (τ : Nat → Option Nat) (h : Hp) : Option HB → Option HB → Prop
  | some (.var xs), some (.var ys) => RnAll τ h xs ys
  | some (.row e v xs), some (.row e' v' ys) => e = e' ∧ v = v' ∧ RnRows τ h xs ys
  | _, _ => False

theorem RnHo.get {τ : Nat → Option Nat} {h : Hp} {x y : Option HB} (hr : RnHo τ h x y) : ∃ a b, x = some a ∧ y = some b ∧ RnH τ h a b := by
  unfold RnHo at hr
  split at hr
  · exact ⟨_, _, rfl, rfl, .var _ _ (rnAll_iff.1 hr)⟩
  · obtain ⟨rfl, rfl, h1, h2⟩ := hr
    exact ⟨_, _, rfl, rfl, .row _ _ _ _ h1 h2⟩
  · exact hr.elim

def lkp : List (Nat × HB) → Nat → Option HB
  | [], _ => none
  | (i, hb) :: r, id => if id = i then some hb else lkp r id

def finU : Option HB → List (Nat × HB) → Nat → Option HB
  | b, [], _ => b
  | b, (i, hb) :: r, id => finU (if id = i then some hb else b) r id

theorem upl_finU {id : Nat} : ∀ {us : List (Nat × HB)} {hp : Hp}, upl hp us id = finU (hp id) us id
  | [], hp => rfl
  | (i, hb) :: r, hp => by
    rw [upl, upl_finU, finU]
    unfold up
    rfl

theorem finU_none {id : Nat} {hb : HB} : ∀ {us : List (Nat × HB)} {a : Option HB}, finU none us id = some hb → finU a us id = some hb
  | [], a, h => by cases h
  | (i, hb0) :: r, a, h => by
    unfold finU at h ⊢
    by_cases hi : id = i
    · rw [if_pos hi] at h ⊢; exact h
    · rw [if_neg hi] at h ⊢; exact finU_none h

theorem lkp_mem {id : Nat} {hb : HB} : ∀ {pre : List (Nat × HB)}, lkp pre id = some hb → (id, hb) ∈ pre
  | [], h => by cases h
  | (i, hb0) :: r, h => by
    unfold lkp at h
    split at h
    · rename_i hi; cases h; subst hi; simp
    · exact List.mem_cons_of_mem _ (lkp_mem h)

theorem fin_upl {pre us : List (Nat × HB)} {id : Nat} {hb : HB} (h : finU (lkp pre id) us id = some hb) (hp : Hp) (hpre : PreOK hp pre) : upl hp us id = some hb := by
  rw [upl_finU]
  cases hl : lkp pre id with
  | none => rw [hl] at h; exact finU_none h
  | some b =>
    rw [hl] at h
    rw [hpre (id, b) (lkp_mem hl)]; exact h

def keptL (τ : Nat → Option Nat) (h : Hp) (pre us : List (Nat × HB)) : Nat → List (Option Nat) → Prop
  | _, [] => True
  | j, none :: r => keptL τ h pre us (j + 1) r
  | j, some id :: r => RnHo τ h (h j) (finU (lkp pre id) us id) ∧ keptL τ h pre us (j + 1) r

theorem keptL_get {τ : Nat → Option Nat} {h : Hp} {pre us : List (Nat × HB)} : ∀ {l : List (Option Nat)} {j : Nat}, keptL τ h pre us j l → ∀ (i id : Nat), l[i]? = some (some id) → RnHo τ h (h (j + i)) (finU (lkp pre id) us id)
  | [], j, _, i, id, hi => by simp at hi
  | x :: r, j, hk, i, id, hi => by
    cases i with
    | zero =>
      simp at hi
      subst hi
      exact hk.1
    | succ i =>
      have hk' : keptL τ h pre us (j + 1) r := by cases x with | none => exact hk | some q => exact hk.2
      have := keptL_get hk' i id (by simpa using hi)
      rwa [show j + 1 + i = j + (i + 1) by omega] at this

def ofL (τl : List (Option Nat)) (j : Nat) : Option Nat := (τl[j]?).getD none

def nodupL : List (Option Nat) → Prop
  | [] => True
  | none :: r => nodupL r
  | some x :: r => some x ∉ r ∧ nodupL r

theorem nodupL_inj : ∀ {l : List (Option Nat)}, nodupL l → ∀ (i j id : Nat), l[i]? = some (some id) → l[j]? = some (some id) → i = j
  | [], _, i, j, id, h, _ => by simp at h
  | x :: r, hn, i, j, id, h1, h2 => by
    have hn' : nodupL r := by cases x with | none => exact hn | some q => exact hn.2
    cases i with
    | zero =>
      simp at h1
      subst h1
      cases j with
      | zero => rfl
      | succ j => exact absurd (List.mem_of_getElem? (by simpa using h2)) hn.1
    | succ i =>
      cases j with
      | zero =>
        simp at h2
        subst h2
        exact absurd (List.mem_of_getElem? (by simpa using h1)) hn.1
      | succ j => rw [nodupL_inj hn' i j id (by simpa using h1) (by simpa using h2)]

/-- What is new: it is among what is told, and was not there. -/
def newL (pre us : List (Nat × HB)) : List (Option Nat) → Prop
  | [] => True
  | none :: r => newL pre us r
  | some id :: r => id ∈ us.map (·.1) ∧ id ∉ pre.map (·.1) ∧ newL pre us r

theorem newL_get {pre us : List (Nat × HB)} : ∀ {l : List (Option Nat)}, newL pre us l → ∀ (i id : Nat), l[i]? = some (some id) → id ∈ us.map (·.1) ∧ id ∉ pre.map (·.1)
  | [], _, i, id, h => by simp at h
  | x :: r, hn, i, id, h => by
    have hn' : newL pre us r := by cases x with | none => exact hn | some q => exact hn.2.2
    cases i with
    | zero => simp at h; subst h; exact ⟨hn.1, hn.2.1⟩
    | succ i => exact newL_get hn' i id (by simpa using h)

def allU (τl : List (Option Nat)) : List (Nat × HB) → Prop
  | [] => True
  | (i, _) :: r => some i ∈ τl ∧ allU τl r

theorem allU_get {τl : List (Option Nat)} : ∀ {us : List (Nat × HB)}, allU τl us → ∀ q ∈ us, some q.1 ∈ τl
  | [], _, q, h => by simp at h
  | (i, hb) :: r, hu, q, h => by
    rcases List.mem_cons.1 h with rfl | h
    · exact hu.1
    · exact allU_get hu.2 q h

/-- How a call ends, to be checked part by part. τl: the things that were handed in, then what is kept of the new ones. -/
def retM (σ : List Nat) (pre us : List (Nat × HB)) (rs : List RR) (sv : SV) (env : List (Nat × SV)) (h : List (Option HB)) (τn : List (Option Nat)) : Prop :=
  nodupL (σ.map some ++ τn) ∧ newL pre us τn ∧ allU (σ.map some ++ τn) us ∧ keptL (ofL (σ.map some ++ τn)) (hget h) pre us 0 (σ.map some ++ τn) ∧ retP (ofL (σ.map some ++ τn)) (hget h) sv (resL (lk env) (hget h) rs)

theorem fin_retM {σ : List Nat} {pre us : List (Nat × HB)} {rs : List RR} {sv : SV} {env : List (Nat × SV)} {h : List (Option HB)} {τn : List (Option Nat)} (hr : retM σ pre us rs sv env h τn) : Fin σ pre us rs sv env h (ofL (σ.map some ++ τn)) := by
  obtain ⟨h1, h2, h3, h4, h5⟩ := hr
  have hof : ∀ j id, ofL (σ.map some ++ τn) j = some id → (σ.map some ++ τn)[j]? = some (some id) := fun j id hj => by
    unfold ofL at hj
    cases hq : (σ.map some ++ τn)[j]? with
    | none => rw [hq] at hj; cases hj
    | some x => rw [hq] at hj; simp at hj; rw [hj]
  refine ⟨fun i j id hi hj => nodupL_inj h1 i j id (hof i id hi) (hof j id hj), fun j id hj => ?_, fun j id hj hl => ?_, fun j id hj => ?_, fun q hq => ?_, ?_⟩
  · unfold ofL
    rw [List.getElem?_append_left (by have := (List.getElem?_eq_some_iff.1 hj).1; simpa using this), List.getElem?_map, hj]; rfl
  · have := hof j id hj
    rw [List.getElem?_append_right (by simpa using hl)] at this
    obtain ⟨g1, g2⟩ := newL_get h2 _ id this
    exact ⟨g1, fun q hq he => g2 (List.mem_map.2 ⟨q, hq, he⟩)⟩
  · have := keptL_get h4 j id (hof j id hj)
    rw [Nat.zero_add] at this
    obtain ⟨a, b, g1, g2, g3⟩ := this.get
    exact ⟨a, b, g1, g3, fun hp hpre => fin_upl g2 hp hpre⟩
  · obtain ⟨j, hj, he⟩ := List.mem_iff_getElem.1 (allU_get h3 q hq)
    refine ⟨j, ?_⟩
    unfold ofL
    rw [List.getElem?_eq_getElem hj, he]; rfl
  · unfold retP at h5
    split at h5
    · rename_i p xs hres; exact ⟨p, xs, hres, h5.1, h5.2⟩
    · exact h5.elim

def BkAll (σ : Nat → Option Nat) : List SV → List SV → Prop
  | [], [] => True
  | x :: xs, y :: ys => Bk σ x y ∧ BkAll σ xs ys
  | _, _ => False

theorem bkAll_iff {σ : Nat → Option Nat} : ∀ {xs ys : List SV}, BkAll σ xs ys ↔ BkL σ xs ys
  | [], [] => ⟨fun _ => ⟨rfl, fun i x y hx => by simp at hx⟩, fun _ => trivial⟩
  | [], _ :: _ => ⟨fun h => h.elim, fun h => by simp [BkL] at h⟩
  | _ :: _, [] => ⟨fun h => h.elim, fun h => by simp [BkL] at h⟩
  | x :: xs, y :: ys => by
    unfold BkAll
    rw [bkAll_iff (xs := xs) (ys := ys)]
    constructor
    · rintro ⟨h1, h2, h3⟩
      refine ⟨by simp [h2], fun i a b ha hb => ?_⟩
      cases i with
      | zero => simp at ha hb; subst ha; subst hb; exact h1
      | succ i => exact h3 i a b (by simpa using ha) (by simpa using hb)
    · rintro ⟨h2, h3⟩
      exact ⟨h3 0 x y rfl rfl, by simpa using h2, fun i a b ha hb => h3 (i + 1) a b (by simpa using ha) (by simpa using hb)⟩

section
variable {σ : Nat → Option Nat}
theorem bk_rv {r r' : RV} : Bk σ (.rv r) (.rv r') ↔ r = r' := ⟨fun hr => by cases hr; rfl, fun e => by subst e; exact .rv _⟩
theorem bk_dead {x : SV} : Bk σ .dead x ↔ True := ⟨fun _ => trivial, fun _ => .dead _⟩
theorem bk_ptr {i j o o' : Nat} : Bk σ (.ptr i o) (.ptr j o') ↔ σ i = some j ∧ o = o' := ⟨fun hr => by cases hr with | ptr _ _ _ hj => exact ⟨hj, rfl⟩, fun ⟨e, e'⟩ => by subst e'; exact .ptr _ _ _ e⟩
theorem bk_row {i j v v' l l' : Nat} : Bk σ (.row i v l) (.row j v' l') ↔ σ i = some j ∧ v = v' ∧ l = l' := ⟨fun hr => by cases hr with | row _ _ _ _ hj => exact ⟨hj, rfl, rfl⟩, fun ⟨e, e', e2⟩ => by subst e'; subst e2; exact .row _ _ _ _ e⟩
theorem bk_agg {xs ys : List SV} : Bk σ (.agg xs) (.agg ys) ↔ BkAll σ xs ys := by rw [bkAll_iff]; exact ⟨fun hr => by cases hr with | agg _ _ hl hf => exact ⟨hl, hf⟩, fun ⟨e, e'⟩ => .agg _ _ e e'⟩
theorem bk_tup {xs ys : List SV} : Bk σ (.tup xs) (.tup ys) ↔ BkAll σ xs ys := by rw [bkAll_iff]; exact ⟨fun hr => by cases hr with | tup _ _ hl hf => exact ⟨hl, hf⟩, fun ⟨e, e'⟩ => .tup _ _ e e'⟩
theorem bk_fn {f f' : FuncId} {xs ys : List SV} : Bk σ (.fn f xs) (.fn f' ys) ↔ f = f' ∧ BkAll σ xs ys := by rw [bkAll_iff]; exact ⟨fun hr => by cases hr with | fn _ _ _ hl hf => exact ⟨rfl, hl, hf⟩, fun ⟨e, e', e2⟩ => by subst e; exact .fn _ _ _ e' e2⟩
theorem bk_ifc {t t' : TypeId} {x y : SV} : Bk σ (.ifc t x) (.ifc t' y) ↔ t = t' ∧ Bk σ x y := ⟨fun hr => by cases hr with | ifc _ _ _ hf => exact ⟨rfl, hf⟩, fun ⟨e, e'⟩ => by subst e; exact .ifc _ _ _ e'⟩
theorem bkAll_map {rs : List RV} : BkAll σ (rs.map .rv) (rs.map .rv) ↔ True := ⟨fun _ => trivial, fun _ => bkAll_iff.2 ⟨rfl, fun i x y hx hy => by
  rw [hx] at hy; cases hy
  rw [List.getElem?_map] at hx
  cases hr : rs[i]? with
  | none => simp [hr] at hx
  | some r => simp [hr] at hx; subst hx; exact .rv r⟩⟩
end
theorem rnAll_map {τ : Nat → Option Nat} {h : Hp} {rs qs : List RV} : RnAll τ h (rs.map .rv) (qs.map .rv) ↔ rs = qs := by
  induction rs generalizing qs with
  | nil => cases qs <;> simp [RnAll]
  | cons r rs ih => cases qs with
    | nil => simp [RnAll]
    | cons q qs => simp [RnAll, rn_rv, ih]

def BkHs (σ : Nat → Option Nat) : List HB → List HB → Prop
  | [], [] => True
  | .var xs :: r, .var ys :: q => BkAll σ xs ys ∧ BkHs σ r q
  | .row e v xs :: r, .row e' v' ys :: q => e = e' ∧ v = v' ∧ (xs = ys ∧ ∃ zs, xs = rvs zs) ∧ BkHs σ r q
  | _, _ => False

theorem BkHs.get {σ : Nat → Option Nat} : ∀ {a b : List HB}, BkHs σ a b → a.length = b.length ∧ ∀ (j : Nat) (x y : HB), a[j]? = some x → b[j]? = some y → BkH σ x y
  | [], [], _ => ⟨rfl, fun j x y hx => by simp at hx⟩
  | .var xs :: r, .var ys :: q, h => by
    obtain ⟨g1, g2⟩ := BkHs.get h.2
    refine ⟨by simp [g1], fun j x y hx hy => ?_⟩
    cases j with
    | zero => simp at hx hy; subst hx; subst hy; exact .var _ _ (bkAll_iff.1 h.1)
    | succ j => exact g2 j x y (by simpa using hx) (by simpa using hy)
  | .row e v xs :: r, .row e' v' ys :: q, h => by
    obtain ⟨rfl, rfl, ⟨rfl, zs, rfl⟩, h4⟩ := h
    obtain ⟨g1, g2⟩ := BkHs.get h4
    refine ⟨by simp [g1], fun j x y hx hy => ?_⟩
    cases j with
    | zero =>
      simp at hx hy; subst hx; subst hy
      refine .row _ _ _ _ rfl (fun i x y hx hy => ?_)
      rw [hx] at hy; cases hy
      unfold rvs at hx
      rw [List.getElem?_map] at hx
      cases hq : zs[i]? with
      | none => simp [hq] at hx
      | some z => simp [hq] at hx; subst hx; exact bkAll_iff.1 (bkAll_map.2 trivial)
    | succ j => exact g2 j x y (by simpa using hx) (by simpa using hy)
  | [], _ :: _, h => h.elim
  | .var _ :: _, [], h => h.elim
  | .row .. :: _, [], h => h.elim
  | .var _ :: _, .row .. :: _, h => h.elim
  | .row .. :: _, .var _ :: _, h => h.elim

/-- Calls that are handed things of the caller's. -/
theorem callR_M {P : Program} {f : FuncId} {N : Nat} {ac : AC} {rs : List RR} (H : FnOK P f N ac rs) (σ : List Nat) (hbs hbs' : List HB) (args0 args : List SV) (us : List (Nat × HB)) (sv : SV) (hN : args.length ≤ N) (hA : BkAll (fun j => σ[j]?) args0 args) (hl : hbs.length = σ.length) (hnd : nodupL (σ.map some)) (hB : BkHs (fun j => σ[j]?) hbs hbs')
    (hrun : ∀ K : Ex → St → Prop, (∀ env h env' h' τn, Ent σ.length ⟨env, h⟩ ⟨env', h'⟩ → retM σ (σ.zip hbs') us rs sv env' h' τn → K .normal ⟨env, h⟩ ∧ K .ret ⟨env, h⟩) → G P σ.length [.c ac] K (mkEnv 0 args0) (hbs.map some)) : CallR P f args (σ.zip hbs') us sv := by
  obtain ⟨g1, g2⟩ := hB.get
  refine callR_of H σ (hbs.map some) args0 hN (bkAll_iff.1 hA) (by simpa using hl) (fun i j id h1 h2 => nodupL_inj hnd i j id (by simp [h1]) (by simp [h2])) (fun j id hj => ?_) (fun K hK => hrun K (fun env h env' h' τn hE hr => hK env h env' h' _ hE (fin_retM hr)))
  have hlt := (List.getElem?_eq_some_iff.1 hj).1
  have h1 := List.getElem?_eq_getElem (l := hbs) (i := j) (by omega)
  have h2 := List.getElem?_eq_getElem (l := hbs') (i := j) (by omega)
  refine ⟨_, _, by rw [List.getElem?_map, h1]; rfl, ?_, g2 j _ _ h1 h2⟩
  have hz : (σ.zip hbs')[j]? = some (id, hbs'[j]'(by omega)) := by
    rw [List.getElem?_zip_eq_some]; exact ⟨hj, h2⟩
  exact List.mem_of_getElem? hz
theorem hget_zero {x : Option HB} {r : List (Option HB)} : hget (x :: r) 0 = x := rfl
theorem hget_succ {x : Option HB} {r : List (Option HB)} {n : Nat} : hget (x :: r) (n + 1) = hget r n := rfl
theorem gx_d {P : Program} {n0 : Nat} {k : List It} {K : Ex → St → Prop} {env : List (Nat × SV)} {h : List (Option HB)} {id : Nat} {a : List Nat} {b : List TE} {c : List AOp} : GX P n0 id (.d a b c :: k) K env h = GX P n0 id k K env h := rfl
theorem splice0 {α : Type} {o : Nat} {x l : List α} : splice l o x = l.take o ++ x ++ l.drop (o + x.length) := rfl

def FzAll (τ : Nat → Option Nat) (h : Hp) : List SV → List RV → Prop
  | [], [] => True
  | x :: xs, r :: rs => Fz τ h x r ∧ FzAll τ h xs rs
  | _, _ => False

theorem FzAll.get {τ : Nat → Option Nat} {h : Hp} : ∀ {xs : List SV} {rs : List RV}, FzAll τ h xs rs → xs.length = rs.length ∧ ∀ (j : Nat) (x : SV) (r : RV), xs[j]? = some x → rs[j]? = some r → Fz τ h x r
  | [], [], _ => ⟨rfl, fun j x r hx => by simp at hx⟩
  | x :: xs, r :: rs, hf => by
    obtain ⟨g1, g2⟩ := FzAll.get hf.2
    refine ⟨by simp [g1], fun j y q hy hq => ?_⟩
    cases j with
    | zero => simp at hy hq; subst hy; subst hq; exact hf.1
    | succ j => exact g2 j y q (by simpa using hy) (by simpa using hq)
  | [], _ :: _, h => h.elim
  | _ :: _, [], h => h.elim

/-- A row of pure values, from now on only read. -/
theorem fz_row {τ : Nat → Option Nat} {h : Hp} {j e ver len : Nat} {xs : List (List RV)} (hj : h j = some (.row e ver (rvs xs))) (hτ : τ j = none) (hl : len ≤ xs.length) (h1 : ∀ x ∈ xs, ∀ r ∈ x, r.one = true) : Fz τ h (.row j ver len) (.sl e (xs.take len)) := by
  have at_ : ∀ (i : Nat) (x : List SV) (r : List RV), (rvs xs)[i]? = some x → (xs.take len)[i]? = some r → x = r.map .rv ∧ r ∈ xs := fun i x r hx hr => by
    have h1 := List.mem_of_mem_take (List.mem_of_getElem? hr)
    have hlt := (List.getElem?_eq_some_iff.1 hr).1
    rw [List.getElem?_take, if_pos (by simp at hlt; omega)] at hr
    unfold rvs at hx
    rw [List.getElem?_map, hr] at hx
    simp at hx
    exact ⟨hx.symm, h1⟩
  refine .row j e ver len (rvs xs) (xs.take len) hτ hj (by simp; omega) (by rw [rvs_len]; exact hl) (fun i x r hx hr => ?_) (fun i r k q hr hq => ?_) (fun i x r k y q hx hr hy hq => ?_)
  · rw [(at_ i x r hx hr).1]; simp
  · exact h1 r (List.mem_of_mem_take (List.mem_of_getElem? hr)) q (List.mem_of_getElem? hq)
  · rw [(at_ i x r hx hr).1, List.getElem?_map, hq] at hy
    simp at hy
    subst hy
    exact .rv q

theorem callR_lend {P : Program} {f : FuncId} {rs : List RV} {args : List SV} {pre us : List (Nat × HB)} {sv : SV} (H : CallR P f (rs.map .rv) [] us sv) 
    (hz : ∀ hp, PreOK hp pre → FzAll (fun _ => none) hp args rs) (hl : args.length = rs.length) (hfl : FlatS sv) (hus : ∀ q ∈ us, FlatH q.2 ∧ ∀ p ∈ pre, p.1 ≠ q.1) : CallR P f args pre us sv :=
  callR_borrow H hl (fun hp hpre j y r hy hr => (hz hp hpre).get.2 j y r hy hr) hfl hus

/-- A nil slice within a variable as a row without elements. -/
theorem RepH.ghostVar {C : Ctx} {hp : Hp} {w : World} {rho : Nat → Option Nat} (R : RepH C hp w rho) {i0 m o : Nat} {cs : List SV} (e : Nat) (hi : hp i0 = some (.var cs)) (ho : cs[o]? = some (.rv .nilsl)) (hm : hp m = none) (hm0 : C.h0 m = none) :
    ∃ rho', Step C hp (up (up hp m (some (.row e 0 []))) i0 (some (.var (cs.set o (.row m 0 0))))) w w rho rho' := by
  have S := R.ghost m e 0 (.inl ⟨hm, hm0⟩)
  have hne : i0 ≠ m := fun h => by subst h; rw [hm] at hi; cases hi
  have hi' : (up hp m (some (.row e 0 []))) i0 = some (.var cs) := by rw [up_other _ _ hne]; exact hi
  rcases S.mem.heap i0 _ hi' with ⟨_, e', ver, hc⟩ | ⟨b, cur, t, h1, h2, h3⟩
  · cases hc
  · have S2 := S.mem.replace i0 (.var (cs.set o (.row m 0 0))) b cur t rfl rfl rfl (Nat.le_refl _) h2 (fun k _ _ => rfl) (.inl ⟨by rw [hi']; rfl, h1⟩) (fun hb hq => by rw [hi'] at hq; cases hq; exact h1.symm) (fun hq => by rw [hi'] at hq; cases hq) ⟨by rw [List.length_set]; exact h3.1, fun j y hy => by
      rw [List.getElem?_set] at hy
      split at hy
      · rename_i hj
        subst hj
        split at hy
        · cases hy
          obtain ⟨v, v1, v2, v3⟩ := h3.2 _ _ ho
          refine ⟨v, v1, v2, ?_⟩
          cases v3 with
          | rv _ _ hr =>
            cases hr
            exact .row _ _ _ _ rfl (by rw [up_same]; rfl) (fun e ver0 xs hx => by rw [up_same] at hx; cases hx; exact Nat.le_refl _) (fun e xs hx => .inl ⟨up_same _ _ _, rfl, rfl⟩)
        · cases hy
      · exact h3.2 j y hy⟩
    exact ⟨_, S.trans S2 (Nat.le_refl _)⟩

theorem callR_ghost {P : Program} {f : FuncId} {args : List SV} {pre us : List (Nat × HB)} {sv : SV} {i0 m e o : Nat} {cs : List SV} (ho : cs[o]? = some (.rv .nilsl)) (hm : ∀ q ∈ pre, q.1 ≠ m ∧ q.1 ≠ i0) (hne : m ≠ i0) (h1 : i0 ∈ us.map (·.1)) (h2 : m ∈ us.map (·.1))
    (H : CallR P f args ((i0, .var (cs.set o (.row m 0 0))) :: (m, .row e 0 []) :: pre) us sv) : CallR P f args ((i0, .var cs) :: pre) us sv := by
  refine ⟨H.1, fun C hp w rho vs hpre hnew R hvl hvs => ?_⟩
  have hi : hp i0 = some (.var cs) := hpre (i0, .var cs) (by simp)
  obtain ⟨hmn, hm0⟩ : hp m = none ∧ C.h0 m = none := by
    obtain ⟨q, hq, rfl⟩ := List.mem_map.1 h2
    rcases hnew q hq with ⟨hb, hmem⟩ | h
    · rcases List.mem_cons.1 hmem with he | hmem
      · cases he; exact absurd rfl hne
      · exact absurd rfl (hm _ hmem).1
    · exact h
  obtain ⟨rho1, S⟩ := R.ghostVar e hi ho hmn hm0
  have hE : ∀ id, id ≠ m → id ≠ i0 → (up (up hp m (some (.row e 0 []))) i0 (some (.var (cs.set o (.row m 0 0))))) id = hp id := fun id a b => by rw [up_other _ _ b, up_other _ _ a]
  have hup : upl (up (up hp m (some (.row e 0 []))) i0 (some (.var (cs.set o (.row m 0 0))))) us = upl hp us := by
    funext id
    by_cases hid : id ∈ us.map (·.1)
    · exact upl_mem hid
    · rw [upl_or hid, upl_or hid, hE id (fun h => hid (h ▸ h2)) (fun h => hid (h ▸ h1))]
  refine (H.2 C _ w rho1 vs (fun q hq => ?_) (fun q hq => ?_) S.mem hvl (fun j s hj => (hvs j s hj).mono S.evo)).mono ?_
  · rcases List.mem_cons.1 hq with rfl | hq
    · exact up_same _ _ _
    · rcases List.mem_cons.1 hq with rfl | hq
      · show (up (up hp m _) i0 _) m = _
        rw [up_other _ _ hne, up_same]
      · rw [hE _ (hm q hq).1 (hm q hq).2]; exact hpre q (by simp [hq])
  · rcases hnew q hq with ⟨hb, hmem⟩ | ⟨a, b⟩
    · rcases List.mem_cons.1 hmem with he | hmem
      · exact .inl ⟨_, by rw [(Prod.mk.inj he).1]; exact .head _⟩
      · exact .inl ⟨hb, by simp [hmem]⟩
    · by_cases hqm : q.1 = m
      · exact .inl ⟨.row e 0 [], by rw [hqm]; simp⟩
      · refine .inr ⟨?_, b⟩
        rw [hE _ hqm (fun h => by rw [h, hi] at a; cases a)]; exact a
  · rintro e' w' ⟨v, rho', rfl, S2, hR⟩
    rw [hup] at S2 hR
    exact ⟨v, rho', rfl, S.trans S2 (Nat.le_refl _), hR⟩
theorem bneTT : (true != true) = false := rfl
theorem bneTF : (true != false) = true := rfl
theorem bneFT : (false != true) = true := rfl
theorem bneFF : (false != false) = false := rfl
end Go.Eng

/- Trimming: the things behind the first few are given up. -/
namespace Go.Eng
open Go

def τk (k j : Nat) : Option Nat := if j < k then some j else none

def keepL (τ : Nat → Option Nat) (h : Hp) : Nat → List (Option HB) → Prop
  | _, [] => True
  | _, none :: _ => False
  | j, some hb :: r => RnHo τ h (h j) (some hb) ∧ keepL τ h (j + 1) r

theorem keepL_get {τ : Nat → Option Nat} {h : Hp} : ∀ {l : List (Option HB)} {j : Nat}, keepL τ h j l → ∀ i, i < l.length → ∃ hb hb', l[i]? = some (some hb') ∧ h (j + i) = some hb ∧ RnH τ h hb hb'
  | [], j, _, i, hi => by simp at hi
  | none :: _, j, hk, i, hi => hk.elim
  | some x :: r, j, hk, i, hi => by
    cases i with
    | zero =>
      obtain ⟨a, b, g1, g2, g3⟩ := hk.1.get
      cases g2
      exact ⟨a, x, rfl, g1, g3⟩
    | succ i =>
      obtain ⟨a, b, g1, g2, g3⟩ := keepL_get hk.2 i (by simpa using hi)
      exact ⟨a, b, by simpa using g1, by rwa [show j + (i + 1) = j + 1 + i by omega], g3⟩

theorem ent_trim {n0 : Nat} {env env' : List (Nat × SV)} {h : List (Option HB)} (h' : List (Option HB)) (hn : n0 ≤ h'.length) (hk : keepL (τk h'.length) (hget h) 0 h')
    (he : ∀ p ∈ env', Rn (τk h'.length) (hget h) (lk env p.1) p.2) : Ent n0 ⟨env, h⟩ ⟨env', h'⟩ := by
  refine ent_gen (τk h'.length) hn (fun j i hj => ?_) (fun j hj => ?_) (fun j => ?_) (lk_dead_of (fun x => .dead x) he)
  · unfold τk at hj; split at hj <;> cases hj; rfl
  · unfold τk at hj; split at hj
    · cases hj
    · omega
  · by_cases hj : j < h'.length
    · obtain ⟨hb, hb', g1, g2, g3⟩ := keepL_get hk j hj
      rw [Nat.zero_add] at g2
      exact .inl ⟨hb, hb', by simp [τk, hj], g2, hget_some.2 g1, g3⟩
    · refine .inr ⟨?_, .inl (by simp [τk, hj])⟩
      unfold hget
      rw [List.getElem?_eq_none (by omega)]

/-- A row, given up, as a slice that is only read. -/
theorem rn_frz {τ : Nat → Option Nat} {h : Hp} {j e ver len : Nat} {xs : List (List RV)} (hj : h j = some (.row e ver (rvs xs))) (hτ : τ j = none) (hl : len = xs.length) (h1 : ∀ x ∈ xs, ∀ r ∈ x, r.one = true) : Rn τ h (.row j ver len) (.rv (.sl e xs)) := by
  have := fz_row (τ := τ) hj hτ (len := len) (by omega) h1
  rw [hl, List.take_length] at this
  rw [hl]; exact .fz _ _ this

theorem RO.sl_nil {w : World} {ok : Nat → Prop} {e : Nat} {v : Value} (h : RO w ok (.sl e []) v) : RO w ok .nilsl v ∨ RO w ok .slz v := by
  cases h with
  | sl _ _ a cap c h0 hc hm he hr h1 hy =>
    cases a with
    | none => have := (h0 rfl).2; subst this; exact .inl .nilsl
    | some a => exact .inr (.slz a cap hm)

/-- An empty slice is nil, or not. -/
theorem callR_split {P : Program} {f : FuncId} {e : Nat} {aas bs : List SV} {pre us : List (Nat × HB)} {sv : SV} (h1 : CallR P f (aas ++ .rv .nilsl :: bs) pre us sv) (h2 : CallR P f (aas ++ .rv .slz :: bs) pre us sv) : CallR P f (aas ++ .rv (.sl e []) :: bs) pre us sv := by
  refine ⟨h1.1, fun C hp w rho vs hpre hnew R hvl hvs => ?_⟩
  have hj := hvs aas.length (.rv (.sl e [])) (by simp)
  have key : ∀ r : RV, RO w (okk C rho hp) r (vs.getD aas.length undef) → ∀ (j : Nat) (s : SV), (aas ++ .rv r :: bs)[j]? = some s → Rp w (okk C rho hp) rho hp s (vs.getD j undef) := fun r hr j s hs => by
    by_cases he : j = aas.length
    · subst he
      simp at hs
      subst hs
      exact .rv _ _ hr
    · refine hvs j s ?_
      by_cases hlt : j < aas.length
      · rw [List.getElem?_append_left hlt] at hs ⊢; exact hs
      · rw [List.getElem?_append_right (by omega)] at hs ⊢
        obtain ⟨k, hk⟩ : ∃ k, j - aas.length = k + 1 := ⟨j - aas.length - 1, by omega⟩
        rw [hk, List.getElem?_cons_succ] at hs ⊢
        exact hs
  cases hj with
  | rv _ _ hr =>
    rcases RO.sl_nil hr with hr | hr
    · exact h1.2 C hp w rho vs hpre hnew R (by simpa using hvl) (key _ hr)
    · exact h2.2 C hp w rho vs hpre hnew R (by simpa using hvl) (key _ hr)
end Go.Eng

/- Splitting on conditions: with a hypothesis for each way. -/
namespace Go.Eng
open Go

section
variable {P : Program} {n0 : Nat} {k : List It} {K : Ex → St → Prop} {env : List (Nat × SV)} {h : List (Option HB)}

theorem cdT {a b : AC} : condI P n0 a b k K env h (.rv (.bool true)) = G P n0 (.c a :: k) K env h := rfl
theorem cdF {a b : AC} : condI P n0 a b k K env h (.rv (.bool false)) = G P n0 (.c b :: k) K env h := rfl
theorem cdS {a b : AC} {t : Bool} (h1 : t = true → G P n0 (.c a :: k) K env h) (h2 : t = false → G P n0 (.c b :: k) K env h) : condI P n0 a b k K env h (.rv (.bool t)) := by
  cases t
  · exact h2 rfl
  · exact h1 rfl

section
variable {ao : AO} {xs : List XO} {dst : Option Nat} {r : List AOp} {bef : List Nat} {acc : List TE} {rds : List Nat}
theorem gdTT : guardI P n0 true ao xs dst r k K env h (.rv (.bool true)) = opI P n0 ao (xs.map (evX (lk env))) dst r k K env h := rfl
theorem gdTF : guardI P n0 true ao xs dst r k K env h (.rv (.bool false)) = G P n0 (.o r :: k) K (putE dst (.tup []) env) h := rfl
theorem gdFT : guardI P n0 false ao xs dst r k K env h (.rv (.bool true)) = G P n0 (.o r :: k) K (putE dst (.tup []) env) h := rfl
theorem gdFF : guardI P n0 false ao xs dst r k K env h (.rv (.bool false)) = opI P n0 ao (xs.map (evX (lk env))) dst r k K env h := rfl
theorem gdU {b : Bool} : guardI P n0 b ao xs dst r k K env h (.tup []) = G P n0 (.o r :: k) K (putE dst (.tup []) env) h := rfl
theorem gddU {b : Bool} : guarddI P n0 bef acc rds b ao xs dst r k K env h (.tup []) = G P n0 (.d bef (acc ++ [⟨rds, dst, [], []⟩]) r :: k) K (putE dst (.tup []) env) h := rfl
theorem gdS {b t : Bool} (h1 : t = b → opI P n0 ao (xs.map (evX (lk env))) dst r k K env h) (h2 : t = !b → G P n0 (.o r :: k) K (putE dst (.tup []) env) h) : guardI P n0 b ao xs dst r k K env h (.rv (.bool t)) := by
  cases t <;> cases b <;> first | exact h1 rfl | exact h2 rfl
theorem gddTT : guarddI P n0 bef acc rds true ao xs dst r k K env h (.rv (.bool true)) = opdI P n0 bef acc rds ao (xs.map (evX (lk env))) dst r k K env h := rfl
theorem gddTF : guarddI P n0 bef acc rds true ao xs dst r k K env h (.rv (.bool false)) = G P n0 (.d bef (acc ++ [⟨rds, dst, [], []⟩]) r :: k) K (putE dst (.tup []) env) h := rfl
theorem gddFT : guarddI P n0 bef acc rds false ao xs dst r k K env h (.rv (.bool true)) = G P n0 (.d bef (acc ++ [⟨rds, dst, [], []⟩]) r :: k) K (putE dst (.tup []) env) h := rfl
theorem gddFF : guarddI P n0 bef acc rds false ao xs dst r k K env h (.rv (.bool false)) = opdI P n0 bef acc rds ao (xs.map (evX (lk env))) dst r k K env h := rfl
theorem gddS {b t : Bool} (h1 : t = b → opdI P n0 bef acc rds ao (xs.map (evX (lk env))) dst r k K env h) (h2 : t = !b → G P n0 (.d bef (acc ++ [⟨rds, dst, [], []⟩]) r :: k) K (putE dst (.tup []) env) h) : guarddI P n0 bef acc rds b ao xs dst r k K env h (.rv (.bool t)) := by
  cases t <;> cases b <;> first | exact h1 rfl | exact h2 rfl
end
end
theorem pkT {x y : SV} : pickE [.rv (.bool true), x, y] = some (True, x, none, []) := rfl
theorem pkF {x y : SV} : pickE [.rv (.bool false), x, y] = some (True, y, none, []) := rfl
theorem beqD {x y : Int} : (x == y) = decide (x = y) := rfl
theorem wrapN {m : Int} (h1 : 0 ≤ m) (h2 : m ≤ 4611686018427387904) : IntKind.i64.wrap (0 - m) = -m := by rw [wrap_i64 (by omega) (by omega)]; omega

theorem callR_nil {P : Program} {f : FuncId} {args : List SV} {pre us : List (Nat × HB)} (e : Nat) (h : CallR P f args pre us (.rv .nilsl)) : CallR P f args pre us (.rv (.sl e [])) := by
  refine ⟨h.1, fun C hp w rho vs a b c d f => (h.2 C hp w rho vs a b c d f).mono ?_⟩
  rintro e w' ⟨v, rho', rfl, S, hR⟩
  refine ⟨v, rho', rfl, S, ?_⟩
  cases hR with
  | rv _ _ hr =>
    cases hr
    exact .rv _ _ (.sl _ [] none 0 (fun _ _ => undef) (fun _ => ⟨rfl, rfl⟩) (by simp) (by simp [maxLen]) (by simp) (fun i x j y hx => by simp at hx) (fun i x j y hx => by simp at hx) (fun i x j y hx => by simp at hx))

/-- Calls that are handed things of the caller's, of any shape. -/
theorem callR_N {P : Program} {f : FuncId} {N : Nat} {ac : AC} {rs : List RR} (H : FnOK P f N ac rs) (σ : List Nat) (hbs hbs' : List HB) (args0 args : List SV) (us : List (Nat × HB)) (sv : SV) (hN : args.length ≤ N) (hA : BkAll (fun j => σ[j]?) args0 args) (hl : hbs.length = σ.length) (hnd : nodupL (σ.map some)) (g1 : hbs.length = hbs'.length)
    (g2 : ∀ (j : Nat) (x y : HB), hbs[j]? = some x → hbs'[j]? = some y → BkH (fun j => σ[j]?) x y)
    (hrun : ∀ K : Ex → St → Prop, (∀ env h env' h' τn, Ent σ.length ⟨env, h⟩ ⟨env', h'⟩ → retM σ (σ.zip hbs') us rs sv env' h' τn → K .normal ⟨env, h⟩ ∧ K .ret ⟨env, h⟩) → G P σ.length [.c ac] K (mkEnv 0 args0) (hbs.map some)) : CallR P f args (σ.zip hbs') us sv := by
  refine callR_of H σ (hbs.map some) args0 hN (bkAll_iff.1 hA) (by simpa using hl) (fun i j id h1 h2 => nodupL_inj hnd i j id (by simp [h1]) (by simp [h2])) (fun j id hj => ?_) (fun K hK => hrun K (fun env h env' h' τn hE hr => hK env h env' h' _ hE (fin_retM hr)))
  have hlt := (List.getElem?_eq_some_iff.1 hj).1
  have h1 := List.getElem?_eq_getElem (l := hbs) (i := j) (by omega)
  have h2 := List.getElem?_eq_getElem (l := hbs') (i := j) (by omega)
  refine ⟨_, _, by rw [List.getElem?_map, h1]; rfl, ?_, g2 j _ _ h1 h2⟩
  have hz : (σ.zip hbs')[j]? = some (id, hbs'[j]'(by omega)) := by
    rw [List.getElem?_zip_eq_some]; exact ⟨hj, h2⟩
  exact List.mem_of_getElem? hz

theorem callR_pre {P : Program} {f : FuncId} {args : List SV} {pre pre' us : List (Nat × HB)} {sv : SV} (h : CallR P f args pre us sv) (hp : ∀ q, q ∈ pre ↔ q ∈ pre') : CallR P f args pre' us sv :=
  ⟨h.1, fun C hp0 w rho vs a b c d e => h.2 C hp0 w rho vs (fun q hq => a q ((hp q).1 hq)) (fun q hq => (b q hq).imp (fun ⟨hb, hm⟩ => ⟨hb, (hp _).2 hm⟩) id) c d e⟩

/-- A row of pointers into one thing. -/
def ptrs (i : Nat) (os : List Nat) : List (List SV) := os.map fun o => [.ptr i o]
theorem ptrs_len {i : Nat} {os : List Nat} : (ptrs i os).length = os.length := by simp [ptrs]
theorem rn_ptrs {τ : Nat → Option Nat} {h : Hp} {i j : Nat} {os : List Nat} (hτ : τ i = some j) : RnRows τ h (ptrs i os) (ptrs j os) := by
  refine ⟨by simp [ptrs], fun k x y hx hy => ?_⟩
  unfold ptrs at hx hy
  rw [List.getElem?_map] at hx hy
  cases hk : os[k]? with
  | none => simp [hk] at hx
  | some o =>
    simp [hk] at hx hy
    subst hx; subst hy
    exact rnAll_iff.1 ⟨.ptr _ _ _ hτ, trivial⟩
theorem bk_ptrs {σ : Nat → Option Nat} {i j e v : Nat} {os : List Nat} (hσ : σ i = some j) : BkH σ (.row e v (ptrs i os)) (.row e v (ptrs j os)) := by
  refine .row _ _ _ _ (by simp [ptrs]) (fun k x y hx hy => ?_)
  unfold ptrs at hx hy
  rw [List.getElem?_map] at hx hy
  cases hk : os[k]? with
  | none => simp [hk] at hx
  | some o =>
    simp [hk] at hx hy
    subst hx; subst hy
    exact bkAll_iff.1 ⟨.ptr _ _ _ hσ, trivial⟩
theorem bk_varR {σ : Nat → Option Nat} {rs : List RV} : BkH σ (.var (rs.map .rv)) (.var (rs.map .rv)) := .var _ _ (bkAll_iff.1 (bkAll_map.2 trivial))
theorem bk_varA {σ : Nat → Option Nat} {xs ys : List SV} (h : BkAll σ xs ys) : BkH σ (.var xs) (.var ys) := .var _ _ (bkAll_iff.1 h)
theorem all3 {p : Nat → HB → HB → Prop} {a a' b b' c c' : HB} (h0 : p 0 a a') (h1 : p 1 b b') (h2 : p 2 c c') : ∀ (j : Nat) (x y : HB), [a, b, c][j]? = some x → [a', b', c'][j]? = some y → p j x y := by
  intro j x y hx hy
  match j with
  | 0 => simp at hx hy; subst hx; subst hy; exact h0
  | 1 => simp at hx hy; subst hx; subst hy; exact h1
  | 2 => simp at hx hy; subst hx; subst hy; exact h2
  | j + 3 => simp at hx
/-- Calls that take pure values, of any shape, and give pure values: all that is new is given up. -/
theorem callR_G {P : Program} {f : FuncId} {N : Nat} {ac : AC} {rs : List RR} (H : FnOK P f N ac rs) (args : List SV) (sv : SV) (hN : args.length ≤ N) (hA : BkAll (fun j => ([] : List Nat)[j]?) args args)
    (hrun : ∀ K : Ex → St → Prop, (∀ env h, retP (fun _ => none) (hget h) sv (resL (lk env) (hget h) rs) → K .normal ⟨env, h⟩ ∧ K .ret ⟨env, h⟩) → G P 0 [.c ac] K (mkEnv 0 args) []) : CallR P f args [] [] sv := by
  refine callR_of H [] [] args hN (bkAll_iff.1 hA) rfl (by simp) (by simp) (fun K hK => hrun K (fun env h hr => ?_))
  unfold retP at hr
  split at hr
  · rename_i p xs hres
    exact hK env h env h (fun _ => none) (ent_refl _ _) ⟨by simp, by simp, by simp, by simp, by simp, p, xs, hres, hr.1, hr.2⟩
  · exact hr.elim

theorem ret_t {τ : Nat → Option Nat} {h : Hp} {env : List (Nat × SV)} {n : Nat} {r : RV} (hl : lk env n = .rv r) : retP τ h (.rv r) (resL (lk env) h [.t n]) := by
  simp [resL, retP, resT, hl, rn_rv]
theorem ret_t2 {τ : Nat → Option Nat} {h : Hp} {env : List (Nat × SV)} {n m : Nat} {r q : RV} (hl : lk env n = .rv r) (hm : lk env m = .rv q) : retP τ h (.tup [.rv r, .rv q]) (resL (lk env) h [.t n, .t m]) := by
  simp [resL, retP, resT, hl, hm, rn_rv, rn_tup, RnAll]
theorem fzAll_map {τ : Nat → Option Nat} {h : Hp} : ∀ (bs : List RV), FzAll τ h (bs.map .rv) bs
  | [] => trivial
  | b :: bs => ⟨.rv b, fzAll_map bs⟩

/-- A row of the caller's own, lent to a call that only reads it. -/
theorem lend1 {P : Program} {f : FuncId} {e id v n : Nat} {xs : List (List RV)} {bs : List RV} {r : RV} (H : CallR P f (.rv (.sl e xs) :: bs.map .rv) [] [] (.rv r)) (hf : FlatR r) (hn : n = xs.length) (h1 : ∀ x ∈ xs, ∀ r ∈ x, r.one = true) :
    CallR P f (.row id v n :: bs.map .rv) [(id, .row e v (rvs xs))] [] (.rv r) := by
  refine callR_lend (rs := .sl e xs :: bs) H (fun hp hpre => ⟨?_, ?_⟩) (by simp) (.rv _ hf) (by simp)
  · have := fz_row (h := hp) (τ := fun _ => none) (j := id) (e := e) (ver := v) (len := n) (xs := xs) (hpre _ (.head _)) rfl (by omega) h1
    rwa [hn, List.take_length, ← hn] at this
  · exact fzAll_map bs
end Go.Eng

/- Nil slices within rows as rows without elements; giving up what a call leaves. -/
namespace Go.Eng
open Go

theorem ent_ghostv {n0 : Nat} {env : List (Nat × SV)} {h : List (Option HB)} (n e v : Nat) (hn : lk env n = .rv .nilsl) : Ent n0 ⟨env, h⟩ ⟨(n, .row h.length v 0) :: env, h ++ [some (.row e v [])]⟩ := by
  intro C a w R
  obtain ⟨⟨rho, RF⟩, h1, h0⟩ := R
  have hnone : hget h h.length = none := by unfold hget; rw [List.getElem?_eq_none (Nat.le_refl _)]
  have hC0 : C.h0 h.length = none := h0 _ h1
  have S := RF.mem.ghost h.length e v (.inl ⟨hnone, hC0⟩)
  have RF' := RF.step S
  have hh : hget (h ++ [some (.row e v [])]) = up (hget h) h.length (some (.row e v [])) := by
    have := hget_uph (h := h) (q := (h.length, .row e v [])) (Nat.le_refl _)
    rw [← this]
    unfold uph; rw [if_pos rfl]
  have hv := RF.env n
  rw [hn] at hv
  refine ⟨⟨up rho h.length none, ?_, fun m => ?_, RF'.size, RF'.defers⟩, ?_, h0⟩
  · show RepH C (hget (h ++ [some (.row e v [])])) w (up rho h.length none)
    rw [hh]; exact RF'.mem
  · show Rp w (okk C (up rho h.length none) (hget (h ++ [some (.row e v [])]))) (up rho h.length none) (hget (h ++ [some (.row e v [])])) (lk ((n, .row h.length v 0) :: env) m) _
    rw [hh, lk_put]
    by_cases hm : m = n
    · subst hm
      rw [up_same]
      cases hv with
      | rv _ _ hr =>
        generalize a.tmps.getD m undef = v at hr
        cases hr
        refine .row _ _ _ _ rfl (by rw [up_same]; rfl) (fun e ver0 xs hx => by rw [up_same] at hx; cases hx; exact Nat.le_refl _) (fun e xs hx => .inl ⟨up_same _ _ _, rfl, rfl⟩)
    · rw [up_other _ _ hm]; exact RF'.env m
  · show n0 ≤ (h ++ [some (HB.row e v [])]).length
    have h1' : n0 ≤ h.length := h1
    simp; omega

/-- A nil slice within a row as a row without elements. -/
theorem RepH.ghostRow {C : Ctx} {hp : Hp} {w : World} {rho : Nat → Option Nat} (R : RepH C hp w rho) {i0 m k v : Nat} {xs : List (List SV)} (e : Nat) (hi : hp i0 = some (.row 1 v xs)) (ho : xs[k]? = some [.rv .nilsl]) (hm : hp m = none) (hm0 : C.h0 m = none) :
    ∃ rho', Step C hp (up (up hp m (some (.row e 0 []))) i0 (some (.row 1 v (xs.set k [.row m 0 0])))) w w rho rho' := by
  have S := R.ghost m e 0 (.inl ⟨hm, hm0⟩)
  have hne : i0 ≠ m := fun h => by subst h; rw [hm] at hi; cases hi
  have hi' : (up hp m (some (.row e 0 []))) i0 = some (.row 1 v xs) := by rw [up_other _ _ hne]; exact hi
  rcases S.mem.heap i0 _ hi' with ⟨_, e', ver, hc⟩ | ⟨b, cur, t, h1, h2, h3⟩
  · cases hc; simp at ho
  · have S2 := S.mem.replace i0 (.row 1 v (xs.set k [.row m 0 0])) b cur t rfl rfl rfl (Nat.le_refl _) h2 (fun k _ _ => rfl) (.inl ⟨by rw [hi']; rfl, h1⟩) (fun hb hq => by
      rw [hi'] at hq; cases hq
      exact ⟨Nat.le_refl _, fun _ => ⟨rfl, h1.symm, fun b' _ cur t hc => ⟨cur, t, hc, rfl⟩⟩⟩) (fun hq => by rw [hi'] at hq; cases hq) ⟨fun x hx => by
      rcases List.mem_or_eq_of_mem_set hx with h | h
      · exact h3.1 x h
      · rw [h]; rfl, by rw [List.length_set]; exact h3.2.1, fun i x hx => by
      rw [List.getElem?_set] at hx
      split at hx
      · rename_i hik
        subst hik
        split at hx
        · cases hx
          intro j y hy
          cases j with
          | succ j => simp at hy
          | zero =>
            simp at hy
            subst hy
            obtain ⟨u, v1, v2, v3⟩ := h3.2.2 _ _ ho 0 _ rfl
            refine ⟨u, v1, v2, ?_⟩
            cases v3 with
            | rv _ _ hr =>
              cases hr
              exact .row _ _ _ _ rfl (by rw [up_same]; rfl) (fun e ver0 xs hx => by rw [up_same] at hx; cases hx; exact Nat.le_refl _) (fun e xs hx => .inl ⟨up_same _ _ _, rfl, rfl⟩)
        · cases hx
      · exact h3.2.2 i x hx⟩
    exact ⟨_, S.trans S2 (Nat.le_refl _)⟩

def ghRows (n : Nat) (e : Nat) : List (Option HB) := List.replicate n (some (.row e 0 []))
/-- A row of nil slices, k of them taken as rows. -/
def ghTab (b n k : Nat) : List (List SV) := (List.range n).map fun p => if p < k then [.row (b + p) 0 0] else [.rv .nilsl]

theorem ent_ghosts1 {n0 : Nat} {env : List (Nat × SV)} {h : List (Option HB)} {r v n e k : Nat} (hr : h[r]? = some (some (.row 1 v (ghTab h.length n k)))) (hk : k < n) :
    Ent n0 ⟨env, h ++ ghRows k e⟩ ⟨env, (h.set r (some (.row 1 v (ghTab h.length n (k + 1))))) ++ ghRows (k + 1) e⟩ := by
  intro C a w R
  obtain ⟨⟨rho, RF⟩, h1, h0⟩ := R
  have hrl : r < h.length := (List.getElem?_eq_some_iff.1 hr).1
  have hlen : (h ++ ghRows k e).length = h.length + k := by simp [ghRows]
  have hnone : hget (h ++ ghRows k e) (h.length + k) = none := by unfold hget; rw [List.getElem?_eq_none (by rw [hlen]; exact Nat.le_refl _)]
  have hC0 : C.h0 (h.length + k) = none := h0 _ (by have : n0 ≤ (h ++ ghRows k e).length := h1; omega)
  have hi : hget (h ++ ghRows k e) r = some (.row 1 v (ghTab h.length n k)) := by
    unfold hget; rw [List.getElem?_append_left hrl, hr]
  have ho : (ghTab h.length n k)[k]? = some [.rv .nilsl] := by simp [ghTab, hk]
  have M : RepH C (hget (h ++ ghRows k e)) w rho := RF.mem
  obtain ⟨rho', S⟩ := M.ghostRow e hi ho hnone hC0
  have hset : (ghTab h.length n k).set k [.row (h.length + k) 0 0] = ghTab h.length n (k + 1) := by
    refine List.ext_getElem (by simp [ghTab]) (fun i a1 a2 => ?_)
    simp only [List.getElem_set, ghTab, List.getElem_map, List.getElem_range]
    by_cases hik : k = i
    · subst hik; simp
    · rw [if_neg hik]
      by_cases hlt : i < k
      · rw [if_pos hlt, if_pos (by omega)]
      · rw [if_neg hlt, if_neg (by omega)]
  have hh : hget ((h.set r (some (.row 1 v (ghTab h.length n (k + 1))))) ++ ghRows (k + 1) e) = up (up (hget (h ++ ghRows k e)) (h.length + k) (some (.row e 0 []))) r (some (.row 1 v ((ghTab h.length n k).set k [.row (h.length + k) 0 0]))) := by
    rw [hset]
    funext j
    unfold hget up
    by_cases hj : j = r
    · subst hj
      rw [if_pos rfl, List.getElem?_append_left (by simpa using hrl), List.getElem?_set]
      simp [hrl]
    · rw [if_neg hj]
      by_cases hjk : j = h.length + k
      · subst hjk
        rw [if_pos rfl, List.getElem?_append_right (by simp)]
        simp [ghRows]
      · rw [if_neg hjk]
        dsimp only
        by_cases hjl : j < h.length
        · rw [List.getElem?_append_left (by simpa using hjl), List.getElem?_append_left hjl, List.getElem?_set_ne (Ne.symm hj)]
        · rw [List.getElem?_append_right (by simp; omega), List.getElem?_append_right (by omega)]
          simp only [List.length_set, ghRows, List.getElem?_replicate]
          by_cases hjk2 : j - h.length < k
          · rw [if_pos (by omega), if_pos hjk2]
          · rw [if_neg (by omega), if_neg hjk2]
  have RF' := RF.step S
  refine ⟨⟨rho', ?_, fun m => ?_, RF'.size, RF'.defers⟩, ?_, h0⟩
  · show RepH C (hget _) w rho'
    rw [hh]; exact RF'.mem
  · show Rp w (okk C rho' (hget _)) rho' (hget _) _ _
    rw [hh]; exact RF'.env m
  · show n0 ≤ ((h.set r _) ++ ghRows (k + 1) e).length
    have : n0 ≤ (h ++ ghRows k e).length := h1
    simp [ghRows] at this ⊢; omega

theorem ent_ghosts {n0 : Nat} {env : List (Nat × SV)} {h : List (Option HB)} {r v n e : Nat} (hr : h[r]? = some (some (.row 1 v (List.replicate n [.rv .nilsl])))) :
    Ent n0 ⟨env, h⟩ ⟨env, (h.set r (some (.row 1 v (ghTab h.length n n)))) ++ ghRows n e⟩ := by
  have hrl : r < h.length := (List.getElem?_eq_some_iff.1 hr).1
  have hz : ghTab h.length n 0 = List.replicate n [.rv .nilsl] := by
    refine List.ext_getElem (by simp [ghTab]) (fun i h1 h2 => ?_)
    simp [ghTab]
  have key : ∀ k, k ≤ n → Ent n0 ⟨env, h⟩ ⟨env, (h.set r (some (.row 1 v (ghTab h.length n k)))) ++ ghRows k e⟩ := by
    intro k
    induction k with
    | zero =>
      intro _
      have : h.set r (some (.row 1 v (ghTab h.length n 0))) = h := by
        rw [hz]
        refine List.ext_getElem? (fun i => ?_)
        rw [List.getElem?_set]
        by_cases hi : r = i
        · subst hi; rw [if_pos rfl, if_pos hrl, hr]
        · rw [if_neg hi]
      rw [this]
      simpa [ghRows] using ent_refl n0 ⟨env, h⟩
    | succ k ih =>
      intro hk
      refine (ih (by omega)).trans ?_
      have hl : (h.set r (some (.row 1 v (ghTab h.length n k)))).length = h.length := by simp
      have := ent_ghosts1 (n0 := n0) (env := env) (h := h.set r (some (.row 1 v (ghTab h.length n k)))) (r := r) (v := v) (n := n) (e := e) (k := k) (by rw [hl, List.getElem?_set]; simp [hrl]) (by omega)
      rw [hl, List.set_set] at this
      exact this
  exact key n (Nat.le_refl _)

end Go.Eng

/- Things at the end given up. -/
namespace Go.Eng
open Go

/-- A value leads only to the first n things. -/
inductive ClS (n : Nat) : SV → Prop where
  | dead : ClS n .dead
  | rv (r : RV) : ClS n (.rv r)
  | ptr (id off : Nat) (h : id < n) : ClS n (.ptr id off)
  | ept (id ver i off : Nat) (h : id < n) : ClS n (.ept id ver i off)
  | row (id ver len : Nat) (h : id < n) : ClS n (.row id ver len)
  | win (id ver off len : Nat) (h : id < n) : ClS n (.win id ver off len)
  | agg (cs : List SV) (h : ∀ (j : Nat) (y : SV), cs[j]? = some y → ClS n y) : ClS n (.agg cs)
  | tup (cs : List SV) (h : ∀ (j : Nat) (y : SV), cs[j]? = some y → ClS n y) : ClS n (.tup cs)
  | fn (f : FuncId) (cs : List SV) (h : ∀ (j : Nat) (y : SV), cs[j]? = some y → ClS n y) : ClS n (.fn f cs)
  | ifc (t : TypeId) (x : SV) (h : ClS n x) : ClS n (.ifc t x)

theorem ClS.rn {n : Nat} {h : Hp} {x : SV} (hc : ClS n x) : Rn (τk n) h x x := by
  induction hc with
  | dead => exact .dead _
  | rv r => exact .fz _ _ (.rv r)
  | ptr id off h => exact .ptr _ _ _ (by simp [τk, h])
  | ept id ver i off h => exact .ept _ _ _ _ _ (by simp [τk, h])
  | row id ver len h => exact .row _ _ _ _ (by simp [τk, h])
  | win id ver off len h => exact .win _ _ _ _ _ (by simp [τk, h])
  | agg cs h ih => exact .agg _ _ rfl (fun i x y hx hy => by rw [hx] at hy; cases hy; exact ih i x hx)
  | tup cs h ih => exact .tup _ _ rfl (fun i x y hx hy => by rw [hx] at hy; cases hy; exact ih i x hx)
  | fn f cs h ih => exact .fn _ _ _ rfl (fun i x y hx hy => by rw [hx] at hy; cases hy; exact ih i x hx)
  | ifc t x h ih => exact .ifc _ _ _ ih

def ClA (n : Nat) : List SV → Prop
  | [] => True
  | x :: r => ClS n x ∧ ClA n r
theorem ClA.get {n : Nat} : ∀ {l : List SV}, ClA n l → ∀ (j : Nat) (y : SV), l[j]? = some y → ClS n y
  | [], _, j, y, h => by simp at h
  | x :: r, hc, j, y, h => by
    cases j with
    | zero => simp at h; subst h; exact hc.1
    | succ j => exact hc.2.get j y (by simpa using h)
theorem clS_rv {n : Nat} {r : RV} : ClS n (.rv r) ↔ True := ⟨fun _ => trivial, fun _ => .rv r⟩
theorem clS_ptr {n i o : Nat} : ClS n (.ptr i o) ↔ i < n := ⟨fun h => by cases h; assumption, fun h => .ptr _ _ h⟩
theorem clS_row {n i v l : Nat} : ClS n (.row i v l) ↔ i < n := ⟨fun h => by cases h; assumption, fun h => .row _ _ _ h⟩
theorem clA_map {n : Nat} {rs : List RV} : ClA n (rs.map .rv) := by
  induction rs with
  | nil => trivial
  | cons r rs ih => exact ⟨.rv r, ih⟩

def ClH (n : Nat) : HB → Prop
  | .var cs => ClA n cs
  | .row _ _ xs => ∀ (i : Nat) (x : List SV), xs[i]? = some x → ClA n x
theorem clH_rvs {n e v : Nat} {xs : List (List RV)} : ClH n (.row e v (rvs xs)) := fun i x hx => by
  unfold rvs at hx
  rw [List.getElem?_map] at hx
  cases hq : xs[i]? with
  | none => simp [hq] at hx
  | some z => simp [hq] at hx; subst hx; exact clA_map

theorem ClH.rn {n : Nat} {h : Hp} {hb : HB} (hc : ClH n hb) : RnH (τk n) h hb hb := by
  cases hb with
  | var cs => exact .var _ _ ⟨rfl, fun i x y hx hy => by rw [hx] at hy; cases hy; exact (ClA.get hc i x hx).rn⟩
  | row e v xs => exact .row _ _ _ _ rfl (fun i x y hx hy => by
      rw [hx] at hy; cases hy
      exact ⟨rfl, fun j a b ha hb => by rw [ha] at hb; cases hb; exact (ClA.get (hc i x hx) j a ha).rn⟩)

def ClEnv (n : Nat) (env : List (Nat × SV)) : List (Nat × SV) → Prop
  | [] => True
  | (m, v) :: r => (v = .dead ∨ lk env m = v ∧ ClS n v) ∧ ClEnv n env r
theorem ClEnv.get {n : Nat} {env : List (Nat × SV)} : ∀ {env' : List (Nat × SV)}, ClEnv n env env' → ∀ p ∈ env', p.2 = .dead ∨ lk env p.1 = p.2 ∧ ClS n p.2
  | [], _, p, hp => by simp at hp
  | (m, v) :: r, h, p, hp => by
    rcases List.mem_cons.1 hp with rfl | hp
    · exact h.1
    · exact h.2.get p hp

def AllSome (P : HB → Prop) : List (Option HB) → Prop
  | [] => True
  | some hb :: r => P hb ∧ AllSome P r
  | none :: _ => False
theorem AllSome.get {P : HB → Prop} : ∀ {l : List (Option HB)}, AllSome P l → ∀ j, j < l.length → ∃ hb, l[j]? = some (some hb) ∧ P hb
  | [], _, j, hj => by simp at hj
  | some hb :: r, h, j, hj => by
    cases j with
    | zero => exact ⟨hb, rfl, h.1⟩
    | succ j => obtain ⟨x, a, b⟩ := h.2.get j (by simpa using hj); exact ⟨x, by simpa using a, b⟩
  | none :: r, h, _, _ => h.elim
theorem AllSome.of {P : HB → Prop} : ∀ {l : List (Option HB)}, (∀ (j : Nat) (x : Option HB), l[j]? = some x → ∃ hb, x = some hb ∧ P hb) → AllSome P l
  | [], _ => trivial
  | x :: r, h => by
    obtain ⟨hb, rfl, hp⟩ := h 0 x rfl
    exact ⟨hp, AllSome.of fun j y hy => h (j + 1) y (by simpa using hy)⟩

/-- What stands behind the first things is given up; none of the first leads there. -/
theorem ent_tail {n0 : Nat} {env env' : List (Nat × SV)} {h' C : List (Option HB)} (hn : n0 ≤ h'.length) (hC : AllSome (ClH h'.length) h') (he : ClEnv h'.length env env') : Ent n0 ⟨env, h' ++ C⟩ ⟨env', h'⟩ := by
  refine ent_gen (τk h'.length) hn (fun j i hj => ?_) (fun j hj => ?_) (fun j => ?_) (lk_dead_of (fun x => .dead x) (fun p hp => ?_))
  · unfold τk at hj; split at hj <;> cases hj; rfl
  · unfold τk at hj; split at hj
    · cases hj
    · omega
  · by_cases hj : j < h'.length
    · obtain ⟨hb, g1, g2⟩ := hC.get j hj
      exact .inl ⟨hb, hb, by simp [τk, hj], hget_some.2 (by rw [List.getElem?_append_left hj]; exact g1), hget_some.2 g1, g2.rn⟩
    · refine .inr ⟨?_, .inl (by simp [τk, hj])⟩
      unfold hget
      rw [List.getElem?_eq_none (by omega)]
  · rcases he.get p hp with h | ⟨h1, h2⟩
    · rw [h]; exact .dead _
    · rw [h1]; exact h2.rn
/-- Cells of a type, not to be unfolded. -/
structure TyC (P : Program) (n : Nat) (t : TypeId) (rs : List RV) : Prop where
  ty : tyC P n t rs
theorem tyFs_mono {P : Program} {f g : TypeId → List RV → Prop} (h : ∀ t rs, f t rs → g t rs) : ∀ {fs : List Field} {rs : List RV}, tyFs P f fs rs → tyFs P g fs rs
  | [], _, hf => hf
  | _ :: _, _, ⟨a, b, e, h1, h2⟩ => ⟨a, b, e, h _ _ h1, tyFs_mono h h2⟩
theorem tyC_int {P : Program} {n : Nat} {t : TypeId} {k : IntKind} {rs : List RV} (hu : P.underlying t = some (.int k)) (h : TyC P (n + 1) t rs) : ∃ i, rs = [.int k i] ∧ (Lit.int k i).wf = true := by
  have h := h.ty; unfold tyC at h; simp only [hu] at h; exact h
theorem tyC_bool {P : Program} {n : Nat} {t : TypeId} {rs : List RV} (hu : P.underlying t = some .bool) (h : TyC P (n + 1) t rs) : ∃ b, rs = [.bool b] := by
  have h := h.ty; unfold tyC at h; simp only [hu] at h; exact h
theorem tyC_slice {P : Program} {n : Nat} {t e : TypeId} {rs : List RV} (hu : P.underlying t = some (.slice e)) (h : TyC P (n + 1) t rs) : ∃ xs, rs = [.sl (P.cellsOf e) xs] ∧ xs.length ≤ maxLen ∧ ∀ x ∈ xs, TyC P n e x := by
  have h := h.ty; unfold tyC at h; simp only [hu] at h
  obtain ⟨xs, h1, h2, h3⟩ := h
  exact ⟨xs, h1, h2, fun x hx => ⟨h3 x hx⟩⟩
theorem tyC_struct {P : Program} {n : Nat} {t : TypeId} {fs : Array Field} {rs : List RV} (hu : P.underlying t = some (.struct fs)) (h : TyC P (n + 1) t rs) : tyFs P (TyC P n) fs.toList rs := by
  have h := h.ty; unfold tyC at h; simp only [hu] at h
  exact tyFs_mono (fun _ _ h => ⟨h⟩) h
theorem tyC_array {P : Program} {n m : Nat} {t e : TypeId} {rs : List RV} (hu : P.underlying t = some (.array m e)) (h : TyC P (n + 1) t rs) : ∃ xs : List (List RV), rs = xs.flatten ∧ xs.length = m ∧ ∀ x ∈ xs, TyC P n e x := by
  have h := h.ty; unfold tyC at h; simp only [hu] at h
  obtain ⟨xs, h1, h2, h3⟩ := h
  exact ⟨xs, h1, h2, fun x hx => ⟨h3 x hx⟩⟩
theorem open_arg2 {P : Program} {H : Type} {enc : TypeId × Value → H} {w : World} {r : Reach} {b0 n : Nat} {t : TypeId} {v : Value} {d : DataW H} {ps : List MemPlace} (hf : flatT P n t = true) (hval : Value.okWide P w r b0 t v) (hd : DataW.Trod enc P w 0 (fun _ => true) true t v d ps) :
    ∃ rs, TyC P n t rs ∧ ∀ (ok : Nat → Prop) (rho : Nat → Option Nat) (hp : Hp), (∀ b, b < w.heap.size → ok b) → Rp w ok rho hp (argS P t rs) v := by
  obtain ⟨rs, h1, h2⟩ := open_arg hf hval hd ⟨w, fun _ => True, fun _ => True, 0, fun _ => .none, fun _ => .none⟩ (fun _ => .none)
  exact ⟨rs, ⟨h1⟩, h2⟩
theorem argS_one {P : Program} {t : TypeId} {r : RV} (h : aggT P t = some false) : argS P t [r] = .rv r := by
  unfold argS; rw [h]; rfl
theorem pre_one {hp : Hp} {a : Nat} {hb : HB} (h : hp a = some hb) : PreOK hp [(a, hb)] := fun q hq => by simp at hq; subst hq; exact h
end Go.Eng

/- The rules of the evaluation, under one name. -/
namespace Go.Eng
open Go
attribute [go_sem] g_nil g_skip g_reg g_regd g_seq g_block g_end g_cond g_ret g_exit gx_nil gx_c gx_o gx_d gx_b g_onil g_dnil g_op g_opg g_opd g_opdg callvI invI plainI opI callvdI invdI plaindI opdI opE o1 o2 ix2 loadE storeE boxE allLen bslE buildE fits fldE ixsE ixaE ixvE fldvE lenE lensE srcE appE capE appnE bnd2 bndL bndH bnd0 bndE slcE slcC allocE nilchkE isNilSV ibinE ibin ishfE ishf eqnilE eqbE notE negE cviE mkslE mxE mnE extE isNilSl isNilFn isNilIf isNilO eqniloE eqsF eqsE cellsEq cellEq sbinE sbin ifcOf tasF tasE cellsSV cellsAll layO mkEnv lk hget_zero hget_succ putE uphO uph uphL evX rdsX uIds List.map_cons List.map_nil List.length_cons List.length_nil List.length_append List.length_map List.length_set List.set_cons_zero List.set_cons_succ List.cons_append List.nil_append List.append_nil List.getElem?_cons_zero List.getElem?_cons_succ List.getElem?_nil List.take_succ_cons List.take_zero List.drop_succ_cons List.drop_zero List.drop_nil List.take_nil Option.getD_some Option.getD_none Option.map_some Option.map_none true_and and_true Nat.zero_add Nat.add_zero decide_eq_true_eq Bool.false_eq_true rvs_len rvs_get rvs_fold rvs_take rvs_append Int.toNat_natCast bneTT bneTF bneFT bneFF Bool.not_true Bool.not_false splice0 slcaE clrE chunks cdT cdF gdTT gdTF gdFT gdFF gddTT gddTF gddFT gddFF gdU gddU pkT pkF
attribute [go_sem_proc] Nat.reduceEqDiff Nat.reduceAdd Nat.reduceSub Nat.reduceMul Nat.reduceLeDiff Nat.reduceLT reduceCtorEq Int.reduceToNat
attribute [go_sem_proc ↓] reduceIte
end Go.Eng


/- Nodes and their styles, as plain values. -/
namespace Go.Eng
open Go

structure Ln where
  kind : Int
  n : Int
  deriving DecidableEq, Inhabited

structure Q4 (α : Type) where
  a : α
  b : α
  c : α
  d : α
  deriving DecidableEq, Inhabited

structure Sty where
  shown : Bool
  position : Int
  off : Q4 Ln
  width : Ln
  height : Ln
  minW : Ln
  maxW : Ln
  minH : Ln
  maxH : Ln
  margin : Q4 Ln
  pad : Q4 Ln
  border : Q4 Int
  rtl : Bool
  hasZ : Bool
  z : Int
  clip : Bool
  back : Int
  line : Int
  deriving DecidableEq, Inhabited

structure Nd where
  s : Sty
  parent : Int
  deriving DecidableEq, Inhabited

def Ln.cells (x : Ln) : List RV := [.int .i64 x.kind, .int .i64 x.n]
def Q4.lns (q : Q4 Ln) : List RV := [.int .i64 q.a.kind, .int .i64 q.a.n, .int .i64 q.b.kind, .int .i64 q.b.n, .int .i64 q.c.kind, .int .i64 q.c.n, .int .i64 q.d.kind, .int .i64 q.d.n]
def Q4.ints (q : Q4 Int) : List RV := [.int .i64 q.a, .int .i64 q.b, .int .i64 q.c, .int .i64 q.d]

def Sty.cells (s : Sty) : List RV := [.bool s.shown, .int .i64 s.position,
  .int .i64 s.off.a.kind, .int .i64 s.off.a.n, .int .i64 s.off.b.kind, .int .i64 s.off.b.n, .int .i64 s.off.c.kind, .int .i64 s.off.c.n, .int .i64 s.off.d.kind, .int .i64 s.off.d.n,
  .int .i64 s.width.kind, .int .i64 s.width.n, .int .i64 s.height.kind, .int .i64 s.height.n, .int .i64 s.minW.kind, .int .i64 s.minW.n, .int .i64 s.maxW.kind, .int .i64 s.maxW.n, .int .i64 s.minH.kind, .int .i64 s.minH.n, .int .i64 s.maxH.kind, .int .i64 s.maxH.n,
  .int .i64 s.margin.a.kind, .int .i64 s.margin.a.n, .int .i64 s.margin.b.kind, .int .i64 s.margin.b.n, .int .i64 s.margin.c.kind, .int .i64 s.margin.c.n, .int .i64 s.margin.d.kind, .int .i64 s.margin.d.n,
  .int .i64 s.pad.a.kind, .int .i64 s.pad.a.n, .int .i64 s.pad.b.kind, .int .i64 s.pad.b.n, .int .i64 s.pad.c.kind, .int .i64 s.pad.c.n, .int .i64 s.pad.d.kind, .int .i64 s.pad.d.n,
  .int .i64 s.border.a, .int .i64 s.border.b, .int .i64 s.border.c, .int .i64 s.border.d,
  .bool s.rtl, .bool s.hasZ, .int .i64 s.z, .bool s.clip, .int .i64 s.back, .int .i64 s.line]

abbrev Sty.sv (s : Sty) : SV := .agg (s.cells.map .rv)
abbrev Ln.sv (x : Ln) : SV := .agg (x.cells.map .rv)
def Nd.cells (x : Nd) : List RV := x.s.cells ++ [.int .i64 x.parent]
abbrev Nd.sv (x : Nd) : SV := .agg (x.cells.map .rv)
def ndL (l : List Nd) : List (List RV) := l.map Nd.cells

def nthQ {α : Type} (q : Q4 α) : Nat → α
  | 0 => q.a
  | 1 => q.b
  | 2 => q.c
  | _ => q.d
def Q4.list {α : Type} (q : Q4 α) : List α := [q.a, q.b, q.c, q.d]

def lensS (s : Sty) : List Ln := s.off.list ++ [s.width, s.height, s.minW, s.maxW, s.minH, s.maxH] ++ s.margin.list ++ s.pad.list
theorem lensS_len (s : Sty) : (lensS s).length = 18 := rfl
def lnL (l : List Ln) : List (List RV) := l.map Ln.cells

def lnOK (x : Ln) : Bool := (decide (x.kind = 0) && decide (x.n = 0)) || decide (x.kind = 1) || decide (x.kind = 2)
def padOK (p : Ln) (b : Int) : Bool := !(decide (p.kind = 0) || decide (p.n < 0) || decide (b < 0))
def tailOK (s : Sty) : Bool := decide (s.position ≥ 0) && decide (s.position ≤ 3) && decide (s.back ≥ 0) && decide (s.line ≥ 0) && (s.hasZ || decide (s.z = 0))
/-- Formed styles. -/
def styOK (s : Sty) : Bool := (lensS s).all lnOK && ([s.width, s.height, s.minW, s.maxW, s.minH, s.maxH].all fun x => decide (0 ≤ x.n)) &&
  (padOK s.pad.a s.border.a && padOK s.pad.b s.border.b && padOK s.pad.c s.border.c && padOK s.pad.d s.border.d) && tailOK s

def inB (n most : Int) : Bool := decide (-most ≤ n) && decide (n ≤ most)
def lnIn (x : Ln) : Bool := !((decide (x.kind = 1) && !inB x.n 1099511627776) || (decide (x.kind = 2) && !inB x.n 1000000))
/-- Styles within the limits. -/
def styIn (s : Sty) : Bool := (lensS s).all lnIn && (s.border.list.all fun n => decide (n ≤ 1099511627776)) && (inB s.z 1073741824 && decide (s.back ≤ 16777216) && decide (s.line ≤ 16777216))

theorem sty_len (s : Sty) : s.cells.length = 48 := rfl
theorem nd_len (x : Nd) : x.cells.length = 49 := rfl
theorem ndL_len (l : List Nd) : (ndL l).length = l.length := by simp [ndL]
theorem ndL_get {l : List Nd} {i : Nat} (h : i < l.length) : (ndL l)[i]?.getD [] = (l[i]'h).cells := by simp [ndL, h]
theorem lnL_len (l : List Ln) : (lnL l).length = l.length := by simp [lnL]
theorem lnL_get {l : List Ln} {i : Nat} (h : i < l.length) : (lnL l)[i]?.getD [] = (l[i]'h).cells := by simp [lnL, h]
theorem sty_at0 (s : Sty) : (s.cells.map SV.rv)[0]? = some (.rv (.bool s.shown)) := rfl
theorem sty_rd0 (s : Sty) : (s.cells.drop 0)[0]? = some (.bool s.shown) := rfl
theorem sty_at1 (s : Sty) : (s.cells.map SV.rv)[1]? = some (.rv (.int .i64 s.position)) := rfl
theorem sty_rd1 (s : Sty) : (s.cells.drop 1)[0]? = some (.int .i64 s.position) := rfl
theorem sty_at2 (s : Sty) : (s.cells.map SV.rv)[2]? = some (.rv (.int .i64 s.off.a.kind)) := rfl
theorem sty_rd2 (s : Sty) : (s.cells.drop 2)[0]? = some (.int .i64 s.off.a.kind) := rfl
theorem sty_at3 (s : Sty) : (s.cells.map SV.rv)[3]? = some (.rv (.int .i64 s.off.a.n)) := rfl
theorem sty_rd3 (s : Sty) : (s.cells.drop 3)[0]? = some (.int .i64 s.off.a.n) := rfl
theorem sty_at4 (s : Sty) : (s.cells.map SV.rv)[4]? = some (.rv (.int .i64 s.off.b.kind)) := rfl
theorem sty_rd4 (s : Sty) : (s.cells.drop 4)[0]? = some (.int .i64 s.off.b.kind) := rfl
theorem sty_at5 (s : Sty) : (s.cells.map SV.rv)[5]? = some (.rv (.int .i64 s.off.b.n)) := rfl
theorem sty_rd5 (s : Sty) : (s.cells.drop 5)[0]? = some (.int .i64 s.off.b.n) := rfl
theorem sty_at6 (s : Sty) : (s.cells.map SV.rv)[6]? = some (.rv (.int .i64 s.off.c.kind)) := rfl
theorem sty_rd6 (s : Sty) : (s.cells.drop 6)[0]? = some (.int .i64 s.off.c.kind) := rfl
theorem sty_at7 (s : Sty) : (s.cells.map SV.rv)[7]? = some (.rv (.int .i64 s.off.c.n)) := rfl
theorem sty_rd7 (s : Sty) : (s.cells.drop 7)[0]? = some (.int .i64 s.off.c.n) := rfl
theorem sty_at8 (s : Sty) : (s.cells.map SV.rv)[8]? = some (.rv (.int .i64 s.off.d.kind)) := rfl
theorem sty_rd8 (s : Sty) : (s.cells.drop 8)[0]? = some (.int .i64 s.off.d.kind) := rfl
theorem sty_at9 (s : Sty) : (s.cells.map SV.rv)[9]? = some (.rv (.int .i64 s.off.d.n)) := rfl
theorem sty_rd9 (s : Sty) : (s.cells.drop 9)[0]? = some (.int .i64 s.off.d.n) := rfl
theorem sty_at10 (s : Sty) : (s.cells.map SV.rv)[10]? = some (.rv (.int .i64 s.width.kind)) := rfl
theorem sty_rd10 (s : Sty) : (s.cells.drop 10)[0]? = some (.int .i64 s.width.kind) := rfl
theorem sty_at11 (s : Sty) : (s.cells.map SV.rv)[11]? = some (.rv (.int .i64 s.width.n)) := rfl
theorem sty_rd11 (s : Sty) : (s.cells.drop 11)[0]? = some (.int .i64 s.width.n) := rfl
theorem sty_at12 (s : Sty) : (s.cells.map SV.rv)[12]? = some (.rv (.int .i64 s.height.kind)) := rfl
theorem sty_rd12 (s : Sty) : (s.cells.drop 12)[0]? = some (.int .i64 s.height.kind) := rfl
theorem sty_at13 (s : Sty) : (s.cells.map SV.rv)[13]? = some (.rv (.int .i64 s.height.n)) := rfl
theorem sty_rd13 (s : Sty) : (s.cells.drop 13)[0]? = some (.int .i64 s.height.n) := rfl
theorem sty_at14 (s : Sty) : (s.cells.map SV.rv)[14]? = some (.rv (.int .i64 s.minW.kind)) := rfl
theorem sty_rd14 (s : Sty) : (s.cells.drop 14)[0]? = some (.int .i64 s.minW.kind) := rfl
theorem sty_at15 (s : Sty) : (s.cells.map SV.rv)[15]? = some (.rv (.int .i64 s.minW.n)) := rfl
theorem sty_rd15 (s : Sty) : (s.cells.drop 15)[0]? = some (.int .i64 s.minW.n) := rfl
theorem sty_at16 (s : Sty) : (s.cells.map SV.rv)[16]? = some (.rv (.int .i64 s.maxW.kind)) := rfl
theorem sty_rd16 (s : Sty) : (s.cells.drop 16)[0]? = some (.int .i64 s.maxW.kind) := rfl
theorem sty_at17 (s : Sty) : (s.cells.map SV.rv)[17]? = some (.rv (.int .i64 s.maxW.n)) := rfl
theorem sty_rd17 (s : Sty) : (s.cells.drop 17)[0]? = some (.int .i64 s.maxW.n) := rfl
theorem sty_at18 (s : Sty) : (s.cells.map SV.rv)[18]? = some (.rv (.int .i64 s.minH.kind)) := rfl
theorem sty_rd18 (s : Sty) : (s.cells.drop 18)[0]? = some (.int .i64 s.minH.kind) := rfl
theorem sty_at19 (s : Sty) : (s.cells.map SV.rv)[19]? = some (.rv (.int .i64 s.minH.n)) := rfl
theorem sty_rd19 (s : Sty) : (s.cells.drop 19)[0]? = some (.int .i64 s.minH.n) := rfl
theorem sty_at20 (s : Sty) : (s.cells.map SV.rv)[20]? = some (.rv (.int .i64 s.maxH.kind)) := rfl
theorem sty_rd20 (s : Sty) : (s.cells.drop 20)[0]? = some (.int .i64 s.maxH.kind) := rfl
theorem sty_at21 (s : Sty) : (s.cells.map SV.rv)[21]? = some (.rv (.int .i64 s.maxH.n)) := rfl
theorem sty_rd21 (s : Sty) : (s.cells.drop 21)[0]? = some (.int .i64 s.maxH.n) := rfl
theorem sty_at22 (s : Sty) : (s.cells.map SV.rv)[22]? = some (.rv (.int .i64 s.margin.a.kind)) := rfl
theorem sty_rd22 (s : Sty) : (s.cells.drop 22)[0]? = some (.int .i64 s.margin.a.kind) := rfl
theorem sty_at23 (s : Sty) : (s.cells.map SV.rv)[23]? = some (.rv (.int .i64 s.margin.a.n)) := rfl
theorem sty_rd23 (s : Sty) : (s.cells.drop 23)[0]? = some (.int .i64 s.margin.a.n) := rfl
theorem sty_at24 (s : Sty) : (s.cells.map SV.rv)[24]? = some (.rv (.int .i64 s.margin.b.kind)) := rfl
theorem sty_rd24 (s : Sty) : (s.cells.drop 24)[0]? = some (.int .i64 s.margin.b.kind) := rfl
theorem sty_at25 (s : Sty) : (s.cells.map SV.rv)[25]? = some (.rv (.int .i64 s.margin.b.n)) := rfl
theorem sty_rd25 (s : Sty) : (s.cells.drop 25)[0]? = some (.int .i64 s.margin.b.n) := rfl
theorem sty_at26 (s : Sty) : (s.cells.map SV.rv)[26]? = some (.rv (.int .i64 s.margin.c.kind)) := rfl
theorem sty_rd26 (s : Sty) : (s.cells.drop 26)[0]? = some (.int .i64 s.margin.c.kind) := rfl
theorem sty_at27 (s : Sty) : (s.cells.map SV.rv)[27]? = some (.rv (.int .i64 s.margin.c.n)) := rfl
theorem sty_rd27 (s : Sty) : (s.cells.drop 27)[0]? = some (.int .i64 s.margin.c.n) := rfl
theorem sty_at28 (s : Sty) : (s.cells.map SV.rv)[28]? = some (.rv (.int .i64 s.margin.d.kind)) := rfl
theorem sty_rd28 (s : Sty) : (s.cells.drop 28)[0]? = some (.int .i64 s.margin.d.kind) := rfl
theorem sty_at29 (s : Sty) : (s.cells.map SV.rv)[29]? = some (.rv (.int .i64 s.margin.d.n)) := rfl
theorem sty_rd29 (s : Sty) : (s.cells.drop 29)[0]? = some (.int .i64 s.margin.d.n) := rfl
theorem sty_at30 (s : Sty) : (s.cells.map SV.rv)[30]? = some (.rv (.int .i64 s.pad.a.kind)) := rfl
theorem sty_rd30 (s : Sty) : (s.cells.drop 30)[0]? = some (.int .i64 s.pad.a.kind) := rfl
theorem sty_at31 (s : Sty) : (s.cells.map SV.rv)[31]? = some (.rv (.int .i64 s.pad.a.n)) := rfl
theorem sty_rd31 (s : Sty) : (s.cells.drop 31)[0]? = some (.int .i64 s.pad.a.n) := rfl
theorem sty_at32 (s : Sty) : (s.cells.map SV.rv)[32]? = some (.rv (.int .i64 s.pad.b.kind)) := rfl
theorem sty_rd32 (s : Sty) : (s.cells.drop 32)[0]? = some (.int .i64 s.pad.b.kind) := rfl
theorem sty_at33 (s : Sty) : (s.cells.map SV.rv)[33]? = some (.rv (.int .i64 s.pad.b.n)) := rfl
theorem sty_rd33 (s : Sty) : (s.cells.drop 33)[0]? = some (.int .i64 s.pad.b.n) := rfl
theorem sty_at34 (s : Sty) : (s.cells.map SV.rv)[34]? = some (.rv (.int .i64 s.pad.c.kind)) := rfl
theorem sty_rd34 (s : Sty) : (s.cells.drop 34)[0]? = some (.int .i64 s.pad.c.kind) := rfl
theorem sty_at35 (s : Sty) : (s.cells.map SV.rv)[35]? = some (.rv (.int .i64 s.pad.c.n)) := rfl
theorem sty_rd35 (s : Sty) : (s.cells.drop 35)[0]? = some (.int .i64 s.pad.c.n) := rfl
theorem sty_at36 (s : Sty) : (s.cells.map SV.rv)[36]? = some (.rv (.int .i64 s.pad.d.kind)) := rfl
theorem sty_rd36 (s : Sty) : (s.cells.drop 36)[0]? = some (.int .i64 s.pad.d.kind) := rfl
theorem sty_at37 (s : Sty) : (s.cells.map SV.rv)[37]? = some (.rv (.int .i64 s.pad.d.n)) := rfl
theorem sty_rd37 (s : Sty) : (s.cells.drop 37)[0]? = some (.int .i64 s.pad.d.n) := rfl
theorem sty_at38 (s : Sty) : (s.cells.map SV.rv)[38]? = some (.rv (.int .i64 s.border.a)) := rfl
theorem sty_rd38 (s : Sty) : (s.cells.drop 38)[0]? = some (.int .i64 s.border.a) := rfl
theorem sty_at39 (s : Sty) : (s.cells.map SV.rv)[39]? = some (.rv (.int .i64 s.border.b)) := rfl
theorem sty_rd39 (s : Sty) : (s.cells.drop 39)[0]? = some (.int .i64 s.border.b) := rfl
theorem sty_at40 (s : Sty) : (s.cells.map SV.rv)[40]? = some (.rv (.int .i64 s.border.c)) := rfl
theorem sty_rd40 (s : Sty) : (s.cells.drop 40)[0]? = some (.int .i64 s.border.c) := rfl
theorem sty_at41 (s : Sty) : (s.cells.map SV.rv)[41]? = some (.rv (.int .i64 s.border.d)) := rfl
theorem sty_rd41 (s : Sty) : (s.cells.drop 41)[0]? = some (.int .i64 s.border.d) := rfl
theorem sty_at42 (s : Sty) : (s.cells.map SV.rv)[42]? = some (.rv (.bool s.rtl)) := rfl
theorem sty_rd42 (s : Sty) : (s.cells.drop 42)[0]? = some (.bool s.rtl) := rfl
theorem sty_at43 (s : Sty) : (s.cells.map SV.rv)[43]? = some (.rv (.bool s.hasZ)) := rfl
theorem sty_rd43 (s : Sty) : (s.cells.drop 43)[0]? = some (.bool s.hasZ) := rfl
theorem sty_at44 (s : Sty) : (s.cells.map SV.rv)[44]? = some (.rv (.int .i64 s.z)) := rfl
theorem sty_rd44 (s : Sty) : (s.cells.drop 44)[0]? = some (.int .i64 s.z) := rfl
theorem sty_at45 (s : Sty) : (s.cells.map SV.rv)[45]? = some (.rv (.bool s.clip)) := rfl
theorem sty_rd45 (s : Sty) : (s.cells.drop 45)[0]? = some (.bool s.clip) := rfl
theorem sty_at46 (s : Sty) : (s.cells.map SV.rv)[46]? = some (.rv (.int .i64 s.back)) := rfl
theorem sty_rd46 (s : Sty) : (s.cells.drop 46)[0]? = some (.int .i64 s.back) := rfl
theorem sty_at47 (s : Sty) : (s.cells.map SV.rv)[47]? = some (.rv (.int .i64 s.line)) := rfl
theorem sty_rd47 (s : Sty) : (s.cells.drop 47)[0]? = some (.int .i64 s.line) := rfl
theorem sty_ln10 (s : Sty) : ((s.cells.map SV.rv).drop 10).take 2 = s.width.cells.map SV.rv := rfl
theorem sty_ln12 (s : Sty) : ((s.cells.map SV.rv).drop 12).take 2 = s.height.cells.map SV.rv := rfl
theorem sty_ln14 (s : Sty) : ((s.cells.map SV.rv).drop 14).take 2 = s.minW.cells.map SV.rv := rfl
theorem sty_ln16 (s : Sty) : ((s.cells.map SV.rv).drop 16).take 2 = s.maxW.cells.map SV.rv := rfl
theorem sty_ln18 (s : Sty) : ((s.cells.map SV.rv).drop 18).take 2 = s.minH.cells.map SV.rv := rfl
theorem sty_ln20 (s : Sty) : ((s.cells.map SV.rv).drop 20).take 2 = s.maxH.cells.map SV.rv := rfl
theorem sty_ln2 (s : Sty) : ((s.cells.map SV.rv).drop 2).take 8 = s.off.lns.map SV.rv := rfl
theorem sty_ln22 (s : Sty) : ((s.cells.map SV.rv).drop 22).take 8 = s.margin.lns.map SV.rv := rfl
theorem sty_ln30 (s : Sty) : ((s.cells.map SV.rv).drop 30).take 8 = s.pad.lns.map SV.rv := rfl
theorem sty_ln38 (s : Sty) : ((s.cells.map SV.rv).drop 38).take 4 = s.border.ints.map SV.rv := rfl
theorem sty_all2 (s : Sty) : (s.cells.map SV.rv).take 48 = s.cells.map SV.rv := rfl
theorem sty_all (s : Sty) : ((s.cells.map SV.rv).drop 0).take 48 = s.cells.map SV.rv := rfl

theorem all_next {α : Type} {p : α → Bool} {l : List α} {k : Nat} (h : k < l.length) (hk : (l.drop k).all p = l.all p) (hp : p (l[k]'h) = true) : (l.drop (k + 1)).all p = l.all p := by
  rw [← hk, List.drop_eq_getElem_cons h, List.all_cons, hp, Bool.true_and]
theorem all_fail {α : Type} {p : α → Bool} {l : List α} {k : Nat} (h : k < l.length) (hk : (l.drop k).all p = l.all p) (hp : p (l[k]'h) = false) : l.all p = false := by
  rw [← hk, List.drop_eq_getElem_cons h, List.all_cons, hp, Bool.false_and]
theorem all_done {α : Type} {p : α → Bool} {l : List α} {k : Nat} (h : l.length ≤ k) (hk : (l.drop k).all p = l.all p) : l.all p = true := by
  rw [← hk, List.drop_of_length_le h]; rfl
theorem nd_atp (x : Nd) : (x.cells.map SV.rv)[48]? = some (.rv (.int .i64 x.parent)) := rfl
theorem nd_sv48 (x : Nd) : x.cells.take 49 = x.cells := rfl
theorem sty_one (s : Sty) : ∀ r ∈ s.cells, r.one = true := by
  intro r hr
  simp -implicitDefEqProofs only [Sty.cells, List.mem_cons, List.not_mem_nil, or_false] at hr
  repeat' rcases hr with rfl | hr
  all_goals first | rfl | (subst hr; rfl)
theorem nd_one (x : Nd) : ∀ r ∈ x.cells, r.one = true := by
  intro r hr
  rcases List.mem_append.1 hr with hr | hr
  · exact sty_one _ r hr
  · simp at hr; rw [hr]; rfl
theorem ndL_one (l : List Nd) : ∀ x ∈ ndL l, ∀ r ∈ x, r.one = true := by
  intro x hx
  obtain ⟨n, _, rfl⟩ := List.mem_map.1 hx
  exact nd_one n

def intsL (ys : List Int) : List (List RV) := ys.map fun n => [.int .i64 n]
theorem intsL_len (l : List Int) : (intsL l).length = l.length := by simp [intsL]
theorem intsL_get {l : List Int} {i : Nat} (h : i < l.length) : (intsL l)[i]?.getD [] = [.int .i64 (l[i]'h)] := by simp [intsL, h]
theorem intsL_one (l : List Int) : ∀ x ∈ intsL l, ∀ r ∈ x, r.one = true := by
  intro x hx r hr
  obtain ⟨n, _, rfl⟩ := List.mem_map.1 hx
  simp at hr; rw [hr]; rfl

theorem intsL_getD {l : List Int} {i : Nat} (h : i < l.length) : (intsL l)[i]?.getD [] = [.int .i64 (l.getD i 0)] := by simp [intsL, h]
theorem rvs_set1 {ys : List Int} {k : Nat} {v : Int} : (rvs (intsL ys)).set k [.rv (.int .i64 v)] = rvs (intsL (ys.set k v)) := by simp [rvs, intsL, List.map_set]
theorem rvs_rep1 {n : Nat} : List.replicate n [SV.rv (.int .i64 0)] = rvs (intsL (List.replicate n 0)) := by simp [rvs, intsL]
theorem rvs_app1 {ys : List Int} {v : Int} : rvs (intsL ys) ++ [[.rv (.int .i64 v)]] = rvs (intsL (ys ++ [v])) := by simp [rvs, intsL]
theorem wrap_up {k : Nat} (h : k < 4611686018427387904) : IntKind.i64.wrap ((k : Int) + 1) = ((k + 1 : Nat) : Int) := by
  rw [wrap_i64 (by omega) (by omega)]; omega
theorem wrap_dn {k : Nat} (h : 0 < k) (h2 : k < 4611686018427387904) : IntKind.i64.wrap ((k : Int) - 1) = ((k - 1 : Nat) : Int) := by
  rw [wrap_i64 (by omega) (by omega)]; omega
end Go.Eng


/- What comes in, as nodes and numbers. -/
namespace Go.Eng
open Go Go.Proofs

theorem tyInt {n : Nat} {rs : List RV} (h : TyC Go.Proofs.Try.prog (n + 1) 3 rs) : ∃ i, rs = [.int .i64 i] := by
  obtain ⟨i, h, _⟩ := tyC_int Try.underlying3 h
  exact ⟨i, h⟩
theorem tyInt64 {n : Nat} {rs : List RV} (h : TyC Go.Proofs.Try.prog (n + 1) 2 rs) : ∃ i, rs = [.int .i64 i] := by
  obtain ⟨i, h, _⟩ := tyC_int Try.underlying2 h
  exact ⟨i, h⟩
theorem tyBool {n : Nat} {rs : List RV} (h : TyC Go.Proofs.Try.prog (n + 1) 4 rs) : ∃ b, rs = [.bool b] := by
  exact tyC_bool Try.underlying4 h
theorem tyLen {n : Nat} {rs : List RV} (h : TyC Go.Proofs.Try.prog (n + 2) 39 rs) : ∃ x : Ln, rs = x.cells := by
  have h := tyC_struct Try.underlying39 h
  obtain ⟨_, _, rfl, h1, _, _, rfl, h2, rfl⟩ := h
  obtain ⟨i, rfl⟩ := tyInt h1
  obtain ⟨j, rfl⟩ := tyInt64 h2
  exact ⟨⟨i, j⟩, rfl⟩
theorem list4 {α : Type} {xs : List α} (h : xs.length = 4) : ∃ a b c d, xs = [a, b, c, d] := by
  match xs, h with
  | [a, b, c, d], _ => exact ⟨a, b, c, d, rfl⟩
theorem tyQ {n : Nat} {rs : List RV} (h : TyC Go.Proofs.Try.prog (n + 3) 40 rs) : ∃ q : Q4 Ln, rs = q.lns := by
  obtain ⟨xs, rfl, hl, hx⟩ := tyC_array Try.underlying40 h
  obtain ⟨a, b, c, d, rfl⟩ := list4 hl
  obtain ⟨a, rfl⟩ := tyLen (hx a (by simp))
  obtain ⟨b, rfl⟩ := tyLen (hx b (by simp))
  obtain ⟨c, rfl⟩ := tyLen (hx c (by simp))
  obtain ⟨d, rfl⟩ := tyLen (hx d (by simp))
  exact ⟨⟨a, b, c, d⟩, rfl⟩
theorem tyB {n : Nat} {rs : List RV} (h : TyC Go.Proofs.Try.prog (n + 2) 41 rs) : ∃ q : Q4 Int, rs = q.ints := by
  obtain ⟨xs, rfl, hl, hx⟩ := tyC_array Try.underlying41 h
  obtain ⟨a, b, c, d, rfl⟩ := list4 hl
  obtain ⟨a, rfl⟩ := tyInt64 (hx a (by simp))
  obtain ⟨b, rfl⟩ := tyInt64 (hx b (by simp))
  obtain ⟨c, rfl⟩ := tyInt64 (hx c (by simp))
  obtain ⟨d, rfl⟩ := tyInt64 (hx d (by simp))
  exact ⟨⟨a, b, c, d⟩, rfl⟩
theorem tySty {n : Nat} {rs : List RV} (h : TyC Go.Proofs.Try.prog (n + 4) 43 rs) : ∃ s : Sty, rs = s.cells := by
  have h := tyC_struct Try.underlying43 h
  obtain ⟨_, _, rfl, h1, _, _, rfl, h2, _, _, rfl, h3, _, _, rfl, h4, _, _, rfl, h5, _, _, rfl, h6, _, _, rfl, h7, _, _, rfl, h8, _, _, rfl, h9, _, _, rfl, h10, _, _, rfl, h11, _, _, rfl, h12, _, _, rfl, h13, _, _, rfl, h14, _, _, rfl, h15, _, _, rfl, h16, _, _, rfl, h17, _, _, rfl, h18, rfl⟩ := h
  obtain ⟨b1, rfl⟩ := tyBool h1
  obtain ⟨i2, rfl⟩ := tyInt h2
  obtain ⟨q3, rfl⟩ := tyQ h3
  obtain ⟨x4, rfl⟩ := tyLen h4
  obtain ⟨x5, rfl⟩ := tyLen h5
  obtain ⟨x6, rfl⟩ := tyLen h6
  obtain ⟨x7, rfl⟩ := tyLen h7
  obtain ⟨x8, rfl⟩ := tyLen h8
  obtain ⟨x9, rfl⟩ := tyLen h9
  obtain ⟨q10, rfl⟩ := tyQ h10
  obtain ⟨q11, rfl⟩ := tyQ h11
  obtain ⟨q12, rfl⟩ := tyB h12
  obtain ⟨b13, rfl⟩ := tyBool h13
  obtain ⟨b14, rfl⟩ := tyBool h14
  obtain ⟨i15, rfl⟩ := tyInt64 h15
  obtain ⟨b16, rfl⟩ := tyBool h16
  obtain ⟨i17, rfl⟩ := tyInt64 h17
  obtain ⟨i18, rfl⟩ := tyInt64 h18
  exact ⟨⟨b1, i2, q3, x4, x5, x6, x7, x8, x9, q10, q11, q12, b13, b14, i15, b16, i17, i18⟩, rfl⟩
theorem tyNode {n : Nat} {rs : List RV} (h : TyC Go.Proofs.Try.prog (n + 5) 45 rs) : ∃ x : Nd, rs = x.cells := by
  have h := tyC_struct Try.underlying45 h
  obtain ⟨_, _, rfl, h1, _, _, rfl, h2, rfl⟩ := h
  obtain ⟨s, rfl⟩ := tySty h1
  obtain ⟨i, rfl⟩ := tyInt h2
  exact ⟨⟨s, i⟩, rfl⟩
theorem list_of {α : Type} {f : α → List RV} : ∀ {xs : List (List RV)}, (∀ x ∈ xs, ∃ a, x = f a) → ∃ l : List α, xs = l.map f
  | [], _ => ⟨[], rfl⟩
  | x :: xs, h => by
    obtain ⟨a, rfl⟩ := h x (by simp)
    obtain ⟨l, rfl⟩ := list_of (xs := xs) fun y hy => h y (by simp [hy])
    exact ⟨a :: l, rfl⟩

theorem cells49 : Program.cellsOf Go.Proofs.Try.prog 45 = 49 := by kernel_rfl
theorem aggN : aggT Go.Proofs.Try.prog 22 = some false := by kernel_rfl
theorem openNodes {rs : List RV} (h : TyC Go.Proofs.Try.prog 6 22 rs) : ∃ l : List Nd, argS Go.Proofs.Try.prog 22 rs = .rv (.sl 49 (ndL l)) := by
  obtain ⟨xs, rfl, _, hx⟩ := tyC_slice Try.underlying22 h
  obtain ⟨l, rfl⟩ := list_of fun x hx' => tyNode (hx x hx')
  refine ⟨l, ?_⟩
  rw [argS_one aggN, cells49]; rfl
end Go.Eng


/- rectangles and boxes, as plain values; what two rectangles have in common. -/
namespace Go.Eng
open Go
/- decoupage/plan.Pads -/
def c_plan_Pads : AC := (.seq (.reg [⟨(some 1), .box, [(.t 0)], none⟩, ⟨(some 2), (.alloc [(.int .i64 0), (.int .i64 0), (.int .i64 0), (.int .i64 0)]), [], none⟩]) (.seq (.seq (.reg [⟨(some 5), (.fld 0), [(.t 1)], none⟩, ⟨(some 6), (.load 1 false), [(.t 5)], none⟩, ⟨(some 7), .not, [(.t 6)], none⟩]) (.cond (.t 7) (.seq (.reg [⟨(some 8), (.build [(.int .i64 0), (.int .i64 0), (.int .i64 0), (.int .i64 0)] []), [], none⟩, ⟨none, (.store 4), [(.t 2), (.t 8)], none⟩]) .ret) .skip)) (.seq (.regd [0, 1, 0, 4, 12, 31, 0, 64, 0, 256, 768, 1984, 63, 8191] [⟨(some 9), (.fld 1), [(.t 1)], none⟩, ⟨(some 10), (.load 1 false), [(.t 9)], none⟩, ⟨(some 11), (.fld 17), [(.t 1)], none⟩, ⟨(some 12), (.ixa 4 1), [(.t 11), (.c (.rv (.int .i64 3)))], none⟩, ⟨(some 13), (.load 1 false), [(.t 12)], none⟩, ⟨(some 14), (.ibin .add), [(.t 10), (.t 13)], none⟩, ⟨(some 15), (.fld 2), [(.t 1)], none⟩, ⟨(some 16), (.load 1 false), [(.t 15)], none⟩, ⟨(some 17), (.fld 17), [(.t 1)], none⟩, ⟨(some 18), (.ixa 4 1), [(.t 17), (.c (.rv (.int .i64 0)))], none⟩, ⟨(some 19), (.load 1 false), [(.t 18)], none⟩, ⟨(some 20), (.ibin .add), [(.t 16), (.t 19)], none⟩, ⟨(some 3), .mv, [(.t 14)], none⟩, ⟨(some 4), .mv, [(.t 20)], none⟩]) (.seq (.reg [⟨(some 21), .mv, [(.t 3)], none⟩, ⟨(some 22), .mv, [(.t 4)], none⟩, ⟨(some 23), .mv, [(.t 3)], none⟩, ⟨(some 24), (.fld 13), [(.t 1)], none⟩, ⟨(some 25), (.ixa 4 1), [(.t 24), (.c (.rv (.int .i64 3)))], none⟩, ⟨(some 26), (.load 1 false), [(.t 25)], none⟩, ⟨(some 27), (.ibin .add), [(.t 23), (.t 26)], none⟩, ⟨(some 28), (.fld 3), [(.t 1)], none⟩, ⟨(some 29), (.load 1 false), [(.t 28)], none⟩, ⟨(some 30), (.ibin .add), [(.t 27), (.t 29)], none⟩, ⟨(some 31), (.fld 13), [(.t 1)], none⟩, ⟨(some 32), (.ixa 4 1), [(.t 31), (.c (.rv (.int .i64 1)))], none⟩, ⟨(some 33), (.load 1 false), [(.t 32)], none⟩, ⟨(some 34), (.ibin .add), [(.t 30), (.t 33)], none⟩, ⟨(some 35), .mv, [(.t 4)], none⟩, ⟨(some 36), (.fld 13), [(.t 1)], none⟩, ⟨(some 37), (.ixa 4 1), [(.t 36), (.c (.rv (.int .i64 0)))], none⟩, ⟨(some 38), (.load 1 false), [(.t 37)], none⟩, ⟨(some 39), (.ibin .add), [(.t 35), (.t 38)], none⟩, ⟨(some 40), (.fld 4), [(.t 1)], none⟩, ⟨(some 41), (.load 1 false), [(.t 40)], none⟩, ⟨(some 42), (.ibin .add), [(.t 39), (.t 41)], none⟩, ⟨(some 43), (.fld 13), [(.t 1)], none⟩, ⟨(some 44), (.ixa 4 1), [(.t 43), (.c (.rv (.int .i64 2)))], none⟩, ⟨(some 45), (.load 1 false), [(.t 44)], none⟩, ⟨(some 46), (.ibin .add), [(.t 42), (.t 45)], none⟩, ⟨(some 47), (.build [(.int .i64 0), (.int .i64 0), (.int .i64 0), (.int .i64 0)] [(0, 1), (1, 1), (2, 1), (3, 1)]), [(.t 21), (.t 22), (.t 34), (.t 46)], none⟩, ⟨none, (.store 4), [(.t 2), (.t 47)], none⟩]) .ret))))
theorem k_plan_Pads : FnOK Go.Proofs.Try.prog 52 48 c_plan_Pads [(.c 2 4 true)] := fnOK_of (by kernel_rfl)

structure Rc where
  x0 : Int
  y0 : Int
  x1 : Int
  y1 : Int
  deriving DecidableEq, Inhabited
def Rc.cells (x : Rc) : List RV := [.int .i64 x.x0, .int .i64 x.y0, .int .i64 x.x1, .int .i64 x.y1]
abbrev Rc.sv (x : Rc) : SV := .agg (x.cells.map .rv)
def rcL (l : List Rc) : List (List RV) := l.map Rc.cells
theorem rcL_len (l : List Rc) : (rcL l).length = l.length := by simp [rcL]
theorem rc_len (x : Rc) : x.cells.length = 4 := rfl
theorem rc_one (x : Rc) : ∀ r ∈ x.cells, r.one = true := by
  intro r hr
  simp -implicitDefEqProofs only [Rc.cells, List.mem_cons, List.not_mem_nil, or_false] at hr
  rcases hr with rfl | rfl | rfl | rfl <;> rfl
theorem rcL_one (l : List Rc) : ∀ x ∈ rcL l, ∀ r ∈ x, r.one = true := by
  intro x hx
  obtain ⟨n, _, rfl⟩ := List.mem_map.1 hx
  exact rc_one n

structure Bx where
  made : Bool
  x : Int
  y : Int
  w : Int
  h : Int
  off : Q4 Int
  margin : Q4 Int
  pad : Q4 Int
  border : Q4 Int
  deriving DecidableEq, Inhabited
def Bx.cells (b : Bx) : List RV := [.bool b.made, .int .i64 b.x, .int .i64 b.y, .int .i64 b.w, .int .i64 b.h,
  .int .i64 b.off.a, .int .i64 b.off.b, .int .i64 b.off.c, .int .i64 b.off.d, .int .i64 b.margin.a, .int .i64 b.margin.b, .int .i64 b.margin.c, .int .i64 b.margin.d,
  .int .i64 b.pad.a, .int .i64 b.pad.b, .int .i64 b.pad.c, .int .i64 b.pad.d, .int .i64 b.border.a, .int .i64 b.border.b, .int .i64 b.border.c, .int .i64 b.border.d]
abbrev Bx.sv (x : Bx) : SV := .agg (x.cells.map .rv)
def bxL (l : List Bx) : List (List RV) := l.map Bx.cells
theorem bxL_len (l : List Bx) : (bxL l).length = l.length := by simp [bxL]
theorem bx_len (x : Bx) : x.cells.length = 21 := rfl
theorem bx_one (x : Bx) : ∀ r ∈ x.cells, r.one = true := by
  intro r hr
  simp -implicitDefEqProofs only [Bx.cells, List.mem_cons, List.not_mem_nil, or_false] at hr
  repeat' rcases hr with rfl | hr
  all_goals first | rfl | (subst hr; rfl)
theorem bxL_one (l : List Bx) : ∀ x ∈ bxL l, ∀ r ∈ x, r.one = true := by
  intro x hx
  obtain ⟨n, _, rfl⟩ := List.mem_map.1 hx
  exact bx_one n
/-- The numbers of a box that count. -/
def Bx.nums (b : Bx) : List Int := [b.x, b.y, b.w, b.h, b.pad.a, b.pad.b, b.pad.c, b.pad.d, b.border.a, b.border.b, b.border.c, b.border.d]
def fewB (b : Bx) : Bool := b.nums.all fun n => !(decide (n < -1125899906842624) || decide (n > 1125899906842624))

def emptyR (r : Rc) : Bool := decide (r.x0 ≥ r.x1) || decide (r.y0 ≥ r.y1)
def holdsR (r : Rc) (x y : Int) : Bool := decide (r.x0 ≤ x) && decide (x < r.x1) && decide (r.y0 ≤ y) && decide (y < r.y1)
def zeroR : Rc := ⟨0, 0, 0, 0⟩
def mxI (a b : Int) : Int := if b > a then b else a
def mnI (a b : Int) : Int := if b < a then b else a
def intR (a b : Rc) : Rc := ⟨mxI a.x0 b.x0, mxI a.y0 b.y0, mnI a.x1 b.x1, mnI a.y1 b.y1⟩
def mtR (a b : Rc) : Rc := if emptyR (intR a b) = true then zeroR else intR a b
def insideR (a b : Rc) : Bool := emptyR a || (holdsR b a.x0 a.y0 && holdsR b (IntKind.i64.wrap (a.x1 - 1)) (IntKind.i64.wrap (a.y1 - 1)))
def padsR (b : Bx) : Rc := if b.made = true then ⟨b.x + b.border.d, b.y + b.border.a, b.x + b.border.d + b.pad.d + b.w + b.pad.b, b.y + b.border.a + b.pad.a + b.h + b.pad.c⟩ else zeroR
theorem few_pads {b : Bx} (h : fewB b = true) : (-1125899906842624 ≤ b.x ∧ b.x ≤ 1125899906842624) ∧ (-1125899906842624 ≤ b.y ∧ b.y ≤ 1125899906842624) ∧ (-1125899906842624 ≤ b.w ∧ b.w ≤ 1125899906842624) ∧ (-1125899906842624 ≤ b.h ∧ b.h ≤ 1125899906842624) ∧
   (-1125899906842624 ≤ b.pad.a ∧ b.pad.a ≤ 1125899906842624) ∧ (-1125899906842624 ≤ b.pad.b ∧ b.pad.b ≤ 1125899906842624) ∧ (-1125899906842624 ≤ b.pad.c ∧ b.pad.c ≤ 1125899906842624) ∧ (-1125899906842624 ≤ b.pad.d ∧ b.pad.d ≤ 1125899906842624) ∧
   (-1125899906842624 ≤ b.border.a ∧ b.border.a ≤ 1125899906842624) ∧ (-1125899906842624 ≤ b.border.b ∧ b.border.b ≤ 1125899906842624) ∧ (-1125899906842624 ≤ b.border.c ∧ b.border.c ≤ 1125899906842624) ∧ (-1125899906842624 ≤ b.border.d ∧ b.border.d ≤ 1125899906842624) := by
  simp [fewB, Bx.nums] at h; omega

set_option maxRecDepth 10000 in
theorem sp_plan_Pads (b : Bx) (hb : fewB b = true) : CallR Go.Proofs.Try.prog 52 [b.sv] [] [] (padsR b).sv := by
  refine callR_G k_plan_Pads [b.sv] _ (by simp) (by simp [BkAll, bk_agg, bkAll_map, bk_rv, bk_fn, Sty.sv, Ln.sv, Nd.sv]) (fun K hK => ?_)
  have hf := few_pads hb
  simp -implicitDefEqProofs only [c_plan_Pads, Bx.sv, Bx.cells, go_sem]
  have w1 : IntKind.i64.wrap (b.x + b.border.d) = b.x + b.border.d := wrap_i64 (by omega) (by omega)
  have w2 : IntKind.i64.wrap (b.y + b.border.a) = b.y + b.border.a := wrap_i64 (by omega) (by omega)
  have w3 : IntKind.i64.wrap (b.x + b.border.d + b.pad.d) = b.x + b.border.d + b.pad.d := wrap_i64 (by omega) (by omega)
  have w4 : IntKind.i64.wrap (b.x + b.border.d + b.pad.d + b.w) = b.x + b.border.d + b.pad.d + b.w := wrap_i64 (by omega) (by omega)
  have w5 : IntKind.i64.wrap (b.x + b.border.d + b.pad.d + b.w + b.pad.b) = b.x + b.border.d + b.pad.d + b.w + b.pad.b := wrap_i64 (by omega) (by omega)
  have w6 : IntKind.i64.wrap (b.y + b.border.a + b.pad.a) = b.y + b.border.a + b.pad.a := wrap_i64 (by omega) (by omega)
  have w7 : IntKind.i64.wrap (b.y + b.border.a + b.pad.a + b.h) = b.y + b.border.a + b.pad.a + b.h := wrap_i64 (by omega) (by omega)
  have w8 : IntKind.i64.wrap (b.y + b.border.a + b.pad.a + b.h + b.pad.c) = b.y + b.border.a + b.pad.a + b.h + b.pad.c := wrap_i64 (by omega) (by omega)
  clear hf hb
  cases hm : b.made with
  | false =>
    repeat' (first | (simp -implicitDefEqProofs only [go_sem]) | (with_reducible refine g_noent ?_) | ((first | refine cdS (fun hg => ?_) (fun hg => ?_) | refine gdS (fun hg => ?_) (fun hg => ?_) | refine gddS (fun hg => ?_) (fun hg => ?_)) <;> try simp -implicitDefEqProofs only [hg, Bool.not_true, Bool.not_false]) | ((with_reducible apply And.intro); focus (first | trivial | omega | decide | (simp -implicitDefEqProofs only [maxLen]; omega) | (simp [maxLen, sty_len, nd_len, ndL_len, lnL_len, intsL_len, rvs_len, lensS_len] <;> omega))) | fail)
    refine (hK _ _ ?_).2
    rw [show padsR b = zeroR from if_neg (by simp [hm])]
    clear w1 w2 w3 w4 w5 w6 w7 w8
    simp [retM, nodupL, newL, allU, keptL, retP, resL, lk, resT, RnHo, lkp, finU, hget_zero, hget_succ, hget, rnRows_rvs, rn_tup, rn_rv, rn_row, rn_ptr, rn_ifc, rn_agg, rn_dead, RnAll, ofL, rnAll_map, go_sem, zeroR, Rc.cells]
  | true =>
    repeat' (first | (simp -implicitDefEqProofs only [go_sem, w1, w2, w3, w4, w5, w6, w7, w8]) | (with_reducible refine g_noent ?_) | ((first | refine cdS (fun hg => ?_) (fun hg => ?_) | refine gdS (fun hg => ?_) (fun hg => ?_) | refine gddS (fun hg => ?_) (fun hg => ?_)) <;> try simp -implicitDefEqProofs only [hg, Bool.not_true, Bool.not_false]) | ((with_reducible apply And.intro); focus (first | trivial | omega | decide | (simp -implicitDefEqProofs only [maxLen]; omega) | (simp [maxLen, sty_len, nd_len, ndL_len, lnL_len, intsL_len, rvs_len, lensS_len] <;> omega))) | fail)
    refine (hK _ _ ?_).2
    rw [show padsR b = ⟨b.x + b.border.d, b.y + b.border.a, b.x + b.border.d + b.pad.d + b.w + b.pad.b, b.y + b.border.a + b.pad.a + b.h + b.pad.c⟩ from if_pos hm]
    simp -implicitDefEqProofs only [Rc.sv, Rc.cells, List.map]
    generalize b.x + b.border.d + b.pad.d + b.w + b.pad.b = n3
    generalize b.y + b.border.a + b.pad.a + b.h + b.pad.c = n4
    generalize b.x + b.border.d = n1
    generalize b.y + b.border.a = n2
    clear w1 w2 w3 w4 w5 w6 w7 w8
    simp [retM, nodupL, newL, allU, keptL, retP, resL, lk, resT, RnHo, lkp, finU, hget_zero, hget_succ, hget, rnRows_rvs, rn_tup, rn_rv, rn_row, rn_ptr, rn_ifc, rn_agg, rn_dead, RnAll, ofL, rnAll_map, go_sem]
end Go.Eng


/- Trees as lists: who is above whom. -/
namespace Go.Eng
open Go

def parL (l : List Nd) (n : Nat) : Int := (l.getD n default).parent
theorem parL_eq {l : List Nd} {n : Nat} (h : n < l.length) : (l[n]'h).parent = parL l n := by simp [parL, h]

/-- Each node ahead of k has its parent ahead of it. -/
def WF (l : List Nd) (k : Nat) : Prop := parL l 0 = -1 ∧ ∀ j, 0 < j → j < k → 0 ≤ parL l j ∧ parL l j < j
theorem WF.mono {l : List Nd} {k m : Nat} (h : WF l k) (hm : m ≤ k) : WF l m := ⟨h.1, fun j a b => h.2 j a (by omega)⟩

/-- The way from a node up: itself, its parent, and so on. -/
def pth (l : List Nd) (n : Nat) : List Nat := if h : 0 ≤ parL l n ∧ parL l n < n then n :: pth l (parL l n).toNat else [n]
termination_by n
decreasing_by omega

theorem pth_cons {l : List Nd} {n : Nat} (h : 0 ≤ parL l n ∧ parL l n < n) : pth l n = n :: pth l (parL l n).toNat := by
  rw [pth, dif_pos h]
theorem pth_one {l : List Nd} {n : Nat} (h : ¬ (0 ≤ parL l n ∧ parL l n < n)) : pth l n = [n] := by
  rw [pth, dif_neg h]
theorem pth_zero {l : List Nd} : pth l 0 = [0] := pth_one (by omega)
theorem pth_head {l : List Nd} {n : Nat} : ∃ r, pth l n = n :: r := by
  by_cases h : 0 ≤ parL l n ∧ parL l n < n
  · exact ⟨_, pth_cons h⟩
  · exact ⟨_, pth_one h⟩
theorem pth_pos {l : List Nd} {n : Nat} : 0 < (pth l n).length := by obtain ⟨r, h⟩ := pth_head (l := l) (n := n); simp [h]
theorem pth_len {l : List Nd} : ∀ n, (pth l n).length ≤ n + 1 := by
  intro n
  induction n using Nat.strongRecOn with
  | _ n ih =>
    by_cases h : 0 ≤ parL l n ∧ parL l n < n
    · rw [pth_cons h]; have := ih (parL l n).toNat (by omega); simp; omega
    · rw [pth_one h]; simp
theorem pth_le {l : List Nd} : ∀ n x, x ∈ pth l n → x ≤ n := by
  intro n
  induction n using Nat.strongRecOn with
  | _ n ih =>
    intro x hx
    by_cases h : 0 ≤ parL l n ∧ parL l n < n
    · rw [pth_cons h] at hx
      rcases List.mem_cons.1 hx with rfl | hx
      · omega
      · have := ih (parL l n).toNat (by omega) x hx; omega
    · rw [pth_one h] at hx; simp at hx; omega

/-- The i-th of a way; -1 behind it. -/
def atI (p : List Nat) (i : Nat) : Int := match p[i]? with
  | some x => x
  | none => -1
theorem atI_lt {p : List Nat} {i : Nat} (h : i < p.length) : atI p i = ((p[i]'h : Nat) : Int) := by simp [atI, h]
theorem atI_ge {p : List Nat} {i : Nat} (h : p.length ≤ i) : atI p i = -1 := by
  unfold atI; rw [List.getElem?_eq_none h]
theorem atI_iff {p : List Nat} {i : Nat} : 0 ≤ atI p i ↔ i < p.length := by
  by_cases h : i < p.length
  · rw [atI_lt h]; simp [h]
  · rw [atI_ge (by omega)]; simp; omega
theorem atI_zero {l : List Nd} {n : Nat} : atI (pth l n) 0 = n := by
  obtain ⟨r, h⟩ := pth_head (l := l) (n := n)
  simp [atI, h]

theorem par_at {l : List Nd} {k : Nat} (hw : WF l k) : ∀ n, n < k → ∀ i, (h : i < (pth l n).length) → parL l ((pth l n)[i]'h) = atI (pth l n) (i + 1) := by
  intro n
  induction n using Nat.strongRecOn with
  | _ n ih =>
    intro hn i hi
    by_cases h : 0 ≤ parL l n ∧ parL l n < n
    · have hp := pth_cons h
      cases i with
      | zero =>
        simp -implicitDefEqProofs only [hp, List.getElem_cons_zero]
        rw [show atI (n :: pth l (parL l n).toNat) (0 + 1) = atI (pth l (parL l n).toNat) 0 from by simp [atI], atI_zero]
        omega
      | succ i =>
        simp -implicitDefEqProofs only [hp, List.length_cons] at hi
        have := ih (parL l n).toNat (by omega) (by omega) i (by omega)
        simp -implicitDefEqProofs only [hp, List.getElem_cons_succ]
        rw [show atI (n :: pth l (parL l n).toNat) (i + 1 + 1) = atI (pth l (parL l n).toNat) (i + 1) from by simp [atI]]
        exact this
    · have hp := pth_one h
      have h0 : n = 0 := by
        rcases Nat.eq_zero_or_pos n with h0 | h0
        · exact h0
        · exact absurd (hw.2 n h0 hn) h
      subst h0
      simp -implicitDefEqProofs only [hp, List.length_singleton] at hi
      obtain rfl : i = 0 := by omega
      simp -implicitDefEqProofs only [hp, List.getElem_cons_zero]
      rw [hw.1]; rfl

theorem pth_lt {l : List Nd} {k n i : Nat} (hn : n < k) (h : i < (pth l n).length) : (pth l n)[i]'h < k := by
  have := pth_le n _ (List.getElem_mem h); omega

/-- Ways of nodes on a way. -/
theorem pth_drop {l : List Nd} : ∀ n i, (h : i < (pth l n).length) → (pth l n).drop i = pth l ((pth l n)[i]'h) := by
  intro n
  induction n using Nat.strongRecOn with
  | _ n ih =>
    intro i hi
    by_cases h : 0 ≤ parL l n ∧ parL l n < n
    · have hp := pth_cons h
      cases i with
      | zero => simp [hp]
      | succ i =>
        simp -implicitDefEqProofs only [hp, List.length_cons] at hi
        simp -implicitDefEqProofs only [hp, List.drop_succ_cons, List.getElem_cons_succ]
        exact ih _ (by omega) i (by omega)
    · have hp := pth_one h
      simp -implicitDefEqProofs only [hp, List.length_singleton] at hi
      obtain rfl : i = 0 := by omega
      simp [hp]

/-- Where the parent of k stands on the way up from the node ahead. -/
def upIx (l : List Nd) (k : Nat) : Option Nat := (pth l (k - 1)).findIdx? fun (j : Nat) => decide ((j : Int) = parL l k)

/-- Node k stands as it should. -/
def nodeOK (l : List Nd) (k : Nat) : Bool := decide (k = 0) || (upIx l k).isSome
def shapeOK (l : List Nd) : Bool := decide (0 < l.length) && decide (parL l 0 = -1) && (List.range l.length).all (nodeOK l)
def treeOK (l : List Nd) : Bool := shapeOK l && l.all fun x => styOK x.s

theorem upIx_some {l : List Nd} {k : Nat} (h : (upIx l k).isSome = true) : 0 ≤ parL l k ∧ parL l k ≤ ((k - 1 : Nat) : Int) ∧ (parL l k).toNat ∈ pth l (k - 1) := by
  obtain ⟨i, hi⟩ := Option.isSome_iff_exists.1 h
  unfold upIx at hi
  rw [List.findIdx?_eq_some_iff_getElem] at hi
  obtain ⟨hlt, hp, _⟩ := hi
  simp at hp
  have h1 := List.getElem_mem hlt
  have h2 := pth_le _ _ h1
  refine ⟨by omega, by omega, ?_⟩
  rw [← hp]; simp
theorem upIx_of {l : List Nd} {k : Nat} (h0 : 0 ≤ parL l k) (h : (parL l k).toNat ∈ pth l (k - 1)) : (upIx l k).isSome = true := by
  unfold upIx
  rw [List.findIdx?_isSome, List.any_eq_true]
  exact ⟨_, h, by simp; omega⟩

theorem upIx_at {l : List Nd} {k i : Nat} (h : i < (pth l (k - 1)).length) (hp : (((pth l (k - 1))[i]'h : Nat) : Int) = parL l k) (hn : ∀ j, (h : j < (pth l (k - 1)).length) → j < i → (((pth l (k - 1))[j]'h : Nat) : Int) ≠ parL l k) : upIx l k = some i := by
  unfold upIx
  rw [List.findIdx?_eq_some_iff_getElem]
  exact ⟨h, by simpa using hp, fun j hj => by simpa using hn j (by omega) hj⟩
theorem upIx_no {l : List Nd} {k : Nat} (hn : ∀ j, (h : j < (pth l (k - 1)).length) → (((pth l (k - 1))[j]'h : Nat) : Int) ≠ parL l k) : upIx l k = none := by
  unfold upIx
  rw [List.findIdx?_eq_none_iff]
  intro x hx
  obtain ⟨j, hj, rfl⟩ := List.getElem_of_mem hx
  simpa using hn j hj

theorem wf_of {l : List Nd} {k : Nat} (h0 : parL l 0 = -1) (h : ∀ j, j < k → nodeOK l j = true) : WF l k := by
  refine ⟨h0, fun j hj hk => ?_⟩
  have := h j hk
  simp [nodeOK] at this
  rcases this with h | h
  · omega
  · have := upIx_some h; omega

structure Shp (l : List Nd) : Prop where
  pos : 0 < l.length
  root : parL l 0 = -1
  up : ∀ j, 0 < j → j < l.length → 0 ≤ parL l j ∧ parL l j < j ∧ (parL l j).toNat ∈ pth l (j - 1)
theorem Shp.wf {l : List Nd} (h : Shp l) : WF l l.length := ⟨h.root, fun j a b => ⟨(h.up j a b).1, (h.up j a b).2.1⟩⟩
theorem shape_iff {l : List Nd} : shapeOK l = true ↔ Shp l := by
  simp -implicitDefEqProofs only [shapeOK, Bool.and_eq_true, decide_eq_true_eq, List.all_eq_true, List.mem_range]
  constructor
  · rintro ⟨⟨h1, h2⟩, h3⟩
    refine ⟨h1, h2, fun j hj hl => ?_⟩
    have := h3 j hl
    simp [nodeOK] at this
    rcases this with h | h
    · omega
    · obtain ⟨a, b, c⟩ := upIx_some h
      exact ⟨a, by omega, c⟩
  · intro h
    refine ⟨⟨h.pos, h.root⟩, fun j hj => ?_⟩
    rcases Nat.eq_zero_or_pos j with h0 | h0
    · simp [nodeOK, h0]
    · obtain ⟨a, b, c⟩ := h.up j h0 hj
      simp [nodeOK, upIx_of a c]

def depth (l : List Nd) (n : Nat) : Nat := (pth l n).length
theorem depth_par {l : List Nd} {k n : Nat} (hw : WF l k) (h0 : 0 < n) (hn : n < k) : depth l n = depth l (parL l n).toNat + 1 := by
  unfold depth; rw [pth_cons (hw.2 n h0 hn)]; simp
theorem depth_zero {l : List Nd} : depth l 0 = 1 := by simp [depth, pth_zero]

/-- What is wrong with a list: 0 nothing, 2 its form, 3 a limit. -/
def chk (l : List Nd) : Int := if treeOK l = false then 2 else if (decide (l.length > 65535) || (List.range l.length).any (fun k => decide (depth l k > 256)) || l.any fun x => !styIn x.s) = true then 3 else 0
end Go.Eng


/- Trees: children, ends, who is made. -/
namespace Go.Eng
open Go

/-- The children of p among the first k nodes. -/
def kidsTo (l : List Nd) (k p : Nat) : List Nat := (List.range k).filter fun j => decide (0 < j) && decide (parL l j = p)
def kidsOf (l : List Nd) (p : Nat) : List Nat := kidsTo l l.length p
theorem kidsTo_zero {l : List Nd} {p : Nat} : kidsTo l 0 p = [] := rfl
theorem kidsTo_succ {l : List Nd} {k p : Nat} : kidsTo l (k + 1) p = kidsTo l k p ++ if 0 < k ∧ parL l k = p then [k] else [] := by
  by_cases h : 0 < k ∧ parL l k = p
  · simp [kidsTo, List.range_succ, h]
  · rw [if_neg h]
    have : (decide (0 < k) && decide (parL l k = p)) = false := by
      rw [Bool.eq_false_iff]; simpa using h
    simp [kidsTo, List.range_succ, this]
theorem kidsTo_len {l : List Nd} {k p : Nat} : (kidsTo l k p).length ≤ k := by
  have := List.length_filter_le (fun j => decide (0 < j) && decide (parL l j = p)) (List.range k)
  simpa [kidsTo] using this
theorem mem_kids {l : List Nd} {c p : Nat} : c ∈ kidsOf l p ↔ 0 < c ∧ c < l.length ∧ parL l c = p := by
  simp [kidsOf, kidsTo]; omega

/-- The first node behind a node and all below it. -/
def endS (l : List Nd) (n : Nat) : Nat := match (kidsOf l n).getLast? with
  | none => n + 1
  | some c => if h : n < c ∧ c < l.length then endS l c else n + 1
termination_by l.length - n
decreasing_by omega
theorem endS_leaf {l : List Nd} {n : Nat} (h : kidsOf l n = []) : endS l n = n + 1 := by
  rw [endS, h]; rfl
theorem endS_last {l : List Nd} {n c : Nat} (h : (kidsOf l n).getLast? = some c) (h1 : n < c) (h2 : c < l.length) : endS l n = endS l c := by
  rw [endS, h]; simp [h1, h2]

def shownL (l : List Nd) (n : Nat) : Bool := (l.getD n default).s.shown
theorem shownL_eq {l : List Nd} {n : Nat} (h : n < l.length) : (l[n]'h).s.shown = shownL l n := by simp [shownL, h]
/-- A node is made: it and all above it are shown. -/
def madeS (l : List Nd) (n : Nat) : Bool := (pth l n).all (shownL l)
theorem madeS_zero {l : List Nd} : madeS l 0 = shownL l 0 := by simp [madeS, pth_zero]
theorem madeS_par {l : List Nd} {k n : Nat} (hw : WF l k) (h0 : 0 < n) (hn : n < k) : madeS l n = (shownL l n && madeS l (parL l n).toNat) := by
  unfold madeS; rw [pth_cons (hw.2 n h0 hn)]; rfl
end Go.Eng


/- Trees: all below a node stand right behind it. -/
namespace Go.Eng
open Go

theorem mem_self {l : List Nd} {n : Nat} : n ∈ pth l n := by obtain ⟨r, h⟩ := pth_head (l := l) (n := n); simp [h]
theorem pth_sub {l : List Nd} {a n : Nat} (h : a ∈ pth l n) : ∀ x, x ∈ pth l a → x ∈ pth l n := by
  obtain ⟨i, hi, rfl⟩ := List.getElem_of_mem h
  intro x hx
  rw [← pth_drop n i hi] at hx
  exact List.mem_of_mem_drop hx
theorem mem_par {l : List Nd} {k n m : Nat} (hw : WF l m) (h0 : 0 < k) (hk : k < m) : n ∈ pth l k ↔ n = k ∨ n ∈ pth l (parL l k).toNat := by
  rw [pth_cons (hw.2 k h0 hk)]; simp
theorem mem_zero {l : List Nd} {n : Nat} : n ∈ pth l 0 ↔ n = 0 := by rw [pth_zero]; simp

/-- Who is below a node and not right behind it, has one ahead that is below it too. -/
theorem Shp.step {l : List Nd} (h : Shp l) {n k : Nat} (hk : k < l.length) (hn : n < k) (hm : n ∈ pth l k) : n ∈ pth l (k - 1) := by
  rw [mem_par h.wf (by omega) hk] at hm
  rcases hm with hm | hm
  · omega
  · exact pth_sub (h.up k (by omega) hk).2.2 n hm
theorem Shp.between {l : List Nd} (h : Shp l) {n : Nat} : ∀ k j, k < l.length → n ∈ pth l k → n ≤ j → j ≤ k → n ∈ pth l j := by
  intro k
  induction k using Nat.strongRecOn with
  | _ k ih =>
    intro j hk hm h1 h2
    rcases Nat.lt_or_ge j k with hjk | hjk
    · exact ih (k - 1) (by omega) j (by omega) (h.step hk (by omega) hm) h1 (by omega)
    · obtain rfl : j = k := by omega
      exact hm
/-- The child on the way to one below. -/
theorem Shp.child {l : List Nd} (h : Shp l) {n : Nat} : ∀ k, k < l.length → n ∈ pth l k → n ≠ k → ∃ c, c ∈ kidsOf l n ∧ c ∈ pth l k := by
  intro k
  induction k using Nat.strongRecOn with
  | _ k ih =>
    intro hk hm hne
    rcases Nat.eq_zero_or_pos k with h0 | h0
    · subst h0; rw [mem_zero] at hm; exact absurd hm hne
    · obtain ⟨p1, p2, _⟩ := h.up k h0 hk
      rw [mem_par h.wf h0 hk] at hm
      rcases hm with hm | hm
      · exact absurd hm hne
      · by_cases hp : n = (parL l k).toNat
        · exact ⟨k, mem_kids.2 ⟨h0, hk, by omega⟩, mem_self⟩
        · obtain ⟨c, c1, c2⟩ := ih (parL l k).toNat (by omega) (by omega) hm hp
          exact ⟨c, c1, (mem_par h.wf h0 hk).2 (.inr c2)⟩

theorem kids_last {l : List Nd} {n c : Nat} (h : (kidsOf l n).getLast? = some c) : ∀ x ∈ kidsOf l n, x ≤ c := by
  have key : ∀ k, ∀ c, (kidsTo l k n).getLast? = some c → ∀ x ∈ kidsTo l k n, x ≤ c := by
    intro k
    induction k with
    | zero => intro c h; simp [kidsTo_zero] at h
    | succ k ih =>
      intro c h x hx
      rw [kidsTo_succ] at h hx
      by_cases hc : 0 < k ∧ parL l k = n
      · rw [if_pos hc] at h hx
        simp at h
        subst h
        rcases List.mem_append.1 hx with hx | hx
        · simp [kidsTo] at hx; omega
        · simp at hx; omega
      · rw [if_neg hc, List.append_nil] at h hx
        exact ih c h x hx
  exact key _ c h

theorem Shp.ends {l : List Nd} (h : Shp l) : ∀ m n, l.length - n = m → n < l.length → n < endS l n ∧ endS l n ≤ l.length ∧ ∀ k, k < l.length → (n ∈ pth l k ↔ n ≤ k ∧ k < endS l n) := by
  intro m
  induction m using Nat.strongRecOn with
  | _ m ih =>
    intro n hm hn
    cases hl : (kidsOf l n).getLast? with
    | none =>
      have hk0 : kidsOf l n = [] := List.getLast?_eq_none_iff.1 hl
      rw [endS_leaf hk0]
      refine ⟨by omega, hn, fun k hk => ⟨fun hm => ?_, fun hb => ?_⟩⟩
      · refine ⟨pth_le _ _ hm, ?_⟩
        apply Classical.byContradiction
        intro hc
        obtain ⟨c, c1, _⟩ := h.child k hk hm (by omega)
        rw [hk0] at c1; simp at c1
      · obtain rfl : k = n := by omega
        exact mem_self
    | some c =>
      have hcm : c ∈ kidsOf l n := List.mem_of_getLast? hl
      obtain ⟨c1, c2, c3⟩ := mem_kids.1 hcm
      have hnc : n < c := by have := (h.up c c1 c2).2.1; omega
      rw [endS_last hl hnc c2]
      obtain ⟨e1, e2, e3⟩ := ih (l.length - c) (by omega) c rfl c2
      have hnpc : n ∈ pth l c := (mem_par h.wf c1 c2).2 (.inr (by rw [c3, Int.toNat_natCast]; exact mem_self))
      refine ⟨by omega, e2, fun k hk => ⟨fun hm => ?_, fun hb => ?_⟩⟩
      · refine ⟨pth_le _ _ hm, ?_⟩
        rcases Nat.lt_or_ge k (c + 1) with hkc | hkc
        · omega
        · obtain ⟨c', d1, d2⟩ := h.child k hk hm (by omega)
          have hle := kids_last hl c' d1
          obtain ⟨g1, g2, g3⟩ := mem_kids.1 d1
          by_cases hcc : c' = c
          · subst hcc; exact ((e3 k hk).1 d2).2
          · have := h.between k c hk d2 (by omega) (by omega)
            rw [mem_par h.wf c1 c2, c3, Int.toNat_natCast] at this
            rcases this with t | t
            · omega
            · have := pth_le _ _ t
              have := (h.up c' g1 g2).2.1
              omega
      · rcases Nat.lt_or_ge k c with hkc | hkc
        · exact h.between c k c2 hnpc hb.1 (by omega)
        · exact pth_sub ((e3 k hk).2 ⟨hkc, hb.2⟩) n hnpc
theorem Shp.below {l : List Nd} (h : Shp l) {n k : Nat} (hn : n < l.length) (hk : k < l.length) : n ∈ pth l k ↔ n ≤ k ∧ k < endS l n := (h.ends _ n rfl hn).2.2 k hk
end Go.Eng


/- styles: the program's functions. -/
namespace Go.Eng
open Go
/- decoupage/style.formed -/
def c_style_formed : AC := (.seq (.reg [⟨(some 1), .box, [(.t 0)], none⟩, ⟨(some 2), .mv, [(.c (.rv (.bool false)))], none⟩]) (.seq (.reg [⟨(some 3), (.fld 0), [(.t 1)], none⟩, ⟨(some 4), (.load 1 false), [(.t 3)], none⟩, ⟨(some 5), (.ibin .eql), [(.t 4), (.c (.rv (.int .i64 0)))], none⟩, ⟨(some 6), .mv, [(.t 5)], none⟩, ⟨(some 7), (.fld 1), [(.t 1)], (some (6, true))⟩, ⟨(some 8), (.load 1 false), [(.t 7)], (some (6, true))⟩, ⟨(some 9), (.ibin .eql), [(.t 8), (.c (.rv (.int .i64 0)))], (some (6, true))⟩, ⟨(some 10), .pick, [(.t 6), (.t 9), (.c (.rv (.bool false)))], none⟩, ⟨(some 11), .mv, [(.t 10)], none⟩, ⟨(some 12), (.fld 0), [(.t 1)], (some (11, false))⟩, ⟨(some 13), (.load 1 false), [(.t 12)], (some (11, false))⟩, ⟨(some 14), (.ibin .eql), [(.t 13), (.c (.rv (.int .i64 1)))], (some (11, false))⟩, ⟨(some 15), .pick, [(.t 11), (.c (.rv (.bool true))), (.t 14)], none⟩, ⟨(some 16), .mv, [(.t 15)], none⟩, ⟨(some 17), (.fld 0), [(.t 1)], (some (16, false))⟩, ⟨(some 18), (.load 1 false), [(.t 17)], (some (16, false))⟩, ⟨(some 19), (.ibin .eql), [(.t 18), (.c (.rv (.int .i64 2)))], (some (16, false))⟩, ⟨(some 20), .pick, [(.t 16), (.c (.rv (.bool true))), (.t 19)], none⟩, ⟨(some 2), .mv, [(.t 20)], none⟩]) .ret))
theorem k_style_formed : FnOK Go.Proofs.Try.prog 108 21 c_style_formed [(.t 2)] := fnOK_of (by kernel_rfl)

/- decoupage/style.within -/
def c_style_within : AC := (.seq (.reg [⟨(some 4), .mv, [(.c (.rv (.bool false)))], none⟩]) (.seq (.reg [⟨(some 5), .mv, [(.t 0)], none⟩, ⟨(some 6), .mv, [(.t 1)], none⟩, ⟨(some 7), .neg, [(.t 6)], none⟩, ⟨(some 8), (.ibin .geq), [(.t 5), (.t 7)], none⟩, ⟨(some 9), .mv, [(.t 8)], none⟩, ⟨(some 10), .mv, [(.t 0)], (some (9, true))⟩, ⟨(some 11), .mv, [(.t 1)], (some (9, true))⟩, ⟨(some 12), (.ibin .leq), [(.t 10), (.t 11)], (some (9, true))⟩, ⟨(some 13), .pick, [(.t 9), (.t 12), (.c (.rv (.bool false)))], none⟩, ⟨(some 4), .mv, [(.t 13)], none⟩]) .ret))
theorem k_style_within : FnOK Go.Proofs.Try.prog 107 14 c_style_within [(.t 4)] := fnOK_of (by kernel_rfl)



theorem sp_style_formed (x : Ln) : CallR Go.Proofs.Try.prog 108 [x.sv] [] [] (.rv (.bool (lnOK x))) := by
  refine callR_M k_style_formed [] [] [] [x.sv] [x.sv] [] _ (by simp) (by simp [BkAll, Ln.sv, Ln.cells, bk_agg, bk_rv]) rfl (by simp [nodupL]) (by simp [BkHs]) (fun K hK => ?_)
  simp -implicitDefEqProofs only [c_style_formed, Ln.sv, Ln.cells, go_sem]
  repeat' (first | (simp -implicitDefEqProofs only [go_sem]) | (with_reducible refine g_noent ?_) | ((first | refine cdS (fun hg => ?_) (fun hg => ?_) | refine gdS (fun hg => ?_) (fun hg => ?_) | refine gddS (fun hg => ?_) (fun hg => ?_)) <;> try simp -implicitDefEqProofs only [hg, Bool.not_true, Bool.not_false]) | ((with_reducible apply And.intro); focus (first | trivial | omega | decide | (simp -implicitDefEqProofs only [maxLen]; omega) | (simp [maxLen, sty_len, nd_len, ndL_len, lnL_len, intsL_len, rvs_len, lensS_len] <;> omega))) | fail)
  all_goals (try ((first | refine (hK _ _ _ _ [] (ent_refl _ _) ?_).2 | refine (hK _ _ ?_).2 | refine (hK _ _ _ _ [] (ent_refl _ _) ?_).1 | refine (hK _ _ ?_).1 | fail); clear hK; (simp_all [retM, nodupL, newL, allU, keptL, retP, resL, lk, resT, RnHo, lkp, finU, hget_zero, hget_succ, hget, rnRows_rvs, rn_tup, rn_rv, rn_row, rn_ptr, rn_ifc, rn_agg, rn_dead, RnAll, ofL, rnAll_map, beqD, lnOK]) <;> try omega))

theorem sp_style_within (n m : Int) (hm : 0 ≤ m) (hm2 : m < 4611686018427387904) : CallR Go.Proofs.Try.prog 107 [.rv (.int .i64 n), .rv (.int .i64 m)] [] [] (.rv (.bool (inB n m))) := by
  refine callR_F k_style_within [.int .i64 n, .int .i64 m] _ (by simp) (fun K hK => ?_)
  have e1 : IntKind.i64.wrap (0 - m) = -m := by rw [wrap_i64 (by omega) (by omega)]; omega
  simp -implicitDefEqProofs only [c_style_within, e1, go_sem]
  repeat' (first | (simp -implicitDefEqProofs only [go_sem]) | (with_reducible refine g_noent ?_) | ((first | refine cdS (fun hg => ?_) (fun hg => ?_) | refine gdS (fun hg => ?_) (fun hg => ?_) | refine gddS (fun hg => ?_) (fun hg => ?_)) <;> try simp -implicitDefEqProofs only [hg, Bool.not_true, Bool.not_false]) | ((with_reducible apply And.intro); focus (first | trivial | omega | decide | (simp -implicitDefEqProofs only [maxLen]; omega) | (simp [maxLen, sty_len, nd_len, ndL_len, lnL_len, intsL_len, rvs_len, lensS_len] <;> omega))) | fail)
  all_goals (try ((first | refine (hK _ _ _ _ [] (ent_refl _ _) ?_).2 | refine (hK _ _ ?_).2 | refine (hK _ _ _ _ [] (ent_refl _ _) ?_).1 | refine (hK _ _ ?_).1 | fail); clear hK; (simp_all [retM, nodupL, newL, allU, keptL, retP, resL, lk, resT, RnHo, lkp, finU, hget_zero, hget_succ, hget, rnRows_rvs, rn_tup, rn_rv, rn_row, rn_ptr, rn_ifc, rn_agg, rn_dead, RnAll, ofL, rnAll_map, beqD, inB]) <;> try omega))
end Go.Eng


/- styles: all lengths. -/
namespace Go.Eng
open Go
/- decoupage/style.lengths$1 -/
def c_style_lengths_1 : AC := (.seq (.reg [⟨(some 4), .mv, [(.c (.rv (.int .i64 0)))], none⟩]) (.seq (.block 0 (.loop (.seq (.reg [⟨(some 5), (.ibin .lss), [(.t 4), (.c (.rv (.int .i64 4)))], none⟩]) (.seq (.cond (.t 5) .skip (.exit 0)) (.seq (.seq (.block 1 (.seq (.reg [⟨(some 6), .mv, [(.t 4)], none⟩, ⟨(some 3), .mv, [(.t 6)], none⟩]) (.regd [0, 0, 0, 2, 14, 30, 63, 127] [⟨(some 7), (.load 1 false), [(.t 1)], none⟩, ⟨(some 8), .mv, [(.t 0)], none⟩, ⟨(some 9), .mv, [(.t 3)], none⟩, ⟨(some 10), .nilchk, [(.t 8)], none⟩, ⟨(some 11), (.ixa 4 2), [(.t 10), (.t 9)], none⟩, ⟨(some 12), (.bsl 1), [(.t 11)], none⟩, ⟨(some 13), (.app 1 8), [(.t 7), (.t 12)], none⟩, ⟨none, (.store 1), [(.t 1), (.t 13)], none⟩]))) .ent) (.reg [⟨(some 14), (.ibin .add), [(.t 4), (.c (.rv (.int .i64 1)))], none⟩, ⟨(some 4), .mv, [(.t 14)], none⟩])))))) .ent))
theorem k_style_lengths_1 : FnOK Go.Proofs.Try.prog 116 15 c_style_lengths_1 [] := fnOK_of (by kernel_rfl)

/- decoupage/style.lengths -/
def c_style_lengths : AC := (.seq (.reg [⟨(some 2), .mv, [(.c (.rv .nilsl))], none⟩]) (.seq (.reg [⟨(some 3), (.alloc [.nilsl]), [], none⟩]) (.seq (.reg [⟨(some 5), (.mkfn 116), [(.t 3)], none⟩, ⟨(some 4), .mv, [(.t 5)], none⟩]) (.seq (.reg [⟨(some 6), .mv, [(.t 4)], none⟩, ⟨(some 7), .mv, [(.t 0)], none⟩, ⟨(some 8), .nilchk, [(.t 7)], none⟩, ⟨(some 9), (.fld 2), [(.t 8)], none⟩, ⟨(some 10), .callv, [(.t 6), (.t 9)], none⟩]) (.seq (.regd [0, 0, 2, 6, 0, 16, 48, 0, 128, 384, 0, 1024, 3072, 0, 8192, 24576, 0, 65536, 196608, 524286, 1048575, 2097151] [⟨(some 11), (.load 1 false), [(.t 3)], none⟩, ⟨(some 12), .mv, [(.t 0)], none⟩, ⟨(some 13), .nilchk, [(.t 12)], none⟩, ⟨(some 14), (.fld 10), [(.t 13)], none⟩, ⟨(some 15), .mv, [(.t 0)], none⟩, ⟨(some 16), .nilchk, [(.t 15)], none⟩, ⟨(some 17), (.fld 12), [(.t 16)], none⟩, ⟨(some 18), .mv, [(.t 0)], none⟩, ⟨(some 19), .nilchk, [(.t 18)], none⟩, ⟨(some 20), (.fld 14), [(.t 19)], none⟩, ⟨(some 21), .mv, [(.t 0)], none⟩, ⟨(some 22), .nilchk, [(.t 21)], none⟩, ⟨(some 23), (.fld 16), [(.t 22)], none⟩, ⟨(some 24), .mv, [(.t 0)], none⟩, ⟨(some 25), .nilchk, [(.t 24)], none⟩, ⟨(some 26), (.fld 18), [(.t 25)], none⟩, ⟨(some 27), .mv, [(.t 0)], none⟩, ⟨(some 28), .nilchk, [(.t 27)], none⟩, ⟨(some 29), (.fld 20), [(.t 28)], none⟩, ⟨(some 30), (.bsl 1), [(.t 14), (.t 17), (.t 20), (.t 23), (.t 26), (.t 29)], none⟩, ⟨(some 31), (.app 1 8), [(.t 11), (.t 30)], none⟩, ⟨none, (.store 1), [(.t 3), (.t 31)], none⟩]) (.seq (.reg [⟨(some 32), .mv, [(.t 4)], none⟩, ⟨(some 33), .mv, [(.t 0)], none⟩, ⟨(some 34), .nilchk, [(.t 33)], none⟩, ⟨(some 35), (.fld 22), [(.t 34)], none⟩, ⟨(some 36), .callv, [(.t 32), (.t 35)], none⟩]) (.seq (.reg [⟨(some 37), .mv, [(.t 4)], none⟩, ⟨(some 38), .mv, [(.t 0)], none⟩, ⟨(some 39), .nilchk, [(.t 38)], none⟩, ⟨(some 40), (.fld 30), [(.t 39)], none⟩, ⟨(some 41), .callv, [(.t 37), (.t 40)], none⟩]) (.seq (.reg [⟨(some 42), (.load 1 false), [(.t 3)], none⟩, ⟨(some 2), .mv, [(.t 42)], none⟩]) .ret))))))))
theorem k_style_lengths : FnOK Go.Proofs.Try.prog 106 43 c_style_lengths [(.t 2)] := fnOK_of (by kernel_rfl)


def upto (o : Nat) (k : Nat) : List Nat := (List.range k).map fun q => o + q * 2
theorem upto_succ {o k : Nat} : upto o (k + 1) = upto o k ++ [o + k * 2] := by simp [upto, List.range_succ]
theorem upto_len {o k : Nat} : (upto o k).length = k := by simp [upto]

theorem sp_lengths_1 (i j m o v : Nat) (cs : List RV) (os : List Nat) (h1 : i ≠ j) (h2 : i ≠ m) (h3 : j ≠ m) (hb : os.length < 1000) :
    CallR Go.Proofs.Try.prog 116 [.ptr i o, .ptr j 0] [(i, .var (cs.map .rv)), (j, .var [.row m v os.length]), (m, .row 1 v (ptrs i os))] [(j, .var [.row m (v + 4) (os.length + 4)]), (m, .row 1 (v + 4) (ptrs i (os ++ upto o 4)))] (.tup []) := by
  refine callR_N k_style_lengths_1 [i, j, m] [.var (cs.map .rv), .var [.row 2 v os.length], .row 1 v (ptrs 0 os)] [.var (cs.map .rv), .var [.row m v os.length], .row 1 v (ptrs i os)] [.ptr 0 o, .ptr 1 0] _ _ _ (by simp) (by simp [BkAll, bk_ptr, bk_row, bk_rv, bk_agg, bk_ifc, bk_fn, bk_tup, bk_dead, BkHs, rvs_inj, nodupL]) rfl (by simp [nodupL, h1, h2, h3]) rfl (all3 bk_varR (bk_varA (by simp [BkAll, bk_ptr, bk_row, bk_rv, bk_agg, bk_ifc, bk_fn, bk_tup, bk_dead, BkHs, rvs_inj, nodupL, bk_row])) (bk_ptrs rfl)) (fun K hK => ?_)
  simp -implicitDefEqProofs only [c_style_lengths_1, go_sem]
  refine g_loop (ι := Nat) (fun k => [(4, .rv (.int .i64 k)), (0, .ptr 0 o), (1, .ptr 1 0)]) (fun k => [some (.var (cs.map .rv)), some (.var [.row 2 (v + k) (os.length + k)]), some (.row 1 (v + k) (ptrs 0 (os ++ upto o k)))]) (fun k => k ≤ 4) (fun k => 4 - k) 0 (by simp) (by simpa [upto] using ent_env (by simp [lk])) (fun k hk K' hN hX hR => ?_)

  simp -implicitDefEqProofs only [go_sem]
  refine cdS (fun hg => ?_) (fun hg => ?_)
  · have hk4 : k < 4 := by simp at hg; omega
    have d1 : List.take (os.length + k) (ptrs 0 (os ++ upto o k)) ++ [[SV.ptr 0 (o + k * 2)]] = ptrs 0 (os ++ upto o (k + 1)) := by
      rw [upto_succ, List.take_of_length_le (by simp [ptrs_len, upto_len])]
      simp [ptrs]
    simp -implicitDefEqProofs only [ptrs_len, List.length_append, upto_len, go_sem]
    repeat' (first | (simp -implicitDefEqProofs only [go_sem]) | (with_reducible refine g_noent ?_) | ((first | refine cdS (fun hg => ?_) (fun hg => ?_) | refine gdS (fun hg => ?_) (fun hg => ?_) | refine gddS (fun hg => ?_) (fun hg => ?_)) <;> try simp -implicitDefEqProofs only [hg, Bool.not_true, Bool.not_false]) | ((with_reducible apply And.intro); focus (first | trivial | omega | decide | (simp -implicitDefEqProofs only [maxLen]; omega) | (simp [maxLen, sty_len, nd_len, ndL_len, lnL_len, intsL_len, rvs_len, lensS_len] <;> omega))) | fail)
    rw [d1, wrap_up (by omega)]
    refine hN (k + 1) _ _ (by omega) (by omega) (ent_trim _ (by simp) ?_ ?_)
    · simp [keepL, hget, RnHo, RnAll, rn_row, τk, rn_ptrs, rnAll_map, Nat.add_assoc]
    · simp [lk, rn_rv, rn_ptr, τk]
  · have hk4 : k = 4 := by simp at hg; omega
    subst hk4
    simp -implicitDefEqProofs only [go_sem]
    refine hX _ _ _ ?_
    repeat' (first | (simp -implicitDefEqProofs only [go_sem]) | (with_reducible refine g_noent ?_) | ((first | refine cdS (fun hg => ?_) (fun hg => ?_) | refine gdS (fun hg => ?_) (fun hg => ?_) | refine gddS (fun hg => ?_) (fun hg => ?_)) <;> try simp -implicitDefEqProofs only [hg, Bool.not_true, Bool.not_false]) | ((with_reducible apply And.intro); focus (first | trivial | omega | decide | (simp -implicitDefEqProofs only [maxLen]; omega) | (simp [maxLen, sty_len, nd_len, ndL_len, lnL_len, intsL_len, rvs_len, lensS_len] <;> omega))) | fail)
    refine (hK _ _ _ _ [] (ent_refl _ _) ?_).1
    simp [retM, nodupL, newL, allU, keptL, retP, resL, lk, resT, RnHo, lkp, finU, hget_zero, hget_succ, hget, rnRows_rvs, rn_tup, rn_rv, rn_row, rn_ptr, rn_ifc, rn_agg, rn_dead, RnAll, ofL, rnAll_map, h1, h2, h3, Ne.symm h1, Ne.symm h2, Ne.symm h3, rn_row, rn_ptrs, rnAll_map]

theorem sp_lengths_1n (i j m o : Nat) (cs : List RV) (h1 : i ≠ j) (h2 : i ≠ m) (h3 : j ≠ m) :
    CallR Go.Proofs.Try.prog 116 [.ptr i o, .ptr j 0] [(j, .var [.rv .nilsl]), (i, .var (cs.map .rv))] [(j, .var [.row m 4 4]), (m, .row 1 4 (ptrs i (upto o 4)))] (.tup []) := by
  have := sp_lengths_1 i j m o 0 cs [] h1 h2 h3 (by simp)
  simp -implicitDefEqProofs only [List.length_nil, Nat.zero_add, List.nil_append] at this
  refine callR_ghost (e := 1) (o := 0) (m := m) rfl (by simp [h1, h2]) (Ne.symm h3) (by simp) (by simp) (callR_pre this ?_)
  intro q
  simp [ptrs]
  constructor
  · rintro (h | h | h) <;> simp [h]
  · rintro (h | h | h) <;> simp [h]

def lenOffs : List Nat := [2, 4, 6, 8, 10, 12, 14, 16, 18, 20, 22, 24, 26, 28, 30, 32, 34, 36]

theorem sp_lengths (i m : Nat) (s : Sty) (h1 : i ≠ m) :
    CallR Go.Proofs.Try.prog 106 [.ptr i 0] [(i, .var (s.cells.map .rv))] [(m, .row 1 13 (ptrs i lenOffs))] (.row m 13 18) := by
  refine callR_N k_style_lengths [i] [.var (s.cells.map .rv)] [.var (s.cells.map .rv)] [.ptr 0 0] _ _ _ (by simp) (by simp [BkAll, bk_ptr, bk_row, bk_rv, bk_agg, bk_ifc, bk_fn, bk_tup, bk_dead, BkHs, rvs_inj, nodupL]) rfl (by simp [nodupL]) rfl (fun j x y hx hy => by
    match j with
    | 0 => simp at hx hy; subst hx; subst hy; exact bk_varR
    | j + 1 => simp at hx) (fun K hK => ?_)
  simp -implicitDefEqProofs only [c_style_lengths, go_sem]
  refine g_call (sp_lengths_1n 0 1 2 2 s.cells (by decide) (by decide) (by decide)) (by simp [PreOK, hget]) (by simp [okU, uph]) ?_
  repeat' (first | (simp -implicitDefEqProofs only [go_sem]) | (with_reducible refine g_noent ?_) | ((first | refine cdS (fun hg => ?_) (fun hg => ?_) | refine gdS (fun hg => ?_) (fun hg => ?_) | refine gddS (fun hg => ?_) (fun hg => ?_)) <;> try simp -implicitDefEqProofs only [hg, Bool.not_true, Bool.not_false]) | ((with_reducible apply And.intro); focus (first | trivial | omega | decide | (simp -implicitDefEqProofs only [maxLen]; omega) | (simp [maxLen, sty_len, nd_len, ndL_len, lnL_len, intsL_len, rvs_len, lensS_len] <;> omega))) | fail)
  rw [show List.take 4 (ptrs 0 (upto 2 4)) ++ [[SV.ptr 0 10], [SV.ptr 0 12], [SV.ptr 0 14], [SV.ptr 0 16], [SV.ptr 0 18], [SV.ptr 0 20]] = ptrs 0 [2, 4, 6, 8, 10, 12, 14, 16, 18, 20] from rfl]
  refine g_call (sp_lengths_1 0 1 2 22 5 s.cells [2, 4, 6, 8, 10, 12, 14, 16, 18, 20] (by decide) (by decide) (by decide) (by decide)) (by simp [PreOK, hget]) (by simp [okU, uph]) ?_
  repeat' (first | (simp -implicitDefEqProofs only [go_sem]) | (with_reducible refine g_noent ?_) | ((first | refine cdS (fun hg => ?_) (fun hg => ?_) | refine gdS (fun hg => ?_) (fun hg => ?_) | refine gddS (fun hg => ?_) (fun hg => ?_)) <;> try simp -implicitDefEqProofs only [hg, Bool.not_true, Bool.not_false]) | ((with_reducible apply And.intro); focus (first | trivial | omega | decide | (simp -implicitDefEqProofs only [maxLen]; omega) | (simp [maxLen, sty_len, nd_len, ndL_len, lnL_len, intsL_len, rvs_len, lensS_len] <;> omega))) | fail)
  refine g_call (sp_lengths_1 0 1 2 30 9 s.cells [2, 4, 6, 8, 10, 12, 14, 16, 18, 20, 22, 24, 26, 28] (by decide) (by decide) (by decide) (by decide)) (by simp [PreOK, hget, upto, List.range_succ]) (by simp [okU, uph]) ?_
  repeat' (first | (simp -implicitDefEqProofs only [go_sem]) | (with_reducible refine g_noent ?_) | ((first | refine cdS (fun hg => ?_) (fun hg => ?_) | refine gdS (fun hg => ?_) (fun hg => ?_) | refine gddS (fun hg => ?_) (fun hg => ?_)) <;> try simp -implicitDefEqProofs only [hg, Bool.not_true, Bool.not_false]) | ((with_reducible apply And.intro); focus (first | trivial | omega | decide | (simp -implicitDefEqProofs only [maxLen]; omega) | (simp [maxLen, sty_len, nd_len, ndL_len, lnL_len, intsL_len, rvs_len, lensS_len] <;> omega))) | fail)
  refine (hK _ _ _ _ [none, some m, none] (ent_refl _ _) ?_).2
  rw [show 2 :: 4 :: 6 :: 8 :: 10 :: 12 :: 14 :: 16 :: 18 :: 20 :: 22 :: 24 :: 26 :: 28 :: upto 30 4 = lenOffs from rfl]
  simp [retM, nodupL, newL, allU, keptL, retP, resL, lk, resT, RnHo, lkp, finU, hget_zero, hget_succ, hget, rnRows_rvs, rn_tup, rn_rv, rn_row, rn_ptr, rn_ifc, rn_agg, rn_dead, RnAll, ofL, rnAll_map, h1, Ne.symm h1, rn_row, rn_ptrs, rnAll_map]
end Go.Eng


/- styles: which are formed, and within the limits: the program's. -/
namespace Go.Eng
open Go
/- decoupage/style.Formed -/
def c_style_Formed : AC := (.seq (.reg [⟨(some 1), .box, [(.t 0)], none⟩, ⟨(some 2), .mv, [(.c (.rv (.bool false)))], none⟩]) (.seq (.seq (.reg [⟨(some 8), (.call 106), [(.t 1)], none⟩, ⟨(some 9), .len, [(.t 8)], none⟩, ⟨(some 10), .mv, [(.c (.rv (.int .i64 0)))], none⟩]) (.seq (.block 0 (.loop (.seq (.reg [⟨(some 11), (.ibin .lss), [(.t 10), (.t 9)], none⟩]) (.seq (.cond (.t 11) .skip (.exit 0)) (.seq (.seq (.block 1 (.seq (.reg [⟨(some 12), (.ixs 1), [(.t 8), (.t 10)], none⟩, ⟨(some 13), (.load 1 false), [(.t 12)], none⟩, ⟨(some 4), .mv, [(.t 13)], none⟩]) (.seq (.reg [⟨(some 14), .mv, [(.t 4)], none⟩, ⟨(some 15), .nilchk, [(.t 14)], none⟩, ⟨(some 16), (.load 2 true), [(.t 15)], none⟩, ⟨(some 17), (.call 108), [(.t 16)], none⟩, ⟨(some 18), .not, [(.t 17)], none⟩]) (.cond (.t 18) (.seq (.reg [⟨(some 2), .mv, [(.c (.rv (.bool false)))], none⟩]) .ret) .skip)))) .ent) (.reg [⟨(some 19), (.ibin .add), [(.t 10), (.c (.rv (.int .i64 1)))], none⟩, ⟨(some 10), .mv, [(.t 19)], none⟩])))))) .ent)) (.seq (.seq (.reg [⟨(some 20), (.fld 10), [(.t 1)], none⟩, ⟨(some 21), (.load 2 true), [(.t 20)], none⟩, ⟨(some 22), (.fld 12), [(.t 1)], none⟩, ⟨(some 23), (.load 2 true), [(.t 22)], none⟩, ⟨(some 24), (.fld 14), [(.t 1)], none⟩, ⟨(some 25), (.load 2 true), [(.t 24)], none⟩, ⟨(some 26), (.fld 16), [(.t 1)], none⟩, ⟨(some 27), (.load 2 true), [(.t 26)], none⟩, ⟨(some 28), (.fld 18), [(.t 1)], none⟩, ⟨(some 29), (.load 2 true), [(.t 28)], none⟩, ⟨(some 30), (.fld 20), [(.t 1)], none⟩, ⟨(some 31), (.load 2 true), [(.t 30)], none⟩, ⟨(some 32), (.bsl 2), [(.t 21), (.t 23), (.t 25), (.t 27), (.t 29), (.t 31)], none⟩, ⟨(some 33), .len, [(.t 32)], none⟩, ⟨(some 34), .mv, [(.c (.rv (.int .i64 0)))], none⟩]) (.seq (.block 2 (.loop (.seq (.reg [⟨(some 35), (.ibin .lss), [(.t 34), (.t 33)], none⟩]) (.seq (.cond (.t 35) .skip (.exit 2)) (.seq (.seq (.block 3 (.seq (.reg [⟨(some 36), (.ixs 2), [(.t 32), (.t 34)], none⟩, ⟨(some 37), (.load 2 true), [(.t 36)], none⟩, ⟨(some 6), (.alloc [(.int .i64 0), (.int .i64 0)]), [], none⟩, ⟨none, (.store 2), [(.t 6), (.t 37)], none⟩]) (.seq (.reg [⟨(some 38), (.fld 1), [(.t 6)], none⟩, ⟨(some 39), (.load 1 false), [(.t 38)], none⟩, ⟨(some 40), (.ibin .lss), [(.t 39), (.c (.rv (.int .i64 0)))], none⟩]) (.cond (.t 40) (.seq (.reg [⟨(some 2), .mv, [(.c (.rv (.bool false)))], none⟩]) .ret) .skip)))) .ent) (.reg [⟨(some 41), (.ibin .add), [(.t 34), (.c (.rv (.int .i64 1)))], none⟩, ⟨(some 34), .mv, [(.t 41)], none⟩])))))) .ent)) (.seq (.seq (.reg [⟨(some 42), .mv, [(.c (.rv (.int .i64 0)))], none⟩]) (.seq (.block 4 (.loop (.seq (.reg [⟨(some 43), (.ibin .lss), [(.t 42), (.c (.rv (.int .i64 4)))], none⟩]) (.seq (.cond (.t 43) .skip (.exit 4)) (.seq (.seq (.block 5 (.seq (.reg [⟨(some 44), .mv, [(.t 42)], none⟩, ⟨(some 7), .mv, [(.t 44)], none⟩]) (.seq (.reg [⟨(some 45), .mv, [(.t 7)], none⟩, ⟨(some 46), (.fld 30), [(.t 1)], none⟩, ⟨(some 47), (.ixa 4 2), [(.t 46), (.t 45)], none⟩, ⟨(some 48), (.fld 0), [(.t 47)], none⟩, ⟨(some 49), (.load 1 false), [(.t 48)], none⟩, ⟨(some 50), (.ibin .eql), [(.t 49), (.c (.rv (.int .i64 0)))], none⟩, ⟨(some 51), .mv, [(.t 50)], none⟩, ⟨(some 52), .mv, [(.t 7)], (some (51, false))⟩, ⟨(some 53), (.fld 30), [(.t 1)], (some (51, false))⟩, ⟨(some 54), (.ixa 4 2), [(.t 53), (.t 52)], (some (51, false))⟩, ⟨(some 55), (.fld 1), [(.t 54)], (some (51, false))⟩, ⟨(some 56), (.load 1 false), [(.t 55)], (some (51, false))⟩, ⟨(some 57), (.ibin .lss), [(.t 56), (.c (.rv (.int .i64 0)))], (some (51, false))⟩, ⟨(some 58), .pick, [(.t 51), (.c (.rv (.bool true))), (.t 57)], none⟩, ⟨(some 59), .mv, [(.t 58)], none⟩, ⟨(some 60), .mv, [(.t 7)], (some (59, false))⟩, ⟨(some 61), (.fld 38), [(.t 1)], (some (59, false))⟩, ⟨(some 62), (.ixa 4 1), [(.t 61), (.t 60)], (some (59, false))⟩, ⟨(some 63), (.load 1 false), [(.t 62)], (some (59, false))⟩, ⟨(some 64), (.ibin .lss), [(.t 63), (.c (.rv (.int .i64 0)))], (some (59, false))⟩, ⟨(some 65), .pick, [(.t 59), (.c (.rv (.bool true))), (.t 64)], none⟩]) (.cond (.t 65) (.seq (.reg [⟨(some 2), .mv, [(.c (.rv (.bool false)))], none⟩]) .ret) .skip)))) .ent) (.reg [⟨(some 66), (.ibin .add), [(.t 42), (.c (.rv (.int .i64 1)))], none⟩, ⟨(some 42), .mv, [(.t 66)], none⟩])))))) .ent)) (.seq (.reg [⟨(some 67), (.fld 1), [(.t 1)], none⟩, ⟨(some 68), (.load 1 false), [(.t 67)], none⟩, ⟨(some 69), (.ibin .geq), [(.t 68), (.c (.rv (.int .i64 0)))], none⟩, ⟨(some 70), .mv, [(.t 69)], none⟩, ⟨(some 71), (.fld 1), [(.t 1)], (some (70, true))⟩, ⟨(some 72), (.load 1 false), [(.t 71)], (some (70, true))⟩, ⟨(some 73), (.ibin .leq), [(.t 72), (.c (.rv (.int .i64 3)))], (some (70, true))⟩, ⟨(some 74), .pick, [(.t 70), (.t 73), (.c (.rv (.bool false)))], none⟩, ⟨(some 75), .mv, [(.t 74)], none⟩, ⟨(some 76), (.fld 46), [(.t 1)], (some (75, true))⟩, ⟨(some 77), (.load 1 false), [(.t 76)], (some (75, true))⟩, ⟨(some 78), (.ibin .geq), [(.t 77), (.c (.rv (.int .i64 0)))], (some (75, true))⟩, ⟨(some 79), .pick, [(.t 75), (.t 78), (.c (.rv (.bool false)))], none⟩, ⟨(some 80), .mv, [(.t 79)], none⟩, ⟨(some 81), (.fld 47), [(.t 1)], (some (80, true))⟩, ⟨(some 82), (.load 1 false), [(.t 81)], (some (80, true))⟩, ⟨(some 83), (.ibin .geq), [(.t 82), (.c (.rv (.int .i64 0)))], (some (80, true))⟩, ⟨(some 84), .pick, [(.t 80), (.t 83), (.c (.rv (.bool false)))], none⟩, ⟨(some 85), .mv, [(.t 84)], none⟩, ⟨(some 86), (.fld 43), [(.t 1)], (some (85, true))⟩, ⟨(some 87), (.load 1 false), [(.t 86)], (some (85, true))⟩, ⟨(some 88), .mv, [(.t 87)], (some (85, true))⟩, ⟨(some 89), (.fld 44), [(.t 1)], (some (88, false))⟩, ⟨(some 90), (.load 1 false), [(.t 89)], (some (88, false))⟩, ⟨(some 91), (.ibin .eql), [(.t 90), (.c (.rv (.int .i64 0)))], (some (88, false))⟩, ⟨(some 92), .pick, [(.t 88), (.c (.rv (.bool true))), (.t 91)], (some (85, true))⟩, ⟨(some 93), .pick, [(.t 85), (.t 92), (.c (.rv (.bool false)))], none⟩, ⟨(some 2), .mv, [(.t 93)], none⟩]) .ret)))))
theorem k_style_Formed : FnOK Go.Proofs.Try.prog 85 94 c_style_Formed [(.t 2)] := fnOK_of (by kernel_rfl)

/- decoupage/style.Within -/
def c_style_Within : AC := (.seq (.reg [⟨(some 1), .box, [(.t 0)], none⟩, ⟨(some 2), .mv, [(.c (.rv (.bool false)))], none⟩]) (.seq (.seq (.reg [⟨(some 7), (.call 106), [(.t 1)], none⟩, ⟨(some 8), .len, [(.t 7)], none⟩, ⟨(some 9), .mv, [(.c (.rv (.int .i64 0)))], none⟩]) (.seq (.block 0 (.loop (.seq (.reg [⟨(some 10), (.ibin .lss), [(.t 9), (.t 8)], none⟩]) (.seq (.cond (.t 10) .skip (.exit 0)) (.seq (.seq (.block 1 (.seq (.reg [⟨(some 11), (.ixs 1), [(.t 7), (.t 9)], none⟩, ⟨(some 12), (.load 1 false), [(.t 11)], none⟩, ⟨(some 4), .mv, [(.t 12)], none⟩]) (.seq (.reg [⟨(some 13), .mv, [(.t 4)], none⟩, ⟨(some 14), .nilchk, [(.t 13)], none⟩, ⟨(some 15), (.fld 0), [(.t 14)], none⟩, ⟨(some 16), (.load 1 false), [(.t 15)], none⟩, ⟨(some 17), (.ibin .eql), [(.t 16), (.c (.rv (.int .i64 1)))], none⟩, ⟨(some 18), .mv, [(.t 17)], none⟩, ⟨(some 19), .mv, [(.t 4)], (some (18, true))⟩, ⟨(some 20), .nilchk, [(.t 19)], (some (18, true))⟩, ⟨(some 21), (.fld 1), [(.t 20)], (some (18, true))⟩, ⟨(some 22), (.load 1 false), [(.t 21)], (some (18, true))⟩, ⟨(some 23), (.call 107), [(.t 22), (.c (.rv (.int .i64 1099511627776)))], (some (18, true))⟩, ⟨(some 24), .not, [(.t 23)], (some (18, true))⟩, ⟨(some 25), .pick, [(.t 18), (.t 24), (.c (.rv (.bool false)))], none⟩, ⟨(some 26), .mv, [(.t 25)], none⟩, ⟨(some 27), .mv, [(.t 4)], (some (26, false))⟩, ⟨(some 28), .nilchk, [(.t 27)], (some (26, false))⟩, ⟨(some 29), (.fld 0), [(.t 28)], (some (26, false))⟩, ⟨(some 30), (.load 1 false), [(.t 29)], (some (26, false))⟩, ⟨(some 31), (.ibin .eql), [(.t 30), (.c (.rv (.int .i64 2)))], (some (26, false))⟩, ⟨(some 32), .mv, [(.t 31)], (some (26, false))⟩, ⟨(some 33), .mv, [(.t 4)], (some (32, true))⟩, ⟨(some 34), .nilchk, [(.t 33)], (some (32, true))⟩, ⟨(some 35), (.fld 1), [(.t 34)], (some (32, true))⟩, ⟨(some 36), (.load 1 false), [(.t 35)], (some (32, true))⟩, ⟨(some 37), (.call 107), [(.t 36), (.c (.rv (.int .i64 1000000)))], (some (32, true))⟩, ⟨(some 38), .not, [(.t 37)], (some (32, true))⟩, ⟨(some 39), .pick, [(.t 32), (.t 38), (.c (.rv (.bool false)))], (some (26, false))⟩, ⟨(some 40), .pick, [(.t 26), (.c (.rv (.bool true))), (.t 39)], none⟩]) (.cond (.t 40) (.seq (.reg [⟨(some 2), .mv, [(.c (.rv (.bool false)))], none⟩]) .ret) .skip)))) .ent) (.reg [⟨(some 41), (.ibin .add), [(.t 9), (.c (.rv (.int .i64 1)))], none⟩, ⟨(some 9), .mv, [(.t 41)], none⟩])))))) .ent)) (.seq (.seq (.reg [⟨(some 42), (.fld 38), [(.t 1)], none⟩, ⟨(some 43), (.load 4 true), [(.t 42)], none⟩, ⟨(some 44), .mv, [(.c (.rv (.int .i64 0)))], none⟩]) (.seq (.block 2 (.loop (.seq (.reg [⟨(some 45), (.ibin .lss), [(.t 44), (.c (.rv (.int .i64 4)))], none⟩]) (.seq (.cond (.t 45) .skip (.exit 2)) (.seq (.seq (.block 3 (.seq (.reg [⟨(some 46), (.ixv 4 1 false), [(.t 43), (.t 44)], none⟩, ⟨(some 6), .mv, [(.t 46)], none⟩]) (.seq (.reg [⟨(some 47), .mv, [(.t 6)], none⟩, ⟨(some 48), (.ibin .gtr), [(.t 47), (.c (.rv (.int .i64 1099511627776)))], none⟩]) (.cond (.t 48) (.seq (.reg [⟨(some 2), .mv, [(.c (.rv (.bool false)))], none⟩]) .ret) .skip)))) .ent) (.reg [⟨(some 49), (.ibin .add), [(.t 44), (.c (.rv (.int .i64 1)))], none⟩, ⟨(some 44), .mv, [(.t 49)], none⟩])))))) .ent)) (.seq (.reg [⟨(some 50), (.fld 44), [(.t 1)], none⟩, ⟨(some 51), (.load 1 false), [(.t 50)], none⟩, ⟨(some 52), (.call 107), [(.t 51), (.c (.rv (.int .i64 1073741824)))], none⟩, ⟨(some 53), .mv, [(.t 52)], none⟩, ⟨(some 54), (.fld 46), [(.t 1)], (some (53, true))⟩, ⟨(some 55), (.load 1 false), [(.t 54)], (some (53, true))⟩, ⟨(some 56), (.ibin .leq), [(.t 55), (.c (.rv (.int .i64 16777216)))], (some (53, true))⟩, ⟨(some 57), .pick, [(.t 53), (.t 56), (.c (.rv (.bool false)))], none⟩, ⟨(some 58), .mv, [(.t 57)], none⟩, ⟨(some 59), (.fld 47), [(.t 1)], (some (58, true))⟩, ⟨(some 60), (.load 1 false), [(.t 59)], (some (58, true))⟩, ⟨(some 61), (.ibin .leq), [(.t 60), (.c (.rv (.int .i64 16777216)))], (some (58, true))⟩, ⟨(some 62), .pick, [(.t 58), (.t 61), (.c (.rv (.bool false)))], none⟩, ⟨(some 2), .mv, [(.t 62)], none⟩]) .ret))))
theorem k_style_Within : FnOK Go.Proofs.Try.prog 78 63 c_style_Within [(.t 2)] := fnOK_of (by kernel_rfl)


theorem lenOffs_get (s : Sty) {k : Nat} (h : k < 18) : ∃ o, lenOffs[k]? = some o ∧ ((s.cells.map SV.rv).drop o).take 2 = ((lensS s)[k]'h).cells.map SV.rv ∧ o + 2 ≤ 48 := by
  have : k = 0 ∨ k = 1 ∨ k = 2 ∨ k = 3 ∨ k = 4 ∨ k = 5 ∨ k = 6 ∨ k = 7 ∨ k = 8 ∨ k = 9 ∨ k = 10 ∨ k = 11 ∨ k = 12 ∨ k = 13 ∨ k = 14 ∨ k = 15 ∨ k = 16 ∨ k = 17 := by omega
  rcases this with rfl | rfl | rfl | rfl | rfl | rfl | rfl | rfl | rfl | rfl | rfl | rfl | rfl | rfl | rfl | rfl | rfl | rfl <;> exact ⟨_, rfl, rfl, by decide⟩

theorem lenOffs_cells (s : Sty) {k o : Nat} (h : k < 18) (ho : lenOffs[k]? = some o) : (s.cells.map SV.rv)[o]? = some (.rv (.int .i64 ((lensS s)[k]'h).kind)) ∧ (s.cells.map SV.rv)[o + 1]? = some (.rv (.int .i64 ((lensS s)[k]'h).n)) := by
  have : k = 0 ∨ k = 1 ∨ k = 2 ∨ k = 3 ∨ k = 4 ∨ k = 5 ∨ k = 6 ∨ k = 7 ∨ k = 8 ∨ k = 9 ∨ k = 10 ∨ k = 11 ∨ k = 12 ∨ k = 13 ∨ k = 14 ∨ k = 15 ∨ k = 16 ∨ k = 17 := by omega
  rcases this with rfl | rfl | rfl | rfl | rfl | rfl | rfl | rfl | rfl | rfl | rfl | rfl | rfl | rfl | rfl | rfl | rfl | rfl <;> (cases ho; exact ⟨rfl, rfl⟩)

theorem ptr_len18 {k : Nat} {i o : Nat} (h : lenOffs[k]? = some o) : (ptrs i lenOffs)[k]?.getD [] = [.ptr i o] := by
  simp [ptrs, List.getElem?_map, h]

def sixS (s : Sty) : List Ln := [s.width, s.height, s.minW, s.maxW, s.minH, s.maxH]
def padTo (s : Sty) (k : Nat) : Bool := (List.range k).all fun j => padOK (nthQ s.pad j) (nthQ s.border j)
theorem padTo_succ (s : Sty) (k : Nat) : padTo s (k + 1) = (padTo s k && padOK (nthQ s.pad k) (nthQ s.border k)) := by simp [padTo, List.range_succ]
theorem padTo_4 (s : Sty) : padTo s 4 = (padOK s.pad.a s.border.a && padOK s.pad.b s.border.b && padOK s.pad.c s.border.c && padOK s.pad.d s.border.d) := by
  simp [padTo, List.range_succ, nthQ, Bool.and_assoc]

theorem sp_style_Formed (s : Sty) : CallR Go.Proofs.Try.prog 85 [s.sv] [] [] (.rv (.bool (styOK s))) := by
  refine callR_G k_style_Formed [s.sv] _ (by simp) (by simp [BkAll, bk_agg, bkAll_map, bk_rv, bk_fn, Sty.sv, Ln.sv, Nd.sv]) (fun K hK => ?_)
  have bad : ∀ e h, lk e 2 = .rv (.bool false) → styOK s = false → K .ret ⟨e, h⟩ := fun e h l2 hf => (hK _ _ (ret_t (by rw [l2, hf]))).2
  simp -implicitDefEqProofs only [c_style_Formed, Sty.sv, go_sem]
  refine g_call (sp_lengths 0 1 s (by decide)) (by simp [PreOK, hget]) (by simp [okU, uph]) ?_
  simp -implicitDefEqProofs only [go_sem]
  refine g_loop (ι := Nat) (fun k => [(10, .rv (.int .i64 k)), (9, .rv (.int .i64 18)), (8, .row 1 13 18), (1, .ptr 0 0)]) (fun k => [some (.var (s.cells.map .rv)), some (.row 1 13 (ptrs 0 lenOffs))]) (fun k => k ≤ 18 ∧ ((lensS s).drop k).all lnOK = (lensS s).all lnOK) (fun k => 18 - k) 0 (by simp) (ent_env (by simp [lk])) (fun k hk K' hN hX hR => ?_)
  obtain ⟨hk1, hk2⟩ := hk
  simp -implicitDefEqProofs only [go_sem]
  refine cdS (fun hg => ?_) (fun hg => ?_)
  · have hk4 : k < 18 := by simp at hg; omega
    obtain ⟨o, ho, hln, ho2⟩ := lenOffs_get s hk4
    have hpl := ptr_len18 (i := 0) ho
    have hpn : (ptrs 0 lenOffs).length = 18 := rfl
    have y_1 := sp_style_formed ((lensS s)[k]'hk4); repeat' (first | (simp -implicitDefEqProofs only [go_sem, hpl, hpn, hln]) | (with_reducible refine g_noent ?_) | (with_reducible first | refine g_call0 y_1 ?_ | refine g_calld0 y_1 ?_) | ((first | refine cdS (fun hg => ?_) (fun hg => ?_) | refine gdS (fun hg => ?_) (fun hg => ?_) | refine gddS (fun hg => ?_) (fun hg => ?_)) <;> try simp -implicitDefEqProofs only [hg, Bool.not_true, Bool.not_false]) | ((with_reducible apply And.intro); focus (first | trivial | omega | decide | (simp -implicitDefEqProofs only [maxLen]; omega) | (simp [maxLen, sty_len, nd_len, ndL_len, lnL_len, intsL_len, rvs_len, lensS_len] <;> omega))) | fail)
    · refine hR _ _ (bad _ _ rfl ?_)
      simp -implicitDefEqProofs only [styOK, all_fail hk4 hk2 (by simpa using hg), Bool.false_and]
    · rw [wrap_up (by omega)]
      exact hN (k + 1) _ _ ⟨by omega, all_next hk4 hk2 (by simpa using hg)⟩ (by omega) (ent_env (by simp [lk]))
  · have hk4 : k = 18 := by simp at hg; omega
    subst hk4
    have hall := all_done (by rw [lensS_len]; omega) hk2
    simp -implicitDefEqProofs only [go_sem]
    refine hX _ _ _ ?_
    repeat' (first | (simp -implicitDefEqProofs only [go_sem, sty_at0, sty_rd0, sty_at1, sty_rd1, sty_at2, sty_rd2, sty_at3, sty_rd3, sty_at4, sty_rd4, sty_at5, sty_rd5, sty_at6, sty_rd6, sty_at7, sty_rd7, sty_at8, sty_rd8, sty_at9, sty_rd9, sty_at10, sty_rd10, sty_at11, sty_rd11, sty_at12, sty_rd12, sty_at13, sty_rd13, sty_at14, sty_rd14, sty_at15, sty_rd15, sty_at16, sty_rd16, sty_at17, sty_rd17, sty_at18, sty_rd18, sty_at19, sty_rd19, sty_at20, sty_rd20, sty_at21, sty_rd21, sty_at22, sty_rd22, sty_at23, sty_rd23, sty_at24, sty_rd24, sty_at25, sty_rd25, sty_at26, sty_rd26, sty_at27, sty_rd27, sty_at28, sty_rd28, sty_at29, sty_rd29, sty_at30, sty_rd30, sty_at31, sty_rd31, sty_at32, sty_rd32, sty_at33, sty_rd33, sty_at34, sty_rd34, sty_at35, sty_rd35, sty_at36, sty_rd36, sty_at37, sty_rd37, sty_at38, sty_rd38, sty_at39, sty_rd39, sty_at40, sty_rd40, sty_at41, sty_rd41, sty_at42, sty_rd42, sty_at43, sty_rd43, sty_at44, sty_rd44, sty_at45, sty_rd45, sty_at46, sty_rd46, sty_at47, sty_rd47, sty_ln2, sty_ln10, sty_ln12, sty_ln14, sty_ln16, sty_ln18, sty_ln20, sty_ln22, sty_ln30, sty_ln38, sty_all, sty_all2, sty_len, Ln.cells]) | (with_reducible refine g_noent ?_) | ((first | refine cdS (fun hg => ?_) (fun hg => ?_) | refine gdS (fun hg => ?_) (fun hg => ?_) | refine gddS (fun hg => ?_) (fun hg => ?_)) <;> try simp -implicitDefEqProofs only [hg, Bool.not_true, Bool.not_false]) | ((with_reducible apply And.intro); focus (first | trivial | omega | decide | (simp -implicitDefEqProofs only [maxLen]; omega) | (simp [maxLen, sty_len, nd_len, ndL_len, lnL_len, intsL_len, rvs_len, lensS_len] <;> omega))) | fail)
    refine g_loop (ι := Nat) (fun k => [(34, .rv (.int .i64 k)), (33, .rv (.int .i64 6)), (32, .row 2 0 6), (1, .ptr 0 0)]) (fun k => [some (.var (s.cells.map .rv)), some (.row 1 13 (ptrs 0 lenOffs)), some (.row 2 0 (rvs (lnL (sixS s))))]) (fun k => k ≤ 6 ∧ ((sixS s).drop k).all (fun x => decide (0 ≤ x.n)) = (sixS s).all (fun x => decide (0 ≤ x.n))) (fun k => 6 - k) 0 (by simp) (ent_env (by simp [lk])) (fun k hk K' hN hX hR => ?_)
    obtain ⟨hk1, hk2⟩ := hk
    simp -implicitDefEqProofs only [go_sem]
    refine cdS (fun hg => ?_) (fun hg => ?_)
    · have hk4 : k < 6 := by simp at hg; omega
      have hx := lnL_get (l := sixS s) hk4
      have hl6 : (lnL (sixS s)).length = 6 := rfl
      repeat' (first | (simp -implicitDefEqProofs only [go_sem, hx, hl6, Ln.cells]) | (with_reducible refine g_noent ?_) | ((first | refine cdS (fun hg => ?_) (fun hg => ?_) | refine gdS (fun hg => ?_) (fun hg => ?_) | refine gddS (fun hg => ?_) (fun hg => ?_)) <;> try simp -implicitDefEqProofs only [hg, Bool.not_true, Bool.not_false]) | ((with_reducible apply And.intro); focus (first | trivial | omega | decide | (simp -implicitDefEqProofs only [maxLen]; omega) | (simp [maxLen, sty_len, nd_len, ndL_len, lnL_len, intsL_len, rvs_len, lensS_len] <;> omega))) | fail)
      · refine hR _ _ (bad _ _ rfl ?_)
        simp -implicitDefEqProofs only [styOK]
        rw [show [s.width, s.height, s.minW, s.maxW, s.minH, s.maxH] = sixS s from rfl, all_fail hk4 hk2 (by simp at hg ⊢; omega)]
        simp
      · rw [wrap_up (by omega)]
        exact hN (k + 1) _ _ ⟨by omega, all_next hk4 hk2 (by simp at hg ⊢; omega)⟩ (by omega) (ent_trim _ (by simp) (by simp [keepL, hget, RnHo, rnAll_map, rn_ptrs, rnRows_rvs, τk]) (by simp [lk, rn_rv, rn_ptr, rn_row, τk]))
    · have hk4 : k = 6 := by simp at hg; omega
      subst hk4
      have hall6 := all_done (by simp [sixS]) hk2
      simp -implicitDefEqProofs only [go_sem]
      refine hX _ _ _ ?_
      repeat' (first | (simp -implicitDefEqProofs only [go_sem]) | (with_reducible refine g_noent ?_) | ((first | refine cdS (fun hg => ?_) (fun hg => ?_) | refine gdS (fun hg => ?_) (fun hg => ?_) | refine gddS (fun hg => ?_) (fun hg => ?_)) <;> try simp -implicitDefEqProofs only [hg, Bool.not_true, Bool.not_false]) | ((with_reducible apply And.intro); focus (first | trivial | omega | decide | (simp -implicitDefEqProofs only [maxLen]; omega) | (simp [maxLen, sty_len, nd_len, ndL_len, lnL_len, intsL_len, rvs_len, lensS_len] <;> omega))) | fail)
      refine g_loop (ι := Nat) (fun k => [(42, .rv (.int .i64 k)), (1, .ptr 0 0)]) (fun k => [some (.var (s.cells.map .rv))]) (fun k => k ≤ 4 ∧ padTo s k = true) (fun k => 4 - k) 0 (by simp [padTo]) (ent_trim _ (by simp) (by simp [keepL, hget, RnHo, rnAll_map, τk]) (by simp [lk, rn_rv, rn_ptr, rn_row, τk])) (fun k hk K' hN hX hR => ?_)
      obtain ⟨hk1, hk2⟩ := hk
      simp -implicitDefEqProofs only [go_sem]
      refine cdS (fun hg => ?_) (fun hg => ?_)
      · have hk4 : k < 4 := by simp at hg; omega
        have hn : padOK (nthQ s.pad k) (nthQ s.border k) = true → padTo s (k + 1) = true := fun h => by rw [padTo_succ, hk2, h]; rfl
        have hb : padOK (nthQ s.pad k) (nthQ s.border k) = false → styOK s = false := fun h => by
          have : k = 0 ∨ k = 1 ∨ k = 2 ∨ k = 3 := by omega
          rcases this with rfl | rfl | rfl | rfl <;> simp_all [styOK, nthQ]
        have : k = 0 ∨ k = 1 ∨ k = 2 ∨ k = 3 := by omega
        rcases this with rfl | rfl | rfl | rfl
        all_goals
          repeat' (first | (simp -implicitDefEqProofs only [go_sem, sty_at0, sty_rd0, sty_at1, sty_rd1, sty_at2, sty_rd2, sty_at3, sty_rd3, sty_at4, sty_rd4, sty_at5, sty_rd5, sty_at6, sty_rd6, sty_at7, sty_rd7, sty_at8, sty_rd8, sty_at9, sty_rd9, sty_at10, sty_rd10, sty_at11, sty_rd11, sty_at12, sty_rd12, sty_at13, sty_rd13, sty_at14, sty_rd14, sty_at15, sty_rd15, sty_at16, sty_rd16, sty_at17, sty_rd17, sty_at18, sty_rd18, sty_at19, sty_rd19, sty_at20, sty_rd20, sty_at21, sty_rd21, sty_at22, sty_rd22, sty_at23, sty_rd23, sty_at24, sty_rd24, sty_at25, sty_rd25, sty_at26, sty_rd26, sty_at27, sty_rd27, sty_at28, sty_rd28, sty_at29, sty_rd29, sty_at30, sty_rd30, sty_at31, sty_rd31, sty_at32, sty_rd32, sty_at33, sty_rd33, sty_at34, sty_rd34, sty_at35, sty_rd35, sty_at36, sty_rd36, sty_at37, sty_rd37, sty_at38, sty_rd38, sty_at39, sty_rd39, sty_at40, sty_rd40, sty_at41, sty_rd41, sty_at42, sty_rd42, sty_at43, sty_rd43, sty_at44, sty_rd44, sty_at45, sty_rd45, sty_at46, sty_rd46, sty_at47, sty_rd47, sty_ln2, sty_ln10, sty_ln12, sty_ln14, sty_ln16, sty_ln18, sty_ln20, sty_ln22, sty_ln30, sty_ln38, sty_all, sty_all2, sty_len]) | (with_reducible refine g_noent ?_) | ((first | refine cdS (fun hg => ?_) (fun hg => ?_) | refine gdS (fun hg => ?_) (fun hg => ?_) | refine gddS (fun hg => ?_) (fun hg => ?_)) <;> try simp -implicitDefEqProofs only [hg, Bool.not_true, Bool.not_false]) | ((with_reducible apply And.intro); focus (first | trivial | omega | decide | (simp -implicitDefEqProofs only [maxLen]; omega) | (simp [maxLen, sty_len, nd_len, ndL_len, lnL_len, intsL_len, rvs_len, lensS_len] <;> omega))) | fail)
        all_goals first
          | (refine hR _ _ (bad _ _ rfl (hb ?_)); clear hN hX hR hb hn bad hK; simp_all [padOK, nthQ, beqD]; done)
          | (rw [wrap_up (by omega)]; refine hN _ _ _ ⟨by omega, hn ?_⟩ (by omega) (ent_env (by simp [lk])); clear hN hX hR hb hn bad hK; simp_all [padOK, nthQ, beqD]; done)
      · have hk4 : k = 4 := by simp at hg; omega
        subst hk4
        rw [padTo_4] at hk2
        simp -implicitDefEqProofs only [go_sem]
        refine hX _ _ _ ?_
        have fin : ∀ e h, lk e 2 = .rv (.bool (tailOK s)) → K .ret ⟨e, h⟩ := fun e h l2 => (hK _ _ (ret_t (by rw [l2, styOK, hall, hk2]; rw [show [s.width, s.height, s.minW, s.maxW, s.minH, s.maxH] = sixS s from rfl, hall6]; rfl))).2
        clear hK hN hX hR bad
        repeat' (first | (simp -implicitDefEqProofs only [go_sem, sty_at0, sty_rd0, sty_at1, sty_rd1, sty_at2, sty_rd2, sty_at3, sty_rd3, sty_at4, sty_rd4, sty_at5, sty_rd5, sty_at6, sty_rd6, sty_at7, sty_rd7, sty_at8, sty_rd8, sty_at9, sty_rd9, sty_at10, sty_rd10, sty_at11, sty_rd11, sty_at12, sty_rd12, sty_at13, sty_rd13, sty_at14, sty_rd14, sty_at15, sty_rd15, sty_at16, sty_rd16, sty_at17, sty_rd17, sty_at18, sty_rd18, sty_at19, sty_rd19, sty_at20, sty_rd20, sty_at21, sty_rd21, sty_at22, sty_rd22, sty_at23, sty_rd23, sty_at24, sty_rd24, sty_at25, sty_rd25, sty_at26, sty_rd26, sty_at27, sty_rd27, sty_at28, sty_rd28, sty_at29, sty_rd29, sty_at30, sty_rd30, sty_at31, sty_rd31, sty_at32, sty_rd32, sty_at33, sty_rd33, sty_at34, sty_rd34, sty_at35, sty_rd35, sty_at36, sty_rd36, sty_at37, sty_rd37, sty_at38, sty_rd38, sty_at39, sty_rd39, sty_at40, sty_rd40, sty_at41, sty_rd41, sty_at42, sty_rd42, sty_at43, sty_rd43, sty_at44, sty_rd44, sty_at45, sty_rd45, sty_at46, sty_rd46, sty_at47, sty_rd47, sty_ln2, sty_ln10, sty_ln12, sty_ln14, sty_ln16, sty_ln18, sty_ln20, sty_ln22, sty_ln30, sty_ln38, sty_all, sty_all2, sty_len]) | (with_reducible refine g_noent ?_) | ((first | refine cdS (fun hg => ?_) (fun hg => ?_) | refine gdS (fun hg => ?_) (fun hg => ?_) | refine gddS (fun hg => ?_) (fun hg => ?_)) <;> try simp -implicitDefEqProofs only [hg, Bool.not_true, Bool.not_false]) | ((with_reducible apply And.intro); focus (first | trivial | omega | decide | (simp -implicitDefEqProofs only [maxLen]; omega) | (simp [maxLen, sty_len, nd_len, ndL_len, lnL_len, intsL_len, rvs_len, lensS_len] <;> omega))) | fail)
        all_goals (refine fin _ _ ?_; (simp_all [lk, tailOK, beqD]) <;> (try (intros; omega)))

theorem sp_style_Within (s : Sty) : CallR Go.Proofs.Try.prog 78 [s.sv] [] [] (.rv (.bool (styIn s))) := by
  refine callR_G k_style_Within [s.sv] _ (by simp) (by simp [BkAll, bk_agg, bkAll_map, bk_rv, bk_fn, Sty.sv, Ln.sv, Nd.sv]) (fun K hK => ?_)
  have bad : ∀ e h, lk e 2 = .rv (.bool false) → styIn s = false → K .ret ⟨e, h⟩ := fun e h l2 hf => (hK _ _ (ret_t (by rw [l2, hf]))).2
  simp -implicitDefEqProofs only [c_style_Within, Sty.sv, go_sem]
  refine g_call (sp_lengths 0 1 s (by decide)) (by simp [PreOK, hget]) (by simp [okU, uph]) ?_
  simp -implicitDefEqProofs only [go_sem]
  refine g_loop (ι := Nat) (fun k => [(9, .rv (.int .i64 k)), (8, .rv (.int .i64 18)), (7, .row 1 13 18), (1, .ptr 0 0)]) (fun k => [some (.var (s.cells.map .rv)), some (.row 1 13 (ptrs 0 lenOffs))]) (fun k => k ≤ 18 ∧ ((lensS s).drop k).all lnIn = (lensS s).all lnIn) (fun k => 18 - k) 0 (by simp) (ent_env (by simp [lk])) (fun k hk K' hN hX hR => ?_)
  obtain ⟨hk1, hk2⟩ := hk
  simp -implicitDefEqProofs only [go_sem]
  refine cdS (fun hg => ?_) (fun hg => ?_)
  · have hk4 : k < 18 := by simp at hg; omega
    obtain ⟨o, ho, hln, ho2⟩ := lenOffs_get s hk4
    have hpl := ptr_len18 (i := 0) ho
    have hpn : (ptrs 0 lenOffs).length = 18 := rfl
    obtain ⟨hc0, hc1⟩ := lenOffs_cells s hk4 ho
    have ho3 : o < 48 := by omega
    have ho4 : o + 1 < 48 := by omega
    have bad' : ∀ e h, lk e 2 = .rv (.bool false) → lnIn ((lensS s)[k]'hk4) = false → K .ret ⟨e, h⟩ := fun e h l2 hf => bad e h l2 (by simp -implicitDefEqProofs only [styIn, all_fail hk4 hk2 hf, Bool.false_and])
    have nx : ∀ e h, lnIn ((lensS s)[k]'hk4) = true → Ent 0 ⟨e, h⟩ ⟨[(9, .rv (.int .i64 (k + 1 : Nat))), (8, .rv (.int .i64 18)), (7, .row 1 13 18), (1, .ptr 0 0)], [some (.var (s.cells.map .rv)), some (.row 1 13 (ptrs 0 lenOffs))]⟩ → K' .normal ⟨e, h⟩ := fun e h hf he => hN (k + 1) _ _ ⟨by omega, all_next hk4 hk2 hf⟩ (by omega) he
    have wu := wrap_up (k := k) (by omega)
    generalize (lensS s)[k]'hk4 = x at *
    have y_2 := sp_style_within x.n 1099511627776 (by decide) (by decide); have y_3 := sp_style_within x.n 1000000 (by decide) (by decide); repeat' (first | (simp -implicitDefEqProofs only [go_sem, hpl, hpn, hc0, hc1, wu]) | (with_reducible refine g_noent ?_) | (with_reducible first | refine g_call0 y_2 ?_ | refine g_calld0 y_2 ?_) | (with_reducible first | refine g_call0 y_3 ?_ | refine g_calld0 y_3 ?_) | ((first | refine cdS (fun hg => ?_) (fun hg => ?_) | refine gdS (fun hg => ?_) (fun hg => ?_) | refine gddS (fun hg => ?_) (fun hg => ?_)) <;> try simp -implicitDefEqProofs only [hg, Bool.not_true, Bool.not_false]) | ((with_reducible apply And.intro); focus (first | trivial | omega | decide | (simp -implicitDefEqProofs only [maxLen]; omega) | (simp [maxLen, sty_len, nd_len, ndL_len, lnL_len, intsL_len, rvs_len, lensS_len] <;> omega))) | fail)
    all_goals first
      | (refine hR _ _ (bad' _ _ rfl ?_); clear hN hX hR bad bad' nx hK; simp_all [lnIn, beqD]; done)
      | (refine nx _ _ ?_ (ent_env (by simp [lk])); clear hN hX hR bad bad' nx hK; simp_all [lnIn, beqD]; done)
  · have hk4 : k = 18 := by simp at hg; omega
    subst hk4
    have hall := all_done (by rw [lensS_len]; omega) hk2
    simp -implicitDefEqProofs only [go_sem]
    refine hX _ _ _ ?_
    repeat' (first | (simp -implicitDefEqProofs only [go_sem, sty_at0, sty_rd0, sty_at1, sty_rd1, sty_at2, sty_rd2, sty_at3, sty_rd3, sty_at4, sty_rd4, sty_at5, sty_rd5, sty_at6, sty_rd6, sty_at7, sty_rd7, sty_at8, sty_rd8, sty_at9, sty_rd9, sty_at10, sty_rd10, sty_at11, sty_rd11, sty_at12, sty_rd12, sty_at13, sty_rd13, sty_at14, sty_rd14, sty_at15, sty_rd15, sty_at16, sty_rd16, sty_at17, sty_rd17, sty_at18, sty_rd18, sty_at19, sty_rd19, sty_at20, sty_rd20, sty_at21, sty_rd21, sty_at22, sty_rd22, sty_at23, sty_rd23, sty_at24, sty_rd24, sty_at25, sty_rd25, sty_at26, sty_rd26, sty_at27, sty_rd27, sty_at28, sty_rd28, sty_at29, sty_rd29, sty_at30, sty_rd30, sty_at31, sty_rd31, sty_at32, sty_rd32, sty_at33, sty_rd33, sty_at34, sty_rd34, sty_at35, sty_rd35, sty_at36, sty_rd36, sty_at37, sty_rd37, sty_at38, sty_rd38, sty_at39, sty_rd39, sty_at40, sty_rd40, sty_at41, sty_rd41, sty_at42, sty_rd42, sty_at43, sty_rd43, sty_at44, sty_rd44, sty_at45, sty_rd45, sty_at46, sty_rd46, sty_at47, sty_rd47, sty_ln2, sty_ln10, sty_ln12, sty_ln14, sty_ln16, sty_ln18, sty_ln20, sty_ln22, sty_ln30, sty_ln38, sty_all, sty_all2, sty_len]) | (with_reducible refine g_noent ?_) | ((first | refine cdS (fun hg => ?_) (fun hg => ?_) | refine gdS (fun hg => ?_) (fun hg => ?_) | refine gddS (fun hg => ?_) (fun hg => ?_)) <;> try simp -implicitDefEqProofs only [hg, Bool.not_true, Bool.not_false]) | ((with_reducible apply And.intro); focus (first | trivial | omega | decide | (simp -implicitDefEqProofs only [maxLen]; omega) | (simp [maxLen, sty_len, nd_len, ndL_len, lnL_len, intsL_len, rvs_len, lensS_len] <;> omega))) | fail)
    refine g_loop (ι := Nat) (fun k => [(44, .rv (.int .i64 k)), (43, .agg (s.border.ints.map .rv)), (1, .ptr 0 0)]) (fun k => [some (.var (s.cells.map .rv))]) (fun k => k ≤ 4 ∧ (s.border.list.drop k).all (fun n => decide (n ≤ 1099511627776)) = s.border.list.all (fun n => decide (n ≤ 1099511627776))) (fun k => 4 - k) 0 (by simp) (ent_trim _ (by simp) (by simp [keepL, hget, RnHo, rnAll_map, τk]) (by simp [lk, rn_rv, rn_ptr, rn_row, rn_agg, rnAll_map, τk])) (fun k hk K' hN hX hR => ?_)
    obtain ⟨hk1, hk2⟩ := hk
    simp -implicitDefEqProofs only [go_sem]
    refine cdS (fun hg => ?_) (fun hg => ?_)
    · have hk4 : k < 4 := by simp at hg; omega
      have hx : (s.border.ints.map SV.rv)[k * 1]?.getD .dead = .rv (.int .i64 (s.border.list[k]'hk4)) := by
        have : k = 0 ∨ k = 1 ∨ k = 2 ∨ k = 3 := by omega
        rcases this with rfl | rfl | rfl | rfl <;> rfl
      have hl4 : s.border.ints.length = 4 := rfl
      repeat' (first | (simp -implicitDefEqProofs only [go_sem, hx, hl4]) | (with_reducible refine g_noent ?_) | ((first | refine cdS (fun hg => ?_) (fun hg => ?_) | refine gdS (fun hg => ?_) (fun hg => ?_) | refine gddS (fun hg => ?_) (fun hg => ?_)) <;> try simp -implicitDefEqProofs only [hg, Bool.not_true, Bool.not_false]) | ((with_reducible apply And.intro); focus (first | trivial | omega | decide | (simp -implicitDefEqProofs only [maxLen]; omega) | (simp [maxLen, sty_len, nd_len, ndL_len, lnL_len, intsL_len, rvs_len, lensS_len] <;> omega))) | fail)
      · refine hR _ _ (bad _ _ rfl ?_)
        simp -implicitDefEqProofs only [styIn]
        rw [all_fail (l := s.border.list) hk4 hk2 (by simp at hg ⊢; omega)]
        simp
      · rw [wrap_up (by omega)]
        exact hN (k + 1) _ _ ⟨by omega, all_next (l := s.border.list) hk4 hk2 (by simp at hg ⊢; omega)⟩ (by omega) (ent_env (by simp [lk]))
    · have hk4 : k = 4 := by simp at hg; omega
      subst hk4
      have hb := all_done (l := s.border.list) (by simp [Q4.list]) hk2
      simp -implicitDefEqProofs only [go_sem]
      refine hX _ _ _ ?_
      have fin : ∀ e h, lk e 2 = .rv (.bool (inB s.z 1073741824 && decide (s.back ≤ 16777216) && decide (s.line ≤ 16777216))) → K .ret ⟨e, h⟩ := fun e h l2 => (hK _ _ (ret_t (by rw [l2, styIn, hall, hb]; rfl))).2
      clear hK hN hX hR bad
      have y_4 := sp_style_within s.z 1073741824 (by decide) (by decide); repeat' (first | (simp -implicitDefEqProofs only [go_sem, sty_at0, sty_rd0, sty_at1, sty_rd1, sty_at2, sty_rd2, sty_at3, sty_rd3, sty_at4, sty_rd4, sty_at5, sty_rd5, sty_at6, sty_rd6, sty_at7, sty_rd7, sty_at8, sty_rd8, sty_at9, sty_rd9, sty_at10, sty_rd10, sty_at11, sty_rd11, sty_at12, sty_rd12, sty_at13, sty_rd13, sty_at14, sty_rd14, sty_at15, sty_rd15, sty_at16, sty_rd16, sty_at17, sty_rd17, sty_at18, sty_rd18, sty_at19, sty_rd19, sty_at20, sty_rd20, sty_at21, sty_rd21, sty_at22, sty_rd22, sty_at23, sty_rd23, sty_at24, sty_rd24, sty_at25, sty_rd25, sty_at26, sty_rd26, sty_at27, sty_rd27, sty_at28, sty_rd28, sty_at29, sty_rd29, sty_at30, sty_rd30, sty_at31, sty_rd31, sty_at32, sty_rd32, sty_at33, sty_rd33, sty_at34, sty_rd34, sty_at35, sty_rd35, sty_at36, sty_rd36, sty_at37, sty_rd37, sty_at38, sty_rd38, sty_at39, sty_rd39, sty_at40, sty_rd40, sty_at41, sty_rd41, sty_at42, sty_rd42, sty_at43, sty_rd43, sty_at44, sty_rd44, sty_at45, sty_rd45, sty_at46, sty_rd46, sty_at47, sty_rd47, sty_ln2, sty_ln10, sty_ln12, sty_ln14, sty_ln16, sty_ln18, sty_ln20, sty_ln22, sty_ln30, sty_ln38, sty_all, sty_all2, sty_len]) | (with_reducible refine g_noent ?_) | (with_reducible first | refine g_call0 y_4 ?_ | refine g_calld0 y_4 ?_) | ((first | refine cdS (fun hg => ?_) (fun hg => ?_) | refine gdS (fun hg => ?_) (fun hg => ?_) | refine gddS (fun hg => ?_) (fun hg => ?_)) <;> try simp -implicitDefEqProofs only [hg, Bool.not_true, Bool.not_false]) | ((with_reducible apply And.intro); focus (first | trivial | omega | decide | (simp -implicitDefEqProofs only [maxLen]; omega) | (simp [maxLen, sty_len, nd_len, ndL_len, lnL_len, intsL_len, rvs_len, lensS_len] <;> omega))) | fail)
      all_goals (refine fin _ _ ?_; (simp_all [lk, beqD]) <;> (try (intros; omega)))
end Go.Eng


/- styles: the document's functions. -/
namespace Go.Eng
open Go
/- decoupage/decoupageref06.Lens -/
def c_decoupageref06_Lens : AC := (.seq (.reg [⟨(some 1), .box, [(.t 0)], none⟩, ⟨(some 2), .mv, [(.c (.rv .nilsl))], none⟩]) (.seq (.reg [⟨(some 4), (.bsl 2), [], none⟩, ⟨(some 5), (.fld 2), [(.t 1)], none⟩, ⟨(some 6), (.slca 4 2), [(.t 5)], none⟩, ⟨(some 7), (.app 2 16), [(.t 4), (.t 6)], none⟩, ⟨(some 3), .mv, [(.t 7)], none⟩]) (.seq (.reg [⟨(some 8), .mv, [(.t 3)], none⟩, ⟨(some 9), (.fld 10), [(.t 1)], none⟩, ⟨(some 10), (.load 2 true), [(.t 9)], none⟩, ⟨(some 11), (.fld 12), [(.t 1)], none⟩, ⟨(some 12), (.load 2 true), [(.t 11)], none⟩, ⟨(some 13), (.fld 14), [(.t 1)], none⟩, ⟨(some 14), (.load 2 true), [(.t 13)], none⟩, ⟨(some 15), (.fld 16), [(.t 1)], none⟩, ⟨(some 16), (.load 2 true), [(.t 15)], none⟩, ⟨(some 17), (.fld 18), [(.t 1)], none⟩, ⟨(some 18), (.load 2 true), [(.t 17)], none⟩, ⟨(some 19), (.fld 20), [(.t 1)], none⟩, ⟨(some 20), (.load 2 true), [(.t 19)], none⟩, ⟨(some 21), (.bsl 2), [(.t 10), (.t 12), (.t 14), (.t 16), (.t 18), (.t 20)], none⟩, ⟨(some 22), (.app 2 16), [(.t 8), (.t 21)], none⟩, ⟨(some 3), .mv, [(.t 22)], none⟩]) (.seq (.reg [⟨(some 23), .mv, [(.t 3)], none⟩, ⟨(some 24), (.fld 22), [(.t 1)], none⟩, ⟨(some 25), (.slca 4 2), [(.t 24)], none⟩, ⟨(some 26), (.app 2 16), [(.t 23), (.t 25)], none⟩, ⟨(some 3), .mv, [(.t 26)], none⟩]) (.seq (.reg [⟨(some 27), .mv, [(.t 3)], none⟩, ⟨(some 28), (.fld 30), [(.t 1)], none⟩, ⟨(some 29), (.slca 4 2), [(.t 28)], none⟩, ⟨(some 30), (.app 2 16), [(.t 27), (.t 29)], none⟩, ⟨(some 2), .mv, [(.t 30)], none⟩]) .ret)))))
theorem k_decoupageref06_Lens : FnOK Go.Proofs.Try.prog 69 31 c_decoupageref06_Lens [(.t 2)] := fnOK_of (by kernel_rfl)

/- decoupage/decoupageref06.Formed -/
def c_decoupageref06_Formed : AC := (.seq (.reg [⟨(some 1), .box, [(.t 0)], none⟩, ⟨(some 2), .mv, [(.c (.rv (.bool false)))], none⟩]) (.seq (.reg [⟨(some 6), (.load 48 true), [(.t 1)], none⟩, ⟨(some 7), (.call 69), [(.t 6)], none⟩, ⟨(some 3), .mv, [(.t 7)], none⟩]) (.seq (.seq (.reg [⟨(some 8), .mv, [(.t 3)], none⟩, ⟨(some 9), .len, [(.t 8)], none⟩, ⟨(some 10), .mv, [(.c (.rv (.int .i64 0)))], none⟩]) (.seq (.block 0 (.loop (.seq (.reg [⟨(some 11), (.ibin .lss), [(.t 10), (.t 9)], none⟩]) (.seq (.cond (.t 11) .skip (.exit 0)) (.seq (.seq (.block 1 (.seq (.reg [⟨(some 12), .mv, [(.t 10)], none⟩, ⟨(some 4), .mv, [(.t 12)], none⟩]) (.seq (.seq (.reg [⟨(some 13), .mv, [(.t 3)], none⟩, ⟨(some 14), .mv, [(.t 4)], none⟩, ⟨(some 15), (.ixs 2), [(.t 13), (.t 14)], none⟩, ⟨(some 16), (.fld 0), [(.t 15)], none⟩, ⟨(some 17), (.load 1 false), [(.t 16)], none⟩, ⟨(some 18), (.ibin .lss), [(.t 17), (.c (.rv (.int .i64 0)))], none⟩, ⟨(some 19), .mv, [(.t 18)], none⟩, ⟨(some 20), .mv, [(.t 3)], (some (19, false))⟩, ⟨(some 21), .mv, [(.t 4)], (some (19, false))⟩, ⟨(some 22), (.ixs 2), [(.t 20), (.t 21)], (some (19, false))⟩, ⟨(some 23), (.fld 0), [(.t 22)], (some (19, false))⟩, ⟨(some 24), (.load 1 false), [(.t 23)], (some (19, false))⟩, ⟨(some 25), (.ibin .gtr), [(.t 24), (.c (.rv (.int .i64 2)))], (some (19, false))⟩, ⟨(some 26), .pick, [(.t 19), (.c (.rv (.bool true))), (.t 25)], none⟩, ⟨(some 27), .mv, [(.t 26)], none⟩, ⟨(some 28), .mv, [(.t 3)], (some (27, false))⟩, ⟨(some 29), .mv, [(.t 4)], (some (27, false))⟩, ⟨(some 30), (.ixs 2), [(.t 28), (.t 29)], (some (27, false))⟩, ⟨(some 31), (.fld 0), [(.t 30)], (some (27, false))⟩, ⟨(some 32), (.load 1 false), [(.t 31)], (some (27, false))⟩, ⟨(some 33), (.ibin .eql), [(.t 32), (.c (.rv (.int .i64 0)))], (some (27, false))⟩, ⟨(some 34), .mv, [(.t 33)], (some (27, false))⟩, ⟨(some 35), .mv, [(.t 3)], (some (34, true))⟩, ⟨(some 36), .mv, [(.t 4)], (some (34, true))⟩, ⟨(some 37), (.ixs 2), [(.t 35), (.t 36)], (some (34, true))⟩, ⟨(some 38), (.fld 1), [(.t 37)], (some (34, true))⟩, ⟨(some 39), (.load 1 false), [(.t 38)], (some (34, true))⟩, ⟨(some 40), (.ibin .neq), [(.t 39), (.c (.rv (.int .i64 0)))], (some (34, true))⟩, ⟨(some 41), .pick, [(.t 34), (.t 40), (.c (.rv (.bool false)))], (some (27, false))⟩, ⟨(some 42), .pick, [(.t 27), (.c (.rv (.bool true))), (.t 41)], none⟩]) (.cond (.t 42) (.seq (.reg [⟨(some 2), .mv, [(.c (.rv (.bool false)))], none⟩]) .ret) .skip)) (.seq (.reg [⟨(some 43), .mv, [(.t 3)], none⟩, ⟨(some 44), .mv, [(.t 4)], none⟩, ⟨(some 45), (.ixs 2), [(.t 43), (.t 44)], none⟩, ⟨(some 46), (.fld 1), [(.t 45)], none⟩, ⟨(some 47), (.load 1 false), [(.t 46)], none⟩, ⟨(some 48), (.ibin .lss), [(.t 47), (.c (.rv (.int .i64 0)))], none⟩, ⟨(some 49), .mv, [(.t 48)], none⟩, ⟨(some 50), .mv, [(.t 4)], (some (49, true))⟩, ⟨(some 51), (.ibin .geq), [(.t 50), (.c (.rv (.int .i64 4)))], (some (49, true))⟩, ⟨(some 52), .mv, [(.t 51)], (some (49, true))⟩, ⟨(some 53), .mv, [(.t 4)], (some (52, true))⟩, ⟨(some 54), (.ibin .lss), [(.t 53), (.c (.rv (.int .i64 10)))], (some (52, true))⟩, ⟨(some 55), .pick, [(.t 52), (.t 54), (.c (.rv (.bool false)))], (some (49, true))⟩, ⟨(some 56), .mv, [(.t 55)], (some (49, true))⟩, ⟨(some 57), .mv, [(.t 4)], (some (56, false))⟩, ⟨(some 58), (.ibin .geq), [(.t 57), (.c (.rv (.int .i64 14)))], (some (56, false))⟩, ⟨(some 59), .pick, [(.t 56), (.c (.rv (.bool true))), (.t 58)], (some (49, true))⟩, ⟨(some 60), .pick, [(.t 49), (.t 59), (.c (.rv (.bool false)))], none⟩, ⟨(some 61), .mv, [(.t 60)], none⟩, ⟨(some 62), .mv, [(.t 4)], (some (61, false))⟩, ⟨(some 63), (.ibin .geq), [(.t 62), (.c (.rv (.int .i64 14)))], (some (61, false))⟩, ⟨(some 64), .mv, [(.t 63)], (some (61, false))⟩, ⟨(some 65), .mv, [(.t 3)], (some (64, true))⟩, ⟨(some 66), .mv, [(.t 4)], (some (64, true))⟩, ⟨(some 67), (.ixs 2), [(.t 65), (.t 66)], (some (64, true))⟩, ⟨(some 68), (.fld 0), [(.t 67)], (some (64, true))⟩, ⟨(some 69), (.load 1 false), [(.t 68)], (some (64, true))⟩, ⟨(some 70), (.ibin .eql), [(.t 69), (.c (.rv (.int .i64 0)))], (some (64, true))⟩, ⟨(some 71), .pick, [(.t 64), (.t 70), (.c (.rv (.bool false)))], (some (61, false))⟩, ⟨(some 72), .pick, [(.t 61), (.c (.rv (.bool true))), (.t 71)], none⟩]) (.cond (.t 72) (.seq (.reg [⟨(some 2), .mv, [(.c (.rv (.bool false)))], none⟩]) .ret) .skip))))) .ent) (.reg [⟨(some 73), (.ibin .add), [(.t 10), (.c (.rv (.int .i64 1)))], none⟩, ⟨(some 10), .mv, [(.t 73)], none⟩])))))) .ent)) (.seq (.seq (.reg [⟨(some 74), .mv, [(.c (.rv (.int .i64 0)))], none⟩]) (.seq (.block 2 (.loop (.seq (.reg [⟨(some 75), (.ibin .lss), [(.t 74), (.c (.rv (.int .i64 4)))], none⟩]) (.seq (.cond (.t 75) .skip (.exit 2)) (.seq (.seq (.block 3 (.seq (.reg [⟨(some 76), .mv, [(.t 74)], none⟩, ⟨(some 5), .mv, [(.t 76)], none⟩]) (.seq (.reg [⟨(some 77), .mv, [(.t 5)], none⟩, ⟨(some 78), (.fld 38), [(.t 1)], none⟩, ⟨(some 79), (.ixa 4 1), [(.t 78), (.t 77)], none⟩, ⟨(some 80), (.load 1 false), [(.t 79)], none⟩, ⟨(some 81), (.ibin .lss), [(.t 80), (.c (.rv (.int .i64 0)))], none⟩]) (.cond (.t 81) (.seq (.reg [⟨(some 2), .mv, [(.c (.rv (.bool false)))], none⟩]) .ret) .skip)))) .ent) (.reg [⟨(some 82), (.ibin .add), [(.t 74), (.c (.rv (.int .i64 1)))], none⟩, ⟨(some 74), .mv, [(.t 82)], none⟩])))))) .ent)) (.seq (.reg [⟨(some 83), (.fld 1), [(.t 1)], none⟩, ⟨(some 84), (.load 1 false), [(.t 83)], none⟩, ⟨(some 85), (.ibin .geq), [(.t 84), (.c (.rv (.int .i64 0)))], none⟩, ⟨(some 86), .mv, [(.t 85)], none⟩, ⟨(some 87), (.fld 1), [(.t 1)], (some (86, true))⟩, ⟨(some 88), (.load 1 false), [(.t 87)], (some (86, true))⟩, ⟨(some 89), (.ibin .leq), [(.t 88), (.c (.rv (.int .i64 3)))], (some (86, true))⟩, ⟨(some 90), .pick, [(.t 86), (.t 89), (.c (.rv (.bool false)))], none⟩, ⟨(some 91), .mv, [(.t 90)], none⟩, ⟨(some 92), (.fld 46), [(.t 1)], (some (91, true))⟩, ⟨(some 93), (.load 1 false), [(.t 92)], (some (91, true))⟩, ⟨(some 94), (.ibin .geq), [(.t 93), (.c (.rv (.int .i64 0)))], (some (91, true))⟩, ⟨(some 95), .pick, [(.t 91), (.t 94), (.c (.rv (.bool false)))], none⟩, ⟨(some 96), .mv, [(.t 95)], none⟩, ⟨(some 97), (.fld 47), [(.t 1)], (some (96, true))⟩, ⟨(some 98), (.load 1 false), [(.t 97)], (some (96, true))⟩, ⟨(some 99), (.ibin .geq), [(.t 98), (.c (.rv (.int .i64 0)))], (some (96, true))⟩, ⟨(some 100), .pick, [(.t 96), (.t 99), (.c (.rv (.bool false)))], none⟩, ⟨(some 101), .mv, [(.t 100)], none⟩, ⟨(some 102), (.fld 43), [(.t 1)], (some (101, true))⟩, ⟨(some 103), (.load 1 false), [(.t 102)], (some (101, true))⟩, ⟨(some 104), .mv, [(.t 103)], (some (101, true))⟩, ⟨(some 105), (.fld 44), [(.t 1)], (some (104, false))⟩, ⟨(some 106), (.load 1 false), [(.t 105)], (some (104, false))⟩, ⟨(some 107), (.ibin .eql), [(.t 106), (.c (.rv (.int .i64 0)))], (some (104, false))⟩, ⟨(some 108), .pick, [(.t 104), (.c (.rv (.bool true))), (.t 107)], (some (101, true))⟩, ⟨(some 109), .pick, [(.t 101), (.t 108), (.c (.rv (.bool false)))], none⟩, ⟨(some 2), .mv, [(.t 109)], none⟩]) .ret)))))
theorem k_decoupageref06_Formed : FnOK Go.Proofs.Try.prog 32 110 c_decoupageref06_Formed [(.t 2)] := fnOK_of (by kernel_rfl)

/- decoupage/decoupageref06.Within -/
def c_decoupageref06_Within : AC := (.seq (.reg [⟨(some 1), .box, [(.t 0)], none⟩, ⟨(some 2), .mv, [(.c (.rv (.bool false)))], none⟩]) (.seq (.reg [⟨(some 7), (.load 48 true), [(.t 1)], none⟩, ⟨(some 8), (.call 69), [(.t 7)], none⟩, ⟨(some 3), .mv, [(.t 8)], none⟩]) (.seq (.seq (.reg [⟨(some 9), .mv, [(.t 3)], none⟩, ⟨(some 10), .len, [(.t 9)], none⟩, ⟨(some 11), .mv, [(.c (.rv (.int .i64 0)))], none⟩]) (.seq (.block 0 (.loop (.seq (.reg [⟨(some 12), (.ibin .lss), [(.t 11), (.t 10)], none⟩]) (.seq (.cond (.t 12) .skip (.exit 0)) (.seq (.seq (.block 1 (.seq (.reg [⟨(some 13), .mv, [(.t 11)], none⟩, ⟨(some 4), .mv, [(.t 13)], none⟩]) (.seq (.reg [⟨(some 5), .mv, [(.c (.rv (.int .i64 1099511627776)))], none⟩]) (.seq (.seq (.reg [⟨(some 14), .mv, [(.t 3)], none⟩, ⟨(some 15), .mv, [(.t 4)], none⟩, ⟨(some 16), (.ixs 2), [(.t 14), (.t 15)], none⟩, ⟨(some 17), (.fld 0), [(.t 16)], none⟩, ⟨(some 18), (.load 1 false), [(.t 17)], none⟩, ⟨(some 19), (.ibin .eql), [(.t 18), (.c (.rv (.int .i64 2)))], none⟩]) (.seq (.cond (.t 19) (.reg [⟨(some 5), .mv, [(.c (.rv (.int .i64 1000000)))], none⟩]) .skip) .ent)) (.seq (.reg [⟨(some 20), .mv, [(.t 3)], none⟩, ⟨(some 21), .mv, [(.t 4)], none⟩, ⟨(some 22), (.ixs 2), [(.t 20), (.t 21)], none⟩, ⟨(some 23), (.fld 0), [(.t 22)], none⟩, ⟨(some 24), (.load 1 false), [(.t 23)], none⟩, ⟨(some 25), (.ibin .neq), [(.t 24), (.c (.rv (.int .i64 0)))], none⟩, ⟨(some 26), .mv, [(.t 25)], none⟩, ⟨(some 27), .mv, [(.t 3)], (some (26, true))⟩, ⟨(some 28), .mv, [(.t 4)], (some (26, true))⟩, ⟨(some 29), (.ixs 2), [(.t 27), (.t 28)], (some (26, true))⟩, ⟨(some 30), (.fld 0), [(.t 29)], (some (26, true))⟩, ⟨(some 31), (.load 1 false), [(.t 30)], (some (26, true))⟩, ⟨(some 32), (.ibin .lss), [(.t 31), (.c (.rv (.int .i64 3)))], (some (26, true))⟩, ⟨(some 33), .pick, [(.t 26), (.t 32), (.c (.rv (.bool false)))], none⟩, ⟨(some 34), .mv, [(.t 33)], none⟩, ⟨(some 35), .mv, [(.t 3)], (some (34, true))⟩, ⟨(some 36), .mv, [(.t 4)], (some (34, true))⟩, ⟨(some 37), (.ixs 2), [(.t 35), (.t 36)], (some (34, true))⟩, ⟨(some 38), (.fld 0), [(.t 37)], (some (34, true))⟩, ⟨(some 39), (.load 1 false), [(.t 38)], (some (34, true))⟩, ⟨(some 40), (.ibin .gtr), [(.t 39), (.c (.rv (.int .i64 0)))], (some (34, true))⟩, ⟨(some 41), .pick, [(.t 34), (.t 40), (.c (.rv (.bool false)))], none⟩, ⟨(some 42), .mv, [(.t 41)], none⟩, ⟨(some 43), .mv, [(.t 3)], (some (42, true))⟩, ⟨(some 44), .mv, [(.t 4)], (some (42, true))⟩, ⟨(some 45), (.ixs 2), [(.t 43), (.t 44)], (some (42, true))⟩, ⟨(some 46), (.fld 1), [(.t 45)], (some (42, true))⟩, ⟨(some 47), (.load 1 false), [(.t 46)], (some (42, true))⟩, ⟨(some 48), .mv, [(.t 5)], (some (42, true))⟩, ⟨(some 49), (.ibin .gtr), [(.t 47), (.t 48)], (some (42, true))⟩, ⟨(some 50), .mv, [(.t 49)], (some (42, true))⟩, ⟨(some 51), .mv, [(.t 3)], (some (50, false))⟩, ⟨(some 52), .mv, [(.t 4)], (some (50, false))⟩, ⟨(some 53), (.ixs 2), [(.t 51), (.t 52)], (some (50, false))⟩, ⟨(some 54), (.fld 1), [(.t 53)], (some (50, false))⟩, ⟨(some 55), (.load 1 false), [(.t 54)], (some (50, false))⟩, ⟨(some 56), .mv, [(.t 5)], (some (50, false))⟩, ⟨(some 57), .neg, [(.t 56)], (some (50, false))⟩, ⟨(some 58), (.ibin .lss), [(.t 55), (.t 57)], (some (50, false))⟩, ⟨(some 59), .pick, [(.t 50), (.c (.rv (.bool true))), (.t 58)], (some (42, true))⟩, ⟨(some 60), .pick, [(.t 42), (.t 59), (.c (.rv (.bool false)))], none⟩]) (.cond (.t 60) (.seq (.reg [⟨(some 2), .mv, [(.c (.rv (.bool false)))], none⟩]) .ret) .skip)))))) .ent) (.reg [⟨(some 61), (.ibin .add), [(.t 11), (.c (.rv (.int .i64 1)))], none⟩, ⟨(some 11), .mv, [(.t 61)], none⟩])))))) .ent)) (.seq (.seq (.reg [⟨(some 62), .mv, [(.c (.rv (.int .i64 0)))], none⟩]) (.seq (.block 2 (.loop (.seq (.reg [⟨(some 63), (.ibin .lss), [(.t 62), (.c (.rv (.int .i64 4)))], none⟩]) (.seq (.cond (.t 63) .skip (.exit 2)) (.seq (.seq (.block 3 (.seq (.reg [⟨(some 64), .mv, [(.t 62)], none⟩, ⟨(some 6), .mv, [(.t 64)], none⟩]) (.seq (.reg [⟨(some 65), .mv, [(.t 6)], none⟩, ⟨(some 66), (.fld 38), [(.t 1)], none⟩, ⟨(some 67), (.ixa 4 1), [(.t 66), (.t 65)], none⟩, ⟨(some 68), (.load 1 false), [(.t 67)], none⟩, ⟨(some 69), (.ibin .gtr), [(.t 68), (.c (.rv (.int .i64 1099511627776)))], none⟩]) (.cond (.t 69) (.seq (.reg [⟨(some 2), .mv, [(.c (.rv (.bool false)))], none⟩]) .ret) .skip)))) .ent) (.reg [⟨(some 70), (.ibin .add), [(.t 62), (.c (.rv (.int .i64 1)))], none⟩, ⟨(some 62), .mv, [(.t 70)], none⟩])))))) .ent)) (.seq (.reg [⟨(some 71), (.fld 44), [(.t 1)], none⟩, ⟨(some 72), (.load 1 false), [(.t 71)], none⟩, ⟨(some 73), (.ibin .leq), [(.t 72), (.c (.rv (.int .i64 1073741824)))], none⟩, ⟨(some 74), .mv, [(.t 73)], none⟩, ⟨(some 75), (.fld 44), [(.t 1)], (some (74, true))⟩, ⟨(some 76), (.load 1 false), [(.t 75)], (some (74, true))⟩, ⟨(some 77), (.ibin .geq), [(.t 76), (.c (.rv (.int .i64 (-1073741824))))], (some (74, true))⟩, ⟨(some 78), .pick, [(.t 74), (.t 77), (.c (.rv (.bool false)))], none⟩, ⟨(some 79), .mv, [(.t 78)], none⟩, ⟨(some 80), (.fld 46), [(.t 1)], (some (79, true))⟩, ⟨(some 81), (.load 1 false), [(.t 80)], (some (79, true))⟩, ⟨(some 82), (.ibin .leq), [(.t 81), (.c (.rv (.int .i64 16777216)))], (some (79, true))⟩, ⟨(some 83), .pick, [(.t 79), (.t 82), (.c (.rv (.bool false)))], none⟩, ⟨(some 84), .mv, [(.t 83)], none⟩, ⟨(some 85), (.fld 47), [(.t 1)], (some (84, true))⟩, ⟨(some 86), (.load 1 false), [(.t 85)], (some (84, true))⟩, ⟨(some 87), (.ibin .leq), [(.t 86), (.c (.rv (.int .i64 16777216)))], (some (84, true))⟩, ⟨(some 88), .pick, [(.t 84), (.t 87), (.c (.rv (.bool false)))], none⟩, ⟨(some 2), .mv, [(.t 88)], none⟩]) .ret)))))
theorem k_decoupageref06_Within : FnOK Go.Proofs.Try.prog 33 89 c_decoupageref06_Within [(.t 2)] := fnOK_of (by kernel_rfl)


theorem lnL_one (l : List Ln) : ∀ x ∈ lnL l, ∀ r ∈ x, r.one = true := by
  intro x hx r hr
  obtain ⟨n, _, rfl⟩ := List.mem_map.1 hx
  simp [Ln.cells] at hr
  rcases hr with rfl | rfl <;> rfl

theorem sp_ref06_Lens (s : Sty) : CallR Go.Proofs.Try.prog 69 [s.sv] [] [] (.rv (.sl 2 (lnL (lensS s)))) := by
  refine callR_G k_decoupageref06_Lens [s.sv] _ (by simp) (by simp [BkAll, bk_agg, bkAll_map, bk_rv, bk_fn, Sty.sv, Ln.sv, Nd.sv]) (fun K hK => ?_)
  simp -implicitDefEqProofs only [c_decoupageref06_Lens, Sty.sv, go_sem]
  repeat' (first | (simp -implicitDefEqProofs only [go_sem, sty_len]) | (with_reducible refine g_noent ?_) | ((first | refine cdS (fun hg => ?_) (fun hg => ?_) | refine gdS (fun hg => ?_) (fun hg => ?_) | refine gddS (fun hg => ?_) (fun hg => ?_)) <;> try simp -implicitDefEqProofs only [hg, Bool.not_true, Bool.not_false]) | ((with_reducible apply And.intro); focus (first | trivial | omega | decide | (simp -implicitDefEqProofs only [maxLen]; omega) | (simp [maxLen, sty_len, nd_len, ndL_len, lnL_len, intsL_len, rvs_len, lensS_len] <;> omega))) | fail)
  exact (hK _ _ ⟨trivial, rn_frz (xs := lnL (lensS s)) rfl rfl rfl (lnL_one _)⟩).2

/-- What the document asks of the k-th length. -/
def lnOKr (k : Nat) (x : Ln) : Bool := !(decide (x.kind < 0) || decide (x.kind > 2) || (decide (x.kind = 0) && !decide (x.n = 0))) && !((decide (x.n < 0) && ((decide (4 ≤ k) && decide (k < 10)) || decide (14 ≤ k))) || (decide (14 ≤ k) && decide (x.kind = 0)))
def okTo (s : Sty) (k : Nat) : Bool := (List.range k).all fun j => lnOKr j ((lensS s).getD j default)
theorem okTo_succ {s : Sty} {k : Nat} (h : k < 18) : okTo s (k + 1) = (okTo s k && lnOKr k ((lensS s)[k]'h)) := by
  have : (lensS s).getD k default = (lensS s)[k]'h := by rw [List.getD_eq_getElem?_getD, List.getElem?_eq_getElem h]; rfl
  simp -implicitDefEqProofs only [okTo, List.range_succ, List.all_append, List.all_cons, List.all_nil, Bool.and_true, this]
theorem okTo_mono {s : Sty} {k : Nat} (h : k < 18) (hf : lnOKr k ((lensS s)[k]'h) = false) : okTo s 18 = false := by
  have : (lensS s).getD k default = (lensS s)[k]'h := by rw [List.getD_eq_getElem?_getD, List.getElem?_eq_getElem h]; rfl
  rw [Bool.eq_false_iff]
  intro ht
  have := List.all_eq_true.1 ht k (by simp; omega)
  simp_all
theorem sty_form (s : Sty) : styOK s = (okTo s 18 && (s.border.list.all fun n => !decide (n < 0)) && tailOK s) := by
  have : okTo s 18 = (lnOKr 0 s.off.a && lnOKr 1 s.off.b && lnOKr 2 s.off.c && lnOKr 3 s.off.d && lnOKr 4 s.width && lnOKr 5 s.height && lnOKr 6 s.minW && lnOKr 7 s.maxW && lnOKr 8 s.minH && lnOKr 9 s.maxH && lnOKr 10 s.margin.a && lnOKr 11 s.margin.b && lnOKr 12 s.margin.c && lnOKr 13 s.margin.d && lnOKr 14 s.pad.a && lnOKr 15 s.pad.b && lnOKr 16 s.pad.c && lnOKr 17 s.pad.d) := by
    simp [okTo, List.range_succ, lensS, Q4.list, Bool.and_assoc]
  rw [this]
  have e1 : ∀ k x, (k < 4 ∨ (10 ≤ k ∧ k < 14)) → lnOKr k x = lnOK x := fun k x hk => by
    have h1 : decide (14 ≤ k) = false := decide_eq_false (by omega)
    have h2 : (decide (4 ≤ k) && decide (k < 10)) = false := by simp; omega
    simp -implicitDefEqProofs only [lnOKr, lnOK, h1, h2]
    rw [Bool.eq_iff_iff]; simp; omega
  have e2 : ∀ k x, (4 ≤ k ∧ k < 10) → lnOKr k x = (lnOK x && decide (0 ≤ x.n)) := fun k x hk => by
    have h1 : decide (14 ≤ k) = false := decide_eq_false (by omega)
    have h2 : (decide (4 ≤ k) && decide (k < 10)) = true := by simp; omega
    simp -implicitDefEqProofs only [lnOKr, lnOK, h1, h2]
    rw [Bool.eq_iff_iff]; simp; omega
  have e3 : ∀ k x, 14 ≤ k → lnOKr k x = (lnOK x && !(decide (x.kind = 0) || decide (x.n < 0))) := fun k x hk => by
    have h1 : decide (14 ≤ k) = true := decide_eq_true (by omega)
    simp -implicitDefEqProofs only [lnOKr, lnOK, h1]
    rw [Bool.eq_iff_iff]; simp; omega
  rw [e1 0 _ (by omega), e1 1 _ (by omega), e1 2 _ (by omega), e1 3 _ (by omega), e2 4 _ (by omega), e2 5 _ (by omega), e2 6 _ (by omega), e2 7 _ (by omega), e2 8 _ (by omega), e2 9 _ (by omega), e1 10 _ (by omega), e1 11 _ (by omega), e1 12 _ (by omega), e1 13 _ (by omega), e3 14 _ (by omega), e3 15 _ (by omega), e3 16 _ (by omega), e3 17 _ (by omega)]
  rw [Bool.eq_iff_iff]
  simp -implicitDefEqProofs only [styOK, lensS, Q4.list, padOK, List.all_append, List.all_cons, List.all_nil, Bool.and_true, Bool.and_eq_true, Bool.not_eq_true', Bool.or_eq_false_iff, decide_eq_true_eq, decide_eq_false_iff_not]
  constructor <;> (intro h; simp -implicitDefEqProofs only [h, not_false_eq_true, and_self])

set_option maxHeartbeats 4000000 in
theorem sp_ref06_Formed (s : Sty) : CallR Go.Proofs.Try.prog 32 [s.sv] [] [] (.rv (.bool (styOK s))) := by
  refine callR_G k_decoupageref06_Formed [s.sv] _ (by simp) (by simp [BkAll, bk_agg, bkAll_map, bk_rv, bk_fn, Sty.sv, Ln.sv, Nd.sv]) (fun K hK => ?_)
  have bad : ∀ e h, lk e 2 = .rv (.bool false) → styOK s = false → K .ret ⟨e, h⟩ := fun e h l2 hf => (hK _ _ (ret_t (by rw [l2, hf]))).2
  simp -implicitDefEqProofs only [c_decoupageref06_Formed, Sty.sv, go_sem]
  have y_1 := sp_ref06_Lens s; repeat' (first | (simp -implicitDefEqProofs only [go_sem, sty_at0, sty_rd0, sty_at1, sty_rd1, sty_at2, sty_rd2, sty_at3, sty_rd3, sty_at4, sty_rd4, sty_at5, sty_rd5, sty_at6, sty_rd6, sty_at7, sty_rd7, sty_at8, sty_rd8, sty_at9, sty_rd9, sty_at10, sty_rd10, sty_at11, sty_rd11, sty_at12, sty_rd12, sty_at13, sty_rd13, sty_at14, sty_rd14, sty_at15, sty_rd15, sty_at16, sty_rd16, sty_at17, sty_rd17, sty_at18, sty_rd18, sty_at19, sty_rd19, sty_at20, sty_rd20, sty_at21, sty_rd21, sty_at22, sty_rd22, sty_at23, sty_rd23, sty_at24, sty_rd24, sty_at25, sty_rd25, sty_at26, sty_rd26, sty_at27, sty_rd27, sty_at28, sty_rd28, sty_at29, sty_rd29, sty_at30, sty_rd30, sty_at31, sty_rd31, sty_at32, sty_rd32, sty_at33, sty_rd33, sty_at34, sty_rd34, sty_at35, sty_rd35, sty_at36, sty_rd36, sty_at37, sty_rd37, sty_at38, sty_rd38, sty_at39, sty_rd39, sty_at40, sty_rd40, sty_at41, sty_rd41, sty_at42, sty_rd42, sty_at43, sty_rd43, sty_at44, sty_rd44, sty_at45, sty_rd45, sty_at46, sty_rd46, sty_at47, sty_rd47, sty_ln2, sty_ln10, sty_ln12, sty_ln14, sty_ln16, sty_ln18, sty_ln20, sty_ln22, sty_ln30, sty_ln38, sty_all, sty_all2, sty_len, lnL_len, lensS_len]) | (with_reducible refine g_noent ?_) | (with_reducible first | refine g_call0 y_1 ?_ | refine g_calld0 y_1 ?_) | ((first | refine cdS (fun hg => ?_) (fun hg => ?_) | refine gdS (fun hg => ?_) (fun hg => ?_) | refine gddS (fun hg => ?_) (fun hg => ?_)) <;> try simp -implicitDefEqProofs only [hg, Bool.not_true, Bool.not_false]) | ((with_reducible apply And.intro); focus (first | trivial | omega | decide | (simp -implicitDefEqProofs only [maxLen]; omega) | (simp [maxLen, sty_len, nd_len, ndL_len, lnL_len, intsL_len, rvs_len, lensS_len] <;> omega))) | fail)
  refine g_loop (ι := Nat) (fun k => [(10, .rv (.int .i64 k)), (9, .rv (.int .i64 18)), (3, .rv (.sl 2 (lnL (lensS s)))), (1, .ptr 0 0)]) (fun k => [some (.var (s.cells.map .rv))]) (fun k => k ≤ 18 ∧ okTo s k = true) (fun k => 18 - k) 0 (by simp [okTo]) (ent_env (by simp [lk])) (fun k hk K' hN hX hR => ?_)
  obtain ⟨hk1, hk2⟩ := hk
  simp -implicitDefEqProofs only [go_sem]
  refine cdS (fun hg => ?_) (fun hg => ?_)
  · have hk4 : k < 18 := by simp at hg; omega
    have hx := lnL_get (l := lensS s) hk4
    have bad' : ∀ e h, lk e 2 = .rv (.bool false) → lnOKr k ((lensS s)[k]'hk4) = false → K .ret ⟨e, h⟩ := fun e h l2 hf => bad e h l2 (by rw [sty_form, okTo_mono hk4 hf]; rfl)
    have nx : ∀ e h, lnOKr k ((lensS s)[k]'hk4) = true → Ent 0 ⟨e, h⟩ ⟨[(10, .rv (.int .i64 (k + 1 : Nat))), (9, .rv (.int .i64 18)), (3, .rv (.sl 2 (lnL (lensS s)))), (1, .ptr 0 0)], [some (.var (s.cells.map .rv))]⟩ → K' .normal ⟨e, h⟩ := fun e h hf he => hN (k + 1) _ _ ⟨by omega, by rw [okTo_succ hk4, hk2, hf]; rfl⟩ (by omega) he
    have wu := wrap_up (k := k) (by omega)
    have hll : (lnL (lensS s)).length = 18 := rfl
    clear hN hX hK bad
    generalize hxx : (lensS s)[k]'hk4 = x at *
    repeat' (first | (simp -implicitDefEqProofs only [go_sem, hx, hll, Ln.cells, wu]) | (with_reducible refine g_noent ?_) | ((first | refine cdS (fun hg => ?_) (fun hg => ?_) | refine gdS (fun hg => ?_) (fun hg => ?_) | refine gddS (fun hg => ?_) (fun hg => ?_)) <;> try simp -implicitDefEqProofs only [hg, Bool.not_true, Bool.not_false]) | ((with_reducible apply And.intro); focus (first | trivial | omega | decide | (simp -implicitDefEqProofs only [maxLen]; omega) | (simp [maxLen, sty_len, nd_len, ndL_len, lnL_len, intsL_len, rvs_len, lensS_len] <;> omega))) | fail)
    all_goals first
      | (refine hR _ _ (bad' _ _ rfl ?_); clear hR bad' nx; simp_all [lnOKr, beqD]; done)
      | (refine nx _ _ ?_ (ent_env (by simp [lk])); clear hR bad' nx; simp_all [lnOKr, beqD]; done)
      | (refine hR _ _ (bad' _ _ rfl ?_); clear hR bad' nx; simp_all [lnOKr, beqD]; omega)
      | (refine nx _ _ ?_ (ent_env (by simp [lk])); clear hR bad' nx; simp_all [lnOKr, beqD]; omega)
  · have hk4 : k = 18 := by simp at hg; omega
    subst hk4
    simp -implicitDefEqProofs only [go_sem]
    refine hX _ _ _ ?_
    repeat' (first | (simp -implicitDefEqProofs only [go_sem, sty_at0, sty_rd0, sty_at1, sty_rd1, sty_at2, sty_rd2, sty_at3, sty_rd3, sty_at4, sty_rd4, sty_at5, sty_rd5, sty_at6, sty_rd6, sty_at7, sty_rd7, sty_at8, sty_rd8, sty_at9, sty_rd9, sty_at10, sty_rd10, sty_at11, sty_rd11, sty_at12, sty_rd12, sty_at13, sty_rd13, sty_at14, sty_rd14, sty_at15, sty_rd15, sty_at16, sty_rd16, sty_at17, sty_rd17, sty_at18, sty_rd18, sty_at19, sty_rd19, sty_at20, sty_rd20, sty_at21, sty_rd21, sty_at22, sty_rd22, sty_at23, sty_rd23, sty_at24, sty_rd24, sty_at25, sty_rd25, sty_at26, sty_rd26, sty_at27, sty_rd27, sty_at28, sty_rd28, sty_at29, sty_rd29, sty_at30, sty_rd30, sty_at31, sty_rd31, sty_at32, sty_rd32, sty_at33, sty_rd33, sty_at34, sty_rd34, sty_at35, sty_rd35, sty_at36, sty_rd36, sty_at37, sty_rd37, sty_at38, sty_rd38, sty_at39, sty_rd39, sty_at40, sty_rd40, sty_at41, sty_rd41, sty_at42, sty_rd42, sty_at43, sty_rd43, sty_at44, sty_rd44, sty_at45, sty_rd45, sty_at46, sty_rd46, sty_at47, sty_rd47, sty_ln2, sty_ln10, sty_ln12, sty_ln14, sty_ln16, sty_ln18, sty_ln20, sty_ln22, sty_ln30, sty_ln38, sty_all, sty_all2, sty_len]) | (with_reducible refine g_noent ?_) | ((first | refine cdS (fun hg => ?_) (fun hg => ?_) | refine gdS (fun hg => ?_) (fun hg => ?_) | refine gddS (fun hg => ?_) (fun hg => ?_)) <;> try simp -implicitDefEqProofs only [hg, Bool.not_true, Bool.not_false]) | ((with_reducible apply And.intro); focus (first | trivial | omega | decide | (simp -implicitDefEqProofs only [maxLen]; omega) | (simp [maxLen, sty_len, nd_len, ndL_len, lnL_len, intsL_len, rvs_len, lensS_len] <;> omega))) | fail)
    refine g_loop (ι := Nat) (fun k => [(74, .rv (.int .i64 k)), (1, .ptr 0 0)]) (fun k => [some (.var (s.cells.map .rv))]) (fun k => k ≤ 4 ∧ (s.border.list.drop k).all (fun n => !decide (n < 0)) = s.border.list.all (fun n => !decide (n < 0))) (fun k => 4 - k) 0 (by simp) (ent_env (by simp [lk])) (fun k hk K' hN hX hR => ?_)
    obtain ⟨hk1, hk3⟩ := hk
    simp -implicitDefEqProofs only [go_sem]
    refine cdS (fun hg => ?_) (fun hg => ?_)
    · have hk4 : k < 4 := by simp at hg; omega
      have hx : (s.cells.map SV.rv)[38 + k * 1]? = some (.rv (.int .i64 (s.border.list[k]'hk4))) := by
        have : k = 0 ∨ k = 1 ∨ k = 2 ∨ k = 3 := by omega
        rcases this with rfl | rfl | rfl | rfl <;> rfl
      repeat' (first | (simp -implicitDefEqProofs only [go_sem, hx, sty_len]) | (with_reducible refine g_noent ?_) | ((first | refine cdS (fun hg => ?_) (fun hg => ?_) | refine gdS (fun hg => ?_) (fun hg => ?_) | refine gddS (fun hg => ?_) (fun hg => ?_)) <;> try simp -implicitDefEqProofs only [hg, Bool.not_true, Bool.not_false]) | ((with_reducible apply And.intro); focus (first | trivial | omega | decide | (simp -implicitDefEqProofs only [maxLen]; omega) | (simp [maxLen, sty_len, nd_len, ndL_len, lnL_len, intsL_len, rvs_len, lensS_len] <;> omega))) | fail)
      · refine hR _ _ (bad _ _ rfl ?_)
        rw [sty_form, all_fail (l := s.border.list) hk4 hk3 (by simp at hg ⊢; omega)]
        simp
      · rw [wrap_up (by omega)]
        exact hN (k + 1) _ _ ⟨by omega, all_next (l := s.border.list) hk4 hk3 (by simp at hg ⊢; omega)⟩ (by omega) (ent_env (by simp [lk]))
    · have hk4 : k = 4 := by simp at hg; omega
      subst hk4
      have hb := all_done (l := s.border.list) (by simp [Q4.list]) hk3
      simp -implicitDefEqProofs only [go_sem]
      refine hX _ _ _ ?_
      have fin : ∀ e h, lk e 2 = .rv (.bool (tailOK s)) → K .ret ⟨e, h⟩ := fun e h l2 => (hK _ _ (ret_t (by rw [l2, sty_form, hk2, hb]; rfl))).2
      clear hK hN hX hR bad
      repeat' (first | (simp -implicitDefEqProofs only [go_sem, sty_at0, sty_rd0, sty_at1, sty_rd1, sty_at2, sty_rd2, sty_at3, sty_rd3, sty_at4, sty_rd4, sty_at5, sty_rd5, sty_at6, sty_rd6, sty_at7, sty_rd7, sty_at8, sty_rd8, sty_at9, sty_rd9, sty_at10, sty_rd10, sty_at11, sty_rd11, sty_at12, sty_rd12, sty_at13, sty_rd13, sty_at14, sty_rd14, sty_at15, sty_rd15, sty_at16, sty_rd16, sty_at17, sty_rd17, sty_at18, sty_rd18, sty_at19, sty_rd19, sty_at20, sty_rd20, sty_at21, sty_rd21, sty_at22, sty_rd22, sty_at23, sty_rd23, sty_at24, sty_rd24, sty_at25, sty_rd25, sty_at26, sty_rd26, sty_at27, sty_rd27, sty_at28, sty_rd28, sty_at29, sty_rd29, sty_at30, sty_rd30, sty_at31, sty_rd31, sty_at32, sty_rd32, sty_at33, sty_rd33, sty_at34, sty_rd34, sty_at35, sty_rd35, sty_at36, sty_rd36, sty_at37, sty_rd37, sty_at38, sty_rd38, sty_at39, sty_rd39, sty_at40, sty_rd40, sty_at41, sty_rd41, sty_at42, sty_rd42, sty_at43, sty_rd43, sty_at44, sty_rd44, sty_at45, sty_rd45, sty_at46, sty_rd46, sty_at47, sty_rd47, sty_ln2, sty_ln10, sty_ln12, sty_ln14, sty_ln16, sty_ln18, sty_ln20, sty_ln22, sty_ln30, sty_ln38, sty_all, sty_all2, sty_len]) | (with_reducible refine g_noent ?_) | ((first | refine cdS (fun hg => ?_) (fun hg => ?_) | refine gdS (fun hg => ?_) (fun hg => ?_) | refine gddS (fun hg => ?_) (fun hg => ?_)) <;> try simp -implicitDefEqProofs only [hg, Bool.not_true, Bool.not_false]) | ((with_reducible apply And.intro); focus (first | trivial | omega | decide | (simp -implicitDefEqProofs only [maxLen]; omega) | (simp [maxLen, sty_len, nd_len, ndL_len, lnL_len, intsL_len, rvs_len, lensS_len] <;> omega))) | fail)
      all_goals (refine fin _ _ ?_; (simp_all [lk, tailOK, beqD]) <;> (try (intros; omega)))

def lnInr (x : Ln) : Bool := !(((!decide (x.kind = 0) && decide (x.kind < 3)) && decide (x.kind > 0)) && (decide (x.n > if x.kind = 2 then 1000000 else 1099511627776) || decide (x.n < - if x.kind = 2 then 1000000 else 1099511627776)))
theorem lnIn_r (x : Ln) : lnIn x = lnInr x := by
  rw [Bool.eq_iff_iff]
  unfold lnIn lnInr inB
  by_cases h2 : x.kind = 2
  · simp [h2]; omega
  · by_cases h1 : x.kind = 1
    · simp [h1]; omega
    · simp [h1, h2]; omega
theorem styIn_r (s : Sty) : styIn s = ((lensS s).all lnInr && (s.border.list.all fun n => decide (n ≤ 1099511627776)) && (decide (s.z ≤ 1073741824) && decide (s.z ≥ -1073741824) && decide (s.back ≤ 16777216) && decide (s.line ≤ 16777216))) := by
  unfold styIn
  rw [show lnIn = lnInr from funext lnIn_r]
  rw [Bool.eq_iff_iff]
  simp [inB]; omega

set_option maxHeartbeats 4000000 in
theorem sp_ref06_Within (s : Sty) : CallR Go.Proofs.Try.prog 33 [s.sv] [] [] (.rv (.bool (styIn s))) := by
  refine callR_G k_decoupageref06_Within [s.sv] _ (by simp) (by simp [BkAll, bk_agg, bkAll_map, bk_rv, bk_fn, Sty.sv, Ln.sv, Nd.sv]) (fun K hK => ?_)
  have bad : ∀ e h, lk e 2 = .rv (.bool false) → styIn s = false → K .ret ⟨e, h⟩ := fun e h l2 hf => (hK _ _ (ret_t (by rw [l2, hf]))).2
  simp -implicitDefEqProofs only [c_decoupageref06_Within, Sty.sv, go_sem]
  have y_2 := sp_ref06_Lens s; repeat' (first | (simp -implicitDefEqProofs only [go_sem, sty_at0, sty_rd0, sty_at1, sty_rd1, sty_at2, sty_rd2, sty_at3, sty_rd3, sty_at4, sty_rd4, sty_at5, sty_rd5, sty_at6, sty_rd6, sty_at7, sty_rd7, sty_at8, sty_rd8, sty_at9, sty_rd9, sty_at10, sty_rd10, sty_at11, sty_rd11, sty_at12, sty_rd12, sty_at13, sty_rd13, sty_at14, sty_rd14, sty_at15, sty_rd15, sty_at16, sty_rd16, sty_at17, sty_rd17, sty_at18, sty_rd18, sty_at19, sty_rd19, sty_at20, sty_rd20, sty_at21, sty_rd21, sty_at22, sty_rd22, sty_at23, sty_rd23, sty_at24, sty_rd24, sty_at25, sty_rd25, sty_at26, sty_rd26, sty_at27, sty_rd27, sty_at28, sty_rd28, sty_at29, sty_rd29, sty_at30, sty_rd30, sty_at31, sty_rd31, sty_at32, sty_rd32, sty_at33, sty_rd33, sty_at34, sty_rd34, sty_at35, sty_rd35, sty_at36, sty_rd36, sty_at37, sty_rd37, sty_at38, sty_rd38, sty_at39, sty_rd39, sty_at40, sty_rd40, sty_at41, sty_rd41, sty_at42, sty_rd42, sty_at43, sty_rd43, sty_at44, sty_rd44, sty_at45, sty_rd45, sty_at46, sty_rd46, sty_at47, sty_rd47, sty_ln2, sty_ln10, sty_ln12, sty_ln14, sty_ln16, sty_ln18, sty_ln20, sty_ln22, sty_ln30, sty_ln38, sty_all, sty_all2, sty_len, lnL_len, lensS_len]) | (with_reducible refine g_noent ?_) | (with_reducible first | refine g_call0 y_2 ?_ | refine g_calld0 y_2 ?_) | ((first | refine cdS (fun hg => ?_) (fun hg => ?_) | refine gdS (fun hg => ?_) (fun hg => ?_) | refine gddS (fun hg => ?_) (fun hg => ?_)) <;> try simp -implicitDefEqProofs only [hg, Bool.not_true, Bool.not_false]) | ((with_reducible apply And.intro); focus (first | trivial | omega | decide | (simp -implicitDefEqProofs only [maxLen]; omega) | (simp [maxLen, sty_len, nd_len, ndL_len, lnL_len, intsL_len, rvs_len, lensS_len] <;> omega))) | fail)
  refine g_loop (ι := Nat) (fun k => [(11, .rv (.int .i64 k)), (10, .rv (.int .i64 18)), (3, .rv (.sl 2 (lnL (lensS s)))), (1, .ptr 0 0)]) (fun k => [some (.var (s.cells.map .rv))]) (fun k => k ≤ 18 ∧ ((lensS s).drop k).all lnInr = (lensS s).all lnInr) (fun k => 18 - k) 0 (by simp) (ent_env (by simp [lk])) (fun k hk K' hN hX hR => ?_)
  obtain ⟨hk1, hk2⟩ := hk
  simp -implicitDefEqProofs only [go_sem]
  refine cdS (fun hg => ?_) (fun hg => ?_)
  · have hk4 : k < 18 := by simp at hg; omega
    have hx := lnL_get (l := lensS s) hk4
    have bad' : ∀ e h, lk e 2 = .rv (.bool false) → lnInr ((lensS s)[k]'hk4) = false → K .ret ⟨e, h⟩ := fun e h l2 hf => bad e h l2 (by rw [styIn_r, all_fail hk4 hk2 hf]; rfl)
    have nx : ∀ e h, lnInr ((lensS s)[k]'hk4) = true → Ent 0 ⟨e, h⟩ ⟨[(11, .rv (.int .i64 (k + 1 : Nat))), (10, .rv (.int .i64 18)), (3, .rv (.sl 2 (lnL (lensS s)))), (1, .ptr 0 0)], [some (.var (s.cells.map .rv))]⟩ → K' .normal ⟨e, h⟩ := fun e h hf he => hN (k + 1) _ _ ⟨by omega, all_next hk4 hk2 hf⟩ (by omega) he
    have wu := wrap_up (k := k) (by omega)
    have hll : (lnL (lensS s)).length = 18 := rfl
    have w1 := wrapN (m := 1000000) (by decide) (by decide)
    have w2 := wrapN (m := 1099511627776) (by decide) (by decide)
    clear hN hX hK bad
    generalize hxx : (lensS s)[k]'hk4 = x at *
    repeat' (first | (simp -implicitDefEqProofs only [go_sem, hx, hll, Ln.cells, wu, w1, w2]) | (with_reducible refine g_noent ?_) | ((first | refine cdS (fun hg => ?_) (fun hg => ?_) | refine gdS (fun hg => ?_) (fun hg => ?_) | refine gddS (fun hg => ?_) (fun hg => ?_)) <;> try simp -implicitDefEqProofs only [hg, Bool.not_true, Bool.not_false]) | ((with_reducible apply And.intro); focus (first | trivial | omega | decide | (simp -implicitDefEqProofs only [maxLen]; omega) | (simp [maxLen, sty_len, nd_len, ndL_len, lnL_len, intsL_len, rvs_len, lensS_len] <;> omega))) | fail)
    all_goals first
      | (refine hR _ _ (bad' _ _ rfl ?_); clear hR bad' nx; simp_all [lnInr, beqD]; done)
      | (refine nx _ _ ?_ (ent_env (by simp [lk])); clear hR bad' nx; simp_all [lnInr, beqD]; done)
      | (refine hR _ _ (bad' _ _ rfl ?_); clear hR bad' nx; simp_all [lnInr, beqD]; omega)
      | (refine nx _ _ ?_ (ent_env (by simp [lk])); clear hR bad' nx; simp_all [lnInr, beqD]; omega)
  · have hk4 : k = 18 := by simp at hg; omega
    subst hk4
    have hall := all_done (by rw [lensS_len]; omega) hk2
    simp -implicitDefEqProofs only [go_sem]
    refine hX _ _ _ ?_
    repeat' (first | (simp -implicitDefEqProofs only [go_sem, sty_at0, sty_rd0, sty_at1, sty_rd1, sty_at2, sty_rd2, sty_at3, sty_rd3, sty_at4, sty_rd4, sty_at5, sty_rd5, sty_at6, sty_rd6, sty_at7, sty_rd7, sty_at8, sty_rd8, sty_at9, sty_rd9, sty_at10, sty_rd10, sty_at11, sty_rd11, sty_at12, sty_rd12, sty_at13, sty_rd13, sty_at14, sty_rd14, sty_at15, sty_rd15, sty_at16, sty_rd16, sty_at17, sty_rd17, sty_at18, sty_rd18, sty_at19, sty_rd19, sty_at20, sty_rd20, sty_at21, sty_rd21, sty_at22, sty_rd22, sty_at23, sty_rd23, sty_at24, sty_rd24, sty_at25, sty_rd25, sty_at26, sty_rd26, sty_at27, sty_rd27, sty_at28, sty_rd28, sty_at29, sty_rd29, sty_at30, sty_rd30, sty_at31, sty_rd31, sty_at32, sty_rd32, sty_at33, sty_rd33, sty_at34, sty_rd34, sty_at35, sty_rd35, sty_at36, sty_rd36, sty_at37, sty_rd37, sty_at38, sty_rd38, sty_at39, sty_rd39, sty_at40, sty_rd40, sty_at41, sty_rd41, sty_at42, sty_rd42, sty_at43, sty_rd43, sty_at44, sty_rd44, sty_at45, sty_rd45, sty_at46, sty_rd46, sty_at47, sty_rd47, sty_ln2, sty_ln10, sty_ln12, sty_ln14, sty_ln16, sty_ln18, sty_ln20, sty_ln22, sty_ln30, sty_ln38, sty_all, sty_all2, sty_len]) | (with_reducible refine g_noent ?_) | ((first | refine cdS (fun hg => ?_) (fun hg => ?_) | refine gdS (fun hg => ?_) (fun hg => ?_) | refine gddS (fun hg => ?_) (fun hg => ?_)) <;> try simp -implicitDefEqProofs only [hg, Bool.not_true, Bool.not_false]) | ((with_reducible apply And.intro); focus (first | trivial | omega | decide | (simp -implicitDefEqProofs only [maxLen]; omega) | (simp [maxLen, sty_len, nd_len, ndL_len, lnL_len, intsL_len, rvs_len, lensS_len] <;> omega))) | fail)
    refine g_loop (ι := Nat) (fun k => [(62, .rv (.int .i64 k)), (1, .ptr 0 0)]) (fun k => [some (.var (s.cells.map .rv))]) (fun k => k ≤ 4 ∧ (s.border.list.drop k).all (fun n => decide (n ≤ 1099511627776)) = s.border.list.all (fun n => decide (n ≤ 1099511627776))) (fun k => 4 - k) 0 (by simp) (ent_env (by simp [lk])) (fun k hk K' hN hX hR => ?_)
    obtain ⟨hk1, hk3⟩ := hk
    simp -implicitDefEqProofs only [go_sem]
    refine cdS (fun hg => ?_) (fun hg => ?_)
    · have hk4 : k < 4 := by simp at hg; omega
      have hx : (s.cells.map SV.rv)[38 + k * 1]? = some (.rv (.int .i64 (s.border.list[k]'hk4))) := by
        have : k = 0 ∨ k = 1 ∨ k = 2 ∨ k = 3 := by omega
        rcases this with rfl | rfl | rfl | rfl <;> rfl
      repeat' (first | (simp -implicitDefEqProofs only [go_sem, hx, sty_len]) | (with_reducible refine g_noent ?_) | ((first | refine cdS (fun hg => ?_) (fun hg => ?_) | refine gdS (fun hg => ?_) (fun hg => ?_) | refine gddS (fun hg => ?_) (fun hg => ?_)) <;> try simp -implicitDefEqProofs only [hg, Bool.not_true, Bool.not_false]) | ((with_reducible apply And.intro); focus (first | trivial | omega | decide | (simp -implicitDefEqProofs only [maxLen]; omega) | (simp [maxLen, sty_len, nd_len, ndL_len, lnL_len, intsL_len, rvs_len, lensS_len] <;> omega))) | fail)
      · refine hR _ _ (bad _ _ rfl ?_)
        simp -implicitDefEqProofs only [styIn]
        rw [all_fail (l := s.border.list) hk4 hk3 (by simp at hg ⊢; omega)]
        simp
      · rw [wrap_up (by omega)]
        exact hN (k + 1) _ _ ⟨by omega, all_next (l := s.border.list) hk4 hk3 (by simp at hg ⊢; omega)⟩ (by omega) (ent_env (by simp [lk]))
    · have hk4 : k = 4 := by simp at hg; omega
      subst hk4
      have hb := all_done (l := s.border.list) (by simp [Q4.list]) hk3
      simp -implicitDefEqProofs only [go_sem]
      refine hX _ _ _ ?_
      have fin : ∀ e h, lk e 2 = .rv (.bool (decide (s.z ≤ 1073741824) && decide (s.z ≥ -1073741824) && decide (s.back ≤ 16777216) && decide (s.line ≤ 16777216))) → K .ret ⟨e, h⟩ := fun e h l2 => (hK _ _ (ret_t (by rw [l2, styIn_r, hall, hb]; rfl))).2
      clear hK hN hX hR bad
      repeat' (first | (simp -implicitDefEqProofs only [go_sem, sty_at0, sty_rd0, sty_at1, sty_rd1, sty_at2, sty_rd2, sty_at3, sty_rd3, sty_at4, sty_rd4, sty_at5, sty_rd5, sty_at6, sty_rd6, sty_at7, sty_rd7, sty_at8, sty_rd8, sty_at9, sty_rd9, sty_at10, sty_rd10, sty_at11, sty_rd11, sty_at12, sty_rd12, sty_at13, sty_rd13, sty_at14, sty_rd14, sty_at15, sty_rd15, sty_at16, sty_rd16, sty_at17, sty_rd17, sty_at18, sty_rd18, sty_at19, sty_rd19, sty_at20, sty_rd20, sty_at21, sty_rd21, sty_at22, sty_rd22, sty_at23, sty_rd23, sty_at24, sty_rd24, sty_at25, sty_rd25, sty_at26, sty_rd26, sty_at27, sty_rd27, sty_at28, sty_rd28, sty_at29, sty_rd29, sty_at30, sty_rd30, sty_at31, sty_rd31, sty_at32, sty_rd32, sty_at33, sty_rd33, sty_at34, sty_rd34, sty_at35, sty_rd35, sty_at36, sty_rd36, sty_at37, sty_rd37, sty_at38, sty_rd38, sty_at39, sty_rd39, sty_at40, sty_rd40, sty_at41, sty_rd41, sty_at42, sty_rd42, sty_at43, sty_rd43, sty_at44, sty_rd44, sty_at45, sty_rd45, sty_at46, sty_rd46, sty_at47, sty_rd47, sty_ln2, sty_ln10, sty_ln12, sty_ln14, sty_ln16, sty_ln18, sty_ln20, sty_ln22, sty_ln30, sty_ln38, sty_all, sty_all2, sty_len]) | (with_reducible refine g_noent ?_) | ((first | refine cdS (fun hg => ?_) (fun hg => ?_) | refine gdS (fun hg => ?_) (fun hg => ?_) | refine gddS (fun hg => ?_) (fun hg => ?_)) <;> try simp -implicitDefEqProofs only [hg, Bool.not_true, Bool.not_false]) | ((with_reducible apply And.intro); focus (first | trivial | omega | decide | (simp -implicitDefEqProofs only [maxLen]; omega) | (simp [maxLen, sty_len, nd_len, ndL_len, lnL_len, intsL_len, rvs_len, lensS_len] <;> omega))) | fail)
      all_goals (refine fin _ _ ?_; (simp_all [lk, beqD]) <;> (try (intros; omega)))
end Go.Eng


/- trees: the program's check. -/
namespace Go.Eng
open Go
/- decoupage/tree.up -/
def c_tree_up : AC := (.seq (.reg [⟨(some 4), .mv, [(.c (.rv (.int .i64 0)))], none⟩, ⟨(some 5), .mv, [(.c (.rv (.bool false)))], none⟩]) (.seq (.reg [⟨(some 6), .mv, [(.c (.rv (.int .i64 0)))], none⟩]) (.seq (.seq (.reg [⟨(some 8), .mv, [(.t 1)], none⟩, ⟨(some 9), (.ibin .sub), [(.t 8), (.c (.rv (.int .i64 1)))], none⟩, ⟨(some 7), .mv, [(.t 9)], none⟩]) (.seq (.block 0 (.loop (.seq (.seq (.reg [⟨(some 10), .mv, [(.t 7)], none⟩, ⟨(some 11), (.ibin .geq), [(.t 10), (.c (.rv (.int .i64 0)))], none⟩]) (.cond (.t 11) .skip (.exit 0))) (.seq (.seq (.block 1 (.seq (.seq (.reg [⟨(some 17), .mv, [(.t 7)], none⟩, ⟨(some 18), .mv, [(.t 0)], none⟩, ⟨(some 19), .mv, [(.t 1)], none⟩, ⟨(some 20), (.ixs 49), [(.t 18), (.t 19)], none⟩, ⟨(some 21), (.fld 48), [(.t 20)], none⟩, ⟨(some 22), (.load 1 false), [(.t 21)], none⟩, ⟨(some 23), (.ibin .eql), [(.t 17), (.t 22)], none⟩]) (.cond (.t 23) (.seq (.reg [⟨(some 24), .mv, [(.t 6)], none⟩, ⟨(some 4), .mv, [(.t 24)], none⟩, ⟨(some 5), .mv, [(.c (.rv (.bool true)))], none⟩]) .ret) .skip)) (.reg [⟨(some 25), .mv, [(.t 6)], none⟩, ⟨(some 26), (.ibin .add), [(.t 25), (.c (.rv (.int .i64 1)))], none⟩, ⟨(some 6), .mv, [(.t 26)], none⟩]))) .ent) (.reg [⟨(some 12), .mv, [(.t 0)], none⟩, ⟨(some 13), .mv, [(.t 7)], none⟩, ⟨(some 14), (.ixs 49), [(.t 12), (.t 13)], none⟩, ⟨(some 15), (.fld 48), [(.t 14)], none⟩, ⟨(some 16), (.load 1 false), [(.t 15)], none⟩, ⟨(some 7), .mv, [(.t 16)], none⟩]))))) .ent)) (.seq (.reg [⟨(some 4), .mv, [(.c (.rv (.int .i64 0)))], none⟩, ⟨(some 5), .mv, [(.c (.rv (.bool false)))], none⟩]) .ret))))
theorem k_tree_up : FnOK Go.Proofs.Try.prog 90 27 c_tree_up [(.t 4), (.t 5)] := fnOK_of (by kernel_rfl)

/- decoupage/tree.Formed -/
def c_tree_Formed : AC := (.seq (.reg [⟨(some 2), .mv, [(.c (.rv (.bool false)))], none⟩]) (.seq (.seq (.reg [⟨(some 6), .mv, [(.t 0)], none⟩, ⟨(some 7), .len, [(.t 6)], none⟩, ⟨(some 8), (.ibin .eql), [(.t 7), (.c (.rv (.int .i64 0)))], none⟩, ⟨(some 9), .mv, [(.t 8)], none⟩, ⟨(some 10), .mv, [(.t 0)], (some (9, false))⟩, ⟨(some 11), (.ixs 49), [(.t 10), (.c (.rv (.int .i64 0)))], (some (9, false))⟩, ⟨(some 12), (.fld 48), [(.t 11)], (some (9, false))⟩, ⟨(some 13), (.load 1 false), [(.t 12)], (some (9, false))⟩, ⟨(some 14), (.ibin .neq), [(.t 13), (.c (.rv (.int .i64 (-1))))], (some (9, false))⟩, ⟨(some 15), .pick, [(.t 9), (.c (.rv (.bool true))), (.t 14)], none⟩]) (.cond (.t 15) (.seq (.reg [⟨(some 2), .mv, [(.c (.rv (.bool false)))], none⟩]) .ret) .skip)) (.seq (.seq (.reg [⟨(some 16), .mv, [(.t 0)], none⟩, ⟨(some 17), .len, [(.t 16)], none⟩, ⟨(some 18), .mv, [(.c (.rv (.int .i64 0)))], none⟩]) (.seq (.block 0 (.loop (.seq (.reg [⟨(some 19), (.ibin .lss), [(.t 18), (.t 17)], none⟩]) (.seq (.cond (.t 19) .skip (.exit 0)) (.seq (.seq (.block 1 (.seq (.reg [⟨(some 20), .mv, [(.t 18)], none⟩, ⟨(some 3), .mv, [(.t 20)], none⟩]) (.seq (.seq (.reg [⟨(some 21), .mv, [(.t 3)], none⟩, ⟨(some 22), (.ibin .gtr), [(.t 21), (.c (.rv (.int .i64 0)))], none⟩]) (.seq (.cond (.t 22) (.seq (.reg [⟨(some 24), .mv, [(.t 0)], none⟩, ⟨(some 25), .mv, [(.t 3)], none⟩, ⟨(some 26), (.call 90), [(.t 24), (.t 25)], none⟩, ⟨(some 23), .mv, [(.t 26)], none⟩, ⟨(some 27), (.ext 0), [(.t 23)], none⟩, ⟨(some 28), (.ext 1), [(.t 23)], none⟩, ⟨(some 4), .mv, [(.t 27)], none⟩, ⟨(some 5), .mv, [(.t 28)], none⟩]) (.seq (.reg [⟨(some 29), .mv, [(.t 5)], none⟩, ⟨(some 30), .not, [(.t 29)], none⟩]) (.cond (.t 30) (.seq (.reg [⟨(some 2), .mv, [(.c (.rv (.bool false)))], none⟩]) .ret) .skip))) .skip) .ent)) (.seq (.reg [⟨(some 31), .mv, [(.t 0)], none⟩, ⟨(some 32), .mv, [(.t 3)], none⟩, ⟨(some 33), (.ixs 49), [(.t 31), (.t 32)], none⟩, ⟨(some 34), (.fld 0), [(.t 33)], none⟩, ⟨(some 35), (.load 48 true), [(.t 34)], none⟩, ⟨(some 36), (.call 85), [(.t 35)], none⟩, ⟨(some 37), .not, [(.t 36)], none⟩]) (.cond (.t 37) (.seq (.reg [⟨(some 2), .mv, [(.c (.rv (.bool false)))], none⟩]) .ret) .skip))))) .ent) (.reg [⟨(some 38), (.ibin .add), [(.t 18), (.c (.rv (.int .i64 1)))], none⟩, ⟨(some 18), .mv, [(.t 38)], none⟩])))))) .ent)) (.seq (.reg [⟨(some 2), .mv, [(.c (.rv (.bool true)))], none⟩]) .ret))))
theorem k_tree_Formed : FnOK Go.Proofs.Try.prog 67 39 c_tree_Formed [(.t 2)] := fnOK_of (by kernel_rfl)


theorem nd_drop0 (x : Nd) : (x.cells.drop 48)[0]? = some (.int .i64 x.parent) := rfl
theorem nd_st (x : Nd) : (x.cells.take 48).map SV.rv = x.s.cells.map SV.rv := rfl

theorem sp_tree_up (l : List Nd) (k : Nat) (h0 : 0 < k) (hk : k < l.length) (hw : WF l k) (hb : l.length ≤ 8589934592) :
    CallR Go.Proofs.Try.prog 90 [.rv (.sl 49 (ndL l)), .rv (.int .i64 k)] [] [] (.tup [.rv (.int .i64 ((upIx l k).getD 0 : Nat)), .rv (.bool (upIx l k).isSome)]) := by
  refine callR_G k_tree_up [.rv (.sl 49 (ndL l)), .rv (.int .i64 k)] _ (by simp) (by simp [BkAll, bk_agg, bkAll_map, bk_rv, bk_fn, Sty.sv, Ln.sv, Nd.sv]) (fun K hK => ?_)
  have wd := wrap_dn h0 (by omega)
  have hxk := ndL_get hk
  have hlen := ndL_len l
  have hpk := parL_eq hk
  simp -implicitDefEqProofs only [c_tree_up, wd, go_sem]
  refine g_loop (ι := Nat) (fun i => [(7, .rv (.int .i64 (atI (pth l (k - 1)) i))), (6, .rv (.int .i64 i)), (0, .rv (.sl 49 (ndL l))), (1, .rv (.int .i64 k))]) (fun _ => []) (fun i => i ≤ (pth l (k - 1)).length ∧ ∀ j, (h : j < (pth l (k - 1)).length) → j < i → (((pth l (k - 1))[j]'h : Nat) : Int) ≠ parL l k) (fun i => (pth l (k - 1)).length - i) 0 (by simp) (by rw [atI_zero]; exact ent_env (by simp [lk])) (fun i hi K' hN hX hR => ?_)
  obtain ⟨hi1, hi2⟩ := hi
  have hpl := pth_len (l := l) (k - 1)
  simp -implicitDefEqProofs only [go_sem]
  refine cdS (fun hg => ?_) (fun hg => ?_)
  · have hil : i < (pth l (k - 1)).length := atI_iff.1 (by simpa using hg)
    have hat := atI_lt hil
    have hlt : (pth l (k - 1))[i] < k := pth_lt (by omega) hil
    have hx := ndL_get (l := l) (i := (pth l (k - 1))[i]) (by omega)
    have hpar := parL_eq (l := l) (n := (pth l (k - 1))[i]) (by omega)
    have hnx := par_at hw (k - 1) (by omega) i hil
    repeat' (first | (simp -implicitDefEqProofs only [go_sem, hxk, hlen, nd_len, nd_drop0, hpk, hat, hx, hpar, hnx]) | (with_reducible refine g_noent ?_) | ((first | refine cdS (fun hg => ?_) (fun hg => ?_) | refine gdS (fun hg => ?_) (fun hg => ?_) | refine gddS (fun hg => ?_) (fun hg => ?_)) <;> try simp -implicitDefEqProofs only [hg, Bool.not_true, Bool.not_false]) | ((with_reducible apply And.intro); focus (first | trivial | omega | decide | (simp -implicitDefEqProofs only [maxLen]; omega) | (simp [maxLen, sty_len, nd_len, ndL_len, lnL_len, intsL_len, rvs_len, lensS_len] <;> omega))) | fail)
    · refine hR _ _ (hK _ _ ?_).2
      rw [upIx_at hil (by simpa using hg) hi2]
      exact ret_t2 rfl rfl
    · rw [wrap_up (by omega)]
      refine hN (i + 1) _ _ ⟨by omega, fun j hj hji => ?_⟩ (by omega) (ent_env (by simp [lk]))
      rcases Nat.lt_or_ge j i with h | h
      · exact hi2 j hj h
      · obtain rfl : j = i := by omega
        simpa using hg
  · simp -implicitDefEqProofs only [go_sem]
    refine hX _ _ _ ?_
    repeat' (first | (simp -implicitDefEqProofs only [go_sem]) | (with_reducible refine g_noent ?_) | ((first | refine cdS (fun hg => ?_) (fun hg => ?_) | refine gdS (fun hg => ?_) (fun hg => ?_) | refine gddS (fun hg => ?_) (fun hg => ?_)) <;> try simp -implicitDefEqProofs only [hg, Bool.not_true, Bool.not_false]) | ((with_reducible apply And.intro); focus (first | trivial | omega | decide | (simp -implicitDefEqProofs only [maxLen]; omega) | (simp [maxLen, sty_len, nd_len, ndL_len, lnL_len, intsL_len, rvs_len, lensS_len] <;> omega))) | fail)
    refine (hK _ _ ?_).2
    have hil : ¬ i < (pth l (k - 1)).length := fun h => by have := atI_iff.2 h; simp at hg; omega
    rw [upIx_no fun j hj => hi2 j hj (by omega)]
    exact ret_t2 rfl rfl

theorem sp_tree_Formed (l : List Nd) (hb : l.length ≤ 8589934592) : CallR Go.Proofs.Try.prog 67 [.rv (.sl 49 (ndL l))] [] [] (.rv (.bool (treeOK l))) := by
  refine callR_G k_tree_Formed [.rv (.sl 49 (ndL l))] _ (by simp) (by simp [BkAll, bk_agg, bkAll_map, bk_rv, bk_fn, Sty.sv, Ln.sv, Nd.sv]) (fun K hK => ?_)
  have bad : ∀ e h, lk e 2 = .rv (.bool false) → treeOK l = false → K .ret ⟨e, h⟩ := fun e h l2 hf => (hK _ _ (ret_t (by rw [l2, hf]))).2
  have hlen := ndL_len l
  simp -implicitDefEqProofs only [c_tree_Formed, hlen, go_sem]
  by_cases hl0 : l.length = 0
  · have e0 : (((l.length : Nat) : Int) == 0) = true := by simp [hl0]
    repeat' (first | (simp -implicitDefEqProofs only [go_sem, e0, hlen]) | (with_reducible refine g_noent ?_) | ((first | refine cdS (fun hg => ?_) (fun hg => ?_) | refine gdS (fun hg => ?_) (fun hg => ?_) | refine gddS (fun hg => ?_) (fun hg => ?_)) <;> try simp -implicitDefEqProofs only [hg, Bool.not_true, Bool.not_false]) | ((with_reducible apply And.intro); focus (first | trivial | omega | decide | (simp -implicitDefEqProofs only [maxLen]; omega) | (simp [maxLen, sty_len, nd_len, ndL_len, lnL_len, intsL_len, rvs_len, lensS_len] <;> omega))) | fail)
    exact bad _ _ rfl (by simp [treeOK, shapeOK, hl0])
  · have e0 : (((l.length : Nat) : Int) == 0) = false := by simp [hl0]
    have hx0 := ndL_get (l := l) (i := 0) (by omega)
    have hp0 := parL_eq (l := l) (n := 0) (by omega)
    repeat' (first | (simp -implicitDefEqProofs only [go_sem, e0, hlen, hx0, nd_len, nd_drop0, hp0]) | (with_reducible refine g_noent ?_) | ((first | refine cdS (fun hg => ?_) (fun hg => ?_) | refine gdS (fun hg => ?_) (fun hg => ?_) | refine gddS (fun hg => ?_) (fun hg => ?_)) <;> try simp -implicitDefEqProofs only [hg, Bool.not_true, Bool.not_false]) | ((with_reducible apply And.intro); focus (first | trivial | omega | decide | (simp -implicitDefEqProofs only [maxLen]; omega) | (simp [maxLen, sty_len, nd_len, ndL_len, lnL_len, intsL_len, rvs_len, lensS_len] <;> omega))) | fail)
    · exact bad _ _ rfl (by simp [treeOK, shapeOK]; intro _ h; simp at hg; exact absurd h hg)
    · have hroot : parL l 0 = -1 := by simpa using hg
      refine g_loop (ι := Nat) (fun k => [(18, .rv (.int .i64 k)), (17, .rv (.int .i64 l.length)), (0, .rv (.sl 49 (ndL l)))]) (fun _ => []) (fun k => k ≤ l.length ∧ (∀ j, j < k → nodeOK l j = true) ∧ ((l.drop k).all fun x => styOK x.s) = l.all fun x => styOK x.s) (fun k => l.length - k) 0 (by simp) (ent_env (by simp [lk])) (fun k hk K' hN hX hR => ?_)
      obtain ⟨hk1, hk2, hk3⟩ := hk
      have hw := wf_of hroot hk2
      simp -implicitDefEqProofs only [go_sem]
      refine cdS (fun hg => ?_) (fun hg => ?_)
      · have hk4 : k < l.length := by simp at hg; omega
        have hx := ndL_get hk4
        have h48 : (l[k]'hk4).cells.drop 0 = (l[k]'hk4).cells := rfl
        have bad1 : nodeOK l k = false → treeOK l = false := fun h => by
          simp -implicitDefEqProofs only [treeOK, Bool.and_eq_false_iff]
          left
          rw [Bool.eq_false_iff]
          intro ht
          simp -implicitDefEqProofs only [shapeOK, Bool.and_eq_true, List.all_eq_true, List.mem_range] at ht
          have := ht.2 k hk4
          rw [h] at this; cases this
        have bad2 : styOK (l[k]'hk4).s = false → treeOK l = false := fun h => by
          have : (l.all fun x => styOK x.s) = false := all_fail hk4 hk3 h
          simp -implicitDefEqProofs only [treeOK, this, Bool.and_false]
        have nx : ∀ e h, nodeOK l k = true → styOK (l[k]'hk4).s = true → Ent 0 ⟨e, h⟩ ⟨[(18, .rv (.int .i64 (k + 1 : Nat))), (17, .rv (.int .i64 l.length)), (0, .rv (.sl 49 (ndL l)))], []⟩ → K' .normal ⟨e, h⟩ := fun e h h1 h2 he => hN (k + 1) _ _ ⟨by omega, fun j hj => by
            rcases Nat.lt_or_ge j k with h | h
            · exact hk2 j h
            · obtain rfl : j = k := by omega
              exact h1, all_next hk4 hk3 h2⟩ (by omega) he
        have wu := wrap_up (k := k) (by omega)
        clear hN hX hK
        by_cases hk0 : 0 < k
        · have hn : nodeOK l k = (upIx l k).isSome := by simp [nodeOK]; intro h; omega
          have hgt : decide ((k : Int) > 0) = true := decide_eq_true (by omega)
          have y_1 := sp_tree_up l k hk0 hk4 hw hb; have y_2 := sp_style_Formed (l[k]'hk4).s; repeat' (first | (simp -implicitDefEqProofs only [go_sem, hgt, hlen, hx, nd_len, nd_drop0, nd_st, wu]) | (with_reducible refine g_noent ?_) | (with_reducible first | refine g_call0 y_1 ?_ | refine g_calld0 y_1 ?_) | (with_reducible first | refine g_call0 y_2 ?_ | refine g_calld0 y_2 ?_) | ((first | refine cdS (fun hg => ?_) (fun hg => ?_) | refine gdS (fun hg => ?_) (fun hg => ?_) | refine gddS (fun hg => ?_) (fun hg => ?_)) <;> try simp -implicitDefEqProofs only [hg, Bool.not_true, Bool.not_false]) | ((with_reducible apply And.intro); focus (first | trivial | omega | decide | (simp -implicitDefEqProofs only [maxLen]; omega) | (simp [maxLen, sty_len, nd_len, ndL_len, lnL_len, intsL_len, rvs_len, lensS_len] <;> omega))) | fail)
          all_goals first
            | (refine hR _ _ (bad _ _ rfl (bad1 ?_)); rw [hn]; simpa using hg; done)
            | (refine hR _ _ (bad _ _ rfl (bad2 ?_)); simpa using hg; done)
            | (refine nx _ _ ?_ ?_ (ent_env (by simp [lk])) <;> simp_all; done)
        · obtain rfl : k = 0 := by omega
          have hn : nodeOK l 0 = true := by simp [nodeOK]
          have hgt : decide (((0 : Nat) : Int) > 0) = false := rfl
          have y_3 := sp_style_Formed (l[0]'hk4).s; repeat' (first | (simp -implicitDefEqProofs only [go_sem, hgt, hlen, hx, nd_len, nd_drop0, nd_st, wu]) | (with_reducible refine g_noent ?_) | (with_reducible first | refine g_call0 y_3 ?_ | refine g_calld0 y_3 ?_) | ((first | refine cdS (fun hg => ?_) (fun hg => ?_) | refine gdS (fun hg => ?_) (fun hg => ?_) | refine gddS (fun hg => ?_) (fun hg => ?_)) <;> try simp -implicitDefEqProofs only [hg, Bool.not_true, Bool.not_false]) | ((with_reducible apply And.intro); focus (first | trivial | omega | decide | (simp -implicitDefEqProofs only [maxLen]; omega) | (simp [maxLen, sty_len, nd_len, ndL_len, lnL_len, intsL_len, rvs_len, lensS_len] <;> omega))) | fail)
          all_goals first
            | (refine hR _ _ (bad _ _ rfl (bad2 ?_)); simpa using hg; done)
            | (refine nx _ _ hn ?_ (ent_env (by simp [lk])); simpa using hg)
      · have hk4 : k = l.length := by simp at hg; omega
        subst hk4
        have hall := all_done (Nat.le_refl _) hk3
        have hs : shapeOK l = true := by
          simp -implicitDefEqProofs only [shapeOK, Bool.and_eq_true, decide_eq_true_eq, List.all_eq_true, List.mem_range]
          exact ⟨⟨by omega, hroot⟩, hk2⟩
        simp -implicitDefEqProofs only [go_sem]
        refine hX _ _ _ ?_
        repeat' (first | (simp -implicitDefEqProofs only [go_sem]) | (with_reducible refine g_noent ?_) | ((first | refine cdS (fun hg => ?_) (fun hg => ?_) | refine gdS (fun hg => ?_) (fun hg => ?_) | refine gddS (fun hg => ?_) (fun hg => ?_)) <;> try simp -implicitDefEqProofs only [hg, Bool.not_true, Bool.not_false]) | ((with_reducible apply And.intro); focus (first | trivial | omega | decide | (simp -implicitDefEqProofs only [maxLen]; omega) | (simp [maxLen, sty_len, nd_len, ndL_len, lnL_len, intsL_len, rvs_len, lensS_len] <;> omega))) | fail)
        exact (hK _ _ (ret_t (by rw [treeOK, hs, hall]; rfl))).2
end Go.Eng
