/- The machine's small operations, each at values that are told by the engine's: loads, stores, new variables, numbers, addresses. -/
import Derived.Test.YtjiipbccpfjefaaEngB
namespace Go.Eng
open Go

def szT (P : Program) (t : TypeId) : Option Nat := (P.info? t).map (·.size)
def aggT (P : Program) (t : TypeId) : Option Bool := (P.underlying t).map fun
  | .struct _ | .array _ _ => true
  | _ => false

theorem run_isAgg' {P : Program} {t : TypeId} {b : Bool} (h : aggT P t = some b) (w : World) : (isAgg t).run P w = .ok b w := by
  unfold aggT at h
  cases hu : P.underlying t with
  | none => simp [hu] at h
  | some d =>
    simp only [hu, Option.map_some, Option.some.injEq] at h
    simp only [isAgg, Sem.run_bind, run_underlying hu, Result.andThen_ok]
    cases d <;> (simp only at h; subst h; rfl)

theorem run_sizeOf' {P : Program} {t : TypeId} {n : Nat} (h : szT P t = some n) (w : World) : (sizeOf t).run P w = .ok n w := by
  unfold szT at h
  cases hu : P.info? t with
  | none => simp [hu] at h
  | some i => simp only [hu, Option.map_some, Option.some.injEq] at h; simp [sizeOf, typeInfo, hu, h]

/-- The cells behind an address. -/
def CAt (w : World) (a : Addr) (vs : List Value) : Prop := ∀ (j : Nat) (v : Value), vs[j]? = some v → w.cell? (a.add j) = some v

theorem run_load1 {P : Program} {t : TypeId} {w : World} {a : Addr} {v : Value} (h : aggT P t = some false) (hc : w.cell? a = some v) : (loadVar t a).run P w = .ok v w := by
  simp [loadVar, run_isAgg' h, hc]

theorem run_loadN {P : Program} {t : TypeId} {w : World} {a : Addr} {vs : List Value} (h : aggT P t = some true) (hs : szT P t = some vs.length) (hc : CAt w a vs) : (loadVar t a).run P w = .ok (.agg vs.toArray) w := by
  simp [loadVar, run_isAgg' h, run_sizeOf' hs, run_loadCells_list w a vs hc]

theorem add_lit (b o j : Nat) : (⟨b, o, none⟩ : Addr).add j = ⟨b, o + j, none⟩ := by unfold Addr.add; split <;> simp_all

theorem cell_blk {w : World} {b : Nat} {cur : Array Value} {t : TypeId} {fr : Nat × Nat} (h : w.heap[b]? = some (.cells cur t fr)) (o : Nat) : w.cell? ⟨b, o, none⟩ = cur[o]? := by
  simp [World.cell?, h]

section
variable {w : World} {ok : Nat → Prop} {rho : Nat → Option Nat} {hp : Hp}

theorem CellsIn.sub {cur : Array Value} {off : Nat} {cs : List SV} (h : CellsIn w ok rho hp cur off cs) (k n : Nat) : CellsIn w ok rho hp cur (off + k) ((cs.drop k).take n) := fun j y hy => by
  rw [List.getElem?_take] at hy
  split at hy
  · rw [List.getElem?_drop] at hy
    obtain ⟨v, h1, h2⟩ := h (k + j) y hy
    exact ⟨v, by rw [← Nat.add_assoc] at h1; exact h1, h2⟩
  · cases hy

theorem CellsIn.vals {cur : Array Value} {off : Nat} {cs : List SV} (h : CellsIn w ok rho hp cur off cs) :
    ∃ vs : List Value, vs.length = cs.length ∧ (∀ (j : Nat) (u : Value), vs[j]? = some u → cur[off + j]? = some u ∧ u.oneCell' = true) ∧ ∀ (j : Nat) (y : SV), cs[j]? = some y → Rp w ok rho hp y (vs.getD j undef) := by
  refine ⟨(List.range cs.length).map fun j => cur.getD (off + j) undef, by simp, fun j u hu => ?_, fun j y hy => ?_⟩
  · have hj : j < cs.length := by have := (List.getElem?_eq_some_iff.1 hu).1; simpa using this
    obtain ⟨v, h1, h2, _⟩ := h j _ (List.getElem?_eq_getElem hj)
    simp only [List.getElem?_map, List.getElem?_range hj, Option.map_some, Option.some.injEq, Array.getD_eq_getD_getElem?, h1, Option.getD_some] at hu
    subst hu; exact ⟨h1, h2⟩
  · have hj : j < cs.length := (List.getElem?_eq_some_iff.1 hy).1
    obtain ⟨v, h1, _, h3⟩ := h j y hy
    simp only [List.getD_eq_getElem?_getD, List.getElem?_map, List.getElem?_range hj, Option.map_some, Option.getD_some, Array.getD_eq_getD_getElem?, h1]
    exact h3

/-- A part of a thing of the call's own, read as one value. -/
theorem CellsIn.load {P : Program} {cur : Array Value} {off : Nat} {cs : List SV} {b : Nat} {t0 : TypeId} {fr : Nat × Nat} (hblk : w.heap[b]? = some (.cells cur t0 fr)) (h : CellsIn w ok rho hp cur off cs) {t : TypeId} (ha : aggT P t = some true) (hs : szT P t = some cs.length) :
    ∃ v, (loadVar t ⟨b, off, none⟩).run P w = .ok v w ∧ Rp w ok rho hp (.agg cs) v := by
  obtain ⟨vs, h1, h2, h3⟩ := h.vals
  refine ⟨.agg vs.toArray, run_loadN ha (by rw [h1]; exact hs) (fun j u hu => ?_), .agg cs vs h1 (fun j u hu => (h2 j u hu).2) h3⟩
  rw [add_lit, cell_blk hblk]; exact (h2 j u hu).1

theorem CellsIn.load1 {P : Program} {cur : Array Value} {off : Nat} {cs : List SV} {b : Nat} {t0 : TypeId} {fr : Nat × Nat} (hblk : w.heap[b]? = some (.cells cur t0 fr)) (h : CellsIn w ok rho hp cur off cs) {t : TypeId} (ha : aggT P t = some false) {k : Nat} {y : SV} (hy : cs[k]? = some y) :
    ∃ v, (loadVar t ⟨b, off + k, none⟩).run P w = .ok v w ∧ Rp w ok rho hp y v := by
  obtain ⟨v, h1, _, h3⟩ := h k y hy
  exact ⟨v, run_load1 ha (by rw [cell_blk hblk]; exact h1), h3⟩
end

section
variable {P : Program} {C : Ctx} {hp : Hp} {w : World} {rho : Nat → Option Nat}

theorem loadVar_ptr (R : RepH C hp w rho) {id off : Nat} {v : Value} (hv : Rp w (okk C rho hp) rho hp (.ptr id off) v) {cs : List SV} (hq : hp id = some (.var cs)) {t : TypeId} {n : Nat} (hs : szT P t = some n) (ha : aggT P t = some true) (hl : off + n ≤ cs.length) :
    ∃ u, (Instr.loadAt t v).run P w = .ok u w ∧ Rp w (okk C rho hp) rho hp (.agg ((cs.drop off).take n)) u := by
  cases hv with
  | ptr _ _ _ h1 h0 h =>
    obtain ⟨b, hb, rfl⟩ := h cs hq
    rcases R.heap id _ hq with ⟨_, _, _, h'⟩ | ⟨b', cur, t0, g1, g2, g3⟩
    · cases h'
    · rw [hb] at g1; cases g1
      obtain ⟨u, hu, hr⟩ := CellsIn.load (P := P) (t := t) g2 (g3.2.sub off n) ha (by rw [hs, List.length_take, List.length_drop]; congr 1; omega)
      refine ⟨u, ?_, hr⟩
      simp only [Nat.zero_add] at hu
      simp [Instr.loadAt, Instr.sureAddr, hu]

theorem loadVar_ptr1 (R : RepH C hp w rho) {id off : Nat} {v : Value} (hv : Rp w (okk C rho hp) rho hp (.ptr id off) v) {cs : List SV} (hq : hp id = some (.var cs)) {t : TypeId} (ha : aggT P t = some false) {y : SV} (hy : cs[off]? = some y) :
    ∃ u, (Instr.loadAt t v).run P w = .ok u w ∧ Rp w (okk C rho hp) rho hp y u := by
  cases hv with
  | ptr _ _ _ h1 h0 h =>
    obtain ⟨b, hb, rfl⟩ := h cs hq
    rcases R.heap id _ hq with ⟨_, _, _, h'⟩ | ⟨b', cur, t0, g1, g2, g3⟩
    · cases h'
    · rw [hb] at g1; cases g1
      obtain ⟨u, hu, hr⟩ := CellsIn.load1 (P := P) (t := t) g2 g3.2 ha hy
      refine ⟨u, ?_, hr⟩
      simp only [Nat.zero_add] at hu
      simp [Instr.loadAt, Instr.sureAddr, hu]

theorem loadVar_ept (R : RepH C hp w rho) {id ver i off : Nat} {v : Value} (hv : Rp w (okk C rho hp) rho hp (.ept id ver i off) v) {e : Nat} {xs : List (List SV)} (hq : hp id = some (.row e ver xs)) {t : TypeId} {n : Nat} (hs : szT P t = some n) (ha : aggT P t = some true)
    {x : List SV} (hx : xs[i]? = some x) (hl : off + n ≤ e) :
    ∃ u, (Instr.loadAt t v).run P w = .ok u w ∧ Rp w (okk C rho hp) rho hp (.agg ((x.drop off).take n)) u := by
  cases hv with
  | ept _ _ _ _ _ h1 h0 hle h =>
    obtain ⟨b, hb, rfl⟩ := h e xs hq
    rcases R.heap id _ hq with ⟨hn, _⟩ | ⟨b', cur, t0, g1, g2, g3⟩
    · rw [hb] at hn; cases hn
    · rw [hb] at g1; cases g1
      have hxe := g3.1 x (List.mem_of_getElem? hx)
      obtain ⟨u, hu, hr⟩ := CellsIn.load (P := P) (t := t) g2 ((g3.2.2 i x hx).sub off n) ha (by rw [hs, List.length_take, List.length_drop]; congr 1; omega)
      refine ⟨u, ?_, hr⟩
      simp [Instr.loadAt, Instr.sureAddr, hu]

theorem loadVar_ept1 (R : RepH C hp w rho) {id ver i off : Nat} {v : Value} (hv : Rp w (okk C rho hp) rho hp (.ept id ver i off) v) {e : Nat} {xs : List (List SV)} (hq : hp id = some (.row e ver xs)) {t : TypeId} (ha : aggT P t = some false)
    {x : List SV} (hx : xs[i]? = some x) {y : SV} (hy : x[off]? = some y) :
    ∃ u, (Instr.loadAt t v).run P w = .ok u w ∧ Rp w (okk C rho hp) rho hp y u := by
  cases hv with
  | ept _ _ _ _ _ h1 h0 hle h =>
    obtain ⟨b, hb, rfl⟩ := h e xs hq
    rcases R.heap id _ hq with ⟨hn, _⟩ | ⟨b', cur, t0, g1, g2, g3⟩
    · rw [hb] at hn; cases hn
    · rw [hb] at g1; cases g1
      obtain ⟨u, hu, hr⟩ := CellsIn.load1 (P := P) (t := t) g2 (g3.2.2 i x hx) ha hy
      refine ⟨u, ?_, hr⟩
      simp [Instr.loadAt, Instr.sureAddr, hu]

theorem loadVar_rop {cs : List RV} {v : Value} (hv : RO w (okk C rho hp) (.rop cs) v) {t : TypeId} {n : Nat} (hs : szT P t = some n) (ha : aggT P t = some true) (hl : n ≤ cs.length) :
    ∃ u, (Instr.loadAt t v).run P w = .ok u w ∧ Rp w (okk C rho hp) rho hp (.agg ((cs.take n).map .rv)) u := by
  cases hv with
  | rop _ a c hr h1 hy =>
    refine ⟨.agg ((List.range n).map c).toArray, ?_, .agg _ _ (by simp; omega) (fun j u hu => ?_) (fun j y hjy => ?_)⟩
    · have := run_loadN (P := P) (t := t) (w := w) (a := a) (vs := (List.range n).map c) ha (by simpa using hs) (fun j u hu => ?_)
      · simp [Instr.loadAt, Instr.sureAddr, this]
      · have hj : j < n := by have := (List.getElem?_eq_some_iff.1 hu).1; simpa using this
        rw [List.getElem?_map, List.getElem?_range hj] at hu
        simp only [Option.map_some, Option.some.injEq] at hu
        subst hu
        exact (hr j _ (List.getElem?_eq_getElem (by omega))).2
    · have hj : j < n := by have := (List.getElem?_eq_some_iff.1 hu).1; simpa using this
      rw [List.getElem?_map, List.getElem?_range hj] at hu
      simp only [Option.map_some, Option.some.injEq] at hu
      subst hu
      have hg := List.getElem?_eq_getElem (l := cs) (i := j) (by omega)
      exact (hy j _ hg).oneCell (h1 j _ hg)
    · rw [List.getElem?_map, List.getElem?_take] at hjy
      split at hjy
      · rename_i hj
        cases hc : cs[j]? with
        | none => simp [hc] at hjy
        | some z =>
          simp only [hc, Option.map_some, Option.some.injEq] at hjy
          subst hjy
          refine .rv _ _ ?_
          simp only [List.getD_eq_getElem?_getD, List.getElem?_map, List.getElem?_range hj, Option.map_some, Option.getD_some]
          exact hy j z hc
      · cases hjy

theorem loadVar_rop1 {cs : List RV} {v : Value} (hv : RO w (okk C rho hp) (.rop cs) v) {t : TypeId} (ha : aggT P t = some false) {y : RV} (hl : cs[0]? = some y) :
    ∃ u, (Instr.loadAt t v).run P w = .ok u w ∧ Rp w (okk C rho hp) rho hp (.rv y) u := by
  cases hv with
  | rop _ a c hr h1 hy =>
    have h := (hr 0 y hl).2
    have := run_load1 (P := P) (t := t) ha (by simpa [Addr.add] using h)
    exact ⟨c 0, by simp [Instr.loadAt, Instr.sureAddr, this], .rv _ _ (hy 0 y hl)⟩

/-- The cells of a value. -/
def cellsSV : SV → Option (List SV)
  | .agg cs => some cs
  | .rv (.agg _) => none
  | .dead => none
  | .tup _ => none
  | s => some [s]

theorem Rp.one {ok : Nat → Prop} {s : SV} {v : Value} (h : Rp w ok rho hp s v) (h1 : s.one = true) : v.oneCell' = true := by
  cases h with
  | rv r v h => exact h.oneCell h1
  | ptr _ _ _ g => exact g
  | ept _ _ _ _ _ g => exact g
  | row _ _ _ _ g => exact g
  | fn => rfl
  | ifc => rfl
  | dead => cases h1
  | agg => cases h1
  | tup => cases h1

theorem Value.cells_one {v : Value} (h : v.oneCell' = true) : v.cells = #[v] := by
  cases v <;> first | rfl | (simp [Value.oneCell'] at h)

theorem Rp.cells {ok : Nat → Prop} {s : SV} {v : Value} (h : Rp w ok rho hp s v) {cs : List SV} (hc : cellsSV s = some cs) :
    ∃ vs : List Value, v.cells = vs.toArray ∧ vs.length = cs.length ∧ (∀ (j : Nat) (u : Value), vs[j]? = some u → u.oneCell' = true) ∧ ∀ (j : Nat) (y : SV), cs[j]? = some y → Rp w ok rho hp y (vs.getD j undef) := by
  have single : s.one = true → cs = [s] → ∃ vs : List Value, v.cells = vs.toArray ∧ vs.length = cs.length ∧ (∀ (j : Nat) (u : Value), vs[j]? = some u → u.oneCell' = true) ∧ ∀ (j : Nat) (y : SV), cs[j]? = some y → Rp w ok rho hp y (vs.getD j undef) := by
    intro h1 he
    subst he
    refine ⟨[v], by rw [Value.cells_one (h.one h1)], rfl, fun j u hu => ?_, fun j y hy => ?_⟩
    · cases j with
      | zero => simp at hu; subst hu; exact h.one h1
      | succ j => simp at hu
    · cases j with
      | zero => simp at hy; subst hy; exact h
      | succ j => simp at hy
  cases s with
  | agg cs' =>
    simp only [cellsSV, Option.some.injEq] at hc; subst hc
    cases h with
    | agg _ vs hl h1 hy => exact ⟨vs, rfl, hl, h1, hy⟩
  | dead => cases hc
  | tup => cases hc
  | rv r => cases r <;> first | (cases hc; done) | (simp only [cellsSV, Option.some.injEq] at hc; exact single rfl hc.symm)
  | _ => simp only [cellsSV, Option.some.injEq] at hc; exact single rfl hc.symm

theorem Holds.var_of {ok : Nat → Prop} {cs : List SV} {vs : List Value} (hl : vs.length = cs.length) (h1 : ∀ (j : Nat) (u : Value), vs[j]? = some u → u.oneCell' = true) (hy : ∀ (j : Nat) (y : SV), cs[j]? = some y → Rp w ok rho hp y (vs.getD j undef)) :
    Holds w ok rho hp vs.toArray (.var cs) := by
  refine ⟨by simpa using hl, fun j y hj => ?_⟩
  have hlt : j < vs.length := by rw [hl]; exact (List.getElem?_eq_some_iff.1 hj).1
  have hg := List.getElem?_eq_getElem hlt
  refine ⟨vs[j], by simp [hg], h1 j _ hg, ?_⟩
  have := hy j y hj
  rwa [List.getD_eq_getElem?_getD, hg, Option.getD_some] at this

/-- A new variable. -/
theorem newVar_ok (R : RepH C hp w rho) {id : Nat} (hf : hp id = none) (hf0 : C.h0 id = none) (t : TypeId) {s : SV} {v : Value} (h : Rp w (okk C rho hp) rho hp s v) {cs : List SV} (hc : cellsSV s = some cs) :
    ∃ u w' rho', (Instr.box t v).run P w = .ok u w' ∧ Step C hp (up hp id (some (.var cs))) w w' rho rho' ∧ Rp w' (okk C rho' (up hp id (some (.var cs)))) rho' (up hp id (some (.var cs))) (.ptr id 0) u := by
  obtain ⟨vs, h1, h2, h3, h4⟩ := h.cells hc
  have S := R.make (w1 := w) rfl rfl rfl rfl id (.var cs) vs.toArray t hf hf0 (Holds.var_of h2 h3 h4)
  refine ⟨.pointer (some ⟨w.heap.size, 0, none⟩), w.alloc (.cells vs.toArray t), _, ?_, S, .ptr id 0 _ rfl (by simp) (fun cs' _ => ⟨w.heap.size, up_same _ _ _, rfl⟩)⟩
  simp [Instr.box, newVar, newRow, h1]
end

end Go.Eng
