/- Literals of slices, what a slice holds, append, make. -/
import Derived.Test.YtjiipbccpfjefaaEngF
set_option linter.unusedSimpArgs false
namespace Go.Eng
open Go

def seqQ {α : Type} (e : Nat) : Nat → List (List α) → List (Nat × List α)
  | _, [] => []
  | k, u :: r => (k * e, u) :: seqQ e (k + 1) r

theorem seqQ_get {α : Type} (e : Nat) : ∀ (us : List (List α)) (k j o : Nat) (x : List α), (seqQ e k us)[j]? = some (o, x) → o = (k + j) * e ∧ us[j]? = some x
  | [], k, j, o, x, h => by simp [seqQ] at h
  | u :: r, k, j, o, x, h => by
    cases j with
    | zero => simp [seqQ] at h; obtain ⟨rfl, rfl⟩ := h; simp
    | succ j =>
      simp only [seqQ, List.getElem?_cons_succ] at h
      obtain ⟨h1, h2⟩ := seqQ_get e r (k + 1) j o x h
      exact ⟨by rw [h1]; congr 1; omega, by simpa using h2⟩

theorem seqQ_length {α : Type} (e : Nat) : ∀ (us : List (List α)) (k : Nat), (seqQ e k us).length = us.length
  | [], _ => rfl
  | u :: r, k => by simp [seqQ, seqQ_length e r]

theorem lay_seq {α : Type} (e : Nat) : ∀ (us : List (List α)) (k : Nat) (pre z : List α), pre.length = k * e → z.length = us.length * e → (∀ u ∈ us, u.length = e) → lay (pre ++ z) (seqQ e k us) = pre ++ us.flatten
  | [], k, pre, z, hp, hz, _ => by
    have : z = [] := List.eq_nil_of_length_eq_zero (by simpa using hz)
    simp [seqQ, lay, this]
  | u :: r, k, pre, z, hp, hz, hu => by
    have hue := hu u (by simp)
    simp only [List.length_cons, Nat.add_mul] at hz
    have hs : splice (pre ++ z) (k * e) u = (pre ++ u) ++ z.drop e := by
      unfold splice
      rw [← hp, List.take_left, hue, List.drop_append]
      simp
    rw [seqQ, lay, hs, lay_seq e r (k + 1) (pre ++ u) (z.drop e) (by simp [hp, hue, Nat.add_mul]) (by simp; omega) (fun x hx => hu x (by simp [hx]))]
    simp

section
variable {P : Program} {C : Ctx} {hp : Hp} {w : World} {rho : Nat → Option Nat}

theorem zeroT_run {t : TypeId} {z : List RV} (h : zeroT P t = some z) (w : World) : ∃ zv, (zeroValue t).run P w = .ok zv w ∧ zv.cells.size = z.length := by
  unfold zeroT at h
  cases hi : P.info? t with
  | none => simp [hi] at h
  | some i =>
    cases hzz : i.zero with
    | none => simp [hi, hzz] at h
    | some zv =>
      simp only [hi, hzz] at h
      obtain ⟨h1, _⟩ := cvL_ok w (fun _ => True) (fun _ => none) (fun _ => none) h
      exact ⟨zv, by simp [zeroValue, typeInfo, hi, hzz], by simpa using h1⟩

theorem bsl_ok (R : RepH C hp w rho) {id : Nat} (hf : hp id = none) (hf0 : C.h0 id = none) {t et : TypeId} {e len : Nat} (ht : P.underlying t = some (.slice et)) (hs : szT P et = some e) {z : List RV} (hz : zeroT P et = some z)
    (hbig : len * e ≤ 16777216) (hlm : len ≤ maxLen) {ss : List SV} {vs : List Value} {cs : List (List SV)} (hl : ss.length = len) (hvs : vs.length = ss.length) (hrp : ∀ (j : Nat) (s : SV), ss[j]? = some s → Rp w (okk C rho hp) rho hp s (vs.getD j undef))
    (hc : cellsAll ss = some cs) (he : ∀ c ∈ cs, c.length = e) {ps : List (Nat × Value)} (hps : ps.length = len) (hpv : ∀ (j i : Nat) (v : Value), ps[j]? = some (i, v) → i = j ∧ vs[j]? = some v) :
    ∃ u w' rho', (Instr.buildSlice t len ps.toArray).run P w = .ok u w' ∧ Step C hp (up hp id (some (.row e 0 cs))) w w' rho rho' ∧ Rp w' (okk C rho' (up hp id (some (.row e 0 cs)))) rho' (up hp id (some (.row e 0 cs))) (.row id 0 len) u := by
  obtain ⟨us, h1, h2, h3⟩ := cellsAll_ok hc hvs hrp
  have hcl : cs.length = len := by
    have : ∀ (ss : List SV) (cs : List (List SV)), cellsAll ss = some cs → cs.length = ss.length := by
      intro ss
      induction ss with
      | nil => intro cs h; cases h; rfl
      | cons s r ih =>
        intro cs h
        unfold cellsAll at h
        cases hs : cellsSV s with
        | none => simp [hs] at h
        | some x =>
          cases hrr : cellsAll r with
          | none => simp [hs, hrr] at h
          | some y => simp only [hs, hrr, Option.some.injEq] at h; subst h; simp [ih y hrr]
    rw [this ss cs hc, hl]
  have hue : ∀ u ∈ us, u.length = e := fun u hu => by
    obtain ⟨j, hj⟩ := List.getElem?_of_mem hu
    have hjl : j < cs.length := by rw [← h1]; exact (List.getElem?_eq_some_iff.1 hj).1
    obtain ⟨u', g1, g2, _⟩ := h3 j _ (List.getElem?_eq_getElem hjl)
    rw [hj] at g1; cases g1
    rw [g2]; exact he _ (List.getElem_mem hjl)
  have hsz : us.flatten.length = len * e := by rw [flat_length e us hue, h1, hcl]
  have S := R.make (w1 := w) rfl rfl rfl rfl id (.row e 0 cs) us.flatten.toArray et hf hf0 (by
    have := Holds.row_of (ver := 0) (tail := []) h1 he h3
    simpa using this)
  refine ⟨.slice (some ⟨w.heap.size, 0, none⟩) len len, w.alloc (.cells us.flatten.toArray et), _, ?_, S, .row id 0 len _ rfl (by simp) (fun e' v' xs' h' => by simp) (fun e' xs' h' => .inr ⟨w.heap.size, len, us.flatten.toArray, et, up_same _ _ _, rfl, heap_alloc_new w _, Nat.le_refl _, hlm, ?_⟩)⟩
  · have hfill : ∀ z0 : Array Value, z0.size = len * e → Instr.fill (fun i => some (i * e, e)) z0 ps = some us.flatten.toArray := fun z0 h0 => by
      have := fill_lay (fun i => some (i * e, e)) ps (seqQ e 0 us) z0 (by rw [seqQ_length, hps, h1, hcl]) (fun j i v o x g1 g2 => by
        obtain ⟨rfl, k1⟩ := hpv j i v g1
        obtain ⟨rfl, k2⟩ := seqQ_get e us 0 _ o x g2
        obtain ⟨u, k3, k4⟩ := h2 _ v k1
        rw [k2] at k3; cases k3
        have hx := hue x (List.mem_of_getElem? k2)
        refine ⟨by simp [hx], k4, ?_⟩
        have hi : i < us.length := (List.getElem?_eq_some_iff.1 k2).1
        have : (i + 1) * e ≤ len * e := Nat.mul_le_mul_right _ (by omega)
        rw [Nat.add_mul] at this
        simp only [Nat.zero_add]; omega)
      rw [this]
      have h := lay_seq e us 0 [] z0.toList (by simp) (by simpa [h1, hcl] using h0) hue
      simp only [List.nil_append] at h
      rw [h]
    obtain ⟨zv, hzr, hzs⟩ := zeroT_run hz w
    have hbig' : ¬ 16777216 < len * e := by omega
    by_cases h0 : len * e = 0
    · have := hfill (Array.map (fun _ => default) (Array.range 0)) (by simp [h0])
      simp [Instr.buildSlice, run_underlying ht, run_sizeOf' hs, h0, newRow, this]
    · have := hfill ((Array.range (len * e)).map (zv.cells[· % zv.cells.size]!)) (by simp)
      simp only [Instr.buildSlice, Sem.run_bind, run_underlying ht, Result.andThen_ok, run_sizeOf' hs]
      simp [hbig', h0, hzr, this, newRow]
  · rw [up_same] at h'; cases h'
    simp [hsz]

theorem flat_get_inv {α : Type} (e : Nat) : ∀ (us : List (List α)) (_ : ∀ u ∈ us, u.length = e) (k : Nat) (v : α), us.flatten[k]? = some v → ∃ (i j : Nat) (u : List α), us[i]? = some u ∧ u[j]? = some v ∧ k = i * e + j
  | [], _, k, v, h => by simp at h
  | x :: r, hl, k, v, h => by
    have hx := hl x (by simp)
    rw [List.flatten_cons] at h
    by_cases hk : k < x.length
    · rw [List.getElem?_append_left hk] at h
      exact ⟨0, k, x, rfl, h, by simp⟩
    · rw [List.getElem?_append_right (by omega)] at h
      obtain ⟨i, j, u, h1, h2, h3⟩ := flat_get_inv e r (fun u hu => hl u (by simp [hu])) (k - x.length) v h
      exact ⟨i + 1, j, u, by simpa using h1, h2, by rw [Nat.add_mul]; omega⟩

/-- What a slice value holds: elements, each told. -/
def ElemsOf (w : World) (ok : Nat → Prop) (rho : Nat → Option Nat) (hp : Hp) (e : Nat) (v : Value) (ys : List (List SV)) : Prop :=
  ∃ (a : Option Addr) (cap : Nat) (us : List (List Value)), v = .slice a ys.length cap ∧ us.length = ys.length ∧ (∀ u ∈ us, u.length = e) ∧ (∀ c ∈ ys, c.length = e) ∧ ys.length ≤ cap ∧
    (∀ (j : Nat) (c : List SV), ys[j]? = some c → ∃ u, us[j]? = some u ∧ u.length = c.length ∧ (∀ (i : Nat) (x : Value), u[i]? = some x → x.oneCell' = true) ∧ ∀ (i : Nat) (y : SV), c[i]? = some y → Rp w ok rho hp y (u.getD i undef)) ∧
    (a = none → ys = [] ∧ cap = 0) ∧ ∀ ad, a = some ad → CAt w ad us.flatten

theorem ElemsOf.mk' {ok : Nat → Prop} {e cap : Nat} {a : Option Addr} {ys : List (List SV)} (f : Nat → Nat → Value) (he : ∀ c ∈ ys, c.length = e) (hc : ys.length ≤ cap) (h0 : a = none → ys = [] ∧ cap = 0)
    (h : ∀ (i : Nat) (c : List SV) (j : Nat) (y : SV), ys[i]? = some c → c[j]? = some y → (f i j).oneCell' = true ∧ Rp w ok rho hp y (f i j) ∧ ∀ ad, a = some ad → w.cell? (ad.add (i * e + j)) = some (f i j)) :
    ElemsOf w ok rho hp e (.slice a ys.length cap) ys := by
  have hus : ∀ (i : Nat) (u : List Value), ((List.range ys.length).map fun i => (List.range e).map fun j => f i j)[i]? = some u → i < ys.length ∧ u = (List.range e).map fun j => f i j := fun i u hu => by
    have hi : i < ys.length := by have := (List.getElem?_eq_some_iff.1 hu).1; simpa using this
    rw [List.getElem?_map, List.getElem?_range hi] at hu
    exact ⟨hi, by simpa using hu.symm⟩
  refine ⟨a, cap, (List.range ys.length).map fun i => (List.range e).map fun j => f i j, rfl, by simp, fun u hu => ?_, he, hc, fun i c hi => ?_, h0, fun ad had k v hk => ?_⟩
  · obtain ⟨i, hi⟩ := List.getElem?_of_mem hu
    obtain ⟨_, rfl⟩ := hus i u hi
    simp
  · have hil := (List.getElem?_eq_some_iff.1 hi).1
    have hce := he c (List.mem_of_getElem? hi)
    refine ⟨(List.range e).map fun j => f i j, by rw [List.getElem?_map, List.getElem?_range hil]; rfl, by simp [hce], fun j x hx => ?_, fun j y hy => ?_⟩
    · have hj : j < e := by have := (List.getElem?_eq_some_iff.1 hx).1; simpa using this
      rw [List.getElem?_map, List.getElem?_range hj] at hx
      simp only [Option.map_some, Option.some.injEq] at hx
      subst hx
      exact (h i c j _ hi (List.getElem?_eq_getElem (by omega))).1
    · have hj : j < e := by rw [← hce]; exact (List.getElem?_eq_some_iff.1 hy).1
      simp only [List.getD_eq_getElem?_getD, List.getElem?_map, List.getElem?_range hj, Option.map_some, Option.getD_some]
      exact (h i c j y hi hy).2.1
  · obtain ⟨i, j, u, h1, h2, rfl⟩ := flat_get_inv e _ (fun u hu => by
      obtain ⟨i, hi⟩ := List.getElem?_of_mem hu
      obtain ⟨_, rfl⟩ := hus i u hi
      simp) k v hk
    obtain ⟨hi, rfl⟩ := hus i u h1
    have hj : j < e := by have := (List.getElem?_eq_some_iff.1 h2).1; simpa using this
    rw [List.getElem?_map, List.getElem?_range hj] at h2
    simp only [Option.map_some, Option.some.injEq] at h2
    subst h2
    have hg := List.getElem?_eq_getElem hi
    have hce := he _ (List.getElem_mem hi)
    exact (h i _ j _ hg (List.getElem?_eq_getElem (by omega))).2.2 ad had

theorem elems_sl {ok : Nat → Prop} {e : Nat} {xs : List (List RV)} {v : Value} (hv : RO w ok (.sl e xs) v) : ElemsOf w ok rho hp e v (xs.map (List.map SV.rv)) := by
  cases hv with
  | sl _ _ a cap c g0 gc gm ge gr g1 gy =>
    have := ElemsOf.mk' (w := w) (ok := ok) (rho := rho) (hp := hp) (e := e) (cap := cap) (a := a) (ys := xs.map (List.map SV.rv)) c (fun c hc => by
      obtain ⟨x, hx, rfl⟩ := List.mem_map.1 hc
      simpa using ge x hx) (by simpa using gc) (fun h => by obtain ⟨h1, h2⟩ := g0 h; exact ⟨by simp [h1], h2⟩) (fun i x j y hx hy => by
      rw [List.getElem?_map] at hx
      cases hxi : xs[i]? with
      | none => simp [hxi] at hx
      | some x0 =>
        simp only [hxi, Option.map_some, Option.some.injEq] at hx
        subst hx
        rw [List.getElem?_map] at hy
        cases hyj : x0[j]? with
        | none => simp [hyj] at hy
        | some y0 =>
          simp only [hyj, Option.map_some, Option.some.injEq] at hy
          subst hy
          refine ⟨(gy i x0 j y0 hxi hyj).oneCell (g1 i x0 j y0 hxi hyj), .rv _ _ (gy i x0 j y0 hxi hyj), fun ad had => ?_⟩
          obtain ⟨ad', h1, _, h3⟩ := gr i x0 j y0 hxi hyj
          rw [had] at h1; cases h1
          exact h3)
    simpa using this

theorem elems_nil {ok : Nat → Prop} (e : Nat) : ElemsOf w ok rho hp e (.slice none 0 0) [] :=
  ⟨none, 0, [], rfl, rfl, fun u hu => by simp at hu, fun u hu => by simp at hu, Nat.le_refl _, fun j c hc => by simp at hc, fun _ => ⟨rfl, rfl⟩, fun ad h => by cases h⟩

theorem elems_row (R : RepH C hp w rho) {id ver len : Nat} {v : Value} (hv : Rp w (okk C rho hp) rho hp (.row id ver len) v) {e : Nat} {xs : List (List SV)} (hq : hp id = some (.row e ver xs)) (hl : len ≤ xs.length) :
    ElemsOf w (okk C rho hp) rho hp e v (xs.take len) := by
  cases hv with
  | row _ _ _ _ g1 g0 gle gv =>
    rcases gv e xs hq with ⟨_, rfl, rfl⟩ | ⟨b, cap, cur, t0, k1, rfl, k3, k4, k5, k6⟩
    · exact elems_nil e
    · rcases R.heap id _ hq with ⟨hn, _⟩ | ⟨b', cur', t1, m1, m2, m3⟩
      · rw [k1] at hn; cases hn
      · rw [k1] at m1; cases m1
        rw [k3] at m2; cases m2
        have hlt : (xs.take len).length = len := by simp; omega
        have := ElemsOf.mk' (w := w) (ok := okk C rho hp) (rho := rho) (hp := hp) (e := e) (cap := cap) (a := some ⟨b, 0, none⟩) (ys := xs.take len) (fun i j => cur.getD (i * e + j) undef) (fun c hc => m3.1 c (List.mem_of_mem_take hc)) (by omega) (fun h => by cases h) (fun i x j y hx hy => by
          rw [List.getElem?_take] at hx
          split at hx
          · obtain ⟨u, h1, h2, h3⟩ := m3.2.2 i x hx j y hy
            have hgd : cur.getD (i * e + j) undef = u := by rw [Array.getD_eq_getD_getElem?, h1]; rfl
            rw [hgd]
            refine ⟨h2, h3, fun ad had => ?_⟩
            cases had
            rw [add_lit, cell_blk k3]; simpa using h1
          · cases hx)
        rwa [hlt] at this

end
end Go.Eng
