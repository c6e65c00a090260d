/- make, parts of slices, aggregates, comparisons. -/
import Derived.Test.YtjiipbccpfjefaaEngH
set_option linter.unusedSimpArgs false
namespace Go.Eng
open Go

section
variable {P : Program} {C : Ctx} {hp : Hp} {w : World} {rho : Nat → Option Nat}

theorem slc_sl {t et : TypeId} {e : Nat} (ht : P.underlying t = some (.slice et)) (hs : szT P et = some e) {xs : List (List RV)} {ok : Nat → Prop} {v : Value} (hv : RO w ok (.sl e xs) v) (lo hi : Option Value) (l h : Int)
    (hlo : (lo = none ∧ l = 0) ∨ ∃ k, lo = some (.int k l)) (hhi : (hi = none ∧ h = xs.length) ∨ ∃ k, hi = some (.int k h)) (h0 : 0 ≤ l) (h1 : l ≤ h) (h2 : h ≤ xs.length) :
    ∃ u, (Instr.sliceAt t v lo hi none).run P w = .ok u w ∧ RO w ok (.sl e ((xs.take h.toNat).drop l.toNat)) u := by
  cases hv with
  | sl _ _ a cap c g0 gc gm ge gr g1 gy =>
    have hres : RO w ok (.sl e ((xs.take h.toNat).drop l.toNat)) (.slice (if cap = l.toNat then a else a.map (·.add (l.toNat * e))) (h.toNat - l.toNat) (cap - l.toNat)) := by
      have hlen : ((xs.take h.toNat).drop l.toNat).length = h.toNat - l.toNat := by simp; omega
      have hget : ∀ (i : Nat) (x : List RV), ((xs.take h.toNat).drop l.toNat)[i]? = some x → xs[l.toNat + i]? = some x ∧ l.toNat + i < h.toNat := fun i x hx => by
        rw [List.getElem?_drop, List.getElem?_take] at hx
        split at hx
        · exact ⟨hx, by assumption⟩
        · cases hx
      have := RO.sl (w := w) (ok := ok) e ((xs.take h.toNat).drop l.toNat) (if cap = l.toNat then a else a.map (·.add (l.toNat * e))) (cap - l.toNat) (fun i j => c (l.toNat + i) j) (fun hn => by
        have ha : a = none := by
          split at hn
          · exact hn
          · cases a with
            | none => rfl
            | some a => cases hn
        obtain ⟨rfl, hc0⟩ := g0 ha
        simp at h2 ⊢
        omega) (by rw [hlen]; omega) (by omega) (fun x hx => ge x (List.mem_of_mem_take (List.mem_of_mem_drop hx))) (fun i x j y hx hy => by
        obtain ⟨k1, k2⟩ := hget i x hx
        obtain ⟨ad, m1, m2, m3⟩ := gr _ x j y k1 hy
        subst m1
        have hne : ¬ cap = l.toNat := by omega
        refine ⟨ad.add (l.toNat * e), by rw [if_neg hne]; rfl, by rw [addr_add_block]; exact m2, ?_⟩
        rw [addr_add_add, ← m3]; congr 2; rw [Nat.add_mul, Nat.add_assoc]) (fun i x j y hx hy => g1 _ x j y (hget i x hx).1 hy) (fun i x j y hx hy => gy _ x j y (hget i x hx).1 hy)
      rwa [hlen] at this
    refine ⟨_, ?_, hres⟩
    have hb1 : (Instr.sliceBounds true xs.length cap lo hi none).run P w = .ok (l.toNat, h.toNat, cap) w := by
      rcases hlo with ⟨rfl, rfl⟩ | ⟨k, rfl⟩ <;> rcases hhi with ⟨rfl, rfl⟩ | ⟨k', rfl⟩
      · simp [Instr.sliceBounds]
      · have : h ≤ cap := by omega
        have h0' : 0 ≤ h := by omega
        simp [Instr.sliceBounds, Instr.sliceBound, asIntOf, this, h0']
      · simp [Instr.sliceBounds, Instr.sliceBound, asIntOf, h0, h1]
      · have a1 : h ≤ cap := by omega
        have a2 : 0 ≤ h := by omega
        simp [Instr.sliceBounds, Instr.sliceBound, asIntOf, a1, a2, h0]
        intro hh; omega
    simp [Instr.sliceAt, run_underlying ht, Instr.slice, hb1, run_sizeOf' hs]

theorem slc_row {t et : TypeId} {e : Nat} (ht : P.underlying t = some (.slice et)) (hs : szT P et = some e) {id ver len : Nat} {v : Value} (hv : Rp w (okk C rho hp) rho hp (.row id ver len) v) {xs : List (List SV)} (hq : hp id = some (.row e ver xs)) (lo : Option Value) (h : Int)
    (hlo : lo = none ∨ ∃ k, lo = some (.int k 0)) (k' : IntKind) (h0 : 0 ≤ h) (h2 : h ≤ len) :
    ∃ u, (Instr.sliceAt t v lo (some (.int k' h)) none).run P w = .ok u w ∧ Rp w (okk C rho hp) rho hp (.row id ver h.toNat) u := by
  have bounds : ∀ (n cap : Nat), len ≤ cap → (Instr.sliceBounds true n cap lo (some (.int k' h)) none).run P w = .ok (0, h.toNat, cap) w := fun n cap hc => by
    have a1 : h ≤ cap := by omega
    rcases hlo with rfl | ⟨k, rfl⟩
    · simp [Instr.sliceBounds, Instr.sliceBound, asIntOf, a1, h0]
    · simp [Instr.sliceBounds, Instr.sliceBound, asIntOf, a1, h0]
  cases hv with
  | row _ _ _ _ g1 g0 gle gv =>
    rcases gv e xs hq with ⟨gr, rfl, rfl⟩ | ⟨b, cap, cur, t0, k1, rfl, k3, k4, k5, k6⟩
    · have hh : h = 0 := by simp at h2; omega
      subst hh
      refine ⟨.slice none 0 0, ?_, .row _ _ _ _ rfl g0 gle (fun e' xs' hq' => .inl ⟨gr, rfl, rfl⟩)⟩
      have := bounds 0 0 (Nat.le_refl _)
      simp [Instr.sliceAt, run_underlying ht, Instr.slice, this, run_sizeOf' hs]
    · refine ⟨.slice (some ⟨b, 0, none⟩) h.toNat cap, ?_, .row _ _ _ _ rfl g0 gle (fun e' xs' hq' => .inr ⟨b, cap, cur, t0, k1, rfl, k3, by omega, k5, ?_⟩)⟩
      · have := bounds len cap k4
        simp [Instr.sliceAt, run_underlying ht, Instr.slice, this, run_sizeOf' hs, Addr.add]
      · rw [hq] at hq'; cases hq'; exact k6

/-- Lists of values and what they are, cell by cell. -/
def RL (w : World) (ok : Nat → Prop) (rho : Nat → Option Nat) (hp : Hp) (vs : List Value) (cs : List SV) : Prop :=
  vs.length = cs.length ∧ (∀ (j : Nat) (u : Value), vs[j]? = some u → u.oneCell' = true) ∧ ∀ (j : Nat) (y : SV), cs[j]? = some y → Rp w ok rho hp y (vs.getD j undef)

theorem RL.splice {ok : Nat → Prop} {vs us : List Value} {cs xs : List SV} (h : RL w ok rho hp vs cs) (k : RL w ok rho hp us xs) {o : Nat} (ho : o + xs.length ≤ cs.length) : RL w ok rho hp (splice vs o us) (splice cs o xs) := by
  have hu := k.1
  have hv := h.1
  refine ⟨by rw [splice_length _ _ _ (by omega), splice_length _ _ _ ho, hv], fun j u hj => ?_, fun j y hj => ?_⟩
  · rw [splice_get _ _ _ (by omega)] at hj
    split at hj
    · exact k.2.1 _ u hj
    · exact h.2.1 _ u hj
  · rw [splice_get _ _ _ ho] at hj
    rw [List.getD_eq_getElem?_getD, splice_get _ _ _ (by omega)]
    by_cases c : o ≤ j ∧ j < o + xs.length
    · rw [if_pos c] at hj
      rw [if_pos (by omega), ← List.getD_eq_getElem?_getD]; exact k.2.2 _ y hj
    · rw [if_neg c] at hj
      rw [if_neg (by omega), ← List.getD_eq_getElem?_getD]; exact h.2.2 _ y hj

theorem RL.agg {ok : Nat → Prop} {vs : List Value} {cs : List SV} (h : RL w ok rho hp vs cs) : Rp w ok rho hp (.agg cs) (.agg vs.toArray) := .agg cs vs h.1 h.2.1 h.2.2

/-- Parts, each at its place and of its size. -/
def layO (z : List SV) : List (Nat × Nat) → List (List SV) → Option (List SV)
  | [], [] => some z
  | (o, _) :: ps, x :: xs => layO (splice z o x) ps xs
  | _, _ => none

theorem layO_ok {ok : Nat → Prop} : ∀ (ps : List (Nat × Nat)) (xs : List (List SV)) (us : List (List Value)) (zs : List SV) (zv : List Value) (r : List SV), layO zs ps xs = some r → RL w ok rho hp zv zs →
    (∀ (j o n : Nat) (x : List SV), ps[j]? = some (o, n) → xs[j]? = some x → x.length = n ∧ o + n ≤ zs.length ∧ ∃ u, us[j]? = some u ∧ RL w ok rho hp u x) → us.length = xs.length →
    ∃ qs : List (Nat × List Value), qs.length = ps.length ∧ (∀ (j o : Nat) (u : List Value), qs[j]? = some (o, u) → us[j]? = some u ∧ ∃ n, ps[j]? = some (o, n) ∧ u.length = n) ∧ RL w ok rho hp (lay zv qs) r
  | [], [], us, zs, zv, r, h, hz, _, _ => by cases h; exact ⟨[], rfl, fun j o u hj => by simp at hj, hz⟩
  | [], _ :: _, us, zs, zv, r, h, _, _, _ => by cases h
  | _ :: _, [], us, zs, zv, r, h, _, _, _ => by cases h
  | (o, n) :: ps, x :: xs, [], zs, zv, r, h, _, _, hl => by simp at hl
  | (o, n) :: ps, x :: xs, u :: us, zs, zv, r, h, hz, hp', hl => by
    obtain ⟨h1, h2, u', h3, h4⟩ := hp' 0 o n x rfl rfl
    cases h3
    have hs := hz.splice h4 (o := o) (by omega)
    obtain ⟨qs, q1, q2, q3⟩ := layO_ok ps xs us _ _ r h hs (fun j o' n' x' g1 g2 => by
      obtain ⟨k1, k2, u', k3, k4⟩ := hp' (j + 1) o' n' x' (by simpa using g1) (by simpa using g2)
      exact ⟨k1, by rw [splice_length _ _ _ (by omega)]; exact k2, u', by simpa using k3, k4⟩) (by simpa using hl)
    refine ⟨(o, u) :: qs, by simp [q1], fun j o' u' hj => ?_, q3⟩
    cases j with
    | zero => simp at hj; obtain ⟨rfl, rfl⟩ := hj; exact ⟨rfl, n, rfl, by rw [h4.1, h1]⟩
    | succ j => simp at hj; obtain ⟨k1, n', k2, k3⟩ := q2 j o' u' hj; exact ⟨by simpa using k1, n', by simpa using k2, k3⟩

/-- Places of a struct's fields or an array's elements: offset and size. -/
def placesT (P : Program) (t : TypeId) (i : Nat) : Option (Nat × Nat) := match P.underlying t with
  | some (.struct fs) => match fs[i]? with
    | some f => match szT P f.type with
      | some n => some (f.offset, n)
      | none => none
    | none => none
  | some (.array _ et) => match szT P et with
    | some n => some (i * n, n)
    | none => none
  | _ => none

theorem run_mapM_fields {P : Program} {w : World} : ∀ (fs : List Field), (∀ f ∈ fs, (szT P f.type).isSome = true) →
    (fs.mapM fun f => (do pure (f.offset, ← sizeOf f.type) : Sem (Nat × Nat))).run P w = .ok (fs.map fun f => (f.offset, (szT P f.type).getD 0)) w
  | [], _ => rfl
  | f :: r, h => by
    have h0 := h f (by simp)
    obtain ⟨n, hn⟩ := Option.isSome_iff_exists.1 h0
    have ih := run_mapM_fields (w := w) r (fun f hf => h f (by simp [hf]))
    simp only [List.mapM_cons, Sem.run_bind, run_sizeOf' hn, Result.andThen_ok, Sem.run_pure, ih]
    simp [hn]

def fieldsSized (P : Program) (t : TypeId) : Bool := match P.underlying t with
  | some (.struct fs) => fs.toList.all fun f => (szT P f.type).isSome
  | some (.array _ et) => (szT P et).isSome
  | _ => false

theorem build_ok {t : TypeId} {z : List RV} (hz : zeroT P t = some z) (hfs : fieldsSized P t = true) {ss : List SV} {vs : List Value} {cs : List (List SV)} (hvs : vs.length = ss.length) {ok : Nat → Prop} (hrp : ∀ (j : Nat) (s : SV), ss[j]? = some s → Rp w ok rho hp s (vs.getD j undef))
    (hc : cellsAll ss = some cs) {ps : List (Nat × Nat)} {r : List SV} (hl : layO (z.map .rv) ps cs = some r) (hfit : ∀ (j o n : Nat) (x : List SV), ps[j]? = some (o, n) → cs[j]? = some x → x.length = n ∧ o + n ≤ z.length)
    {pv : List (Nat × Value)} (hpl : pv.length = ps.length) (hpv : ∀ (j i : Nat) (v : Value), pv[j]? = some (i, v) → vs[j]? = some v ∧ ps[j]? = placesT P t i) :
    ∃ u, (Instr.build t pv.toArray).run P w = .ok u w ∧ Rp w ok rho hp (.agg r) u := by
  obtain ⟨us, h1, h2, h3⟩ := cellsAll_ok hc hvs hrp
  unfold zeroT at hz
  cases hi : P.info? t with
  | none => simp [hi] at hz
  | some i =>
    cases hzz : i.zero with
    | none => simp [hi, hzz] at hz
    | some zv =>
      simp only [hi, hzz] at hz
      have hzl := cvL_ok w ok rho hp hz
      have hzr : RL w ok rho hp zv.cells.toList (z.map .rv) := ⟨by simpa using hzl.1, hzl.2.1, hzl.2.2⟩
      obtain ⟨qs, q1, q2, q3⟩ := layO_ok ps cs us (z.map .rv) zv.cells.toList r hl hzr (fun j o n x g1 g2 => by
        obtain ⟨k1, k2⟩ := hfit j o n x g1 g2
        obtain ⟨u, m1, m2, m3, m4⟩ := h3 j x g2
        exact ⟨k1, by simpa using k2, u, m1, m2, m3, m4⟩) h1
      have hfill : ∀ place : Nat → Option (Nat × Nat), (∀ i, place i = placesT P t i ∨ placesT P t i = none) → Instr.fill place zv.cells pv = some (lay zv.cells.toList qs).toArray := fun place hpc =>
        fill_lay place pv qs zv.cells (by rw [hpl, q1]) (fun j i' v o x g1 g2 => by
          obtain ⟨k1, k2⟩ := hpv j i' v g1
          obtain ⟨m1, n, m2, m3⟩ := q2 j o x g2
          obtain ⟨u, a1, a2⟩ := h2 j v k1
          rw [m1] at a1; cases a1
          have hj : j < cs.length := by rw [← h1]; exact (List.getElem?_eq_some_iff.1 m1).1
          obtain ⟨b1, b2⟩ := hfit j o n _ m2 (List.getElem?_eq_getElem hj)
          rw [m2] at k2
          rcases hpc i' with h | h
          · refine ⟨by rw [h, ← k2, m3], a2, ?_⟩
            have := hzl.1
            simp at this
            omega
          · rw [h] at k2; cases k2)
      refine ⟨.agg (lay zv.cells.toList qs).toArray, ?_, q3.agg⟩
      unfold fieldsSized at hfs
      cases hu : P.underlying t with
      | none => simp [hu] at hfs
      | some d =>
        rw [hu] at hfs
        cases d with
        | struct fs =>
          simp only [List.all_eq_true] at hfs
          have hm := run_mapM_fields (P := P) (w := w) fs.toList hfs
          have hma : (fs.mapM fun f => (do pure (f.offset, ← sizeOf f.type) : Sem (Nat × Nat))).run P w = .ok (fs.toList.map fun f => (f.offset, (szT P f.type).getD 0)).toArray w := by
            rw [Array.mapM_eq_mapM_toList]
            simp only [Sem.run_map, hm, Result.andThen_ok]
          have hf := hfill (fun i => (fs.toList.map fun f => (f.offset, (szT P f.type).getD 0)).toArray[i]?) (fun i => by
            unfold placesT
            rw [hu]
            simp only [List.getElem?_toArray, List.getElem?_map, Array.getElem?_toList]
            cases hx : fs[i]? with
            | none => left; rfl
            | some f =>
              have hs := hfs f (by simpa using Array.mem_of_getElem? hx)
              obtain ⟨n, hn⟩ := Option.isSome_iff_exists.1 hs
              left; simp [hn])
          simp only [Instr.build, Sem.run_bind, zeroValue, typeInfo, run_program, Result.andThen_ok, hi, Sem.run_pure, hzz, run_underlying hu, hma, hf]
        | array n et =>
          simp only at hfs
          obtain ⟨k, hk⟩ := Option.isSome_iff_exists.1 hfs
          have hf := hfill (fun i => some (i * k, k)) (fun i => by
            unfold placesT
            rw [hu]; left; simp [hk])
          simp only [Instr.build, Sem.run_bind, zeroValue, typeInfo, run_program, Result.andThen_ok, hi, Sem.run_pure, hzz, run_underlying hu, run_sizeOf' hk, hf]
        | _ => simp at hfs
end
end Go.Eng
