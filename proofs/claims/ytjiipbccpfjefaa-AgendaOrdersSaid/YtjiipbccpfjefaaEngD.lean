/- Stores, zero values, and the operations on numbers and addresses. -/
import Derived.Test.YtjiipbccpfjefaaEngC
namespace Go.Eng
open Go

/-- A list with another laid over it from place o on. -/
def splice {α : Type} (l : List α) (o : Nat) (x : List α) : List α := l.take o ++ x ++ l.drop (o + x.length)

theorem splice_length {α : Type} (l : List α) (o : Nat) (x : List α) (h : o + x.length ≤ l.length) : (splice l o x).length = l.length := by
  simp [splice]; omega

theorem splice_get {α : Type} (l : List α) (o : Nat) (x : List α) (h : o + x.length ≤ l.length) (j : Nat) :
    (splice l o x)[j]? = if o ≤ j ∧ j < o + x.length then x[j - o]? else l[j]? := by
  unfold splice
  by_cases h1 : j < o
  · rw [if_neg (by omega), List.append_assoc, List.getElem?_append_left (by simp; omega), List.getElem?_take, if_pos h1]
  · by_cases h2 : j < o + x.length
    · rw [if_pos ⟨by omega, h2⟩, List.append_assoc, List.getElem?_append_right (by simp; omega), List.getElem?_append_left (by simp; omega)]
      congr 1; simp; omega
    · rw [if_neg (by omega), List.getElem?_append_right (by simp; omega), List.getElem?_drop]
      congr 1; simp; omega

section
variable {w : World} {ok : Nat → Prop} {rho : Nat → Option Nat} {hp : Hp}

theorem CellsIn.over {cur : Array Value} {off : Nat} {cs : List SV} (h : CellsIn w ok rho hp cur off cs) {o : Nat} {cx : List SV} {vs : List Value} (hl : vs.length = cx.length) (ho : o + cx.length ≤ cs.length) (hsz : off + cs.length ≤ cur.size)
    (h1 : ∀ (j : Nat) (u : Value), vs[j]? = some u → u.oneCell' = true) (hy : ∀ (j : Nat) (y : SV), cx[j]? = some y → Rp w ok rho hp y (vs.getD j undef)) :
    CellsIn w ok rho hp (splice cur.toList (off + o) vs).toArray off (splice cs o cx) := fun j y hj => by
  rw [splice_get _ _ _ ho] at hj
  simp only [List.getElem?_toArray]
  rw [splice_get _ _ _ (by simp; omega)]
  by_cases c : o ≤ j ∧ j < o + cx.length
  · rw [if_pos c] at hj
    rw [if_pos (by omega), show off + j - (off + o) = j - o by omega]
    have hlt : j - o < vs.length := by omega
    have hg := List.getElem?_eq_getElem hlt
    refine ⟨vs[j - o], hg, h1 _ _ hg, ?_⟩
    have := hy _ y hj
    rwa [List.getD_eq_getElem?_getD, hg, Option.getD_some] at this
  · rw [if_neg c] at hj
    rw [if_neg (by omega)]
    obtain ⟨v, g1, g2⟩ := h j y hj
    exact ⟨v, by simpa using g1, g2⟩

theorem CellsIn.apart {cur : Array Value} {off : Nat} {cs : List SV} (h : CellsIn w ok rho hp cur off cs) {o : Nat} {vs : List Value} (ho : o + vs.length ≤ cur.size) (hd : off + cs.length ≤ o ∨ o + vs.length ≤ off) :
    CellsIn w ok rho hp (splice cur.toList o vs).toArray off cs := fun j y hj => by
  obtain ⟨v, g1, g2⟩ := h j y hj
  have hlt : j < cs.length := (List.getElem?_eq_some_iff.1 hj).1
  refine ⟨v, ?_, g2⟩
  simp only [List.getElem?_toArray]
  rw [splice_get _ _ _ (by simpa using ho), if_neg (by omega)]
  simpa using g1
end

theorem run_storeVar_at {P : Program} {w : World} {b o : Nat} {cur : Array Value} {t0 t : TypeId} {v : Value} {vs : List Value} (hb : w.heap[b]? = some (.cells cur t0 (0, 0))) (hv : v.cells = vs.toArray) (hs : szT P t = some vs.length)
    (hf : o + vs.length ≤ cur.size) (h1 : ∀ (j : Nat) (u : Value), vs[j]? = some u → u.oneCell' = true) :
    (storeVar t ⟨b, o, none⟩ v).run P w = .ok () (w.setRow b (splice cur.toList o vs).toArray) := by
  have h := run_storeCells_at P b o t0 vs 0 cur w hb (by simpa using hf) (fun v hv => by
    obtain ⟨j, hj⟩ := List.getElem?_of_mem hv
    exact h1 j v hj)
  simp only [Nat.add_zero] at h
  simp [storeVar, hv, run_sizeOf' hs, h, splice]

section
variable {P : Program} {C : Ctx} {hp : Hp} {w : World} {rho : Nat → Option Nat}

theorem RepH.write (R : RepH C hp w rho) {id b : Nat} {hb hb' : HB} {cur cur' : Array Value} {t0 : TypeId} (hq : hp id = some hb) (hr : rho id = some b) (hblk : w.heap[b]? = some (.cells cur t0 (0, 0))) (hsz : cur'.size = cur.size)
    (hk : EvoHB w w (some b) (some b) hb hb') (hh : Holds w (okk C rho hp) rho hp cur' hb') :
    Step C hp (up hp id (some hb')) w (w.setRow b cur') rho (up rho id (some b)) := by
  refine R.replace id hb' b cur' t0 rfl rfl rfl (by simp) (setRow_heap w b cur cur' t0 _ hblk) (fun k _ hk => setRow_other w b k _ hk) (.inl ⟨by simp [hq], hr⟩) (fun hb2 hq2 => ?_) (fun h => by rw [hq] at h; cases h) hh
  rw [hq] at hq2; cases hq2
  rw [hr]
  cases hb <;> cases hb' <;> simp only [EvoHB] at hk ⊢
  refine ⟨hk.1, fun he => ⟨(hk.2 he).1, trivial, fun b2 hb2 c2 t2 hc2 => ?_⟩⟩
  cases hb2
  rw [hblk] at hc2; cases hc2
  exact ⟨cur', t0, setRow_heap w b cur cur' t0 _ hblk, hsz⟩

theorem store_ptr (R : RepH C hp w rho) {id off : Nat} {p : Value} (hv : Rp w (okk C rho hp) rho hp (.ptr id off) p) {cs : List SV} (hq : hp id = some (.var cs)) {t : TypeId} {n : Nat} (hs : szT P t = some n)
    {s : SV} {v : Value} (h : Rp w (okk C rho hp) rho hp s v) {cx : List SV} (hc : cellsSV s = some cx) (hn : cx.length = n) (hl : off + n ≤ cs.length) :
    ∃ w' rho', (Instr.storeAt t p v).run P w = .ok () w' ∧ Step C hp (up hp id (some (.var (splice cs off cx)))) w w' rho rho' := by
  obtain ⟨vs, k1, k2, k3, k4⟩ := h.cells hc
  cases hv with
  | ptr _ _ _ h1 h0 hbb =>
    obtain ⟨b, hb, rfl⟩ := hbb cs hq
    rcases R.heap id _ hq with ⟨_, _, _, h'⟩ | ⟨b', cur, t0, g1, g2, g3⟩
    · cases h'
    · rw [hb] at g1; cases g1
      have hsz : cur.size = cs.length := g3.1
      have hrun := run_storeVar_at (P := P) (t := t) (o := off) g2 k1 (by rw [hs, k2, hn]) (by omega) k3
      refine ⟨w.setRow b (splice cur.toList off vs).toArray, _, by simp [Instr.storeAt, Instr.sureAddr, hrun], R.write hq hb g2 ?_ rfl ?_⟩
      · simp only [List.size_toArray]; rw [splice_length _ _ _ (by simp; omega)]; simp
      · refine ⟨?_, ?_⟩
        · simp only [List.size_toArray]; rw [splice_length _ _ _ (by simp; omega), splice_length _ _ _ (by omega)]; simpa using hsz
        · have := g3.2.over (o := off) k2 (by omega) (by omega) k3 k4
          simpa using this

theorem store_ept (R : RepH C hp w rho) {id ver i off : Nat} {p : Value} (hv : Rp w (okk C rho hp) rho hp (.ept id ver i off) p) {e : Nat} {xs : List (List SV)} (hq : hp id = some (.row e ver xs)) {t : TypeId} {n : Nat} (hs : szT P t = some n)
    {s : SV} {v : Value} (h : Rp w (okk C rho hp) rho hp s v) {cx : List SV} (hc : cellsSV s = some cx) (hn : cx.length = n) {x : List SV} (hx : xs[i]? = some x) (hl : off + n ≤ e) :
    ∃ w' rho', (Instr.storeAt t p v).run P w = .ok () w' ∧ Step C hp (up hp id (some (.row e ver (xs.set i (splice x off cx))))) w w' rho rho' := by
  obtain ⟨vs, k1, k2, k3, k4⟩ := h.cells hc
  cases hv with
  | ept _ _ _ _ _ h1 h0 hle hbb =>
    obtain ⟨b, hb, rfl⟩ := hbb e xs hq
    rcases R.heap id _ hq with ⟨hn, _⟩ | ⟨b', cur, t0, g1, g2, g3⟩
    · rw [hb] at hn; cases hn
    · rw [hb] at g1; cases g1
      have hxe := g3.1 x (List.mem_of_getElem? hx)
      have hi : i < xs.length := (List.getElem?_eq_some_iff.1 hx).1
      have hie : i * e + e ≤ cur.size := by
        have h1 : (i + 1) * e ≤ xs.length * e := Nat.mul_le_mul_right _ hi
        have h2 := g3.2.1
        rw [Nat.add_mul] at h1; omega
      have hrun := run_storeVar_at (P := P) (t := t) (o := i * e + off) g2 k1 (by rw [hs, k2, hn]) (by omega) k3
      have hsl : (splice x off cx).length = e := by rw [splice_length _ _ _ (by omega)]; exact hxe
      refine ⟨w.setRow b (splice cur.toList (i * e + off) vs).toArray, _, by simp [Instr.storeAt, Instr.sureAddr, hrun], R.write hq hb g2 ?_ ⟨Nat.le_refl _, fun _ => ⟨rfl, rfl, fun _ _ c t hc => ⟨c, t, hc, rfl⟩⟩⟩ ?_⟩
      · simp only [List.size_toArray]; rw [splice_length _ _ _ (by simp; omega)]; simp
      · refine ⟨fun y hy => ?_, ?_, fun j y hj => ?_⟩
        · rcases List.mem_or_eq_of_mem_set hy with h | h
          · exact g3.1 y h
          · rw [h]; exact hsl
        · simp only [List.size_toArray, List.length_set]; rw [splice_length _ _ _ (by simp; omega)]; simpa using g3.2.1
        · rw [List.getElem?_set] at hj
          by_cases hij : i = j
          · subst hij
            simp only [if_true, hi] at hj
            cases hj
            exact (g3.2.2 i x hx).over (o := off) k2 (by omega) (by omega) k3 k4
          · rw [if_neg hij] at hj
            have hye := g3.1 y (List.mem_of_getElem? hj)
            refine (g3.2.2 j y hj).apart (by omega) ?_
            rcases Nat.lt_or_gt_of_ne hij with h | h
            · right
              have : (i + 1) * e ≤ j * e := Nat.mul_le_mul_right _ h
              rw [Nat.add_mul] at this; omega
            · left
              have : (j + 1) * e ≤ i * e := Nat.mul_le_mul_right _ h
              rw [Nat.add_mul] at this; omega
end

/-- Constants. -/
def cvV : Value → Option RV
  | .int k n => some (.int k n)
  | .bool b => some (.bool b)
  | .string s => some (.str s)
  | .pointer none => some .nilp
  | .slice none 0 0 => some .nilsl
  | .nilIface => some .nili
  | .nilFunc => some .nilf
  | _ => none

theorem cvV_ok {v : Value} {r : RV} (h : cvV v = some r) (w : World) (ok : Nat → Prop) : RO w ok r v ∧ r.one = true := by
  cases v with
  | int k n => cases h; exact ⟨.int k n, rfl⟩
  | bool b => cases h; exact ⟨.bool b, rfl⟩
  | string s => cases h; exact ⟨.str s, rfl⟩
  | pointer a => cases a <;> cases h; exact ⟨.nilp, rfl⟩
  | slice a n c =>
    cases a with
    | some a => cases h
    | none =>
      cases n with
      | succ n => cases h
      | zero => cases c with
        | succ c => cases h
        | zero => cases h; exact ⟨.nilsl, rfl⟩
  | nilIface => cases h; exact ⟨.nili, rfl⟩
  | nilFunc => cases h; exact ⟨.nilf, rfl⟩
  | _ => cases h

def cvL : List Value → Option (List RV)
  | [] => some []
  | v :: r => match cvV v, cvL r with
    | some x, some y => some (x :: y)
    | _, _ => none

theorem cvL_ok (w : World) (ok : Nat → Prop) (rho : Nat → Option Nat) (hp : Hp) : ∀ {vs : List Value} {rs : List RV}, cvL vs = some rs → vs.length = rs.length ∧ (∀ (j : Nat) (u : Value), vs[j]? = some u → u.oneCell' = true) ∧
    ∀ (j : Nat) (y : SV), (rs.map SV.rv)[j]? = some y → Rp w ok rho hp y (vs.getD j undef)
  | [], rs, h => by cases h; exact ⟨rfl, fun j u hu => by simp at hu, fun j y hy => by simp at hy⟩
  | v :: r, rs, h => by
    unfold cvL at h
    cases hv : cvV v with
    | none => simp [hv] at h
    | some x =>
      cases hr : cvL r with
      | none => simp [hv, hr] at h
      | some y =>
        simp only [hv, hr, Option.some.injEq] at h
        subst h
        obtain ⟨h1, h2, h3⟩ := cvL_ok w ok rho hp hr
        obtain ⟨g1, g2⟩ := cvV_ok hv w ok
        refine ⟨by simp [h1], fun j u hu => ?_, fun j z hz => ?_⟩
        · cases j with
          | zero => simp at hu; subst hu; exact g1.oneCell g2
          | succ j => simp at hu; exact h2 j u hu
        · cases j with
          | zero => simp at hz; subst hz; exact .rv _ _ g1
          | succ j => simp only [List.map_cons, List.getElem?_cons_succ] at hz; exact h3 j z hz

def zeroT (P : Program) (t : TypeId) : Option (List RV) := match P.info? t with
  | some i => match i.zero with
    | some z => cvL z.cells.toList
    | none => none
  | none => none

section
variable {P : Program} {C : Ctx} {hp : Hp} {w : World} {rho : Nat → Option Nat}

theorem alloc_ok (R : RepH C hp w rho) {id : Nat} (hf : hp id = none) (hf0 : C.h0 id = none) {t : TypeId} {z : List RV} (hz : zeroT P t = some z) (x : Value) :
    ∃ u w' rho', (Instr.alloc t true x).run P w = .ok u w' ∧ Step C hp (up hp id (some (.var (z.map .rv)))) w w' rho rho' ∧ Rp w' (okk C rho' (up hp id (some (.var (z.map .rv))))) rho' (up hp id (some (.var (z.map .rv)))) (.ptr id 0) u := by
  unfold zeroT at hz
  cases hi : P.info? t with
  | none => simp [hi] at hz
  | some i =>
    cases hzz : i.zero with
    | none => simp [hi, hzz] at hz
    | some zv =>
      simp only [hi, hzz] at hz
      obtain ⟨h1, h2, h3⟩ := cvL_ok w (okk C rho hp) rho hp hz
      have S := R.make (w1 := w) rfl rfl rfl rfl id (.var (z.map .rv)) zv.cells t hf hf0 (by
        have := Holds.var_of (vs := zv.cells.toList) (cs := z.map .rv) (by simpa using h1) h2 h3
        simpa using this)
      refine ⟨.pointer (some ⟨w.heap.size, 0, none⟩), w.alloc (.cells zv.cells t), _, ?_, S, .ptr id 0 _ rfl (by simp) (fun cs' _ => ⟨w.heap.size, up_same _ _ _, rfl⟩)⟩
      simp [Instr.alloc, newVar, newRow, zeroValue, typeInfo, hi, hzz]
end

end Go.Eng
