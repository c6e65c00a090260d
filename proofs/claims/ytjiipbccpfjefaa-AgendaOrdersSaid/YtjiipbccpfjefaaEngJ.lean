/- make, fields and elements of aggregates, equality. -/
import Derived.Test.YtjiipbccpfjefaaEngI
set_option linter.unusedSimpArgs false
set_option linter.unusedVariables false
namespace Go.Eng
open Go

section
variable {P : Program} {C : Ctx} {hp : Hp} {w : World} {rho : Nat → Option Nat}

theorem mksl_ok (R : RepH C hp w rho) {id : Nat} (hf : hp id = none) (hf0 : C.h0 id = none) {t et : TypeId} {e bytes : Nat} (T : Elt P t et e bytes) {z : List RV} (hz : zeroT P et = some z) (hze : z.length = e) (kl kc : IntKind) (n : Int) (h0 : 0 ≤ n) (hby : (bytes : Int) * n ≤ 281474976710656) (h63 : n ≤ 9223372036854775807) :
    ∃ u w' rho', (Instr.makeSlice t (.int kl n) (.int kc n)).run P w = .ok u w' ∧ Step C hp (up hp id (some (.row e 0 (List.replicate n.toNat (z.map .rv))))) w w' rho rho' ∧
      Rp w' (okk C rho' (up hp id (some (.row e 0 (List.replicate n.toNat (z.map .rv)))))) rho' (up hp id (some (.row e 0 (List.replicate n.toNat (z.map .rv))))) (.row id 0 n.toNat) u := by
  obtain ⟨i, zv, hi, hzz, hsz, hbt, hzs⟩ := T.hi
  have hr := run_make (P := P) w t et i zv T.ht hi hzz kl kc n n h0 (Int.le_refl _) (by rw [hbt]; exact hby) h63
  unfold zeroT at hz
  simp only [hi, hzz] at hz
  obtain ⟨c1, c2, c3⟩ := cvL_ok w (okk C rho hp) rho hp hz
  subst hsz
  have S := R.make (w1 := w) rfl rfl rfl rfl id (.row i.size 0 (List.replicate n.toNat (z.map .rv))) (madeCells zv.cells (n.toNat * i.size)) et hf hf0 (by
    refine ⟨fun c hc => ?_, by simp [size_madeCells], fun k c hk j y hj => ?_⟩
    · rw [List.eq_of_mem_replicate hc]; simpa using hze
    · rw [List.getElem?_replicate] at hk
      split at hk
      · rename_i hkn
        cases hk
        have hj' : j < i.size := by have := (List.getElem?_eq_some_iff.1 hj).1; simpa [hze] using this
        have hlt : k * i.size + j < n.toNat * i.size := by
          have : (k + 1) * i.size ≤ n.toNat * i.size := Nat.mul_le_mul_right _ hkn
          rw [Nat.add_mul] at this; omega
        have hjz : j < zv.cells.toList.length := by simp; omega
        have hg := List.getElem?_eq_getElem hjz
        refine ⟨zv.cells.toList[j], ?_, c2 j _ hg, ?_⟩
        · simp only [madeCells, Array.getElem?_map]
          rw [Array.getElem?_range]
          simp only [hlt, if_true, Option.map_some, Option.some.injEq]
          rw [hzs, Nat.mul_comm, Nat.mul_add_mod, Nat.mod_eq_of_lt hj']
          simp [hzs, hj']
        · have := c3 j y hj
          rwa [List.getD_eq_getElem?_getD, hg, Option.getD_some] at this
      · cases hk)
  refine ⟨_, _, _, hr, S, .row id 0 _ _ rfl (by simp) (fun e' v' xs' h' => by omega) (fun e' xs' h' => .inr ⟨w.heap.size, _, _, et, up_same _ _ _, rfl, heap_alloc_new w _, Nat.le_refl _, by simp only [maxLen]; omega, ?_⟩)⟩
  rw [up_same] at h'; cases h'
  simp [size_madeCells]

theorem part_agg {ok : Nat → Prop} {cs : List SV} {v : Value} (hv : Rp w ok rho hp (.agg cs) v) {t : TypeId} {off n : Nat} (ha : aggT P t = some true) (hs : szT P t = some n) (hl : off + n ≤ cs.length) :
    ∃ arr, v = .agg arr ∧ ∃ u, (part t arr off).run P w = .ok u w ∧ Rp w ok rho hp (.agg ((cs.drop off).take n)) u := by
  cases hv with
  | agg _ vs h1 h2 h3 =>
    refine ⟨_, rfl, .agg ((vs.drop off).take n).toArray, ?_, .agg _ _ (by simp [h1]) (fun j u hu => ?_) (fun j y hy => ?_)⟩
    · simp [part, run_isAgg' ha, run_sizeOf' hs]
    · rw [List.getElem?_take] at hu
      split at hu
      · rw [List.getElem?_drop] at hu; exact h2 _ u hu
      · cases hu
    · rw [List.getElem?_take] at hy
      split at hy
      · rename_i hj
        rw [List.getElem?_drop] at hy
        have := h3 _ y hy
        rw [List.getD_eq_getElem?_getD] at this ⊢
        rw [List.getElem?_take, if_pos hj, List.getElem?_drop]; exact this
      · cases hy

theorem part_one {ok : Nat → Prop} {cs : List SV} {v : Value} (hv : Rp w ok rho hp (.agg cs) v) {t : TypeId} {off : Nat} (ha : aggT P t = some false) {y : SV} (hy : cs[off]? = some y) :
    ∃ arr, v = .agg arr ∧ ∃ u, (part t arr off).run P w = .ok u w ∧ Rp w ok rho hp y u := by
  cases hv with
  | agg _ vs h1 h2 h3 =>
    have hlt : off < vs.length := by rw [h1]; exact (List.getElem?_eq_some_iff.1 hy).1
    have hg := List.getElem?_eq_getElem hlt
    have := h3 off y hy
    rw [List.getD_eq_getElem?_getD, hg, Option.getD_some] at this
    refine ⟨_, rfl, vs[off], ?_, this⟩
    simp [part, run_isAgg' ha, hlt]

theorem fldv_agg {ok : Nat → Prop} {cs : List SV} {v : Value} (hv : Rp w ok rho hp (.agg cs) v) {s ft : TypeId} {f off n : Nat} (h : fldT P s f = some (off, ft)) (ha : aggT P ft = some true) (hs : szT P ft = some n) (hl : off + n ≤ cs.length) :
    ∃ u, (Instr.field s v f).run P w = .ok u w ∧ Rp w ok rho hp (.agg ((cs.drop off).take n)) u := by
  obtain ⟨arr, rfl, u, h1, h2⟩ := part_agg hv ha hs hl
  refine ⟨u, ?_, h2⟩
  unfold fldT at h
  split at h
  · rename_i fs hu
    split at h
    · rename_i x hx
      cases h
      simp [Instr.field, run_underlying hu, hx, asAgg, h1]
    · cases h
  · cases h

theorem fldv_one {ok : Nat → Prop} {cs : List SV} {v : Value} (hv : Rp w ok rho hp (.agg cs) v) {s ft : TypeId} {f off : Nat} (h : fldT P s f = some (off, ft)) (ha : aggT P ft = some false) {y : SV} (hy : cs[off]? = some y) :
    ∃ u, (Instr.field s v f).run P w = .ok u w ∧ Rp w ok rho hp y u := by
  obtain ⟨arr, rfl, u, h1, h2⟩ := part_one hv ha hy
  refine ⟨u, ?_, h2⟩
  unfold fldT at h
  split at h
  · rename_i fs hu
    split at h
    · rename_i x hx
      cases h
      simp [Instr.field, run_underlying hu, hx, asAgg, h1]
    · cases h
  · cases h

theorem ixv_one {ok : Nat → Prop} {cs : List SV} {v : Value} (hv : Rp w ok rho hp (.agg cs) v) {t et : TypeId} {len e : Nat} (ht : P.underlying t = some (.array len et)) (hs : szT P et = some e) (ha : aggT P et = some false) (k : IntKind) (i : Int) (h0 : 0 ≤ i) (h1 : i < len) {y : SV} (hy : cs[i.toNat * e]? = some y) :
    ∃ u, (Instr.index t v (.int k i)).run P w = .ok u w ∧ Rp w ok rho hp y u := by
  obtain ⟨arr, rfl, u, g1, g2⟩ := part_one hv ha hy
  exact ⟨u, by simp [Instr.index, asIntOf, run_underlying ht, h0, h1, run_sizeOf' hs, g1], g2⟩

theorem ixv_agg {ok : Nat → Prop} {cs : List SV} {v : Value} (hv : Rp w ok rho hp (.agg cs) v) {t et : TypeId} {len e : Nat} (ht : P.underlying t = some (.array len et)) (hs : szT P et = some e) (ha : aggT P et = some true) (k : IntKind) (i : Int) (h0 : 0 ≤ i) (h1 : i < len) (hl : i.toNat * e + e ≤ cs.length) :
    ∃ u, (Instr.index t v (.int k i)).run P w = .ok u w ∧ Rp w ok rho hp (.agg ((cs.drop (i.toNat * e)).take e)) u := by
  obtain ⟨arr, rfl, u, g1, g2⟩ := part_agg hv ha hs hl
  exact ⟨u, by simp [Instr.index, asIntOf, run_underlying ht, h0, h1, run_sizeOf' hs, g1], g2⟩

/-- Is a value nil? What is known of it. -/
def isNilSV (hp : Hp) : SV → Option (Prop × Bool × List Nat)
  | .rv .nilp => some (True, true, [])
  | .rv (.rop _) => some (True, false, [])
  | .ptr id _ => match hp id with
    | some (.var _) => some (True, false, [id])
    | _ => none
  | .ept id ver _ _ => match hp id with
    | some (.row _ ver' _) => some (ver' = ver, false, [id])
    | _ => none
  | _ => none

theorem run_eq_nilp {t el : TypeId} (ht : P.underlying t = some (.pointer el)) {s : SV} {v : Value} (hv : Rp w (okk C rho hp) rho hp s v) {p : Prop} {b : Bool} {rd : List Nat} (h : isNilSV hp s = some (p, b, rd)) (hp' : p) :
    (binOp .eql t v (.pointer none)).run P w = .ok (.bool b) w ∧ (binOp .neq t v (.pointer none)).run P w = .ok (.bool !b) w := by
  have core : ∀ a : Option Addr, (Op.equal t (.pointer a) (.pointer none)).run P w = .ok a.isNone w := fun a => by
    have c : ∀ d, (Op.equalIn (d + 1) t (.pointer a) (.pointer none)).run P w = .ok a.isNone w := fun d => by
      cases a <;> simp [Op.equalIn, run_underlying ht]
    exact c 9999
  have fin : ∀ a : Option Addr, v = .pointer a → a.isNone = b → (binOp .eql t v (.pointer none)).run P w = .ok (.bool b) w ∧ (binOp .neq t v (.pointer none)).run P w = .ok (.bool !b) w := fun a hva hb => by
    subst hva; subst hb
    have := core a
    constructor <;> cases a <;> simp [binOp, this]
  cases hv with
  | rv r v hr =>
    cases r with
    | nilp => cases hr; cases h; exact fin none rfl rfl
    | rop cs => cases hr; cases h; exact fin _ rfl rfl
    | _ => cases h
  | ptr id off _ h1 h0 hb =>
    simp only [isNilSV] at h
    split at h
    · rename_i cs hq
      cases h
      obtain ⟨b', _, rfl⟩ := hb cs hq
      exact fin _ rfl rfl
    · cases h
  | ept id ver i off _ h1 h0 hle hb =>
    simp only [isNilSV] at h
    split at h
    · rename_i e ver' xs hq
      cases h
      subst hp'
      obtain ⟨b', _, rfl⟩ := hb e xs hq
      exact fin _ rfl rfl
    · cases h
  | _ => cases h
end
end Go.Eng
