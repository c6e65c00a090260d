/- Addresses of fields and elements, lengths, numbers, comparisons with nil. -/
import Derived.Test.YtjiipbccpfjefaaEngD
set_option linter.unusedSimpArgs false
namespace Go.Eng
open Go

theorem addr_add_add (a : Addr) (i j : Nat) : (a.add i).add j = a.add (i + j) := by
  unfold Addr.add
  by_cases hi : i = 0 <;> by_cases hj : j = 0 <;> simp [hi, hj]
  omega
theorem addr_add_block (a : Addr) (i : Nat) : (a.add i).block = a.block := by unfold Addr.add; split <;> rfl

theorem RO.shift {w : World} {ok : Nat → Prop} {cs : List RV} {a : Addr} (h : RO w ok (.rop cs) (.pointer (some a))) (k : Nat) : RO w ok (.rop (cs.drop k)) (.pointer (some (a.add k))) := by
  cases h with
  | rop _ _ c hr h1 hy =>
    refine .rop _ _ (fun j => c (k + j)) (fun j y hj => ?_) (fun j y hj => ?_) (fun j y hj => ?_)
    · rw [List.getElem?_drop] at hj
      rw [addr_add_block, addr_add_add]
      exact hr (k + j) y hj
    · rw [List.getElem?_drop] at hj; exact h1 _ y hj
    · rw [List.getElem?_drop] at hj; exact hy _ y hj

/-- A field's place and type. -/
def fldT (P : Program) (s : TypeId) (f : Nat) : Option (Nat × TypeId) := match P.underlying s with
  | some (.struct fs) => match fs[f]? with
    | some x => some (x.offset, x.type)
    | none => none
  | _ => none

section
variable {P : Program} {C : Ctx} {hp : Hp} {w : World} {rho : Nat → Option Nat}

theorem run_fieldAt {s : TypeId} {f off : Nat} {ft : TypeId} (h : fldT P s f = some (off, ft)) {n : Nat} (hs : szT P ft = some (n + 1)) (a : Addr) : (Instr.fieldAt s (.pointer (some a)) f).run P w = .ok (.pointer (some (a.add off))) w := by
  unfold fldT at h
  split at h
  · rename_i fs hu
    split at h
    · rename_i x hx
      cases h
      simp [Instr.fieldAt, run_underlying hu, hx, Instr.sureAddr, fieldPlace, run_sizeOf' hs]
    · cases h
  · cases h

theorem fldAddr_ptr {id o : Nat} {v : Value} (hv : Rp w (okk C rho hp) rho hp (.ptr id o) v) {cs : List SV} (hq : hp id = some (.var cs)) {s : TypeId} {f off : Nat} {ft : TypeId} (h : fldT P s f = some (off, ft)) {n : Nat} (hs : szT P ft = some (n + 1)) :
    ∃ u, (Instr.fieldAt s v f).run P w = .ok u w ∧ Rp w (okk C rho hp) rho hp (.ptr id (o + off)) u := by
  cases hv with
  | ptr _ _ _ h1 h0 hbb =>
    obtain ⟨b, hb, rfl⟩ := hbb cs hq
    refine ⟨_, run_fieldAt h hs _, .ptr _ _ _ rfl h0 (fun _ _ => ⟨b, hb, by rw [add_lit]⟩)⟩

theorem fldAddr_ept {id ver i o : Nat} {v : Value} (hv : Rp w (okk C rho hp) rho hp (.ept id ver i o) v) {e : Nat} {xs : List (List SV)} (hq : hp id = some (.row e ver xs)) {s : TypeId} {f off : Nat} {ft : TypeId} (h : fldT P s f = some (off, ft)) {n : Nat} (hs : szT P ft = some (n + 1)) :
    ∃ u, (Instr.fieldAt s v f).run P w = .ok u w ∧ Rp w (okk C rho hp) rho hp (.ept id ver i (o + off)) u := by
  cases hv with
  | ept _ _ _ _ _ h1 h0 hle hbb =>
    obtain ⟨b, hb, rfl⟩ := hbb e xs hq
    refine ⟨_, run_fieldAt h hs _, .ept _ _ _ _ _ rfl h0 hle (fun e' xs' hq' => ⟨b, hb, ?_⟩)⟩
    rw [hq] at hq'; cases hq'
    rw [add_lit, Nat.add_assoc]

theorem fldAddr_rop {cs : List RV} {v : Value} (hv : RO w (okk C rho hp) (.rop cs) v) {s : TypeId} {f off : Nat} {ft : TypeId} (h : fldT P s f = some (off, ft)) {n : Nat} (hs : szT P ft = some (n + 1)) :
    ∃ u, (Instr.fieldAt s v f).run P w = .ok u w ∧ Rp w (okk C rho hp) rho hp (.rv (.rop (cs.drop off))) u := by
  have hv' := hv
  cases hv with
  | rop _ a c hr h1 hy => exact ⟨_, run_fieldAt h hs _, .rv _ _ (hv'.shift off)⟩

theorem run_ixSlice {t e : TypeId} {n : Nat} (ht : P.underlying t = some (.slice e)) (hs : szT P e = some n) (a : Addr) (len cap : Nat) (k : IntKind) (i : Int) (h0 : 0 ≤ i) (h1 : i < len) :
    (Instr.indexAt t (.slice (some a) len cap) (.int k i)).run P w = .ok (.pointer (some (a.add (i.toNat * n)))) w := by
  simp [Instr.indexAt, run_underlying ht, asIntOf, h0, h1, run_sizeOf' hs]

theorem run_ixArr {t e : TypeId} {n len : Nat} (ht : P.underlying t = some (.array len e)) (hs : szT P e = some n) (a : Addr) (k : IntKind) (i : Int) (h0 : 0 ≤ i) (h1 : i < len) :
    (Instr.indexAt t (.pointer (some a)) (.int k i)).run P w = .ok (.pointer (some (a.add (i.toNat * n)))) w := by
  simp [Instr.indexAt, run_underlying ht, asIntOf, h0, h1, run_sizeOf' hs, Instr.sureAddr]

theorem ix_sl {t et : TypeId} {e : Nat} (ht : P.underlying t = some (.slice et)) (hs : szT P et = some e) {xs : List (List RV)} {v : Value} (hv : RO w (okk C rho hp) (.sl e xs) v) {k : IntKind} {i : Int} (h0 : 0 ≤ i) (h1 : i < xs.length) :
    ∃ u, (Instr.indexAt t v (.int k i)).run P w = .ok u w ∧ Rp w (okk C rho hp) rho hp (.rv (.rop ((xs[i.toNat]?).getD []))) u := by
  cases hv with
  | sl _ _ a cap c g0 gc gm ge gr g1 gy =>
    cases a with
    | none => obtain ⟨rfl, _⟩ := g0 rfl; simp at h1; omega
    | some a =>
      have hi : i.toNat < xs.length := by omega
      have hx := List.getElem?_eq_getElem hi
      refine ⟨_, run_ixSlice ht hs a _ _ k i h0 h1, .rv _ _ ?_⟩
      rw [hx, Option.getD_some]
      refine .rop _ _ (fun j => c i.toNat j) (fun j y hj => ?_) (fun j y hj => g1 _ _ j y hx hj) (fun j y hj => gy _ _ j y hx hj)
      obtain ⟨ad, h2, h3, h4⟩ := gr _ _ j y hx hj
      cases h2
      rw [addr_add_block, addr_add_add]
      exact ⟨h3, h4⟩

theorem ix_row {t et : TypeId} {e : Nat} (ht : P.underlying t = some (.slice et)) (hs : szT P et = some e) {id ver len : Nat} {v : Value} (hv : Rp w (okk C rho hp) rho hp (.row id ver len) v) {xs : List (List SV)} (hq : hp id = some (.row e ver xs))
    {k : IntKind} {i : Int} (h0 : 0 ≤ i) (h1 : i < len) :
    ∃ u, (Instr.indexAt t v (.int k i)).run P w = .ok u w ∧ Rp w (okk C rho hp) rho hp (.ept id ver i.toNat 0) u := by
  cases hv with
  | row _ _ _ _ g1 g0 gle gv =>
    rcases gv e xs hq with ⟨_, _, rfl⟩ | ⟨b, cap, cur, t0, k1, rfl, k3, k4, k5, k6⟩
    · simp at h1; omega
    · refine ⟨_, run_ixSlice ht hs _ _ _ k i h0 h1, .ept _ _ _ _ _ rfl g0 gle (fun e' xs' hq' => ⟨b, k1, ?_⟩)⟩
      rw [hq] at hq'; cases hq'
      rw [add_lit]; simp

theorem ix_arr_ptr {t et : TypeId} {e len : Nat} (ht : P.underlying t = some (.array len et)) (hs : szT P et = some e) {id o : Nat} {v : Value} (hv : Rp w (okk C rho hp) rho hp (.ptr id o) v) {cs : List SV} (hq : hp id = some (.var cs)) {k : IntKind} {i : Int} (h0 : 0 ≤ i) (h1 : i < len) :
    ∃ u, (Instr.indexAt t v (.int k i)).run P w = .ok u w ∧ Rp w (okk C rho hp) rho hp (.ptr id (o + i.toNat * e)) u := by
  cases hv with
  | ptr _ _ _ g1 g0 hbb =>
    obtain ⟨b, hb, rfl⟩ := hbb cs hq
    exact ⟨_, run_ixArr ht hs _ k i h0 h1, .ptr _ _ _ rfl g0 (fun _ _ => ⟨b, hb, by rw [add_lit]⟩)⟩

theorem ix_arr_ept {t et : TypeId} {e len : Nat} (ht : P.underlying t = some (.array len et)) (hs : szT P et = some e) {id ver i0 o : Nat} {v : Value} (hv : Rp w (okk C rho hp) rho hp (.ept id ver i0 o) v) {e' : Nat} {xs : List (List SV)} (hq : hp id = some (.row e' ver xs)) {k : IntKind} {i : Int} (h0 : 0 ≤ i) (h1 : i < len) :
    ∃ u, (Instr.indexAt t v (.int k i)).run P w = .ok u w ∧ Rp w (okk C rho hp) rho hp (.ept id ver i0 (o + i.toNat * e)) u := by
  cases hv with
  | ept _ _ _ _ _ g1 g0 gle hbb =>
    obtain ⟨b, hb, rfl⟩ := hbb e' xs hq
    refine ⟨_, run_ixArr ht hs _ k i h0 h1, .ept _ _ _ _ _ rfl g0 gle (fun e2 xs2 hq2 => ⟨b, hb, ?_⟩)⟩
    rw [hq] at hq2; cases hq2
    rw [add_lit, Nat.add_assoc]

theorem ix_arr_rop {t et : TypeId} {e len : Nat} (ht : P.underlying t = some (.array len et)) (hs : szT P et = some e) {cs : List RV} {v : Value} (hv : RO w (okk C rho hp) (.rop cs) v) {k : IntKind} {i : Int} (h0 : 0 ≤ i) (h1 : i < len) :
    ∃ u, (Instr.indexAt t v (.int k i)).run P w = .ok u w ∧ Rp w (okk C rho hp) rho hp (.rv (.rop (cs.drop (i.toNat * e)))) u := by
  have hv' := hv
  cases hv with
  | rop _ a c hr g1 hy => exact ⟨_, run_ixArr ht hs _ k i h0 h1, .rv _ _ (hv'.shift _)⟩

theorem run_len_sl {t et : TypeId} (ht : P.underlying t = some (.slice et)) (ty : TypeId) (a : Option Addr) (n c : Nat) : (Builtin.len_ #[t] ty #[.slice a n c]).run P w = .ok (.int .i64 n) w := by
  simp [Builtin.len_, run_underlying ht, goInt]
theorem run_len_str {t : TypeId} (ht : P.underlying t = some .string) (ty : TypeId) (s : ByteArray) : (Builtin.len_ #[t] ty #[.string s]).run P w = .ok (.int .i64 s.size) w := by
  simp [Builtin.len_, run_underlying ht, goInt]

theorem len_row {t et : TypeId} (ht : P.underlying t = some (.slice et)) (ty : TypeId) {id ver len : Nat} {v : Value} (hv : Rp w (okk C rho hp) rho hp (.row id ver len) v) {e : Nat} {xs : List (List SV)} (hq : hp id = some (.row e ver xs)) :
    (Builtin.len_ #[t] ty #[v]).run P w = .ok (.int .i64 len) w := by
  cases hv with
  | row _ _ _ _ g1 g0 gle gv =>
    rcases gv e xs hq with ⟨_, rfl, rfl⟩ | ⟨b, cap, cur, t0, k1, rfl, k3, k4, k5, k6⟩
    · exact run_len_sl ht ty _ _ _
    · exact run_len_sl ht ty _ _ _
end

/-- Arithmetic and comparisons of whole numbers. -/
def ibin (op : BinOp) (k : IntKind) (a b : Int) : Option (Prop × RV) :=
  match op with
  | .add => some (True, .int k (k.wrap (a + b)))
  | .sub => some (True, .int k (k.wrap (a - b)))
  | .mul => some (True, .int k (k.wrap (a * b)))
  | .quo => some (b ≠ 0, .int k (k.wrap (a.tdiv b)))
  | .rem => some (b ≠ 0, .int k (a.tmod b))
  | .and => some (True, .int k (k.wrap (BitVec.ofInt k.bits a &&& BitVec.ofInt k.bits b).toNat))
  | .or => some (True, .int k (k.wrap (BitVec.ofInt k.bits a ||| BitVec.ofInt k.bits b).toNat))
  | .xor => some (True, .int k (k.wrap (BitVec.ofInt k.bits a ^^^ BitVec.ofInt k.bits b).toNat))
  | .eql => some (True, .bool (a == b))
  | .neq => some (True, .bool (a != b))
  | .lss => some (True, .bool (decide (a < b)))
  | .leq => some (True, .bool (decide (a ≤ b)))
  | .gtr => some (True, .bool (decide (a > b)))
  | .geq => some (True, .bool (decide (a ≥ b)))
  | _ => none

def ishf (op : BinOp) (k : IntKind) (a b : Int) : Option (Prop × RV) :=
  match op with
  | .shl => some (0 ≤ b, .int k (k.wrap (a * 2 ^ min b.toNat k.bits)))
  | .shr => some (0 ≤ b, .int k (a.fdiv (2 ^ min b.toNat k.bits)))
  | _ => none

def valOf : RV → Value
  | .int k n => .int k n
  | .bool b => .bool b
  | .str s => .string s
  | _ => undef

theorem run_ibin {P : Program} {w : World} {op : BinOp} {k : IntKind} {a b : Int} {p : Prop} {r : RV} (h : ibin op k a b = some (p, r)) (hp : p) (t : TypeId) :
    (binOp op t (.int k a) (.int k b)).run P w = .ok (valOf r) w ∧ ∀ ok, RO w ok r (valOf r) := by
  cases op <;> simp only [ibin, Option.some.injEq, Prod.mk.injEq, reduceCtorEq] at h <;> obtain ⟨rfl, rfl⟩ := h <;>
    (refine ⟨?_, fun _ => by first | exact .int _ _ | exact .bool _⟩; first | (simp [binOp, Op.intArith, Op.intBits, Op.intCmp, Op.intDiv, valOf]; done) | (simp [binOp, Op.intDiv, hp, valOf]; done))

theorem run_ishf {P : Program} {w : World} {op : BinOp} {k k' : IntKind} {a b : Int} {p : Prop} {r : RV} (h : ishf op k a b = some (p, r)) (hp : p) (t : TypeId) :
    (binOp op t (.int k a) (.int k' b)).run P w = .ok (valOf r) w ∧ ∀ ok, RO w ok r (valOf r) := by
  cases op <;> simp only [ishf, Option.some.injEq, Prod.mk.injEq, reduceCtorEq] at h <;> obtain ⟨rfl, rfl⟩ := h
  · exact ⟨by simp [binOp, Op.shift, Int.not_lt.2 hp, valOf], fun _ => .int _ _⟩
  · exact ⟨by simp [binOp, Op.shift, Int.not_lt.2 hp, valOf], fun _ => .int _ _⟩

end Go.Eng
