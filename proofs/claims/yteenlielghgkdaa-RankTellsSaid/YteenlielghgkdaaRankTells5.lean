/- Part 5 of the proof: L4, RT, R1, R2, R3, R4, KF, KG. -/
import Derived.Test.YteenlielghgkdaaRankTells4
import Derived.Test.YteenlielghgkdaaProg
import Derived.KernelRfl
set_option linter.unusedSimpArgs false
set_option linter.unusedVariables false
/- level: the statements as functions: every made thing is in one group, every leading thing in one context. -/
namespace Go.Eng
open Go
/-- How often m is in the first k lists. -/
def cntB (f : Nat → List Nat) : Nat → Nat → Nat
  | 0, _ => 0
  | k + 1, m => cntB f k m + (f k).count m
def cntL (L : Nat) (f : Nat → List Nat) (k : Nat) (xs : List Nat) : List Int := (List.range L).map fun m => ((cntB f k m + xs.count m : Nat) : Int)
theorem zero_mem {l : List Nd} (hs : Shp l) : ∀ m k, k ≤ m → k < l.length → 0 ∈ pth l k
  | _, 0, _, _ => mem_self
  | 0, k + 1, h, _ => absurd h (by omega)
  | m + 1, k + 1, h, hk => by
    have hu := hs.up (k + 1) (by omega) hk
    rw [mem_par hs.wf (by omega) hk]
    exact .inr (zero_mem hs m _ (by omega) (by omega))
theorem made_zero {l : List Nd} (hs : Shp l) {m : Nat} (h : madeAt l m = true) : madeAt l 0 = true := by
  simp -implicitDefEqProofs only [madeAt, Bool.and_eq_true] at h
  obtain ⟨h1, h2⟩ := h
  have hm : m < l.length := by simpa [inL] using h1
  have h0 : inL l 0 = true := by have := inL_of (l := l) (k := 0) (by omega); simpa using this
  unfold madeS at h2
  rw [List.all_eq_true] at h2
  have := h2 0 (zero_mem hs m m (by omega) hm)
  simp [madeAt, h0, madeS_zero, this]
theorem group_lead {l : List Nd} {m : Nat} (h : leadAt l m = true) : groupAt l m = m := by
  obtain ⟨r, hr⟩ := pth_head (l := l) (n := m)
  simp [groupAt, lead_made h, hr, fstI, h]
theorem group_found {l : List Nd} (hs : Shp l) {m : Nat} (h : madeAt l m = true) : ∃ u, u < l.length ∧ groupAt l m = (u : Nat) ∧ leadAt l u = true := by
  have hm : m < l.length := by simp [madeAt, inL] at h; exact h.1
  have h0 : leadAt l ((0 : Nat) : Int) = true := by simp [leadAt, made_zero hs h]
  have hv : groupAt l m = fstI (leadAt l) (pth l m) := by simp [groupAt, h]
  rcases fst_cases (leadAt l) (pth l m) with ⟨_, h1⟩ | ⟨i, hi, h1, h2, _⟩
  · have := h1 0 (zero_mem hs m m (by omega) hm)
    rw [h0] at this; simp at this
  · exact ⟨_, pth_lt hm hi, by rw [hv, h1], h2⟩
def memF (l : List Nd) (n : Nat) : List Nat := membersAt l n
def partF (l : List Nd) (n : Nat) : List Nat := partsAt l n
end Go.Eng

/- rank: ways, as plain lists, and their order. -/
namespace Go.Eng
open Go
structure Stp where
  layer : Int
  z : Int
  n : Int
  deriving DecidableEq, Inhabited
def Stp.cells (x : Stp) : List RV := [.int .i64 x.layer, .int .i64 x.z, .int .i64 x.n]
abbrev Stp.sv (x : Stp) : SV := .agg (x.cells.map .rv)
def stL (l : List Stp) : List (List RV) := l.map Stp.cells
theorem stL_len (l : List Stp) : (stL l).length = l.length := by simp [stL]
theorem stL_get {l : List Stp} {i : Nat} (h : i < l.length) : (stL l)[i]?.getD [] = (l[i]'h).cells := by simp [stL, h]
theorem st_len (x : Stp) : x.cells.length = 3 := rfl
theorem stL_app {ys : List Stp} {x : Stp} : rvs (stL ys) ++ [x.cells.map SV.rv] = rvs (stL (ys ++ [x])) := by simp [rvs, stL]
theorem stL_set {ys : List Stp} {k : Nat} {x : Stp} : (rvs (stL ys)).set k (x.cells.map SV.rv) = rvs (stL (ys.set k x)) := by simp [rvs, stL, List.map_set]

def cmpI (a b : Int) : Int := if a < b then -1 else if a > b then 1 else 0
theorem cmpI_neg {a b : Int} : cmpI a b < 0 ↔ a < b := by unfold cmpI; split <;> (try split) <;> omega
theorem cmpI_zero {a b : Int} : cmpI a b = 0 ↔ a = b := by unfold cmpI; split <;> (try split) <;> omega
def cmpT (a b : Stp) : Int := if cmpI a.layer b.layer ≠ 0 then cmpI a.layer b.layer else if cmpI a.z b.z ≠ 0 then cmpI a.z b.z else cmpI a.n b.n
theorem cmpT_neg {a b : Stp} : cmpT a b < 0 ↔ a.layer < b.layer ∨ (a.layer = b.layer ∧ (a.z < b.z ∨ (a.z = b.z ∧ a.n < b.n))) := by
  have h1 := cmpI_neg (a := a.layer) (b := b.layer)
  have h2 := cmpI_neg (a := a.z) (b := b.z)
  have h3 := cmpI_neg (a := a.n) (b := b.n)
  have h4 := cmpI_zero (a := a.layer) (b := b.layer)
  have h5 := cmpI_zero (a := a.z) (b := b.z)
  unfold cmpT
  split
  · omega
  · split <;> omega
theorem cmpT_zero {a b : Stp} : cmpT a b = 0 ↔ a = b := by
  have h4 := cmpI_zero (a := a.layer) (b := b.layer)
  have h5 := cmpI_zero (a := a.z) (b := b.z)
  have h6 := cmpI_zero (a := a.n) (b := b.n)
  obtain ⟨al, az, an⟩ := a
  obtain ⟨bl, bz, bn⟩ := b
  simp -implicitDefEqProofs only [Stp.mk.injEq]
  unfold cmpT
  simp only at *
  split
  · omega
  · split <;> omega
def cmpW : List Stp → List Stp → Int
  | [], [] => 0
  | [], _ :: _ => -1
  | _ :: _, [] => 1
  | a :: x, b :: y => if cmpT a b ≠ 0 then cmpT a b else cmpW x y
theorem ctx_lt {l : List Nd} {n : Int} (h : 0 < n) : ctxAt l n < n := by
  unfold ctxAt
  split
  · rcases fst_cases (formAt l) (upAt l n) with ⟨h1, _⟩ | ⟨i, hi, h1, _, _⟩
    · rw [h1]; omega
    · rw [h1]
      have hm := List.getElem_mem hi
      generalize (upAt l n)[i] = x at *
      unfold upAt at hm
      split at hm
      · rename_i hin
        obtain ⟨k, rfl, hk⟩ := inL_nat hin
        simp -implicitDefEqProofs only [Int.toNat_natCast] at hm
        by_cases hp : 0 ≤ parL l k ∧ parL l k < k
        · rw [pth_cons hp] at hm
          have := pth_le _ _ (by simpa using hm)
          omega
        · rw [pth_one hp] at hm; simp at hm
      · simp at hm
  · omega
/-- A thing, its context, the context of that, and so on, but the root. -/
def chain (l : List Nd) (n : Int) : List Int := if h : 0 < n then n :: chain l (ctxAt l n) else []
termination_by n.toNat
decreasing_by have := ctx_lt (l := l) h; omega
theorem chain_cons {l : List Nd} {n : Int} (h : 0 < n) : chain l n = n :: chain l (ctxAt l n) := by rw [chain, dif_pos h]
theorem chain_nil {l : List Nd} {n : Int} (h : ¬ 0 < n) : chain l n = [] := by rw [chain, dif_neg h]
def stepAt (l : List Nd) (n : Int) : Stp := if (styAt l n).z < 0 then ⟨1, (styAt l n).z, n⟩ else if (styAt l n).z > 0 then ⟨4, (styAt l n).z, n⟩ else ⟨3, 0, n⟩
def lastAt (l : List Nd) (n : Int) : Stp := if groupAt l n = n then ⟨0, 0, 0⟩ else ⟨2, 0, n⟩
def wayRev (l : List Nd) (n : Int) : List Stp := lastAt l n :: (chain l (groupAt l n)).map (stepAt l)
def wayAt (l : List Nd) (n : Int) : List Stp := if madeAt l n = true then (wayRev l n).reverse else []

/-- The steps down to one that forms. -/
def headW (l : List Nd) (a : Nat) : List Stp := ((chain l a).map (stepAt l)).reverse
structure Spt where
  n : Int
  kind : Int
  deriving DecidableEq, Inhabited
def Spt.cells (x : Spt) : List RV := [.int .i64 x.n, .int .i64 x.kind]
abbrev Spt.sv (x : Spt) : SV := .agg (x.cells.map .rv)
def lessAt (l : List Nd) (a b : Spt) : Bool := madeAt l a.n && madeAt l b.n && (if a.n = b.n then decide (a.kind < b.kind) else decide (cmpW (wayAt l a.n) (wayAt l b.n) < 0))
end Go.Eng

/- rank: steps and their order. -/
namespace Go.Eng
open Go
/- cmp.isNaN[int] -/
def c_cmp_isNaN_int : AC := (.seq (.reg [⟨(some 2), .mv, [(.c (.rv (.bool false)))], none⟩]) (.seq (.reg [⟨(some 3), .mv, [(.t 0)], none⟩, ⟨(some 4), .mv, [(.t 0)], none⟩, ⟨(some 5), (.ibin .neq), [(.t 3), (.t 4)], none⟩, ⟨(some 2), .mv, [(.t 5)], none⟩]) .ret))
theorem k_cmp_isNaN_int : FnOK Go.Proofs.Try.prog 110 6 c_cmp_isNaN_int [(.t 2)] := fnOK_of (by kernel_rfl)

/- cmp.isNaN[int64] -/
def c_cmp_isNaN_int64 : AC := (.seq (.reg [⟨(some 2), .mv, [(.c (.rv (.bool false)))], none⟩]) (.seq (.reg [⟨(some 3), .mv, [(.t 0)], none⟩, ⟨(some 4), .mv, [(.t 0)], none⟩, ⟨(some 5), (.ibin .neq), [(.t 3), (.t 4)], none⟩, ⟨(some 2), .mv, [(.t 5)], none⟩]) .ret))
theorem k_cmp_isNaN_int64 : FnOK Go.Proofs.Try.prog 111 6 c_cmp_isNaN_int64 [(.t 2)] := fnOK_of (by kernel_rfl)

/- cmp.Compare[int] -/
def c_cmp_Compare_int : AC := (.seq (.reg [⟨(some 4), .mv, [(.c (.rv (.int .i64 0)))], none⟩]) (.seq (.reg [⟨(some 7), .mv, [(.t 0)], none⟩, ⟨(some 8), (.call 110), [(.t 7)], none⟩, ⟨(some 5), .mv, [(.t 8)], none⟩]) (.seq (.reg [⟨(some 9), .mv, [(.t 1)], none⟩, ⟨(some 10), (.call 110), [(.t 9)], none⟩, ⟨(some 6), .mv, [(.t 10)], none⟩]) (.seq (.seq (.reg [⟨(some 11), .mv, [(.t 5)], none⟩]) (.cond (.t 11) (.seq (.seq (.reg [⟨(some 12), .mv, [(.t 6)], none⟩]) (.cond (.t 12) (.seq (.reg [⟨(some 4), .mv, [(.c (.rv (.int .i64 0)))], none⟩]) .ret) .skip)) (.seq (.reg [⟨(some 4), .mv, [(.c (.rv (.int .i64 (-1))))], none⟩]) .ret)) .skip)) (.seq (.seq (.reg [⟨(some 13), .mv, [(.t 6)], none⟩]) (.cond (.t 13) (.seq (.reg [⟨(some 4), .mv, [(.c (.rv (.int .i64 1)))], none⟩]) .ret) .skip)) (.seq (.seq (.reg [⟨(some 14), .mv, [(.t 0)], none⟩, ⟨(some 15), .mv, [(.t 1)], none⟩, ⟨(some 16), (.ibin .lss), [(.t 14), (.t 15)], none⟩]) (.cond (.t 16) (.seq (.reg [⟨(some 4), .mv, [(.c (.rv (.int .i64 (-1))))], none⟩]) .ret) .skip)) (.seq (.seq (.reg [⟨(some 17), .mv, [(.t 0)], none⟩, ⟨(some 18), .mv, [(.t 1)], none⟩, ⟨(some 19), (.ibin .gtr), [(.t 17), (.t 18)], none⟩]) (.cond (.t 19) (.seq (.reg [⟨(some 4), .mv, [(.c (.rv (.int .i64 1)))], none⟩]) .ret) .skip)) (.seq (.reg [⟨(some 4), .mv, [(.c (.rv (.int .i64 0)))], none⟩]) .ret))))))))
theorem k_cmp_Compare_int : FnOK Go.Proofs.Try.prog 101 20 c_cmp_Compare_int [(.t 4)] := fnOK_of (by kernel_rfl)

/- cmp.Compare[int64] -/
def c_cmp_Compare_int64 : AC := (.seq (.reg [⟨(some 4), .mv, [(.c (.rv (.int .i64 0)))], none⟩]) (.seq (.reg [⟨(some 7), .mv, [(.t 0)], none⟩, ⟨(some 8), (.call 111), [(.t 7)], none⟩, ⟨(some 5), .mv, [(.t 8)], none⟩]) (.seq (.reg [⟨(some 9), .mv, [(.t 1)], none⟩, ⟨(some 10), (.call 111), [(.t 9)], none⟩, ⟨(some 6), .mv, [(.t 10)], none⟩]) (.seq (.seq (.reg [⟨(some 11), .mv, [(.t 5)], none⟩]) (.cond (.t 11) (.seq (.seq (.reg [⟨(some 12), .mv, [(.t 6)], none⟩]) (.cond (.t 12) (.seq (.reg [⟨(some 4), .mv, [(.c (.rv (.int .i64 0)))], none⟩]) .ret) .skip)) (.seq (.reg [⟨(some 4), .mv, [(.c (.rv (.int .i64 (-1))))], none⟩]) .ret)) .skip)) (.seq (.seq (.reg [⟨(some 13), .mv, [(.t 6)], none⟩]) (.cond (.t 13) (.seq (.reg [⟨(some 4), .mv, [(.c (.rv (.int .i64 1)))], none⟩]) .ret) .skip)) (.seq (.seq (.reg [⟨(some 14), .mv, [(.t 0)], none⟩, ⟨(some 15), .mv, [(.t 1)], none⟩, ⟨(some 16), (.ibin .lss), [(.t 14), (.t 15)], none⟩]) (.cond (.t 16) (.seq (.reg [⟨(some 4), .mv, [(.c (.rv (.int .i64 (-1))))], none⟩]) .ret) .skip)) (.seq (.seq (.reg [⟨(some 17), .mv, [(.t 0)], none⟩, ⟨(some 18), .mv, [(.t 1)], none⟩, ⟨(some 19), (.ibin .gtr), [(.t 17), (.t 18)], none⟩]) (.cond (.t 19) (.seq (.reg [⟨(some 4), .mv, [(.c (.rv (.int .i64 1)))], none⟩]) .ret) .skip)) (.seq (.reg [⟨(some 4), .mv, [(.c (.rv (.int .i64 0)))], none⟩]) .ret))))))))
theorem k_cmp_Compare_int64 : FnOK Go.Proofs.Try.prog 102 20 c_cmp_Compare_int64 [(.t 4)] := fnOK_of (by kernel_rfl)

/- cmp.Or[int] -/
def c_cmp_Or_int : AC := (.seq (.reg [⟨(some 2), .mv, [(.c (.rv (.int .i64 0)))], none⟩]) (.seq (.reg [⟨(some 3), .mv, [(.c (.rv (.int .i64 0)))], none⟩]) (.seq (.seq (.reg [⟨(some 6), .mv, [(.t 0)], none⟩, ⟨(some 7), .len, [(.t 6)], none⟩, ⟨(some 8), .mv, [(.c (.rv (.int .i64 0)))], none⟩]) (.seq (.block 0 (.loop (.seq (.reg [⟨(some 9), (.ibin .lss), [(.t 8), (.t 7)], none⟩]) (.seq (.cond (.t 9) .skip (.exit 0)) (.seq (.seq (.block 1 (.seq (.reg [⟨(some 10), (.ixs 1), [(.t 6), (.t 8)], none⟩, ⟨(some 11), (.load 1 false), [(.t 10)], none⟩, ⟨(some 5), .mv, [(.t 11)], none⟩]) (.seq (.reg [⟨(some 12), .mv, [(.t 5)], none⟩, ⟨(some 13), .mv, [(.t 3)], none⟩, ⟨(some 14), (.ibin .neq), [(.t 12), (.t 13)], none⟩]) (.cond (.t 14) (.seq (.reg [⟨(some 15), .mv, [(.t 5)], none⟩, ⟨(some 2), .mv, [(.t 15)], none⟩]) .ret) .skip)))) .ent) (.reg [⟨(some 16), (.ibin .add), [(.t 8), (.c (.rv (.int .i64 1)))], none⟩, ⟨(some 8), .mv, [(.t 16)], none⟩])))))) .ent)) (.seq (.reg [⟨(some 17), .mv, [(.t 3)], none⟩, ⟨(some 2), .mv, [(.t 17)], none⟩]) .ret))))
theorem k_cmp_Or_int : FnOK Go.Proofs.Try.prog 100 18 c_cmp_Or_int [(.t 2)] := fnOK_of (by kernel_rfl)

/- (decoupage/rank.Step).compare -/
def c_rank_Step_compare : AC := (.seq (.reg [⟨(some 2), .box, [(.t 0)], none⟩, ⟨(some 3), .box, [(.t 1)], none⟩, ⟨(some 4), .mv, [(.c (.rv (.int .i64 0)))], none⟩]) (.seq (.regd [0, 1, 0, 4, 15, 0, 32, 0, 128, 511, 0, 1024, 0, 4096, 16383, 32767, 65535, 131071] [⟨(some 5), (.fld 0), [(.t 2)], none⟩, ⟨(some 6), (.load 1 false), [(.t 5)], none⟩, ⟨(some 7), (.fld 0), [(.t 3)], none⟩, ⟨(some 8), (.load 1 false), [(.t 7)], none⟩, ⟨(some 9), (.call 101), [(.t 6), (.t 8)], none⟩, ⟨(some 10), (.fld 1), [(.t 2)], none⟩, ⟨(some 11), (.load 1 false), [(.t 10)], none⟩, ⟨(some 12), (.fld 1), [(.t 3)], none⟩, ⟨(some 13), (.load 1 false), [(.t 12)], none⟩, ⟨(some 14), (.call 102), [(.t 11), (.t 13)], none⟩, ⟨(some 15), (.fld 2), [(.t 2)], none⟩, ⟨(some 16), (.load 1 false), [(.t 15)], none⟩, ⟨(some 17), (.fld 2), [(.t 3)], none⟩, ⟨(some 18), (.load 1 false), [(.t 17)], none⟩, ⟨(some 19), (.call 101), [(.t 16), (.t 18)], none⟩, ⟨(some 20), (.bsl 1), [(.t 9), (.t 14), (.t 19)], none⟩, ⟨(some 21), (.call 100), [(.t 20)], none⟩, ⟨(some 4), .mv, [(.t 21)], none⟩]) .ret))
theorem k_rank_Step_compare : FnOK Go.Proofs.Try.prog 87 22 c_rank_Step_compare [(.t 4)] := fnOK_of (by kernel_rfl)

/- decoupage/rank.step -/
def c_rank_step : AC := (.seq (.reg [⟨(some 4), (.alloc [(.int .i64 0), (.int .i64 0), (.int .i64 0)]), [], none⟩]) (.seq (.reg [⟨(some 6), .mv, [(.t 0)], none⟩, ⟨(some 7), .mv, [(.t 1)], none⟩, ⟨(some 8), (.call 26), [(.t 6), (.t 7)], none⟩, ⟨(some 9), (.fldv 44 1 false), [(.t 8)], none⟩, ⟨(some 5), .mv, [(.t 9)], none⟩]) (.seq (.seq (.block 0 (.seq (.reg [⟨(some 11), .mv, [(.t 5)], none⟩, ⟨(some 12), (.ibin .lss), [(.t 11), (.c (.rv (.int .i64 0)))], none⟩, ⟨(some 10), .mv, [(.t 12)], none⟩]) (.cond (.t 10) (.seq (.reg [⟨(some 13), .mv, [(.t 5)], none⟩, ⟨(some 14), .mv, [(.t 1)], none⟩, ⟨(some 15), (.build [(.int .i64 0), (.int .i64 0), (.int .i64 0)] [(0, 1), (1, 1), (2, 1)]), [(.c (.rv (.int .i64 1))), (.t 13), (.t 14)], none⟩, ⟨none, (.store 3), [(.t 4), (.t 15)], none⟩]) .ret) (.seq (.reg [⟨(some 17), .mv, [(.t 5)], none⟩, ⟨(some 18), (.ibin .gtr), [(.t 17), (.c (.rv (.int .i64 0)))], none⟩, ⟨(some 16), .mv, [(.t 18)], none⟩]) (.cond (.t 16) (.seq (.reg [⟨(some 19), .mv, [(.t 5)], none⟩, ⟨(some 20), .mv, [(.t 1)], none⟩, ⟨(some 21), (.build [(.int .i64 0), (.int .i64 0), (.int .i64 0)] [(0, 1), (1, 1), (2, 1)]), [(.c (.rv (.int .i64 4))), (.t 19), (.t 20)], none⟩, ⟨none, (.store 3), [(.t 4), (.t 21)], none⟩]) .ret) .skip))))) .ent) (.seq (.reg [⟨(some 22), .mv, [(.t 1)], none⟩, ⟨(some 23), (.build [(.int .i64 0), (.int .i64 0), (.int .i64 0)] [(0, 1), (1, 1), (2, 1)]), [(.c (.rv (.int .i64 3))), (.c (.rv (.int .i64 0))), (.t 22)], none⟩, ⟨none, (.store 3), [(.t 4), (.t 23)], none⟩]) .ret))))
theorem k_rank_step : FnOK Go.Proofs.Try.prog 82 24 c_rank_step [(.c 4 3 true)] := fnOK_of (by kernel_rfl)

/- slices.Reverse[[]decoupage/rank.Step,decoupage/rank.Step] -/
def c_slices_Reverse_Step : AC := (.seq (.reg [⟨(some 4), .mv, [(.t 0)], none⟩, ⟨(some 5), .len, [(.t 4)], none⟩, ⟨(some 6), (.ibin .sub), [(.t 5), (.c (.rv (.int .i64 1)))], none⟩, ⟨(some 2), .mv, [(.c (.rv (.int .i64 0)))], none⟩, ⟨(some 3), .mv, [(.t 6)], none⟩]) (.seq (.block 0 (.loop (.seq (.seq (.reg [⟨(some 7), .mv, [(.t 2)], none⟩, ⟨(some 8), .mv, [(.t 3)], none⟩, ⟨(some 9), (.ibin .lss), [(.t 7), (.t 8)], none⟩]) (.cond (.t 9) .skip (.exit 0))) (.seq (.seq (.block 1 (.regd [0, 0, 0, 0, 0, 0, 48, 112, 0, 0, 768, 1792, 4083, 8179, 16383, 32767] [⟨(some 14), .mv, [(.t 0)], none⟩, ⟨(some 15), .mv, [(.t 2)], none⟩, ⟨(some 16), .mv, [(.t 0)], none⟩, ⟨(some 17), .mv, [(.t 3)], none⟩, ⟨(some 18), .mv, [(.t 0)], none⟩, ⟨(some 19), .mv, [(.t 3)], none⟩, ⟨(some 20), (.ixs 3), [(.t 18), (.t 19)], none⟩, ⟨(some 21), (.load 3 true), [(.t 20)], none⟩, ⟨(some 22), .mv, [(.t 0)], none⟩, ⟨(some 23), .mv, [(.t 2)], none⟩, ⟨(some 24), (.ixs 3), [(.t 22), (.t 23)], none⟩, ⟨(some 25), (.load 3 true), [(.t 24)], none⟩, ⟨(some 26), (.ixs 3), [(.t 14), (.t 15)], none⟩, ⟨none, (.store 3), [(.t 26), (.t 21)], none⟩, ⟨(some 27), (.ixs 3), [(.t 16), (.t 17)], none⟩, ⟨none, (.store 3), [(.t 27), (.t 25)], none⟩])) .ent) (.reg [⟨(some 10), .mv, [(.t 2)], none⟩, ⟨(some 11), (.ibin .add), [(.t 10), (.c (.rv (.int .i64 1)))], none⟩, ⟨(some 12), .mv, [(.t 3)], none⟩, ⟨(some 13), (.ibin .sub), [(.t 12), (.c (.rv (.int .i64 1)))], none⟩, ⟨(some 2), .mv, [(.t 11)], none⟩, ⟨(some 3), .mv, [(.t 13)], none⟩]))))) .ent))
theorem k_slices_Reverse_Step : FnOK Go.Proofs.Try.prog 83 28 c_slices_Reverse_Step [] := fnOK_of (by kernel_rfl)

/- slices.CompareFunc[[]decoupage/rank.Step,[]decoupage/rank.Step,decoupage/rank.Step,decoupage/rank.Step] -/
def c_slices_CompareFunc_Step : AC := (.seq (.reg [⟨(some 6), .mv, [(.c (.rv (.int .i64 0)))], none⟩]) (.seq (.seq (.reg [⟨(some 11), .mv, [(.t 0)], none⟩, ⟨(some 12), .len, [(.t 11)], none⟩, ⟨(some 13), .mv, [(.c (.rv (.int .i64 0)))], none⟩]) (.seq (.block 0 (.loop (.seq (.reg [⟨(some 14), (.ibin .lss), [(.t 13), (.t 12)], none⟩]) (.seq (.cond (.t 14) .skip (.exit 0)) (.seq (.seq (.block 1 (.seq (.reg [⟨(some 15), .mv, [(.t 13)], none⟩, ⟨(some 16), (.ixs 3), [(.t 11), (.t 13)], none⟩, ⟨(some 17), (.load 3 true), [(.t 16)], none⟩, ⟨(some 8), (.alloc [(.int .i64 0), (.int .i64 0), (.int .i64 0)]), [], none⟩, ⟨(some 7), .mv, [(.t 15)], none⟩, ⟨none, (.store 3), [(.t 8), (.t 17)], none⟩]) (.seq (.seq (.reg [⟨(some 18), .mv, [(.t 7)], none⟩, ⟨(some 19), .mv, [(.t 1)], none⟩, ⟨(some 20), .len, [(.t 19)], none⟩, ⟨(some 21), (.ibin .geq), [(.t 18), (.t 20)], none⟩]) (.cond (.t 21) (.seq (.reg [⟨(some 6), .mv, [(.c (.rv (.int .i64 1)))], none⟩]) .ret) .skip)) (.seq (.reg [⟨(some 22), .mv, [(.t 1)], none⟩, ⟨(some 23), .mv, [(.t 7)], none⟩, ⟨(some 24), (.ixs 3), [(.t 22), (.t 23)], none⟩, ⟨(some 25), (.load 3 true), [(.t 24)], none⟩, ⟨(some 9), (.alloc [(.int .i64 0), (.int .i64 0), (.int .i64 0)]), [], none⟩, ⟨none, (.store 3), [(.t 9), (.t 25)], none⟩]) (.seq (.reg [⟨(some 26), .mv, [(.t 2)], none⟩, ⟨(some 27), (.load 3 true), [(.t 8)], none⟩, ⟨(some 28), (.load 3 true), [(.t 9)], none⟩, ⟨(some 29), .callv, [(.t 26), (.t 27), (.t 28)], none⟩, ⟨(some 10), .mv, [(.t 29)], none⟩]) (.seq (.reg [⟨(some 30), .mv, [(.t 10)], none⟩, ⟨(some 31), (.ibin .neq), [(.t 30), (.c (.rv (.int .i64 0)))], none⟩]) (.cond (.t 31) (.seq (.reg [⟨(some 32), .mv, [(.t 10)], none⟩, ⟨(some 6), .mv, [(.t 32)], none⟩]) .ret) .skip))))))) .ent) (.reg [⟨(some 33), (.ibin .add), [(.t 13), (.c (.rv (.int .i64 1)))], none⟩, ⟨(some 13), .mv, [(.t 33)], none⟩])))))) .ent)) (.seq (.seq (.reg [⟨(some 34), .mv, [(.t 0)], none⟩, ⟨(some 35), .len, [(.t 34)], none⟩, ⟨(some 36), .mv, [(.t 1)], none⟩, ⟨(some 37), .len, [(.t 36)], none⟩, ⟨(some 38), (.ibin .lss), [(.t 35), (.t 37)], none⟩]) (.cond (.t 38) (.seq (.reg [⟨(some 6), .mv, [(.c (.rv (.int .i64 (-1))))], none⟩]) .ret) .skip)) (.seq (.reg [⟨(some 6), .mv, [(.c (.rv (.int .i64 0)))], none⟩]) .ret))))
theorem k_slices_CompareFunc_Step : FnOK Go.Proofs.Try.prog 86 39 c_slices_CompareFunc_Step [(.t 6)] := fnOK_of (by kernel_rfl)

/- decoupage/decoupageref24.step -/
def c_decoupageref24_step : AC := (.seq (.reg [⟨(some 4), (.alloc [(.int .i64 0), (.int .i64 0), (.int .i64 0)]), [], none⟩]) (.seq (.reg [⟨(some 5), .mv, [(.c (.rv (.int .i64 0)))], none⟩]) (.seq (.seq (.reg [⟨(some 7), .mv, [(.t 0)], none⟩, ⟨(some 8), .mv, [(.t 1)], none⟩, ⟨(some 9), (.call 41), [(.t 7), (.t 8)], none⟩]) (.seq (.cond (.t 9) (.reg [⟨(some 10), .mv, [(.t 0)], none⟩, ⟨(some 11), .mv, [(.t 1)], none⟩, ⟨(some 12), (.ixs 49), [(.t 10), (.t 11)], none⟩, ⟨(some 13), (.fld 0), [(.t 12)], none⟩, ⟨(some 14), (.fld 44), [(.t 13)], none⟩, ⟨(some 15), (.load 1 false), [(.t 14)], none⟩, ⟨(some 5), .mv, [(.t 15)], none⟩]) .skip) .ent)) (.seq (.reg [⟨(some 6), .mv, [(.c (.rv (.int .i64 3)))], none⟩]) (.seq (.seq (.reg [⟨(some 16), .mv, [(.t 5)], none⟩, ⟨(some 17), (.ibin .lss), [(.t 16), (.c (.rv (.int .i64 0)))], none⟩]) (.seq (.cond (.t 17) (.reg [⟨(some 6), .mv, [(.c (.rv (.int .i64 1)))], none⟩]) .skip) .ent)) (.seq (.seq (.reg [⟨(some 18), .mv, [(.t 5)], none⟩, ⟨(some 19), (.ibin .gtr), [(.t 18), (.c (.rv (.int .i64 0)))], none⟩]) (.seq (.cond (.t 19) (.reg [⟨(some 6), .mv, [(.c (.rv (.int .i64 4)))], none⟩]) .skip) .ent)) (.seq (.reg [⟨(some 20), .mv, [(.t 6)], none⟩, ⟨(some 21), .mv, [(.t 5)], none⟩, ⟨(some 22), .mv, [(.t 1)], none⟩, ⟨(some 23), (.build [(.int .i64 0), (.int .i64 0), (.int .i64 0)] [(0, 1), (1, 1), (2, 1)]), [(.t 20), (.t 21), (.t 22)], none⟩, ⟨none, (.store 3), [(.t 4), (.t 23)], none⟩]) .ret)))))))
theorem k_decoupageref24_step : FnOK Go.Proofs.Try.prog 85 24 c_decoupageref24_step [(.c 4 3 true)] := fnOK_of (by kernel_rfl)

/- decoupage/decoupageref24.less -/
def c_decoupageref24_less : AC := (.seq (.reg [⟨(some 2), .box, [(.t 0)], none⟩, ⟨(some 3), .box, [(.t 1)], none⟩, ⟨(some 4), .mv, [(.c (.rv (.bool false)))], none⟩]) (.seq (.seq (.reg [⟨(some 5), (.fld 0), [(.t 2)], none⟩, ⟨(some 6), (.load 1 false), [(.t 5)], none⟩, ⟨(some 7), (.fld 0), [(.t 3)], none⟩, ⟨(some 8), (.load 1 false), [(.t 7)], none⟩, ⟨(some 9), (.ibin .neq), [(.t 6), (.t 8)], none⟩]) (.cond (.t 9) (.seq (.reg [⟨(some 10), (.fld 0), [(.t 2)], none⟩, ⟨(some 11), (.load 1 false), [(.t 10)], none⟩, ⟨(some 12), (.fld 0), [(.t 3)], none⟩, ⟨(some 13), (.load 1 false), [(.t 12)], none⟩, ⟨(some 14), (.ibin .lss), [(.t 11), (.t 13)], none⟩, ⟨(some 4), .mv, [(.t 14)], none⟩]) .ret) .skip)) (.seq (.seq (.reg [⟨(some 15), (.fld 1), [(.t 2)], none⟩, ⟨(some 16), (.load 1 false), [(.t 15)], none⟩, ⟨(some 17), (.fld 1), [(.t 3)], none⟩, ⟨(some 18), (.load 1 false), [(.t 17)], none⟩, ⟨(some 19), (.ibin .neq), [(.t 16), (.t 18)], none⟩]) (.cond (.t 19) (.seq (.reg [⟨(some 20), (.fld 1), [(.t 2)], none⟩, ⟨(some 21), (.load 1 false), [(.t 20)], none⟩, ⟨(some 22), (.fld 1), [(.t 3)], none⟩, ⟨(some 23), (.load 1 false), [(.t 22)], none⟩, ⟨(some 24), (.ibin .lss), [(.t 21), (.t 23)], none⟩, ⟨(some 4), .mv, [(.t 24)], none⟩]) .ret) .skip)) (.seq (.reg [⟨(some 25), (.fld 2), [(.t 2)], none⟩, ⟨(some 26), (.load 1 false), [(.t 25)], none⟩, ⟨(some 27), (.fld 2), [(.t 3)], none⟩, ⟨(some 28), (.load 1 false), [(.t 27)], none⟩, ⟨(some 29), (.ibin .lss), [(.t 26), (.t 28)], none⟩, ⟨(some 4), .mv, [(.t 29)], none⟩]) .ret))))
theorem k_decoupageref24_less : FnOK Go.Proofs.Try.prog 88 30 c_decoupageref24_less [(.t 4)] := fnOK_of (by kernel_rfl)


theorem sp_isNaN (a : Int) : CallR Go.Proofs.Try.prog 110 [.rv (.int .i64 a)] [] [] (.rv (.bool false)) := by
  refine callR_G k_cmp_isNaN_int [.rv (.int .i64 a)] _ (by simp) (by simp [BkAll, bk_agg, bkAll_map, bk_rv, bk_fn, Sty.sv, Ln.sv, Nd.sv]) (fun K hK => ?_)
  simp -implicitDefEqProofs only [c_cmp_isNaN_int, go_sem, ↓reduceIte, Nat.reduceEqDiff, Nat.reduceAdd, Nat.reduceSub, Nat.reduceMul, Nat.reduceLeDiff, Nat.reduceLT, reduceCtorEq, Int.reduceToNat]
  repeat' (first | (simp -implicitDefEqProofs only [go_sem, ↓reduceIte, Nat.reduceEqDiff, Nat.reduceAdd, Nat.reduceSub, Nat.reduceMul, Nat.reduceLeDiff, Nat.reduceLT, reduceCtorEq, Int.reduceToNat, bne_self_eq_false]) | (with_reducible refine g_noent ?_) | (refine cdS (fun hg => ?_) (fun hg => ?_) <;> try simp -implicitDefEqProofs only [hg, Bool.not_true, Bool.not_false]) | (refine gdS (fun hg => ?_) (fun hg => ?_) <;> try simp -implicitDefEqProofs only [hg, Bool.not_true, Bool.not_false]) | (refine gddS (fun hg => ?_) (fun hg => ?_) <;> try simp -implicitDefEqProofs only [hg, Bool.not_true, Bool.not_false]) | ((with_reducible apply And.intro); focus (first | trivial | omega | decide | (simp -implicitDefEqProofs only [maxLen]; omega) | (simp [maxLen, sty_len, nd_len, ndL_len, lnL_len, intsL_len, rvs_len, lensS_len]; done) | (simp [maxLen, sty_len, nd_len, ndL_len, lnL_len, intsL_len, rvs_len, lensS_len]; omega))) | fail)
  exact (hK _ _ (ret_t rfl)).2
theorem sp_isNaN64 (a : Int) : CallR Go.Proofs.Try.prog 111 [.rv (.int .i64 a)] [] [] (.rv (.bool false)) := by
  refine callR_G k_cmp_isNaN_int64 [.rv (.int .i64 a)] _ (by simp) (by simp [BkAll, bk_agg, bkAll_map, bk_rv, bk_fn, Sty.sv, Ln.sv, Nd.sv]) (fun K hK => ?_)
  simp -implicitDefEqProofs only [c_cmp_isNaN_int64, go_sem, ↓reduceIte, Nat.reduceEqDiff, Nat.reduceAdd, Nat.reduceSub, Nat.reduceMul, Nat.reduceLeDiff, Nat.reduceLT, reduceCtorEq, Int.reduceToNat]
  repeat' (first | (simp -implicitDefEqProofs only [go_sem, ↓reduceIte, Nat.reduceEqDiff, Nat.reduceAdd, Nat.reduceSub, Nat.reduceMul, Nat.reduceLeDiff, Nat.reduceLT, reduceCtorEq, Int.reduceToNat, bne_self_eq_false]) | (with_reducible refine g_noent ?_) | (refine cdS (fun hg => ?_) (fun hg => ?_) <;> try simp -implicitDefEqProofs only [hg, Bool.not_true, Bool.not_false]) | (refine gdS (fun hg => ?_) (fun hg => ?_) <;> try simp -implicitDefEqProofs only [hg, Bool.not_true, Bool.not_false]) | (refine gddS (fun hg => ?_) (fun hg => ?_) <;> try simp -implicitDefEqProofs only [hg, Bool.not_true, Bool.not_false]) | ((with_reducible apply And.intro); focus (first | trivial | omega | decide | (simp -implicitDefEqProofs only [maxLen]; omega) | (simp [maxLen, sty_len, nd_len, ndL_len, lnL_len, intsL_len, rvs_len, lensS_len]; done) | (simp [maxLen, sty_len, nd_len, ndL_len, lnL_len, intsL_len, rvs_len, lensS_len]; omega))) | fail)
  exact (hK _ _ (ret_t rfl)).2
theorem sp_CompareI (a b : Int) : CallR Go.Proofs.Try.prog 101 [.rv (.int .i64 a), .rv (.int .i64 b)] [] [] (.rv (.int .i64 (cmpI a b))) := by
  refine callR_G k_cmp_Compare_int [.rv (.int .i64 a), .rv (.int .i64 b)] _ (by simp) (by simp [BkAll, bk_agg, bkAll_map, bk_rv, bk_fn, Sty.sv, Ln.sv, Nd.sv]) (fun K hK => ?_)
  simp -implicitDefEqProofs only [c_cmp_Compare_int, go_sem, ↓reduceIte, Nat.reduceEqDiff, Nat.reduceAdd, Nat.reduceSub, Nat.reduceMul, Nat.reduceLeDiff, Nat.reduceLT, reduceCtorEq, Int.reduceToNat]
  have ha := sp_isNaN a
  have hb := sp_isNaN b
  by_cases h1 : a < b
  · have e1 : decide (a < b) = true := decide_eq_true h1
    have hcall1 := ha; have hcall2 := hb; repeat' (first | (simp -implicitDefEqProofs only [go_sem, ↓reduceIte, Nat.reduceEqDiff, Nat.reduceAdd, Nat.reduceSub, Nat.reduceMul, Nat.reduceLeDiff, Nat.reduceLT, reduceCtorEq, Int.reduceToNat, e1]) | (with_reducible refine g_noent ?_) | (with_reducible refine g_call0 hcall1 ?_) | (with_reducible refine g_calld0 hcall1 ?_) | (with_reducible refine g_call0 hcall2 ?_) | (with_reducible refine g_calld0 hcall2 ?_) | (refine cdS (fun hg => ?_) (fun hg => ?_) <;> try simp -implicitDefEqProofs only [hg, Bool.not_true, Bool.not_false]) | (refine gdS (fun hg => ?_) (fun hg => ?_) <;> try simp -implicitDefEqProofs only [hg, Bool.not_true, Bool.not_false]) | (refine gddS (fun hg => ?_) (fun hg => ?_) <;> try simp -implicitDefEqProofs only [hg, Bool.not_true, Bool.not_false]) | ((with_reducible apply And.intro); focus (first | trivial | omega | decide | (simp -implicitDefEqProofs only [maxLen]; omega) | (simp [maxLen, sty_len, nd_len, ndL_len, lnL_len, intsL_len, rvs_len, lensS_len]; done) | (simp [maxLen, sty_len, nd_len, ndL_len, lnL_len, intsL_len, rvs_len, lensS_len]; omega))) | fail)
    exact (hK _ _ (ret_t (by simp [cmpI, h1, lk]))).2
  · have e1 : decide (a < b) = false := decide_eq_false h1
    by_cases h2 : a > b
    · have e2 : decide (a > b) = true := decide_eq_true h2
      have hcall3 := ha; have hcall4 := hb; repeat' (first | (simp -implicitDefEqProofs only [go_sem, ↓reduceIte, Nat.reduceEqDiff, Nat.reduceAdd, Nat.reduceSub, Nat.reduceMul, Nat.reduceLeDiff, Nat.reduceLT, reduceCtorEq, Int.reduceToNat, e1, e2]) | (with_reducible refine g_noent ?_) | (with_reducible refine g_call0 hcall3 ?_) | (with_reducible refine g_calld0 hcall3 ?_) | (with_reducible refine g_call0 hcall4 ?_) | (with_reducible refine g_calld0 hcall4 ?_) | (refine cdS (fun hg => ?_) (fun hg => ?_) <;> try simp -implicitDefEqProofs only [hg, Bool.not_true, Bool.not_false]) | (refine gdS (fun hg => ?_) (fun hg => ?_) <;> try simp -implicitDefEqProofs only [hg, Bool.not_true, Bool.not_false]) | (refine gddS (fun hg => ?_) (fun hg => ?_) <;> try simp -implicitDefEqProofs only [hg, Bool.not_true, Bool.not_false]) | ((with_reducible apply And.intro); focus (first | trivial | omega | decide | (simp -implicitDefEqProofs only [maxLen]; omega) | (simp [maxLen, sty_len, nd_len, ndL_len, lnL_len, intsL_len, rvs_len, lensS_len]; done) | (simp [maxLen, sty_len, nd_len, ndL_len, lnL_len, intsL_len, rvs_len, lensS_len]; omega))) | fail)
      refine (hK _ _ (ret_t ?_)).2
      simp -implicitDefEqProofs only [cmpI, if_neg h1, if_pos h2]; rfl
    · have e2 : decide (a > b) = false := decide_eq_false h2
      have hcall5 := ha; have hcall6 := hb; repeat' (first | (simp -implicitDefEqProofs only [go_sem, ↓reduceIte, Nat.reduceEqDiff, Nat.reduceAdd, Nat.reduceSub, Nat.reduceMul, Nat.reduceLeDiff, Nat.reduceLT, reduceCtorEq, Int.reduceToNat, e1, e2]) | (with_reducible refine g_noent ?_) | (with_reducible refine g_call0 hcall5 ?_) | (with_reducible refine g_calld0 hcall5 ?_) | (with_reducible refine g_call0 hcall6 ?_) | (with_reducible refine g_calld0 hcall6 ?_) | (refine cdS (fun hg => ?_) (fun hg => ?_) <;> try simp -implicitDefEqProofs only [hg, Bool.not_true, Bool.not_false]) | (refine gdS (fun hg => ?_) (fun hg => ?_) <;> try simp -implicitDefEqProofs only [hg, Bool.not_true, Bool.not_false]) | (refine gddS (fun hg => ?_) (fun hg => ?_) <;> try simp -implicitDefEqProofs only [hg, Bool.not_true, Bool.not_false]) | ((with_reducible apply And.intro); focus (first | trivial | omega | decide | (simp -implicitDefEqProofs only [maxLen]; omega) | (simp [maxLen, sty_len, nd_len, ndL_len, lnL_len, intsL_len, rvs_len, lensS_len]; done) | (simp [maxLen, sty_len, nd_len, ndL_len, lnL_len, intsL_len, rvs_len, lensS_len]; omega))) | fail)
      refine (hK _ _ (ret_t ?_)).2
      simp -implicitDefEqProofs only [cmpI, if_neg h1, if_neg h2]; rfl
theorem sp_CompareI64 (a b : Int) : CallR Go.Proofs.Try.prog 102 [.rv (.int .i64 a), .rv (.int .i64 b)] [] [] (.rv (.int .i64 (cmpI a b))) := by
  refine callR_G k_cmp_Compare_int64 [.rv (.int .i64 a), .rv (.int .i64 b)] _ (by simp) (by simp [BkAll, bk_agg, bkAll_map, bk_rv, bk_fn, Sty.sv, Ln.sv, Nd.sv]) (fun K hK => ?_)
  simp -implicitDefEqProofs only [c_cmp_Compare_int64, go_sem, ↓reduceIte, Nat.reduceEqDiff, Nat.reduceAdd, Nat.reduceSub, Nat.reduceMul, Nat.reduceLeDiff, Nat.reduceLT, reduceCtorEq, Int.reduceToNat]
  have ha := sp_isNaN64 a
  have hb := sp_isNaN64 b
  by_cases h1 : a < b
  · have e1 : decide (a < b) = true := decide_eq_true h1
    have hcall7 := ha; have hcall8 := hb; repeat' (first | (simp -implicitDefEqProofs only [go_sem, ↓reduceIte, Nat.reduceEqDiff, Nat.reduceAdd, Nat.reduceSub, Nat.reduceMul, Nat.reduceLeDiff, Nat.reduceLT, reduceCtorEq, Int.reduceToNat, e1]) | (with_reducible refine g_noent ?_) | (with_reducible refine g_call0 hcall7 ?_) | (with_reducible refine g_calld0 hcall7 ?_) | (with_reducible refine g_call0 hcall8 ?_) | (with_reducible refine g_calld0 hcall8 ?_) | (refine cdS (fun hg => ?_) (fun hg => ?_) <;> try simp -implicitDefEqProofs only [hg, Bool.not_true, Bool.not_false]) | (refine gdS (fun hg => ?_) (fun hg => ?_) <;> try simp -implicitDefEqProofs only [hg, Bool.not_true, Bool.not_false]) | (refine gddS (fun hg => ?_) (fun hg => ?_) <;> try simp -implicitDefEqProofs only [hg, Bool.not_true, Bool.not_false]) | ((with_reducible apply And.intro); focus (first | trivial | omega | decide | (simp -implicitDefEqProofs only [maxLen]; omega) | (simp [maxLen, sty_len, nd_len, ndL_len, lnL_len, intsL_len, rvs_len, lensS_len]; done) | (simp [maxLen, sty_len, nd_len, ndL_len, lnL_len, intsL_len, rvs_len, lensS_len]; omega))) | fail)
    exact (hK _ _ (ret_t (by simp [cmpI, h1, lk]))).2
  · have e1 : decide (a < b) = false := decide_eq_false h1
    by_cases h2 : a > b
    · have e2 : decide (a > b) = true := decide_eq_true h2
      have hcall9 := ha; have hcall10 := hb; repeat' (first | (simp -implicitDefEqProofs only [go_sem, ↓reduceIte, Nat.reduceEqDiff, Nat.reduceAdd, Nat.reduceSub, Nat.reduceMul, Nat.reduceLeDiff, Nat.reduceLT, reduceCtorEq, Int.reduceToNat, e1, e2]) | (with_reducible refine g_noent ?_) | (with_reducible refine g_call0 hcall9 ?_) | (with_reducible refine g_calld0 hcall9 ?_) | (with_reducible refine g_call0 hcall10 ?_) | (with_reducible refine g_calld0 hcall10 ?_) | (refine cdS (fun hg => ?_) (fun hg => ?_) <;> try simp -implicitDefEqProofs only [hg, Bool.not_true, Bool.not_false]) | (refine gdS (fun hg => ?_) (fun hg => ?_) <;> try simp -implicitDefEqProofs only [hg, Bool.not_true, Bool.not_false]) | (refine gddS (fun hg => ?_) (fun hg => ?_) <;> try simp -implicitDefEqProofs only [hg, Bool.not_true, Bool.not_false]) | ((with_reducible apply And.intro); focus (first | trivial | omega | decide | (simp -implicitDefEqProofs only [maxLen]; omega) | (simp [maxLen, sty_len, nd_len, ndL_len, lnL_len, intsL_len, rvs_len, lensS_len]; done) | (simp [maxLen, sty_len, nd_len, ndL_len, lnL_len, intsL_len, rvs_len, lensS_len]; omega))) | fail)
      refine (hK _ _ (ret_t ?_)).2
      simp -implicitDefEqProofs only [cmpI, if_neg h1, if_pos h2]; rfl
    · have e2 : decide (a > b) = false := decide_eq_false h2
      have hcall11 := ha; have hcall12 := hb; repeat' (first | (simp -implicitDefEqProofs only [go_sem, ↓reduceIte, Nat.reduceEqDiff, Nat.reduceAdd, Nat.reduceSub, Nat.reduceMul, Nat.reduceLeDiff, Nat.reduceLT, reduceCtorEq, Int.reduceToNat, e1, e2]) | (with_reducible refine g_noent ?_) | (with_reducible refine g_call0 hcall11 ?_) | (with_reducible refine g_calld0 hcall11 ?_) | (with_reducible refine g_call0 hcall12 ?_) | (with_reducible refine g_calld0 hcall12 ?_) | (refine cdS (fun hg => ?_) (fun hg => ?_) <;> try simp -implicitDefEqProofs only [hg, Bool.not_true, Bool.not_false]) | (refine gdS (fun hg => ?_) (fun hg => ?_) <;> try simp -implicitDefEqProofs only [hg, Bool.not_true, Bool.not_false]) | (refine gddS (fun hg => ?_) (fun hg => ?_) <;> try simp -implicitDefEqProofs only [hg, Bool.not_true, Bool.not_false]) | ((with_reducible apply And.intro); focus (first | trivial | omega | decide | (simp -implicitDefEqProofs only [maxLen]; omega) | (simp [maxLen, sty_len, nd_len, ndL_len, lnL_len, intsL_len, rvs_len, lensS_len]; done) | (simp [maxLen, sty_len, nd_len, ndL_len, lnL_len, intsL_len, rvs_len, lensS_len]; omega))) | fail)
      refine (hK _ _ (ret_t ?_)).2
      simp -implicitDefEqProofs only [cmpI, if_neg h1, if_neg h2]; rfl

def orI : List Int → Int
  | [] => 0
  | a :: r => if a ≠ 0 then a else orI r
theorem orI_drop {xs : List Int} {i : Nat} (h : i < xs.length) : orI (xs.drop i) = if xs[i] ≠ 0 then xs[i] else orI (xs.drop (i + 1)) := by
  rw [List.drop_eq_getElem_cons h]; rfl
theorem sp_Or (xs : List Int) (hb : xs.length ≤ 8589934592) : CallR Go.Proofs.Try.prog 100 [.rv (.sl 1 (intsL xs))] [] [] (.rv (.int .i64 (orI xs))) := by
  refine callR_G k_cmp_Or_int [.rv (.sl 1 (intsL xs))] _ (by simp) (by simp [BkAll, bk_agg, bkAll_map, bk_rv, bk_fn, Sty.sv, Ln.sv, Nd.sv]) (fun K hK => ?_)
  have hl := intsL_len xs
  simp -implicitDefEqProofs only [c_cmp_Or_int, hl, go_sem, ↓reduceIte, Nat.reduceEqDiff, Nat.reduceAdd, Nat.reduceSub, Nat.reduceMul, Nat.reduceLeDiff, Nat.reduceLT, reduceCtorEq, Int.reduceToNat]
  repeat' (first | (simp -implicitDefEqProofs only [go_sem, ↓reduceIte, Nat.reduceEqDiff, Nat.reduceAdd, Nat.reduceSub, Nat.reduceMul, Nat.reduceLeDiff, Nat.reduceLT, reduceCtorEq, Int.reduceToNat, hl]) | (with_reducible refine g_noent ?_) | (refine cdS (fun hg => ?_) (fun hg => ?_) <;> try simp -implicitDefEqProofs only [hg, Bool.not_true, Bool.not_false]) | (refine gdS (fun hg => ?_) (fun hg => ?_) <;> try simp -implicitDefEqProofs only [hg, Bool.not_true, Bool.not_false]) | (refine gddS (fun hg => ?_) (fun hg => ?_) <;> try simp -implicitDefEqProofs only [hg, Bool.not_true, Bool.not_false]) | ((with_reducible apply And.intro); focus (first | trivial | omega | decide | (simp -implicitDefEqProofs only [maxLen]; omega) | (simp [maxLen, sty_len, nd_len, ndL_len, lnL_len, intsL_len, rvs_len, lensS_len]; done) | (simp [maxLen, sty_len, nd_len, ndL_len, lnL_len, intsL_len, rvs_len, lensS_len]; omega))) | fail)
  refine g_loop (ι := Nat) (fun k => [(8, .rv (.int .i64 k)), (7, .rv (.int .i64 xs.length)), (6, .rv (.sl 1 (intsL xs))), (3, .rv (.int .i64 0))]) (fun _ => []) (fun k => k ≤ xs.length ∧ orI (xs.drop k) = orI xs) (fun k => xs.length - k) 0 (by simp) (ent_env (by simp [lk])) (fun k hk K' hN hX hR => ?_)
  obtain ⟨hk1, hk2⟩ := hk
  simp -implicitDefEqProofs only [go_sem, ↓reduceIte, Nat.reduceEqDiff, Nat.reduceAdd, Nat.reduceSub, Nat.reduceMul, Nat.reduceLeDiff, Nat.reduceLT, reduceCtorEq, Int.reduceToNat]
  refine cdS (fun hg => ?_) (fun hg => ?_)
  · have hk4 : k < xs.length := by simp at hg; omega
    have hx := intsL_get hk4
    have wu := wrap_up (k := k) (by omega)
    have hd := orI_drop hk4
    by_cases h0 : xs[k] = 0
    · have e1 : (xs[k] != 0) = false := by simp [h0]
      rw [if_neg (by simp [h0])] at hd
      repeat' (first | (simp -implicitDefEqProofs only [go_sem, ↓reduceIte, Nat.reduceEqDiff, Nat.reduceAdd, Nat.reduceSub, Nat.reduceMul, Nat.reduceLeDiff, Nat.reduceLT, reduceCtorEq, Int.reduceToNat, hx, hl, wu, e1]) | (with_reducible refine g_noent ?_) | (refine cdS (fun hg => ?_) (fun hg => ?_) <;> try simp -implicitDefEqProofs only [hg, Bool.not_true, Bool.not_false]) | (refine gdS (fun hg => ?_) (fun hg => ?_) <;> try simp -implicitDefEqProofs only [hg, Bool.not_true, Bool.not_false]) | (refine gddS (fun hg => ?_) (fun hg => ?_) <;> try simp -implicitDefEqProofs only [hg, Bool.not_true, Bool.not_false]) | ((with_reducible apply And.intro); focus (first | trivial | omega | decide | (simp -implicitDefEqProofs only [maxLen]; omega) | (simp [maxLen, sty_len, nd_len, ndL_len, lnL_len, intsL_len, rvs_len, lensS_len]; done) | (simp [maxLen, sty_len, nd_len, ndL_len, lnL_len, intsL_len, rvs_len, lensS_len]; omega))) | fail)
      exact hN (k + 1) _ _ ⟨by omega, hd ▸ hk2⟩ (by omega) (ent_env (by simp [lk]))
    · have e1 : (xs[k] != 0) = true := by simp [h0]
      rw [if_pos h0] at hd
      repeat' (first | (simp -implicitDefEqProofs only [go_sem, ↓reduceIte, Nat.reduceEqDiff, Nat.reduceAdd, Nat.reduceSub, Nat.reduceMul, Nat.reduceLeDiff, Nat.reduceLT, reduceCtorEq, Int.reduceToNat, hx, hl, wu, e1]) | (with_reducible refine g_noent ?_) | (refine cdS (fun hg => ?_) (fun hg => ?_) <;> try simp -implicitDefEqProofs only [hg, Bool.not_true, Bool.not_false]) | (refine gdS (fun hg => ?_) (fun hg => ?_) <;> try simp -implicitDefEqProofs only [hg, Bool.not_true, Bool.not_false]) | (refine gddS (fun hg => ?_) (fun hg => ?_) <;> try simp -implicitDefEqProofs only [hg, Bool.not_true, Bool.not_false]) | ((with_reducible apply And.intro); focus (first | trivial | omega | decide | (simp -implicitDefEqProofs only [maxLen]; omega) | (simp [maxLen, sty_len, nd_len, ndL_len, lnL_len, intsL_len, rvs_len, lensS_len]; done) | (simp [maxLen, sty_len, nd_len, ndL_len, lnL_len, intsL_len, rvs_len, lensS_len]; omega))) | fail)
      exact hR _ _ (hK _ _ (ret_t (by rw [← hk2, hd]; simp [lk]))).2
  · have hk4 : k = xs.length := by simp at hg; omega
    subst hk4
    simp -implicitDefEqProofs only [go_sem, ↓reduceIte, Nat.reduceEqDiff, Nat.reduceAdd, Nat.reduceSub, Nat.reduceMul, Nat.reduceLeDiff, Nat.reduceLT, reduceCtorEq, Int.reduceToNat]
    refine hX _ _ _ ?_
    repeat' (first | (simp -implicitDefEqProofs only [go_sem, ↓reduceIte, Nat.reduceEqDiff, Nat.reduceAdd, Nat.reduceSub, Nat.reduceMul, Nat.reduceLeDiff, Nat.reduceLT, reduceCtorEq, Int.reduceToNat]) | (with_reducible refine g_noent ?_) | (refine cdS (fun hg => ?_) (fun hg => ?_) <;> try simp -implicitDefEqProofs only [hg, Bool.not_true, Bool.not_false]) | (refine gdS (fun hg => ?_) (fun hg => ?_) <;> try simp -implicitDefEqProofs only [hg, Bool.not_true, Bool.not_false]) | (refine gddS (fun hg => ?_) (fun hg => ?_) <;> try simp -implicitDefEqProofs only [hg, Bool.not_true, Bool.not_false]) | ((with_reducible apply And.intro); focus (first | trivial | omega | decide | (simp -implicitDefEqProofs only [maxLen]; omega) | (simp [maxLen, sty_len, nd_len, ndL_len, lnL_len, intsL_len, rvs_len, lensS_len]; done) | (simp [maxLen, sty_len, nd_len, ndL_len, lnL_len, intsL_len, rvs_len, lensS_len]; omega))) | fail)
    refine (hK _ _ (ret_t ?_)).2
    rw [List.drop_length] at hk2
    rw [← hk2]; rfl

theorem sp_Step_compare (a b : Stp) : CallR Go.Proofs.Try.prog 87 [a.sv, b.sv] [] [] (.rv (.int .i64 (cmpT a b))) := by
  have hor : orI [cmpI a.layer b.layer, cmpI a.z b.z, cmpI a.n b.n] = cmpT a b := by
    simp -implicitDefEqProofs only [orI, cmpT]
    (repeat' split) <;> simp_all
  have ho := sp_Or [cmpI a.layer b.layer, cmpI a.z b.z, cmpI a.n b.n] (by simp)
  rw [hor] at ho
  refine callR_G k_rank_Step_compare [a.sv, b.sv] _ (by simp) (by simp [BkAll, bk_agg, bkAll_map, bk_rv, bk_fn, Sty.sv, Ln.sv, Nd.sv]) (fun K hK => ?_)
  simp -implicitDefEqProofs only [c_rank_Step_compare, Stp.sv, Stp.cells, go_sem, ↓reduceIte, Nat.reduceEqDiff, Nat.reduceAdd, Nat.reduceSub, Nat.reduceMul, Nat.reduceLeDiff, Nat.reduceLT, reduceCtorEq, Int.reduceToNat]
  have c1 := sp_CompareI a.layer b.layer
  have c2 := sp_CompareI64 a.z b.z
  have c3 := sp_CompareI a.n b.n
  have hq : CallR Go.Proofs.Try.prog 100 [.row 2 0 3] [(2, .row 1 0 [[.rv (.int .i64 (cmpI a.layer b.layer))], [.rv (.int .i64 (cmpI a.z b.z))], [.rv (.int .i64 (cmpI a.n b.n))]])] [] (.rv (.int .i64 (cmpT a b))) := lend1 (id := 2) (v := 0) (n := 3) (bs := []) ho (.int _ _) (by simp [intsL]) (intsL_one _)
  have hcall13 := c1; have hcall14 := c2; have hcall15 := c3; have hcall16 := hq; repeat' (first | (simp -implicitDefEqProofs only [go_sem, ↓reduceIte, Nat.reduceEqDiff, Nat.reduceAdd, Nat.reduceSub, Nat.reduceMul, Nat.reduceLeDiff, Nat.reduceLT, reduceCtorEq, Int.reduceToNat]) | (with_reducible refine g_noent ?_) | (with_reducible refine g_call0 hcall13 ?_) | (with_reducible refine g_calld0 hcall13 ?_) | (with_reducible refine g_call0 hcall14 ?_) | (with_reducible refine g_calld0 hcall14 ?_) | (with_reducible refine g_call0 hcall15 ?_) | (with_reducible refine g_calld0 hcall15 ?_) | (refine g_call hcall16 (by simp [PreOK, hget]; done) (by simp [okU, uph]; done) ?_) | (refine g_calld hcall16 (by simp [PreOK, hget]; done) (by simp [okU, uph]; done) ?_) | (refine cdS (fun hg => ?_) (fun hg => ?_) <;> try simp -implicitDefEqProofs only [hg, Bool.not_true, Bool.not_false]) | (refine gdS (fun hg => ?_) (fun hg => ?_) <;> try simp -implicitDefEqProofs only [hg, Bool.not_true, Bool.not_false]) | (refine gddS (fun hg => ?_) (fun hg => ?_) <;> try simp -implicitDefEqProofs only [hg, Bool.not_true, Bool.not_false]) | ((with_reducible apply And.intro); focus (first | trivial | omega | decide | (simp -implicitDefEqProofs only [maxLen]; omega) | (simp [maxLen, sty_len, nd_len, ndL_len, lnL_len, intsL_len, rvs_len, lensS_len]; done) | (simp [maxLen, sty_len, nd_len, ndL_len, lnL_len, intsL_len, rvs_len, lensS_len]; omega))) | fail)
  exact (hK _ _ (ret_t rfl)).2

theorem sp_step (l : List Nd) (n : Int) : CallR Go.Proofs.Try.prog 82 [.rv (kinV l), .rv (.int .i64 n)] [] [] (stepAt l n).sv := by
  refine callR_G k_rank_step [.rv (kinV l), .rv (.int .i64 n)] _ (by simp) (by simp [BkAll, bk_agg, bkAll_map, bk_rv, bk_fn, Sty.sv, Ln.sv, Nd.sv]) (fun K hK => ?_)
  have hst := sp_Style l n
  simp -implicitDefEqProofs only [c_rank_step, go_sem, ↓reduceIte, Nat.reduceEqDiff, Nat.reduceAdd, Nat.reduceSub, Nat.reduceMul, Nat.reduceLeDiff, Nat.reduceLT, reduceCtorEq, Int.reduceToNat]
  by_cases h1 : (styAt l n).z < 0
  · have e1 : decide ((styAt l n).z < 0) = true := decide_eq_true h1
    have hcall17 := hst; repeat' (first | (simp -implicitDefEqProofs only [go_sem, ↓reduceIte, Nat.reduceEqDiff, Nat.reduceAdd, Nat.reduceSub, Nat.reduceMul, Nat.reduceLeDiff, Nat.reduceLT, reduceCtorEq, Int.reduceToNat, sty_at44, e1]) | (with_reducible refine g_noent ?_) | (with_reducible refine g_call0 hcall17 ?_) | (with_reducible refine g_calld0 hcall17 ?_) | (refine cdS (fun hg => ?_) (fun hg => ?_) <;> try simp -implicitDefEqProofs only [hg, Bool.not_true, Bool.not_false]) | (refine gdS (fun hg => ?_) (fun hg => ?_) <;> try simp -implicitDefEqProofs only [hg, Bool.not_true, Bool.not_false]) | (refine gddS (fun hg => ?_) (fun hg => ?_) <;> try simp -implicitDefEqProofs only [hg, Bool.not_true, Bool.not_false]) | ((with_reducible apply And.intro); focus (first | trivial | omega | decide | (simp -implicitDefEqProofs only [maxLen]; omega) | (simp [maxLen, sty_len, nd_len, ndL_len, lnL_len, intsL_len, rvs_len, lensS_len]; done) | (simp [maxLen, sty_len, nd_len, ndL_len, lnL_len, intsL_len, rvs_len, lensS_len]; omega))) | fail)
    refine (hK _ _ (ret_c (rs := (stepAt l n).cells) rfl ?_ rfl)).2
    simp -implicitDefEqProofs only [stepAt, if_pos h1]; rfl
  · have e1 : decide ((styAt l n).z < 0) = false := decide_eq_false h1
    by_cases h2 : (styAt l n).z > 0
    · have e2 : decide ((styAt l n).z > 0) = true := decide_eq_true h2
      have hcall18 := hst; repeat' (first | (simp -implicitDefEqProofs only [go_sem, ↓reduceIte, Nat.reduceEqDiff, Nat.reduceAdd, Nat.reduceSub, Nat.reduceMul, Nat.reduceLeDiff, Nat.reduceLT, reduceCtorEq, Int.reduceToNat, sty_at44, e1, e2]) | (with_reducible refine g_noent ?_) | (with_reducible refine g_call0 hcall18 ?_) | (with_reducible refine g_calld0 hcall18 ?_) | (refine cdS (fun hg => ?_) (fun hg => ?_) <;> try simp -implicitDefEqProofs only [hg, Bool.not_true, Bool.not_false]) | (refine gdS (fun hg => ?_) (fun hg => ?_) <;> try simp -implicitDefEqProofs only [hg, Bool.not_true, Bool.not_false]) | (refine gddS (fun hg => ?_) (fun hg => ?_) <;> try simp -implicitDefEqProofs only [hg, Bool.not_true, Bool.not_false]) | ((with_reducible apply And.intro); focus (first | trivial | omega | decide | (simp -implicitDefEqProofs only [maxLen]; omega) | (simp [maxLen, sty_len, nd_len, ndL_len, lnL_len, intsL_len, rvs_len, lensS_len]; done) | (simp [maxLen, sty_len, nd_len, ndL_len, lnL_len, intsL_len, rvs_len, lensS_len]; omega))) | fail)
      refine (hK _ _ (ret_c (rs := (stepAt l n).cells) rfl ?_ rfl)).2
      simp -implicitDefEqProofs only [stepAt, if_neg h1, if_pos h2]; rfl
    · have e2 : decide ((styAt l n).z > 0) = false := decide_eq_false h2
      have hcall19 := hst; repeat' (first | (simp -implicitDefEqProofs only [go_sem, ↓reduceIte, Nat.reduceEqDiff, Nat.reduceAdd, Nat.reduceSub, Nat.reduceMul, Nat.reduceLeDiff, Nat.reduceLT, reduceCtorEq, Int.reduceToNat, sty_at44, e1, e2]) | (with_reducible refine g_noent ?_) | (with_reducible refine g_call0 hcall19 ?_) | (with_reducible refine g_calld0 hcall19 ?_) | (refine cdS (fun hg => ?_) (fun hg => ?_) <;> try simp -implicitDefEqProofs only [hg, Bool.not_true, Bool.not_false]) | (refine gdS (fun hg => ?_) (fun hg => ?_) <;> try simp -implicitDefEqProofs only [hg, Bool.not_true, Bool.not_false]) | (refine gddS (fun hg => ?_) (fun hg => ?_) <;> try simp -implicitDefEqProofs only [hg, Bool.not_true, Bool.not_false]) | ((with_reducible apply And.intro); focus (first | trivial | omega | decide | (simp -implicitDefEqProofs only [maxLen]; omega) | (simp [maxLen, sty_len, nd_len, ndL_len, lnL_len, intsL_len, rvs_len, lensS_len]; done) | (simp [maxLen, sty_len, nd_len, ndL_len, lnL_len, intsL_len, rvs_len, lensS_len]; omega))) | fail)
      refine (hK _ _ (ret_c (rs := (stepAt l n).cells) rfl ?_ rfl)).2
      simp -implicitDefEqProofs only [stepAt, if_neg h1, if_neg h2]; rfl

theorem sty_z {s : Sty} (h : styOK s = true) (hz : s.hasZ = false) : s.z = 0 := by
  unfold styOK tailOK at h
  simp -implicitDefEqProofs only [Bool.and_eq_true, decide_eq_true_eq, Bool.or_eq_true, hz] at h
  simpa using h.2.2

theorem sp_ref24_step (l : List Nd) (ht : treeOK l = true) (n : Int) (h0 : 0 < n) (hl : leadAt l n = true) : CallR Go.Proofs.Try.prog 85 [.rv (.sl 49 (ndL l)), .rv (.int .i64 n)] [] [] (stepAt l n).sv := by
  refine callR_G k_decoupageref24_step [.rv (.sl 49 (ndL l)), .rv (.int .i64 n)] _ (by simp) (by simp [BkAll, bk_agg, bkAll_map, bk_rv, bk_fn, Sty.sv, Ln.sv, Nd.sv]) (fun K hK => ?_)
  have hlen := ndL_len l
  have hf := sp_ref23_Forms l ht n
  obtain ⟨k, rfl, hk⟩ := inL_nat (lead_in hl)
  have hx := ndL_get hk
  have hsx : styAt l k = (l[k]'hk).s := by simp [styAt, inL_of hk, hk]
  have hp : ((l[k]'hk).cells.drop 44)[0]? = some (.int .i64 (l[k]'hk).s.z) := rfl
  have hk0 : ((k : Int) == 0) = false := by simp; omega
  simp -implicitDefEqProofs only [c_decoupageref24_step, go_sem, ↓reduceIte, Nat.reduceEqDiff, Nat.reduceAdd, Nat.reduceSub, Nat.reduceMul, Nat.reduceLeDiff, Nat.reduceLT, reduceCtorEq, Int.reduceToNat]
  cases hz : formAt l k with
  | false =>
    rw [hz] at hf
    have hs0 : (l[k]'hk).s.z = 0 := by
      refine sty_z (tree_sty ht hk) ?_
      simp -implicitDefEqProofs only [formAt, hl, hk0, hsx, Bool.true_and, Bool.false_or] at hz
      exact hz
    have e1 : decide ((0 : Int) < 0) = false := rfl
    have e2 : decide ((0 : Int) > 0) = false := rfl
    have hcall20 := hf; repeat' (first | (simp -implicitDefEqProofs only [go_sem, ↓reduceIte, Nat.reduceEqDiff, Nat.reduceAdd, Nat.reduceSub, Nat.reduceMul, Nat.reduceLeDiff, Nat.reduceLT, reduceCtorEq, Int.reduceToNat, e1, e2]) | (with_reducible refine g_noent ?_) | (with_reducible refine g_call0 hcall20 ?_) | (with_reducible refine g_calld0 hcall20 ?_) | (refine cdS (fun hg => ?_) (fun hg => ?_) <;> try simp -implicitDefEqProofs only [hg, Bool.not_true, Bool.not_false]) | (refine gdS (fun hg => ?_) (fun hg => ?_) <;> try simp -implicitDefEqProofs only [hg, Bool.not_true, Bool.not_false]) | (refine gddS (fun hg => ?_) (fun hg => ?_) <;> try simp -implicitDefEqProofs only [hg, Bool.not_true, Bool.not_false]) | ((with_reducible apply And.intro); focus (first | trivial | omega | decide | (simp -implicitDefEqProofs only [maxLen]; omega) | (simp [maxLen, sty_len, nd_len, ndL_len, lnL_len, intsL_len, rvs_len, lensS_len]; done) | (simp [maxLen, sty_len, nd_len, ndL_len, lnL_len, intsL_len, rvs_len, lensS_len]; omega))) | fail)
    refine (hK _ _ (ret_c (rs := (stepAt l k).cells) rfl ?_ rfl)).2
    simp -implicitDefEqProofs only [stepAt, hsx, hs0]; rfl
  | true =>
    rw [hz] at hf
    by_cases h1 : (l[k]'hk).s.z < 0
    · have e1 : decide ((l[k]'hk).s.z < 0) = true := decide_eq_true h1
      have e2 : decide ((l[k]'hk).s.z > 0) = false := decide_eq_false (by omega)
      have hcall21 := hf; repeat' (first | (simp -implicitDefEqProofs only [go_sem, ↓reduceIte, Nat.reduceEqDiff, Nat.reduceAdd, Nat.reduceSub, Nat.reduceMul, Nat.reduceLeDiff, Nat.reduceLT, reduceCtorEq, Int.reduceToNat, hlen, hx, nd_len, hp, e1, e2]) | (with_reducible refine g_noent ?_) | (with_reducible refine g_call0 hcall21 ?_) | (with_reducible refine g_calld0 hcall21 ?_) | (refine cdS (fun hg => ?_) (fun hg => ?_) <;> try simp -implicitDefEqProofs only [hg, Bool.not_true, Bool.not_false]) | (refine gdS (fun hg => ?_) (fun hg => ?_) <;> try simp -implicitDefEqProofs only [hg, Bool.not_true, Bool.not_false]) | (refine gddS (fun hg => ?_) (fun hg => ?_) <;> try simp -implicitDefEqProofs only [hg, Bool.not_true, Bool.not_false]) | ((with_reducible apply And.intro); focus (first | trivial | omega | decide | (simp -implicitDefEqProofs only [maxLen]; omega) | (simp [maxLen, sty_len, nd_len, ndL_len, lnL_len, intsL_len, rvs_len, lensS_len]; done) | (simp [maxLen, sty_len, nd_len, ndL_len, lnL_len, intsL_len, rvs_len, lensS_len]; omega))) | fail)
      refine (hK _ _ (ret_c (rs := (stepAt l k).cells) rfl ?_ rfl)).2
      simp -implicitDefEqProofs only [stepAt, hsx, if_pos h1]; rfl
    · have e1 : decide ((l[k]'hk).s.z < 0) = false := decide_eq_false h1
      by_cases h2 : (l[k]'hk).s.z > 0
      · have e2 : decide ((l[k]'hk).s.z > 0) = true := decide_eq_true h2
        have hcall22 := hf; repeat' (first | (simp -implicitDefEqProofs only [go_sem, ↓reduceIte, Nat.reduceEqDiff, Nat.reduceAdd, Nat.reduceSub, Nat.reduceMul, Nat.reduceLeDiff, Nat.reduceLT, reduceCtorEq, Int.reduceToNat, hlen, hx, nd_len, hp, e1, e2]) | (with_reducible refine g_noent ?_) | (with_reducible refine g_call0 hcall22 ?_) | (with_reducible refine g_calld0 hcall22 ?_) | (refine cdS (fun hg => ?_) (fun hg => ?_) <;> try simp -implicitDefEqProofs only [hg, Bool.not_true, Bool.not_false]) | (refine gdS (fun hg => ?_) (fun hg => ?_) <;> try simp -implicitDefEqProofs only [hg, Bool.not_true, Bool.not_false]) | (refine gddS (fun hg => ?_) (fun hg => ?_) <;> try simp -implicitDefEqProofs only [hg, Bool.not_true, Bool.not_false]) | ((with_reducible apply And.intro); focus (first | trivial | omega | decide | (simp -implicitDefEqProofs only [maxLen]; omega) | (simp [maxLen, sty_len, nd_len, ndL_len, lnL_len, intsL_len, rvs_len, lensS_len]; done) | (simp [maxLen, sty_len, nd_len, ndL_len, lnL_len, intsL_len, rvs_len, lensS_len]; omega))) | fail)
        refine (hK _ _ (ret_c (rs := (stepAt l k).cells) rfl ?_ rfl)).2
        simp -implicitDefEqProofs only [stepAt, hsx, if_neg h1, if_pos h2]; rfl
      · have e2 : decide ((l[k]'hk).s.z > 0) = false := decide_eq_false h2
        have hcall23 := hf; repeat' (first | (simp -implicitDefEqProofs only [go_sem, ↓reduceIte, Nat.reduceEqDiff, Nat.reduceAdd, Nat.reduceSub, Nat.reduceMul, Nat.reduceLeDiff, Nat.reduceLT, reduceCtorEq, Int.reduceToNat, hlen, hx, nd_len, hp, e1, e2]) | (with_reducible refine g_noent ?_) | (with_reducible refine g_call0 hcall23 ?_) | (with_reducible refine g_calld0 hcall23 ?_) | (refine cdS (fun hg => ?_) (fun hg => ?_) <;> try simp -implicitDefEqProofs only [hg, Bool.not_true, Bool.not_false]) | (refine gdS (fun hg => ?_) (fun hg => ?_) <;> try simp -implicitDefEqProofs only [hg, Bool.not_true, Bool.not_false]) | (refine gddS (fun hg => ?_) (fun hg => ?_) <;> try simp -implicitDefEqProofs only [hg, Bool.not_true, Bool.not_false]) | ((with_reducible apply And.intro); focus (first | trivial | omega | decide | (simp -implicitDefEqProofs only [maxLen]; omega) | (simp [maxLen, sty_len, nd_len, ndL_len, lnL_len, intsL_len, rvs_len, lensS_len]; done) | (simp [maxLen, sty_len, nd_len, ndL_len, lnL_len, intsL_len, rvs_len, lensS_len]; omega))) | fail)
        refine (hK _ _ (ret_c (rs := (stepAt l k).cells) rfl ?_ rfl)).2
        have hs0 : (l[k]'hk).s.z = 0 := by omega
        simp -implicitDefEqProofs only [stepAt, hsx, hs0]; rfl

theorem sp_ref24_less (a b : Stp) : CallR Go.Proofs.Try.prog 88 [a.sv, b.sv] [] [] (.rv (.bool (decide (cmpT a b < 0)))) := by
  refine callR_G k_decoupageref24_less [a.sv, b.sv] _ (by simp) (by simp [BkAll, bk_agg, bkAll_map, bk_rv, bk_fn, Sty.sv, Ln.sv, Nd.sv]) (fun K hK => ?_)
  simp -implicitDefEqProofs only [c_decoupageref24_less, Stp.sv, Stp.cells, go_sem, ↓reduceIte, Nat.reduceEqDiff, Nat.reduceAdd, Nat.reduceSub, Nat.reduceMul, Nat.reduceLeDiff, Nat.reduceLT, reduceCtorEq, Int.reduceToNat]
  by_cases h1 : a.layer = b.layer
  · have e1 : (a.layer != b.layer) = false := by simp [h1]
    by_cases h2 : a.z = b.z
    · have e2 : (a.z != b.z) = false := by simp [h2]
      repeat' (first | (simp -implicitDefEqProofs only [go_sem, ↓reduceIte, Nat.reduceEqDiff, Nat.reduceAdd, Nat.reduceSub, Nat.reduceMul, Nat.reduceLeDiff, Nat.reduceLT, reduceCtorEq, Int.reduceToNat, e1, e2]) | (with_reducible refine g_noent ?_) | (refine cdS (fun hg => ?_) (fun hg => ?_) <;> try simp -implicitDefEqProofs only [hg, Bool.not_true, Bool.not_false]) | (refine gdS (fun hg => ?_) (fun hg => ?_) <;> try simp -implicitDefEqProofs only [hg, Bool.not_true, Bool.not_false]) | (refine gddS (fun hg => ?_) (fun hg => ?_) <;> try simp -implicitDefEqProofs only [hg, Bool.not_true, Bool.not_false]) | ((with_reducible apply And.intro); focus (first | trivial | omega | decide | (simp -implicitDefEqProofs only [maxLen]; omega) | (simp [maxLen, sty_len, nd_len, ndL_len, lnL_len, intsL_len, rvs_len, lensS_len]; done) | (simp [maxLen, sty_len, nd_len, ndL_len, lnL_len, intsL_len, rvs_len, lensS_len]; omega))) | fail)
      refine (hK _ _ (ret_t ?_)).2
      simp -implicitDefEqProofs only [cmpT_neg]; simp [h1, h2, lk]
    · have e2 : (a.z != b.z) = true := by simp [h2]
      repeat' (first | (simp -implicitDefEqProofs only [go_sem, ↓reduceIte, Nat.reduceEqDiff, Nat.reduceAdd, Nat.reduceSub, Nat.reduceMul, Nat.reduceLeDiff, Nat.reduceLT, reduceCtorEq, Int.reduceToNat, e1, e2]) | (with_reducible refine g_noent ?_) | (refine cdS (fun hg => ?_) (fun hg => ?_) <;> try simp -implicitDefEqProofs only [hg, Bool.not_true, Bool.not_false]) | (refine gdS (fun hg => ?_) (fun hg => ?_) <;> try simp -implicitDefEqProofs only [hg, Bool.not_true, Bool.not_false]) | (refine gddS (fun hg => ?_) (fun hg => ?_) <;> try simp -implicitDefEqProofs only [hg, Bool.not_true, Bool.not_false]) | ((with_reducible apply And.intro); focus (first | trivial | omega | decide | (simp -implicitDefEqProofs only [maxLen]; omega) | (simp [maxLen, sty_len, nd_len, ndL_len, lnL_len, intsL_len, rvs_len, lensS_len]; done) | (simp [maxLen, sty_len, nd_len, ndL_len, lnL_len, intsL_len, rvs_len, lensS_len]; omega))) | fail)
      refine (hK _ _ (ret_t ?_)).2
      simp -implicitDefEqProofs only [cmpT_neg]; simp [h1, h2, lk]
  · have e1 : (a.layer != b.layer) = true := by simp [h1]
    repeat' (first | (simp -implicitDefEqProofs only [go_sem, ↓reduceIte, Nat.reduceEqDiff, Nat.reduceAdd, Nat.reduceSub, Nat.reduceMul, Nat.reduceLeDiff, Nat.reduceLT, reduceCtorEq, Int.reduceToNat, e1]) | (with_reducible refine g_noent ?_) | (refine cdS (fun hg => ?_) (fun hg => ?_) <;> try simp -implicitDefEqProofs only [hg, Bool.not_true, Bool.not_false]) | (refine gdS (fun hg => ?_) (fun hg => ?_) <;> try simp -implicitDefEqProofs only [hg, Bool.not_true, Bool.not_false]) | (refine gddS (fun hg => ?_) (fun hg => ?_) <;> try simp -implicitDefEqProofs only [hg, Bool.not_true, Bool.not_false]) | ((with_reducible apply And.intro); focus (first | trivial | omega | decide | (simp -implicitDefEqProofs only [maxLen]; omega) | (simp [maxLen, sty_len, nd_len, ndL_len, lnL_len, intsL_len, rvs_len, lensS_len]; done) | (simp [maxLen, sty_len, nd_len, ndL_len, lnL_len, intsL_len, rvs_len, lensS_len]; omega))) | fail)
    refine (hK _ _ (ret_t ?_)).2
    simp -implicitDefEqProofs only [cmpT_neg]; simp [h1, lk]

theorem st_take (x : Stp) : List.take 3 x.cells = x.cells := rfl
theorem st_take2 (x : Stp) : List.take 3 (x.cells.map SV.rv) = x.cells.map SV.rv := rfl
theorem st_put (x y : Stp) : y.cells.map SV.rv ++ List.drop 3 (x.cells.map SV.rv) = y.cells.map SV.rv := rfl
theorem clS_fn0 {n f : Nat} : ClS n (.fn f []) ↔ True := ⟨fun _ => trivial, fun _ => clS_fn trivial⟩
theorem cmpW_drop {x y : List Stp} {i : Nat} (hx : i < x.length) (hy : i < y.length) : cmpW (x.drop i) (y.drop i) = if cmpT x[i] y[i] ≠ 0 then cmpT x[i] y[i] else cmpW (x.drop (i + 1)) (y.drop (i + 1)) := by
  rw [List.drop_eq_getElem_cons hx, List.drop_eq_getElem_cons hy]; rfl
theorem sp_CompareFunc (x y : List Stp) (hb : x.length ≤ 8589934592) : CallR Go.Proofs.Try.prog 86 [.rv (.sl 3 (stL x)), .rv (.sl 3 (stL y)), .fn 87 []] [] [] (.rv (.int .i64 (cmpW x y))) := by
  refine callR_G k_slices_CompareFunc_Step [.rv (.sl 3 (stL x)), .rv (.sl 3 (stL y)), .fn 87 []] _ (by simp) (by simp [BkAll, bk_agg, bkAll_map, bk_rv, bk_fn, Sty.sv, Ln.sv, Nd.sv]) (fun K hK => ?_)
  have hlx := stL_len x
  have hly := stL_len y
  simp -implicitDefEqProofs only [c_slices_CompareFunc_Step, go_sem, ↓reduceIte, Nat.reduceEqDiff, Nat.reduceAdd, Nat.reduceSub, Nat.reduceMul, Nat.reduceLeDiff, Nat.reduceLT, reduceCtorEq, Int.reduceToNat]
  repeat' (first | (simp -implicitDefEqProofs only [go_sem, ↓reduceIte, Nat.reduceEqDiff, Nat.reduceAdd, Nat.reduceSub, Nat.reduceMul, Nat.reduceLeDiff, Nat.reduceLT, reduceCtorEq, Int.reduceToNat, hlx]) | (with_reducible refine g_noent ?_) | (refine cdS (fun hg => ?_) (fun hg => ?_) <;> try simp -implicitDefEqProofs only [hg, Bool.not_true, Bool.not_false]) | (refine gdS (fun hg => ?_) (fun hg => ?_) <;> try simp -implicitDefEqProofs only [hg, Bool.not_true, Bool.not_false]) | (refine gddS (fun hg => ?_) (fun hg => ?_) <;> try simp -implicitDefEqProofs only [hg, Bool.not_true, Bool.not_false]) | ((with_reducible apply And.intro); focus (first | trivial | omega | decide | (simp -implicitDefEqProofs only [maxLen]; omega) | (simp [maxLen, sty_len, nd_len, ndL_len, lnL_len, intsL_len, rvs_len, lensS_len]; done) | (simp [maxLen, sty_len, nd_len, ndL_len, lnL_len, intsL_len, rvs_len, lensS_len]; omega))) | fail)
  refine g_loop (ι := Nat) (fun k => [(13, .rv (.int .i64 k)), (12, .rv (.int .i64 x.length)), (11, .rv (.sl 3 (stL x))), (0, .rv (.sl 3 (stL x))), (1, .rv (.sl 3 (stL y))), (2, .fn 87 [])]) (fun _ => []) (fun k => k ≤ x.length ∧ k ≤ y.length ∧ cmpW (x.drop k) (y.drop k) = cmpW x y) (fun k => x.length - k) 0 (by simp) (ent_env (by simp [lk])) (fun k hk K' hN hX hR => ?_)
  obtain ⟨hk1, hk2, hk3⟩ := hk
  simp -implicitDefEqProofs only [go_sem, ↓reduceIte, Nat.reduceEqDiff, Nat.reduceAdd, Nat.reduceSub, Nat.reduceMul, Nat.reduceLeDiff, Nat.reduceLT, reduceCtorEq, Int.reduceToNat]
  refine cdS (fun hg => ?_) (fun hg => ?_)
  · have hk4 : k < x.length := by simp at hg; omega
    have hx := stL_get hk4
    have wu := wrap_up (k := k) (by omega)
    by_cases h5 : k < y.length
    · have e1 : decide ((k : Int) ≥ (y.length : Int)) = false := decide_eq_false (by omega)
      have hy := stL_get h5
      have hd := cmpW_drop hk4 h5
      have hc := sp_Step_compare x[k] y[k]
      by_cases h0 : cmpT x[k] y[k] = 0
      · have e2 : (cmpT x[k] y[k] != 0) = false := by simp [h0]
        rw [if_neg (by simp [h0])] at hd
        have hcall24 := hc; repeat' (first | (simp -implicitDefEqProofs only [go_sem, ↓reduceIte, Nat.reduceEqDiff, Nat.reduceAdd, Nat.reduceSub, Nat.reduceMul, Nat.reduceLeDiff, Nat.reduceLT, reduceCtorEq, Int.reduceToNat, hx, hy, hlx, hly, st_len, st_take, st_take2, e1, e2, wu]) | (with_reducible refine g_noent ?_) | (with_reducible refine g_call0 hcall24 ?_) | (with_reducible refine g_calld0 hcall24 ?_) | (refine cdS (fun hg => ?_) (fun hg => ?_) <;> try simp -implicitDefEqProofs only [hg, Bool.not_true, Bool.not_false]) | (refine gdS (fun hg => ?_) (fun hg => ?_) <;> try simp -implicitDefEqProofs only [hg, Bool.not_true, Bool.not_false]) | (refine gddS (fun hg => ?_) (fun hg => ?_) <;> try simp -implicitDefEqProofs only [hg, Bool.not_true, Bool.not_false]) | ((with_reducible apply And.intro); focus (first | trivial | omega | decide | (simp -implicitDefEqProofs only [maxLen]; omega) | (simp [maxLen, sty_len, nd_len, ndL_len, lnL_len, intsL_len, rvs_len, lensS_len]; done) | (simp [maxLen, sty_len, nd_len, ndL_len, lnL_len, intsL_len, rvs_len, lensS_len]; omega) | (exact ⟨rfl, by decide⟩; done))) | fail)
        exact hN (k + 1) _ _ ⟨by omega, by omega, by rw [← hd]; exact hk3⟩ (by omega) (ent_tail (h' := []) (by simp) trivial (by simp [ClEnv, lk, clS_rv, clS_fn0]))
      · have e2 : (cmpT x[k] y[k] != 0) = true := by simp [h0]
        rw [if_pos h0] at hd
        have hcall25 := hc; repeat' (first | (simp -implicitDefEqProofs only [go_sem, ↓reduceIte, Nat.reduceEqDiff, Nat.reduceAdd, Nat.reduceSub, Nat.reduceMul, Nat.reduceLeDiff, Nat.reduceLT, reduceCtorEq, Int.reduceToNat, hx, hy, hlx, hly, st_len, st_take, st_take2, e1, e2, wu]) | (with_reducible refine g_noent ?_) | (with_reducible refine g_call0 hcall25 ?_) | (with_reducible refine g_calld0 hcall25 ?_) | (refine cdS (fun hg => ?_) (fun hg => ?_) <;> try simp -implicitDefEqProofs only [hg, Bool.not_true, Bool.not_false]) | (refine gdS (fun hg => ?_) (fun hg => ?_) <;> try simp -implicitDefEqProofs only [hg, Bool.not_true, Bool.not_false]) | (refine gddS (fun hg => ?_) (fun hg => ?_) <;> try simp -implicitDefEqProofs only [hg, Bool.not_true, Bool.not_false]) | ((with_reducible apply And.intro); focus (first | trivial | omega | decide | (simp -implicitDefEqProofs only [maxLen]; omega) | (simp [maxLen, sty_len, nd_len, ndL_len, lnL_len, intsL_len, rvs_len, lensS_len]; done) | (simp [maxLen, sty_len, nd_len, ndL_len, lnL_len, intsL_len, rvs_len, lensS_len]; omega) | (exact ⟨rfl, by decide⟩; done))) | fail)
        refine hR _ _ (hK _ _ (ret_t ?_)).2
        rw [← hk3, hd]; rfl
    · have e1 : decide ((k : Int) ≥ (y.length : Int)) = true := decide_eq_true (by omega)
      repeat' (first | (simp -implicitDefEqProofs only [go_sem, ↓reduceIte, Nat.reduceEqDiff, Nat.reduceAdd, Nat.reduceSub, Nat.reduceMul, Nat.reduceLeDiff, Nat.reduceLT, reduceCtorEq, Int.reduceToNat, hx, hlx, hly, st_len, st_take, st_take2, e1, wu]) | (with_reducible refine g_noent ?_) | (refine cdS (fun hg => ?_) (fun hg => ?_) <;> try simp -implicitDefEqProofs only [hg, Bool.not_true, Bool.not_false]) | (refine gdS (fun hg => ?_) (fun hg => ?_) <;> try simp -implicitDefEqProofs only [hg, Bool.not_true, Bool.not_false]) | (refine gddS (fun hg => ?_) (fun hg => ?_) <;> try simp -implicitDefEqProofs only [hg, Bool.not_true, Bool.not_false]) | ((with_reducible apply And.intro); focus (first | trivial | omega | decide | (simp -implicitDefEqProofs only [maxLen]; omega) | (simp [maxLen, sty_len, nd_len, ndL_len, lnL_len, intsL_len, rvs_len, lensS_len]; done) | (simp [maxLen, sty_len, nd_len, ndL_len, lnL_len, intsL_len, rvs_len, lensS_len]; omega) | (exact ⟨rfl, by decide⟩; done))) | fail)
      have hdy : y.drop k = [] := List.drop_of_length_le (by omega)
      have hv : cmpW x y = 1 := by rw [← hk3, List.drop_eq_getElem_cons hk4, hdy]; rfl
      refine hR _ _ (hK _ _ (ret_t ?_)).2
      rw [hv]; rfl
  · have hk4 : k = x.length := by simp at hg; omega
    subst hk4
    simp -implicitDefEqProofs only [go_sem, ↓reduceIte, Nat.reduceEqDiff, Nat.reduceAdd, Nat.reduceSub, Nat.reduceMul, Nat.reduceLeDiff, Nat.reduceLT, reduceCtorEq, Int.reduceToNat]
    refine hX _ _ _ ?_
    rw [List.drop_length] at hk3
    by_cases h5 : x.length < y.length
    · have e1 : decide ((x.length : Int) < (y.length : Int)) = true := decide_eq_true (by omega)
      repeat' (first | (simp -implicitDefEqProofs only [go_sem, ↓reduceIte, Nat.reduceEqDiff, Nat.reduceAdd, Nat.reduceSub, Nat.reduceMul, Nat.reduceLeDiff, Nat.reduceLT, reduceCtorEq, Int.reduceToNat, hlx, hly, e1]) | (with_reducible refine g_noent ?_) | (refine cdS (fun hg => ?_) (fun hg => ?_) <;> try simp -implicitDefEqProofs only [hg, Bool.not_true, Bool.not_false]) | (refine gdS (fun hg => ?_) (fun hg => ?_) <;> try simp -implicitDefEqProofs only [hg, Bool.not_true, Bool.not_false]) | (refine gddS (fun hg => ?_) (fun hg => ?_) <;> try simp -implicitDefEqProofs only [hg, Bool.not_true, Bool.not_false]) | ((with_reducible apply And.intro); focus (first | trivial | omega | decide | (simp -implicitDefEqProofs only [maxLen]; omega) | (simp [maxLen, sty_len, nd_len, ndL_len, lnL_len, intsL_len, rvs_len, lensS_len]; done) | (simp [maxLen, sty_len, nd_len, ndL_len, lnL_len, intsL_len, rvs_len, lensS_len]; omega))) | fail)
      have hv : cmpW x y = -1 := by rw [← hk3, List.drop_eq_getElem_cons h5]; rfl
      refine (hK _ _ (ret_t ?_)).2
      rw [hv]; rfl
    · have e1 : decide ((x.length : Int) < (y.length : Int)) = false := decide_eq_false (by omega)
      repeat' (first | (simp -implicitDefEqProofs only [go_sem, ↓reduceIte, Nat.reduceEqDiff, Nat.reduceAdd, Nat.reduceSub, Nat.reduceMul, Nat.reduceLeDiff, Nat.reduceLT, reduceCtorEq, Int.reduceToNat, hlx, hly, e1]) | (with_reducible refine g_noent ?_) | (refine cdS (fun hg => ?_) (fun hg => ?_) <;> try simp -implicitDefEqProofs only [hg, Bool.not_true, Bool.not_false]) | (refine gdS (fun hg => ?_) (fun hg => ?_) <;> try simp -implicitDefEqProofs only [hg, Bool.not_true, Bool.not_false]) | (refine gddS (fun hg => ?_) (fun hg => ?_) <;> try simp -implicitDefEqProofs only [hg, Bool.not_true, Bool.not_false]) | ((with_reducible apply And.intro); focus (first | trivial | omega | decide | (simp -implicitDefEqProofs only [maxLen]; omega) | (simp [maxLen, sty_len, nd_len, ndL_len, lnL_len, intsL_len, rvs_len, lensS_len]; done) | (simp [maxLen, sty_len, nd_len, ndL_len, lnL_len, intsL_len, rvs_len, lensS_len]; omega))) | fail)
      have hdy : y.drop x.length = [] := List.drop_of_length_le (by omega)
      have hv : cmpW x y = 0 := by rw [← hk3, hdy]; rfl
      refine (hK _ _ (ret_t ?_)).2
      rw [hv]; rfl

/-- Turned about up to the i-th from either end. -/
def RevTo (y z : List Stp) (i : Nat) : Prop := z.length = y.length ∧ 2 * i ≤ y.length + 1 ∧ ∀ t, (h : t < y.length) → z[t]? = if t < i ∨ y.length ≤ t + i then y[y.length - 1 - t]? else y[t]?
theorem rev_zero {y : List Stp} : RevTo y y 0 := ⟨rfl, by omega, fun t h => by rw [if_neg (by omega)]⟩
theorem rev_done {y z : List Stp} {i : Nat} (h : RevTo y z i) (hi : y.length ≤ 2 * i + 1) : z = y.reverse := by
  obtain ⟨h1, h2, h3⟩ := h
  apply List.ext_getElem?
  intro t
  by_cases ht : t < y.length
  · rw [h3 t ht, List.getElem?_reverse ht]
    by_cases hc : t < i ∨ y.length ≤ t + i
    · rw [if_pos hc]
    · rw [if_neg hc]; congr 1; omega
  · rw [List.getElem?_eq_none (by omega), List.getElem?_eq_none (by simp; omega)]
theorem rev_step {y z : List Stp} {i j : Nat} (h : RevTo y z i) (hj : j + i + 1 = y.length) (hij : i < j) (hi : i < z.length) (hjz : j < z.length) : RevTo y ((z.set i z[j]).set j z[i]) (i + 1) := by
  obtain ⟨h1, h2, h3⟩ := h
  refine ⟨by simp [h1], by omega, fun t ht => ?_⟩
  have hzi := h3 i (by omega)
  have hzj := h3 j (by omega)
  rw [if_neg (by omega), List.getElem?_eq_getElem hi] at hzi
  rw [if_neg (by omega), List.getElem?_eq_getElem hjz] at hzj
  by_cases e1 : t = j
  · subst e1
    rw [List.getElem?_set_self (by simp; exact hjz), if_pos (by omega), hzi]
    congr 1; omega
  · rw [List.getElem?_set_ne (by omega)]
    by_cases e2 : t = i
    · subst e2
      rw [List.getElem?_set_self hi, if_pos (by omega), hzj]
      congr 1; omega
    · rw [List.getElem?_set_ne (by omega), h3 t ht]
      by_cases hc : t < i ∨ y.length ≤ t + i
      · rw [if_pos hc, if_pos (by omega)]
      · rw [if_neg hc, if_neg (by omega)]

theorem all1 {p : Nat → HB → HB → Prop} {a a' : HB} (h0 : p 0 a a') : ∀ (j : Nat) (x y : HB), [a][j]? = some x → [a'][j]? = some y → p j x y := by
  intro j x y hx hy
  match j with
  | 0 => simp at hx hy; subst hx; subst hy; exact h0
  | j + 1 => simp at hx
theorem sp_Reverse (m v : Nat) (ys : List Stp) (hb : ys.length ≤ 8589934592) : CallR Go.Proofs.Try.prog 83 [.row m v ys.length] [(m, .row 3 v (rvs (stL ys)))] [(m, .row 3 v (rvs (stL ys.reverse)))] (.tup []) := by
  refine callR_N k_slices_Reverse_Step [m] [.row 3 v (rvs (stL ys))] [.row 3 v (rvs (stL ys))] [.row 0 v ys.length] [.row m v ys.length] _ _ (by simp) (by simp [BkAll, bk_row]) rfl (by simp [nodupL]) rfl (all1 bk_rvs) (fun K hK => ?_)
  simp -implicitDefEqProofs only [c_slices_Reverse_Step, go_sem, ↓reduceIte, Nat.reduceEqDiff, Nat.reduceAdd, Nat.reduceSub, Nat.reduceMul, Nat.reduceLeDiff, Nat.reduceLT, reduceCtorEq, Int.reduceToNat]
  have w0 : IntKind.i64.wrap ((ys.length : Int) - 1) = (ys.length : Int) - 1 - ((0 : Nat) : Int) := by rw [wrap_i64 (by omega) (by omega)]; omega
  repeat' (first | (simp -implicitDefEqProofs only [go_sem, ↓reduceIte, Nat.reduceEqDiff, Nat.reduceAdd, Nat.reduceSub, Nat.reduceMul, Nat.reduceLeDiff, Nat.reduceLT, reduceCtorEq, Int.reduceToNat, w0]) | (with_reducible refine g_noent ?_) | (refine cdS (fun hg => ?_) (fun hg => ?_) <;> try simp -implicitDefEqProofs only [hg, Bool.not_true, Bool.not_false]) | (refine gdS (fun hg => ?_) (fun hg => ?_) <;> try simp -implicitDefEqProofs only [hg, Bool.not_true, Bool.not_false]) | (refine gddS (fun hg => ?_) (fun hg => ?_) <;> try simp -implicitDefEqProofs only [hg, Bool.not_true, Bool.not_false]) | ((with_reducible apply And.intro); focus (first | trivial | omega | decide | (simp -implicitDefEqProofs only [maxLen]; omega) | (simp [maxLen, sty_len, nd_len, ndL_len, lnL_len, intsL_len, rvs_len, lensS_len]; done) | (simp [maxLen, sty_len, nd_len, ndL_len, lnL_len, intsL_len, rvs_len, lensS_len]; omega))) | fail)
  refine g_loop (ι := List Stp × Nat) (fun q => [(2, .rv (.int .i64 q.2)), (3, .rv (.int .i64 ((ys.length : Int) - 1 - q.2))), (0, .row 0 v ys.length)]) (fun q => [some (.row 3 v (rvs (stL q.1)))]) (fun q => RevTo ys q.1 q.2 ∧ q.2 ≤ ys.length) (fun q => ys.length - q.2) (ys, 0) ⟨rev_zero, by simp⟩ (ent_env (by simp [lk])) (fun q hq K' hN hX hR => ?_)
  obtain ⟨z, i⟩ := q
  obtain ⟨q1, q2⟩ := hq
  dsimp only at q1 q2 ⊢
  simp -implicitDefEqProofs only [go_sem, ↓reduceIte, Nat.reduceEqDiff, Nat.reduceAdd, Nat.reduceSub, Nat.reduceMul, Nat.reduceLeDiff, Nat.reduceLT, reduceCtorEq, Int.reduceToNat]
  refine cdS (fun hg => ?_) (fun hg => ?_)
  · have hlt : (i : Int) < (ys.length : Int) - 1 - i := by simpa using hg
    obtain ⟨j, hj⟩ : ∃ j : Nat, j + i + 1 = ys.length := ⟨ys.length - 1 - i, by omega⟩
    have hjv : (ys.length : Int) - 1 - i = ((j : Nat) : Int) := by omega
    have hzl := q1.1
    have hx := stL_get (l := z) (i := i) (by omega)
    have hy := stL_get (l := z) (i := j) (by omega)
    have hl := stL_len z
    have hl2 := stL_len (z.set i (z[j]'(by omega)))
    have hy2 := stL_get (l := z.set i (z[j]'(by omega))) (i := j) (by simp; omega)
    have hl3 : (z.set i (z[j]'(by omega))).length = z.length := by simp
    have wu := wrap_up (k := i) (by omega)
    have wj : IntKind.i64.wrap ((j : Int) - 1) = (ys.length : Int) - 1 - ((i + 1 : Nat) : Int) := by rw [wrap_i64 (by omega) (by omega)]; omega
    rw [hjv]
    repeat' (first | (simp -implicitDefEqProofs only [go_sem, ↓reduceIte, Nat.reduceEqDiff, Nat.reduceAdd, Nat.reduceSub, Nat.reduceMul, Nat.reduceLeDiff, Nat.reduceLT, reduceCtorEq, Int.reduceToNat, hx, hy, hl, hzl, st_len, st_take, st_take2, st_put, stL_set, hy2, hl2, hl3, wu, wj]) | (with_reducible refine g_noent ?_) | (refine cdS (fun hg => ?_) (fun hg => ?_) <;> try simp -implicitDefEqProofs only [hg, Bool.not_true, Bool.not_false]) | (refine gdS (fun hg => ?_) (fun hg => ?_) <;> try simp -implicitDefEqProofs only [hg, Bool.not_true, Bool.not_false]) | (refine gddS (fun hg => ?_) (fun hg => ?_) <;> try simp -implicitDefEqProofs only [hg, Bool.not_true, Bool.not_false]) | ((with_reducible apply And.intro); focus (first | trivial | omega | decide | (simp -implicitDefEqProofs only [maxLen]; omega) | (simp [maxLen, sty_len, nd_len, ndL_len, lnL_len, intsL_len, rvs_len, lensS_len]; done) | (simp [maxLen, sty_len, nd_len, ndL_len, lnL_len, intsL_len, rvs_len, lensS_len]; omega))) | fail)
    exact hN ((z.set i (z[j]'(by omega))).set j (z[i]'(by omega)), i + 1) _ _ ⟨rev_step q1 hj (by omega) (by omega) (by omega), by dsimp only; omega⟩ (by dsimp only; omega) (ent_env (by simp [lk]))
  · have hlt : ¬ (i : Int) < (ys.length : Int) - 1 - i := by simpa using hg
    simp -implicitDefEqProofs only [go_sem, ↓reduceIte, Nat.reduceEqDiff, Nat.reduceAdd, Nat.reduceSub, Nat.reduceMul, Nat.reduceLeDiff, Nat.reduceLT, reduceCtorEq, Int.reduceToNat]
    refine hX _ _ _ ?_
    repeat' (first | (simp -implicitDefEqProofs only [go_sem, ↓reduceIte, Nat.reduceEqDiff, Nat.reduceAdd, Nat.reduceSub, Nat.reduceMul, Nat.reduceLeDiff, Nat.reduceLT, reduceCtorEq, Int.reduceToNat]) | (with_reducible refine g_noent ?_) | (refine cdS (fun hg => ?_) (fun hg => ?_) <;> try simp -implicitDefEqProofs only [hg, Bool.not_true, Bool.not_false]) | (refine gdS (fun hg => ?_) (fun hg => ?_) <;> try simp -implicitDefEqProofs only [hg, Bool.not_true, Bool.not_false]) | (refine gddS (fun hg => ?_) (fun hg => ?_) <;> try simp -implicitDefEqProofs only [hg, Bool.not_true, Bool.not_false]) | ((with_reducible apply And.intro); focus (first | trivial | omega | decide | (simp -implicitDefEqProofs only [maxLen]; omega) | (simp [maxLen, sty_len, nd_len, ndL_len, lnL_len, intsL_len, rvs_len, lensS_len]; done) | (simp [maxLen, sty_len, nd_len, ndL_len, lnL_len, intsL_len, rvs_len, lensS_len]; omega))) | fail)
    have hz := rev_done q1 (by omega)
    subst hz
    refine (hK _ _ _ _ [] (ent_refl _ _) ?_).1
    simp [retM, nodupL, newL, allU, keptL, retP, resL, lk, resT, RnHo, lkp, finU, hget_zero, hget_succ, hget, rnRows_rvs, rn_tup, rn_rv, rn_row, rn_ptr, rn_ifc, rn_agg, rn_dead, RnAll, ofL, rnAll_map]
end Go.Eng

/- rank: ways. -/
namespace Go.Eng
open Go
/- decoupage/rank.Way -/
def c_rank_Way : AC := (.seq (.reg [⟨(some 4), .mv, [(.c (.rv .nilsl))], none⟩]) (.seq (.seq (.reg [⟨(some 8), .mv, [(.t 0)], none⟩, ⟨(some 9), .mv, [(.t 1)], none⟩, ⟨(some 10), (.call 30), [(.t 8), (.t 9)], none⟩, ⟨(some 11), .not, [(.t 10)], none⟩]) (.cond (.t 11) (.seq (.reg [⟨(some 4), .mv, [(.c (.rv .nilsl))], none⟩]) .ret) .skip)) (.seq (.reg [⟨(some 12), .mv, [(.t 0)], none⟩, ⟨(some 13), .mv, [(.t 1)], none⟩, ⟨(some 14), (.call 42), [(.t 12), (.t 13)], none⟩, ⟨(some 5), .mv, [(.t 14)], none⟩]) (.seq (.reg [⟨(some 15), .mv, [(.t 1)], none⟩, ⟨(some 16), (.build [(.int .i64 0), (.int .i64 0), (.int .i64 0)] [(0, 1), (1, 1), (2, 1)]), [(.c (.rv (.int .i64 2))), (.c (.rv (.int .i64 0))), (.t 15)], none⟩, ⟨(some 17), (.bsl 3), [(.t 16)], none⟩, ⟨(some 6), .mv, [(.t 17)], none⟩]) (.seq (.seq (.reg [⟨(some 18), .mv, [(.t 5)], none⟩, ⟨(some 19), .mv, [(.t 1)], none⟩, ⟨(some 20), (.ibin .eql), [(.t 18), (.t 19)], none⟩]) (.seq (.cond (.t 20) (.reg [⟨(some 21), (.build [(.int .i64 0), (.int .i64 0), (.int .i64 0)] []), [], none⟩, ⟨(some 22), (.bsl 3), [(.t 21)], none⟩, ⟨(some 6), .mv, [(.t 22)], none⟩]) .skip) .ent)) (.seq (.seq (.reg [⟨(some 23), .mv, [(.t 5)], none⟩, ⟨(some 7), .mv, [(.t 23)], none⟩]) (.seq (.block 0 (.loop (.seq (.seq (.reg [⟨(some 24), .mv, [(.t 7)], none⟩, ⟨(some 25), (.ibin .gtr), [(.t 24), (.c (.rv (.int .i64 0)))], none⟩]) (.cond (.t 25) .skip (.exit 0))) (.seq (.seq (.block 1 (.reg [⟨(some 29), .mv, [(.t 6)], none⟩, ⟨(some 30), .mv, [(.t 0)], none⟩, ⟨(some 31), .mv, [(.t 7)], none⟩, ⟨(some 32), (.call 82), [(.t 30), (.t 31)], none⟩, ⟨(some 33), (.bsl 3), [(.t 32)], none⟩, ⟨(some 34), (.app 3 24), [(.t 29), (.t 33)], none⟩, ⟨(some 6), .mv, [(.t 34)], none⟩])) .ent) (.reg [⟨(some 26), .mv, [(.t 0)], none⟩, ⟨(some 27), .mv, [(.t 7)], none⟩, ⟨(some 28), (.call 44), [(.t 26), (.t 27)], none⟩, ⟨(some 7), .mv, [(.t 28)], none⟩]))))) .ent)) (.seq (.reg [⟨(some 35), .mv, [(.t 6)], none⟩, ⟨(some 36), (.call 83), [(.t 35)], none⟩]) (.seq (.reg [⟨(some 37), .mv, [(.t 6)], none⟩, ⟨(some 4), .mv, [(.t 37)], none⟩]) .ret))))))))
theorem k_rank_Way : FnOK Go.Proofs.Try.prog 56 38 c_rank_Way [(.t 4)] := fnOK_of (by kernel_rfl)

/- decoupage/decoupageref24.contexts -/
def c_decoupageref24_contexts : AC := (.seq (.reg [⟨(some 4), .mv, [(.c (.rv .nilsl))], none⟩]) (.seq (.seq (.reg [⟨(some 5), .mv, [(.t 1)], none⟩, ⟨(some 6), (.ibin .leq), [(.t 5), (.c (.rv (.int .i64 0)))], none⟩]) (.cond (.t 6) (.seq (.reg [⟨(some 4), .mv, [(.c (.rv .nilsl))], none⟩]) .ret) .skip)) (.seq (.reg [⟨(some 7), .mv, [(.t 0)], none⟩, ⟨(some 8), .mv, [(.t 0)], none⟩, ⟨(some 9), .mv, [(.t 1)], none⟩, ⟨(some 10), (.call 45), [(.t 8), (.t 9)], none⟩, ⟨(some 11), (.call 84), [(.t 7), (.t 10)], none⟩, ⟨(some 12), .mv, [(.t 0)], none⟩, ⟨(some 13), .mv, [(.t 1)], none⟩, ⟨(some 14), (.call 85), [(.t 12), (.t 13)], none⟩, ⟨(some 15), (.bsl 3), [(.t 14)], none⟩, ⟨(some 16), (.app 3 24), [(.t 11), (.t 15)], none⟩, ⟨(some 4), .mv, [(.t 16)], none⟩]) .ret)))
theorem k_decoupageref24_contexts : FnOK Go.Proofs.Try.prog 84 17 c_decoupageref24_contexts [(.t 4)] := fnOK_of (by kernel_rfl)

/- decoupage/decoupageref24.Way -/
def c_decoupageref24_Way : AC := (.seq (.reg [⟨(some 4), .mv, [(.c (.rv .nilsl))], none⟩]) (.seq (.seq (.reg [⟨(some 7), .mv, [(.t 0)], none⟩, ⟨(some 8), .mv, [(.t 1)], none⟩, ⟨(some 9), (.call 60), [(.t 7), (.t 8)], none⟩, ⟨(some 10), .not, [(.t 9)], none⟩]) (.cond (.t 10) (.seq (.reg [⟨(some 4), .mv, [(.c (.rv .nilsl))], none⟩]) .ret) .skip)) (.seq (.reg [⟨(some 11), .mv, [(.t 0)], none⟩, ⟨(some 12), .mv, [(.t 1)], none⟩, ⟨(some 13), (.call 43), [(.t 11), (.t 12)], none⟩, ⟨(some 5), .mv, [(.t 13)], none⟩]) (.seq (.reg [⟨(some 14), .mv, [(.t 0)], none⟩, ⟨(some 15), .mv, [(.t 0)], none⟩, ⟨(some 16), .mv, [(.t 5)], none⟩, ⟨(some 17), (.call 45), [(.t 15), (.t 16)], none⟩, ⟨(some 18), (.call 84), [(.t 14), (.t 17)], none⟩, ⟨(some 6), .mv, [(.t 18)], none⟩]) (.seq (.seq (.reg [⟨(some 19), .mv, [(.t 5)], none⟩, ⟨(some 20), (.ibin .gtr), [(.t 19), (.c (.rv (.int .i64 0)))], none⟩]) (.seq (.cond (.t 20) (.reg [⟨(some 21), .mv, [(.t 6)], none⟩, ⟨(some 22), .mv, [(.t 0)], none⟩, ⟨(some 23), .mv, [(.t 5)], none⟩, ⟨(some 24), (.call 85), [(.t 22), (.t 23)], none⟩, ⟨(some 25), (.bsl 3), [(.t 24)], none⟩, ⟨(some 26), (.app 3 24), [(.t 21), (.t 25)], none⟩, ⟨(some 6), .mv, [(.t 26)], none⟩]) .skip) .ent)) (.seq (.seq (.reg [⟨(some 27), .mv, [(.t 5)], none⟩, ⟨(some 28), .mv, [(.t 1)], none⟩, ⟨(some 29), (.ibin .eql), [(.t 27), (.t 28)], none⟩]) (.cond (.t 29) (.seq (.reg [⟨(some 30), .mv, [(.t 6)], none⟩, ⟨(some 31), (.build [(.int .i64 0), (.int .i64 0), (.int .i64 0)] [(0, 1), (1, 1), (2, 1)]), [(.c (.rv (.int .i64 0))), (.c (.rv (.int .i64 0))), (.c (.rv (.int .i64 0)))], none⟩, ⟨(some 32), (.bsl 3), [(.t 31)], none⟩, ⟨(some 33), (.app 3 24), [(.t 30), (.t 32)], none⟩, ⟨(some 4), .mv, [(.t 33)], none⟩]) .ret) .skip)) (.seq (.reg [⟨(some 34), .mv, [(.t 6)], none⟩, ⟨(some 35), .mv, [(.t 1)], none⟩, ⟨(some 36), (.build [(.int .i64 0), (.int .i64 0), (.int .i64 0)] [(0, 1), (1, 1), (2, 1)]), [(.c (.rv (.int .i64 2))), (.c (.rv (.int .i64 0))), (.t 35)], none⟩, ⟨(some 37), (.bsl 3), [(.t 36)], none⟩, ⟨(some 38), (.app 3 24), [(.t 34), (.t 37)], none⟩, ⟨(some 4), .mv, [(.t 38)], none⟩]) .ret)))))))
theorem k_decoupageref24_Way : FnOK Go.Proofs.Try.prog 57 39 c_decoupageref24_Way [(.t 4)] := fnOK_of (by kernel_rfl)


theorem chain_len {l : List Nd} : ∀ m : Nat, ∀ n : Int, n.toNat ≤ m → (chain l n).length ≤ m
  | 0, n, h => by rw [chain_nil (by omega)]; simp
  | m + 1, n, h => by
    by_cases h0 : 0 < n
    · rw [chain_cons h0]
      have := ctx_lt (l := l) h0
      have := chain_len (l := l) m (ctxAt l n) (by omega)
      simp; omega
    · rw [chain_nil h0]; simp
theorem group_le {l : List Nd} {n : Nat} : groupAt l n ≤ n := by
  unfold groupAt
  split
  · rcases fst_cases (leadAt l) (pth l (n : Int).toNat) with ⟨h1, _⟩ | ⟨i, hi, h1, _, _⟩
    · rw [h1]; omega
    · rw [h1]
      simp -implicitDefEqProofs only [Int.toNat_natCast] at hi ⊢
      have := pth_le _ _ (List.getElem_mem hi)
      omega
  · omega
theorem way_len (l : List Nd) (n : Nat) : (wayAt l n).length ≤ n + 1 := by
  unfold wayAt
  split
  · have := chain_len (l := l) n (groupAt l n) (by have := group_le (l := l) (n := n); omega)
    simp [wayRev]; omega
  · simp

theorem stL_one (l : List Stp) : ∀ x ∈ stL l, ∀ r ∈ x, r.one = true := by
  intro x hx r hr
  simp -implicitDefEqProofs only [stL, List.mem_map] at hx
  obtain ⟨y, _, rfl⟩ := hx
  simp -implicitDefEqProofs only [Stp.cells, List.mem_cons, List.not_mem_nil, or_false] at hr
  rcases hr with rfl | rfl | rfl <;> rfl
theorem clH_row1 {n e v : Nat} {a b c : RV} : ClH n (.row e v [[.rv a, .rv b, .rv c]]) := clH_rvs (xs := [[a, b, c]])
theorem sp_Way (l : List Nd) (hs : Shp l) (hb : l.length ≤ 8589934591) (n : Int) : CallR Go.Proofs.Try.prog 56 [.rv (kinV l), .rv (.int .i64 n)] [] [] (.rv (.sl 3 (stL (wayAt l n)))) := by
  have hm := sp_Made l n
  cases hmm : madeAt l n with
  | false =>
    rw [hmm] at hm
    rw [show wayAt l n = [] by simp [wayAt, hmm]]
    refine callR_nil 3 ?_
    refine callR_G k_rank_Way [.rv (kinV l), .rv (.int .i64 n)] _ (by simp) (by simp [BkAll, bk_agg, bkAll_map, bk_rv, bk_fn, Sty.sv, Ln.sv, Nd.sv]) (fun K hK => ?_)
    simp -implicitDefEqProofs only [c_rank_Way, go_sem, ↓reduceIte, Nat.reduceEqDiff, Nat.reduceAdd, Nat.reduceSub, Nat.reduceMul, Nat.reduceLeDiff, Nat.reduceLT, reduceCtorEq, Int.reduceToNat]
    have hcall1 := hm; repeat' (first | (simp -implicitDefEqProofs only [go_sem, ↓reduceIte, Nat.reduceEqDiff, Nat.reduceAdd, Nat.reduceSub, Nat.reduceMul, Nat.reduceLeDiff, Nat.reduceLT, reduceCtorEq, Int.reduceToNat]) | (with_reducible refine g_noent ?_) | (with_reducible refine g_call0 hcall1 ?_) | (with_reducible refine g_calld0 hcall1 ?_) | (refine cdS (fun hg => ?_) (fun hg => ?_) <;> try simp -implicitDefEqProofs only [hg, Bool.not_true, Bool.not_false]) | (refine gdS (fun hg => ?_) (fun hg => ?_) <;> try simp -implicitDefEqProofs only [hg, Bool.not_true, Bool.not_false]) | (refine gddS (fun hg => ?_) (fun hg => ?_) <;> try simp -implicitDefEqProofs only [hg, Bool.not_true, Bool.not_false]) | ((with_reducible apply And.intro); focus (first | trivial | omega | decide | (simp -implicitDefEqProofs only [maxLen]; omega) | (simp [maxLen, sty_len, nd_len, ndL_len, lnL_len, intsL_len, rvs_len, lensS_len]; done) | (simp [maxLen, sty_len, nd_len, ndL_len, lnL_len, intsL_len, rvs_len, lensS_len]; omega))) | fail)
    exact (hK _ _ (ret_t rfl)).2
  | true =>
    rw [hmm] at hm
    obtain ⟨k, rfl, hk⟩ := inL_nat (by simp [madeAt] at hmm; exact hmm.1)
    refine callR_G k_rank_Way [.rv (kinV l), .rv (.int .i64 k)] _ (by simp) (by simp [BkAll, bk_agg, bkAll_map, bk_rv, bk_fn, Sty.sv, Ln.sv, Nd.sv]) (fun K hK => ?_)
    have hg := sp_Group l hs k
    have hwl := way_len l k
    have hv : wayAt l k = (wayRev l k).reverse := by simp [wayAt, hmm]
    simp -implicitDefEqProofs only [c_rank_Way, go_sem, ↓reduceIte, Nat.reduceEqDiff, Nat.reduceAdd, Nat.reduceSub, Nat.reduceMul, Nat.reduceLeDiff, Nat.reduceLT, reduceCtorEq, Int.reduceToNat]
    by_cases hgk : groupAt l k = k
    · have e1 : (groupAt l k == (k : Int)) = true := by simp [hgk]
      have hcall2 := hm; have hcall3 := hg; repeat' (first | (simp -implicitDefEqProofs only [go_sem, ↓reduceIte, Nat.reduceEqDiff, Nat.reduceAdd, Nat.reduceSub, Nat.reduceMul, Nat.reduceLeDiff, Nat.reduceLT, reduceCtorEq, Int.reduceToNat, e1]) | (with_reducible refine g_noent ?_) | (with_reducible refine g_call0 hcall2 ?_) | (with_reducible refine g_calld0 hcall2 ?_) | (with_reducible refine g_call0 hcall3 ?_) | (with_reducible refine g_calld0 hcall3 ?_) | (refine cdS (fun hg => ?_) (fun hg => ?_) <;> try simp -implicitDefEqProofs only [hg, Bool.not_true, Bool.not_false]) | (refine gdS (fun hg => ?_) (fun hg => ?_) <;> try simp -implicitDefEqProofs only [hg, Bool.not_true, Bool.not_false]) | (refine gddS (fun hg => ?_) (fun hg => ?_) <;> try simp -implicitDefEqProofs only [hg, Bool.not_true, Bool.not_false]) | ((with_reducible apply And.intro); focus (first | trivial | omega | decide | (simp -implicitDefEqProofs only [maxLen]; omega) | (simp [maxLen, sty_len, nd_len, ndL_len, lnL_len, intsL_len, rvs_len, lensS_len]; done) | (simp [maxLen, sty_len, nd_len, ndL_len, lnL_len, intsL_len, rvs_len, lensS_len]; omega))) | fail)
      have hla : lastAt l k = ⟨0, 0, 0⟩ := by simp -implicitDefEqProofs only [lastAt, if_pos hgk]
      refine g_loop (ι := List Stp × Int) (fun q => [(7, .rv (.int .i64 q.2)), (6, .row 1 (q.1.length - 1) q.1.length), (0, .rv (kinV l))]) (fun q => [some (.row 3 0 [[.rv (.int .i64 2), .rv (.int .i64 0), .rv (.int .i64 k)]]), some (.row 3 (q.1.length - 1) (rvs (stL q.1)))]) (fun q => q.1 ++ (chain l q.2).map (stepAt l) = wayRev l k ∧ 0 < q.1.length) (fun q => q.2.toNat) ([lastAt l k], groupAt l k) ⟨rfl, by simp⟩ (by rw [hla]; exact ent_env (by simp [lk])) (fun q hq K' hN hX hR => ?_)
      obtain ⟨xs, p⟩ := q
      obtain ⟨q1, q2⟩ := hq
      dsimp only at q1 q2 ⊢
      simp -implicitDefEqProofs only [go_sem, ↓reduceIte, Nat.reduceEqDiff, Nat.reduceAdd, Nat.reduceSub, Nat.reduceMul, Nat.reduceLeDiff, Nat.reduceLT, reduceCtorEq, Int.reduceToNat]
      refine cdS (fun hg => ?_) (fun hg => ?_)
      · have h0 : 0 < p := by simpa using hg
        have hst := sp_step l p
        have hcx := sp_Context l hs p
        have htl := stL_len xs
        have htk : (stL xs).take xs.length = stL xs := List.take_of_length_le (by omega)
        rw [chain_cons h0] at q1
        have hve : xs.length - 1 + 1 = xs.length := by omega
        have hxl : xs.length + 1 ≤ 8589934592 := by
          have h1 : (wayAt l k).length = (wayRev l k).length := by rw [hv]; simp
          have h2 := congrArg List.length q1
          simp at h2
          omega
        have hcall4 := hst; have hcall5 := hcx; repeat' (first | (simp -implicitDefEqProofs only [go_sem, ↓reduceIte, Nat.reduceEqDiff, Nat.reduceAdd, Nat.reduceSub, Nat.reduceMul, Nat.reduceLeDiff, Nat.reduceLT, reduceCtorEq, Int.reduceToNat, htl, htk, stL_app, st_len, st_take, st_take2, hve]) | (with_reducible refine g_noent ?_) | (with_reducible refine g_call0 hcall4 ?_) | (with_reducible refine g_calld0 hcall4 ?_) | (with_reducible refine g_call0 hcall5 ?_) | (with_reducible refine g_calld0 hcall5 ?_) | (refine cdS (fun hg => ?_) (fun hg => ?_) <;> try simp -implicitDefEqProofs only [hg, Bool.not_true, Bool.not_false]) | (refine gdS (fun hg => ?_) (fun hg => ?_) <;> try simp -implicitDefEqProofs only [hg, Bool.not_true, Bool.not_false]) | (refine gddS (fun hg => ?_) (fun hg => ?_) <;> try simp -implicitDefEqProofs only [hg, Bool.not_true, Bool.not_false]) | ((with_reducible apply And.intro); focus (first | trivial | omega | decide | (simp -implicitDefEqProofs only [maxLen]; omega) | (simp [maxLen, sty_len, nd_len, ndL_len, lnL_len, intsL_len, rvs_len, lensS_len]; done) | (simp [maxLen, sty_len, nd_len, ndL_len, lnL_len, intsL_len, rvs_len, lensS_len]; omega))) | fail)
        have hcl := ctx_lt (l := l) h0
        refine hN (xs ++ [stepAt l p], ctxAt l p) _ _ ⟨by simp [← q1], by simp⟩ (by dsimp only; omega) ?_
        dsimp only
        rw [List.length_append, List.length_singleton, Nat.add_sub_cancel]
        exact ent_tail (h' := [some (.row 3 0 [[.rv (.int .i64 2), .rv (.int .i64 0), .rv (.int .i64 k)]]), some (.row 3 xs.length (rvs (stL (xs ++ [stepAt l p]))))]) (by simp) ⟨clH_row1, clH_rvs, trivial⟩ (by simp [ClEnv, lk, clS_rv, clS_row])
      · have h0 : ¬ 0 < p := by simpa using hg
        simp -implicitDefEqProofs only [go_sem, ↓reduceIte, Nat.reduceEqDiff, Nat.reduceAdd, Nat.reduceSub, Nat.reduceMul, Nat.reduceLeDiff, Nat.reduceLT, reduceCtorEq, Int.reduceToNat]
        refine hX _ _ _ ?_
        rw [chain_nil h0] at q1
        simp -implicitDefEqProofs only [List.map_nil, List.append_nil] at q1
        subst q1
        have hrl : (wayRev l k).length ≤ 8589934592 := by
          have : (wayAt l k).length = (wayRev l k).length := by rw [hv]; simp
          omega
        have hrv := sp_Reverse 1 ((wayRev l k).length - 1) (wayRev l k) hrl
        have hcall6 := hrv; repeat' (first | (simp -implicitDefEqProofs only [go_sem, ↓reduceIte, Nat.reduceEqDiff, Nat.reduceAdd, Nat.reduceSub, Nat.reduceMul, Nat.reduceLeDiff, Nat.reduceLT, reduceCtorEq, Int.reduceToNat]) | (with_reducible refine g_noent ?_) | (refine g_call hcall6 (by simp [PreOK, hget]; done) (by simp [okU, uph]; done) ?_) | (refine g_calld hcall6 (by simp [PreOK, hget]; done) (by simp [okU, uph]; done) ?_) | (refine cdS (fun hg => ?_) (fun hg => ?_) <;> try simp -implicitDefEqProofs only [hg, Bool.not_true, Bool.not_false]) | (refine gdS (fun hg => ?_) (fun hg => ?_) <;> try simp -implicitDefEqProofs only [hg, Bool.not_true, Bool.not_false]) | (refine gddS (fun hg => ?_) (fun hg => ?_) <;> try simp -implicitDefEqProofs only [hg, Bool.not_true, Bool.not_false]) | ((with_reducible apply And.intro); focus (first | trivial | omega | decide | (simp -implicitDefEqProofs only [maxLen]; omega) | (simp [maxLen, sty_len, nd_len, ndL_len, lnL_len, intsL_len, rvs_len, lensS_len]; done) | (simp [maxLen, sty_len, nd_len, ndL_len, lnL_len, intsL_len, rvs_len, lensS_len]; omega))) | fail)
        rw [hv] at hK
        exact (hK _ _ ⟨trivial, rn_frz (xs := stL (wayRev l k).reverse) rfl rfl (by simp [stL]) (stL_one _)⟩).2
    · have e1 : (groupAt l k == (k : Int)) = false := by simp [hgk]
      have hcall7 := hm; have hcall8 := hg; repeat' (first | (simp -implicitDefEqProofs only [go_sem, ↓reduceIte, Nat.reduceEqDiff, Nat.reduceAdd, Nat.reduceSub, Nat.reduceMul, Nat.reduceLeDiff, Nat.reduceLT, reduceCtorEq, Int.reduceToNat, e1]) | (with_reducible refine g_noent ?_) | (with_reducible refine g_call0 hcall7 ?_) | (with_reducible refine g_calld0 hcall7 ?_) | (with_reducible refine g_call0 hcall8 ?_) | (with_reducible refine g_calld0 hcall8 ?_) | (refine cdS (fun hg => ?_) (fun hg => ?_) <;> try simp -implicitDefEqProofs only [hg, Bool.not_true, Bool.not_false]) | (refine gdS (fun hg => ?_) (fun hg => ?_) <;> try simp -implicitDefEqProofs only [hg, Bool.not_true, Bool.not_false]) | (refine gddS (fun hg => ?_) (fun hg => ?_) <;> try simp -implicitDefEqProofs only [hg, Bool.not_true, Bool.not_false]) | ((with_reducible apply And.intro); focus (first | trivial | omega | decide | (simp -implicitDefEqProofs only [maxLen]; omega) | (simp [maxLen, sty_len, nd_len, ndL_len, lnL_len, intsL_len, rvs_len, lensS_len]; done) | (simp [maxLen, sty_len, nd_len, ndL_len, lnL_len, intsL_len, rvs_len, lensS_len]; omega))) | fail)
      have hla : lastAt l k = ⟨2, 0, k⟩ := by simp -implicitDefEqProofs only [lastAt, if_neg hgk]
      refine g_loop (ι := List Stp × Int) (fun q => [(7, .rv (.int .i64 q.2)), (6, .row 0 (q.1.length - 1) q.1.length), (0, .rv (kinV l))]) (fun q => [some (.row 3 (q.1.length - 1) (rvs (stL q.1)))]) (fun q => q.1 ++ (chain l q.2).map (stepAt l) = wayRev l k ∧ 0 < q.1.length) (fun q => q.2.toNat) ([lastAt l k], groupAt l k) ⟨rfl, by simp⟩ (by rw [hla]; exact ent_env (by simp [lk])) (fun q hq K' hN hX hR => ?_)
      obtain ⟨xs, p⟩ := q
      obtain ⟨q1, q2⟩ := hq
      dsimp only at q1 q2 ⊢
      simp -implicitDefEqProofs only [go_sem, ↓reduceIte, Nat.reduceEqDiff, Nat.reduceAdd, Nat.reduceSub, Nat.reduceMul, Nat.reduceLeDiff, Nat.reduceLT, reduceCtorEq, Int.reduceToNat]
      refine cdS (fun hg => ?_) (fun hg => ?_)
      · have h0 : 0 < p := by simpa using hg
        have hst := sp_step l p
        have hcx := sp_Context l hs p
        have htl := stL_len xs
        have htk : (stL xs).take xs.length = stL xs := List.take_of_length_le (by omega)
        rw [chain_cons h0] at q1
        have hve : xs.length - 1 + 1 = xs.length := by omega
        have hxl : xs.length + 1 ≤ 8589934592 := by
          have h1 : (wayAt l k).length = (wayRev l k).length := by rw [hv]; simp
          have h2 := congrArg List.length q1
          simp at h2
          omega
        have hcall9 := hst; have hcall10 := hcx; repeat' (first | (simp -implicitDefEqProofs only [go_sem, ↓reduceIte, Nat.reduceEqDiff, Nat.reduceAdd, Nat.reduceSub, Nat.reduceMul, Nat.reduceLeDiff, Nat.reduceLT, reduceCtorEq, Int.reduceToNat, htl, htk, stL_app, st_len, st_take, st_take2, hve]) | (with_reducible refine g_noent ?_) | (with_reducible refine g_call0 hcall9 ?_) | (with_reducible refine g_calld0 hcall9 ?_) | (with_reducible refine g_call0 hcall10 ?_) | (with_reducible refine g_calld0 hcall10 ?_) | (refine cdS (fun hg => ?_) (fun hg => ?_) <;> try simp -implicitDefEqProofs only [hg, Bool.not_true, Bool.not_false]) | (refine gdS (fun hg => ?_) (fun hg => ?_) <;> try simp -implicitDefEqProofs only [hg, Bool.not_true, Bool.not_false]) | (refine gddS (fun hg => ?_) (fun hg => ?_) <;> try simp -implicitDefEqProofs only [hg, Bool.not_true, Bool.not_false]) | ((with_reducible apply And.intro); focus (first | trivial | omega | decide | (simp -implicitDefEqProofs only [maxLen]; omega) | (simp [maxLen, sty_len, nd_len, ndL_len, lnL_len, intsL_len, rvs_len, lensS_len]; done) | (simp [maxLen, sty_len, nd_len, ndL_len, lnL_len, intsL_len, rvs_len, lensS_len]; omega))) | fail)
        have hcl := ctx_lt (l := l) h0
        refine hN (xs ++ [stepAt l p], ctxAt l p) _ _ ⟨by simp [← q1], by simp⟩ (by dsimp only; omega) ?_
        dsimp only
        rw [List.length_append, List.length_singleton, Nat.add_sub_cancel]
        exact ent_tail (h' := [some (.row 3 xs.length (rvs (stL (xs ++ [stepAt l p]))))]) (by simp) ⟨clH_rvs, trivial⟩ (by simp [ClEnv, lk, clS_rv, clS_row])
      · have h0 : ¬ 0 < p := by simpa using hg
        simp -implicitDefEqProofs only [go_sem, ↓reduceIte, Nat.reduceEqDiff, Nat.reduceAdd, Nat.reduceSub, Nat.reduceMul, Nat.reduceLeDiff, Nat.reduceLT, reduceCtorEq, Int.reduceToNat]
        refine hX _ _ _ ?_
        rw [chain_nil h0] at q1
        simp -implicitDefEqProofs only [List.map_nil, List.append_nil] at q1
        subst q1
        have hrl : (wayRev l k).length ≤ 8589934592 := by
          have : (wayAt l k).length = (wayRev l k).length := by rw [hv]; simp
          omega
        have hrv := sp_Reverse 0 ((wayRev l k).length - 1) (wayRev l k) hrl
        have hcall11 := hrv; repeat' (first | (simp -implicitDefEqProofs only [go_sem, ↓reduceIte, Nat.reduceEqDiff, Nat.reduceAdd, Nat.reduceSub, Nat.reduceMul, Nat.reduceLeDiff, Nat.reduceLT, reduceCtorEq, Int.reduceToNat]) | (with_reducible refine g_noent ?_) | (refine g_call hcall11 (by simp [PreOK, hget]; done) (by simp [okU, uph]; done) ?_) | (refine g_calld hcall11 (by simp [PreOK, hget]; done) (by simp [okU, uph]; done) ?_) | (refine cdS (fun hg => ?_) (fun hg => ?_) <;> try simp -implicitDefEqProofs only [hg, Bool.not_true, Bool.not_false]) | (refine gdS (fun hg => ?_) (fun hg => ?_) <;> try simp -implicitDefEqProofs only [hg, Bool.not_true, Bool.not_false]) | (refine gddS (fun hg => ?_) (fun hg => ?_) <;> try simp -implicitDefEqProofs only [hg, Bool.not_true, Bool.not_false]) | ((with_reducible apply And.intro); focus (first | trivial | omega | decide | (simp -implicitDefEqProofs only [maxLen]; omega) | (simp [maxLen, sty_len, nd_len, ndL_len, lnL_len, intsL_len, rvs_len, lensS_len]; done) | (simp [maxLen, sty_len, nd_len, ndL_len, lnL_len, intsL_len, rvs_len, lensS_len]; omega))) | fail)
        rw [hv] at hK
        exact (hK _ _ ⟨trivial, rn_frz (xs := stL (wayRev l k).reverse) rfl rfl (by simp [stL]) (stL_one _)⟩).2

/-- The steps down to a thing's context and it. -/
def headI (l : List Nd) (n : Int) : List Stp := ((chain l n).map (stepAt l)).reverse
theorem headI_len {l : List Nd} {n : Int} : (headI l n).length ≤ n.toNat := by
  have := chain_len (l := l) n.toNat n (Nat.le_refl _); simp [headI]; exact this
theorem ctx_form {l : List Nd} {n : Int} : ctxAt l n ≤ 0 ∨ leadAt l (ctxAt l n) = true := by
  unfold ctxAt
  split
  · rcases fst_cases (formAt l) (upAt l n) with ⟨h1, _⟩ | ⟨i, hi, h1, h2, _⟩
    · left; rw [h1]; omega
    · right; rw [h1]; exact form_lead h2
  · left; omega
theorem head_cons {l : List Nd} {n : Int} (h : 0 < n) : headI l n = headI l (ctxAt l n) ++ [stepAt l n] := by
  simp [headI, chain_cons h]

theorem stL_app3 {ys : List Stp} {a b c : Int} : rvs (stL ys) ++ [[.rv (.int .i64 a), .rv (.int .i64 b), .rv (.int .i64 c)]] = rvs (stL (ys ++ [⟨a, b, c⟩])) := by simp [rvs, stL, Stp.cells]
theorem sp_contexts (l : List Nd) (ht : treeOK l = true) (hb : l.length ≤ 8589934591) : ∀ (b : Nat) (m : Nat) (n : Int), n.toNat ≤ b → (n ≤ 0 ∨ leadAt l n = true) → CallR Go.Proofs.Try.prog 84 [.rv (.sl 49 (ndL l)), .rv (.int .i64 n)] [] [(m, .row 3 (headI l n).length (rvs (stL (headI l n))))] (.row m (headI l n).length (headI l n).length)
  | b, m, n, hn, hl => by
    by_cases h0 : n ≤ 0
    · refine callR_M k_decoupageref24_contexts [] [] [] [.rv (.sl 49 (ndL l)), .rv (.int .i64 n)] [.rv (.sl 49 (ndL l)), .rv (.int .i64 n)] _ _ (by simp) (by simp [BkAll, bk_rv]) rfl (by simp [nodupL]) (by simp [BkHs]) (fun K hK => ?_)
      simp -implicitDefEqProofs only [c_decoupageref24_contexts, go_sem, ↓reduceIte, Nat.reduceEqDiff, Nat.reduceAdd, Nat.reduceSub, Nat.reduceMul, Nat.reduceLeDiff, Nat.reduceLT, reduceCtorEq, Int.reduceToNat]
      have e1 : decide (n ≤ 0) = true := decide_eq_true h0
      repeat' (first | (simp -implicitDefEqProofs only [go_sem, ↓reduceIte, Nat.reduceEqDiff, Nat.reduceAdd, Nat.reduceSub, Nat.reduceMul, Nat.reduceLeDiff, Nat.reduceLT, reduceCtorEq, Int.reduceToNat, e1]) | (with_reducible refine g_noent ?_) | (refine cdS (fun hg => ?_) (fun hg => ?_) <;> try simp -implicitDefEqProofs only [hg, Bool.not_true, Bool.not_false]) | (refine gdS (fun hg => ?_) (fun hg => ?_) <;> try simp -implicitDefEqProofs only [hg, Bool.not_true, Bool.not_false]) | (refine gddS (fun hg => ?_) (fun hg => ?_) <;> try simp -implicitDefEqProofs only [hg, Bool.not_true, Bool.not_false]) | ((with_reducible apply And.intro); focus (first | trivial | omega | decide | (simp -implicitDefEqProofs only [maxLen]; omega) | (simp [maxLen, sty_len, nd_len, ndL_len, lnL_len, intsL_len, rvs_len, lensS_len]; done) | (simp [maxLen, sty_len, nd_len, ndL_len, lnL_len, intsL_len, rvs_len, lensS_len]; omega))) | fail)
      refine (hK _ _ _ _ [some m] (ent_ghostv 4 3 0 rfl) ?_).2
      rw [show headI l n = [] by simp [headI, chain_nil (show ¬ 0 < n by omega)]]
      simp [retM, nodupL, newL, allU, keptL, retP, resL, lk, resT, RnHo, lkp, finU, hget_zero, hget_succ, hget, rnRows_rvs, rn_tup, rn_rv, rn_row, rn_ptr, rn_ifc, rn_agg, rn_dead, RnAll, ofL, rnAll_map]
      exact ⟨by simp [rvs, stL], fun i x y hx => by simp at hx⟩
    · match b, hn with
      | 0, hn => omega
      | b + 1, hn =>
        have e1 : decide (n ≤ 0) = false := decide_eq_false h0
        have hlt := ctx_lt (l := l) (n := n) (by omega)
        have ih := sp_contexts l ht hb b 0 (ctxAt l n) (by omega) ctx_form
        have hcx := sp_ref23_Context l ht (by omega) n
        have hl : leadAt l n = true := hl.resolve_left h0
        have hst := sp_ref24_step l ht n (by omega) hl
        have hin := lead_in hl
        have hnl : n.toNat < l.length := by obtain ⟨k, rfl, hk⟩ := inL_nat hin; simpa using hk
        refine callR_M k_decoupageref24_contexts [] [] [] [.rv (.sl 49 (ndL l)), .rv (.int .i64 n)] [.rv (.sl 49 (ndL l)), .rv (.int .i64 n)] _ _ (by simp) (by simp [BkAll, bk_rv]) rfl (by simp [nodupL]) (by simp [BkHs]) (fun K hK => ?_)
        simp -implicitDefEqProofs only [c_decoupageref24_contexts, go_sem, ↓reduceIte, Nat.reduceEqDiff, Nat.reduceAdd, Nat.reduceSub, Nat.reduceMul, Nat.reduceLeDiff, Nat.reduceLT, reduceCtorEq, Int.reduceToNat]
        have hhl := headI_len (l := l) (n := ctxAt l n)
        have hap := head_cons (l := l) (n := n) (by omega)
        have hal : (headI l n).length = (headI l (ctxAt l n)).length + 1 := by rw [hap]; simp
        have hhx : (headI l (ctxAt l n)).length ≤ 8589934591 := by omega
        generalize hX : headI l (ctxAt l n) = X at ih hap hal hhx
        generalize hY : headI l n = Y at hap hal hK
        generalize hc : ctxAt l n = c at ih hcx
        generalize hs : stepAt l n = s at hst hap
        have htl := stL_len X
        have htk : (stL X).take X.length = stL X := List.take_of_length_le (by omega)
        have hcall12 := hcx; repeat' (first | (simp -implicitDefEqProofs only [go_sem, ↓reduceIte, Nat.reduceEqDiff, Nat.reduceAdd, Nat.reduceSub, Nat.reduceMul, Nat.reduceLeDiff, Nat.reduceLT, reduceCtorEq, Int.reduceToNat, e1]) | (with_reducible refine g_noent ?_) | (with_reducible refine g_call0 hcall12 ?_) | (with_reducible refine g_calld0 hcall12 ?_) | (refine cdS (fun hg => ?_) (fun hg => ?_) <;> try simp -implicitDefEqProofs only [hg, Bool.not_true, Bool.not_false]) | (refine gdS (fun hg => ?_) (fun hg => ?_) <;> try simp -implicitDefEqProofs only [hg, Bool.not_true, Bool.not_false]) | (refine gddS (fun hg => ?_) (fun hg => ?_) <;> try simp -implicitDefEqProofs only [hg, Bool.not_true, Bool.not_false]) | ((with_reducible apply And.intro); focus (first | trivial | omega | decide | (simp -implicitDefEqProofs only [maxLen]; omega) | (simp [maxLen, sty_len, nd_len, ndL_len, lnL_len, intsL_len, rvs_len, lensS_len]; done) | (simp [maxLen, sty_len, nd_len, ndL_len, lnL_len, intsL_len, rvs_len, lensS_len]; omega))) | fail)
        refine g_call ih (by simp [PreOK, hget]) (by simp [okU, uph]) ?_
        have hcall13 := hst; repeat' (first | (simp -implicitDefEqProofs only [go_sem, ↓reduceIte, Nat.reduceEqDiff, Nat.reduceAdd, Nat.reduceSub, Nat.reduceMul, Nat.reduceLeDiff, Nat.reduceLT, reduceCtorEq, Int.reduceToNat, htl, htk, stL_app, st_len, st_take, st_take2]) | (with_reducible refine g_noent ?_) | (with_reducible refine g_call0 hcall13 ?_) | (with_reducible refine g_calld0 hcall13 ?_) | (refine cdS (fun hg => ?_) (fun hg => ?_) <;> try simp -implicitDefEqProofs only [hg, Bool.not_true, Bool.not_false]) | (refine gdS (fun hg => ?_) (fun hg => ?_) <;> try simp -implicitDefEqProofs only [hg, Bool.not_true, Bool.not_false]) | (refine gddS (fun hg => ?_) (fun hg => ?_) <;> try simp -implicitDefEqProofs only [hg, Bool.not_true, Bool.not_false]) | ((with_reducible apply And.intro); focus (first | trivial | omega | decide | (simp -implicitDefEqProofs only [maxLen]; omega) | (simp [maxLen, sty_len, nd_len, ndL_len, lnL_len, intsL_len, rvs_len, lensS_len]; done) | (simp [maxLen, sty_len, nd_len, ndL_len, lnL_len, intsL_len, rvs_len, lensS_len]; omega))) | fail)
        refine (hK _ _ _ _ [some m] (ent_refl _ _) ?_).2
        subst hap
        simp [retM, nodupL, newL, allU, keptL, retP, resL, lk, resT, RnHo, lkp, finU, hget_zero, hget_succ, hget, rnRows_rvs, rn_tup, rn_rv, rn_row, rn_ptr, rn_ifc, rn_agg, rn_dead, RnAll, ofL, rnAll_map]

theorem sp_ref24_Way (l : List Nd) (ht : treeOK l = true) (hb : l.length ≤ 8589934590) (n : Int) : CallR Go.Proofs.Try.prog 57 [.rv (.sl 49 (ndL l)), .rv (.int .i64 n)] [] [] (.rv (.sl 3 (stL (wayAt l n)))) := by
  have hs := tree_shp ht
  have hm := sp_ref08_Made l ht n
  cases hmm : madeAt l n with
  | false =>
    rw [hmm] at hm
    rw [show wayAt l n = [] by simp [wayAt, hmm]]
    refine callR_nil 3 ?_
    refine callR_G k_decoupageref24_Way [.rv (.sl 49 (ndL l)), .rv (.int .i64 n)] _ (by simp) (by simp [BkAll, bk_agg, bkAll_map, bk_rv, bk_fn, Sty.sv, Ln.sv, Nd.sv]) (fun K hK => ?_)
    simp -implicitDefEqProofs only [c_decoupageref24_Way, go_sem, ↓reduceIte, Nat.reduceEqDiff, Nat.reduceAdd, Nat.reduceSub, Nat.reduceMul, Nat.reduceLeDiff, Nat.reduceLT, reduceCtorEq, Int.reduceToNat]
    have hcall14 := hm; repeat' (first | (simp -implicitDefEqProofs only [go_sem, ↓reduceIte, Nat.reduceEqDiff, Nat.reduceAdd, Nat.reduceSub, Nat.reduceMul, Nat.reduceLeDiff, Nat.reduceLT, reduceCtorEq, Int.reduceToNat]) | (with_reducible refine g_noent ?_) | (with_reducible refine g_call0 hcall14 ?_) | (with_reducible refine g_calld0 hcall14 ?_) | (refine cdS (fun hg => ?_) (fun hg => ?_) <;> try simp -implicitDefEqProofs only [hg, Bool.not_true, Bool.not_false]) | (refine gdS (fun hg => ?_) (fun hg => ?_) <;> try simp -implicitDefEqProofs only [hg, Bool.not_true, Bool.not_false]) | (refine gddS (fun hg => ?_) (fun hg => ?_) <;> try simp -implicitDefEqProofs only [hg, Bool.not_true, Bool.not_false]) | ((with_reducible apply And.intro); focus (first | trivial | omega | decide | (simp -implicitDefEqProofs only [maxLen]; omega) | (simp [maxLen, sty_len, nd_len, ndL_len, lnL_len, intsL_len, rvs_len, lensS_len]; done) | (simp [maxLen, sty_len, nd_len, ndL_len, lnL_len, intsL_len, rvs_len, lensS_len]; omega))) | fail)
    exact (hK _ _ (ret_t rfl)).2
  | true =>
    rw [hmm] at hm
    obtain ⟨k, rfl, hk⟩ := inL_nat (by simp [madeAt] at hmm; exact hmm.1)
    refine callR_G k_decoupageref24_Way [.rv (.sl 49 (ndL l)), .rv (.int .i64 k)] _ (by simp) (by simp [BkAll, bk_agg, bkAll_map, bk_rv, bk_fn, Sty.sv, Ln.sv, Nd.sv]) (fun K hK => ?_)
    obtain ⟨u, hu, hg, hlu⟩ := group_found hs hmm
    have hgr := sp_ref23_Group l ht (by omega) k
    rw [hg] at hgr
    have hcx := sp_ref23_Context l ht (by omega) u
    have hct := sp_contexts l ht (by omega) _ 0 (ctxAt l u) (Nat.le_refl _) ctx_form
    have hwl := way_len l k
    have hv : wayAt l k = headI l (ctxAt l u) ++ (if 0 < u then [stepAt l u] else []) ++ [lastAt l k] := by
      simp -implicitDefEqProofs only [wayAt, hmm, if_true, wayRev, hg, List.reverse_cons]
      congr 1
      by_cases h0 : 0 < u
      · rw [if_pos h0]; exact head_cons (by omega)
      · obtain rfl : u = 0 := by omega
        have hc0 : ctxAt l ((0 : Nat) : Int) ≤ 0 := by
          have : upAt l ((0 : Nat) : Int) = [] := by simp [upAt, pth_zero]
          simp -implicitDefEqProofs only [ctxAt, this]; split <;> simp [fstI]
        rw [chain_nil (by omega), headI, chain_nil (by omega)]; rfl
    have hwl2 := congrArg List.length hv
    rw [hv] at hK
    generalize hX : headI l (ctxAt l u) = X at hct hK hwl2
    generalize hc : ctxAt l u = c at hcx hct
    have htl := stL_len X
    have htk : (stL X).take X.length = stL X := List.take_of_length_le (by omega)
    simp -implicitDefEqProofs only [c_decoupageref24_Way, go_sem, ↓reduceIte, Nat.reduceEqDiff, Nat.reduceAdd, Nat.reduceSub, Nat.reduceMul, Nat.reduceLeDiff, Nat.reduceLT, reduceCtorEq, Int.reduceToNat]
    by_cases h0 : 0 < u
    · have e1 : decide ((u : Int) > 0) = true := decide_eq_true (by omega)
      have hst := sp_ref24_step l ht u (by omega) hlu
      rw [if_pos h0] at hK hwl2
      simp -implicitDefEqProofs only [List.length_append, List.length_singleton] at hwl2
      generalize hs : stepAt l u = s at hst hK
      have htl2 := stL_len (X ++ [s])
      have htk2 : (stL (X ++ [s])).take (X.length + 1) = stL (X ++ [s]) := List.take_of_length_le (by rw [htl2]; simp)
      by_cases hgk : u = k
      · have hla : lastAt l k = ⟨0, 0, 0⟩ := by unfold lastAt; rw [if_pos (by rw [hg]; exact congrArg _ hgk)]
        have e2 : ((u : Int) == (k : Int)) = true := by simp [hgk]
        have hcall15 := hm; have hcall16 := hgr; have hcall17 := hcx; repeat' (first | (simp -implicitDefEqProofs only [go_sem, ↓reduceIte, Nat.reduceEqDiff, Nat.reduceAdd, Nat.reduceSub, Nat.reduceMul, Nat.reduceLeDiff, Nat.reduceLT, reduceCtorEq, Int.reduceToNat]) | (with_reducible refine g_noent ?_) | (with_reducible refine g_call0 hcall15 ?_) | (with_reducible refine g_calld0 hcall15 ?_) | (with_reducible refine g_call0 hcall16 ?_) | (with_reducible refine g_calld0 hcall16 ?_) | (with_reducible refine g_call0 hcall17 ?_) | (with_reducible refine g_calld0 hcall17 ?_) | (refine cdS (fun hg => ?_) (fun hg => ?_) <;> try simp -implicitDefEqProofs only [hg, Bool.not_true, Bool.not_false]) | (refine gdS (fun hg => ?_) (fun hg => ?_) <;> try simp -implicitDefEqProofs only [hg, Bool.not_true, Bool.not_false]) | (refine gddS (fun hg => ?_) (fun hg => ?_) <;> try simp -implicitDefEqProofs only [hg, Bool.not_true, Bool.not_false]) | ((with_reducible apply And.intro); focus (first | trivial | omega | decide | (simp -implicitDefEqProofs only [maxLen]; omega) | (simp [maxLen, sty_len, nd_len, ndL_len, lnL_len, intsL_len, rvs_len, lensS_len]; done) | (simp [maxLen, sty_len, nd_len, ndL_len, lnL_len, intsL_len, rvs_len, lensS_len]; omega))) | fail)
        refine g_call hct (by simp [PreOK, hget]) (by simp [okU, uph]) ?_
        have hcall18 := hst; repeat' (first | (simp -implicitDefEqProofs only [go_sem, ↓reduceIte, Nat.reduceEqDiff, Nat.reduceAdd, Nat.reduceSub, Nat.reduceMul, Nat.reduceLeDiff, Nat.reduceLT, reduceCtorEq, Int.reduceToNat, e1, e2, htl, htk, stL_app, stL_app3, htl2, htk2, st_len, st_take, st_take2]) | (with_reducible refine g_noent ?_) | (with_reducible refine g_call0 hcall18 ?_) | (with_reducible refine g_calld0 hcall18 ?_) | (refine cdS (fun hg => ?_) (fun hg => ?_) <;> try simp -implicitDefEqProofs only [hg, Bool.not_true, Bool.not_false]) | (refine gdS (fun hg => ?_) (fun hg => ?_) <;> try simp -implicitDefEqProofs only [hg, Bool.not_true, Bool.not_false]) | (refine gddS (fun hg => ?_) (fun hg => ?_) <;> try simp -implicitDefEqProofs only [hg, Bool.not_true, Bool.not_false]) | ((with_reducible apply And.intro); focus (first | trivial | omega | decide | (simp -implicitDefEqProofs only [maxLen]; omega) | (simp [maxLen, sty_len, nd_len, ndL_len, lnL_len, intsL_len, rvs_len, lensS_len]; done) | (simp [maxLen, sty_len, nd_len, ndL_len, lnL_len, intsL_len, rvs_len, lensS_len]; omega))) | fail)
        rw [hla] at hK
        exact (hK _ _ ⟨trivial, rn_frz (xs := stL (X ++ [s] ++ [⟨0, 0, 0⟩])) rfl rfl (by simp [stL]) (stL_one _)⟩).2
      · have hla : lastAt l k = ⟨2, 0, k⟩ := by unfold lastAt; rw [if_neg (by rw [hg]; intro h; exact hgk (by omega))]
        have e2 : ((u : Int) == (k : Int)) = false := by simp ; omega
        have hcall19 := hm; have hcall20 := hgr; have hcall21 := hcx; repeat' (first | (simp -implicitDefEqProofs only [go_sem, ↓reduceIte, Nat.reduceEqDiff, Nat.reduceAdd, Nat.reduceSub, Nat.reduceMul, Nat.reduceLeDiff, Nat.reduceLT, reduceCtorEq, Int.reduceToNat]) | (with_reducible refine g_noent ?_) | (with_reducible refine g_call0 hcall19 ?_) | (with_reducible refine g_calld0 hcall19 ?_) | (with_reducible refine g_call0 hcall20 ?_) | (with_reducible refine g_calld0 hcall20 ?_) | (with_reducible refine g_call0 hcall21 ?_) | (with_reducible refine g_calld0 hcall21 ?_) | (refine cdS (fun hg => ?_) (fun hg => ?_) <;> try simp -implicitDefEqProofs only [hg, Bool.not_true, Bool.not_false]) | (refine gdS (fun hg => ?_) (fun hg => ?_) <;> try simp -implicitDefEqProofs only [hg, Bool.not_true, Bool.not_false]) | (refine gddS (fun hg => ?_) (fun hg => ?_) <;> try simp -implicitDefEqProofs only [hg, Bool.not_true, Bool.not_false]) | ((with_reducible apply And.intro); focus (first | trivial | omega | decide | (simp -implicitDefEqProofs only [maxLen]; omega) | (simp [maxLen, sty_len, nd_len, ndL_len, lnL_len, intsL_len, rvs_len, lensS_len]; done) | (simp [maxLen, sty_len, nd_len, ndL_len, lnL_len, intsL_len, rvs_len, lensS_len]; omega))) | fail)
        refine g_call hct (by simp [PreOK, hget]) (by simp [okU, uph]) ?_
        have hcall22 := hst; repeat' (first | (simp -implicitDefEqProofs only [go_sem, ↓reduceIte, Nat.reduceEqDiff, Nat.reduceAdd, Nat.reduceSub, Nat.reduceMul, Nat.reduceLeDiff, Nat.reduceLT, reduceCtorEq, Int.reduceToNat, e1, e2, htl, htk, stL_app, stL_app3, htl2, htk2, st_len, st_take, st_take2]) | (with_reducible refine g_noent ?_) | (with_reducible refine g_call0 hcall22 ?_) | (with_reducible refine g_calld0 hcall22 ?_) | (refine cdS (fun hg => ?_) (fun hg => ?_) <;> try simp -implicitDefEqProofs only [hg, Bool.not_true, Bool.not_false]) | (refine gdS (fun hg => ?_) (fun hg => ?_) <;> try simp -implicitDefEqProofs only [hg, Bool.not_true, Bool.not_false]) | (refine gddS (fun hg => ?_) (fun hg => ?_) <;> try simp -implicitDefEqProofs only [hg, Bool.not_true, Bool.not_false]) | ((with_reducible apply And.intro); focus (first | trivial | omega | decide | (simp -implicitDefEqProofs only [maxLen]; omega) | (simp [maxLen, sty_len, nd_len, ndL_len, lnL_len, intsL_len, rvs_len, lensS_len]; done) | (simp [maxLen, sty_len, nd_len, ndL_len, lnL_len, intsL_len, rvs_len, lensS_len]; omega))) | fail)
        rw [hla] at hK
        exact (hK _ _ ⟨trivial, rn_frz (xs := stL (X ++ [s] ++ [⟨2, 0, k⟩])) rfl rfl (by simp [stL]) (stL_one _)⟩).2
    · have e1 : decide ((u : Int) > 0) = false := decide_eq_false (by omega)
      rw [if_neg h0, List.append_nil] at hK
      rw [if_neg h0, List.append_nil] at hwl2
      simp -implicitDefEqProofs only [List.length_append, List.length_singleton] at hwl2
      by_cases hgk : u = k
      · have hla : lastAt l k = ⟨0, 0, 0⟩ := by unfold lastAt; rw [if_pos (by rw [hg]; exact congrArg _ hgk)]
        have e2 : ((u : Int) == (k : Int)) = true := by simp [hgk]
        have hcall23 := hm; have hcall24 := hgr; have hcall25 := hcx; repeat' (first | (simp -implicitDefEqProofs only [go_sem, ↓reduceIte, Nat.reduceEqDiff, Nat.reduceAdd, Nat.reduceSub, Nat.reduceMul, Nat.reduceLeDiff, Nat.reduceLT, reduceCtorEq, Int.reduceToNat]) | (with_reducible refine g_noent ?_) | (with_reducible refine g_call0 hcall23 ?_) | (with_reducible refine g_calld0 hcall23 ?_) | (with_reducible refine g_call0 hcall24 ?_) | (with_reducible refine g_calld0 hcall24 ?_) | (with_reducible refine g_call0 hcall25 ?_) | (with_reducible refine g_calld0 hcall25 ?_) | (refine cdS (fun hg => ?_) (fun hg => ?_) <;> try simp -implicitDefEqProofs only [hg, Bool.not_true, Bool.not_false]) | (refine gdS (fun hg => ?_) (fun hg => ?_) <;> try simp -implicitDefEqProofs only [hg, Bool.not_true, Bool.not_false]) | (refine gddS (fun hg => ?_) (fun hg => ?_) <;> try simp -implicitDefEqProofs only [hg, Bool.not_true, Bool.not_false]) | ((with_reducible apply And.intro); focus (first | trivial | omega | decide | (simp -implicitDefEqProofs only [maxLen]; omega) | (simp [maxLen, sty_len, nd_len, ndL_len, lnL_len, intsL_len, rvs_len, lensS_len]; done) | (simp [maxLen, sty_len, nd_len, ndL_len, lnL_len, intsL_len, rvs_len, lensS_len]; omega))) | fail)
        refine g_call hct (by simp [PreOK, hget]) (by simp [okU, uph]) ?_
        repeat' (first | (simp -implicitDefEqProofs only [go_sem, ↓reduceIte, Nat.reduceEqDiff, Nat.reduceAdd, Nat.reduceSub, Nat.reduceMul, Nat.reduceLeDiff, Nat.reduceLT, reduceCtorEq, Int.reduceToNat, e1, e2, htl, htk, stL_app, stL_app3, st_len, st_take, st_take2]) | (with_reducible refine g_noent ?_) | (refine cdS (fun hg => ?_) (fun hg => ?_) <;> try simp -implicitDefEqProofs only [hg, Bool.not_true, Bool.not_false]) | (refine gdS (fun hg => ?_) (fun hg => ?_) <;> try simp -implicitDefEqProofs only [hg, Bool.not_true, Bool.not_false]) | (refine gddS (fun hg => ?_) (fun hg => ?_) <;> try simp -implicitDefEqProofs only [hg, Bool.not_true, Bool.not_false]) | ((with_reducible apply And.intro); focus (first | trivial | omega | decide | (simp -implicitDefEqProofs only [maxLen]; omega) | (simp [maxLen, sty_len, nd_len, ndL_len, lnL_len, intsL_len, rvs_len, lensS_len]; done) | (simp [maxLen, sty_len, nd_len, ndL_len, lnL_len, intsL_len, rvs_len, lensS_len]; omega))) | fail)
        rw [hla] at hK
        exact (hK _ _ ⟨trivial, rn_frz (xs := stL (X ++ [⟨0, 0, 0⟩])) rfl rfl (by simp [stL]) (stL_one _)⟩).2
      · have hla : lastAt l k = ⟨2, 0, k⟩ := by unfold lastAt; rw [if_neg (by rw [hg]; intro h; exact hgk (by omega))]
        have e2 : ((u : Int) == (k : Int)) = false := by simp ; omega
        have hcall26 := hm; have hcall27 := hgr; have hcall28 := hcx; repeat' (first | (simp -implicitDefEqProofs only [go_sem, ↓reduceIte, Nat.reduceEqDiff, Nat.reduceAdd, Nat.reduceSub, Nat.reduceMul, Nat.reduceLeDiff, Nat.reduceLT, reduceCtorEq, Int.reduceToNat]) | (with_reducible refine g_noent ?_) | (with_reducible refine g_call0 hcall26 ?_) | (with_reducible refine g_calld0 hcall26 ?_) | (with_reducible refine g_call0 hcall27 ?_) | (with_reducible refine g_calld0 hcall27 ?_) | (with_reducible refine g_call0 hcall28 ?_) | (with_reducible refine g_calld0 hcall28 ?_) | (refine cdS (fun hg => ?_) (fun hg => ?_) <;> try simp -implicitDefEqProofs only [hg, Bool.not_true, Bool.not_false]) | (refine gdS (fun hg => ?_) (fun hg => ?_) <;> try simp -implicitDefEqProofs only [hg, Bool.not_true, Bool.not_false]) | (refine gddS (fun hg => ?_) (fun hg => ?_) <;> try simp -implicitDefEqProofs only [hg, Bool.not_true, Bool.not_false]) | ((with_reducible apply And.intro); focus (first | trivial | omega | decide | (simp -implicitDefEqProofs only [maxLen]; omega) | (simp [maxLen, sty_len, nd_len, ndL_len, lnL_len, intsL_len, rvs_len, lensS_len]; done) | (simp [maxLen, sty_len, nd_len, ndL_len, lnL_len, intsL_len, rvs_len, lensS_len]; omega))) | fail)
        refine g_call hct (by simp [PreOK, hget]) (by simp [okU, uph]) ?_
        repeat' (first | (simp -implicitDefEqProofs only [go_sem, ↓reduceIte, Nat.reduceEqDiff, Nat.reduceAdd, Nat.reduceSub, Nat.reduceMul, Nat.reduceLeDiff, Nat.reduceLT, reduceCtorEq, Int.reduceToNat, e1, e2, htl, htk, stL_app, stL_app3, st_len, st_take, st_take2]) | (with_reducible refine g_noent ?_) | (refine cdS (fun hg => ?_) (fun hg => ?_) <;> try simp -implicitDefEqProofs only [hg, Bool.not_true, Bool.not_false]) | (refine gdS (fun hg => ?_) (fun hg => ?_) <;> try simp -implicitDefEqProofs only [hg, Bool.not_true, Bool.not_false]) | (refine gddS (fun hg => ?_) (fun hg => ?_) <;> try simp -implicitDefEqProofs only [hg, Bool.not_true, Bool.not_false]) | ((with_reducible apply And.intro); focus (first | trivial | omega | decide | (simp -implicitDefEqProofs only [maxLen]; omega) | (simp [maxLen, sty_len, nd_len, ndL_len, lnL_len, intsL_len, rvs_len, lensS_len]; done) | (simp [maxLen, sty_len, nd_len, ndL_len, lnL_len, intsL_len, rvs_len, lensS_len]; omega))) | fail)
        rw [hla] at hK
        exact (hK _ _ ⟨trivial, rn_frz (xs := stL (X ++ [⟨2, 0, k⟩])) rfl rfl (by simp [stL]) (stL_one _)⟩).2
end Go.Eng

/- rank: which spot is first; the statements as functions. -/
namespace Go.Eng
open Go
/- decoupage/rank.Less -/
def c_rank_Less : AC := (.seq (.reg [⟨(some 4), .box, [(.t 1)], none⟩, ⟨(some 5), .box, [(.t 2)], none⟩, ⟨(some 6), .mv, [(.c (.rv (.bool false)))], none⟩]) (.seq (.seq (.reg [⟨(some 7), .mv, [(.t 0)], none⟩, ⟨(some 8), (.fld 0), [(.t 4)], none⟩, ⟨(some 9), (.load 1 false), [(.t 8)], none⟩, ⟨(some 10), (.call 30), [(.t 7), (.t 9)], none⟩, ⟨(some 11), .not, [(.t 10)], none⟩, ⟨(some 12), .mv, [(.t 11)], none⟩, ⟨(some 13), .mv, [(.t 0)], (some (12, false))⟩, ⟨(some 14), (.fld 0), [(.t 5)], (some (12, false))⟩, ⟨(some 15), (.load 1 false), [(.t 14)], (some (12, false))⟩, ⟨(some 16), (.call 30), [(.t 13), (.t 15)], (some (12, false))⟩, ⟨(some 17), .not, [(.t 16)], (some (12, false))⟩, ⟨(some 18), .pick, [(.t 12), (.c (.rv (.bool true))), (.t 17)], none⟩]) (.cond (.t 18) (.seq (.reg [⟨(some 6), .mv, [(.c (.rv (.bool false)))], none⟩]) .ret) .skip)) (.seq (.seq (.reg [⟨(some 19), (.fld 0), [(.t 4)], none⟩, ⟨(some 20), (.load 1 false), [(.t 19)], none⟩, ⟨(some 21), (.fld 0), [(.t 5)], none⟩, ⟨(some 22), (.load 1 false), [(.t 21)], none⟩, ⟨(some 23), (.ibin .eql), [(.t 20), (.t 22)], none⟩]) (.cond (.t 23) (.seq (.reg [⟨(some 24), (.fld 1), [(.t 4)], none⟩, ⟨(some 25), (.load 1 false), [(.t 24)], none⟩, ⟨(some 26), (.fld 1), [(.t 5)], none⟩, ⟨(some 27), (.load 1 false), [(.t 26)], none⟩, ⟨(some 28), (.ibin .lss), [(.t 25), (.t 27)], none⟩, ⟨(some 6), .mv, [(.t 28)], none⟩]) .ret) .skip)) (.seq (.regd [0, 0, 2, 7, 0, 0, 32, 127, 255, 511, 1023] [⟨(some 29), .mv, [(.t 0)], none⟩, ⟨(some 30), (.fld 0), [(.t 4)], none⟩, ⟨(some 31), (.load 1 false), [(.t 30)], none⟩, ⟨(some 32), (.call 56), [(.t 29), (.t 31)], none⟩, ⟨(some 33), .mv, [(.t 0)], none⟩, ⟨(some 34), (.fld 0), [(.t 5)], none⟩, ⟨(some 35), (.load 1 false), [(.t 34)], none⟩, ⟨(some 36), (.call 56), [(.t 33), (.t 35)], none⟩, ⟨(some 37), (.call 86), [(.t 32), (.t 36), (.c (.fn 87 []))], none⟩, ⟨(some 38), (.ibin .lss), [(.t 37), (.c (.rv (.int .i64 0)))], none⟩, ⟨(some 6), .mv, [(.t 38)], none⟩]) .ret))))
theorem k_rank_Less : FnOK Go.Proofs.Try.prog 58 39 c_rank_Less [(.t 6)] := fnOK_of (by kernel_rfl)

/- decoupage/decoupageref24.Less -/
def c_decoupageref24_Less : AC := (.seq (.reg [⟨(some 4), .box, [(.t 1)], none⟩, ⟨(some 5), .box, [(.t 2)], none⟩, ⟨(some 6), .mv, [(.c (.rv (.bool false)))], none⟩]) (.seq (.seq (.reg [⟨(some 10), .mv, [(.t 0)], none⟩, ⟨(some 11), (.fld 0), [(.t 4)], none⟩, ⟨(some 12), (.load 1 false), [(.t 11)], none⟩, ⟨(some 13), (.call 60), [(.t 10), (.t 12)], none⟩, ⟨(some 14), .not, [(.t 13)], none⟩, ⟨(some 15), .mv, [(.t 14)], none⟩, ⟨(some 16), .mv, [(.t 0)], (some (15, false))⟩, ⟨(some 17), (.fld 0), [(.t 5)], (some (15, false))⟩, ⟨(some 18), (.load 1 false), [(.t 17)], (some (15, false))⟩, ⟨(some 19), (.call 60), [(.t 16), (.t 18)], (some (15, false))⟩, ⟨(some 20), .not, [(.t 19)], (some (15, false))⟩, ⟨(some 21), .pick, [(.t 15), (.c (.rv (.bool true))), (.t 20)], none⟩]) (.cond (.t 21) (.seq (.reg [⟨(some 6), .mv, [(.c (.rv (.bool false)))], none⟩]) .ret) .skip)) (.seq (.seq (.reg [⟨(some 22), (.fld 0), [(.t 4)], none⟩, ⟨(some 23), (.load 1 false), [(.t 22)], none⟩, ⟨(some 24), (.fld 0), [(.t 5)], none⟩, ⟨(some 25), (.load 1 false), [(.t 24)], none⟩, ⟨(some 26), (.ibin .eql), [(.t 23), (.t 25)], none⟩]) (.cond (.t 26) (.seq (.reg [⟨(some 27), (.fld 1), [(.t 4)], none⟩, ⟨(some 28), (.load 1 false), [(.t 27)], none⟩, ⟨(some 29), (.fld 1), [(.t 5)], none⟩, ⟨(some 30), (.load 1 false), [(.t 29)], none⟩, ⟨(some 31), (.ibin .lss), [(.t 28), (.t 30)], none⟩, ⟨(some 6), .mv, [(.t 31)], none⟩]) .ret) .skip)) (.seq (.regd [0, 0, 2, 7, 0, 0, 32, 127, 255, 511] [⟨(some 32), .mv, [(.t 0)], none⟩, ⟨(some 33), (.fld 0), [(.t 4)], none⟩, ⟨(some 34), (.load 1 false), [(.t 33)], none⟩, ⟨(some 35), (.call 57), [(.t 32), (.t 34)], none⟩, ⟨(some 36), .mv, [(.t 0)], none⟩, ⟨(some 37), (.fld 0), [(.t 5)], none⟩, ⟨(some 38), (.load 1 false), [(.t 37)], none⟩, ⟨(some 39), (.call 57), [(.t 36), (.t 38)], none⟩, ⟨(some 7), .mv, [(.t 35)], none⟩, ⟨(some 8), .mv, [(.t 39)], none⟩]) (.seq (.seq (.reg [⟨(some 9), .mv, [(.c (.rv (.int .i64 0)))], none⟩]) (.seq (.block 0 (.loop (.seq (.seq (.reg [⟨(some 40), .mv, [(.t 9)], none⟩, ⟨(some 41), .mv, [(.t 7)], none⟩, ⟨(some 42), .len, [(.t 41)], none⟩, ⟨(some 43), (.ibin .lss), [(.t 40), (.t 42)], none⟩, ⟨(some 44), .mv, [(.t 43)], none⟩, ⟨(some 45), .mv, [(.t 9)], (some (44, true))⟩, ⟨(some 46), .mv, [(.t 8)], (some (44, true))⟩, ⟨(some 47), .len, [(.t 46)], (some (44, true))⟩, ⟨(some 48), (.ibin .lss), [(.t 45), (.t 47)], (some (44, true))⟩, ⟨(some 49), .pick, [(.t 44), (.t 48), (.c (.rv (.bool false)))], none⟩]) (.cond (.t 49) .skip (.exit 0))) (.seq (.seq (.block 1 (.seq (.regd [0, 0, 3, 7, 0, 0, 48, 112, 255] [⟨(some 52), .mv, [(.t 7)], none⟩, ⟨(some 53), .mv, [(.t 9)], none⟩, ⟨(some 54), (.ixs 3), [(.t 52), (.t 53)], none⟩, ⟨(some 55), (.load 3 true), [(.t 54)], none⟩, ⟨(some 56), .mv, [(.t 8)], none⟩, ⟨(some 57), .mv, [(.t 9)], none⟩, ⟨(some 58), (.ixs 3), [(.t 56), (.t 57)], none⟩, ⟨(some 59), (.load 3 true), [(.t 58)], none⟩, ⟨(some 60), (.eqs true true [.i, .i, .i]), [(.t 55), (.t 59)], none⟩]) (.cond (.t 60) (.seq (.regd [0, 0, 3, 7, 0, 0, 48, 112, 255, 511] [⟨(some 61), .mv, [(.t 7)], none⟩, ⟨(some 62), .mv, [(.t 9)], none⟩, ⟨(some 63), (.ixs 3), [(.t 61), (.t 62)], none⟩, ⟨(some 64), (.load 3 true), [(.t 63)], none⟩, ⟨(some 65), .mv, [(.t 8)], none⟩, ⟨(some 66), .mv, [(.t 9)], none⟩, ⟨(some 67), (.ixs 3), [(.t 65), (.t 66)], none⟩, ⟨(some 68), (.load 3 true), [(.t 67)], none⟩, ⟨(some 69), (.call 88), [(.t 64), (.t 68)], none⟩, ⟨(some 6), .mv, [(.t 69)], none⟩]) .ret) .skip))) .ent) (.reg [⟨(some 50), .mv, [(.t 9)], none⟩, ⟨(some 51), (.ibin .add), [(.t 50), (.c (.rv (.int .i64 1)))], none⟩, ⟨(some 9), .mv, [(.t 51)], none⟩]))))) .ent)) (.seq (.reg [⟨(some 70), .mv, [(.t 7)], none⟩, ⟨(some 71), .len, [(.t 70)], none⟩, ⟨(some 72), .mv, [(.t 8)], none⟩, ⟨(some 73), .len, [(.t 72)], none⟩, ⟨(some 74), (.ibin .lss), [(.t 71), (.t 73)], none⟩, ⟨(some 6), .mv, [(.t 74)], none⟩]) .ret))))))
theorem k_decoupageref24_Less : FnOK Go.Proofs.Try.prog 59 75 c_decoupageref24_Less [(.t 6)] := fnOK_of (by kernel_rfl)

/- decoupage/decoupagelaw24.awake -/
def c_decoupagelaw24_awake : AC := (.seq (.reg [⟨(some 0), .mv, [(.c (.rv (.bool false)))], none⟩]) (.seq (.reg [⟨(some 4), (.call 54), [], none⟩, ⟨(some 5), (.build [(.bool false), (.int .i64 0), (.int .i64 0), (.int .i64 0), (.int .i64 0), (.int .i64 0), (.int .i64 0), (.int .i64 0), (.int .i64 0), (.int .i64 0), (.int .i64 0), (.int .i64 0), (.int .i64 0), (.int .i64 0), (.int .i64 0), (.int .i64 0), (.int .i64 0), (.int .i64 0), (.int .i64 0), (.int .i64 0), (.int .i64 0), (.int .i64 0), (.int .i64 0), (.int .i64 0), (.int .i64 0), (.int .i64 0), (.int .i64 0), (.int .i64 0), (.int .i64 0), (.int .i64 0), (.int .i64 0), (.int .i64 0), (.int .i64 0), (.int .i64 0), (.int .i64 0), (.int .i64 0), (.int .i64 0), (.int .i64 0), (.int .i64 0), (.int .i64 0), (.int .i64 0), (.int .i64 0), (.bool false), (.bool false), (.int .i64 0), (.bool false), (.int .i64 0), (.int .i64 0), (.int .i64 0)] [(0, 48), (48, 1)]), [(.t 4), (.c (.rv (.int .i64 (-1))))], none⟩, ⟨(some 6), (.bsl 49), [(.t 5)], none⟩, ⟨(some 7), (.call 17), [(.t 6)], none⟩, ⟨(some 3), .mv, [(.t 7)], none⟩, ⟨(some 8), (.ext 0), [(.t 3)], none⟩, ⟨(some 9), (.ext 1), [(.t 3)], none⟩, ⟨(some 1), .mv, [(.t 8)], none⟩, ⟨(some 2), .mv, [(.t 9)], none⟩]) (.seq (.reg [⟨(some 10), .mv, [(.t 2)], none⟩, ⟨(some 11), (.ibin .eql), [(.t 10), (.c (.rv (.int .i64 0)))], none⟩, ⟨(some 12), .mv, [(.t 11)], none⟩, ⟨(some 13), .mv, [(.t 1)], (some (12, true))⟩, ⟨(some 14), (.call 56), [(.t 13), (.c (.rv (.int .i64 0)))], (some (12, true))⟩, ⟨(some 15), .len, [(.t 14)], (some (12, true))⟩, ⟨(some 16), (.ibin .eql), [(.t 15), (.c (.rv (.int .i64 1)))], (some (12, true))⟩, ⟨(some 17), .pick, [(.t 12), (.t 16), (.c (.rv (.bool false)))], none⟩, ⟨(some 18), .mv, [(.t 17)], none⟩, ⟨(some 19), .mv, [(.t 1)], (some (18, true))⟩, ⟨(some 20), (.build [(.int .i64 0), (.int .i64 0)] []), [], (some (18, true))⟩, ⟨(some 21), (.build [(.int .i64 0), (.int .i64 0)] [(1, 1)]), [(.c (.rv (.int .i64 1)))], (some (18, true))⟩, ⟨(some 22), (.call 58), [(.t 19), (.t 20), (.t 21)], (some (18, true))⟩, ⟨(some 23), .pick, [(.t 18), (.t 22), (.c (.rv (.bool false)))], none⟩, ⟨(some 0), .mv, [(.t 23)], none⟩]) .ret)))
theorem k_decoupagelaw24_awake : FnOK Go.Proofs.Try.prog 55 24 c_decoupagelaw24_awake [(.t 0)] := fnOK_of (by kernel_rfl)


theorem st_eqs (x y : Stp) : ∃ p : Prop, p ∧ cellsEq [.i, .i, .i] (x.cells.map .rv) (y.cells.map .rv) = some (p, decide (x = y)) := by
  refine ⟨(IntKind.i64 = IntKind.i64) ∧ (IntKind.i64 = IntKind.i64) ∧ (IntKind.i64 = IntKind.i64) ∧ True, ⟨rfl, rfl, rfl, trivial⟩, ?_⟩
  have : decide (x = y) = ((x.layer == y.layer) && ((x.z == y.z) && ((x.n == y.n) && true))) := by
    rw [Bool.eq_iff_iff]; cases x; cases y; simp
  rw [this]; rfl
theorem spt_len (x : Spt) : x.cells.length = 2 := rfl
theorem spt_take2 (x : Spt) : List.take 2 (x.cells.map SV.rv) = x.cells.map SV.rv := rfl
theorem spt_at0 (x : Spt) : (x.cells.map SV.rv)[0]? = some (.rv (.int .i64 x.n)) := rfl
theorem way_b (l : List Nd) (n : Int) : (wayAt l n).length ≤ l.length := by
  cases hm : madeAt l n with
  | false => simp [wayAt, hm]
  | true =>
    obtain ⟨k, rfl, hk⟩ := inL_nat (by simp [madeAt] at hm; exact hm.1)
    have := way_len l k; omega

theorem sp_Less (l : List Nd) (hs : Shp l) (hb : l.length ≤ 8589934590) (a b : Spt) : CallR Go.Proofs.Try.prog 58 [.rv (kinV l), a.sv, b.sv] [] [] (.rv (.bool (lessAt l a b))) := by
  refine callR_G k_rank_Less [.rv (kinV l), a.sv, b.sv] _ (by simp) (by simp [BkAll, bk_agg, bkAll_map, bk_rv, bk_fn, Sty.sv, Ln.sv, Nd.sv]) (fun K hK => ?_)
  have ha := sp_Made l a.n
  have hbm := sp_Made l b.n
  simp -implicitDefEqProofs only [c_rank_Less, Spt.sv, Spt.cells, go_sem, ↓reduceIte, Nat.reduceEqDiff, Nat.reduceAdd, Nat.reduceSub, Nat.reduceMul, Nat.reduceLeDiff, Nat.reduceLT, reduceCtorEq, Int.reduceToNat]
  cases hma : madeAt l a.n with
  | false =>
    rw [hma] at ha
    have hcall1 := ha; repeat' (first | (simp -implicitDefEqProofs only [go_sem, ↓reduceIte, Nat.reduceEqDiff, Nat.reduceAdd, Nat.reduceSub, Nat.reduceMul, Nat.reduceLeDiff, Nat.reduceLT, reduceCtorEq, Int.reduceToNat]) | (with_reducible refine g_noent ?_) | (with_reducible refine g_call0 hcall1 ?_) | (with_reducible refine g_calld0 hcall1 ?_) | (refine cdS (fun hg => ?_) (fun hg => ?_) <;> try simp -implicitDefEqProofs only [hg, Bool.not_true, Bool.not_false]) | (refine gdS (fun hg => ?_) (fun hg => ?_) <;> try simp -implicitDefEqProofs only [hg, Bool.not_true, Bool.not_false]) | (refine gddS (fun hg => ?_) (fun hg => ?_) <;> try simp -implicitDefEqProofs only [hg, Bool.not_true, Bool.not_false]) | ((with_reducible apply And.intro); focus (first | trivial | omega | decide | (simp -implicitDefEqProofs only [maxLen]; omega) | (simp [maxLen, sty_len, nd_len, ndL_len, lnL_len, intsL_len, rvs_len, lensS_len]; done) | (simp [maxLen, sty_len, nd_len, ndL_len, lnL_len, intsL_len, rvs_len, lensS_len]; omega))) | fail)
    exact (hK _ _ (ret_t (by simp [lessAt, hma, lk]))).2
  | true =>
    rw [hma] at ha
    cases hmb : madeAt l b.n with
    | false =>
      rw [hmb] at hbm
      have hcall2 := ha; have hcall3 := hbm; repeat' (first | (simp -implicitDefEqProofs only [go_sem, ↓reduceIte, Nat.reduceEqDiff, Nat.reduceAdd, Nat.reduceSub, Nat.reduceMul, Nat.reduceLeDiff, Nat.reduceLT, reduceCtorEq, Int.reduceToNat]) | (with_reducible refine g_noent ?_) | (with_reducible refine g_call0 hcall2 ?_) | (with_reducible refine g_calld0 hcall2 ?_) | (with_reducible refine g_call0 hcall3 ?_) | (with_reducible refine g_calld0 hcall3 ?_) | (refine cdS (fun hg => ?_) (fun hg => ?_) <;> try simp -implicitDefEqProofs only [hg, Bool.not_true, Bool.not_false]) | (refine gdS (fun hg => ?_) (fun hg => ?_) <;> try simp -implicitDefEqProofs only [hg, Bool.not_true, Bool.not_false]) | (refine gddS (fun hg => ?_) (fun hg => ?_) <;> try simp -implicitDefEqProofs only [hg, Bool.not_true, Bool.not_false]) | ((with_reducible apply And.intro); focus (first | trivial | omega | decide | (simp -implicitDefEqProofs only [maxLen]; omega) | (simp [maxLen, sty_len, nd_len, ndL_len, lnL_len, intsL_len, rvs_len, lensS_len]; done) | (simp [maxLen, sty_len, nd_len, ndL_len, lnL_len, intsL_len, rvs_len, lensS_len]; omega))) | fail)
      exact (hK _ _ (ret_t (by simp [lessAt, hmb, lk]))).2
    | true =>
      rw [hmb] at hbm
      by_cases he : a.n = b.n
      · have e1 : (a.n == b.n) = true := by simp [he]
        have hcall4 := ha; have hcall5 := hbm; repeat' (first | (simp -implicitDefEqProofs only [go_sem, ↓reduceIte, Nat.reduceEqDiff, Nat.reduceAdd, Nat.reduceSub, Nat.reduceMul, Nat.reduceLeDiff, Nat.reduceLT, reduceCtorEq, Int.reduceToNat, e1]) | (with_reducible refine g_noent ?_) | (with_reducible refine g_call0 hcall4 ?_) | (with_reducible refine g_calld0 hcall4 ?_) | (with_reducible refine g_call0 hcall5 ?_) | (with_reducible refine g_calld0 hcall5 ?_) | (refine cdS (fun hg => ?_) (fun hg => ?_) <;> try simp -implicitDefEqProofs only [hg, Bool.not_true, Bool.not_false]) | (refine gdS (fun hg => ?_) (fun hg => ?_) <;> try simp -implicitDefEqProofs only [hg, Bool.not_true, Bool.not_false]) | (refine gddS (fun hg => ?_) (fun hg => ?_) <;> try simp -implicitDefEqProofs only [hg, Bool.not_true, Bool.not_false]) | ((with_reducible apply And.intro); focus (first | trivial | omega | decide | (simp -implicitDefEqProofs only [maxLen]; omega) | (simp [maxLen, sty_len, nd_len, ndL_len, lnL_len, intsL_len, rvs_len, lensS_len]; done) | (simp [maxLen, sty_len, nd_len, ndL_len, lnL_len, intsL_len, rvs_len, lensS_len]; omega))) | fail)
        exact (hK _ _ (ret_t (by simp [lessAt, hma, hmb, ← he, lk]))).2
      · have e1 : (a.n == b.n) = false := by simp [he]
        have w1 := sp_Way l hs (by omega) a.n
        have w2 := sp_Way l hs (by omega) b.n
        have b1 := way_b l a.n
        have hc := sp_CompareFunc (wayAt l a.n) (wayAt l b.n) (by omega)
        have hcall6 := ha; have hcall7 := hbm; have hcall8 := w1; have hcall9 := w2; have hcall10 := hc; repeat' (first | (simp -implicitDefEqProofs only [go_sem, ↓reduceIte, Nat.reduceEqDiff, Nat.reduceAdd, Nat.reduceSub, Nat.reduceMul, Nat.reduceLeDiff, Nat.reduceLT, reduceCtorEq, Int.reduceToNat, e1]) | (with_reducible refine g_noent ?_) | (with_reducible refine g_call0 hcall6 ?_) | (with_reducible refine g_calld0 hcall6 ?_) | (with_reducible refine g_call0 hcall7 ?_) | (with_reducible refine g_calld0 hcall7 ?_) | (with_reducible refine g_call0 hcall8 ?_) | (with_reducible refine g_calld0 hcall8 ?_) | (with_reducible refine g_call0 hcall9 ?_) | (with_reducible refine g_calld0 hcall9 ?_) | (with_reducible refine g_call0 hcall10 ?_) | (with_reducible refine g_calld0 hcall10 ?_) | (refine cdS (fun hg => ?_) (fun hg => ?_) <;> try simp -implicitDefEqProofs only [hg, Bool.not_true, Bool.not_false]) | (refine gdS (fun hg => ?_) (fun hg => ?_) <;> try simp -implicitDefEqProofs only [hg, Bool.not_true, Bool.not_false]) | (refine gddS (fun hg => ?_) (fun hg => ?_) <;> try simp -implicitDefEqProofs only [hg, Bool.not_true, Bool.not_false]) | ((with_reducible apply And.intro); focus (first | trivial | omega | decide | (simp -implicitDefEqProofs only [maxLen]; omega) | (simp [maxLen, sty_len, nd_len, ndL_len, lnL_len, intsL_len, rvs_len, lensS_len]; done) | (simp [maxLen, sty_len, nd_len, ndL_len, lnL_len, intsL_len, rvs_len, lensS_len]; omega))) | fail)
        exact (hK _ _ (ret_t (by simp [lessAt, hma, hmb, he, lk]))).2

theorem cmpW_end {x y : List Stp} {k : Nat} (h : x.length ≤ k ∨ y.length ≤ k) (hx : k ≤ x.length) (hy : k ≤ y.length) (he : cmpW (x.drop k) (y.drop k) = cmpW x y) : decide (cmpW x y < 0) = decide (x.length < y.length) := by
  rw [← he]
  rcases h with h | h
  · obtain rfl : k = x.length := by omega
    rw [List.drop_length]
    by_cases h2 : x.length < y.length
    · rw [List.drop_eq_getElem_cons h2]; simp [cmpW, h2]
    · rw [show y.drop x.length = [] from List.drop_of_length_le (by omega)]; simp [cmpW, h2]
  · obtain rfl : k = y.length := by omega
    rw [List.drop_length]
    by_cases h2 : y.length < x.length
    · rw [List.drop_eq_getElem_cons h2]; simp [cmpW]; omega
    · rw [show x.drop y.length = [] from List.drop_of_length_le (by omega)]; simp [cmpW]; omega

theorem sp_ref24_Less (l : List Nd) (ht : treeOK l = true) (hb : l.length ≤ 8589934590) (a b : Spt) : CallR Go.Proofs.Try.prog 59 [.rv (.sl 49 (ndL l)), a.sv, b.sv] [] [] (.rv (.bool (lessAt l a b))) := by
  refine callR_G k_decoupageref24_Less [.rv (.sl 49 (ndL l)), a.sv, b.sv] _ (by simp) (by simp [BkAll, bk_agg, bkAll_map, bk_rv, bk_fn, Sty.sv, Ln.sv, Nd.sv]) (fun K hK => ?_)
  have ha := sp_ref08_Made l ht a.n
  have hbm := sp_ref08_Made l ht b.n
  simp -implicitDefEqProofs only [c_decoupageref24_Less, Spt.sv, Spt.cells, go_sem, ↓reduceIte, Nat.reduceEqDiff, Nat.reduceAdd, Nat.reduceSub, Nat.reduceMul, Nat.reduceLeDiff, Nat.reduceLT, reduceCtorEq, Int.reduceToNat]
  cases hma : madeAt l a.n with
  | false =>
    rw [hma] at ha
    have hcall11 := ha; repeat' (first | (simp -implicitDefEqProofs only [go_sem, ↓reduceIte, Nat.reduceEqDiff, Nat.reduceAdd, Nat.reduceSub, Nat.reduceMul, Nat.reduceLeDiff, Nat.reduceLT, reduceCtorEq, Int.reduceToNat]) | (with_reducible refine g_noent ?_) | (with_reducible refine g_call0 hcall11 ?_) | (with_reducible refine g_calld0 hcall11 ?_) | (refine cdS (fun hg => ?_) (fun hg => ?_) <;> try simp -implicitDefEqProofs only [hg, Bool.not_true, Bool.not_false]) | (refine gdS (fun hg => ?_) (fun hg => ?_) <;> try simp -implicitDefEqProofs only [hg, Bool.not_true, Bool.not_false]) | (refine gddS (fun hg => ?_) (fun hg => ?_) <;> try simp -implicitDefEqProofs only [hg, Bool.not_true, Bool.not_false]) | ((with_reducible apply And.intro); focus (first | trivial | omega | decide | (simp -implicitDefEqProofs only [maxLen]; omega) | (simp [maxLen, sty_len, nd_len, ndL_len, lnL_len, intsL_len, rvs_len, lensS_len]; done) | (simp [maxLen, sty_len, nd_len, ndL_len, lnL_len, intsL_len, rvs_len, lensS_len]; omega))) | fail)
    exact (hK _ _ (ret_t (by simp [lessAt, hma, lk]))).2
  | true =>
    rw [hma] at ha
    cases hmb : madeAt l b.n with
    | false =>
      rw [hmb] at hbm
      have hcall12 := ha; have hcall13 := hbm; repeat' (first | (simp -implicitDefEqProofs only [go_sem, ↓reduceIte, Nat.reduceEqDiff, Nat.reduceAdd, Nat.reduceSub, Nat.reduceMul, Nat.reduceLeDiff, Nat.reduceLT, reduceCtorEq, Int.reduceToNat]) | (with_reducible refine g_noent ?_) | (with_reducible refine g_call0 hcall12 ?_) | (with_reducible refine g_calld0 hcall12 ?_) | (with_reducible refine g_call0 hcall13 ?_) | (with_reducible refine g_calld0 hcall13 ?_) | (refine cdS (fun hg => ?_) (fun hg => ?_) <;> try simp -implicitDefEqProofs only [hg, Bool.not_true, Bool.not_false]) | (refine gdS (fun hg => ?_) (fun hg => ?_) <;> try simp -implicitDefEqProofs only [hg, Bool.not_true, Bool.not_false]) | (refine gddS (fun hg => ?_) (fun hg => ?_) <;> try simp -implicitDefEqProofs only [hg, Bool.not_true, Bool.not_false]) | ((with_reducible apply And.intro); focus (first | trivial | omega | decide | (simp -implicitDefEqProofs only [maxLen]; omega) | (simp [maxLen, sty_len, nd_len, ndL_len, lnL_len, intsL_len, rvs_len, lensS_len]; done) | (simp [maxLen, sty_len, nd_len, ndL_len, lnL_len, intsL_len, rvs_len, lensS_len]; omega))) | fail)
      exact (hK _ _ (ret_t (by simp [lessAt, hmb, lk]))).2
    | true =>
      rw [hmb] at hbm
      by_cases he : a.n = b.n
      · have e1 : (a.n == b.n) = true := by simp [he]
        have hcall14 := ha; have hcall15 := hbm; repeat' (first | (simp -implicitDefEqProofs only [go_sem, ↓reduceIte, Nat.reduceEqDiff, Nat.reduceAdd, Nat.reduceSub, Nat.reduceMul, Nat.reduceLeDiff, Nat.reduceLT, reduceCtorEq, Int.reduceToNat, e1]) | (with_reducible refine g_noent ?_) | (with_reducible refine g_call0 hcall14 ?_) | (with_reducible refine g_calld0 hcall14 ?_) | (with_reducible refine g_call0 hcall15 ?_) | (with_reducible refine g_calld0 hcall15 ?_) | (refine cdS (fun hg => ?_) (fun hg => ?_) <;> try simp -implicitDefEqProofs only [hg, Bool.not_true, Bool.not_false]) | (refine gdS (fun hg => ?_) (fun hg => ?_) <;> try simp -implicitDefEqProofs only [hg, Bool.not_true, Bool.not_false]) | (refine gddS (fun hg => ?_) (fun hg => ?_) <;> try simp -implicitDefEqProofs only [hg, Bool.not_true, Bool.not_false]) | ((with_reducible apply And.intro); focus (first | trivial | omega | decide | (simp -implicitDefEqProofs only [maxLen]; omega) | (simp [maxLen, sty_len, nd_len, ndL_len, lnL_len, intsL_len, rvs_len, lensS_len]; done) | (simp [maxLen, sty_len, nd_len, ndL_len, lnL_len, intsL_len, rvs_len, lensS_len]; omega))) | fail)
        exact (hK _ _ (ret_t (by simp [lessAt, hma, hmb, ← he, lk]))).2
      · have e1 : (a.n == b.n) = false := by simp [he]
        have w1 := sp_ref24_Way l ht hb a.n
        have w2 := sp_ref24_Way l ht hb b.n
        have b1 := way_b l a.n
        have b2 := way_b l b.n
        have hv : lessAt l a b = decide (cmpW (wayAt l a.n) (wayAt l b.n) < 0) := by simp [lessAt, hma, hmb, he]
        rw [hv] at hK
        generalize wayAt l a.n = x at *
        generalize wayAt l b.n = y at *
        have hlx := stL_len x
        have hly := stL_len y
        have hcall16 := ha; have hcall17 := hbm; have hcall18 := w1; have hcall19 := w2; repeat' (first | (simp -implicitDefEqProofs only [go_sem, ↓reduceIte, Nat.reduceEqDiff, Nat.reduceAdd, Nat.reduceSub, Nat.reduceMul, Nat.reduceLeDiff, Nat.reduceLT, reduceCtorEq, Int.reduceToNat, e1]) | (with_reducible refine g_noent ?_) | (with_reducible refine g_call0 hcall16 ?_) | (with_reducible refine g_calld0 hcall16 ?_) | (with_reducible refine g_call0 hcall17 ?_) | (with_reducible refine g_calld0 hcall17 ?_) | (with_reducible refine g_call0 hcall18 ?_) | (with_reducible refine g_calld0 hcall18 ?_) | (with_reducible refine g_call0 hcall19 ?_) | (with_reducible refine g_calld0 hcall19 ?_) | (refine cdS (fun hg => ?_) (fun hg => ?_) <;> try simp -implicitDefEqProofs only [hg, Bool.not_true, Bool.not_false]) | (refine gdS (fun hg => ?_) (fun hg => ?_) <;> try simp -implicitDefEqProofs only [hg, Bool.not_true, Bool.not_false]) | (refine gddS (fun hg => ?_) (fun hg => ?_) <;> try simp -implicitDefEqProofs only [hg, Bool.not_true, Bool.not_false]) | ((with_reducible apply And.intro); focus (first | trivial | omega | decide | (simp -implicitDefEqProofs only [maxLen]; omega) | (simp [maxLen, sty_len, nd_len, ndL_len, lnL_len, intsL_len, rvs_len, lensS_len]; done) | (simp [maxLen, sty_len, nd_len, ndL_len, lnL_len, intsL_len, rvs_len, lensS_len]; omega))) | fail)
        refine g_loop (ι := Nat) (fun k => [(9, .rv (.int .i64 k)), (7, .rv (.sl 3 (stL x))), (8, .rv (.sl 3 (stL y)))]) (fun _ => [some (.var [.rv (.int .i64 a.n), .rv (.int .i64 a.kind)]), some (.var [.rv (.int .i64 b.n), .rv (.int .i64 b.kind)])]) (fun k => k ≤ x.length ∧ k ≤ y.length ∧ cmpW (x.drop k) (y.drop k) = cmpW x y) (fun k => x.length - k) 0 (by simp) (ent_env (by simp [lk])) (fun k hk K' hN hX hR => ?_)
        obtain ⟨hk1, hk2, hk3⟩ := hk
        simp -implicitDefEqProofs only [go_sem, ↓reduceIte, Nat.reduceEqDiff, Nat.reduceAdd, Nat.reduceSub, Nat.reduceMul, Nat.reduceLeDiff, Nat.reduceLT, reduceCtorEq, Int.reduceToNat]
        by_cases h5 : k < x.length
        · have c1 : decide ((k : Int) < (x.length : Int)) = true := decide_eq_true (by omega)
          by_cases h6 : k < y.length
          · have c2 : decide ((k : Int) < (y.length : Int)) = true := decide_eq_true (by omega)
            have hx := stL_get h5
            have hy := stL_get h6
            have wu := wrap_up (k := k) (by omega)
            have hd := cmpW_drop h5 h6
            obtain ⟨pe, hpe, heq⟩ := st_eqs x[k] y[k]
            by_cases h7 : x[k] = y[k]
            · have c3 : decide (x[k] = y[k]) = true := decide_eq_true h7
              rw [if_neg (by simp [cmpT_zero.2 h7])] at hd
              repeat' (first | (simp -implicitDefEqProofs only [go_sem, ↓reduceIte, Nat.reduceEqDiff, Nat.reduceAdd, Nat.reduceSub, Nat.reduceMul, Nat.reduceLeDiff, Nat.reduceLT, reduceCtorEq, Int.reduceToNat, c1, c2, hx, hy, hlx, hly, st_len, st_take, st_take2, heq, c3, wu]) | (with_reducible refine g_noent ?_) | (refine cdS (fun hg => ?_) (fun hg => ?_) <;> try simp -implicitDefEqProofs only [hg, Bool.not_true, Bool.not_false]) | (refine gdS (fun hg => ?_) (fun hg => ?_) <;> try simp -implicitDefEqProofs only [hg, Bool.not_true, Bool.not_false]) | (refine gddS (fun hg => ?_) (fun hg => ?_) <;> try simp -implicitDefEqProofs only [hg, Bool.not_true, Bool.not_false]) | ((with_reducible apply And.intro); focus (first | trivial | omega | decide | (simp -implicitDefEqProofs only [maxLen]; omega) | (simp [maxLen, sty_len, nd_len, ndL_len, lnL_len, intsL_len, rvs_len, lensS_len]; done) | (simp [maxLen, sty_len, nd_len, ndL_len, lnL_len, intsL_len, rvs_len, lensS_len]; omega) | (exact hpe; done))) | fail)
              exact hN (k + 1) _ _ ⟨by omega, by omega, by rw [← hd]; exact hk3⟩ (by omega) (ent_env (by simp [lk]))
            · have c3 : decide (x[k] = y[k]) = false := decide_eq_false h7
              have hne : cmpT x[k] y[k] ≠ 0 := fun h => h7 (cmpT_zero.1 h)
              rw [if_pos hne] at hd
              have hls := sp_ref24_less x[k] y[k]
              have hcall20 := hls; repeat' (first | (simp -implicitDefEqProofs only [go_sem, ↓reduceIte, Nat.reduceEqDiff, Nat.reduceAdd, Nat.reduceSub, Nat.reduceMul, Nat.reduceLeDiff, Nat.reduceLT, reduceCtorEq, Int.reduceToNat, c1, c2, hx, hy, hlx, hly, st_len, st_take, st_take2, heq, c3, wu]) | (with_reducible refine g_noent ?_) | (with_reducible refine g_call0 hcall20 ?_) | (with_reducible refine g_calld0 hcall20 ?_) | (refine cdS (fun hg => ?_) (fun hg => ?_) <;> try simp -implicitDefEqProofs only [hg, Bool.not_true, Bool.not_false]) | (refine gdS (fun hg => ?_) (fun hg => ?_) <;> try simp -implicitDefEqProofs only [hg, Bool.not_true, Bool.not_false]) | (refine gddS (fun hg => ?_) (fun hg => ?_) <;> try simp -implicitDefEqProofs only [hg, Bool.not_true, Bool.not_false]) | ((with_reducible apply And.intro); focus (first | trivial | omega | decide | (simp -implicitDefEqProofs only [maxLen]; omega) | (simp [maxLen, sty_len, nd_len, ndL_len, lnL_len, intsL_len, rvs_len, lensS_len]; done) | (simp [maxLen, sty_len, nd_len, ndL_len, lnL_len, intsL_len, rvs_len, lensS_len]; omega) | (exact hpe; done))) | fail)
              refine hR _ _ (hK _ _ (ret_t ?_)).2
              rw [← hk3, hd]; rfl
          · have c2 : decide ((k : Int) < (y.length : Int)) = false := decide_eq_false (by omega)
            repeat' (first | (simp -implicitDefEqProofs only [go_sem, ↓reduceIte, Nat.reduceEqDiff, Nat.reduceAdd, Nat.reduceSub, Nat.reduceMul, Nat.reduceLeDiff, Nat.reduceLT, reduceCtorEq, Int.reduceToNat, c1, c2, hlx, hly]) | (with_reducible refine g_noent ?_) | (refine cdS (fun hg => ?_) (fun hg => ?_) <;> try simp -implicitDefEqProofs only [hg, Bool.not_true, Bool.not_false]) | (refine gdS (fun hg => ?_) (fun hg => ?_) <;> try simp -implicitDefEqProofs only [hg, Bool.not_true, Bool.not_false]) | (refine gddS (fun hg => ?_) (fun hg => ?_) <;> try simp -implicitDefEqProofs only [hg, Bool.not_true, Bool.not_false]) | ((with_reducible apply And.intro); focus (first | trivial | omega | decide | (simp -implicitDefEqProofs only [maxLen]; omega) | (simp [maxLen, sty_len, nd_len, ndL_len, lnL_len, intsL_len, rvs_len, lensS_len]; done) | (simp [maxLen, sty_len, nd_len, ndL_len, lnL_len, intsL_len, rvs_len, lensS_len]; omega))) | fail)
            refine hX _ _ _ ?_
            repeat' (first | (simp -implicitDefEqProofs only [go_sem, ↓reduceIte, Nat.reduceEqDiff, Nat.reduceAdd, Nat.reduceSub, Nat.reduceMul, Nat.reduceLeDiff, Nat.reduceLT, reduceCtorEq, Int.reduceToNat, hlx, hly]) | (with_reducible refine g_noent ?_) | (refine cdS (fun hg => ?_) (fun hg => ?_) <;> try simp -implicitDefEqProofs only [hg, Bool.not_true, Bool.not_false]) | (refine gdS (fun hg => ?_) (fun hg => ?_) <;> try simp -implicitDefEqProofs only [hg, Bool.not_true, Bool.not_false]) | (refine gddS (fun hg => ?_) (fun hg => ?_) <;> try simp -implicitDefEqProofs only [hg, Bool.not_true, Bool.not_false]) | ((with_reducible apply And.intro); focus (first | trivial | omega | decide | (simp -implicitDefEqProofs only [maxLen]; omega) | (simp [maxLen, sty_len, nd_len, ndL_len, lnL_len, intsL_len, rvs_len, lensS_len]; done) | (simp [maxLen, sty_len, nd_len, ndL_len, lnL_len, intsL_len, rvs_len, lensS_len]; omega))) | fail)
            refine (hK _ _ (ret_t ?_)).2
            rw [cmpW_end (.inr (by omega)) hk1 hk2 hk3]; simp [lk]
        · have c1 : decide ((k : Int) < (x.length : Int)) = false := decide_eq_false (by omega)
          repeat' (first | (simp -implicitDefEqProofs only [go_sem, ↓reduceIte, Nat.reduceEqDiff, Nat.reduceAdd, Nat.reduceSub, Nat.reduceMul, Nat.reduceLeDiff, Nat.reduceLT, reduceCtorEq, Int.reduceToNat, c1, hlx, hly]) | (with_reducible refine g_noent ?_) | (refine cdS (fun hg => ?_) (fun hg => ?_) <;> try simp -implicitDefEqProofs only [hg, Bool.not_true, Bool.not_false]) | (refine gdS (fun hg => ?_) (fun hg => ?_) <;> try simp -implicitDefEqProofs only [hg, Bool.not_true, Bool.not_false]) | (refine gddS (fun hg => ?_) (fun hg => ?_) <;> try simp -implicitDefEqProofs only [hg, Bool.not_true, Bool.not_false]) | ((with_reducible apply And.intro); focus (first | trivial | omega | decide | (simp -implicitDefEqProofs only [maxLen]; omega) | (simp [maxLen, sty_len, nd_len, ndL_len, lnL_len, intsL_len, rvs_len, lensS_len]; done) | (simp [maxLen, sty_len, nd_len, ndL_len, lnL_len, intsL_len, rvs_len, lensS_len]; omega))) | fail)
          refine hX _ _ _ ?_
          repeat' (first | (simp -implicitDefEqProofs only [go_sem, ↓reduceIte, Nat.reduceEqDiff, Nat.reduceAdd, Nat.reduceSub, Nat.reduceMul, Nat.reduceLeDiff, Nat.reduceLT, reduceCtorEq, Int.reduceToNat, hlx, hly]) | (with_reducible refine g_noent ?_) | (refine cdS (fun hg => ?_) (fun hg => ?_) <;> try simp -implicitDefEqProofs only [hg, Bool.not_true, Bool.not_false]) | (refine gdS (fun hg => ?_) (fun hg => ?_) <;> try simp -implicitDefEqProofs only [hg, Bool.not_true, Bool.not_false]) | (refine gddS (fun hg => ?_) (fun hg => ?_) <;> try simp -implicitDefEqProofs only [hg, Bool.not_true, Bool.not_false]) | ((with_reducible apply And.intro); focus (first | trivial | omega | decide | (simp -implicitDefEqProofs only [maxLen]; omega) | (simp [maxLen, sty_len, nd_len, ndL_len, lnL_len, intsL_len, rvs_len, lensS_len]; done) | (simp [maxLen, sty_len, nd_len, ndL_len, lnL_len, intsL_len, rvs_len, lensS_len]; omega))) | fail)
          refine (hK _ _ (ret_t ?_)).2
          rw [cmpW_end (.inl (by omega)) hk1 hk2 hk3]; simp [lk]

theorem one_way : wayAt [⟨plainS, -1⟩] 0 = [⟨0, 0, 0⟩] := by
  have hg : groupAt [⟨plainS, -1⟩] ((0 : Nat) : Int) = ((0 : Nat) : Int) := group_lead (by exact one_lead)
  have hg : groupAt [⟨plainS, -1⟩] 0 = 0 := hg
  simp [wayAt, one_made, wayRev, lastAt, hg, chain_nil]
theorem one_less : lessAt [⟨plainS, -1⟩] ⟨0, 0⟩ ⟨0, 1⟩ = true := by simp [lessAt, one_made]
theorem sp_awake24 : CallR Go.Proofs.Try.prog 55 [] [] [] (.rv (.bool true)) := by
  refine callR_G k_decoupagelaw24_awake [] _ (by simp) (by simp [BkAll, bk_agg, bkAll_map, bk_rv, bk_fn, Sty.sv, Ln.sv, Nd.sv]) (fun K hK => ?_)
  have hk := sp_kin_OfR [⟨plainS, -1⟩] (by decide) one_chk 0 0
  have h1 := sp_Way [⟨plainS, -1⟩] (tree_shp one_tree) (by decide) 0
  have h2 := sp_Less [⟨plainS, -1⟩] (tree_shp one_tree) (by decide) ⟨0, 0⟩ ⟨0, 1⟩
  rw [one_way] at h1
  rw [one_less] at h2
  simp -implicitDefEqProofs only [Spt.sv, Spt.cells, List.map_cons, List.map_nil] at h2
  have e1 : ((0 : Int) == 0) = true := rfl
  have e2 : (((1 : Nat) : Int) == 1) = true := rfl
  have e3 : (stL [⟨0, 0, 0⟩]).length = 1 := rfl
  simp -implicitDefEqProofs only [c_decoupagelaw24_awake, go_sem, ↓reduceIte, Nat.reduceEqDiff, Nat.reduceAdd, Nat.reduceSub, Nat.reduceMul, Nat.reduceLeDiff, Nat.reduceLT, reduceCtorEq, Int.reduceToNat]
  have hcall21 := sp_Plain; repeat' (first | (simp -implicitDefEqProofs only [go_sem, ↓reduceIte, Nat.reduceEqDiff, Nat.reduceAdd, Nat.reduceSub, Nat.reduceMul, Nat.reduceLeDiff, Nat.reduceLT, reduceCtorEq, Int.reduceToNat, sty_len]) | (with_reducible refine g_noent ?_) | (with_reducible refine g_call0 hcall21 ?_) | (with_reducible refine g_calld0 hcall21 ?_) | (refine cdS (fun hg => ?_) (fun hg => ?_) <;> try simp -implicitDefEqProofs only [hg, Bool.not_true, Bool.not_false]) | (refine gdS (fun hg => ?_) (fun hg => ?_) <;> try simp -implicitDefEqProofs only [hg, Bool.not_true, Bool.not_false]) | (refine gddS (fun hg => ?_) (fun hg => ?_) <;> try simp -implicitDefEqProofs only [hg, Bool.not_true, Bool.not_false]) | ((with_reducible apply And.intro); focus (first | trivial | omega | decide | (simp -implicitDefEqProofs only [maxLen]; omega) | (simp [maxLen, sty_len, nd_len, ndL_len, lnL_len, intsL_len, rvs_len, lensS_len]; done) | (simp [maxLen, sty_len, nd_len, ndL_len, lnL_len, intsL_len, rvs_len, lensS_len]; omega))) | fail)
  refine g_call hk (pre_one rfl) trivial ?_
  have hcall22 := h1; have hcall23 := h2; repeat' (first | (simp -implicitDefEqProofs only [go_sem, ↓reduceIte, Nat.reduceEqDiff, Nat.reduceAdd, Nat.reduceSub, Nat.reduceMul, Nat.reduceLeDiff, Nat.reduceLT, reduceCtorEq, Int.reduceToNat, e1, e2, e3]) | (with_reducible refine g_noent ?_) | (with_reducible refine g_call0 hcall22 ?_) | (with_reducible refine g_calld0 hcall22 ?_) | (with_reducible refine g_call0 hcall23 ?_) | (with_reducible refine g_calld0 hcall23 ?_) | (refine cdS (fun hg => ?_) (fun hg => ?_) <;> try simp -implicitDefEqProofs only [hg, Bool.not_true, Bool.not_false]) | (refine gdS (fun hg => ?_) (fun hg => ?_) <;> try simp -implicitDefEqProofs only [hg, Bool.not_true, Bool.not_false]) | (refine gddS (fun hg => ?_) (fun hg => ?_) <;> try simp -implicitDefEqProofs only [hg, Bool.not_true, Bool.not_false]) | ((with_reducible apply And.intro); focus (first | trivial | omega | decide | (simp -implicitDefEqProofs only [maxLen]; omega) | (simp [maxLen, sty_len, nd_len, ndL_len, lnL_len, intsL_len, rvs_len, lensS_len]; done) | (simp [maxLen, sty_len, nd_len, ndL_len, lnL_len, intsL_len, rvs_len, lensS_len]; omega))) | fail)
  exact (hK _ _ (ret_t rfl)).2
end Go.Eng

/- rank: the statements as functions. -/
namespace Go.Eng
open Go
/- decoupage/decoupagelaw24.RankTells -/
def c_decoupagelaw24_RankTells : AC := (.seq (.reg [⟨(some 4), .box, [(.t 1)], none⟩, ⟨(some 5), .box, [(.t 2)], none⟩, ⟨(some 6), .mv, [(.c (.rv (.bool false)))], none⟩]) (.seq (.seq (.reg [⟨(some 12), (.call 55), [], none⟩, ⟨(some 13), .not, [(.t 12)], none⟩, ⟨(some 14), .mv, [(.t 13)], none⟩, ⟨(some 15), .mv, [(.t 0)], (some (14, false))⟩, ⟨(some 16), .len, [(.t 15)], (some (14, false))⟩, ⟨(some 17), (.ibin .gtr), [(.t 16), (.c (.rv (.int .i64 30)))], (some (14, false))⟩, ⟨(some 18), .pick, [(.t 14), (.c (.rv (.bool true))), (.t 17)], none⟩, ⟨(some 19), .mv, [(.t 18)], none⟩, ⟨(some 20), .mv, [(.t 0)], (some (19, false))⟩, ⟨(some 21), (.call 21), [(.t 20)], (some (19, false))⟩, ⟨(some 22), (.ibin .neq), [(.t 21), (.c (.rv (.int .i64 0)))], (some (19, false))⟩, ⟨(some 23), .pick, [(.t 19), (.c (.rv (.bool true))), (.t 22)], none⟩]) (.cond (.t 23) (.seq (.reg [⟨(some 24), (.call 55), [], none⟩, ⟨(some 6), .mv, [(.t 24)], none⟩]) .ret) .skip)) (.seq (.reg [⟨(some 26), .mv, [(.t 0)], none⟩, ⟨(some 27), (.call 17), [(.t 26)], none⟩, ⟨(some 25), .mv, [(.t 27)], none⟩, ⟨(some 28), (.ext 0), [(.t 25)], none⟩, ⟨(some 29), (.ext 1), [(.t 25)], none⟩, ⟨(some 7), .mv, [(.t 28)], none⟩, ⟨(some 8), .mv, [(.t 29)], none⟩]) (.seq (.regd [0, 0, 2, 7, 0, 0, 32, 127, 255, 511] [⟨(some 30), .mv, [(.t 7)], none⟩, ⟨(some 31), (.fld 0), [(.t 4)], none⟩, ⟨(some 32), (.load 1 false), [(.t 31)], none⟩, ⟨(some 33), (.call 56), [(.t 30), (.t 32)], none⟩, ⟨(some 34), .mv, [(.t 0)], none⟩, ⟨(some 35), (.fld 0), [(.t 4)], none⟩, ⟨(some 36), (.load 1 false), [(.t 35)], none⟩, ⟨(some 37), (.call 57), [(.t 34), (.t 36)], none⟩, ⟨(some 9), .mv, [(.t 33)], none⟩, ⟨(some 10), .mv, [(.t 37)], none⟩]) (.seq (.seq (.reg [⟨(some 38), .mv, [(.t 8)], none⟩, ⟨(some 39), (.ibin .neq), [(.t 38), (.c (.rv (.int .i64 0)))], none⟩, ⟨(some 40), .mv, [(.t 39)], none⟩, ⟨(some 41), .mv, [(.t 9)], (some (40, false))⟩, ⟨(some 42), .len, [(.t 41)], (some (40, false))⟩, ⟨(some 43), .mv, [(.t 10)], (some (40, false))⟩, ⟨(some 44), .len, [(.t 43)], (some (40, false))⟩, ⟨(some 45), (.ibin .neq), [(.t 42), (.t 44)], (some (40, false))⟩, ⟨(some 46), .pick, [(.t 40), (.c (.rv (.bool true))), (.t 45)], none⟩]) (.cond (.t 46) (.seq (.reg [⟨(some 6), .mv, [(.c (.rv (.bool false)))], none⟩]) .ret) .skip)) (.seq (.seq (.reg [⟨(some 47), .mv, [(.t 9)], none⟩, ⟨(some 48), .len, [(.t 47)], none⟩, ⟨(some 49), .mv, [(.c (.rv (.int .i64 0)))], none⟩]) (.seq (.block 0 (.loop (.seq (.reg [⟨(some 50), (.ibin .lss), [(.t 49), (.t 48)], none⟩]) (.seq (.cond (.t 50) .skip (.exit 0)) (.seq (.seq (.block 1 (.seq (.reg [⟨(some 51), .mv, [(.t 49)], none⟩, ⟨(some 11), .mv, [(.t 51)], none⟩]) (.seq (.regd [0, 0, 3, 7, 0, 0, 48, 112, 255] [⟨(some 52), .mv, [(.t 9)], none⟩, ⟨(some 53), .mv, [(.t 11)], none⟩, ⟨(some 54), (.ixs 3), [(.t 52), (.t 53)], none⟩, ⟨(some 55), (.load 3 true), [(.t 54)], none⟩, ⟨(some 56), .mv, [(.t 10)], none⟩, ⟨(some 57), .mv, [(.t 11)], none⟩, ⟨(some 58), (.ixs 3), [(.t 56), (.t 57)], none⟩, ⟨(some 59), (.load 3 true), [(.t 58)], none⟩, ⟨(some 60), (.eqs true true [.i, .i, .i]), [(.t 55), (.t 59)], none⟩]) (.cond (.t 60) (.seq (.reg [⟨(some 6), .mv, [(.c (.rv (.bool false)))], none⟩]) .ret) .skip)))) .ent) (.reg [⟨(some 61), (.ibin .add), [(.t 49), (.c (.rv (.int .i64 1)))], none⟩, ⟨(some 49), .mv, [(.t 61)], none⟩])))))) .ent)) (.seq (.regd [0, 0, 0, 7, 0, 0, 0, 127, 255, 511] [⟨(some 62), .mv, [(.t 7)], none⟩, ⟨(some 63), (.load 2 true), [(.t 4)], none⟩, ⟨(some 64), (.load 2 true), [(.t 5)], none⟩, ⟨(some 65), (.call 58), [(.t 62), (.t 63), (.t 64)], none⟩, ⟨(some 66), .mv, [(.t 0)], none⟩, ⟨(some 67), (.load 2 true), [(.t 4)], none⟩, ⟨(some 68), (.load 2 true), [(.t 5)], none⟩, ⟨(some 69), (.call 59), [(.t 66), (.t 67), (.t 68)], none⟩, ⟨(some 70), (.eqb false), [(.t 65), (.t 69)], none⟩, ⟨(some 6), .mv, [(.t 70)], none⟩]) .ret)))))))
theorem k_decoupagelaw24_RankTells : FnOK Go.Proofs.Try.prog 13 71 c_decoupagelaw24_RankTells [(.t 6)] := fnOK_of (by kernel_rfl)

set_option maxHeartbeats 2000000 in
theorem sp_RankTells (l : List Nd) (a b : Spt) : CallR Go.Proofs.Try.prog 13 [.rv (.sl 49 (ndL l)), a.sv, b.sv] [] [] (.rv (.bool true)) := by
  refine callR_G k_decoupagelaw24_RankTells [.rv (.sl 49 (ndL l)), a.sv, b.sv] _ (by simp) (by simp [BkAll, bk_agg, bkAll_map, bk_rv, bk_fn, Sty.sv, Ln.sv, Nd.sv]) (fun K hK => ?_)
  have hlen := ndL_len l
  simp -implicitDefEqProofs only [c_decoupagelaw24_RankTells, go_sem, ↓reduceIte, Nat.reduceEqDiff, Nat.reduceAdd, Nat.reduceSub, Nat.reduceMul, Nat.reduceLeDiff, Nat.reduceLT, reduceCtorEq, Int.reduceToNat]
  by_cases hl : l.length > 30
  · have e1 : decide ((l.length : Int) > 30) = true := decide_eq_true (by omega)
    have hcall1 := sp_awake24; repeat' (first | (simp -implicitDefEqProofs only [go_sem, ↓reduceIte, Nat.reduceEqDiff, Nat.reduceAdd, Nat.reduceSub, Nat.reduceMul, Nat.reduceLeDiff, Nat.reduceLT, reduceCtorEq, Int.reduceToNat, hlen, e1]) | (with_reducible refine g_noent ?_) | (with_reducible refine g_call0 hcall1 ?_) | (with_reducible refine g_calld0 hcall1 ?_) | (refine cdS (fun hg => ?_) (fun hg => ?_) <;> try simp -implicitDefEqProofs only [hg, Bool.not_true, Bool.not_false]) | (refine gdS (fun hg => ?_) (fun hg => ?_) <;> try simp -implicitDefEqProofs only [hg, Bool.not_true, Bool.not_false]) | (refine gddS (fun hg => ?_) (fun hg => ?_) <;> try simp -implicitDefEqProofs only [hg, Bool.not_true, Bool.not_false]) | ((with_reducible apply And.intro); focus (first | trivial | omega | decide | (simp -implicitDefEqProofs only [maxLen]; omega) | (simp [maxLen, sty_len, nd_len, ndL_len, lnL_len, intsL_len, rvs_len, lensS_len]; done) | (simp [maxLen, sty_len, nd_len, ndL_len, lnL_len, intsL_len, rvs_len, lensS_len]; omega))) | fail)
    exact (hK _ _ (ret_t rfl)).2
  · have e1 : decide ((l.length : Int) > 30) = false := decide_eq_false (by omega)
    have hb : l.length ≤ 8589934592 := by omega
    have hck := sp_ref07_Check l hb
    by_cases hc : chk l = 0
    · have ht := chk_tree hc
      have hs := tree_shp ht
      rw [hc] at hck
      have e00 : ((0 : Int) != 0) = false := rfl
      have w1 := sp_Way l hs (by omega) a.n
      have w2 := sp_ref24_Way l ht (by omega) a.n
      have h1 := sp_Less l hs (by omega) a b
      have h2 := sp_ref24_Less l ht (by omega) a b
      have b1 := way_b l a.n
      generalize wayAt l a.n = x at *
      have hlx := stL_len x
      have hcall2 := sp_awake24; have hcall3 := hck; have hcall4 := sp_kin_Of l hb hc; have hcall5 := w1; have hcall6 := w2; repeat' (first | (simp -implicitDefEqProofs only [go_sem, ↓reduceIte, Nat.reduceEqDiff, Nat.reduceAdd, Nat.reduceSub, Nat.reduceMul, Nat.reduceLeDiff, Nat.reduceLT, reduceCtorEq, Int.reduceToNat, hlen, e1, e00, hlx, bne_self_eq_false, spt_at0, spt_len, spt_take2]) | (with_reducible refine g_noent ?_) | (with_reducible refine g_call0 hcall2 ?_) | (with_reducible refine g_calld0 hcall2 ?_) | (with_reducible refine g_call0 hcall3 ?_) | (with_reducible refine g_calld0 hcall3 ?_) | (with_reducible refine g_call0 hcall4 ?_) | (with_reducible refine g_calld0 hcall4 ?_) | (with_reducible refine g_call0 hcall5 ?_) | (with_reducible refine g_calld0 hcall5 ?_) | (with_reducible refine g_call0 hcall6 ?_) | (with_reducible refine g_calld0 hcall6 ?_) | (refine cdS (fun hg => ?_) (fun hg => ?_) <;> try simp -implicitDefEqProofs only [hg, Bool.not_true, Bool.not_false]) | (refine gdS (fun hg => ?_) (fun hg => ?_) <;> try simp -implicitDefEqProofs only [hg, Bool.not_true, Bool.not_false]) | (refine gddS (fun hg => ?_) (fun hg => ?_) <;> try simp -implicitDefEqProofs only [hg, Bool.not_true, Bool.not_false]) | ((with_reducible apply And.intro); focus (first | trivial | omega | decide | (simp -implicitDefEqProofs only [maxLen]; omega) | (simp [maxLen, sty_len, nd_len, ndL_len, lnL_len, intsL_len, rvs_len, lensS_len]; done) | (simp [maxLen, sty_len, nd_len, ndL_len, lnL_len, intsL_len, rvs_len, lensS_len]; omega) | (exact ⟨rfl, by decide⟩; done))) | fail)
      refine g_loop (ι := Nat) (fun k => [(49, .rv (.int .i64 k)), (48, .rv (.int .i64 x.length)), (9, .rv (.sl 3 (stL x))), (10, .rv (.sl 3 (stL x))), (7, .rv (kinV l)), (0, .rv (.sl 49 (ndL l))), (4, .ptr 0 0), (5, .ptr 1 0)]) (fun _ => [some (.var (a.cells.map .rv)), some (.var (b.cells.map .rv))]) (fun k => k ≤ x.length) (fun k => x.length - k) 0 (by simp) (ent_env (by simp [lk])) (fun k hk K' hN hX hR => ?_)
      simp -implicitDefEqProofs only [go_sem, ↓reduceIte, Nat.reduceEqDiff, Nat.reduceAdd, Nat.reduceSub, Nat.reduceMul, Nat.reduceLeDiff, Nat.reduceLT, reduceCtorEq, Int.reduceToNat]
      refine cdS (fun hg => ?_) (fun hg => ?_)
      · have hk4 : k < x.length := by simp at hg; omega
        have wu := wrap_up (k := k) (by omega)
        have hx := stL_get hk4
        obtain ⟨pe, hpe, heq⟩ := st_eqs x[k] x[k]
        rw [show decide (x[k] = x[k]) = true from decide_eq_true rfl] at heq
        repeat' (first | (simp -implicitDefEqProofs only [go_sem, ↓reduceIte, Nat.reduceEqDiff, Nat.reduceAdd, Nat.reduceSub, Nat.reduceMul, Nat.reduceLeDiff, Nat.reduceLT, reduceCtorEq, Int.reduceToNat, hx, hlx, st_len, st_take, st_take2, heq, wu]) | (with_reducible refine g_noent ?_) | (refine cdS (fun hg => ?_) (fun hg => ?_) <;> try simp -implicitDefEqProofs only [hg, Bool.not_true, Bool.not_false]) | (refine gdS (fun hg => ?_) (fun hg => ?_) <;> try simp -implicitDefEqProofs only [hg, Bool.not_true, Bool.not_false]) | (refine gddS (fun hg => ?_) (fun hg => ?_) <;> try simp -implicitDefEqProofs only [hg, Bool.not_true, Bool.not_false]) | ((with_reducible apply And.intro); focus (first | trivial | omega | decide | (simp -implicitDefEqProofs only [maxLen]; omega) | (simp [maxLen, sty_len, nd_len, ndL_len, lnL_len, intsL_len, rvs_len, lensS_len]; done) | (simp [maxLen, sty_len, nd_len, ndL_len, lnL_len, intsL_len, rvs_len, lensS_len]; omega) | (exact hpe; done))) | fail)
        exact hN (k + 1) _ _ (by omega) (by omega) (ent_env (by simp [lk]))
      · simp -implicitDefEqProofs only [go_sem, ↓reduceIte, Nat.reduceEqDiff, Nat.reduceAdd, Nat.reduceSub, Nat.reduceMul, Nat.reduceLeDiff, Nat.reduceLT, reduceCtorEq, Int.reduceToNat]
        refine hX _ _ _ ?_
        have hcall7 := h1; have hcall8 := h2; repeat' (first | (simp -implicitDefEqProofs only [go_sem, ↓reduceIte, Nat.reduceEqDiff, Nat.reduceAdd, Nat.reduceSub, Nat.reduceMul, Nat.reduceLeDiff, Nat.reduceLT, reduceCtorEq, Int.reduceToNat, spt_len, spt_take2, beq_self_eq_true]) | (with_reducible refine g_noent ?_) | (with_reducible refine g_call0 hcall7 ?_) | (with_reducible refine g_calld0 hcall7 ?_) | (with_reducible refine g_call0 hcall8 ?_) | (with_reducible refine g_calld0 hcall8 ?_) | (refine cdS (fun hg => ?_) (fun hg => ?_) <;> try simp -implicitDefEqProofs only [hg, Bool.not_true, Bool.not_false]) | (refine gdS (fun hg => ?_) (fun hg => ?_) <;> try simp -implicitDefEqProofs only [hg, Bool.not_true, Bool.not_false]) | (refine gddS (fun hg => ?_) (fun hg => ?_) <;> try simp -implicitDefEqProofs only [hg, Bool.not_true, Bool.not_false]) | ((with_reducible apply And.intro); focus (first | trivial | omega | decide | (simp -implicitDefEqProofs only [maxLen]; omega) | (simp [maxLen, sty_len, nd_len, ndL_len, lnL_len, intsL_len, rvs_len, lensS_len]; done) | (simp [maxLen, sty_len, nd_len, ndL_len, lnL_len, intsL_len, rvs_len, lensS_len]; omega) | (exact ⟨rfl, by decide⟩; done))) | fail)
        exact (hK _ _ (ret_t rfl)).2
    · have e00 : (chk l != 0) = true := by simpa using hc
      have hcall9 := sp_awake24; have hcall10 := hck; repeat' (first | (simp -implicitDefEqProofs only [go_sem, ↓reduceIte, Nat.reduceEqDiff, Nat.reduceAdd, Nat.reduceSub, Nat.reduceMul, Nat.reduceLeDiff, Nat.reduceLT, reduceCtorEq, Int.reduceToNat, hlen, e1, e00]) | (with_reducible refine g_noent ?_) | (with_reducible refine g_call0 hcall9 ?_) | (with_reducible refine g_calld0 hcall9 ?_) | (with_reducible refine g_call0 hcall10 ?_) | (with_reducible refine g_calld0 hcall10 ?_) | (refine cdS (fun hg => ?_) (fun hg => ?_) <;> try simp -implicitDefEqProofs only [hg, Bool.not_true, Bool.not_false]) | (refine gdS (fun hg => ?_) (fun hg => ?_) <;> try simp -implicitDefEqProofs only [hg, Bool.not_true, Bool.not_false]) | (refine gddS (fun hg => ?_) (fun hg => ?_) <;> try simp -implicitDefEqProofs only [hg, Bool.not_true, Bool.not_false]) | ((with_reducible apply And.intro); focus (first | trivial | omega | decide | (simp -implicitDefEqProofs only [maxLen]; omega) | (simp [maxLen, sty_len, nd_len, ndL_len, lnL_len, intsL_len, rvs_len, lensS_len]; done) | (simp [maxLen, sty_len, nd_len, ndL_len, lnL_len, intsL_len, rvs_len, lensS_len]; omega))) | fail)
      exact (hK _ _ (ret_t rfl)).2

end Go.Eng

/- What comes in, as nodes and numbers. -/
namespace Go.Eng
open Go Go.Proofs

theorem tyInt {n : Nat} {rs : List RV} (h : TyC Go.Proofs.Try.prog (n + 1) 3 rs) : ∃ i, rs = [.int .i64 i] := by
  obtain ⟨i, h, _⟩ := tyC_int Try.underlying3 h
  exact ⟨i, h⟩
theorem tyInt64 {n : Nat} {rs : List RV} (h : TyC Go.Proofs.Try.prog (n + 1) 2 rs) : ∃ i, rs = [.int .i64 i] := by
  obtain ⟨i, h, _⟩ := tyC_int Try.underlying2 h
  exact ⟨i, h⟩
theorem tyBool {n : Nat} {rs : List RV} (h : TyC Go.Proofs.Try.prog (n + 1) 4 rs) : ∃ b, rs = [.bool b] := by
  exact tyC_bool Try.underlying4 h
theorem tyLen {n : Nat} {rs : List RV} (h : TyC Go.Proofs.Try.prog (n + 2) 36 rs) : ∃ x : Ln, rs = x.cells := by
  have h := tyC_struct Try.underlying36 h
  obtain ⟨_, _, rfl, h1, _, _, rfl, h2, rfl⟩ := h
  obtain ⟨i, rfl⟩ := tyInt h1
  obtain ⟨j, rfl⟩ := tyInt64 h2
  exact ⟨⟨i, j⟩, rfl⟩
theorem list4 {α : Type} {xs : List α} (h : xs.length = 4) : ∃ a b c d, xs = [a, b, c, d] := by
  match xs, h with
  | [a, b, c, d], _ => exact ⟨a, b, c, d, rfl⟩
theorem tyQ {n : Nat} {rs : List RV} (h : TyC Go.Proofs.Try.prog (n + 3) 37 rs) : ∃ q : Q4 Ln, rs = q.lns := by
  obtain ⟨xs, rfl, hl, hx⟩ := tyC_array Try.underlying37 h
  obtain ⟨a, b, c, d, rfl⟩ := list4 hl
  obtain ⟨a, rfl⟩ := tyLen (hx a (by simp))
  obtain ⟨b, rfl⟩ := tyLen (hx b (by simp))
  obtain ⟨c, rfl⟩ := tyLen (hx c (by simp))
  obtain ⟨d, rfl⟩ := tyLen (hx d (by simp))
  exact ⟨⟨a, b, c, d⟩, rfl⟩
theorem tyB {n : Nat} {rs : List RV} (h : TyC Go.Proofs.Try.prog (n + 2) 38 rs) : ∃ q : Q4 Int, rs = q.ints := by
  obtain ⟨xs, rfl, hl, hx⟩ := tyC_array Try.underlying38 h
  obtain ⟨a, b, c, d, rfl⟩ := list4 hl
  obtain ⟨a, rfl⟩ := tyInt64 (hx a (by simp))
  obtain ⟨b, rfl⟩ := tyInt64 (hx b (by simp))
  obtain ⟨c, rfl⟩ := tyInt64 (hx c (by simp))
  obtain ⟨d, rfl⟩ := tyInt64 (hx d (by simp))
  exact ⟨⟨a, b, c, d⟩, rfl⟩
theorem tySty {n : Nat} {rs : List RV} (h : TyC Go.Proofs.Try.prog (n + 4) 40 rs) : ∃ s : Sty, rs = s.cells := by
  have h := tyC_struct Try.underlying40 h
  obtain ⟨_, _, rfl, h1, _, _, rfl, h2, _, _, rfl, h3, _, _, rfl, h4, _, _, rfl, h5, _, _, rfl, h6, _, _, rfl, h7, _, _, rfl, h8, _, _, rfl, h9, _, _, rfl, h10, _, _, rfl, h11, _, _, rfl, h12, _, _, rfl, h13, _, _, rfl, h14, _, _, rfl, h15, _, _, rfl, h16, _, _, rfl, h17, _, _, rfl, h18, rfl⟩ := h
  obtain ⟨b1, rfl⟩ := tyBool h1
  obtain ⟨i2, rfl⟩ := tyInt h2
  obtain ⟨q3, rfl⟩ := tyQ h3
  obtain ⟨x4, rfl⟩ := tyLen h4
  obtain ⟨x5, rfl⟩ := tyLen h5
  obtain ⟨x6, rfl⟩ := tyLen h6
  obtain ⟨x7, rfl⟩ := tyLen h7
  obtain ⟨x8, rfl⟩ := tyLen h8
  obtain ⟨x9, rfl⟩ := tyLen h9
  obtain ⟨q10, rfl⟩ := tyQ h10
  obtain ⟨q11, rfl⟩ := tyQ h11
  obtain ⟨q12, rfl⟩ := tyB h12
  obtain ⟨b13, rfl⟩ := tyBool h13
  obtain ⟨b14, rfl⟩ := tyBool h14
  obtain ⟨i15, rfl⟩ := tyInt64 h15
  obtain ⟨b16, rfl⟩ := tyBool h16
  obtain ⟨i17, rfl⟩ := tyInt64 h17
  obtain ⟨i18, rfl⟩ := tyInt64 h18
  exact ⟨⟨b1, i2, q3, x4, x5, x6, x7, x8, x9, q10, q11, q12, b13, b14, i15, b16, i17, i18⟩, rfl⟩
theorem tyNode {n : Nat} {rs : List RV} (h : TyC Go.Proofs.Try.prog (n + 5) 42 rs) : ∃ x : Nd, rs = x.cells := by
  have h := tyC_struct Try.underlying42 h
  obtain ⟨_, _, rfl, h1, _, _, rfl, h2, rfl⟩ := h
  obtain ⟨s, rfl⟩ := tySty h1
  obtain ⟨i, rfl⟩ := tyInt h2
  exact ⟨⟨s, i⟩, rfl⟩
theorem list_of {α : Type} {f : α → List RV} : ∀ {xs : List (List RV)}, (∀ x ∈ xs, ∃ a, x = f a) → ∃ l : List α, xs = l.map f
  | [], _ => ⟨[], rfl⟩
  | x :: xs, h => by
    obtain ⟨a, rfl⟩ := h x (by simp)
    obtain ⟨l, rfl⟩ := list_of (xs := xs) fun y hy => h y (by simp [hy])
    exact ⟨a :: l, rfl⟩

theorem cells49 : Program.cellsOf Go.Proofs.Try.prog 42 = 49 := by kernel_rfl
theorem aggN : aggT Go.Proofs.Try.prog 22 = some false := by kernel_rfl
theorem openNodes {rs : List RV} (h : TyC Go.Proofs.Try.prog 6 22 rs) : ∃ l : List Nd, argS Go.Proofs.Try.prog 22 rs = .rv (.sl 49 (ndL l)) := by
  obtain ⟨xs, rfl, _, hx⟩ := tyC_slice Try.underlying22 h
  obtain ⟨l, rfl⟩ := list_of fun x hx' => tyNode (hx x hx')
  refine ⟨l, ?_⟩
  rw [argS_one aggN, cells49]; rfl
end Go.Eng

/- What comes in, as spots. -/
namespace Go.Eng
open Go Go.Proofs
theorem tySpot {n : Nat} {rs : List RV} (h : TyC Go.Proofs.Try.prog (n + 2) 61 rs) : ∃ x : Spt, rs = x.cells := by
  have h := tyC_struct Try.underlying61 h
  obtain ⟨_, _, rfl, h1, _, _, rfl, h2, rfl⟩ := h
  obtain ⟨i, rfl⟩ := tyInt h1
  obtain ⟨j, rfl⟩ := tyInt h2
  exact ⟨⟨i, j⟩, rfl⟩
theorem aggS : aggT Go.Proofs.Try.prog 61 = some true := by kernel_rfl
theorem openSpot {rs : List RV} (h : TyC Go.Proofs.Try.prog 2 61 rs) : ∃ x : Spt, argS Go.Proofs.Try.prog 61 rs = x.sv := by
  obtain ⟨x, rfl⟩ := tySpot h
  exact ⟨x, argS_agg aggS⟩
end Go.Eng
