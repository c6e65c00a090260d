/- Part 6 of the proof: L2, K9R, K13, L3, L4, KF. -/
import Derived.Test.YteenlielghgkdaaLevelParts5
import Derived.Test.YteenlielghgkdaaProg
import Derived.KernelRfl
set_option linter.unusedSimpArgs false
set_option linter.unusedVariables false
/- level: the members of a group, the parts of a context. -/
namespace Go.Eng
open Go
/- decoupage/level.Members -/
def c_level_Members : AC := (.seq (.reg [⟨(some 4), .mv, [(.c (.rv .nilsl))], none⟩]) (.seq (.reg [⟨(some 5), .mv, [(.c (.rv .nilsl))], none⟩]) (.seq (.seq (.reg [⟨(some 7), .mv, [(.t 0)], none⟩, ⟨(some 8), .mv, [(.t 1)], none⟩, ⟨(some 9), (.call 38), [(.t 7), (.t 8)], none⟩, ⟨(some 10), .not, [(.t 9)], none⟩]) (.cond (.t 10) (.seq (.reg [⟨(some 4), .mv, [(.c (.rv .nilsl))], none⟩]) .ret) .skip)) (.seq (.seq (.reg [⟨(some 11), .mv, [(.t 1)], none⟩, ⟨(some 12), (.ibin .add), [(.t 11), (.c (.rv (.int .i64 1)))], none⟩, ⟨(some 6), .mv, [(.t 12)], none⟩]) (.seq (.block 0 (.loop (.seq (.seq (.reg [⟨(some 13), .mv, [(.t 6)], none⟩, ⟨(some 14), .mv, [(.t 0)], none⟩, ⟨(some 15), .mv, [(.t 1)], none⟩, ⟨(some 16), (.call 18), [(.t 14), (.t 15)], none⟩, ⟨(some 17), (.ibin .lss), [(.t 13), (.t 16)], none⟩]) (.cond (.t 17) .skip (.exit 0))) (.seq (.seq (.block 1 (.seq (.reg [⟨(some 20), .mv, [(.t 0)], none⟩, ⟨(some 21), .mv, [(.t 6)], none⟩, ⟨(some 22), (.call 42), [(.t 20), (.t 21)], none⟩, ⟨(some 23), .mv, [(.t 1)], none⟩, ⟨(some 24), (.ibin .eql), [(.t 22), (.t 23)], none⟩]) (.seq (.cond (.t 24) (.reg [⟨(some 25), .mv, [(.t 5)], none⟩, ⟨(some 26), .mv, [(.t 6)], none⟩, ⟨(some 27), (.bsl 1), [(.t 26)], none⟩, ⟨(some 28), (.app 1 8), [(.t 25), (.t 27)], none⟩, ⟨(some 5), .mv, [(.t 28)], none⟩]) .skip) .ent))) .ent) (.reg [⟨(some 18), .mv, [(.t 6)], none⟩, ⟨(some 19), (.ibin .add), [(.t 18), (.c (.rv (.int .i64 1)))], none⟩, ⟨(some 6), .mv, [(.t 19)], none⟩]))))) .ent)) (.seq (.reg [⟨(some 29), .mv, [(.t 5)], none⟩, ⟨(some 4), .mv, [(.t 29)], none⟩]) .ret)))))
theorem k_level_Members : FnOK Go.Proofs.Try.prog 47 30 c_level_Members [(.t 4)] := fnOK_of (by kernel_rfl)

/- decoupage/level.Parts -/
def c_level_Parts : AC := (.seq (.reg [⟨(some 4), .mv, [(.c (.rv .nilsl))], none⟩]) (.seq (.reg [⟨(some 5), .mv, [(.c (.rv .nilsl))], none⟩]) (.seq (.seq (.reg [⟨(some 7), .mv, [(.t 0)], none⟩, ⟨(some 8), .mv, [(.t 1)], none⟩, ⟨(some 9), (.call 40), [(.t 7), (.t 8)], none⟩, ⟨(some 10), .not, [(.t 9)], none⟩]) (.cond (.t 10) (.seq (.reg [⟨(some 4), .mv, [(.c (.rv .nilsl))], none⟩]) .ret) .skip)) (.seq (.seq (.reg [⟨(some 11), .mv, [(.t 1)], none⟩, ⟨(some 12), (.ibin .add), [(.t 11), (.c (.rv (.int .i64 1)))], none⟩, ⟨(some 6), .mv, [(.t 12)], none⟩]) (.seq (.block 0 (.loop (.seq (.seq (.reg [⟨(some 13), .mv, [(.t 6)], none⟩, ⟨(some 14), .mv, [(.t 0)], none⟩, ⟨(some 15), .mv, [(.t 1)], none⟩, ⟨(some 16), (.call 18), [(.t 14), (.t 15)], none⟩, ⟨(some 17), (.ibin .lss), [(.t 13), (.t 16)], none⟩]) (.cond (.t 17) .skip (.exit 0))) (.seq (.seq (.block 1 (.seq (.reg [⟨(some 20), .mv, [(.t 0)], none⟩, ⟨(some 21), .mv, [(.t 6)], none⟩, ⟨(some 22), (.call 38), [(.t 20), (.t 21)], none⟩, ⟨(some 23), .mv, [(.t 22)], none⟩, ⟨(some 24), .mv, [(.t 0)], (some (23, true))⟩, ⟨(some 25), .mv, [(.t 6)], (some (23, true))⟩, ⟨(some 26), (.call 44), [(.t 24), (.t 25)], (some (23, true))⟩, ⟨(some 27), .mv, [(.t 1)], (some (23, true))⟩, ⟨(some 28), (.ibin .eql), [(.t 26), (.t 27)], (some (23, true))⟩, ⟨(some 29), .pick, [(.t 23), (.t 28), (.c (.rv (.bool false)))], none⟩]) (.seq (.cond (.t 29) (.reg [⟨(some 30), .mv, [(.t 5)], none⟩, ⟨(some 31), .mv, [(.t 6)], none⟩, ⟨(some 32), (.bsl 1), [(.t 31)], none⟩, ⟨(some 33), (.app 1 8), [(.t 30), (.t 32)], none⟩, ⟨(some 5), .mv, [(.t 33)], none⟩]) .skip) .ent))) .ent) (.reg [⟨(some 18), .mv, [(.t 6)], none⟩, ⟨(some 19), (.ibin .add), [(.t 18), (.c (.rv (.int .i64 1)))], none⟩, ⟨(some 6), .mv, [(.t 19)], none⟩]))))) .ent)) (.seq (.reg [⟨(some 34), .mv, [(.t 5)], none⟩, ⟨(some 4), .mv, [(.t 34)], none⟩]) .ret)))))
theorem k_level_Parts : FnOK Go.Proofs.Try.prog 49 35 c_level_Parts [(.t 4)] := fnOK_of (by kernel_rfl)

/- decoupage/decoupageref23.Members -/
def c_decoupageref23_Members : AC := (.seq (.reg [⟨(some 4), .mv, [(.c (.rv .nilsl))], none⟩]) (.seq (.reg [⟨(some 5), .mv, [(.c (.rv .nilsl))], none⟩]) (.seq (.seq (.reg [⟨(some 7), .mv, [(.t 0)], none⟩, ⟨(some 8), .len, [(.t 7)], none⟩, ⟨(some 9), .mv, [(.c (.rv (.int .i64 0)))], none⟩]) (.seq (.block 0 (.loop (.seq (.reg [⟨(some 10), (.ibin .lss), [(.t 9), (.t 8)], none⟩]) (.seq (.cond (.t 10) .skip (.exit 0)) (.seq (.seq (.block 1 (.seq (.reg [⟨(some 11), .mv, [(.t 9)], none⟩, ⟨(some 6), .mv, [(.t 11)], none⟩]) (.seq (.reg [⟨(some 12), .mv, [(.t 0)], none⟩, ⟨(some 13), .mv, [(.t 1)], none⟩, ⟨(some 14), (.call 39), [(.t 12), (.t 13)], none⟩, ⟨(some 15), .mv, [(.t 14)], none⟩, ⟨(some 16), .mv, [(.t 6)], (some (15, true))⟩, ⟨(some 17), .mv, [(.t 1)], (some (15, true))⟩, ⟨(some 18), (.ibin .neq), [(.t 16), (.t 17)], (some (15, true))⟩, ⟨(some 19), .pick, [(.t 15), (.t 18), (.c (.rv (.bool false)))], none⟩, ⟨(some 20), .mv, [(.t 19)], none⟩, ⟨(some 21), .mv, [(.t 0)], (some (20, true))⟩, ⟨(some 22), .mv, [(.t 6)], (some (20, true))⟩, ⟨(some 23), (.call 43), [(.t 21), (.t 22)], (some (20, true))⟩, ⟨(some 24), .mv, [(.t 1)], (some (20, true))⟩, ⟨(some 25), (.ibin .eql), [(.t 23), (.t 24)], (some (20, true))⟩, ⟨(some 26), .pick, [(.t 20), (.t 25), (.c (.rv (.bool false)))], none⟩]) (.seq (.cond (.t 26) (.reg [⟨(some 27), .mv, [(.t 5)], none⟩, ⟨(some 28), .mv, [(.t 6)], none⟩, ⟨(some 29), (.bsl 1), [(.t 28)], none⟩, ⟨(some 30), (.app 1 8), [(.t 27), (.t 29)], none⟩, ⟨(some 5), .mv, [(.t 30)], none⟩]) .skip) .ent)))) .ent) (.reg [⟨(some 31), (.ibin .add), [(.t 9), (.c (.rv (.int .i64 1)))], none⟩, ⟨(some 9), .mv, [(.t 31)], none⟩])))))) .ent)) (.seq (.reg [⟨(some 32), .mv, [(.t 5)], none⟩, ⟨(some 4), .mv, [(.t 32)], none⟩]) .ret))))
theorem k_decoupageref23_Members : FnOK Go.Proofs.Try.prog 48 33 c_decoupageref23_Members [(.t 4)] := fnOK_of (by kernel_rfl)

/- decoupage/decoupageref23.Parts -/
def c_decoupageref23_Parts : AC := (.seq (.reg [⟨(some 4), .mv, [(.c (.rv .nilsl))], none⟩]) (.seq (.reg [⟨(some 5), .mv, [(.c (.rv .nilsl))], none⟩]) (.seq (.seq (.reg [⟨(some 7), .mv, [(.t 0)], none⟩, ⟨(some 8), .len, [(.t 7)], none⟩, ⟨(some 9), .mv, [(.c (.rv (.int .i64 0)))], none⟩]) (.seq (.block 0 (.loop (.seq (.reg [⟨(some 10), (.ibin .lss), [(.t 9), (.t 8)], none⟩]) (.seq (.cond (.t 10) .skip (.exit 0)) (.seq (.seq (.block 1 (.seq (.reg [⟨(some 11), .mv, [(.t 9)], none⟩, ⟨(some 6), .mv, [(.t 11)], none⟩]) (.seq (.reg [⟨(some 12), .mv, [(.t 0)], none⟩, ⟨(some 13), .mv, [(.t 1)], none⟩, ⟨(some 14), (.call 41), [(.t 12), (.t 13)], none⟩, ⟨(some 15), .mv, [(.t 14)], none⟩, ⟨(some 16), .mv, [(.t 6)], (some (15, true))⟩, ⟨(some 17), .mv, [(.t 1)], (some (15, true))⟩, ⟨(some 18), (.ibin .neq), [(.t 16), (.t 17)], (some (15, true))⟩, ⟨(some 19), .pick, [(.t 15), (.t 18), (.c (.rv (.bool false)))], none⟩, ⟨(some 20), .mv, [(.t 19)], none⟩, ⟨(some 21), .mv, [(.t 0)], (some (20, true))⟩, ⟨(some 22), .mv, [(.t 6)], (some (20, true))⟩, ⟨(some 23), (.call 39), [(.t 21), (.t 22)], (some (20, true))⟩, ⟨(some 24), .pick, [(.t 20), (.t 23), (.c (.rv (.bool false)))], none⟩, ⟨(some 25), .mv, [(.t 24)], none⟩, ⟨(some 26), .mv, [(.t 0)], (some (25, true))⟩, ⟨(some 27), .mv, [(.t 6)], (some (25, true))⟩, ⟨(some 28), (.call 45), [(.t 26), (.t 27)], (some (25, true))⟩, ⟨(some 29), .mv, [(.t 1)], (some (25, true))⟩, ⟨(some 30), (.ibin .eql), [(.t 28), (.t 29)], (some (25, true))⟩, ⟨(some 31), .pick, [(.t 25), (.t 30), (.c (.rv (.bool false)))], none⟩]) (.seq (.cond (.t 31) (.reg [⟨(some 32), .mv, [(.t 5)], none⟩, ⟨(some 33), .mv, [(.t 6)], none⟩, ⟨(some 34), (.bsl 1), [(.t 33)], none⟩, ⟨(some 35), (.app 1 8), [(.t 32), (.t 34)], none⟩, ⟨(some 5), .mv, [(.t 35)], none⟩]) .skip) .ent)))) .ent) (.reg [⟨(some 36), (.ibin .add), [(.t 9), (.c (.rv (.int .i64 1)))], none⟩, ⟨(some 9), .mv, [(.t 36)], none⟩])))))) .ent)) (.seq (.reg [⟨(some 37), .mv, [(.t 5)], none⟩, ⟨(some 4), .mv, [(.t 37)], none⟩]) .ret))))
theorem k_decoupageref23_Parts : FnOK Go.Proofs.Try.prog 50 38 c_decoupageref23_Parts [(.t 4)] := fnOK_of (by kernel_rfl)


/-- Those among the first k that are such. -/
def selTo (q : Nat → Bool) (k : Nat) : List Nat := (List.range k).filter q
theorem selTo_zero {q : Nat → Bool} : selTo q 0 = [] := rfl
theorem selTo_succ {q : Nat → Bool} {k : Nat} : selTo q (k + 1) = selTo q k ++ if q k = true then [k] else [] := by
  unfold selTo; rw [List.range_succ, List.filter_append]; cases h : q k <;> simp [h]
theorem selTo_len {q : Nat → Bool} {k : Nat} : (selTo q k).length ≤ k := by
  have := List.length_filter_le q (List.range k); simpa [selTo] using this
theorem selTo_lo {q : Nat → Bool} {k : Nat} (h : ∀ j, j < k → q j = false) : selTo q k = [] := by
  unfold selTo; rw [List.filter_eq_nil_iff]; intro j hj; simp at hj; simp [h j hj]
theorem selTo_hi {q : Nat → Bool} {k : Nat} : ∀ m, (∀ j, k ≤ j → j < k + m → q j = false) → selTo q (k + m) = selTo q k
  | 0, _ => rfl
  | m + 1, h => by
    rw [← Nat.add_assoc, selTo_succ, selTo_hi m (fun j a b => h j a (by omega)), h (k + m) (by omega) (by omega)]; simp

def memQ (l : List Nd) (n : Nat) (j : Nat) : Bool := decide (j ≠ n) && (groupAt l j == n)
def partQ (l : List Nd) (n : Nat) (j : Nat) : Bool := decide (j ≠ n) && leadAt l j && (ctxAt l j == n)
def membersAt (l : List Nd) (n : Int) : List Nat := if leadAt l n = true then selTo (memQ l n.toNat) l.length else []
def partsAt (l : List Nd) (n : Int) : List Nat := if formAt l n = true then selTo (partQ l n.toNat) l.length else []

theorem group_in {l : List Nd} {j n : Nat} (h : groupAt l j = n) : j < l.length ∧ n ∈ pth l j := by
  unfold groupAt at h
  cases hm : madeAt l j with
  | false => rw [hm] at h; simp at h
  | true =>
    rw [hm] at h
    have hin : inL l j = true := by simp [madeAt] at hm; exact hm.1
    refine ⟨by simpa [inL] using hin, ?_⟩
    simp -implicitDefEqProofs only [if_true, Int.toNat_natCast] at h
    rcases fst_cases (leadAt l) (pth l j) with ⟨h1, _⟩ | ⟨i, hi, h1, _, _⟩
    · omega
    · have : (pth l j)[i] = n := by omega
      rw [← this]; exact List.getElem_mem hi
theorem ctx_in {l : List Nd} {j n : Nat} (h : ctxAt l j = n) : j < l.length ∧ n ∈ upAt l j := by
  unfold ctxAt at h
  cases hm : madeAt l j with
  | false => rw [hm] at h; simp at h
  | true =>
    rw [hm] at h
    have hin : inL l j = true := by simp [madeAt] at hm; exact hm.1
    refine ⟨by simpa [inL] using hin, ?_⟩
    simp -implicitDefEqProofs only [if_true] at h
    rcases fst_cases (formAt l) (upAt l j) with ⟨h1, _⟩ | ⟨i, hi, h1, _, _⟩
    · omega
    · have : (upAt l j)[i] = n := by omega
      rw [← this]; exact List.getElem_mem hi
theorem memQ_between {l : List Nd} (hs : Shp l) {n j : Nat} (hn : n < l.length) (h : memQ l n j = true) : n < j ∧ j < endS l n := by
  simp -implicitDefEqProofs only [memQ, Bool.and_eq_true, decide_eq_true_eq, beq_iff_eq] at h
  obtain ⟨h1, h2⟩ := group_in h.2
  have := (hs.below hn h1).1 h2
  omega
theorem partQ_between {l : List Nd} (hs : Shp l) {n j : Nat} (hn : n < l.length) (h : partQ l n j = true) : n < j ∧ j < endS l n := by
  simp -implicitDefEqProofs only [partQ, Bool.and_eq_true, decide_eq_true_eq, beq_iff_eq] at h
  obtain ⟨h1, h2⟩ := ctx_in h.2
  have hx : n ∈ pth l j := by
    unfold upAt at h2; rw [inL_of h1] at h2; exact List.mem_of_mem_drop h2
  have := (hs.below hn h1).1 hx
  omega
theorem lead_in {l : List Nd} {n : Int} (h : leadAt l n = true) : inL l n = true := by
  have := lead_made h; simp [madeAt] at this; exact this.1
theorem form_lead {l : List Nd} {n : Int} (h : formAt l n = true) : leadAt l n = true := by
  simp [formAt] at h; exact h.1
def selR (q : Nat → Bool) (k : Nat) : List (Option HB) := [some (.row 1 (selTo q k).length (rvs (intsL (natsI (selTo q k)))))]
theorem selR_eq (q : Nat → Bool) (k : Nat) : selR q k = [some (.row 1 (selTo q k).length (rvs (intsL (natsI (selTo q k)))))] := rfl

theorem sp_Members (l : List Nd) (hs : Shp l) (hb : l.length ≤ 8589934592) (n : Int) : CallR Go.Proofs.Try.prog 47 [.rv (kinV l), .rv (.int .i64 n)] [] [] (.rv (.sl 1 (intsL (natsI (membersAt l n))))) := by
  have hm := sp_Leads l n
  cases hi : leadAt l n with
  | false =>
    rw [hi] at hm
    rw [show membersAt l n = [] by simp [membersAt, hi]]
    refine callR_nil 1 ?_
    refine callR_G k_level_Members [.rv (kinV l), .rv (.int .i64 n)] _ (by simp) (by simp [BkAll, bk_agg, bkAll_map, bk_rv, bk_fn, Sty.sv, Ln.sv, Nd.sv]) (fun K hK => ?_)
    simp -implicitDefEqProofs only [c_level_Members, go_sem, ↓reduceIte, Nat.reduceEqDiff, Nat.reduceAdd, Nat.reduceSub, Nat.reduceMul, Nat.reduceLeDiff, Nat.reduceLT, reduceCtorEq, Int.reduceToNat]
    have hcall1 := hm; repeat' (first | (simp -implicitDefEqProofs only [go_sem, ↓reduceIte, Nat.reduceEqDiff, Nat.reduceAdd, Nat.reduceSub, Nat.reduceMul, Nat.reduceLeDiff, Nat.reduceLT, reduceCtorEq, Int.reduceToNat]) | (with_reducible refine g_noent ?_) | (with_reducible refine g_call0 hcall1 ?_) | (with_reducible refine g_calld0 hcall1 ?_) | (refine cdS (fun hg => ?_) (fun hg => ?_) <;> try simp -implicitDefEqProofs only [hg, Bool.not_true, Bool.not_false]) | (refine gdS (fun hg => ?_) (fun hg => ?_) <;> try simp -implicitDefEqProofs only [hg, Bool.not_true, Bool.not_false]) | (refine gddS (fun hg => ?_) (fun hg => ?_) <;> try simp -implicitDefEqProofs only [hg, Bool.not_true, Bool.not_false]) | ((with_reducible apply And.intro); focus (first | trivial | omega | decide | (simp -implicitDefEqProofs only [maxLen]; omega) | (simp [maxLen, sty_len, nd_len, ndL_len, lnL_len, intsL_len, rvs_len, lensS_len]; done) | (simp [maxLen, sty_len, nd_len, ndL_len, lnL_len, intsL_len, rvs_len, lensS_len]; omega))) | fail)
    exact (hK _ _ (ret_t rfl)).2
  | true =>
    rw [hi] at hm
    obtain ⟨p, rfl, hp⟩ := inL_nat (lead_in hi)
    refine callR_G k_level_Members [.rv (kinV l), .rv (.int .i64 p)] _ (by simp) (by simp [BkAll, bk_agg, bkAll_map, bk_rv, bk_fn, Sty.sv, Ln.sv, Nd.sv]) (fun K hK => ?_)
    have hv : membersAt l p = selTo (memQ l p) l.length := by simp [membersAt, hi]
    rw [hv] at hK
    obtain ⟨g1, g2⟩ := hs.end_gt hp
    have he : endAt l p = endS l p := by simp [endAt, inL_of hp]
    have hen := sp_End l p
    rw [he] at hen
    have hlo : selTo (memQ l p) (p + 1) = [] := selTo_lo fun j hj => by
      rw [Bool.eq_false_iff]; intro h; have := memQ_between hs hp h; omega
    have hhi : selTo (memQ l p) l.length = selTo (memQ l p) (endS l p) := by
      have := selTo_hi (q := memQ l p) (k := endS l p) (l.length - endS l p) (fun j a b => by
        rw [Bool.eq_false_iff]; intro h; have := memQ_between hs hp h; omega)
      rw [← this]; congr 1; omega
    have wp := wrap_up (k := p) (by omega)
    simp -implicitDefEqProofs only [c_level_Members, go_sem, ↓reduceIte, Nat.reduceEqDiff, Nat.reduceAdd, Nat.reduceSub, Nat.reduceMul, Nat.reduceLeDiff, Nat.reduceLT, reduceCtorEq, Int.reduceToNat]
    have hcall2 := hm; repeat' (first | (simp -implicitDefEqProofs only [go_sem, ↓reduceIte, Nat.reduceEqDiff, Nat.reduceAdd, Nat.reduceSub, Nat.reduceMul, Nat.reduceLeDiff, Nat.reduceLT, reduceCtorEq, Int.reduceToNat, wp]) | (with_reducible refine g_noent ?_) | (with_reducible refine g_call0 hcall2 ?_) | (with_reducible refine g_calld0 hcall2 ?_) | (refine cdS (fun hg => ?_) (fun hg => ?_) <;> try simp -implicitDefEqProofs only [hg, Bool.not_true, Bool.not_false]) | (refine gdS (fun hg => ?_) (fun hg => ?_) <;> try simp -implicitDefEqProofs only [hg, Bool.not_true, Bool.not_false]) | (refine gddS (fun hg => ?_) (fun hg => ?_) <;> try simp -implicitDefEqProofs only [hg, Bool.not_true, Bool.not_false]) | ((with_reducible apply And.intro); focus (first | trivial | omega | decide | (simp -implicitDefEqProofs only [maxLen]; omega) | (simp [maxLen, sty_len, nd_len, ndL_len, lnL_len, intsL_len, rvs_len, lensS_len]; done) | (simp [maxLen, sty_len, nd_len, ndL_len, lnL_len, intsL_len, rvs_len, lensS_len]; omega))) | fail)
    refine g_loop (ι := Nat) (fun k => [(6, .rv (.int .i64 k)), (5, .row 0 (selTo (memQ l p) k).length (selTo (memQ l p) k).length), (0, .rv (kinV l)), (1, .rv (.int .i64 p))]) (selR (memQ l p)) (fun k => p + 1 ≤ k ∧ k ≤ endS l p) (fun k => endS l p - k) (p + 1) ⟨by omega, by omega⟩ (by rw [selR_eq, hlo]; exact (ent_ghostv 5 1 0 rfl).trans (ent_env (by simp [lk]))) (fun k hk K' hN hX hR => ?_)
    obtain ⟨hk1, hk2⟩ := hk
    rw [selR_eq]
    simp -implicitDefEqProofs only [go_sem, ↓reduceIte, Nat.reduceEqDiff, Nat.reduceAdd, Nat.reduceSub, Nat.reduceMul, Nat.reduceLeDiff, Nat.reduceLT, reduceCtorEq, Int.reduceToNat]
    have hcall3 := hen; repeat' (first | (simp -implicitDefEqProofs only [go_sem, ↓reduceIte, Nat.reduceEqDiff, Nat.reduceAdd, Nat.reduceSub, Nat.reduceMul, Nat.reduceLeDiff, Nat.reduceLT, reduceCtorEq, Int.reduceToNat]) | (with_reducible refine g_noent ?_) | (with_reducible refine g_call0 hcall3 ?_) | (with_reducible refine g_calld0 hcall3 ?_) | (refine cdS (fun hg => ?_) (fun hg => ?_) <;> try simp -implicitDefEqProofs only [hg, Bool.not_true, Bool.not_false]) | (refine gdS (fun hg => ?_) (fun hg => ?_) <;> try simp -implicitDefEqProofs only [hg, Bool.not_true, Bool.not_false]) | (refine gddS (fun hg => ?_) (fun hg => ?_) <;> try simp -implicitDefEqProofs only [hg, Bool.not_true, Bool.not_false]) | ((with_reducible apply And.intro); focus (first | trivial | omega | decide | (simp -implicitDefEqProofs only [maxLen]; omega) | (simp [maxLen, sty_len, nd_len, ndL_len, lnL_len, intsL_len, rvs_len, lensS_len]; done) | (simp [maxLen, sty_len, nd_len, ndL_len, lnL_len, intsL_len, rvs_len, lensS_len]; omega))) | fail)
    · have hk4 : k < endS l p := by simp at hg; omega
      have hgr := sp_Group l hs k
      have wu := wrap_up (k := k) (by omega)
      have hs' := selTo_succ (q := memQ l p) (k := k)
      have hsl := selTo_len (q := memQ l p) (k := k)
      cases hq : memQ l p k with
      | true =>
        rw [hq] at hs'
        simp -implicitDefEqProofs only [if_true] at hs'
        have e1 : (groupAt l k == (p : Int)) = true := by simp -implicitDefEqProofs only [memQ, Bool.and_eq_true] at hq; exact hq.2
        have htl := nats_ln (selTo (memQ l p) k)
        have htk : (intsL (natsI (selTo (memQ l p) k))).take (selTo (memQ l p) k).length = intsL (natsI (selTo (memQ l p) k)) := List.take_of_length_le (by omega)
        have hap : natsI (selTo (memQ l p) k) ++ [(k : Int)] = natsI (selTo (memQ l p) (k + 1)) := by rw [hs']; simp [natsI]
        have hll : (selTo (memQ l p) (k + 1)).length = (selTo (memQ l p) k).length + 1 := by rw [hs']; simp
        have hcall4 := hgr; repeat' (first | (simp -implicitDefEqProofs only [go_sem, ↓reduceIte, Nat.reduceEqDiff, Nat.reduceAdd, Nat.reduceSub, Nat.reduceMul, Nat.reduceLeDiff, Nat.reduceLT, reduceCtorEq, Int.reduceToNat, e1, wu, htl, htk, rvs_app1, hap]) | (with_reducible refine g_noent ?_) | (with_reducible refine g_call0 hcall4 ?_) | (with_reducible refine g_calld0 hcall4 ?_) | (refine cdS (fun hg => ?_) (fun hg => ?_) <;> try simp -implicitDefEqProofs only [hg, Bool.not_true, Bool.not_false]) | (refine gdS (fun hg => ?_) (fun hg => ?_) <;> try simp -implicitDefEqProofs only [hg, Bool.not_true, Bool.not_false]) | (refine gddS (fun hg => ?_) (fun hg => ?_) <;> try simp -implicitDefEqProofs only [hg, Bool.not_true, Bool.not_false]) | ((with_reducible apply And.intro); focus (first | trivial | omega | decide | (simp -implicitDefEqProofs only [maxLen]; omega) | (simp [maxLen, sty_len, nd_len, ndL_len, lnL_len, intsL_len, rvs_len, lensS_len]; done) | (simp [maxLen, sty_len, nd_len, ndL_len, lnL_len, intsL_len, rvs_len, lensS_len]; omega))) | fail)
        refine hN (k + 1) _ _ ⟨by omega, by omega⟩ (by omega) ?_
        rw [selR_eq, hll]
        exact ent_tail (h' := [some (.row 1 ((selTo (memQ l p) k).length + 1) (rvs (intsL (natsI (selTo (memQ l p) (k + 1))))))]) (C := [some (.row 1 0 [[.rv (.int .i64 k)]])]) (by simp) ⟨clH_rvs, trivial⟩ (by simp [ClEnv, lk, clS_rv, clS_row])
      | false =>
        rw [hq] at hs'
        simp -implicitDefEqProofs only [Bool.false_eq_true, if_false, List.append_nil] at hs'
        have e1 : (groupAt l k == (p : Int)) = false := by
          rw [Bool.eq_false_iff]; intro h
          have : memQ l p k = true := by simp -implicitDefEqProofs only [memQ, h, Bool.and_true, decide_eq_true_eq]; omega
          rw [hq] at this; simp at this
        have hcall5 := hgr; repeat' (first | (simp -implicitDefEqProofs only [go_sem, ↓reduceIte, Nat.reduceEqDiff, Nat.reduceAdd, Nat.reduceSub, Nat.reduceMul, Nat.reduceLeDiff, Nat.reduceLT, reduceCtorEq, Int.reduceToNat, e1, wu]) | (with_reducible refine g_noent ?_) | (with_reducible refine g_call0 hcall5 ?_) | (with_reducible refine g_calld0 hcall5 ?_) | (refine cdS (fun hg => ?_) (fun hg => ?_) <;> try simp -implicitDefEqProofs only [hg, Bool.not_true, Bool.not_false]) | (refine gdS (fun hg => ?_) (fun hg => ?_) <;> try simp -implicitDefEqProofs only [hg, Bool.not_true, Bool.not_false]) | (refine gddS (fun hg => ?_) (fun hg => ?_) <;> try simp -implicitDefEqProofs only [hg, Bool.not_true, Bool.not_false]) | ((with_reducible apply And.intro); focus (first | trivial | omega | decide | (simp -implicitDefEqProofs only [maxLen]; omega) | (simp [maxLen, sty_len, nd_len, ndL_len, lnL_len, intsL_len, rvs_len, lensS_len]; done) | (simp [maxLen, sty_len, nd_len, ndL_len, lnL_len, intsL_len, rvs_len, lensS_len]; omega))) | fail)
        refine hN (k + 1) _ _ ⟨by omega, by omega⟩ (by omega) ?_
        rw [selR_eq, hs']
        exact ent_env (by simp [lk])
    · have hk4 : k = endS l p := by simp at hg; omega
      subst hk4
      refine hX _ _ _ ?_
      repeat' (first | (simp -implicitDefEqProofs only [go_sem, ↓reduceIte, Nat.reduceEqDiff, Nat.reduceAdd, Nat.reduceSub, Nat.reduceMul, Nat.reduceLeDiff, Nat.reduceLT, reduceCtorEq, Int.reduceToNat]) | (with_reducible refine g_noent ?_) | (refine cdS (fun hg => ?_) (fun hg => ?_) <;> try simp -implicitDefEqProofs only [hg, Bool.not_true, Bool.not_false]) | (refine gdS (fun hg => ?_) (fun hg => ?_) <;> try simp -implicitDefEqProofs only [hg, Bool.not_true, Bool.not_false]) | (refine gddS (fun hg => ?_) (fun hg => ?_) <;> try simp -implicitDefEqProofs only [hg, Bool.not_true, Bool.not_false]) | ((with_reducible apply And.intro); focus (first | trivial | omega | decide | (simp -implicitDefEqProofs only [maxLen]; omega) | (simp [maxLen, sty_len, nd_len, ndL_len, lnL_len, intsL_len, rvs_len, lensS_len]; done) | (simp [maxLen, sty_len, nd_len, ndL_len, lnL_len, intsL_len, rvs_len, lensS_len]; omega))) | fail)
      rw [hhi] at hK
      exact (hK _ _ ⟨trivial, rn_frz (xs := intsL (natsI (selTo (memQ l p) (endS l p)))) rfl rfl (by simp [intsL, natsI]) (intsL_one _)⟩).2

theorem sp_Parts (l : List Nd) (hs : Shp l) (hb : l.length ≤ 8589934592) (n : Int) : CallR Go.Proofs.Try.prog 49 [.rv (kinV l), .rv (.int .i64 n)] [] [] (.rv (.sl 1 (intsL (natsI (partsAt l n))))) := by
  have hm := sp_Forms l n
  cases hi : formAt l n with
  | false =>
    rw [hi] at hm
    rw [show partsAt l n = [] by simp [partsAt, hi]]
    refine callR_nil 1 ?_
    refine callR_G k_level_Parts [.rv (kinV l), .rv (.int .i64 n)] _ (by simp) (by simp [BkAll, bk_agg, bkAll_map, bk_rv, bk_fn, Sty.sv, Ln.sv, Nd.sv]) (fun K hK => ?_)
    simp -implicitDefEqProofs only [c_level_Parts, go_sem, ↓reduceIte, Nat.reduceEqDiff, Nat.reduceAdd, Nat.reduceSub, Nat.reduceMul, Nat.reduceLeDiff, Nat.reduceLT, reduceCtorEq, Int.reduceToNat]
    have hcall6 := hm; repeat' (first | (simp -implicitDefEqProofs only [go_sem, ↓reduceIte, Nat.reduceEqDiff, Nat.reduceAdd, Nat.reduceSub, Nat.reduceMul, Nat.reduceLeDiff, Nat.reduceLT, reduceCtorEq, Int.reduceToNat]) | (with_reducible refine g_noent ?_) | (with_reducible refine g_call0 hcall6 ?_) | (with_reducible refine g_calld0 hcall6 ?_) | (refine cdS (fun hg => ?_) (fun hg => ?_) <;> try simp -implicitDefEqProofs only [hg, Bool.not_true, Bool.not_false]) | (refine gdS (fun hg => ?_) (fun hg => ?_) <;> try simp -implicitDefEqProofs only [hg, Bool.not_true, Bool.not_false]) | (refine gddS (fun hg => ?_) (fun hg => ?_) <;> try simp -implicitDefEqProofs only [hg, Bool.not_true, Bool.not_false]) | ((with_reducible apply And.intro); focus (first | trivial | omega | decide | (simp -implicitDefEqProofs only [maxLen]; omega) | (simp [maxLen, sty_len, nd_len, ndL_len, lnL_len, intsL_len, rvs_len, lensS_len]; done) | (simp [maxLen, sty_len, nd_len, ndL_len, lnL_len, intsL_len, rvs_len, lensS_len]; omega))) | fail)
    exact (hK _ _ (ret_t rfl)).2
  | true =>
    rw [hi] at hm
    obtain ⟨p, rfl, hp⟩ := inL_nat (lead_in (form_lead hi))
    refine callR_G k_level_Parts [.rv (kinV l), .rv (.int .i64 p)] _ (by simp) (by simp [BkAll, bk_agg, bkAll_map, bk_rv, bk_fn, Sty.sv, Ln.sv, Nd.sv]) (fun K hK => ?_)
    have hv : partsAt l p = selTo (partQ l p) l.length := by simp [partsAt, hi]
    rw [hv] at hK
    obtain ⟨g1, g2⟩ := hs.end_gt hp
    have he : endAt l p = endS l p := by simp [endAt, inL_of hp]
    have hen := sp_End l p
    rw [he] at hen
    have hlo : selTo (partQ l p) (p + 1) = [] := selTo_lo fun j hj => by
      rw [Bool.eq_false_iff]; intro h; have := partQ_between hs hp h; omega
    have hhi : selTo (partQ l p) l.length = selTo (partQ l p) (endS l p) := by
      have := selTo_hi (q := partQ l p) (k := endS l p) (l.length - endS l p) (fun j a b => by
        rw [Bool.eq_false_iff]; intro h; have := partQ_between hs hp h; omega)
      rw [← this]; congr 1; omega
    have wp := wrap_up (k := p) (by omega)
    simp -implicitDefEqProofs only [c_level_Parts, go_sem, ↓reduceIte, Nat.reduceEqDiff, Nat.reduceAdd, Nat.reduceSub, Nat.reduceMul, Nat.reduceLeDiff, Nat.reduceLT, reduceCtorEq, Int.reduceToNat]
    have hcall7 := hm; repeat' (first | (simp -implicitDefEqProofs only [go_sem, ↓reduceIte, Nat.reduceEqDiff, Nat.reduceAdd, Nat.reduceSub, Nat.reduceMul, Nat.reduceLeDiff, Nat.reduceLT, reduceCtorEq, Int.reduceToNat, wp]) | (with_reducible refine g_noent ?_) | (with_reducible refine g_call0 hcall7 ?_) | (with_reducible refine g_calld0 hcall7 ?_) | (refine cdS (fun hg => ?_) (fun hg => ?_) <;> try simp -implicitDefEqProofs only [hg, Bool.not_true, Bool.not_false]) | (refine gdS (fun hg => ?_) (fun hg => ?_) <;> try simp -implicitDefEqProofs only [hg, Bool.not_true, Bool.not_false]) | (refine gddS (fun hg => ?_) (fun hg => ?_) <;> try simp -implicitDefEqProofs only [hg, Bool.not_true, Bool.not_false]) | ((with_reducible apply And.intro); focus (first | trivial | omega | decide | (simp -implicitDefEqProofs only [maxLen]; omega) | (simp [maxLen, sty_len, nd_len, ndL_len, lnL_len, intsL_len, rvs_len, lensS_len]; done) | (simp [maxLen, sty_len, nd_len, ndL_len, lnL_len, intsL_len, rvs_len, lensS_len]; omega))) | fail)
    refine g_loop (ι := Nat) (fun k => [(6, .rv (.int .i64 k)), (5, .row 0 (selTo (partQ l p) k).length (selTo (partQ l p) k).length), (0, .rv (kinV l)), (1, .rv (.int .i64 p))]) (selR (partQ l p)) (fun k => p + 1 ≤ k ∧ k ≤ endS l p) (fun k => endS l p - k) (p + 1) ⟨by omega, by omega⟩ (by rw [selR_eq, hlo]; exact (ent_ghostv 5 1 0 rfl).trans (ent_env (by simp [lk]))) (fun k hk K' hN hX hR => ?_)
    obtain ⟨hk1, hk2⟩ := hk
    rw [selR_eq]
    simp -implicitDefEqProofs only [go_sem, ↓reduceIte, Nat.reduceEqDiff, Nat.reduceAdd, Nat.reduceSub, Nat.reduceMul, Nat.reduceLeDiff, Nat.reduceLT, reduceCtorEq, Int.reduceToNat]
    have hcall8 := hen; repeat' (first | (simp -implicitDefEqProofs only [go_sem, ↓reduceIte, Nat.reduceEqDiff, Nat.reduceAdd, Nat.reduceSub, Nat.reduceMul, Nat.reduceLeDiff, Nat.reduceLT, reduceCtorEq, Int.reduceToNat]) | (with_reducible refine g_noent ?_) | (with_reducible refine g_call0 hcall8 ?_) | (with_reducible refine g_calld0 hcall8 ?_) | (refine cdS (fun hg => ?_) (fun hg => ?_) <;> try simp -implicitDefEqProofs only [hg, Bool.not_true, Bool.not_false]) | (refine gdS (fun hg => ?_) (fun hg => ?_) <;> try simp -implicitDefEqProofs only [hg, Bool.not_true, Bool.not_false]) | (refine gddS (fun hg => ?_) (fun hg => ?_) <;> try simp -implicitDefEqProofs only [hg, Bool.not_true, Bool.not_false]) | ((with_reducible apply And.intro); focus (first | trivial | omega | decide | (simp -implicitDefEqProofs only [maxLen]; omega) | (simp [maxLen, sty_len, nd_len, ndL_len, lnL_len, intsL_len, rvs_len, lensS_len]; done) | (simp [maxLen, sty_len, nd_len, ndL_len, lnL_len, intsL_len, rvs_len, lensS_len]; omega))) | fail)
    · have hk4 : k < endS l p := by simp at hg; omega
      have hle := sp_Leads l k
      have hgr := sp_Context l hs k
      have wu := wrap_up (k := k) (by omega)
      have hs' := selTo_succ (q := partQ l p) (k := k)
      have hsl := selTo_len (q := partQ l p) (k := k)
      cases hq : partQ l p k with
      | true =>
        rw [hq] at hs'
        simp -implicitDefEqProofs only [if_true] at hs'
        have e1 : (ctxAt l k == (p : Int)) = true := by simp -implicitDefEqProofs only [partQ, Bool.and_eq_true] at hq; exact hq.2
        have e2 : leadAt l k = true := by simp -implicitDefEqProofs only [partQ, Bool.and_eq_true] at hq; exact hq.1.2
        rw [e2] at hle
        have htl := nats_ln (selTo (partQ l p) k)
        have htk : (intsL (natsI (selTo (partQ l p) k))).take (selTo (partQ l p) k).length = intsL (natsI (selTo (partQ l p) k)) := List.take_of_length_le (by omega)
        have hap : natsI (selTo (partQ l p) k) ++ [(k : Int)] = natsI (selTo (partQ l p) (k + 1)) := by rw [hs']; simp [natsI]
        have hll : (selTo (partQ l p) (k + 1)).length = (selTo (partQ l p) k).length + 1 := by rw [hs']; simp
        have hcall9 := hle; have hcall10 := hgr; repeat' (first | (simp -implicitDefEqProofs only [go_sem, ↓reduceIte, Nat.reduceEqDiff, Nat.reduceAdd, Nat.reduceSub, Nat.reduceMul, Nat.reduceLeDiff, Nat.reduceLT, reduceCtorEq, Int.reduceToNat, e1, wu, htl, htk, rvs_app1, hap]) | (with_reducible refine g_noent ?_) | (with_reducible refine g_call0 hcall9 ?_) | (with_reducible refine g_calld0 hcall9 ?_) | (with_reducible refine g_call0 hcall10 ?_) | (with_reducible refine g_calld0 hcall10 ?_) | (refine cdS (fun hg => ?_) (fun hg => ?_) <;> try simp -implicitDefEqProofs only [hg, Bool.not_true, Bool.not_false]) | (refine gdS (fun hg => ?_) (fun hg => ?_) <;> try simp -implicitDefEqProofs only [hg, Bool.not_true, Bool.not_false]) | (refine gddS (fun hg => ?_) (fun hg => ?_) <;> try simp -implicitDefEqProofs only [hg, Bool.not_true, Bool.not_false]) | ((with_reducible apply And.intro); focus (first | trivial | omega | decide | (simp -implicitDefEqProofs only [maxLen]; omega) | (simp [maxLen, sty_len, nd_len, ndL_len, lnL_len, intsL_len, rvs_len, lensS_len]; done) | (simp [maxLen, sty_len, nd_len, ndL_len, lnL_len, intsL_len, rvs_len, lensS_len]; omega))) | fail)
        refine hN (k + 1) _ _ ⟨by omega, by omega⟩ (by omega) ?_
        rw [selR_eq, hll]
        exact ent_tail (h' := [some (.row 1 ((selTo (partQ l p) k).length + 1) (rvs (intsL (natsI (selTo (partQ l p) (k + 1))))))]) (C := [some (.row 1 0 [[.rv (.int .i64 k)]])]) (by simp) ⟨clH_rvs, trivial⟩ (by simp [ClEnv, lk, clS_rv, clS_row])
      | false =>
        rw [hq] at hs'
        simp -implicitDefEqProofs only [Bool.false_eq_true, if_false, List.append_nil] at hs'
        cases e2 : leadAt l k with
        | true =>
          rw [e2] at hle
          have e1 : (ctxAt l k == (p : Int)) = false := by
            rw [Bool.eq_false_iff]; intro h
            have : partQ l p k = true := by simp -implicitDefEqProofs only [partQ, h, e2, Bool.and_true, decide_eq_true_eq]; omega
            rw [hq] at this; simp at this
          have hcall11 := hle; have hcall12 := hgr; repeat' (first | (simp -implicitDefEqProofs only [go_sem, ↓reduceIte, Nat.reduceEqDiff, Nat.reduceAdd, Nat.reduceSub, Nat.reduceMul, Nat.reduceLeDiff, Nat.reduceLT, reduceCtorEq, Int.reduceToNat, e1, wu]) | (with_reducible refine g_noent ?_) | (with_reducible refine g_call0 hcall11 ?_) | (with_reducible refine g_calld0 hcall11 ?_) | (with_reducible refine g_call0 hcall12 ?_) | (with_reducible refine g_calld0 hcall12 ?_) | (refine cdS (fun hg => ?_) (fun hg => ?_) <;> try simp -implicitDefEqProofs only [hg, Bool.not_true, Bool.not_false]) | (refine gdS (fun hg => ?_) (fun hg => ?_) <;> try simp -implicitDefEqProofs only [hg, Bool.not_true, Bool.not_false]) | (refine gddS (fun hg => ?_) (fun hg => ?_) <;> try simp -implicitDefEqProofs only [hg, Bool.not_true, Bool.not_false]) | ((with_reducible apply And.intro); focus (first | trivial | omega | decide | (simp -implicitDefEqProofs only [maxLen]; omega) | (simp [maxLen, sty_len, nd_len, ndL_len, lnL_len, intsL_len, rvs_len, lensS_len]; done) | (simp [maxLen, sty_len, nd_len, ndL_len, lnL_len, intsL_len, rvs_len, lensS_len]; omega))) | fail)
          refine hN (k + 1) _ _ ⟨by omega, by omega⟩ (by omega) ?_
          rw [selR_eq, hs']
          exact ent_env (by simp [lk])
        | false =>
          rw [e2] at hle
          have hcall13 := hle; have hcall14 := hgr; repeat' (first | (simp -implicitDefEqProofs only [go_sem, ↓reduceIte, Nat.reduceEqDiff, Nat.reduceAdd, Nat.reduceSub, Nat.reduceMul, Nat.reduceLeDiff, Nat.reduceLT, reduceCtorEq, Int.reduceToNat, wu]) | (with_reducible refine g_noent ?_) | (with_reducible refine g_call0 hcall13 ?_) | (with_reducible refine g_calld0 hcall13 ?_) | (with_reducible refine g_call0 hcall14 ?_) | (with_reducible refine g_calld0 hcall14 ?_) | (refine cdS (fun hg => ?_) (fun hg => ?_) <;> try simp -implicitDefEqProofs only [hg, Bool.not_true, Bool.not_false]) | (refine gdS (fun hg => ?_) (fun hg => ?_) <;> try simp -implicitDefEqProofs only [hg, Bool.not_true, Bool.not_false]) | (refine gddS (fun hg => ?_) (fun hg => ?_) <;> try simp -implicitDefEqProofs only [hg, Bool.not_true, Bool.not_false]) | ((with_reducible apply And.intro); focus (first | trivial | omega | decide | (simp -implicitDefEqProofs only [maxLen]; omega) | (simp [maxLen, sty_len, nd_len, ndL_len, lnL_len, intsL_len, rvs_len, lensS_len]; done) | (simp [maxLen, sty_len, nd_len, ndL_len, lnL_len, intsL_len, rvs_len, lensS_len]; omega))) | fail)
          refine hN (k + 1) _ _ ⟨by omega, by omega⟩ (by omega) ?_
          rw [selR_eq, hs']
          exact ent_env (by simp [lk])
    · have hk4 : k = endS l p := by simp at hg; omega
      subst hk4
      refine hX _ _ _ ?_
      repeat' (first | (simp -implicitDefEqProofs only [go_sem, ↓reduceIte, Nat.reduceEqDiff, Nat.reduceAdd, Nat.reduceSub, Nat.reduceMul, Nat.reduceLeDiff, Nat.reduceLT, reduceCtorEq, Int.reduceToNat]) | (with_reducible refine g_noent ?_) | (refine cdS (fun hg => ?_) (fun hg => ?_) <;> try simp -implicitDefEqProofs only [hg, Bool.not_true, Bool.not_false]) | (refine gdS (fun hg => ?_) (fun hg => ?_) <;> try simp -implicitDefEqProofs only [hg, Bool.not_true, Bool.not_false]) | (refine gddS (fun hg => ?_) (fun hg => ?_) <;> try simp -implicitDefEqProofs only [hg, Bool.not_true, Bool.not_false]) | ((with_reducible apply And.intro); focus (first | trivial | omega | decide | (simp -implicitDefEqProofs only [maxLen]; omega) | (simp [maxLen, sty_len, nd_len, ndL_len, lnL_len, intsL_len, rvs_len, lensS_len]; done) | (simp [maxLen, sty_len, nd_len, ndL_len, lnL_len, intsL_len, rvs_len, lensS_len]; omega))) | fail)
      rw [hhi] at hK
      exact (hK _ _ ⟨trivial, rn_frz (xs := intsL (natsI (selTo (partQ l p) (endS l p)))) rfl rfl (by simp [intsL, natsI]) (intsL_one _)⟩).2

theorem sp_ref23_Members (l : List Nd) (ht : treeOK l = true) (hb : l.length ≤ 8589934592) (n : Int) : CallR Go.Proofs.Try.prog 48 [.rv (.sl 49 (ndL l)), .rv (.int .i64 n)] [] [] (.rv (.sl 1 (intsL (natsI (membersAt l n))))) := by
  have hs := tree_shp ht
  have hlen := ndL_len l
  have hm := sp_ref23_Leads l ht n
  cases hi : leadAt l n with
  | false =>
    rw [hi] at hm
    rw [show membersAt l n = [] by simp [membersAt, hi]]
    refine callR_nil 1 ?_
    refine callR_G k_decoupageref23_Members [.rv (.sl 49 (ndL l)), .rv (.int .i64 n)] _ (by simp) (by simp [BkAll, bk_agg, bkAll_map, bk_rv, bk_fn, Sty.sv, Ln.sv, Nd.sv]) (fun K hK => ?_)
    simp -implicitDefEqProofs only [c_decoupageref23_Members, go_sem, ↓reduceIte, Nat.reduceEqDiff, Nat.reduceAdd, Nat.reduceSub, Nat.reduceMul, Nat.reduceLeDiff, Nat.reduceLT, reduceCtorEq, Int.reduceToNat]
    repeat' (first | (simp -implicitDefEqProofs only [go_sem, ↓reduceIte, Nat.reduceEqDiff, Nat.reduceAdd, Nat.reduceSub, Nat.reduceMul, Nat.reduceLeDiff, Nat.reduceLT, reduceCtorEq, Int.reduceToNat, hlen]) | (with_reducible refine g_noent ?_) | (refine cdS (fun hg => ?_) (fun hg => ?_) <;> try simp -implicitDefEqProofs only [hg, Bool.not_true, Bool.not_false]) | (refine gdS (fun hg => ?_) (fun hg => ?_) <;> try simp -implicitDefEqProofs only [hg, Bool.not_true, Bool.not_false]) | (refine gddS (fun hg => ?_) (fun hg => ?_) <;> try simp -implicitDefEqProofs only [hg, Bool.not_true, Bool.not_false]) | ((with_reducible apply And.intro); focus (first | trivial | omega | decide | (simp -implicitDefEqProofs only [maxLen]; omega) | (simp [maxLen, sty_len, nd_len, ndL_len, lnL_len, intsL_len, rvs_len, lensS_len]; done) | (simp [maxLen, sty_len, nd_len, ndL_len, lnL_len, intsL_len, rvs_len, lensS_len]; omega))) | fail)
    refine g_loop (ι := Nat) (fun k => [(9, .rv (.int .i64 k)), (8, .rv (.int .i64 l.length)), (5, .rv .nilsl), (0, .rv (.sl 49 (ndL l))), (1, .rv (.int .i64 n))]) (fun _ => []) (fun k => k ≤ l.length) (fun k => l.length - k) 0 (by simp) (ent_env (by simp [lk])) (fun k hk K' hN hX hR => ?_)
    simp -implicitDefEqProofs only [go_sem, ↓reduceIte, Nat.reduceEqDiff, Nat.reduceAdd, Nat.reduceSub, Nat.reduceMul, Nat.reduceLeDiff, Nat.reduceLT, reduceCtorEq, Int.reduceToNat]
    refine cdS (fun hg => ?_) (fun hg => ?_)
    · have hk4 : k < l.length := by simp at hg; omega
      have wu := wrap_up (k := k) (by omega)
      have hcall15 := hm; repeat' (first | (simp -implicitDefEqProofs only [go_sem, ↓reduceIte, Nat.reduceEqDiff, Nat.reduceAdd, Nat.reduceSub, Nat.reduceMul, Nat.reduceLeDiff, Nat.reduceLT, reduceCtorEq, Int.reduceToNat, wu]) | (with_reducible refine g_noent ?_) | (with_reducible refine g_call0 hcall15 ?_) | (with_reducible refine g_calld0 hcall15 ?_) | (refine cdS (fun hg => ?_) (fun hg => ?_) <;> try simp -implicitDefEqProofs only [hg, Bool.not_true, Bool.not_false]) | (refine gdS (fun hg => ?_) (fun hg => ?_) <;> try simp -implicitDefEqProofs only [hg, Bool.not_true, Bool.not_false]) | (refine gddS (fun hg => ?_) (fun hg => ?_) <;> try simp -implicitDefEqProofs only [hg, Bool.not_true, Bool.not_false]) | ((with_reducible apply And.intro); focus (first | trivial | omega | decide | (simp -implicitDefEqProofs only [maxLen]; omega) | (simp [maxLen, sty_len, nd_len, ndL_len, lnL_len, intsL_len, rvs_len, lensS_len]; done) | (simp [maxLen, sty_len, nd_len, ndL_len, lnL_len, intsL_len, rvs_len, lensS_len]; omega))) | fail)
      exact hN (k + 1) _ _ (by omega) (by omega) (ent_env (by simp [lk]))
    · simp -implicitDefEqProofs only [go_sem, ↓reduceIte, Nat.reduceEqDiff, Nat.reduceAdd, Nat.reduceSub, Nat.reduceMul, Nat.reduceLeDiff, Nat.reduceLT, reduceCtorEq, Int.reduceToNat]
      refine hX _ _ _ ?_
      repeat' (first | (simp -implicitDefEqProofs only [go_sem, ↓reduceIte, Nat.reduceEqDiff, Nat.reduceAdd, Nat.reduceSub, Nat.reduceMul, Nat.reduceLeDiff, Nat.reduceLT, reduceCtorEq, Int.reduceToNat]) | (with_reducible refine g_noent ?_) | (refine cdS (fun hg => ?_) (fun hg => ?_) <;> try simp -implicitDefEqProofs only [hg, Bool.not_true, Bool.not_false]) | (refine gdS (fun hg => ?_) (fun hg => ?_) <;> try simp -implicitDefEqProofs only [hg, Bool.not_true, Bool.not_false]) | (refine gddS (fun hg => ?_) (fun hg => ?_) <;> try simp -implicitDefEqProofs only [hg, Bool.not_true, Bool.not_false]) | ((with_reducible apply And.intro); focus (first | trivial | omega | decide | (simp -implicitDefEqProofs only [maxLen]; omega) | (simp [maxLen, sty_len, nd_len, ndL_len, lnL_len, intsL_len, rvs_len, lensS_len]; done) | (simp [maxLen, sty_len, nd_len, ndL_len, lnL_len, intsL_len, rvs_len, lensS_len]; omega))) | fail)
      exact (hK _ _ (ret_t rfl)).2
  | true =>
    rw [hi] at hm
    obtain ⟨p, rfl, hp⟩ := inL_nat (lead_in hi)
    refine callR_G k_decoupageref23_Members [.rv (.sl 49 (ndL l)), .rv (.int .i64 p)] _ (by simp) (by simp [BkAll, bk_agg, bkAll_map, bk_rv, bk_fn, Sty.sv, Ln.sv, Nd.sv]) (fun K hK => ?_)
    have hv : membersAt l p = selTo (memQ l p) l.length := by simp [membersAt, hi]
    rw [hv] at hK
    simp -implicitDefEqProofs only [c_decoupageref23_Members, go_sem, ↓reduceIte, Nat.reduceEqDiff, Nat.reduceAdd, Nat.reduceSub, Nat.reduceMul, Nat.reduceLeDiff, Nat.reduceLT, reduceCtorEq, Int.reduceToNat]
    repeat' (first | (simp -implicitDefEqProofs only [go_sem, ↓reduceIte, Nat.reduceEqDiff, Nat.reduceAdd, Nat.reduceSub, Nat.reduceMul, Nat.reduceLeDiff, Nat.reduceLT, reduceCtorEq, Int.reduceToNat, hlen]) | (with_reducible refine g_noent ?_) | (refine cdS (fun hg => ?_) (fun hg => ?_) <;> try simp -implicitDefEqProofs only [hg, Bool.not_true, Bool.not_false]) | (refine gdS (fun hg => ?_) (fun hg => ?_) <;> try simp -implicitDefEqProofs only [hg, Bool.not_true, Bool.not_false]) | (refine gddS (fun hg => ?_) (fun hg => ?_) <;> try simp -implicitDefEqProofs only [hg, Bool.not_true, Bool.not_false]) | ((with_reducible apply And.intro); focus (first | trivial | omega | decide | (simp -implicitDefEqProofs only [maxLen]; omega) | (simp [maxLen, sty_len, nd_len, ndL_len, lnL_len, intsL_len, rvs_len, lensS_len]; done) | (simp [maxLen, sty_len, nd_len, ndL_len, lnL_len, intsL_len, rvs_len, lensS_len]; omega))) | fail)
    refine g_loop (ι := Nat) (fun k => [(9, .rv (.int .i64 k)), (8, .rv (.int .i64 l.length)), (5, .row 0 (selTo (memQ l p) k).length (selTo (memQ l p) k).length), (0, .rv (.sl 49 (ndL l))), (1, .rv (.int .i64 p))]) (selR (memQ l p)) (fun k => k ≤ l.length) (fun k => l.length - k) 0 (by simp) (by rw [selR_eq, selTo_zero]; exact (ent_ghostv 5 1 0 rfl).trans (ent_env (by simp [lk]))) (fun k hk K' hN hX hR => ?_)
    rw [selR_eq]
    simp -implicitDefEqProofs only [go_sem, ↓reduceIte, Nat.reduceEqDiff, Nat.reduceAdd, Nat.reduceSub, Nat.reduceMul, Nat.reduceLeDiff, Nat.reduceLT, reduceCtorEq, Int.reduceToNat]
    refine cdS (fun hg => ?_) (fun hg => ?_)
    · have hk4 : k < l.length := by simp at hg; omega
      have wu := wrap_up (k := k) (by omega)
      have hs' := selTo_succ (q := memQ l p) (k := k)
      have hsl := selTo_len (q := memQ l p) (k := k)
      have hgr := sp_ref23_Group l ht hb k
      cases hq : memQ l p k with
      | true =>
        rw [hq] at hs'
        simp -implicitDefEqProofs only [if_true] at hs'
        have htl := nats_ln (selTo (memQ l p) k)
        have htk : (intsL (natsI (selTo (memQ l p) k))).take (selTo (memQ l p) k).length = intsL (natsI (selTo (memQ l p) k)) := List.take_of_length_le (by omega)
        have hap : natsI (selTo (memQ l p) k) ++ [(k : Int)] = natsI (selTo (memQ l p) (k + 1)) := by rw [hs']; simp [natsI]
        have hll : (selTo (memQ l p) (k + 1)).length = (selTo (memQ l p) k).length + 1 := by rw [hs']; simp
        simp -implicitDefEqProofs only [memQ, Bool.and_eq_true, decide_eq_true_eq] at hq
        have e0 : ((k : Int) != p) = true := by simp; omega
        have e1 : (groupAt l k == (p : Int)) = true := hq.2
        have hcall16 := hm; have hcall17 := hgr; repeat' (first | (simp -implicitDefEqProofs only [go_sem, ↓reduceIte, Nat.reduceEqDiff, Nat.reduceAdd, Nat.reduceSub, Nat.reduceMul, Nat.reduceLeDiff, Nat.reduceLT, reduceCtorEq, Int.reduceToNat, e0, e1, wu, htl, htk, rvs_app1, hap]) | (with_reducible refine g_noent ?_) | (with_reducible refine g_call0 hcall16 ?_) | (with_reducible refine g_calld0 hcall16 ?_) | (with_reducible refine g_call0 hcall17 ?_) | (with_reducible refine g_calld0 hcall17 ?_) | (refine cdS (fun hg => ?_) (fun hg => ?_) <;> try simp -implicitDefEqProofs only [hg, Bool.not_true, Bool.not_false]) | (refine gdS (fun hg => ?_) (fun hg => ?_) <;> try simp -implicitDefEqProofs only [hg, Bool.not_true, Bool.not_false]) | (refine gddS (fun hg => ?_) (fun hg => ?_) <;> try simp -implicitDefEqProofs only [hg, Bool.not_true, Bool.not_false]) | ((with_reducible apply And.intro); focus (first | trivial | omega | decide | (simp -implicitDefEqProofs only [maxLen]; omega) | (simp [maxLen, sty_len, nd_len, ndL_len, lnL_len, intsL_len, rvs_len, lensS_len]; done) | (simp [maxLen, sty_len, nd_len, ndL_len, lnL_len, intsL_len, rvs_len, lensS_len]; omega))) | fail)
        refine hN (k + 1) _ _ (by omega) (by omega) ?_
        rw [selR_eq, hll]
        exact ent_tail (h' := [some (.row 1 ((selTo (memQ l p) k).length + 1) (rvs (intsL (natsI (selTo (memQ l p) (k + 1))))))]) (C := [some (.row 1 0 [[.rv (.int .i64 k)]])]) (by simp) ⟨clH_rvs, trivial⟩ (by simp [ClEnv, lk, clS_rv, clS_row])
      | false =>
        rw [hq] at hs'
        simp -implicitDefEqProofs only [Bool.false_eq_true, if_false, List.append_nil] at hs'
        have fin : ∀ e, (∀ x ∈ [(9, SV.rv (.int .i64 ((k + 1 : Nat) : Int))), (8, .rv (.int .i64 l.length)), (5, .row 0 (selTo (memQ l p) k).length (selTo (memQ l p) k).length), (0, .rv (.sl 49 (ndL l))), (1, .rv (.int .i64 p))], lk e x.1 = x.2) → K' .normal ⟨e, [some (.row 1 (selTo (memQ l p) k).length (rvs (intsL (natsI (selTo (memQ l p) k)))))]⟩ := fun e he => by
          refine hN (k + 1) _ _ (by omega) (by omega) ?_
          rw [selR_eq, hs']
          exact ent_env fun x hx => .inr (he x hx)
        by_cases e9 : k = p
        · have e0 : ((k : Int) != p) = false := by simp [e9]
          have hcall18 := hm; repeat' (first | (simp -implicitDefEqProofs only [go_sem, ↓reduceIte, Nat.reduceEqDiff, Nat.reduceAdd, Nat.reduceSub, Nat.reduceMul, Nat.reduceLeDiff, Nat.reduceLT, reduceCtorEq, Int.reduceToNat, e0, wu]) | (with_reducible refine g_noent ?_) | (with_reducible refine g_call0 hcall18 ?_) | (with_reducible refine g_calld0 hcall18 ?_) | (refine cdS (fun hg => ?_) (fun hg => ?_) <;> try simp -implicitDefEqProofs only [hg, Bool.not_true, Bool.not_false]) | (refine gdS (fun hg => ?_) (fun hg => ?_) <;> try simp -implicitDefEqProofs only [hg, Bool.not_true, Bool.not_false]) | (refine gddS (fun hg => ?_) (fun hg => ?_) <;> try simp -implicitDefEqProofs only [hg, Bool.not_true, Bool.not_false]) | ((with_reducible apply And.intro); focus (first | trivial | omega | decide | (simp -implicitDefEqProofs only [maxLen]; omega) | (simp [maxLen, sty_len, nd_len, ndL_len, lnL_len, intsL_len, rvs_len, lensS_len]; done) | (simp [maxLen, sty_len, nd_len, ndL_len, lnL_len, intsL_len, rvs_len, lensS_len]; omega))) | fail)
          exact fin _ (by simp [lk])
        · have e0 : ((k : Int) != p) = true := by simp; omega
          have e1 : (groupAt l k == (p : Int)) = false := by
            rw [Bool.eq_false_iff]; intro h
            have : memQ l p k = true := by simp -implicitDefEqProofs only [memQ, h, Bool.and_true, decide_eq_true_eq]; exact e9
            rw [hq] at this; simp at this
          have hcall19 := hm; have hcall20 := hgr; repeat' (first | (simp -implicitDefEqProofs only [go_sem, ↓reduceIte, Nat.reduceEqDiff, Nat.reduceAdd, Nat.reduceSub, Nat.reduceMul, Nat.reduceLeDiff, Nat.reduceLT, reduceCtorEq, Int.reduceToNat, e0, e1, wu]) | (with_reducible refine g_noent ?_) | (with_reducible refine g_call0 hcall19 ?_) | (with_reducible refine g_calld0 hcall19 ?_) | (with_reducible refine g_call0 hcall20 ?_) | (with_reducible refine g_calld0 hcall20 ?_) | (refine cdS (fun hg => ?_) (fun hg => ?_) <;> try simp -implicitDefEqProofs only [hg, Bool.not_true, Bool.not_false]) | (refine gdS (fun hg => ?_) (fun hg => ?_) <;> try simp -implicitDefEqProofs only [hg, Bool.not_true, Bool.not_false]) | (refine gddS (fun hg => ?_) (fun hg => ?_) <;> try simp -implicitDefEqProofs only [hg, Bool.not_true, Bool.not_false]) | ((with_reducible apply And.intro); focus (first | trivial | omega | decide | (simp -implicitDefEqProofs only [maxLen]; omega) | (simp [maxLen, sty_len, nd_len, ndL_len, lnL_len, intsL_len, rvs_len, lensS_len]; done) | (simp [maxLen, sty_len, nd_len, ndL_len, lnL_len, intsL_len, rvs_len, lensS_len]; omega))) | fail)
          exact fin _ (by simp [lk])
    · have hk4 : k = l.length := by simp at hg; omega
      subst hk4
      simp -implicitDefEqProofs only [go_sem, ↓reduceIte, Nat.reduceEqDiff, Nat.reduceAdd, Nat.reduceSub, Nat.reduceMul, Nat.reduceLeDiff, Nat.reduceLT, reduceCtorEq, Int.reduceToNat]
      refine hX _ _ _ ?_
      repeat' (first | (simp -implicitDefEqProofs only [go_sem, ↓reduceIte, Nat.reduceEqDiff, Nat.reduceAdd, Nat.reduceSub, Nat.reduceMul, Nat.reduceLeDiff, Nat.reduceLT, reduceCtorEq, Int.reduceToNat]) | (with_reducible refine g_noent ?_) | (refine cdS (fun hg => ?_) (fun hg => ?_) <;> try simp -implicitDefEqProofs only [hg, Bool.not_true, Bool.not_false]) | (refine gdS (fun hg => ?_) (fun hg => ?_) <;> try simp -implicitDefEqProofs only [hg, Bool.not_true, Bool.not_false]) | (refine gddS (fun hg => ?_) (fun hg => ?_) <;> try simp -implicitDefEqProofs only [hg, Bool.not_true, Bool.not_false]) | ((with_reducible apply And.intro); focus (first | trivial | omega | decide | (simp -implicitDefEqProofs only [maxLen]; omega) | (simp [maxLen, sty_len, nd_len, ndL_len, lnL_len, intsL_len, rvs_len, lensS_len]; done) | (simp [maxLen, sty_len, nd_len, ndL_len, lnL_len, intsL_len, rvs_len, lensS_len]; omega))) | fail)
      exact (hK _ _ ⟨trivial, rn_frz (xs := intsL (natsI (selTo (memQ l p) l.length))) rfl rfl (by simp [intsL, natsI]) (intsL_one _)⟩).2

theorem sp_ref23_Parts (l : List Nd) (ht : treeOK l = true) (hb : l.length ≤ 8589934592) (n : Int) : CallR Go.Proofs.Try.prog 50 [.rv (.sl 49 (ndL l)), .rv (.int .i64 n)] [] [] (.rv (.sl 1 (intsL (natsI (partsAt l n))))) := by
  have hs := tree_shp ht
  have hlen := ndL_len l
  have hm := sp_ref23_Forms l ht n
  cases hi : formAt l n with
  | false =>
    rw [hi] at hm
    rw [show partsAt l n = [] by simp [partsAt, hi]]
    refine callR_nil 1 ?_
    refine callR_G k_decoupageref23_Parts [.rv (.sl 49 (ndL l)), .rv (.int .i64 n)] _ (by simp) (by simp [BkAll, bk_agg, bkAll_map, bk_rv, bk_fn, Sty.sv, Ln.sv, Nd.sv]) (fun K hK => ?_)
    simp -implicitDefEqProofs only [c_decoupageref23_Parts, go_sem, ↓reduceIte, Nat.reduceEqDiff, Nat.reduceAdd, Nat.reduceSub, Nat.reduceMul, Nat.reduceLeDiff, Nat.reduceLT, reduceCtorEq, Int.reduceToNat]
    repeat' (first | (simp -implicitDefEqProofs only [go_sem, ↓reduceIte, Nat.reduceEqDiff, Nat.reduceAdd, Nat.reduceSub, Nat.reduceMul, Nat.reduceLeDiff, Nat.reduceLT, reduceCtorEq, Int.reduceToNat, hlen]) | (with_reducible refine g_noent ?_) | (refine cdS (fun hg => ?_) (fun hg => ?_) <;> try simp -implicitDefEqProofs only [hg, Bool.not_true, Bool.not_false]) | (refine gdS (fun hg => ?_) (fun hg => ?_) <;> try simp -implicitDefEqProofs only [hg, Bool.not_true, Bool.not_false]) | (refine gddS (fun hg => ?_) (fun hg => ?_) <;> try simp -implicitDefEqProofs only [hg, Bool.not_true, Bool.not_false]) | ((with_reducible apply And.intro); focus (first | trivial | omega | decide | (simp -implicitDefEqProofs only [maxLen]; omega) | (simp [maxLen, sty_len, nd_len, ndL_len, lnL_len, intsL_len, rvs_len, lensS_len]; done) | (simp [maxLen, sty_len, nd_len, ndL_len, lnL_len, intsL_len, rvs_len, lensS_len]; omega))) | fail)
    refine g_loop (ι := Nat) (fun k => [(9, .rv (.int .i64 k)), (8, .rv (.int .i64 l.length)), (5, .rv .nilsl), (0, .rv (.sl 49 (ndL l))), (1, .rv (.int .i64 n))]) (fun _ => []) (fun k => k ≤ l.length) (fun k => l.length - k) 0 (by simp) (ent_env (by simp [lk])) (fun k hk K' hN hX hR => ?_)
    simp -implicitDefEqProofs only [go_sem, ↓reduceIte, Nat.reduceEqDiff, Nat.reduceAdd, Nat.reduceSub, Nat.reduceMul, Nat.reduceLeDiff, Nat.reduceLT, reduceCtorEq, Int.reduceToNat]
    refine cdS (fun hg => ?_) (fun hg => ?_)
    · have hk4 : k < l.length := by simp at hg; omega
      have wu := wrap_up (k := k) (by omega)
      have hcall21 := hm; repeat' (first | (simp -implicitDefEqProofs only [go_sem, ↓reduceIte, Nat.reduceEqDiff, Nat.reduceAdd, Nat.reduceSub, Nat.reduceMul, Nat.reduceLeDiff, Nat.reduceLT, reduceCtorEq, Int.reduceToNat, wu]) | (with_reducible refine g_noent ?_) | (with_reducible refine g_call0 hcall21 ?_) | (with_reducible refine g_calld0 hcall21 ?_) | (refine cdS (fun hg => ?_) (fun hg => ?_) <;> try simp -implicitDefEqProofs only [hg, Bool.not_true, Bool.not_false]) | (refine gdS (fun hg => ?_) (fun hg => ?_) <;> try simp -implicitDefEqProofs only [hg, Bool.not_true, Bool.not_false]) | (refine gddS (fun hg => ?_) (fun hg => ?_) <;> try simp -implicitDefEqProofs only [hg, Bool.not_true, Bool.not_false]) | ((with_reducible apply And.intro); focus (first | trivial | omega | decide | (simp -implicitDefEqProofs only [maxLen]; omega) | (simp [maxLen, sty_len, nd_len, ndL_len, lnL_len, intsL_len, rvs_len, lensS_len]; done) | (simp [maxLen, sty_len, nd_len, ndL_len, lnL_len, intsL_len, rvs_len, lensS_len]; omega))) | fail)
      exact hN (k + 1) _ _ (by omega) (by omega) (ent_env (by simp [lk]))
    · simp -implicitDefEqProofs only [go_sem, ↓reduceIte, Nat.reduceEqDiff, Nat.reduceAdd, Nat.reduceSub, Nat.reduceMul, Nat.reduceLeDiff, Nat.reduceLT, reduceCtorEq, Int.reduceToNat]
      refine hX _ _ _ ?_
      repeat' (first | (simp -implicitDefEqProofs only [go_sem, ↓reduceIte, Nat.reduceEqDiff, Nat.reduceAdd, Nat.reduceSub, Nat.reduceMul, Nat.reduceLeDiff, Nat.reduceLT, reduceCtorEq, Int.reduceToNat]) | (with_reducible refine g_noent ?_) | (refine cdS (fun hg => ?_) (fun hg => ?_) <;> try simp -implicitDefEqProofs only [hg, Bool.not_true, Bool.not_false]) | (refine gdS (fun hg => ?_) (fun hg => ?_) <;> try simp -implicitDefEqProofs only [hg, Bool.not_true, Bool.not_false]) | (refine gddS (fun hg => ?_) (fun hg => ?_) <;> try simp -implicitDefEqProofs only [hg, Bool.not_true, Bool.not_false]) | ((with_reducible apply And.intro); focus (first | trivial | omega | decide | (simp -implicitDefEqProofs only [maxLen]; omega) | (simp [maxLen, sty_len, nd_len, ndL_len, lnL_len, intsL_len, rvs_len, lensS_len]; done) | (simp [maxLen, sty_len, nd_len, ndL_len, lnL_len, intsL_len, rvs_len, lensS_len]; omega))) | fail)
      exact (hK _ _ (ret_t rfl)).2
  | true =>
    rw [hi] at hm
    obtain ⟨p, rfl, hp⟩ := inL_nat (lead_in (form_lead hi))
    refine callR_G k_decoupageref23_Parts [.rv (.sl 49 (ndL l)), .rv (.int .i64 p)] _ (by simp) (by simp [BkAll, bk_agg, bkAll_map, bk_rv, bk_fn, Sty.sv, Ln.sv, Nd.sv]) (fun K hK => ?_)
    have hv : partsAt l p = selTo (partQ l p) l.length := by simp [partsAt, hi]
    rw [hv] at hK
    simp -implicitDefEqProofs only [c_decoupageref23_Parts, go_sem, ↓reduceIte, Nat.reduceEqDiff, Nat.reduceAdd, Nat.reduceSub, Nat.reduceMul, Nat.reduceLeDiff, Nat.reduceLT, reduceCtorEq, Int.reduceToNat]
    repeat' (first | (simp -implicitDefEqProofs only [go_sem, ↓reduceIte, Nat.reduceEqDiff, Nat.reduceAdd, Nat.reduceSub, Nat.reduceMul, Nat.reduceLeDiff, Nat.reduceLT, reduceCtorEq, Int.reduceToNat, hlen]) | (with_reducible refine g_noent ?_) | (refine cdS (fun hg => ?_) (fun hg => ?_) <;> try simp -implicitDefEqProofs only [hg, Bool.not_true, Bool.not_false]) | (refine gdS (fun hg => ?_) (fun hg => ?_) <;> try simp -implicitDefEqProofs only [hg, Bool.not_true, Bool.not_false]) | (refine gddS (fun hg => ?_) (fun hg => ?_) <;> try simp -implicitDefEqProofs only [hg, Bool.not_true, Bool.not_false]) | ((with_reducible apply And.intro); focus (first | trivial | omega | decide | (simp -implicitDefEqProofs only [maxLen]; omega) | (simp [maxLen, sty_len, nd_len, ndL_len, lnL_len, intsL_len, rvs_len, lensS_len]; done) | (simp [maxLen, sty_len, nd_len, ndL_len, lnL_len, intsL_len, rvs_len, lensS_len]; omega))) | fail)
    refine g_loop (ι := Nat) (fun k => [(9, .rv (.int .i64 k)), (8, .rv (.int .i64 l.length)), (5, .row 0 (selTo (partQ l p) k).length (selTo (partQ l p) k).length), (0, .rv (.sl 49 (ndL l))), (1, .rv (.int .i64 p))]) (selR (partQ l p)) (fun k => k ≤ l.length) (fun k => l.length - k) 0 (by simp) (by rw [selR_eq, selTo_zero]; exact (ent_ghostv 5 1 0 rfl).trans (ent_env (by simp [lk]))) (fun k hk K' hN hX hR => ?_)
    rw [selR_eq]
    simp -implicitDefEqProofs only [go_sem, ↓reduceIte, Nat.reduceEqDiff, Nat.reduceAdd, Nat.reduceSub, Nat.reduceMul, Nat.reduceLeDiff, Nat.reduceLT, reduceCtorEq, Int.reduceToNat]
    refine cdS (fun hg => ?_) (fun hg => ?_)
    · have hk4 : k < l.length := by simp at hg; omega
      have wu := wrap_up (k := k) (by omega)
      have hs' := selTo_succ (q := partQ l p) (k := k)
      have hsl := selTo_len (q := partQ l p) (k := k)
      have hle := sp_ref23_Leads l ht k
      have hgr := sp_ref23_Context l ht hb k
      cases hq : partQ l p k with
      | true =>
        rw [hq] at hs'
        simp -implicitDefEqProofs only [if_true] at hs'
        have htl := nats_ln (selTo (partQ l p) k)
        have htk : (intsL (natsI (selTo (partQ l p) k))).take (selTo (partQ l p) k).length = intsL (natsI (selTo (partQ l p) k)) := List.take_of_length_le (by omega)
        have hap : natsI (selTo (partQ l p) k) ++ [(k : Int)] = natsI (selTo (partQ l p) (k + 1)) := by rw [hs']; simp [natsI]
        have hll : (selTo (partQ l p) (k + 1)).length = (selTo (partQ l p) k).length + 1 := by rw [hs']; simp
        simp -implicitDefEqProofs only [partQ, Bool.and_eq_true, decide_eq_true_eq] at hq
        have e0 : ((k : Int) != p) = true := by simp; omega
        have e1 : (ctxAt l k == (p : Int)) = true := hq.2
        rw [hq.1.2] at hle
        have hcall22 := hm; have hcall23 := hle; have hcall24 := hgr; repeat' (first | (simp -implicitDefEqProofs only [go_sem, ↓reduceIte, Nat.reduceEqDiff, Nat.reduceAdd, Nat.reduceSub, Nat.reduceMul, Nat.reduceLeDiff, Nat.reduceLT, reduceCtorEq, Int.reduceToNat, e0, e1, wu, htl, htk, rvs_app1, hap]) | (with_reducible refine g_noent ?_) | (with_reducible refine g_call0 hcall22 ?_) | (with_reducible refine g_calld0 hcall22 ?_) | (with_reducible refine g_call0 hcall23 ?_) | (with_reducible refine g_calld0 hcall23 ?_) | (with_reducible refine g_call0 hcall24 ?_) | (with_reducible refine g_calld0 hcall24 ?_) | (refine cdS (fun hg => ?_) (fun hg => ?_) <;> try simp -implicitDefEqProofs only [hg, Bool.not_true, Bool.not_false]) | (refine gdS (fun hg => ?_) (fun hg => ?_) <;> try simp -implicitDefEqProofs only [hg, Bool.not_true, Bool.not_false]) | (refine gddS (fun hg => ?_) (fun hg => ?_) <;> try simp -implicitDefEqProofs only [hg, Bool.not_true, Bool.not_false]) | ((with_reducible apply And.intro); focus (first | trivial | omega | decide | (simp -implicitDefEqProofs only [maxLen]; omega) | (simp [maxLen, sty_len, nd_len, ndL_len, lnL_len, intsL_len, rvs_len, lensS_len]; done) | (simp [maxLen, sty_len, nd_len, ndL_len, lnL_len, intsL_len, rvs_len, lensS_len]; omega))) | fail)
        refine hN (k + 1) _ _ (by omega) (by omega) ?_
        rw [selR_eq, hll]
        exact ent_tail (h' := [some (.row 1 ((selTo (partQ l p) k).length + 1) (rvs (intsL (natsI (selTo (partQ l p) (k + 1))))))]) (C := [some (.row 1 0 [[.rv (.int .i64 k)]])]) (by simp) ⟨clH_rvs, trivial⟩ (by simp [ClEnv, lk, clS_rv, clS_row])
      | false =>
        rw [hq] at hs'
        simp -implicitDefEqProofs only [Bool.false_eq_true, if_false, List.append_nil] at hs'
        have fin : ∀ e, (∀ x ∈ [(9, SV.rv (.int .i64 ((k + 1 : Nat) : Int))), (8, .rv (.int .i64 l.length)), (5, .row 0 (selTo (partQ l p) k).length (selTo (partQ l p) k).length), (0, .rv (.sl 49 (ndL l))), (1, .rv (.int .i64 p))], lk e x.1 = x.2) → K' .normal ⟨e, [some (.row 1 (selTo (partQ l p) k).length (rvs (intsL (natsI (selTo (partQ l p) k)))))]⟩ := fun e he => by
          refine hN (k + 1) _ _ (by omega) (by omega) ?_
          rw [selR_eq, hs']
          exact ent_env fun x hx => .inr (he x hx)
        by_cases e9 : k = p
        · have e0 : ((k : Int) != p) = false := by simp [e9]
          have hcall25 := hm; repeat' (first | (simp -implicitDefEqProofs only [go_sem, ↓reduceIte, Nat.reduceEqDiff, Nat.reduceAdd, Nat.reduceSub, Nat.reduceMul, Nat.reduceLeDiff, Nat.reduceLT, reduceCtorEq, Int.reduceToNat, e0, wu]) | (with_reducible refine g_noent ?_) | (with_reducible refine g_call0 hcall25 ?_) | (with_reducible refine g_calld0 hcall25 ?_) | (refine cdS (fun hg => ?_) (fun hg => ?_) <;> try simp -implicitDefEqProofs only [hg, Bool.not_true, Bool.not_false]) | (refine gdS (fun hg => ?_) (fun hg => ?_) <;> try simp -implicitDefEqProofs only [hg, Bool.not_true, Bool.not_false]) | (refine gddS (fun hg => ?_) (fun hg => ?_) <;> try simp -implicitDefEqProofs only [hg, Bool.not_true, Bool.not_false]) | ((with_reducible apply And.intro); focus (first | trivial | omega | decide | (simp -implicitDefEqProofs only [maxLen]; omega) | (simp [maxLen, sty_len, nd_len, ndL_len, lnL_len, intsL_len, rvs_len, lensS_len]; done) | (simp [maxLen, sty_len, nd_len, ndL_len, lnL_len, intsL_len, rvs_len, lensS_len]; omega))) | fail)
          exact fin _ (by simp [lk])
        · have e0 : ((k : Int) != p) = true := by simp; omega
          cases e2 : leadAt l k with
          | false =>
            rw [e2] at hle
            have hcall26 := hm; have hcall27 := hle; repeat' (first | (simp -implicitDefEqProofs only [go_sem, ↓reduceIte, Nat.reduceEqDiff, Nat.reduceAdd, Nat.reduceSub, Nat.reduceMul, Nat.reduceLeDiff, Nat.reduceLT, reduceCtorEq, Int.reduceToNat, e0, wu]) | (with_reducible refine g_noent ?_) | (with_reducible refine g_call0 hcall26 ?_) | (with_reducible refine g_calld0 hcall26 ?_) | (with_reducible refine g_call0 hcall27 ?_) | (with_reducible refine g_calld0 hcall27 ?_) | (refine cdS (fun hg => ?_) (fun hg => ?_) <;> try simp -implicitDefEqProofs only [hg, Bool.not_true, Bool.not_false]) | (refine gdS (fun hg => ?_) (fun hg => ?_) <;> try simp -implicitDefEqProofs only [hg, Bool.not_true, Bool.not_false]) | (refine gddS (fun hg => ?_) (fun hg => ?_) <;> try simp -implicitDefEqProofs only [hg, Bool.not_true, Bool.not_false]) | ((with_reducible apply And.intro); focus (first | trivial | omega | decide | (simp -implicitDefEqProofs only [maxLen]; omega) | (simp [maxLen, sty_len, nd_len, ndL_len, lnL_len, intsL_len, rvs_len, lensS_len]; done) | (simp [maxLen, sty_len, nd_len, ndL_len, lnL_len, intsL_len, rvs_len, lensS_len]; omega))) | fail)
            exact fin _ (by simp [lk])
          | true =>
            rw [e2] at hle
            have e1 : (ctxAt l k == (p : Int)) = false := by
              rw [Bool.eq_false_iff]; intro h
              have : partQ l p k = true := by simp -implicitDefEqProofs only [partQ, h, e2, Bool.and_true, decide_eq_true_eq]; exact e9
              rw [hq] at this; simp at this
            have hcall28 := hm; have hcall29 := hle; have hcall30 := hgr; repeat' (first | (simp -implicitDefEqProofs only [go_sem, ↓reduceIte, Nat.reduceEqDiff, Nat.reduceAdd, Nat.reduceSub, Nat.reduceMul, Nat.reduceLeDiff, Nat.reduceLT, reduceCtorEq, Int.reduceToNat, e0, e1, wu]) | (with_reducible refine g_noent ?_) | (with_reducible refine g_call0 hcall28 ?_) | (with_reducible refine g_calld0 hcall28 ?_) | (with_reducible refine g_call0 hcall29 ?_) | (with_reducible refine g_calld0 hcall29 ?_) | (with_reducible refine g_call0 hcall30 ?_) | (with_reducible refine g_calld0 hcall30 ?_) | (refine cdS (fun hg => ?_) (fun hg => ?_) <;> try simp -implicitDefEqProofs only [hg, Bool.not_true, Bool.not_false]) | (refine gdS (fun hg => ?_) (fun hg => ?_) <;> try simp -implicitDefEqProofs only [hg, Bool.not_true, Bool.not_false]) | (refine gddS (fun hg => ?_) (fun hg => ?_) <;> try simp -implicitDefEqProofs only [hg, Bool.not_true, Bool.not_false]) | ((with_reducible apply And.intro); focus (first | trivial | omega | decide | (simp -implicitDefEqProofs only [maxLen]; omega) | (simp [maxLen, sty_len, nd_len, ndL_len, lnL_len, intsL_len, rvs_len, lensS_len]; done) | (simp [maxLen, sty_len, nd_len, ndL_len, lnL_len, intsL_len, rvs_len, lensS_len]; omega))) | fail)
            exact fin _ (by simp [lk])
    · have hk4 : k = l.length := by simp at hg; omega
      subst hk4
      simp -implicitDefEqProofs only [go_sem, ↓reduceIte, Nat.reduceEqDiff, Nat.reduceAdd, Nat.reduceSub, Nat.reduceMul, Nat.reduceLeDiff, Nat.reduceLT, reduceCtorEq, Int.reduceToNat]
      refine hX _ _ _ ?_
      repeat' (first | (simp -implicitDefEqProofs only [go_sem, ↓reduceIte, Nat.reduceEqDiff, Nat.reduceAdd, Nat.reduceSub, Nat.reduceMul, Nat.reduceLeDiff, Nat.reduceLT, reduceCtorEq, Int.reduceToNat]) | (with_reducible refine g_noent ?_) | (refine cdS (fun hg => ?_) (fun hg => ?_) <;> try simp -implicitDefEqProofs only [hg, Bool.not_true, Bool.not_false]) | (refine gdS (fun hg => ?_) (fun hg => ?_) <;> try simp -implicitDefEqProofs only [hg, Bool.not_true, Bool.not_false]) | (refine gddS (fun hg => ?_) (fun hg => ?_) <;> try simp -implicitDefEqProofs only [hg, Bool.not_true, Bool.not_false]) | ((with_reducible apply And.intro); focus (first | trivial | omega | decide | (simp -implicitDefEqProofs only [maxLen]; omega) | (simp [maxLen, sty_len, nd_len, ndL_len, lnL_len, intsL_len, rvs_len, lensS_len]; done) | (simp [maxLen, sty_len, nd_len, ndL_len, lnL_len, intsL_len, rvs_len, lensS_len]; omega))) | fail)
      exact (hK _ _ ⟨trivial, rn_frz (xs := intsL (natsI (selTo (partQ l p) l.length))) rfl rfl (by simp [intsL, natsI]) (intsL_one _)⟩).2
end Go.Eng

/- kin: of a list that is the caller's own. -/
namespace Go.Eng
open Go

theorem flat_cells (s : Sty) : ∀ r ∈ s.cells, FlatR r := by
  intro r hr
  simp -implicitDefEqProofs only [Sty.cells, List.mem_cons, List.not_mem_nil, or_false] at hr
  repeat' rcases hr with rfl | hr
  all_goals first | exact .int _ _ | exact .bool _ | (subst hr; exact .int _ _)
theorem flat_nd (x : Nd) : ∀ r ∈ x.cells, FlatR r := by
  intro r hr
  rcases List.mem_append.1 hr with hr | hr
  · exact flat_cells _ r hr
  · simp at hr; rw [hr]; exact .int _ _
theorem flatH_rvs {e v : Nat} {xs : List (List RV)} (h : ∀ x ∈ xs, ∀ r ∈ x, FlatR r) : FlatH (.row e v (rvs xs)) := by
  refine .row _ _ _ (fun i x j y hx hy => ?_)
  unfold rvs at hx
  rw [List.getElem?_map] at hx
  cases hq : xs[i]? with
  | none => simp [hq] at hx
  | some z =>
    simp [hq] at hx
    subst hx
    rw [List.getElem?_map] at hy
    cases hr : z[j]? with
    | none => simp [hr] at hy
    | some r => simp [hr] at hy; subst hy; exact .rv _ (h z (List.mem_of_getElem? hq) r (List.mem_of_getElem? hr))
theorem sp_Clone_NodeR (l : List Nd) (hb : l.length ≤ 8589934592) (i v m : Nat) (hne : i ≠ m) : CallR Go.Proofs.Try.prog 62 [.row i v l.length] [(i, .row 49 v (rvs (ndL l)))] [(m, .row 49 1 (rvs (ndL l)))] (.row m 1 l.length) := by
  have h := sp_Clone_Node (ndL l) m (by rw [ndL_len]; exact hb)
  rw [ndL_len] at h
  refine callR_lend (rs := [.sl 49 (ndL l)]) h (fun hp hpre => ⟨?_, trivial⟩) rfl (.row _ _ _) (fun q hq => ?_)
  · exact fz_rows (hpre _ (.head _)) rfl (by simp [ndL]) (ndL_one l)
  · simp at hq; subst hq
    refine ⟨flatH_rvs fun x hx => ?_, by simpa using hne⟩
    obtain ⟨n, _, rfl⟩ := List.mem_map.1 hx
    exact flat_nd n

theorem nd_sv49m (x : Nd) : (x.cells.map SV.rv).take 49 = x.cells.map SV.rv := rfl
def kTabR (l : List Nd) (k : Nat) : List (List SV) := (List.range l.length).map fun p => [.row (p + 7) (kidsTo l k p).length (kidsTo l k p).length]
def kRowsR (l : List Nd) (k : Nat) : List (Option HB) := (List.range l.length).map fun p => some (.row 1 (kidsTo l k p).length (rvs (intsL (natsI (kidsTo l k p)))))
theorem kTab_lenR (l : List Nd) (k : Nat) : (kTabR l k).length = l.length := by simp [kTabR]
theorem kRows_lenR (l : List Nd) (k : Nat) : (kRowsR l k).length = l.length := by simp [kRowsR]
theorem kTab_getR {l : List Nd} {k p : Nat} (hp : p < l.length) : (kTabR l k)[p]?.getD [] = [.row (p + 7) (kidsTo l k p).length (kidsTo l k p).length] := by simp [kTabR, hp]
theorem kRows_getR {l : List Nd} {k p : Nat} {C : List (Option HB)} (hp : p < l.length) : hget (kRowsR l k ++ C) p = some (.row 1 (kidsTo l k p).length (rvs (intsL (natsI (kidsTo l k p))))) := by
  unfold hget
  rw [List.getElem?_append_left (by rw [kRows_lenR]; exact hp)]
  simp [kRowsR, hp]
theorem kRows_endR {l : List Nd} {k : Nat} {x : Option HB} {C : List (Option HB)} : hget (kRowsR l k ++ x :: C) l.length = x := by
  unfold hget
  rw [List.getElem?_append_right (by rw [kRows_lenR]; exact Nat.le_refl _), kRows_lenR]
  simp
theorem kRows_end1R {l : List Nd} {k : Nat} {x y : Option HB} {C : List (Option HB)} : hget (kRowsR l k ++ x :: y :: C) (l.length + 1) = y := by
  unfold hget
  rw [List.getElem?_append_right (by rw [kRows_lenR]; omega), kRows_lenR, show l.length + 1 - l.length = 1 by omega]
  simp
theorem kRows_end2R {l : List Nd} {k p : Nat} {hb : Option HB} {x y : Option HB} {C : List (Option HB)} : hget ((kRowsR l k).set p hb ++ x :: C) l.length = x := by
  unfold hget
  rw [List.getElem?_append_right (by rw [List.length_set, kRows_lenR]; exact Nat.le_refl _), List.length_set, kRows_lenR]
  simp
theorem kRows_setER {l : List Nd} {k : Nat} {x y : Option HB} {C : List (Option HB)} : (kRowsR l k ++ x :: C).set l.length y = kRowsR l k ++ y :: C := by
  rw [List.set_append_right _ _ (by rw [kRows_lenR]; exact Nat.le_refl _), kRows_lenR, Nat.sub_self]; rfl
theorem kRows_setPR {l : List Nd} {k p : Nat} {y : Option HB} {C : List (Option HB)} (hp : p < l.length) : (kRowsR l k ++ C).set p y = (kRowsR l k).set p y ++ C := by
  rw [List.set_append_left _ _ (by rw [kRows_lenR]; exact hp)]
theorem kRows_zeroR (l : List Nd) : kRowsR l 0 = ghRows l.length 1 := by
  refine List.ext_getElem (by simp [kRowsR, ghRows]) (fun i h1 h2 => ?_)
  simp [kRowsR, ghRows, kidsTo_zero, natsI, intsL, rvs]
theorem kTab_zeroR (l : List Nd) : kTabR l 0 = ghTab 7 l.length l.length := by
  refine List.ext_getElem (by simp [kTabR, ghTab]) (fun i h1 h2 => ?_)
  simp [kTabR] at h1
  simp [kTabR, ghTab, kidsTo_zero, h1]; omega
theorem kRows_nextR {l : List Nd} {k p : Nat} (h0 : 0 < k) (hp : parL l k = p) (hl : p < l.length) :
    (kRowsR l k).set p (some (.row 1 ((kidsTo l k p).length + 1) (rvs (intsL (natsI (kidsTo l k p) ++ [(k : Int)]))))) = kRowsR l (k + 1) := by
  refine List.ext_getElem (by simp [kRowsR]) (fun i h1 h2 => ?_)
  simp -implicitDefEqProofs only [List.getElem_set, kRowsR, List.getElem_map, List.getElem_range, kidsTo_succ]
  by_cases h : p = i
  · subst h; simp [h0, hp, natsI]
  · rw [if_neg h, if_neg (by rw [hp]; omega)]; simp
theorem kTab_nextR {l : List Nd} {k p : Nat} (h0 : 0 < k) (hp : parL l k = p) (hl : p < l.length) :
    (kTabR l k).set p [.row (p + 7) ((kidsTo l k p).length + 1) ((kidsTo l k p).length + 1)] = kTabR l (k + 1) := by
  refine List.ext_getElem (by simp [kTabR]) (fun i h1 h2 => ?_)
  simp -implicitDefEqProofs only [List.getElem_set, kTabR, List.getElem_map, List.getElem_range, kidsTo_succ]
  by_cases h : p = i
  · subst h; simp [h0, hp]
  · rw [if_neg h, if_neg (by rw [hp]; omega)]; simp
theorem kRows_firstR (l : List Nd) : kRowsR l 1 = kRowsR l 0 := by
  refine List.ext_getElem (by simp [kRowsR]) (fun i h1 h2 => ?_)
  simp [kRowsR, kidsTo, List.range_succ]
theorem kTab_firstR (l : List Nd) : kTabR l 1 = kTabR l 0 := by
  refine List.ext_getElem (by simp [kTabR]) (fun i h1 h2 => ?_)
  simp [kTabR, kidsTo, List.range_succ]

def kHeapR (v : Nat) (l : List Nd) (k : Nat) (es ds : List Int) (bs : List Bool) : List (Option HB) := some (.row 49 v (rvs (ndL l))) :: some (.row 49 1 (rvs (ndL l))) :: some (.row 1 0 (kTabR l k)) :: some (.row 1 0 (rvs (intsL es))) :: some (.row 1 0 (rvs (intsL ds))) :: some (.row 1 0 (rvs (boolL bs))) :: some (.var [.row 1 1 l.length, .row 2 0 l.length, .row 3 0 l.length, .row 4 0 l.length, .row 5 0 l.length]) :: kRowsR l k
theorem kHeap_lenR {v : Nat} {l : List Nd} {k : Nat} {es ds : List Int} {bs : List Bool} : (kHeapR v l k es ds bs).length = l.length + 7 := by simp [kHeapR, kRows_lenR]
theorem kHeap_clR {v : Nat} {l : List Nd} {k : Nat} {es ds : List Int} {bs : List Bool} : AllSome (ClH (l.length + 7)) (kHeapR v l k es ds bs) := by
  refine ⟨clH_rvs, clH_rvs, fun i x hx => ?_, clH_rvs, clH_rvs, clH_rvs, by simp [ClH, ClA, clS_row], AllSome.of fun j x hx => ?_⟩
  · obtain ⟨hl, rfl⟩ := List.getElem?_eq_some_iff.1 hx
    simp [kTab_lenR] at hl
    simp [kTabR, ClA, clS_row, hl]
  · obtain ⟨hl, rfl⟩ := List.getElem?_eq_some_iff.1 hx
    exact ⟨.row 1 (kidsTo l k j).length (rvs (intsL (natsI (kidsTo l k j)))), by simp [kRowsR], clH_rvs⟩
theorem kHeap_tailR {v : Nat} {l : List Nd} {k : Nat} {es ds : List Int} {bs : List Bool} {env env' : List (Nat × SV)} {C : List (Option HB)} (he : ClEnv (l.length + 7) env env') : Ent 1 ⟨env, kHeapR v l k es ds bs ++ C⟩ ⟨env', kHeapR v l k es ds bs⟩ :=
  ent_tail (by rw [kHeap_lenR]; omega) (by rw [kHeap_lenR]; exact kHeap_clR) (by rw [kHeap_lenR]; exact he)

theorem kin_fzR (v : Nat) (l : List Nd) {τ : Nat → Option Nat} (hτ : ∀ j, 0 < j → τ j = none) : Fz τ (hget (kHeapR v l l.length (endsL l) (depTo l l.length) (madeTo l l.length))) (.ptr 6 0) (kinV l) := by
  refine .ptr 6 [.row 1 1 l.length, .row 2 0 l.length, .row 3 0 l.length, .row 4 0 l.length, .row 5 0 l.length] _ (hτ _ (by decide)) rfl rfl (fun i r hr => ?_) (fun i x r hx hr => ?_)
  · match i with
    | 0 => cases hr; rfl
    | 1 => cases hr; rfl
    | 2 => cases hr; rfl
    | 3 => cases hr; rfl
    | 4 => cases hr; rfl
    | i + 5 => simp at hr
  · match i with
    | 0 => cases hx; cases hr; exact fz_rows rfl (hτ _ (by decide)) (by simp [ndL]) (ndL_one l)
    | 1 =>
      cases hx; cases hr
      refine .row 2 1 0 l.length (kTabR l l.length) (kidsL l) (hτ _ (by decide)) rfl (by simp [kidsL]) (by rw [kTab_lenR]; exact Nat.le_refl _) (fun i x r hx hr => ?_) (fun i r k q hr hq => ?_) (fun i x r k y q hx hr hy hq => ?_)
      · obtain ⟨_, rfl⟩ := List.getElem?_eq_some_iff.1 hx
        obtain ⟨_, rfl⟩ := List.getElem?_eq_some_iff.1 hr
        simp [kTabR, kidsL]
      · obtain ⟨_, rfl⟩ := List.getElem?_eq_some_iff.1 hr
        have := List.mem_of_getElem? hq
        simp [kidsL] at this
        rw [this]; rfl
      · obtain ⟨hl, rfl⟩ := List.getElem?_eq_some_iff.1 hx
        obtain ⟨_, rfl⟩ := List.getElem?_eq_some_iff.1 hr
        rw [kTab_lenR] at hl
        cases k with
        | succ k => simp [kTabR] at hy
        | zero =>
          simp [kTabR] at hy
          simp [kidsL] at hq
          subst hy; subst hq
          refine fz_rows (xs := intsL (natsI (kidsOf l i))) ?_ (hτ _ (by omega)) (by simp [intsL, natsI, kidsOf]) (intsL_one _)
          have := kRows_getR (k := l.length) (C := []) hl
          rw [List.append_nil] at this
          exact this
    | 2 => cases hx; cases hr; exact fz_rows rfl (hτ _ (by decide)) (by simp [intsL, endsL]) (intsL_one _)
    | 3 => cases hx; cases hr; exact fz_rows rfl (hτ _ (by decide)) (by simp [intsL, depTo]) (intsL_one _)
    | 4 => cases hx; cases hr; exact fz_rows rfl (hτ _ (by decide)) (by simp [boolL, madeTo]) (boolL_one _)
    | i + 5 => simp at hx

set_option maxRecDepth 20000 in
set_option maxHeartbeats 8000000 in
theorem sp_kin_OfR (l : List Nd) (hb : l.length ≤ 8589934592) (hc : chk l = 0) (i0 v : Nat) : CallR Go.Proofs.Try.prog 17 [.row i0 v l.length] [(i0, .row 49 v (rvs (ndL l)))] [] (.tup [.rv (kinV l), .rv (.int .i64 0)]) := by
  refine callR_M k_kin_Of [i0] [.row 49 v (rvs (ndL l))] [.row 49 v (rvs (ndL l))] [.row 0 v l.length] [.row i0 v l.length] _ _ (by simp) (by simp [BkAll, bk_row]) rfl (by simp [nodupL]) ⟨rfl, rfl, ⟨rfl, _, rfl⟩, trivial⟩ (fun K hK => ?_)
  have hlen := ndL_len l
  have hck0 := sp_tree_Check l hb
  rw [hc] at hck0
  have hck := lend1 (id := 0) (v := v) (n := l.length) (bs := []) hck0 (.int _ _) (by simp [ndL]) (ndL_one l)
  have ht : treeOK l = true := by
    unfold chk at hc
    cases h : treeOK l with
    | true => rfl
    | false => rw [h] at hc; simp at hc
  have hs : Shp l := shape_iff.1 (by unfold treeOK at ht; simp -implicitDefEqProofs only [Bool.and_eq_true] at ht; exact ht.1)
  have e00 : (((0 : Int)) != 0) = false := rfl
  simp -implicitDefEqProofs only [c_kin_Of, go_sem, ↓reduceIte, Nat.reduceEqDiff, Nat.reduceAdd, Nat.reduceSub, Nat.reduceMul, Nat.reduceLeDiff, Nat.reduceLT, reduceCtorEq, Int.reduceToNat]
  have hb2 : (ndL l).length ≤ 8589934592 := by rw [hlen]; exact hb
  have hcall1 := hck; have hcall2 := sp_Clone_NodeR l hb 0 v 1 (by decide); repeat' (first | (simp -implicitDefEqProofs only [go_sem, ↓reduceIte, Nat.reduceEqDiff, Nat.reduceAdd, Nat.reduceSub, Nat.reduceMul, Nat.reduceLeDiff, Nat.reduceLT, reduceCtorEq, Int.reduceToNat, e00, hlen, rvs_rep1, rvs_repB]) | (with_reducible refine g_noent ?_) | (refine g_call hcall1 (by simp [PreOK, hget]; done) (by simp [okU, uph]; done) ?_) | (refine g_calld hcall1 (by simp [PreOK, hget]; done) (by simp [okU, uph]; done) ?_) | (refine g_call hcall2 (by simp [PreOK, hget]; done) (by simp [okU, uph]; done) ?_) | (refine g_calld hcall2 (by simp [PreOK, hget]; done) (by simp [okU, uph]; done) ?_) | (refine cdS (fun hg => ?_) (fun hg => ?_) <;> try simp -implicitDefEqProofs only [hg, Bool.not_true, Bool.not_false]) | (refine gdS (fun hg => ?_) (fun hg => ?_) <;> try simp -implicitDefEqProofs only [hg, Bool.not_true, Bool.not_false]) | (refine gddS (fun hg => ?_) (fun hg => ?_) <;> try simp -implicitDefEqProofs only [hg, Bool.not_true, Bool.not_false]) | ((with_reducible apply And.intro); focus (first | trivial | omega | decide | (simp -implicitDefEqProofs only [maxLen]; omega) | (simp [maxLen, sty_len, nd_len, ndL_len, lnL_len, intsL_len, rvs_len, lensS_len]; done) | (simp [maxLen, sty_len, nd_len, ndL_len, lnL_len, intsL_len, rvs_len, lensS_len]; omega))) | fail)
  have hkt : ∀ n : Nat, kTabR l 0 = ghTab 7 l.length l.length := fun _ => kTab_zeroR l
  let ev : Nat → List (Nat × SV) := fun k => [(33, .rv (.int .i64 k)), (32, .rv (.int .i64 l.length)), (31, .row 0 v l.length), (5, .ptr 6 0), (0, .row 0 v l.length)]
  refine g_loop (ι := Nat) (fun k => [(33, .rv (.int .i64 k)), (32, .rv (.int .i64 l.length)), (31, .row 0 v l.length), (5, .ptr 6 0), (0, .row 0 v l.length)]) (fun k => some (.row 49 v (rvs (ndL l))) :: some (.row 49 1 (rvs (ndL l))) :: some (.row 1 0 (kTabR l k)) :: some (.row 1 0 (rvs (intsL (List.replicate l.length 0)))) :: some (.row 1 0 (rvs (intsL (depTo l k)))) :: some (.row 1 0 (rvs (boolL (madeTo l k)))) :: some (.var [.row 1 1 l.length, .row 2 0 l.length, .row 3 0 l.length, .row 4 0 l.length, .row 5 0 l.length]) :: kRowsR l k) (fun k => k ≤ l.length) (fun k => l.length - k) 0 (by simp) ?_ (fun k hk K' hN hX hR => ?_)
  · refine (ent_env (env' := [(33, .rv (.int .i64 0)), (32, .rv (.int .i64 l.length)), (31, .row 0 v l.length), (5, .ptr 6 0), (0, .row 0 v l.length)]) (by simp [lk])).trans ?_
    rw [kTab_zeroR, kRows_zeroR, depTo_zero, madeTo_zero]
    exact ent_ghosts (r := 2) (v := 0) (n := l.length) (e := 1) rfl
  simp -implicitDefEqProofs only [go_sem, ↓reduceIte, Nat.reduceEqDiff, Nat.reduceAdd, Nat.reduceSub, Nat.reduceMul, Nat.reduceLeDiff, Nat.reduceLT, reduceCtorEq, Int.reduceToNat]
  refine cdS (fun hg => ?_) (fun hg => ?_)
  · have hk4 : k < l.length := by simp at hg; omega
    have hx := ndL_get hk4
    have krl := kRows_lenR l k
    have hdl := depTo_len l k
    have hdd := intsL_len (depTo l k)
    have hd1 := intsL_getD (l := depTo l k) (i := k) (by omega)
    have hml := madeTo_len l k
    have hmm := boolL_len (madeTo l k)
    have hm1 := boolL_getD (bs := madeTo l k) (i := k) (by omega)
    have hsh := shownL_eq hk4
    have e1 : (l.length = l.length + 1) = False := eq_false (by omega)
    have e2 : (l.length = l.length + 2) = False := eq_false (by omega)
    have hds := depTo_set hk4
    have hds2 := depTo_set2 hk4
    have wu := wrap_up (k := k) (by omega)
    by_cases hk0 : 0 < k
    · have hgt : decide ((k : Int) > 0) = true := decide_eq_true (by omega)
      obtain ⟨p1, p2⟩ := hs.wf.2 k hk0 hk4
      obtain ⟨p, hp⟩ : ∃ p : Nat, parL l k = p := ⟨(parL l k).toNat, by omega⟩
      have hpl : p < l.length := by omega
      have q0 : (p = l.length) = False := eq_false (by omega)
      have q1 : (p = l.length + 1) = False := eq_false (by omega)
      have q2 : (p = l.length + 2) = False := eq_false (by omega)
      have hpk := parL_eq hk4
      have hds3 : (depTo l k).set k 1 = (depTo l k).set k 1 := rfl
      have hdsl : ((depTo l k).set k 1).length = l.length := by simp [hdl]
      have hdsl2 := intsL_len ((depTo l k).set k 1)
      have hdp := intsL_getD (l := (depTo l k).set k 1) (i := p) (by omega)
      have hdk := intsL_getD (l := (depTo l k).set k 1) (i := k) (by omega)
      rw [depTo_get (by omega) (by omega)] at hdp
      have hdep := depth_par hs.wf hk0 hk4
      rw [hp, Int.toNat_natCast] at hdep
      have wd := wrap_up (k := depth l p) (by have := pth_len (l := l) p; unfold depth; omega)
      rw [← hdep] at wd
      obtain ⟨b, hsv⟩ : ∃ b, shownL l k = b := ⟨_, rfl⟩
      have hmp := boolL_getD (bs := (madeTo l k).set k b) (i := p) (by simp [hml]; omega)
      have hmk := boolL_getD (bs := (madeTo l k).set k b) (i := k) (by simp [hml]; omega)
      rw [madeTo_get (by omega) (by omega)] at hmp
      have hmsl : ((madeTo l k).set k b).length = l.length := by simp [hml]
      have hmsl2 := boolL_len ((madeTo l k).set k b)
      have hms : ((madeTo l k).set k b).set k (b && madeS l p) = madeTo l (k + 1) := by
        have := madeS_par hs.wf hk0 hk4
        rw [hp, Int.toNat_natCast, hsv] at this
        rw [List.set_set, ← this, madeTo_set hk4]
      have hktl := kTab_lenR l k
      have hktg := kTab_getR (k := k) hpl
      have hkrg := fun C => kRows_getR (k := k) (C := C) hpl
      have hkn := kRows_nextR hk0 hp hpl
      have htn := kTab_nextR hk0 hp hpl
      have hsp := fun (y : Option HB) C => kRows_setPR (k := k) (y := y) (C := C) hpl
      have hkl : (natsI (kidsTo l k p)).length = (kidsTo l k p).length := by simp [natsI]
      have hkl2 := intsL_len (natsI (kidsTo l k p))
      have htk : (intsL (natsI (kidsTo l k p))).take (kidsTo l k p).length = intsL (natsI (kidsTo l k p)) := List.take_of_length_le (by rw [hkl2, hkl]; exact Nat.le_refl _)
      have hkk := kidsTo_len (l := l) (k := k) (p := p)
      cases b
      all_goals simp -implicitDefEqProofs only [Bool.false_and, Bool.true_and] at hms
      · repeat' (first | (simp -implicitDefEqProofs only [go_sem, ↓reduceIte, Nat.reduceEqDiff, Nat.reduceAdd, Nat.reduceSub, Nat.reduceMul, Nat.reduceLeDiff, Nat.reduceLT, reduceCtorEq, Int.reduceToNat, hlen, hx, krl, nd_len, nd_sv48, nd_sv49m, Nat.add_assoc, kRows_endR, List.append_assoc, hdl, hdd, hd1, hml, hmm, hm1, rvs_set1, rvs_setB, nd_at0, hsh, hsv, e1, e2, kRows_setER, hgt, hpk, hp, nd_atp, hktl, hktg, hkrg, q0, q1, q2, hsp, kRows_end1R, kRows_end2R, hkl, hkl2, htk, rvs_app1, hkn, htn, hdsl, hdsl2, hdp, hdk, wd, hds2, wu, hmp, hmk, hmsl, hmsl2]) | (with_reducible refine g_noent ?_) | (refine cdS (fun hg => ?_) (fun hg => ?_) <;> try simp -implicitDefEqProofs only [hg, Bool.not_true, Bool.not_false]) | (refine gdS (fun hg => ?_) (fun hg => ?_) <;> try simp -implicitDefEqProofs only [hg, Bool.not_true, Bool.not_false]) | (refine gddS (fun hg => ?_) (fun hg => ?_) <;> try simp -implicitDefEqProofs only [hg, Bool.not_true, Bool.not_false]) | ((with_reducible apply And.intro); focus (first | trivial | omega | decide | (simp -implicitDefEqProofs only [maxLen]; omega) | (simp [maxLen, sty_len, nd_len, ndL_len, lnL_len, intsL_len, rvs_len, lensS_len]; done) | (simp [maxLen, sty_len, nd_len, ndL_len, lnL_len, intsL_len, rvs_len, lensS_len]; omega) | (simp (decide := true) [compatB, compatB1, apartT, disj, Nat.testBit, q0, q1, q2]; done))) | fail)
        rw [hms]
        exact hN (k + 1) _ _ (by omega) (by omega) (kHeap_tailR (v := v) (l := l) (k := k + 1) (by simp [ClEnv, lk, clS_rv, clS_ptr, clS_row]))
      · repeat' (first | (simp -implicitDefEqProofs only [go_sem, ↓reduceIte, Nat.reduceEqDiff, Nat.reduceAdd, Nat.reduceSub, Nat.reduceMul, Nat.reduceLeDiff, Nat.reduceLT, reduceCtorEq, Int.reduceToNat, hlen, hx, krl, nd_len, nd_sv48, nd_sv49m, Nat.add_assoc, kRows_endR, List.append_assoc, hdl, hdd, hd1, hml, hmm, hm1, rvs_set1, rvs_setB, nd_at0, hsh, hsv, e1, e2, kRows_setER, hgt, hpk, hp, nd_atp, hktl, hktg, hkrg, q0, q1, q2, hsp, kRows_end1R, kRows_end2R, hkl, hkl2, htk, rvs_app1, hkn, htn, hdsl, hdsl2, hdp, hdk, wd, hds2, wu, hmp, hmk, hmsl, hmsl2]) | (with_reducible refine g_noent ?_) | (refine cdS (fun hg => ?_) (fun hg => ?_) <;> try simp -implicitDefEqProofs only [hg, Bool.not_true, Bool.not_false]) | (refine gdS (fun hg => ?_) (fun hg => ?_) <;> try simp -implicitDefEqProofs only [hg, Bool.not_true, Bool.not_false]) | (refine gddS (fun hg => ?_) (fun hg => ?_) <;> try simp -implicitDefEqProofs only [hg, Bool.not_true, Bool.not_false]) | ((with_reducible apply And.intro); focus (first | trivial | omega | decide | (simp -implicitDefEqProofs only [maxLen]; omega) | (simp [maxLen, sty_len, nd_len, ndL_len, lnL_len, intsL_len, rvs_len, lensS_len]; done) | (simp [maxLen, sty_len, nd_len, ndL_len, lnL_len, intsL_len, rvs_len, lensS_len]; omega) | (simp (decide := true) [compatB, compatB1, apartT, disj, Nat.testBit, q0, q1, q2]; done))) | fail)
        rw [hms]
        exact hN (k + 1) _ _ (by omega) (by omega) (kHeap_tailR (v := v) (l := l) (k := k + 1) (by simp [ClEnv, lk, clS_rv, clS_ptr, clS_row]))
    · obtain rfl : k = 0 := by omega
      have hgt : decide (((0 : Nat) : Int) > 0) = false := rfl
      rw [depth_zero] at hds
      have hms := madeTo_set hk4
      rw [madeS_zero] at hms
      have hds1 : (depTo l 0).set 0 1 = depTo l (0 + 1) := hds
      repeat' (first | (simp -implicitDefEqProofs only [go_sem, ↓reduceIte, Nat.reduceEqDiff, Nat.reduceAdd, Nat.reduceSub, Nat.reduceMul, Nat.reduceLeDiff, Nat.reduceLT, reduceCtorEq, Int.reduceToNat, hlen, hx, krl, nd_len, nd_sv48, nd_sv49m, Nat.add_assoc, kRows_endR, List.append_assoc, hdl, hdd, hd1, hml, hmm, hm1, rvs_set1, rvs_setB, nd_at0, hsh, e1, e2, kRows_setER, hgt, wu, hms, hds1]) | (with_reducible refine g_noent ?_) | (refine cdS (fun hg => ?_) (fun hg => ?_) <;> try simp -implicitDefEqProofs only [hg, Bool.not_true, Bool.not_false]) | (refine gdS (fun hg => ?_) (fun hg => ?_) <;> try simp -implicitDefEqProofs only [hg, Bool.not_true, Bool.not_false]) | (refine gddS (fun hg => ?_) (fun hg => ?_) <;> try simp -implicitDefEqProofs only [hg, Bool.not_true, Bool.not_false]) | ((with_reducible apply And.intro); focus (first | trivial | omega | decide | (simp -implicitDefEqProofs only [maxLen]; omega) | (simp [maxLen, sty_len, nd_len, ndL_len, lnL_len, intsL_len, rvs_len, lensS_len]; done) | (simp [maxLen, sty_len, nd_len, ndL_len, lnL_len, intsL_len, rvs_len, lensS_len]; omega))) | fail)
      refine hN 1 _ _ (by omega) (by omega) ?_
      rw [kTab_firstR, kRows_firstR]
      exact kHeap_tailR (v := v) (l := l) (k := 0) (es := List.replicate l.length 0) (ds := depTo l (0 + 1)) (bs := madeTo l (0 + 1)) (C := [some (.var ((l[0]'hk4).cells.map .rv))]) (by simp [ClEnv, lk, clS_rv, clS_ptr, clS_row])
  · have hk4 : k = l.length := by simp at hg; omega
    subst hk4
    simp -implicitDefEqProofs only [go_sem, ↓reduceIte, Nat.reduceEqDiff, Nat.reduceAdd, Nat.reduceSub, Nat.reduceMul, Nat.reduceLeDiff, Nat.reduceLT, reduceCtorEq, Int.reduceToNat]
    refine hX _ _ _ ?_
    have wl := wrap_dn hs.pos (by omega)
    repeat' (first | (simp -implicitDefEqProofs only [go_sem, ↓reduceIte, Nat.reduceEqDiff, Nat.reduceAdd, Nat.reduceSub, Nat.reduceMul, Nat.reduceLeDiff, Nat.reduceLT, reduceCtorEq, Int.reduceToNat, hlen, wl]) | (with_reducible refine g_noent ?_) | (refine cdS (fun hg => ?_) (fun hg => ?_) <;> try simp -implicitDefEqProofs only [hg, Bool.not_true, Bool.not_false]) | (refine gdS (fun hg => ?_) (fun hg => ?_) <;> try simp -implicitDefEqProofs only [hg, Bool.not_true, Bool.not_false]) | (refine gddS (fun hg => ?_) (fun hg => ?_) <;> try simp -implicitDefEqProofs only [hg, Bool.not_true, Bool.not_false]) | ((with_reducible apply And.intro); focus (first | trivial | omega | decide | (simp -implicitDefEqProofs only [maxLen]; omega) | (simp [maxLen, sty_len, nd_len, ndL_len, lnL_len, intsL_len, rvs_len, lensS_len]; done) | (simp [maxLen, sty_len, nd_len, ndL_len, lnL_len, intsL_len, rvs_len, lensS_len]; omega))) | fail)
    clear hN hX hR
    refine g_loop (ι := Nat) (fun k => [(8, .rv (.int .i64 ((k : Int) - 1))), (5, .ptr 6 0)]) (fun k => kHeapR v l l.length (endTo l k) (depTo l l.length) (madeTo l l.length)) (fun k => k ≤ l.length) (fun k => k) l.length (Nat.le_refl _) (by rw [endTo_top]; exact ent_env (by simp [lk]; have := hs.pos; omega)) (fun k hk K' hN hX hR => ?_)
    simp -implicitDefEqProofs only [kHeapR, go_sem, ↓reduceIte, Nat.reduceEqDiff, Nat.reduceAdd, Nat.reduceSub, Nat.reduceMul, Nat.reduceLeDiff, Nat.reduceLT, reduceCtorEq, Int.reduceToNat]
    refine cdS (fun hg => ?_) (fun hg => ?_)
    · have hk0 : 0 < k := by simp at hg; omega
      obtain ⟨j, rfl⟩ : ∃ j, k = j + 1 := ⟨k - 1, by omega⟩
      have ej : (((j + 1 : Nat) : Int) - 1) = (j : Int) := by omega
      have wj := wrap_up (k := j) (by omega)
      have hjl : j < l.length := by omega
      have hel := endTo_len l (j + 1)
      have hell := intsL_len (endTo l (j + 1))
      have he1 := intsL_getD (l := endTo l (j + 1)) (i := j) (by omega)
      have hktl := kTab_lenR l l.length
      have hktg := kTab_getR (k := l.length) hjl
      have hkrg := kRows_getR (k := l.length) (C := []) hjl
      simp -implicitDefEqProofs only [List.append_nil] at hkrg
      have hkl : (natsI (kidsTo l l.length j)).length = (kidsTo l l.length j).length := by simp [natsI]
      have hkl2 := intsL_len (natsI (kidsTo l l.length j))
      have hkk := kidsTo_len (l := l) (k := l.length) (p := j)
      have hsl : ((endTo l (j + 1)).set j ((j + 1 : Nat) : Int)).length = l.length := by simp [hel]
      have hsll := intsL_len ((endTo l (j + 1)).set j ((j + 1 : Nat) : Int))
      have hse := endTo_set (l := l) (k := j + 1) (by omega) (by omega)
      simp -implicitDefEqProofs only [Nat.add_sub_cancel] at hse
      have wd : IntKind.i64.wrap ((j : Int) - 1) = ((j : Int) - 1) := wrap_i64 (by omega) (by omega)
      by_cases hk1 : kidsTo l l.length j = []
      · have hm0 : decide ((((kidsTo l l.length j).length : Nat) : Int) > 0) = false := by rw [hk1]; rfl
        have he := endS_leaf hk1
        rw [he] at hse
        repeat' (first | (simp -implicitDefEqProofs only [go_sem, ↓reduceIte, Nat.reduceEqDiff, Nat.reduceAdd, Nat.reduceSub, Nat.reduceMul, Nat.reduceLeDiff, Nat.reduceLT, reduceCtorEq, Int.reduceToNat, hel, hell, he1, hktl, hktg, hkrg, ej, wj, hm0, rvs_set1, hse, wd]) | (with_reducible refine g_noent ?_) | (refine cdS (fun hg => ?_) (fun hg => ?_) <;> try simp -implicitDefEqProofs only [hg, Bool.not_true, Bool.not_false]) | (refine gdS (fun hg => ?_) (fun hg => ?_) <;> try simp -implicitDefEqProofs only [hg, Bool.not_true, Bool.not_false]) | (refine gddS (fun hg => ?_) (fun hg => ?_) <;> try simp -implicitDefEqProofs only [hg, Bool.not_true, Bool.not_false]) | ((with_reducible apply And.intro); focus (first | trivial | omega | decide | (simp -implicitDefEqProofs only [maxLen]; omega) | (simp [maxLen, sty_len, nd_len, ndL_len, lnL_len, intsL_len, rvs_len, lensS_len]; done) | (simp [maxLen, sty_len, nd_len, ndL_len, lnL_len, intsL_len, rvs_len, lensS_len]; omega))) | fail)
        refine hN j _ _ (by omega) (by omega) (ent_env (by simp [lk]))
      · obtain ⟨c, hc⟩ : ∃ c, (kidsTo l l.length j).getLast? = some c := by
          cases h : (kidsTo l l.length j).getLast? with
          | none => exact absurd (List.getLast?_eq_none_iff.1 h) hk1
          | some c => exact ⟨c, rfl⟩
        have hpos : 0 < (kidsTo l l.length j).length := List.length_pos_iff.2 hk1
        have hm0 : decide ((((kidsTo l l.length j).length : Nat) : Int) > 0) = true := decide_eq_true (by omega)
        have hcm : c ∈ kidsOf l j := List.mem_of_getLast? hc
        obtain ⟨c1, c2, c3⟩ := mem_kids.1 hcm
        have hcj : j < c := by have := (hs.wf.2 c c1 c2).2; omega
        have he := endS_last hc hcj c2
        rw [he] at hse
        have wm := wrap_dn hpos (by omega)
        have hcg : (natsI (kidsTo l l.length j)).getD ((kidsTo l l.length j).length - 1) 0 = (c : Int) := by
          rw [List.getLast?_eq_getElem?] at hc
          simp [natsI, List.getD_eq_getElem?_getD, hc]
        have hcx := intsL_getD (l := natsI (kidsTo l l.length j)) (i := (kidsTo l l.length j).length - 1) (by omega)
        rw [hcg] at hcx
        have hec := intsL_getD (l := (endTo l (j + 1)).set j ((j + 1 : Nat) : Int)) (i := c) (by omega)
        have hev := endTo_get (l := l) (k := j + 1) (j := c) (v := ((j + 1 : Nat) : Int)) (by omega) (by omega) c2
        simp -implicitDefEqProofs only [Nat.add_sub_cancel] at hev
        rw [hev] at hec
        have hej := intsL_getD (l := (endTo l (j + 1)).set j ((j + 1 : Nat) : Int)) (i := j) (by omega)
        have hset : ((endTo l (j + 1)).set j ((j + 1 : Nat) : Int)).set j (endS l c) = endTo l j := by rw [List.set_set, hse]
        repeat' (first | (simp -implicitDefEqProofs only [go_sem, ↓reduceIte, Nat.reduceEqDiff, Nat.reduceAdd, Nat.reduceSub, Nat.reduceMul, Nat.reduceLeDiff, Nat.reduceLT, reduceCtorEq, Int.reduceToNat, hel, hell, he1, hktl, hktg, hkrg, ej, wj, hm0, rvs_set1, wd, wm, hcx, hec, hej, hset, hsl, hsll, hkl, hkl2]) | (with_reducible refine g_noent ?_) | (refine cdS (fun hg => ?_) (fun hg => ?_) <;> try simp -implicitDefEqProofs only [hg, Bool.not_true, Bool.not_false]) | (refine gdS (fun hg => ?_) (fun hg => ?_) <;> try simp -implicitDefEqProofs only [hg, Bool.not_true, Bool.not_false]) | (refine gddS (fun hg => ?_) (fun hg => ?_) <;> try simp -implicitDefEqProofs only [hg, Bool.not_true, Bool.not_false]) | ((with_reducible apply And.intro); focus (first | trivial | omega | decide | (simp -implicitDefEqProofs only [maxLen]; omega) | (simp [maxLen, sty_len, nd_len, ndL_len, lnL_len, intsL_len, rvs_len, lensS_len]; done) | (simp [maxLen, sty_len, nd_len, ndL_len, lnL_len, intsL_len, rvs_len, lensS_len]; omega))) | fail)
        refine hN j _ _ (by omega) (by omega) (ent_env (by simp [lk]))
    · obtain rfl : k = 0 := by simp at hg; omega
      simp -implicitDefEqProofs only [go_sem, ↓reduceIte, Nat.reduceEqDiff, Nat.reduceAdd, Nat.reduceSub, Nat.reduceMul, Nat.reduceLeDiff, Nat.reduceLT, reduceCtorEq, Int.reduceToNat]
      refine hX _ _ _ ?_
      repeat' (first | (simp -implicitDefEqProofs only [go_sem, ↓reduceIte, Nat.reduceEqDiff, Nat.reduceAdd, Nat.reduceSub, Nat.reduceMul, Nat.reduceLeDiff, Nat.reduceLT, reduceCtorEq, Int.reduceToNat]) | (with_reducible refine g_noent ?_) | (refine cdS (fun hg => ?_) (fun hg => ?_) <;> try simp -implicitDefEqProofs only [hg, Bool.not_true, Bool.not_false]) | (refine gdS (fun hg => ?_) (fun hg => ?_) <;> try simp -implicitDefEqProofs only [hg, Bool.not_true, Bool.not_false]) | (refine gddS (fun hg => ?_) (fun hg => ?_) <;> try simp -implicitDefEqProofs only [hg, Bool.not_true, Bool.not_false]) | ((with_reducible apply And.intro); focus (first | trivial | omega | decide | (simp -implicitDefEqProofs only [maxLen]; omega) | (simp [maxLen, sty_len, nd_len, ndL_len, lnL_len, intsL_len, rvs_len, lensS_len]; done) | (simp [maxLen, sty_len, nd_len, ndL_len, lnL_len, intsL_len, rvs_len, lensS_len]; omega))) | fail)
      refine (hK _ _ _ _ [] (ent_refl _ _) ?_).2
      rw [endTo_zero]
      simp -implicitDefEqProofs only [retM, List.map_cons, List.map_nil, List.append_nil]
      refine ⟨by simp [nodupL], trivial, trivial, ⟨?_, trivial⟩, trivial, rn_tup.2 ⟨?_, rn_rv.2 rfl, trivial⟩⟩
      · rw [show finU (lkp ([i0].zip [HB.row 49 v (rvs (ndL l))]) i0) [] i0 = some (HB.row 49 v (rvs (ndL l))) from by simp [finU, lkp]]
        exact ⟨rfl, rfl, rnRows_rvs.2 rfl⟩
      · exact .fz _ _ (kin_fzR v l (fun j hj => by cases j with
          | zero => omega
          | succ j => rfl))


theorem sp_kin_OfR_bad (l : List Nd) (hb : l.length ≤ 8589934592) (hc : chk l ≠ 0) (i0 v : Nat) : CallR Go.Proofs.Try.prog 17 [.row i0 v l.length] [(i0, .row 49 v (rvs (ndL l)))] [] (.tup [.rv .nilp, .rv (.int .i64 (chk l))]) :=
  lend1t (bs := []) (rs := [.nilp, .int .i64 (chk l)]) (sp_kin_Of_bad l hb hc) (by
    intro r hr
    simp at hr
    rcases hr with rfl | rfl
    · exact .nilp
    · exact .int _ _) (by simp [ndL]) (ndL_one l)
end Go.Eng

/- kin: what is told of a node is what the document says. -/
namespace Go.Eng
open Go
/- decoupage/decoupagelaw06.Plain -/
def c_decoupagelaw06_Plain : AC := (.seq (.reg [⟨(some 0), (.alloc [(.bool false), (.int .i64 0), (.int .i64 0), (.int .i64 0), (.int .i64 0), (.int .i64 0), (.int .i64 0), (.int .i64 0), (.int .i64 0), (.int .i64 0), (.int .i64 0), (.int .i64 0), (.int .i64 0), (.int .i64 0), (.int .i64 0), (.int .i64 0), (.int .i64 0), (.int .i64 0), (.int .i64 0), (.int .i64 0), (.int .i64 0), (.int .i64 0), (.int .i64 0), (.int .i64 0), (.int .i64 0), (.int .i64 0), (.int .i64 0), (.int .i64 0), (.int .i64 0), (.int .i64 0), (.int .i64 0), (.int .i64 0), (.int .i64 0), (.int .i64 0), (.int .i64 0), (.int .i64 0), (.int .i64 0), (.int .i64 0), (.int .i64 0), (.int .i64 0), (.int .i64 0), (.int .i64 0), (.bool false), (.bool false), (.int .i64 0), (.bool false), (.int .i64 0), (.int .i64 0)]), [], none⟩]) (.seq (.reg [⟨(some 3), (.build [(.bool false), (.int .i64 0), (.int .i64 0), (.int .i64 0), (.int .i64 0), (.int .i64 0), (.int .i64 0), (.int .i64 0), (.int .i64 0), (.int .i64 0), (.int .i64 0), (.int .i64 0), (.int .i64 0), (.int .i64 0), (.int .i64 0), (.int .i64 0), (.int .i64 0), (.int .i64 0), (.int .i64 0), (.int .i64 0), (.int .i64 0), (.int .i64 0), (.int .i64 0), (.int .i64 0), (.int .i64 0), (.int .i64 0), (.int .i64 0), (.int .i64 0), (.int .i64 0), (.int .i64 0), (.int .i64 0), (.int .i64 0), (.int .i64 0), (.int .i64 0), (.int .i64 0), (.int .i64 0), (.int .i64 0), (.int .i64 0), (.int .i64 0), (.int .i64 0), (.int .i64 0), (.int .i64 0), (.bool false), (.bool false), (.int .i64 0), (.bool false), (.int .i64 0), (.int .i64 0)] [(0, 1)]), [(.c (.rv (.bool true)))], none⟩, ⟨(some 1), (.alloc [(.bool false), (.int .i64 0), (.int .i64 0), (.int .i64 0), (.int .i64 0), (.int .i64 0), (.int .i64 0), (.int .i64 0), (.int .i64 0), (.int .i64 0), (.int .i64 0), (.int .i64 0), (.int .i64 0), (.int .i64 0), (.int .i64 0), (.int .i64 0), (.int .i64 0), (.int .i64 0), (.int .i64 0), (.int .i64 0), (.int .i64 0), (.int .i64 0), (.int .i64 0), (.int .i64 0), (.int .i64 0), (.int .i64 0), (.int .i64 0), (.int .i64 0), (.int .i64 0), (.int .i64 0), (.int .i64 0), (.int .i64 0), (.int .i64 0), (.int .i64 0), (.int .i64 0), (.int .i64 0), (.int .i64 0), (.int .i64 0), (.int .i64 0), (.int .i64 0), (.int .i64 0), (.int .i64 0), (.bool false), (.bool false), (.int .i64 0), (.bool false), (.int .i64 0), (.int .i64 0)]), [], none⟩, ⟨none, (.store 48), [(.t 1), (.t 3)], none⟩]) (.seq (.seq (.reg [⟨(some 4), .mv, [(.c (.rv (.int .i64 0)))], none⟩]) (.seq (.block 0 (.loop (.seq (.reg [⟨(some 5), (.ibin .lss), [(.t 4), (.c (.rv (.int .i64 4)))], none⟩]) (.seq (.cond (.t 5) .skip (.exit 0)) (.seq (.seq (.block 1 (.seq (.reg [⟨(some 6), .mv, [(.t 4)], none⟩, ⟨(some 2), .mv, [(.t 6)], none⟩]) (.reg [⟨(some 7), .mv, [(.t 2)], none⟩, ⟨(some 8), (.build [(.int .i64 0), (.int .i64 0)] [(0, 1)]), [(.c (.rv (.int .i64 1)))], none⟩, ⟨(some 9), (.fld 30), [(.t 1)], none⟩, ⟨(some 10), (.ixa 4 2), [(.t 9), (.t 7)], none⟩, ⟨none, (.store 2), [(.t 10), (.t 8)], none⟩]))) .ent) (.reg [⟨(some 11), (.ibin .add), [(.t 4), (.c (.rv (.int .i64 1)))], none⟩, ⟨(some 4), .mv, [(.t 11)], none⟩])))))) .ent)) (.seq (.reg [⟨(some 12), (.load 48 true), [(.t 1)], none⟩, ⟨none, (.store 48), [(.t 0), (.t 12)], none⟩]) .ret))))
theorem k_decoupagelaw06_Plain : FnOK Go.Proofs.Try.prog 54 13 c_decoupagelaw06_Plain [(.c 0 48 true)] := fnOK_of (by kernel_rfl)

/- decoupage/decoupagelaw08.awake -/
def c_decoupagelaw08_awake : AC := (.seq (.reg [⟨(some 0), .mv, [(.c (.rv (.bool false)))], none⟩]) (.seq (.reg [⟨(some 4), (.call 54), [], none⟩, ⟨(some 5), (.build [(.bool false), (.int .i64 0), (.int .i64 0), (.int .i64 0), (.int .i64 0), (.int .i64 0), (.int .i64 0), (.int .i64 0), (.int .i64 0), (.int .i64 0), (.int .i64 0), (.int .i64 0), (.int .i64 0), (.int .i64 0), (.int .i64 0), (.int .i64 0), (.int .i64 0), (.int .i64 0), (.int .i64 0), (.int .i64 0), (.int .i64 0), (.int .i64 0), (.int .i64 0), (.int .i64 0), (.int .i64 0), (.int .i64 0), (.int .i64 0), (.int .i64 0), (.int .i64 0), (.int .i64 0), (.int .i64 0), (.int .i64 0), (.int .i64 0), (.int .i64 0), (.int .i64 0), (.int .i64 0), (.int .i64 0), (.int .i64 0), (.int .i64 0), (.int .i64 0), (.int .i64 0), (.int .i64 0), (.bool false), (.bool false), (.int .i64 0), (.bool false), (.int .i64 0), (.int .i64 0), (.int .i64 0)] [(0, 48), (48, 1)]), [(.t 4), (.c (.rv (.int .i64 (-1))))], none⟩, ⟨(some 6), (.bsl 49), [(.t 5)], none⟩, ⟨(some 7), (.call 17), [(.t 6)], none⟩, ⟨(some 3), .mv, [(.t 7)], none⟩, ⟨(some 8), (.ext 0), [(.t 3)], none⟩, ⟨(some 9), (.ext 1), [(.t 3)], none⟩, ⟨(some 1), .mv, [(.t 8)], none⟩, ⟨(some 2), .mv, [(.t 9)], none⟩]) (.seq (.reg [⟨(some 10), .mv, [(.t 2)], none⟩, ⟨(some 11), (.ibin .eql), [(.t 10), (.c (.rv (.int .i64 0)))], none⟩, ⟨(some 12), .mv, [(.t 11)], none⟩, ⟨(some 13), .mv, [(.t 1)], (some (12, true))⟩, ⟨(some 14), (.call 23), [(.t 13)], (some (12, true))⟩, ⟨(some 15), (.ibin .eql), [(.t 14), (.c (.rv (.int .i64 1)))], (some (12, true))⟩, ⟨(some 16), .pick, [(.t 12), (.t 15), (.c (.rv (.bool false)))], none⟩, ⟨(some 17), .mv, [(.t 16)], none⟩, ⟨(some 18), .mv, [(.t 1)], (some (17, true))⟩, ⟨(some 19), (.call 18), [(.t 18), (.c (.rv (.int .i64 0)))], (some (17, true))⟩, ⟨(some 20), (.ibin .eql), [(.t 19), (.c (.rv (.int .i64 1)))], (some (17, true))⟩, ⟨(some 21), .pick, [(.t 17), (.t 20), (.c (.rv (.bool false)))], none⟩, ⟨(some 22), .mv, [(.t 21)], none⟩, ⟨(some 23), .mv, [(.t 1)], (some (22, true))⟩, ⟨(some 24), (.call 30), [(.t 23), (.c (.rv (.int .i64 0)))], (some (22, true))⟩, ⟨(some 25), .pick, [(.t 22), (.t 24), (.c (.rv (.bool false)))], none⟩, ⟨(some 0), .mv, [(.t 25)], none⟩]) .ret)))
theorem k_decoupagelaw08_awake : FnOK Go.Proofs.Try.prog 16 26 c_decoupagelaw08_awake [(.t 0)] := fnOK_of (by kernel_rfl)

/- decoupage/decoupagelaw08.one -/
def c_decoupagelaw08_one : AC := (.seq (.reg [⟨(some 6), .mv, [(.c (.rv (.bool false)))], none⟩]) (.seq (.reg [⟨(some 7), .mv, [(.c (.rv (.int .i64 (-1))))], none⟩, ⟨(some 8), .mv, [(.c (.rv (.int .i64 0)))], none⟩]) (.seq (.reg [⟨(some 9), (.alloc [(.bool false), (.int .i64 0), (.int .i64 0), (.int .i64 0), (.int .i64 0), (.int .i64 0), (.int .i64 0), (.int .i64 0), (.int .i64 0), (.int .i64 0), (.int .i64 0), (.int .i64 0), (.int .i64 0), (.int .i64 0), (.int .i64 0), (.int .i64 0), (.int .i64 0), (.int .i64 0), (.int .i64 0), (.int .i64 0), (.int .i64 0), (.int .i64 0), (.int .i64 0), (.int .i64 0), (.int .i64 0), (.int .i64 0), (.int .i64 0), (.int .i64 0), (.int .i64 0), (.int .i64 0), (.int .i64 0), (.int .i64 0), (.int .i64 0), (.int .i64 0), (.int .i64 0), (.int .i64 0), (.int .i64 0), (.int .i64 0), (.int .i64 0), (.int .i64 0), (.int .i64 0), (.int .i64 0), (.bool false), (.bool false), (.int .i64 0), (.bool false), (.int .i64 0), (.int .i64 0)]), [], none⟩]) (.seq (.seq (.reg [⟨(some 11), .mv, [(.t 2)], none⟩, ⟨(some 12), (.ibin .geq), [(.t 11), (.c (.rv (.int .i64 0)))], none⟩, ⟨(some 13), .mv, [(.t 12)], none⟩, ⟨(some 14), .mv, [(.t 2)], (some (13, true))⟩, ⟨(some 15), .mv, [(.t 1)], (some (13, true))⟩, ⟨(some 16), .len, [(.t 15)], (some (13, true))⟩, ⟨(some 17), (.ibin .lss), [(.t 14), (.t 16)], (some (13, true))⟩, ⟨(some 18), .pick, [(.t 13), (.t 17), (.c (.rv (.bool false)))], none⟩]) (.seq (.cond (.t 18) (.regd [0, 0, 3, 7, 15, 0, 0, 96, 224, 480, 0, 0, 3072, 7199, 16383, 32767] [⟨(some 19), .mv, [(.t 1)], none⟩, ⟨(some 20), .mv, [(.t 2)], none⟩, ⟨(some 21), (.ixs 49), [(.t 19), (.t 20)], none⟩, ⟨(some 22), (.fld 48), [(.t 21)], none⟩, ⟨(some 23), (.load 1 false), [(.t 22)], none⟩, ⟨(some 24), .mv, [(.t 1)], none⟩, ⟨(some 25), .mv, [(.t 2)], none⟩, ⟨(some 26), (.ixs 49), [(.t 24), (.t 25)], none⟩, ⟨(some 27), (.fld 0), [(.t 26)], none⟩, ⟨(some 28), (.load 48 true), [(.t 27)], none⟩, ⟨(some 29), .mv, [(.t 1)], none⟩, ⟨(some 30), .mv, [(.t 2)], none⟩, ⟨(some 31), (.call 67), [(.t 29), (.t 30)], none⟩, ⟨(some 7), .mv, [(.t 23)], none⟩, ⟨none, (.store 48), [(.t 9), (.t 28)], none⟩, ⟨(some 8), .mv, [(.t 31)], none⟩]) .skip) .ent)) (.seq (.seq (.regd [0, 0, 3, 0, 15, 31, 63, 63, 255, 63, 1023, 2047, 4095, 8191, 8191, 32767, 8191, 131071, 262143, 524287, 1048575, 1048575, 4194303, 1048575, 1048575, 33554431, 67108863, 134217727, 268435455, 536870911, 536870911, 2147483647, 536870911, 536870911, 17179869183, 34359738367, 68719476735, 137438953471, 274877906943, 274877906943, 1099511627775, 274877906943, 274877906943, 8796093022207, 17592186044415, 35184372088831] [⟨(some 32), .mv, [(.t 0)], none⟩, ⟨(some 33), .mv, [(.t 2)], none⟩, ⟨(some 34), (.call 25), [(.t 32), (.t 33)], none⟩, ⟨(some 35), .mv, [(.t 7)], none⟩, ⟨(some 36), (.ibin .neq), [(.t 34), (.t 35)], none⟩, ⟨(some 37), .mv, [(.t 36)], none⟩, ⟨(some 38), .mv, [(.t 0)], (some (37, false))⟩, ⟨(some 39), .mv, [(.t 2)], (some (37, false))⟩, ⟨(some 40), (.call 26), [(.t 38), (.t 39)], (some (37, false))⟩, ⟨(some 41), (.load 48 true), [(.t 9)], (some (37, false))⟩, ⟨(some 42), (.eqs true true [.b, .i, .i, .i, .i, .i, .i, .i, .i, .i, .i, .i, .i, .i, .i, .i, .i, .i, .i, .i, .i, .i, .i, .i, .i, .i, .i, .i, .i, .i, .i, .i, .i, .i, .i, .i, .i, .i, .i, .i, .i, .i, .b, .b, .i, .b, .i, .i]), [(.t 40), (.t 41)], (some (37, false))⟩, ⟨(some 43), .pick, [(.t 37), (.c (.rv (.bool true))), (.t 42)], none⟩, ⟨(some 44), .mv, [(.t 43)], none⟩, ⟨(some 45), .mv, [(.t 0)], (some (44, false))⟩, ⟨(some 46), .mv, [(.t 2)], (some (44, false))⟩, ⟨(some 47), (.call 29), [(.t 45), (.t 46)], (some (44, false))⟩, ⟨(some 48), .mv, [(.t 8)], (some (44, false))⟩, ⟨(some 49), (.ibin .neq), [(.t 47), (.t 48)], (some (44, false))⟩, ⟨(some 50), .pick, [(.t 44), (.c (.rv (.bool true))), (.t 49)], none⟩, ⟨(some 51), .mv, [(.t 50)], none⟩, ⟨(some 52), .mv, [(.t 0)], (some (51, false))⟩, ⟨(some 53), .mv, [(.t 2)], (some (51, false))⟩, ⟨(some 54), (.call 30), [(.t 52), (.t 53)], (some (51, false))⟩, ⟨(some 55), .mv, [(.t 1)], (some (51, false))⟩, ⟨(some 56), .mv, [(.t 2)], (some (51, false))⟩, ⟨(some 57), (.call 60), [(.t 55), (.t 56)], (some (51, false))⟩, ⟨(some 58), (.eqb true), [(.t 54), (.t 57)], (some (51, false))⟩, ⟨(some 59), .pick, [(.t 51), (.c (.rv (.bool true))), (.t 58)], none⟩, ⟨(some 60), .mv, [(.t 59)], none⟩, ⟨(some 61), .mv, [(.t 0)], (some (60, false))⟩, ⟨(some 62), .mv, [(.t 2)], (some (60, false))⟩, ⟨(some 63), (.call 31), [(.t 61), (.t 62)], (some (60, false))⟩, ⟨(some 64), .mv, [(.t 1)], (some (60, false))⟩, ⟨(some 65), .mv, [(.t 2)], (some (60, false))⟩, ⟨(some 66), (.call 68), [(.t 64), (.t 65)], (some (60, false))⟩, ⟨(some 67), (.eqb true), [(.t 63), (.t 66)], (some (60, false))⟩, ⟨(some 68), .pick, [(.t 60), (.c (.rv (.bool true))), (.t 67)], none⟩, ⟨(some 69), .mv, [(.t 68)], none⟩, ⟨(some 70), .mv, [(.t 0)], (some (69, false))⟩, ⟨(some 71), .mv, [(.t 2)], (some (69, false))⟩, ⟨(some 72), (.call 18), [(.t 70), (.t 71)], (some (69, false))⟩, ⟨(some 73), .mv, [(.t 1)], (some (69, false))⟩, ⟨(some 74), .mv, [(.t 2)], (some (69, false))⟩, ⟨(some 75), (.call 69), [(.t 73), (.t 74)], (some (69, false))⟩, ⟨(some 76), (.ibin .neq), [(.t 72), (.t 75)], (some (69, false))⟩, ⟨(some 77), .pick, [(.t 69), (.c (.rv (.bool true))), (.t 76)], none⟩]) (.cond (.t 77) (.seq (.reg [⟨(some 6), .mv, [(.c (.rv (.bool false)))], none⟩]) .ret) .skip)) (.seq (.reg [⟨(some 78), .mv, [(.t 2)], none⟩, ⟨(some 79), (.ibin .geq), [(.t 78), (.c (.rv (.int .i64 0)))], none⟩, ⟨(some 80), .mv, [(.t 79)], none⟩, ⟨(some 81), .mv, [(.t 2)], (some (80, true))⟩, ⟨(some 82), .mv, [(.t 1)], (some (80, true))⟩, ⟨(some 83), .len, [(.t 82)], (some (80, true))⟩, ⟨(some 84), (.ibin .lss), [(.t 81), (.t 83)], (some (80, true))⟩, ⟨(some 85), .pick, [(.t 80), (.t 84), (.c (.rv (.bool false)))], none⟩, ⟨(some 10), .mv, [(.t 85)], none⟩]) (.seq (.reg [⟨(some 86), .mv, [(.t 10)], none⟩, ⟨(some 87), .not, [(.t 86)], none⟩, ⟨(some 88), .mv, [(.t 87)], none⟩, ⟨(some 89), .mv, [(.t 0)], (some (88, true))⟩, ⟨(some 90), .mv, [(.t 2)], (some (88, true))⟩, ⟨(some 91), (.call 24), [(.t 89), (.t 90)], (some (88, true))⟩, ⟨(some 92), .len, [(.t 91)], (some (88, true))⟩, ⟨(some 93), .mv, [(.t 0)], (some (88, true))⟩, ⟨(some 94), .mv, [(.t 2)], (some (88, true))⟩, ⟨(some 95), (.call 27), [(.t 93), (.t 94)], (some (88, true))⟩, ⟨(some 96), .len, [(.t 95)], (some (88, true))⟩, ⟨(some 97), (.ibin .add), [(.t 92), (.t 96)], (some (88, true))⟩, ⟨(some 98), .mv, [(.t 0)], (some (88, true))⟩, ⟨(some 99), .mv, [(.t 2)], (some (88, true))⟩, ⟨(some 100), (.call 28), [(.t 98), (.t 99)], (some (88, true))⟩, ⟨(some 101), .len, [(.t 100)], (some (88, true))⟩, ⟨(some 102), (.ibin .add), [(.t 97), (.t 101)], (some (88, true))⟩, ⟨(some 103), (.ibin .eql), [(.t 102), (.c (.rv (.int .i64 0)))], (some (88, true))⟩, ⟨(some 104), .pick, [(.t 88), (.t 103), (.c (.rv (.bool false)))], none⟩, ⟨(some 105), .mv, [(.t 104)], none⟩, ⟨(some 106), .mv, [(.t 10)], (some (105, false))⟩, ⟨(some 107), .mv, [(.t 106)], (some (105, false))⟩, ⟨(some 108), .mv, [(.t 0)], (some (107, true))⟩, ⟨(some 109), .mv, [(.t 2)], (some (107, true))⟩, ⟨(some 110), (.call 24), [(.t 108), (.t 109)], (some (107, true))⟩, ⟨(some 111), .mv, [(.t 1)], (some (107, true))⟩, ⟨(some 112), .mv, [(.t 2)], (some (107, true))⟩, ⟨(some 113), (.call 70), [(.t 111), (.t 112)], (some (107, true))⟩, ⟨(some 114), (.call 46), [(.t 110), (.t 113)], (some (107, true))⟩, ⟨(some 115), .pick, [(.t 107), (.t 114), (.c (.rv (.bool false)))], (some (105, false))⟩, ⟨(some 116), .mv, [(.t 115)], (some (105, false))⟩, ⟨(some 117), .mv, [(.t 0)], (some (116, true))⟩, ⟨(some 118), .mv, [(.t 2)], (some (116, true))⟩, ⟨(some 119), (.call 27), [(.t 117), (.t 118)], (some (116, true))⟩, ⟨(some 120), .mv, [(.t 1)], (some (116, true))⟩, ⟨(some 121), .mv, [(.t 2)], (some (116, true))⟩, ⟨(some 122), (.call 71), [(.t 120), (.t 121)], (some (116, true))⟩, ⟨(some 123), (.call 46), [(.t 119), (.t 122)], (some (116, true))⟩, ⟨(some 124), .pick, [(.t 116), (.t 123), (.c (.rv (.bool false)))], (some (105, false))⟩, ⟨(some 125), .mv, [(.t 124)], (some (105, false))⟩, ⟨(some 126), .mv, [(.t 0)], (some (125, true))⟩, ⟨(some 127), .mv, [(.t 2)], (some (125, true))⟩, ⟨(some 128), (.call 28), [(.t 126), (.t 127)], (some (125, true))⟩, ⟨(some 129), .mv, [(.t 1)], (some (125, true))⟩, ⟨(some 130), .mv, [(.t 2)], (some (125, true))⟩, ⟨(some 131), (.call 72), [(.t 129), (.t 130)], (some (125, true))⟩, ⟨(some 132), (.call 46), [(.t 128), (.t 131)], (some (125, true))⟩, ⟨(some 133), .pick, [(.t 125), (.t 132), (.c (.rv (.bool false)))], (some (105, false))⟩, ⟨(some 134), .pick, [(.t 105), (.c (.rv (.bool true))), (.t 133)], none⟩, ⟨(some 6), .mv, [(.t 134)], none⟩]) .ret)))))))
theorem k_decoupagelaw08_one : FnOK Go.Proofs.Try.prog 22 135 c_decoupagelaw08_one [(.t 6)] := fnOK_of (by kernel_rfl)


def kindsB : List CK → List RV → Bool
  | [], [] => true
  | .b :: ks, .bool _ :: rs => kindsB ks rs
  | .i :: ks, .int _ _ :: rs => kindsB ks rs
  | .s :: ks, .str _ :: rs => kindsB ks rs
  | _, _ => false
theorem cellsEq_refl : ∀ {ks : List CK} {rs : List RV}, kindsB ks rs = true → ∃ p : Prop, p ∧ cellsEq ks (rs.map .rv) (rs.map .rv) = some (p, true)
  | [], [], _ => ⟨True, trivial, rfl⟩
  | .b :: ks, .bool b :: rs, h => by
    obtain ⟨p, h1, h2⟩ := cellsEq_refl (ks := ks) (rs := rs) h
    exact ⟨True ∧ p, ⟨trivial, h1⟩, by simp -implicitDefEqProofs only [List.map_cons, cellsEq, cellEq, h2, beq_self_eq_true, Bool.and_true]⟩
  | .i :: ks, .int k n :: rs, h => by
    obtain ⟨p, h1, h2⟩ := cellsEq_refl (ks := ks) (rs := rs) h
    exact ⟨True ∧ p, ⟨trivial, h1⟩, by simp -implicitDefEqProofs only [List.map_cons, cellsEq, cellEq, h2, beq_self_eq_true, Bool.and_true]⟩
  | .s :: ks, .str s :: rs, h => by
    obtain ⟨p, h1, h2⟩ := cellsEq_refl (ks := ks) (rs := rs) h
    exact ⟨True ∧ p, ⟨trivial, h1⟩, by simp -implicitDefEqProofs only [List.map_cons, cellsEq, cellEq, h2, beq_self_eq_true, Bool.and_true]⟩
  | [], _ :: _, h => by simp [kindsB] at h
  | _ :: _, [], h => by simp [kindsB] at h
  | .b :: _, .int _ _ :: _, h => by simp [kindsB] at h
  | .b :: _, .str _ :: _, h => by simp [kindsB] at h
  | .i :: _, .bool _ :: _, h => by simp [kindsB] at h
  | .i :: _, .str _ :: _, h => by simp [kindsB] at h
  | .s :: _, .bool _ :: _, h => by simp [kindsB] at h
  | .s :: _, .int _ _ :: _, h => by simp [kindsB] at h
  | .b :: _, .sl _ _ :: _, h => by simp [kindsB] at h
  | .b :: _, .rop _ :: _, h => by simp [kindsB] at h
  | .b :: _, .nilp :: _, h => by simp [kindsB] at h
  | .b :: _, .nilsl :: _, h => by simp [kindsB] at h
  | .b :: _, .nili :: _, h => by simp [kindsB] at h
  | .b :: _, .nilf :: _, h => by simp [kindsB] at h
  | .b :: _, .slz :: _, h => by simp [kindsB] at h
  | .b :: _, .ifc _ _ :: _, h => by simp [kindsB] at h
  | .b :: _, .agg _ :: _, h => by simp [kindsB] at h
  | .b :: _, .fn _ _ :: _, h => by simp [kindsB] at h
  | .i :: _, .sl _ _ :: _, h => by simp [kindsB] at h
  | .i :: _, .rop _ :: _, h => by simp [kindsB] at h
  | .i :: _, .nilp :: _, h => by simp [kindsB] at h
  | .i :: _, .nilsl :: _, h => by simp [kindsB] at h
  | .i :: _, .nili :: _, h => by simp [kindsB] at h
  | .i :: _, .nilf :: _, h => by simp [kindsB] at h
  | .i :: _, .slz :: _, h => by simp [kindsB] at h
  | .i :: _, .ifc _ _ :: _, h => by simp [kindsB] at h
  | .i :: _, .agg _ :: _, h => by simp [kindsB] at h
  | .i :: _, .fn _ _ :: _, h => by simp [kindsB] at h
  | .s :: _, .sl _ _ :: _, h => by simp [kindsB] at h
  | .s :: _, .rop _ :: _, h => by simp [kindsB] at h
  | .s :: _, .nilp :: _, h => by simp [kindsB] at h
  | .s :: _, .nilsl :: _, h => by simp [kindsB] at h
  | .s :: _, .nili :: _, h => by simp [kindsB] at h
  | .s :: _, .nilf :: _, h => by simp [kindsB] at h
  | .s :: _, .slz :: _, h => by simp [kindsB] at h
  | .s :: _, .ifc _ _ :: _, h => by simp [kindsB] at h
  | .s :: _, .agg _ :: _, h => by simp [kindsB] at h
  | .s :: _, .fn _ _ :: _, h => by simp [kindsB] at h
theorem sty_eqs (s : Sty) : ∃ p : Prop, p ∧ cellsEq [.b, .i, .i, .i, .i, .i, .i, .i, .i, .i, .i, .i, .i, .i, .i, .i, .i, .i, .i, .i, .i, .i, .i, .i, .i, .i, .i, .i, .i, .i, .i, .i, .i, .i, .i, .i, .i, .i, .i, .i, .i, .i, .b, .b, .i, .b, .i, .i] (s.cells.map .rv) (s.cells.map .rv) = some (p, true) := cellsEq_refl rfl
theorem sty_zero : (default : Sty).cells = [.bool false, .int .i64 0, .int .i64 0, .int .i64 0, .int .i64 0, .int .i64 0, .int .i64 0, .int .i64 0, .int .i64 0, .int .i64 0, .int .i64 0, .int .i64 0, .int .i64 0, .int .i64 0, .int .i64 0, .int .i64 0, .int .i64 0, .int .i64 0, .int .i64 0, .int .i64 0, .int .i64 0, .int .i64 0, .int .i64 0, .int .i64 0, .int .i64 0, .int .i64 0, .int .i64 0, .int .i64 0, .int .i64 0, .int .i64 0, .int .i64 0, .int .i64 0, .int .i64 0, .int .i64 0, .int .i64 0, .int .i64 0, .int .i64 0, .int .i64 0, .int .i64 0, .int .i64 0, .int .i64 0, .int .i64 0, .bool false, .bool false, .int .i64 0, .bool false, .int .i64 0, .int .i64 0] := rfl
theorem sty_zerom : [SV.rv (.bool false), SV.rv (.int .i64 0), SV.rv (.int .i64 0), SV.rv (.int .i64 0), SV.rv (.int .i64 0), SV.rv (.int .i64 0), SV.rv (.int .i64 0), SV.rv (.int .i64 0), SV.rv (.int .i64 0), SV.rv (.int .i64 0), SV.rv (.int .i64 0), SV.rv (.int .i64 0), SV.rv (.int .i64 0), SV.rv (.int .i64 0), SV.rv (.int .i64 0), SV.rv (.int .i64 0), SV.rv (.int .i64 0), SV.rv (.int .i64 0), SV.rv (.int .i64 0), SV.rv (.int .i64 0), SV.rv (.int .i64 0), SV.rv (.int .i64 0), SV.rv (.int .i64 0), SV.rv (.int .i64 0), SV.rv (.int .i64 0), SV.rv (.int .i64 0), SV.rv (.int .i64 0), SV.rv (.int .i64 0), SV.rv (.int .i64 0), SV.rv (.int .i64 0), SV.rv (.int .i64 0), SV.rv (.int .i64 0), SV.rv (.int .i64 0), SV.rv (.int .i64 0), SV.rv (.int .i64 0), SV.rv (.int .i64 0), SV.rv (.int .i64 0), SV.rv (.int .i64 0), SV.rv (.int .i64 0), SV.rv (.int .i64 0), SV.rv (.int .i64 0), SV.rv (.int .i64 0), SV.rv (.bool false), SV.rv (.bool false), SV.rv (.int .i64 0), SV.rv (.bool false), SV.rv (.int .i64 0), SV.rv (.int .i64 0)] = (default : Sty).cells.map SV.rv := rfl

/-- A style that says nothing. -/
def plainS : Sty := { (default : Sty) with shown := true, pad := ⟨⟨1, 0⟩, ⟨1, 0⟩, ⟨1, 0⟩, ⟨1, 0⟩⟩ }
def plainTo (k : Nat) : Sty := { (default : Sty) with shown := true, pad := ⟨if 0 < k then ⟨1, 0⟩ else default, if 1 < k then ⟨1, 0⟩ else default, if 2 < k then ⟨1, 0⟩ else default, if 3 < k then ⟨1, 0⟩ else default⟩ }

theorem sp_Plain : CallR Go.Proofs.Try.prog 54 [] [] [] plainS.sv := by
  refine callR_G k_decoupagelaw06_Plain [] _ (by simp) (by simp [BkAll, bk_agg, bkAll_map, bk_rv, bk_fn, Sty.sv, Ln.sv, Nd.sv]) (fun K hK => ?_)
  simp -implicitDefEqProofs only [c_decoupagelaw06_Plain, go_sem, ↓reduceIte, Nat.reduceEqDiff, Nat.reduceAdd, Nat.reduceSub, Nat.reduceMul, Nat.reduceLeDiff, Nat.reduceLT, reduceCtorEq, Int.reduceToNat]
  repeat' (first | (simp -implicitDefEqProofs only [go_sem, ↓reduceIte, Nat.reduceEqDiff, Nat.reduceAdd, Nat.reduceSub, Nat.reduceMul, Nat.reduceLeDiff, Nat.reduceLT, reduceCtorEq, Int.reduceToNat]) | (with_reducible refine g_noent ?_) | (refine cdS (fun hg => ?_) (fun hg => ?_) <;> try simp -implicitDefEqProofs only [hg, Bool.not_true, Bool.not_false]) | (refine gdS (fun hg => ?_) (fun hg => ?_) <;> try simp -implicitDefEqProofs only [hg, Bool.not_true, Bool.not_false]) | (refine gddS (fun hg => ?_) (fun hg => ?_) <;> try simp -implicitDefEqProofs only [hg, Bool.not_true, Bool.not_false]) | ((with_reducible apply And.intro); focus (first | trivial | omega | decide | (simp -implicitDefEqProofs only [maxLen]; omega) | (simp [maxLen, sty_len, nd_len, ndL_len, lnL_len, intsL_len, rvs_len, lensS_len]; done) | (simp [maxLen, sty_len, nd_len, ndL_len, lnL_len, intsL_len, rvs_len, lensS_len]; omega) | (exact ⟨rfl, by decide⟩; done))) | fail)
  refine g_loop (ι := Nat) (fun k => [(4, .rv (.int .i64 k)), (0, .ptr 0 0), (1, .ptr 1 0)]) (fun k => [some (.var ((default : Sty).cells.map .rv)), some (.var ((plainTo k).cells.map .rv))]) (fun k => k ≤ 4) (fun k => 4 - k) 0 (by simp) (ent_env (by simp [lk])) (fun k hk K' hN hX hR => ?_)
  simp -implicitDefEqProofs only [go_sem, ↓reduceIte, Nat.reduceEqDiff, Nat.reduceAdd, Nat.reduceSub, Nat.reduceMul, Nat.reduceLeDiff, Nat.reduceLT, reduceCtorEq, Int.reduceToNat]
  refine cdS (fun hg => ?_) (fun hg => ?_)
  · have : k = 0 ∨ k = 1 ∨ k = 2 ∨ k = 3 := by simp at hg; omega
    rcases this with rfl | rfl | rfl | rfl
    all_goals
      repeat' (first | (simp -implicitDefEqProofs only [go_sem, ↓reduceIte, Nat.reduceEqDiff, Nat.reduceAdd, Nat.reduceSub, Nat.reduceMul, Nat.reduceLeDiff, Nat.reduceLT, reduceCtorEq, Int.reduceToNat, sty_len, wrap_up (k := 0) (by decide), wrap_up (k := 1) (by decide), wrap_up (k := 2) (by decide), wrap_up (k := 3) (by decide)]) | (with_reducible refine g_noent ?_) | (refine cdS (fun hg => ?_) (fun hg => ?_) <;> try simp -implicitDefEqProofs only [hg, Bool.not_true, Bool.not_false]) | (refine gdS (fun hg => ?_) (fun hg => ?_) <;> try simp -implicitDefEqProofs only [hg, Bool.not_true, Bool.not_false]) | (refine gddS (fun hg => ?_) (fun hg => ?_) <;> try simp -implicitDefEqProofs only [hg, Bool.not_true, Bool.not_false]) | ((with_reducible apply And.intro); focus (first | trivial | omega | decide | (simp -implicitDefEqProofs only [maxLen]; omega) | (simp [maxLen, sty_len, nd_len, ndL_len, lnL_len, intsL_len, rvs_len, lensS_len]; done) | (simp [maxLen, sty_len, nd_len, ndL_len, lnL_len, intsL_len, rvs_len, lensS_len]; omega))) | fail)
    · exact hN 1 _ _ (by omega) (by omega) (ent_env (by simp [lk]))
    · exact hN 2 _ _ (by omega) (by omega) (ent_env (by simp [lk]))
    · exact hN 3 _ _ (by omega) (by omega) (ent_env (by simp [lk]))
    · exact hN 4 _ _ (by omega) (by omega) (ent_env (by simp [lk]))
  · have hk4 : k = 4 := by simp at hg; omega
    subst hk4
    simp -implicitDefEqProofs only [go_sem, ↓reduceIte, Nat.reduceEqDiff, Nat.reduceAdd, Nat.reduceSub, Nat.reduceMul, Nat.reduceLeDiff, Nat.reduceLT, reduceCtorEq, Int.reduceToNat]
    refine hX _ _ _ ?_
    repeat' (first | (simp -implicitDefEqProofs only [go_sem, ↓reduceIte, Nat.reduceEqDiff, Nat.reduceAdd, Nat.reduceSub, Nat.reduceMul, Nat.reduceLeDiff, Nat.reduceLT, reduceCtorEq, Int.reduceToNat, sty_len, sty_all2]) | (with_reducible refine g_noent ?_) | (refine cdS (fun hg => ?_) (fun hg => ?_) <;> try simp -implicitDefEqProofs only [hg, Bool.not_true, Bool.not_false]) | (refine gdS (fun hg => ?_) (fun hg => ?_) <;> try simp -implicitDefEqProofs only [hg, Bool.not_true, Bool.not_false]) | (refine gddS (fun hg => ?_) (fun hg => ?_) <;> try simp -implicitDefEqProofs only [hg, Bool.not_true, Bool.not_false]) | ((with_reducible apply And.intro); focus (first | trivial | omega | decide | (simp -implicitDefEqProofs only [maxLen]; omega) | (simp [maxLen, sty_len, nd_len, ndL_len, lnL_len, intsL_len, rvs_len, lensS_len]; done) | (simp [maxLen, sty_len, nd_len, ndL_len, lnL_len, intsL_len, rvs_len, lensS_len]; omega) | (rfl; done) | (exact ⟨rfl, by decide⟩; done))) | fail)
    exact (hK _ _ (ret_c (rs := plainS.cells) rfl rfl rfl)).2

theorem one_chk : chk [⟨plainS, -1⟩] = 0 := by decide +kernel
theorem one_lists : kidsOf [⟨plainS, -1⟩] 0 = [] := by decide
theorem one_end : endAt [⟨plainS, -1⟩] 0 = 1 := by
  have : endS [⟨plainS, -1⟩] 0 = 1 := endS_leaf one_lists
  simp [endAt, inL, this]
theorem one_made : madeAt [⟨plainS, -1⟩] 0 = true := by
  simp [madeAt, inL, madeS_zero, shownL, plainS]

theorem sp_awake08 : CallR Go.Proofs.Try.prog 16 [] [] [] (.rv (.bool true)) := by
  refine callR_G k_decoupagelaw08_awake [] _ (by simp) (by simp [BkAll, bk_agg, bkAll_map, bk_rv, bk_fn, Sty.sv, Ln.sv, Nd.sv]) (fun K hK => ?_)
  have hk := sp_kin_OfR [⟨plainS, -1⟩] (by decide) one_chk 0 0
  have hl := sp_Len [⟨plainS, -1⟩]
  have he := sp_End [⟨plainS, -1⟩] 0
  have hm := sp_Made [⟨plainS, -1⟩] 0
  rw [one_end] at he
  rw [one_made] at hm
  have e1 : ((0 : Int) == 0) = true := rfl
  have e2 : (((1 : Nat) : Int) == 1) = true := rfl
  have e3 : ((1 : Int) == 1) = true := rfl
  have hz : (plainS.cells.map SV.rv) ++ [SV.rv (.int .i64 (-1))] = (⟨plainS, -1⟩ : Nd).cells.map SV.rv := rfl
  simp -implicitDefEqProofs only [c_decoupagelaw08_awake, go_sem, ↓reduceIte, Nat.reduceEqDiff, Nat.reduceAdd, Nat.reduceSub, Nat.reduceMul, Nat.reduceLeDiff, Nat.reduceLT, reduceCtorEq, Int.reduceToNat]
  have hcall1 := sp_Plain; repeat' (first | (simp -implicitDefEqProofs only [go_sem, ↓reduceIte, Nat.reduceEqDiff, Nat.reduceAdd, Nat.reduceSub, Nat.reduceMul, Nat.reduceLeDiff, Nat.reduceLT, reduceCtorEq, Int.reduceToNat, sty_len]) | (with_reducible refine g_noent ?_) | (with_reducible refine g_call0 hcall1 ?_) | (with_reducible refine g_calld0 hcall1 ?_) | (refine cdS (fun hg => ?_) (fun hg => ?_) <;> try simp -implicitDefEqProofs only [hg, Bool.not_true, Bool.not_false]) | (refine gdS (fun hg => ?_) (fun hg => ?_) <;> try simp -implicitDefEqProofs only [hg, Bool.not_true, Bool.not_false]) | (refine gddS (fun hg => ?_) (fun hg => ?_) <;> try simp -implicitDefEqProofs only [hg, Bool.not_true, Bool.not_false]) | ((with_reducible apply And.intro); focus (first | trivial | omega | decide | (simp -implicitDefEqProofs only [maxLen]; omega) | (simp [maxLen, sty_len, nd_len, ndL_len, lnL_len, intsL_len, rvs_len, lensS_len]; done) | (simp [maxLen, sty_len, nd_len, ndL_len, lnL_len, intsL_len, rvs_len, lensS_len]; omega))) | fail)
  refine g_call hk (pre_one rfl) trivial ?_
  have hcall2 := hl; have hcall3 := he; have hcall4 := hm; repeat' (first | (simp -implicitDefEqProofs only [go_sem, ↓reduceIte, Nat.reduceEqDiff, Nat.reduceAdd, Nat.reduceSub, Nat.reduceMul, Nat.reduceLeDiff, Nat.reduceLT, reduceCtorEq, Int.reduceToNat, e1, e2, e3]) | (with_reducible refine g_noent ?_) | (with_reducible refine g_call0 hcall2 ?_) | (with_reducible refine g_calld0 hcall2 ?_) | (with_reducible refine g_call0 hcall3 ?_) | (with_reducible refine g_calld0 hcall3 ?_) | (with_reducible refine g_call0 hcall4 ?_) | (with_reducible refine g_calld0 hcall4 ?_) | (refine cdS (fun hg => ?_) (fun hg => ?_) <;> try simp -implicitDefEqProofs only [hg, Bool.not_true, Bool.not_false]) | (refine gdS (fun hg => ?_) (fun hg => ?_) <;> try simp -implicitDefEqProofs only [hg, Bool.not_true, Bool.not_false]) | (refine gddS (fun hg => ?_) (fun hg => ?_) <;> try simp -implicitDefEqProofs only [hg, Bool.not_true, Bool.not_false]) | ((with_reducible apply And.intro); focus (first | trivial | omega | decide | (simp -implicitDefEqProofs only [maxLen]; omega) | (simp [maxLen, sty_len, nd_len, ndL_len, lnL_len, intsL_len, rvs_len, lensS_len]; done) | (simp [maxLen, sty_len, nd_len, ndL_len, lnL_len, intsL_len, rvs_len, lensS_len]; omega))) | fail)
  exact (hK _ _ (ret_t rfl)).2

theorem endAt_out {l : List Nd} {n : Int} (h : inL l n = false) : endAt l n = 0 := by simp [endAt, h]
theorem natsI_nil : intsL (natsI []) = [] := rfl

set_option maxRecDepth 20000 in
set_option maxHeartbeats 8000000 in
theorem sp_one (l : List Nd) (ht : treeOK l = true) (hb : l.length ≤ 8589934592) (n : Int) : CallR Go.Proofs.Try.prog 22 [.rv (kinV l), .rv (.sl 49 (ndL l)), .rv (.int .i64 n)] [] [] (.rv (.bool true)) := by
  refine callR_G k_decoupagelaw08_one [.rv (kinV l), .rv (.sl 49 (ndL l)), .rv (.int .i64 n)] _ (by simp) (by simp [BkAll, bk_agg, bkAll_map, bk_rv, bk_fn, Sty.sv, Ln.sv, Nd.sv]) (fun K hK => ?_)
  have hs := tree_shp ht
  have hlen := ndL_len l
  have hpar := sp_Parent l n
  have hst := sp_Style l n
  have hdp := sp_Deep l n
  have hmd := sp_Made l n
  have hmr := sp_ref08_Made l ht n
  have hou := sp_Out l n
  have hor := sp_ref08_Out l ht n
  have hen := sp_End l n
  have her := sp_ref08_End l hs hb n
  have hki := sp_KidsP l n hb
  have hfl := sp_FlowP l n hb
  have hup := sp_Up l n hs hb
  have same : ∀ a : List Nat, a.length ≤ 8589934592 → CallR Go.Proofs.Try.prog 46 [.rv (.sl 1 (intsL (natsI a))), .rv (.sl 1 (intsL (natsI a)))] [] [] (.rv (.bool true)) := fun a ha => by
    simpa using sp_ref08_Same (natsI a) (natsI a) (by rw [natsI_len]; exact ha)
  simp -implicitDefEqProofs only [c_decoupagelaw08_one, go_sem, ↓reduceIte, Nat.reduceEqDiff, Nat.reduceAdd, Nat.reduceSub, Nat.reduceMul, Nat.reduceLeDiff, Nat.reduceLT, reduceCtorEq, Int.reduceToNat]
  rcases inL_cases l n with ⟨h1, hi⟩ | ⟨h1, h0, hi⟩ | ⟨k, rfl, hk, hi⟩
  · have k0 : kidsAt l n = [] := by simp [kidsAt, hi]
    have f0 : flowAt l n = [] := by simp [flowAt, k0]
    have u0 : upAt l n = [] := by simp [upAt, hi]
    have p0 : parAt l n = -1 := by simp [parAt, hi]
    have s0 : styAt l n = default := by simp [styAt, hi]
    have d0 : deepAt l n = 0 := by simp [deepAt, hi]
    rw [k0, natsI_nil] at hki
    rw [f0, natsI_nil] at hfl
    rw [u0, natsI_nil] at hup
    rw [p0] at hpar
    rw [s0] at hst
    rw [d0] at hdp
    obtain ⟨pe, hpe, heq⟩ := sty_eqs (default : Sty)
    have w0 : IntKind.i64.wrap (((0 : Nat) : Int) + ((0 : Nat) : Int)) = ((0 : Nat) : Int) := by decide
    have b0 : (((0 : Nat) : Int) == 0) = true := rfl
    have e1 : decide (n ≥ 0) = false := decide_eq_false (by omega)
    have hcall5 := hpar; have hcall6 := hst; have hcall7 := hdp; have hcall8 := hmd; have hcall9 := hmr; have hcall10 := hou; have hcall11 := hor; have hcall12 := hen; have hcall13 := her; have hcall14 := hki; have hcall15 := hfl; have hcall16 := hup; repeat' (first | (simp -implicitDefEqProofs only [go_sem, ↓reduceIte, Nat.reduceEqDiff, Nat.reduceAdd, Nat.reduceSub, Nat.reduceMul, Nat.reduceLeDiff, Nat.reduceLT, reduceCtorEq, Int.reduceToNat, e1, hlen, bne_self_eq_false, beq_self_eq_true, sty_zerom, sty_all2, heq, w0, b0, sty_len]) | (with_reducible refine g_noent ?_) | (with_reducible refine g_call0 hcall5 ?_) | (with_reducible refine g_calld0 hcall5 ?_) | (with_reducible refine g_call0 hcall6 ?_) | (with_reducible refine g_calld0 hcall6 ?_) | (with_reducible refine g_call0 hcall7 ?_) | (with_reducible refine g_calld0 hcall7 ?_) | (with_reducible refine g_call0 hcall8 ?_) | (with_reducible refine g_calld0 hcall8 ?_) | (with_reducible refine g_call0 hcall9 ?_) | (with_reducible refine g_calld0 hcall9 ?_) | (with_reducible refine g_call0 hcall10 ?_) | (with_reducible refine g_calld0 hcall10 ?_) | (with_reducible refine g_call0 hcall11 ?_) | (with_reducible refine g_calld0 hcall11 ?_) | (with_reducible refine g_call0 hcall12 ?_) | (with_reducible refine g_calld0 hcall12 ?_) | (with_reducible refine g_call0 hcall13 ?_) | (with_reducible refine g_calld0 hcall13 ?_) | (with_reducible refine g_call0 hcall14 ?_) | (with_reducible refine g_calld0 hcall14 ?_) | (with_reducible refine g_call0 hcall15 ?_) | (with_reducible refine g_calld0 hcall15 ?_) | (with_reducible refine g_call0 hcall16 ?_) | (with_reducible refine g_calld0 hcall16 ?_) | (refine cdS (fun hg => ?_) (fun hg => ?_) <;> try simp -implicitDefEqProofs only [hg, Bool.not_true, Bool.not_false]) | (refine gdS (fun hg => ?_) (fun hg => ?_) <;> try simp -implicitDefEqProofs only [hg, Bool.not_true, Bool.not_false]) | (refine gddS (fun hg => ?_) (fun hg => ?_) <;> try simp -implicitDefEqProofs only [hg, Bool.not_true, Bool.not_false]) | ((with_reducible apply And.intro); focus (first | trivial | omega | decide | (simp -implicitDefEqProofs only [maxLen]; omega) | (simp [maxLen, sty_len, nd_len, ndL_len, lnL_len, intsL_len, rvs_len, lensS_len]; done) | (simp [maxLen, sty_len, nd_len, ndL_len, lnL_len, intsL_len, rvs_len, lensS_len]; omega))) | fail)
    exact (hK _ _ (ret_t rfl)).2
  · have k0 : kidsAt l n = [] := by simp [kidsAt, hi]
    have f0 : flowAt l n = [] := by simp [flowAt, k0]
    have u0 : upAt l n = [] := by simp [upAt, hi]
    have p0 : parAt l n = -1 := by simp [parAt, hi]
    have s0 : styAt l n = default := by simp [styAt, hi]
    have d0 : deepAt l n = 0 := by simp [deepAt, hi]
    rw [k0, natsI_nil] at hki
    rw [f0, natsI_nil] at hfl
    rw [u0, natsI_nil] at hup
    rw [p0] at hpar
    rw [s0] at hst
    rw [d0] at hdp
    obtain ⟨pe, hpe, heq⟩ := sty_eqs (default : Sty)
    have w0 : IntKind.i64.wrap (((0 : Nat) : Int) + ((0 : Nat) : Int)) = ((0 : Nat) : Int) := by decide
    have b0 : (((0 : Nat) : Int) == 0) = true := rfl
    have e1 : decide (n ≥ 0) = true := decide_eq_true (by omega)
    have e2 : decide (n < (l.length : Int)) = false := decide_eq_false (by omega)
    have hcall17 := hpar; have hcall18 := hst; have hcall19 := hdp; have hcall20 := hmd; have hcall21 := hmr; have hcall22 := hou; have hcall23 := hor; have hcall24 := hen; have hcall25 := her; have hcall26 := hki; have hcall27 := hfl; have hcall28 := hup; repeat' (first | (simp -implicitDefEqProofs only [go_sem, ↓reduceIte, Nat.reduceEqDiff, Nat.reduceAdd, Nat.reduceSub, Nat.reduceMul, Nat.reduceLeDiff, Nat.reduceLT, reduceCtorEq, Int.reduceToNat, e1, e2, hlen, bne_self_eq_false, beq_self_eq_true, sty_zerom, sty_all2, heq, w0, b0, sty_len]) | (with_reducible refine g_noent ?_) | (with_reducible refine g_call0 hcall17 ?_) | (with_reducible refine g_calld0 hcall17 ?_) | (with_reducible refine g_call0 hcall18 ?_) | (with_reducible refine g_calld0 hcall18 ?_) | (with_reducible refine g_call0 hcall19 ?_) | (with_reducible refine g_calld0 hcall19 ?_) | (with_reducible refine g_call0 hcall20 ?_) | (with_reducible refine g_calld0 hcall20 ?_) | (with_reducible refine g_call0 hcall21 ?_) | (with_reducible refine g_calld0 hcall21 ?_) | (with_reducible refine g_call0 hcall22 ?_) | (with_reducible refine g_calld0 hcall22 ?_) | (with_reducible refine g_call0 hcall23 ?_) | (with_reducible refine g_calld0 hcall23 ?_) | (with_reducible refine g_call0 hcall24 ?_) | (with_reducible refine g_calld0 hcall24 ?_) | (with_reducible refine g_call0 hcall25 ?_) | (with_reducible refine g_calld0 hcall25 ?_) | (with_reducible refine g_call0 hcall26 ?_) | (with_reducible refine g_calld0 hcall26 ?_) | (with_reducible refine g_call0 hcall27 ?_) | (with_reducible refine g_calld0 hcall27 ?_) | (with_reducible refine g_call0 hcall28 ?_) | (with_reducible refine g_calld0 hcall28 ?_) | (refine cdS (fun hg => ?_) (fun hg => ?_) <;> try simp -implicitDefEqProofs only [hg, Bool.not_true, Bool.not_false]) | (refine gdS (fun hg => ?_) (fun hg => ?_) <;> try simp -implicitDefEqProofs only [hg, Bool.not_true, Bool.not_false]) | (refine gddS (fun hg => ?_) (fun hg => ?_) <;> try simp -implicitDefEqProofs only [hg, Bool.not_true, Bool.not_false]) | ((with_reducible apply And.intro); focus (first | trivial | omega | decide | (simp -implicitDefEqProofs only [maxLen]; omega) | (simp [maxLen, sty_len, nd_len, ndL_len, lnL_len, intsL_len, rvs_len, lensS_len]; done) | (simp [maxLen, sty_len, nd_len, ndL_len, lnL_len, intsL_len, rvs_len, lensS_len]; omega))) | fail)
    exact (hK _ _ (ret_t rfl)).2
  · have e1 : decide ((k : Int) ≥ 0) = true := decide_eq_true (by omega)
    have e2 : decide ((k : Int) < (l.length : Int)) = true := decide_eq_true (by omega)
    have p0 : parAt l k = parL l k := by simp [parAt, hi]
    have s0 : styAt l k = (l[k]'hk).s := by simp [styAt, hi, hk]
    have d0 : deepAt l k = depth l k := by simp [deepAt, hi]
    have k0 : kidsAt l k = kidsOf l k := by simp [kidsAt, hi]
    rw [p0] at hpar
    rw [s0] at hst
    rw [d0] at hdp
    rw [k0] at hki
    obtain ⟨pe, hpe, heq⟩ := sty_eqs (l[k]'hk).s
    have hx := ndL_get hk
    have hpk := parL_eq hk
    have hkr := sp_ref08_Kids l hb k hk
    have hfr := sp_ref08_Flow l ht hb k hk
    have hur := sp_ref08_Up l hs hb k
    have hrd := sp_ref07_Deep l k (hs.wf.mono (by omega)) hk hb
    have sk := same (kidsOf l k) (by have := kidsTo_len (l := l) (k := l.length) (p := k); unfold kidsOf; omega)
    have sf := same (flowAt l k) (by have := List.length_filter_le (fun (m : Nat) => stayAt l m) (kidsAt l k); have := kidsAt_len l k; unfold flowAt; omega)
    have su := same (upAt l k) (by unfold upAt; rw [hi]; have := pth_len (l := l) k; simp; omega)
    have hcall29 := hpar; have hcall30 := hst; have hcall31 := hdp; have hcall32 := hrd; have hcall33 := hmd; have hcall34 := hmr; have hcall35 := hou; have hcall36 := hor; have hcall37 := hen; have hcall38 := her; have hcall39 := hki; have hcall40 := hfl; have hcall41 := hup; have hcall42 := hkr; have hcall43 := hfr; have hcall44 := hur; have hcall45 := sk; have hcall46 := sf; have hcall47 := su; repeat' (first | (simp -implicitDefEqProofs only [go_sem, ↓reduceIte, Nat.reduceEqDiff, Nat.reduceAdd, Nat.reduceSub, Nat.reduceMul, Nat.reduceLeDiff, Nat.reduceLT, reduceCtorEq, Int.reduceToNat, e1, e2, hlen, hx, hpk, nd_len, nd_drop0, nd_st, bne_self_eq_false, beq_self_eq_true, sty_all2, heq, sty_len]) | (with_reducible refine g_noent ?_) | (with_reducible refine g_call0 hcall29 ?_) | (with_reducible refine g_calld0 hcall29 ?_) | (with_reducible refine g_call0 hcall30 ?_) | (with_reducible refine g_calld0 hcall30 ?_) | (with_reducible refine g_call0 hcall31 ?_) | (with_reducible refine g_calld0 hcall31 ?_) | (with_reducible refine g_call0 hcall32 ?_) | (with_reducible refine g_calld0 hcall32 ?_) | (with_reducible refine g_call0 hcall33 ?_) | (with_reducible refine g_calld0 hcall33 ?_) | (with_reducible refine g_call0 hcall34 ?_) | (with_reducible refine g_calld0 hcall34 ?_) | (with_reducible refine g_call0 hcall35 ?_) | (with_reducible refine g_calld0 hcall35 ?_) | (with_reducible refine g_call0 hcall36 ?_) | (with_reducible refine g_calld0 hcall36 ?_) | (with_reducible refine g_call0 hcall37 ?_) | (with_reducible refine g_calld0 hcall37 ?_) | (with_reducible refine g_call0 hcall38 ?_) | (with_reducible refine g_calld0 hcall38 ?_) | (with_reducible refine g_call0 hcall39 ?_) | (with_reducible refine g_calld0 hcall39 ?_) | (with_reducible refine g_call0 hcall40 ?_) | (with_reducible refine g_calld0 hcall40 ?_) | (with_reducible refine g_call0 hcall41 ?_) | (with_reducible refine g_calld0 hcall41 ?_) | (with_reducible refine g_call0 hcall42 ?_) | (with_reducible refine g_calld0 hcall42 ?_) | (with_reducible refine g_call0 hcall43 ?_) | (with_reducible refine g_calld0 hcall43 ?_) | (with_reducible refine g_call0 hcall44 ?_) | (with_reducible refine g_calld0 hcall44 ?_) | (with_reducible refine g_call0 hcall45 ?_) | (with_reducible refine g_calld0 hcall45 ?_) | (with_reducible refine g_call0 hcall46 ?_) | (with_reducible refine g_calld0 hcall46 ?_) | (with_reducible refine g_call0 hcall47 ?_) | (with_reducible refine g_calld0 hcall47 ?_) | (refine cdS (fun hg => ?_) (fun hg => ?_) <;> try simp -implicitDefEqProofs only [hg, Bool.not_true, Bool.not_false]) | (refine gdS (fun hg => ?_) (fun hg => ?_) <;> try simp -implicitDefEqProofs only [hg, Bool.not_true, Bool.not_false]) | (refine gddS (fun hg => ?_) (fun hg => ?_) <;> try simp -implicitDefEqProofs only [hg, Bool.not_true, Bool.not_false]) | ((with_reducible apply And.intro); focus (first | trivial | omega | decide | (simp -implicitDefEqProofs only [maxLen]; omega) | (simp [maxLen, sty_len, nd_len, ndL_len, lnL_len, intsL_len, rvs_len, lensS_len]; done) | (simp [maxLen, sty_len, nd_len, ndL_len, lnL_len, intsL_len, rvs_len, lensS_len]; omega))) | fail)
    exact (hK _ _ (ret_t rfl)).2
end Go.Eng

/- level: the statements as functions: told. -/
namespace Go.Eng
open Go
/- decoupage/decoupagelaw23.awake -/
def c_decoupagelaw23_awake : AC := (.seq (.reg [⟨(some 0), .mv, [(.c (.rv (.bool false)))], none⟩]) (.seq (.reg [⟨(some 4), (.call 54), [], none⟩, ⟨(some 5), (.build [(.bool false), (.int .i64 0), (.int .i64 0), (.int .i64 0), (.int .i64 0), (.int .i64 0), (.int .i64 0), (.int .i64 0), (.int .i64 0), (.int .i64 0), (.int .i64 0), (.int .i64 0), (.int .i64 0), (.int .i64 0), (.int .i64 0), (.int .i64 0), (.int .i64 0), (.int .i64 0), (.int .i64 0), (.int .i64 0), (.int .i64 0), (.int .i64 0), (.int .i64 0), (.int .i64 0), (.int .i64 0), (.int .i64 0), (.int .i64 0), (.int .i64 0), (.int .i64 0), (.int .i64 0), (.int .i64 0), (.int .i64 0), (.int .i64 0), (.int .i64 0), (.int .i64 0), (.int .i64 0), (.int .i64 0), (.int .i64 0), (.int .i64 0), (.int .i64 0), (.int .i64 0), (.int .i64 0), (.bool false), (.bool false), (.int .i64 0), (.bool false), (.int .i64 0), (.int .i64 0), (.int .i64 0)] [(0, 48), (48, 1)]), [(.t 4), (.c (.rv (.int .i64 (-1))))], none⟩, ⟨(some 6), (.bsl 49), [(.t 5)], none⟩, ⟨(some 7), (.call 17), [(.t 6)], none⟩, ⟨(some 3), .mv, [(.t 7)], none⟩, ⟨(some 8), (.ext 0), [(.t 3)], none⟩, ⟨(some 9), (.ext 1), [(.t 3)], none⟩, ⟨(some 1), .mv, [(.t 8)], none⟩, ⟨(some 2), .mv, [(.t 9)], none⟩]) (.seq (.reg [⟨(some 10), .mv, [(.t 2)], none⟩, ⟨(some 11), (.ibin .eql), [(.t 10), (.c (.rv (.int .i64 0)))], none⟩, ⟨(some 12), .mv, [(.t 11)], none⟩, ⟨(some 13), .mv, [(.t 1)], (some (12, true))⟩, ⟨(some 14), (.call 38), [(.t 13), (.c (.rv (.int .i64 0)))], (some (12, true))⟩, ⟨(some 15), .pick, [(.t 12), (.t 14), (.c (.rv (.bool false)))], none⟩, ⟨(some 16), .mv, [(.t 15)], none⟩, ⟨(some 17), .mv, [(.t 1)], (some (16, true))⟩, ⟨(some 18), (.call 40), [(.t 17), (.c (.rv (.int .i64 0)))], (some (16, true))⟩, ⟨(some 19), .pick, [(.t 16), (.t 18), (.c (.rv (.bool false)))], none⟩, ⟨(some 20), .mv, [(.t 19)], none⟩, ⟨(some 21), .mv, [(.t 1)], (some (20, true))⟩, ⟨(some 22), (.call 44), [(.t 21), (.c (.rv (.int .i64 0)))], (some (20, true))⟩, ⟨(some 23), (.ibin .eql), [(.t 22), (.c (.rv (.int .i64 (-1))))], (some (20, true))⟩, ⟨(some 24), .pick, [(.t 20), (.t 23), (.c (.rv (.bool false)))], none⟩, ⟨(some 0), .mv, [(.t 24)], none⟩]) .ret)))
theorem k_decoupagelaw23_awake : FnOK Go.Proofs.Try.prog 37 25 c_decoupagelaw23_awake [(.t 0)] := fnOK_of (by kernel_rfl)

/- decoupage/decoupagelaw23.LevelTells -/
def c_decoupagelaw23_LevelTells : AC := (.seq (.reg [⟨(some 4), .mv, [(.c (.rv (.bool false)))], none⟩]) (.seq (.seq (.reg [⟨(some 7), (.call 37), [], none⟩, ⟨(some 8), .not, [(.t 7)], none⟩, ⟨(some 9), .mv, [(.t 8)], none⟩, ⟨(some 10), .mv, [(.t 0)], (some (9, false))⟩, ⟨(some 11), .len, [(.t 10)], (some (9, false))⟩, ⟨(some 12), (.ibin .gtr), [(.t 11), (.c (.rv (.int .i64 40)))], (some (9, false))⟩, ⟨(some 13), .pick, [(.t 9), (.c (.rv (.bool true))), (.t 12)], none⟩, ⟨(some 14), .mv, [(.t 13)], none⟩, ⟨(some 15), .mv, [(.t 0)], (some (14, false))⟩, ⟨(some 16), (.call 21), [(.t 15)], (some (14, false))⟩, ⟨(some 17), (.ibin .neq), [(.t 16), (.c (.rv (.int .i64 0)))], (some (14, false))⟩, ⟨(some 18), .pick, [(.t 14), (.c (.rv (.bool true))), (.t 17)], none⟩]) (.cond (.t 18) (.seq (.reg [⟨(some 19), (.call 37), [], none⟩, ⟨(some 4), .mv, [(.t 19)], none⟩]) .ret) .skip)) (.seq (.reg [⟨(some 21), .mv, [(.t 0)], none⟩, ⟨(some 22), (.call 17), [(.t 21)], none⟩, ⟨(some 20), .mv, [(.t 22)], none⟩, ⟨(some 23), (.ext 0), [(.t 20)], none⟩, ⟨(some 24), (.ext 1), [(.t 20)], none⟩, ⟨(some 5), .mv, [(.t 23)], none⟩, ⟨(some 6), .mv, [(.t 24)], none⟩]) (.seq (.seq (.reg [⟨(some 25), .mv, [(.t 6)], none⟩, ⟨(some 26), (.ibin .neq), [(.t 25), (.c (.rv (.int .i64 0)))], none⟩, ⟨(some 27), .mv, [(.t 26)], none⟩, ⟨(some 28), .mv, [(.t 5)], (some (27, false))⟩, ⟨(some 29), .mv, [(.t 1)], (some (27, false))⟩, ⟨(some 30), (.call 38), [(.t 28), (.t 29)], (some (27, false))⟩, ⟨(some 31), .mv, [(.t 0)], (some (27, false))⟩, ⟨(some 32), .mv, [(.t 1)], (some (27, false))⟩, ⟨(some 33), (.call 39), [(.t 31), (.t 32)], (some (27, false))⟩, ⟨(some 34), (.eqb true), [(.t 30), (.t 33)], (some (27, false))⟩, ⟨(some 35), .pick, [(.t 27), (.c (.rv (.bool true))), (.t 34)], none⟩, ⟨(some 36), .mv, [(.t 35)], none⟩, ⟨(some 37), .mv, [(.t 5)], (some (36, false))⟩, ⟨(some 38), .mv, [(.t 1)], (some (36, false))⟩, ⟨(some 39), (.call 40), [(.t 37), (.t 38)], (some (36, false))⟩, ⟨(some 40), .mv, [(.t 0)], (some (36, false))⟩, ⟨(some 41), .mv, [(.t 1)], (some (36, false))⟩, ⟨(some 42), (.call 41), [(.t 40), (.t 41)], (some (36, false))⟩, ⟨(some 43), (.eqb true), [(.t 39), (.t 42)], (some (36, false))⟩, ⟨(some 44), .pick, [(.t 36), (.c (.rv (.bool true))), (.t 43)], none⟩]) (.cond (.t 44) (.seq (.reg [⟨(some 4), .mv, [(.c (.rv (.bool false)))], none⟩]) .ret) .skip)) (.seq (.reg [⟨(some 45), .mv, [(.t 5)], none⟩, ⟨(some 46), .mv, [(.t 1)], none⟩, ⟨(some 47), (.call 42), [(.t 45), (.t 46)], none⟩, ⟨(some 48), .mv, [(.t 0)], none⟩, ⟨(some 49), .mv, [(.t 1)], none⟩, ⟨(some 50), (.call 43), [(.t 48), (.t 49)], none⟩, ⟨(some 51), (.ibin .eql), [(.t 47), (.t 50)], none⟩, ⟨(some 52), .mv, [(.t 51)], none⟩, ⟨(some 53), .mv, [(.t 5)], (some (52, true))⟩, ⟨(some 54), .mv, [(.t 1)], (some (52, true))⟩, ⟨(some 55), (.call 44), [(.t 53), (.t 54)], (some (52, true))⟩, ⟨(some 56), .mv, [(.t 0)], (some (52, true))⟩, ⟨(some 57), .mv, [(.t 1)], (some (52, true))⟩, ⟨(some 58), (.call 45), [(.t 56), (.t 57)], (some (52, true))⟩, ⟨(some 59), (.ibin .eql), [(.t 55), (.t 58)], (some (52, true))⟩, ⟨(some 60), .pick, [(.t 52), (.t 59), (.c (.rv (.bool false)))], none⟩, ⟨(some 61), .mv, [(.t 60)], none⟩, ⟨(some 62), .mv, [(.t 5)], (some (61, true))⟩, ⟨(some 63), .mv, [(.t 1)], (some (61, true))⟩, ⟨(some 64), (.call 47), [(.t 62), (.t 63)], (some (61, true))⟩, ⟨(some 65), .mv, [(.t 0)], (some (61, true))⟩, ⟨(some 66), .mv, [(.t 1)], (some (61, true))⟩, ⟨(some 67), (.call 48), [(.t 65), (.t 66)], (some (61, true))⟩, ⟨(some 68), (.call 46), [(.t 64), (.t 67)], (some (61, true))⟩, ⟨(some 69), .pick, [(.t 61), (.t 68), (.c (.rv (.bool false)))], none⟩, ⟨(some 70), .mv, [(.t 69)], none⟩, ⟨(some 71), .mv, [(.t 5)], (some (70, true))⟩, ⟨(some 72), .mv, [(.t 1)], (some (70, true))⟩, ⟨(some 73), (.call 49), [(.t 71), (.t 72)], (some (70, true))⟩, ⟨(some 74), .mv, [(.t 0)], (some (70, true))⟩, ⟨(some 75), .mv, [(.t 1)], (some (70, true))⟩, ⟨(some 76), (.call 50), [(.t 74), (.t 75)], (some (70, true))⟩, ⟨(some 77), (.call 46), [(.t 73), (.t 76)], (some (70, true))⟩, ⟨(some 78), .pick, [(.t 70), (.t 77), (.c (.rv (.bool false)))], none⟩, ⟨(some 4), .mv, [(.t 78)], none⟩]) .ret)))))
theorem k_decoupagelaw23_LevelTells : FnOK Go.Proofs.Try.prog 9 79 c_decoupagelaw23_LevelTells [(.t 4)] := fnOK_of (by kernel_rfl)


theorem one_tree : treeOK [⟨plainS, -1⟩] = true := by decide +kernel
theorem one_lead : leadAt [⟨plainS, -1⟩] 0 = true := by simp [leadAt, one_made]
theorem one_form : formAt [⟨plainS, -1⟩] 0 = true := by simp [formAt, one_lead]
theorem one_ctx : ctxAt [⟨plainS, -1⟩] 0 = -1 := by
  have : upAt [⟨plainS, -1⟩] 0 = [] := by simp [upAt, inL, pth_zero]
  simp [ctxAt, one_made, this, fstI]

theorem sp_awake23 : CallR Go.Proofs.Try.prog 37 [] [] [] (.rv (.bool true)) := by
  refine callR_G k_decoupagelaw23_awake [] _ (by simp) (by simp [BkAll, bk_agg, bkAll_map, bk_rv, bk_fn, Sty.sv, Ln.sv, Nd.sv]) (fun K hK => ?_)
  have hk := sp_kin_OfR [⟨plainS, -1⟩] (by decide) one_chk 0 0
  have h1 := sp_Leads [⟨plainS, -1⟩] 0
  have h2 := sp_Forms [⟨plainS, -1⟩] 0
  have h3 := sp_Context [⟨plainS, -1⟩] (tree_shp one_tree) 0
  rw [one_lead] at h1
  rw [one_form] at h2
  rw [one_ctx] at h3
  have e1 : ((0 : Int) == 0) = true := rfl
  have e2 : ((-1 : Int) == -1) = true := rfl
  simp -implicitDefEqProofs only [c_decoupagelaw23_awake, go_sem, ↓reduceIte, Nat.reduceEqDiff, Nat.reduceAdd, Nat.reduceSub, Nat.reduceMul, Nat.reduceLeDiff, Nat.reduceLT, reduceCtorEq, Int.reduceToNat]
  have hcall1 := sp_Plain; repeat' (first | (simp -implicitDefEqProofs only [go_sem, ↓reduceIte, Nat.reduceEqDiff, Nat.reduceAdd, Nat.reduceSub, Nat.reduceMul, Nat.reduceLeDiff, Nat.reduceLT, reduceCtorEq, Int.reduceToNat, sty_len]) | (with_reducible refine g_noent ?_) | (with_reducible refine g_call0 hcall1 ?_) | (with_reducible refine g_calld0 hcall1 ?_) | (refine cdS (fun hg => ?_) (fun hg => ?_) <;> try simp -implicitDefEqProofs only [hg, Bool.not_true, Bool.not_false]) | (refine gdS (fun hg => ?_) (fun hg => ?_) <;> try simp -implicitDefEqProofs only [hg, Bool.not_true, Bool.not_false]) | (refine gddS (fun hg => ?_) (fun hg => ?_) <;> try simp -implicitDefEqProofs only [hg, Bool.not_true, Bool.not_false]) | ((with_reducible apply And.intro); focus (first | trivial | omega | decide | (simp -implicitDefEqProofs only [maxLen]; omega) | (simp [maxLen, sty_len, nd_len, ndL_len, lnL_len, intsL_len, rvs_len, lensS_len]; done) | (simp [maxLen, sty_len, nd_len, ndL_len, lnL_len, intsL_len, rvs_len, lensS_len]; omega))) | fail)
  refine g_call hk (pre_one rfl) trivial ?_
  have hcall2 := h1; have hcall3 := h2; have hcall4 := h3; repeat' (first | (simp -implicitDefEqProofs only [go_sem, ↓reduceIte, Nat.reduceEqDiff, Nat.reduceAdd, Nat.reduceSub, Nat.reduceMul, Nat.reduceLeDiff, Nat.reduceLT, reduceCtorEq, Int.reduceToNat, e1, e2]) | (with_reducible refine g_noent ?_) | (with_reducible refine g_call0 hcall2 ?_) | (with_reducible refine g_calld0 hcall2 ?_) | (with_reducible refine g_call0 hcall3 ?_) | (with_reducible refine g_calld0 hcall3 ?_) | (with_reducible refine g_call0 hcall4 ?_) | (with_reducible refine g_calld0 hcall4 ?_) | (refine cdS (fun hg => ?_) (fun hg => ?_) <;> try simp -implicitDefEqProofs only [hg, Bool.not_true, Bool.not_false]) | (refine gdS (fun hg => ?_) (fun hg => ?_) <;> try simp -implicitDefEqProofs only [hg, Bool.not_true, Bool.not_false]) | (refine gddS (fun hg => ?_) (fun hg => ?_) <;> try simp -implicitDefEqProofs only [hg, Bool.not_true, Bool.not_false]) | ((with_reducible apply And.intro); focus (first | trivial | omega | decide | (simp -implicitDefEqProofs only [maxLen]; omega) | (simp [maxLen, sty_len, nd_len, ndL_len, lnL_len, intsL_len, rvs_len, lensS_len]; done) | (simp [maxLen, sty_len, nd_len, ndL_len, lnL_len, intsL_len, rvs_len, lensS_len]; omega))) | fail)
  exact (hK _ _ (ret_t rfl)).2

theorem sp_LevelTells (l : List Nd) (n : Int) : CallR Go.Proofs.Try.prog 9 [.rv (.sl 49 (ndL l)), .rv (.int .i64 n)] [] [] (.rv (.bool true)) := by
  refine callR_G k_decoupagelaw23_LevelTells [.rv (.sl 49 (ndL l)), .rv (.int .i64 n)] _ (by simp) (by simp [BkAll, bk_agg, bkAll_map, bk_rv, bk_fn, Sty.sv, Ln.sv, Nd.sv]) (fun K hK => ?_)
  have hlen := ndL_len l
  simp -implicitDefEqProofs only [c_decoupagelaw23_LevelTells, go_sem, ↓reduceIte, Nat.reduceEqDiff, Nat.reduceAdd, Nat.reduceSub, Nat.reduceMul, Nat.reduceLeDiff, Nat.reduceLT, reduceCtorEq, Int.reduceToNat]
  by_cases hl : l.length > 40
  · have e1 : decide ((l.length : Int) > 40) = true := decide_eq_true (by omega)
    have hcall5 := sp_awake23; repeat' (first | (simp -implicitDefEqProofs only [go_sem, ↓reduceIte, Nat.reduceEqDiff, Nat.reduceAdd, Nat.reduceSub, Nat.reduceMul, Nat.reduceLeDiff, Nat.reduceLT, reduceCtorEq, Int.reduceToNat, hlen, e1]) | (with_reducible refine g_noent ?_) | (with_reducible refine g_call0 hcall5 ?_) | (with_reducible refine g_calld0 hcall5 ?_) | (refine cdS (fun hg => ?_) (fun hg => ?_) <;> try simp -implicitDefEqProofs only [hg, Bool.not_true, Bool.not_false]) | (refine gdS (fun hg => ?_) (fun hg => ?_) <;> try simp -implicitDefEqProofs only [hg, Bool.not_true, Bool.not_false]) | (refine gddS (fun hg => ?_) (fun hg => ?_) <;> try simp -implicitDefEqProofs only [hg, Bool.not_true, Bool.not_false]) | ((with_reducible apply And.intro); focus (first | trivial | omega | decide | (simp -implicitDefEqProofs only [maxLen]; omega) | (simp [maxLen, sty_len, nd_len, ndL_len, lnL_len, intsL_len, rvs_len, lensS_len]; done) | (simp [maxLen, sty_len, nd_len, ndL_len, lnL_len, intsL_len, rvs_len, lensS_len]; omega))) | fail)
    exact (hK _ _ (ret_t rfl)).2
  · have e1 : decide ((l.length : Int) > 40) = false := decide_eq_false (by omega)
    have hb : l.length ≤ 8589934592 := by omega
    have hck := sp_ref07_Check l hb
    by_cases hc : chk l = 0
    · have ht := chk_tree hc
      have hs := tree_shp ht
      rw [hc] at hck
      have e00 : ((0 : Int) != 0) = false := rfl
      have h1 := sp_Leads l n
      have h2 := sp_ref23_Leads l ht n
      have h3 := sp_Forms l n
      have h4 := sp_ref23_Forms l ht n
      have h5 := sp_Group l hs n
      have h6 := sp_ref23_Group l ht hb n
      have h7 := sp_Context l hs n
      have h8 := sp_ref23_Context l ht hb n
      have h9 := sp_Members l hs hb n
      have h10 := sp_ref23_Members l ht hb n
      have h11 := sp_Parts l hs hb n
      have h12 := sp_ref23_Parts l ht hb n
      have lm : (membersAt l n).length ≤ 8589934592 := by
        unfold membersAt; split
        · have := selTo_len (q := memQ l n.toNat) (k := l.length); omega
        · simp
      have lp : (partsAt l n).length ≤ 8589934592 := by
        unfold partsAt; split
        · have := selTo_len (q := partQ l n.toNat) (k := l.length); omega
        · simp
      have same : ∀ a : List Nat, a.length ≤ 8589934592 → CallR Go.Proofs.Try.prog 46 [.rv (.sl 1 (intsL (natsI a))), .rv (.sl 1 (intsL (natsI a)))] [] [] (.rv (.bool true)) := fun a ha => by
        simpa using sp_ref08_Same (natsI a) (natsI a) (by rw [natsI_len]; exact ha)
      have s1 := same _ lm
      have s2 := same _ lp
      have hcall6 := sp_awake23; have hcall7 := hck; have hcall8 := sp_kin_Of l hb hc; have hcall9 := h1; have hcall10 := h2; have hcall11 := h3; have hcall12 := h4; have hcall13 := h5; have hcall14 := h6; have hcall15 := h7; have hcall16 := h8; have hcall17 := h9; have hcall18 := h10; have hcall19 := h11; have hcall20 := h12; have hcall21 := s1; have hcall22 := s2; repeat' (first | (simp -implicitDefEqProofs only [go_sem, ↓reduceIte, Nat.reduceEqDiff, Nat.reduceAdd, Nat.reduceSub, Nat.reduceMul, Nat.reduceLeDiff, Nat.reduceLT, reduceCtorEq, Int.reduceToNat, hlen, e1, e00, beq_self_eq_true, bne_self_eq_false]) | (with_reducible refine g_noent ?_) | (with_reducible refine g_call0 hcall6 ?_) | (with_reducible refine g_calld0 hcall6 ?_) | (with_reducible refine g_call0 hcall7 ?_) | (with_reducible refine g_calld0 hcall7 ?_) | (with_reducible refine g_call0 hcall8 ?_) | (with_reducible refine g_calld0 hcall8 ?_) | (with_reducible refine g_call0 hcall9 ?_) | (with_reducible refine g_calld0 hcall9 ?_) | (with_reducible refine g_call0 hcall10 ?_) | (with_reducible refine g_calld0 hcall10 ?_) | (with_reducible refine g_call0 hcall11 ?_) | (with_reducible refine g_calld0 hcall11 ?_) | (with_reducible refine g_call0 hcall12 ?_) | (with_reducible refine g_calld0 hcall12 ?_) | (with_reducible refine g_call0 hcall13 ?_) | (with_reducible refine g_calld0 hcall13 ?_) | (with_reducible refine g_call0 hcall14 ?_) | (with_reducible refine g_calld0 hcall14 ?_) | (with_reducible refine g_call0 hcall15 ?_) | (with_reducible refine g_calld0 hcall15 ?_) | (with_reducible refine g_call0 hcall16 ?_) | (with_reducible refine g_calld0 hcall16 ?_) | (with_reducible refine g_call0 hcall17 ?_) | (with_reducible refine g_calld0 hcall17 ?_) | (with_reducible refine g_call0 hcall18 ?_) | (with_reducible refine g_calld0 hcall18 ?_) | (with_reducible refine g_call0 hcall19 ?_) | (with_reducible refine g_calld0 hcall19 ?_) | (with_reducible refine g_call0 hcall20 ?_) | (with_reducible refine g_calld0 hcall20 ?_) | (with_reducible refine g_call0 hcall21 ?_) | (with_reducible refine g_calld0 hcall21 ?_) | (with_reducible refine g_call0 hcall22 ?_) | (with_reducible refine g_calld0 hcall22 ?_) | (refine cdS (fun hg => ?_) (fun hg => ?_) <;> try simp -implicitDefEqProofs only [hg, Bool.not_true, Bool.not_false]) | (refine gdS (fun hg => ?_) (fun hg => ?_) <;> try simp -implicitDefEqProofs only [hg, Bool.not_true, Bool.not_false]) | (refine gddS (fun hg => ?_) (fun hg => ?_) <;> try simp -implicitDefEqProofs only [hg, Bool.not_true, Bool.not_false]) | ((with_reducible apply And.intro); focus (first | trivial | omega | decide | (simp -implicitDefEqProofs only [maxLen]; omega) | (simp [maxLen, sty_len, nd_len, ndL_len, lnL_len, intsL_len, rvs_len, lensS_len]; done) | (simp [maxLen, sty_len, nd_len, ndL_len, lnL_len, intsL_len, rvs_len, lensS_len]; omega))) | fail)
      exact (hK _ _ (ret_t rfl)).2
    · have e00 : (chk l != 0) = true := by simpa using hc
      have hcall23 := sp_awake23; have hcall24 := hck; repeat' (first | (simp -implicitDefEqProofs only [go_sem, ↓reduceIte, Nat.reduceEqDiff, Nat.reduceAdd, Nat.reduceSub, Nat.reduceMul, Nat.reduceLeDiff, Nat.reduceLT, reduceCtorEq, Int.reduceToNat, hlen, e1, e00]) | (with_reducible refine g_noent ?_) | (with_reducible refine g_call0 hcall23 ?_) | (with_reducible refine g_calld0 hcall23 ?_) | (with_reducible refine g_call0 hcall24 ?_) | (with_reducible refine g_calld0 hcall24 ?_) | (refine cdS (fun hg => ?_) (fun hg => ?_) <;> try simp -implicitDefEqProofs only [hg, Bool.not_true, Bool.not_false]) | (refine gdS (fun hg => ?_) (fun hg => ?_) <;> try simp -implicitDefEqProofs only [hg, Bool.not_true, Bool.not_false]) | (refine gddS (fun hg => ?_) (fun hg => ?_) <;> try simp -implicitDefEqProofs only [hg, Bool.not_true, Bool.not_false]) | ((with_reducible apply And.intro); focus (first | trivial | omega | decide | (simp -implicitDefEqProofs only [maxLen]; omega) | (simp [maxLen, sty_len, nd_len, ndL_len, lnL_len, intsL_len, rvs_len, lensS_len]; done) | (simp [maxLen, sty_len, nd_len, ndL_len, lnL_len, intsL_len, rvs_len, lensS_len]; omega))) | fail)
      exact (hK _ _ (ret_t rfl)).2
end Go.Eng

/- level: the statements as functions: every made thing is in one group, every leading thing in one context. -/
namespace Go.Eng
open Go
/- decoupage/decoupagelaw23.LevelParts -/
def c_decoupagelaw23_LevelParts : AC := (.seq (.reg [⟨(some 2), .mv, [(.c (.rv (.bool false)))], none⟩]) (.seq (.seq (.reg [⟨(some 17), (.call 37), [], none⟩, ⟨(some 18), .not, [(.t 17)], none⟩, ⟨(some 19), .mv, [(.t 18)], none⟩, ⟨(some 20), .mv, [(.t 0)], (some (19, false))⟩, ⟨(some 21), .len, [(.t 20)], (some (19, false))⟩, ⟨(some 22), (.ibin .gtr), [(.t 21), (.c (.rv (.int .i64 25)))], (some (19, false))⟩, ⟨(some 23), .pick, [(.t 19), (.c (.rv (.bool true))), (.t 22)], none⟩, ⟨(some 24), .mv, [(.t 23)], none⟩, ⟨(some 25), .mv, [(.t 0)], (some (24, false))⟩, ⟨(some 26), (.call 21), [(.t 25)], (some (24, false))⟩, ⟨(some 27), (.ibin .neq), [(.t 26), (.c (.rv (.int .i64 0)))], (some (24, false))⟩, ⟨(some 28), .pick, [(.t 24), (.c (.rv (.bool true))), (.t 27)], none⟩]) (.cond (.t 28) (.seq (.reg [⟨(some 29), (.call 37), [], none⟩, ⟨(some 2), .mv, [(.t 29)], none⟩]) .ret) .skip)) (.seq (.reg [⟨(some 31), .mv, [(.t 0)], none⟩, ⟨(some 32), (.call 17), [(.t 31)], none⟩, ⟨(some 30), .mv, [(.t 32)], none⟩, ⟨(some 33), (.ext 0), [(.t 30)], none⟩, ⟨(some 34), (.ext 1), [(.t 30)], none⟩, ⟨(some 3), .mv, [(.t 33)], none⟩, ⟨(some 4), .mv, [(.t 34)], none⟩]) (.seq (.regd [0, 1, 3, 0, 8, 24, 7, 127] [⟨(some 35), .mv, [(.t 0)], none⟩, ⟨(some 36), .len, [(.t 35)], none⟩, ⟨(some 37), (.mksl 1 8 [(.int .i64 0)]), [(.t 36), (.t 36)], none⟩, ⟨(some 38), .mv, [(.t 0)], none⟩, ⟨(some 39), .len, [(.t 38)], none⟩, ⟨(some 40), (.mksl 1 8 [(.int .i64 0)]), [(.t 39), (.t 39)], none⟩, ⟨(some 5), .mv, [(.t 37)], none⟩, ⟨(some 6), .mv, [(.t 40)], none⟩]) (.seq (.seq (.reg [⟨(some 41), .mv, [(.t 0)], none⟩, ⟨(some 42), .len, [(.t 41)], none⟩, ⟨(some 43), .mv, [(.c (.rv (.int .i64 0)))], none⟩]) (.seq (.block 0 (.loop (.seq (.reg [⟨(some 44), (.ibin .lss), [(.t 43), (.t 42)], none⟩]) (.seq (.cond (.t 44) .skip (.exit 0)) (.seq (.seq (.block 1 (.seq (.reg [⟨(some 45), .mv, [(.t 43)], none⟩, ⟨(some 7), .mv, [(.t 45)], none⟩]) (.seq (.reg [⟨(some 46), .mv, [(.t 3)], none⟩, ⟨(some 47), .mv, [(.t 7)], none⟩, ⟨(some 48), (.call 47), [(.t 46), (.t 47)], none⟩, ⟨(some 49), .mv, [(.t 3)], none⟩, ⟨(some 50), .mv, [(.t 7)], none⟩, ⟨(some 51), (.call 49), [(.t 49), (.t 50)], none⟩, ⟨(some 8), .mv, [(.t 48)], none⟩, ⟨(some 9), .mv, [(.t 51)], none⟩]) (.seq (.seq (.reg [⟨(some 52), .mv, [(.t 8)], none⟩, ⟨(some 53), .len, [(.t 52)], none⟩, ⟨(some 54), .mv, [(.c (.rv (.int .i64 0)))], none⟩]) (.seq (.block 2 (.loop (.seq (.reg [⟨(some 55), (.ibin .lss), [(.t 54), (.t 53)], none⟩]) (.seq (.cond (.t 55) .skip (.exit 2)) (.seq (.seq (.block 3 (.seq (.reg [⟨(some 56), .mv, [(.t 54)], none⟩, ⟨(some 10), .mv, [(.t 56)], none⟩]) (.reg [⟨(some 57), .mv, [(.t 5)], none⟩, ⟨(some 58), .mv, [(.t 8)], none⟩, ⟨(some 59), .mv, [(.t 10)], none⟩, ⟨(some 60), (.ixs 1), [(.t 58), (.t 59)], none⟩, ⟨(some 61), (.load 1 false), [(.t 60)], none⟩, ⟨(some 62), (.ixs 1), [(.t 57), (.t 61)], none⟩, ⟨(some 63), (.load 1 false), [(.t 62)], none⟩, ⟨(some 64), (.ibin .add), [(.t 63), (.c (.rv (.int .i64 1)))], none⟩, ⟨(some 65), (.ixs 1), [(.t 57), (.t 61)], none⟩, ⟨none, (.store 1), [(.t 65), (.t 64)], none⟩]))) .ent) (.reg [⟨(some 66), (.ibin .add), [(.t 54), (.c (.rv (.int .i64 1)))], none⟩, ⟨(some 54), .mv, [(.t 66)], none⟩])))))) .ent)) (.seq (.reg [⟨(some 67), .mv, [(.t 9)], none⟩, ⟨(some 68), .len, [(.t 67)], none⟩, ⟨(some 69), .mv, [(.c (.rv (.int .i64 0)))], none⟩]) (.seq (.block 4 (.loop (.seq (.reg [⟨(some 70), (.ibin .lss), [(.t 69), (.t 68)], none⟩]) (.seq (.cond (.t 70) .skip (.exit 4)) (.seq (.seq (.block 5 (.seq (.reg [⟨(some 71), .mv, [(.t 69)], none⟩, ⟨(some 11), .mv, [(.t 71)], none⟩]) (.reg [⟨(some 72), .mv, [(.t 6)], none⟩, ⟨(some 73), .mv, [(.t 9)], none⟩, ⟨(some 74), .mv, [(.t 11)], none⟩, ⟨(some 75), (.ixs 1), [(.t 73), (.t 74)], none⟩, ⟨(some 76), (.load 1 false), [(.t 75)], none⟩, ⟨(some 77), (.ixs 1), [(.t 72), (.t 76)], none⟩, ⟨(some 78), (.load 1 false), [(.t 77)], none⟩, ⟨(some 79), (.ibin .add), [(.t 78), (.c (.rv (.int .i64 1)))], none⟩, ⟨(some 80), (.ixs 1), [(.t 72), (.t 76)], none⟩, ⟨none, (.store 1), [(.t 80), (.t 79)], none⟩]))) .ent) (.reg [⟨(some 81), (.ibin .add), [(.t 69), (.c (.rv (.int .i64 1)))], none⟩, ⟨(some 69), .mv, [(.t 81)], none⟩])))))) .ent)))))) .ent) (.reg [⟨(some 82), (.ibin .add), [(.t 43), (.c (.rv (.int .i64 1)))], none⟩, ⟨(some 43), .mv, [(.t 82)], none⟩])))))) .ent)) (.seq (.seq (.reg [⟨(some 83), .mv, [(.t 0)], none⟩, ⟨(some 84), .len, [(.t 83)], none⟩, ⟨(some 85), .mv, [(.c (.rv (.int .i64 0)))], none⟩]) (.seq (.block 6 (.loop (.seq (.reg [⟨(some 86), (.ibin .lss), [(.t 85), (.t 84)], none⟩]) (.seq (.cond (.t 86) .skip (.exit 6)) (.seq (.seq (.block 7 (.seq (.reg [⟨(some 87), .mv, [(.t 85)], none⟩, ⟨(some 12), .mv, [(.t 87)], none⟩]) (.seq (.reg [⟨(some 88), .mv, [(.t 3)], none⟩, ⟨(some 89), .mv, [(.t 12)], none⟩, ⟨(some 90), (.call 30), [(.t 88), (.t 89)], none⟩, ⟨(some 91), .mv, [(.t 3)], none⟩, ⟨(some 92), .mv, [(.t 12)], none⟩, ⟨(some 93), (.call 38), [(.t 91), (.t 92)], none⟩, ⟨(some 13), .mv, [(.t 90)], none⟩, ⟨(some 14), .mv, [(.t 93)], none⟩]) (.seq (.reg [⟨(some 15), .mv, [(.c (.rv (.int .i64 0)))], none⟩, ⟨(some 16), .mv, [(.c (.rv (.int .i64 0)))], none⟩]) (.seq (.seq (.reg [⟨(some 94), .mv, [(.t 13)], none⟩, ⟨(some 95), .mv, [(.t 94)], none⟩, ⟨(some 96), .mv, [(.t 14)], (some (95, true))⟩, ⟨(some 97), .not, [(.t 96)], (some (95, true))⟩, ⟨(some 98), .pick, [(.t 95), (.t 97), (.c (.rv (.bool false)))], none⟩]) (.seq (.cond (.t 98) (.reg [⟨(some 15), .mv, [(.c (.rv (.int .i64 1)))], none⟩]) .skip) .ent)) (.seq (.seq (.reg [⟨(some 99), .mv, [(.t 14)], none⟩, ⟨(some 100), .mv, [(.t 99)], none⟩, ⟨(some 101), .mv, [(.t 12)], (some (100, true))⟩, ⟨(some 102), (.ibin .gtr), [(.t 101), (.c (.rv (.int .i64 0)))], (some (100, true))⟩, ⟨(some 103), .pick, [(.t 100), (.t 102), (.c (.rv (.bool false)))], none⟩]) (.seq (.cond (.t 103) (.reg [⟨(some 16), .mv, [(.c (.rv (.int .i64 1)))], none⟩]) .skip) .ent)) (.seq (.reg [⟨(some 104), .mv, [(.t 5)], none⟩, ⟨(some 105), .mv, [(.t 12)], none⟩, ⟨(some 106), (.ixs 1), [(.t 104), (.t 105)], none⟩, ⟨(some 107), (.load 1 false), [(.t 106)], none⟩, ⟨(some 108), .mv, [(.t 15)], none⟩, ⟨(some 109), (.ibin .neq), [(.t 107), (.t 108)], none⟩, ⟨(some 110), .mv, [(.t 109)], none⟩, ⟨(some 111), .mv, [(.t 6)], (some (110, false))⟩, ⟨(some 112), .mv, [(.t 12)], (some (110, false))⟩, ⟨(some 113), (.ixs 1), [(.t 111), (.t 112)], (some (110, false))⟩, ⟨(some 114), (.load 1 false), [(.t 113)], (some (110, false))⟩, ⟨(some 115), .mv, [(.t 16)], (some (110, false))⟩, ⟨(some 116), (.ibin .neq), [(.t 114), (.t 115)], (some (110, false))⟩, ⟨(some 117), .pick, [(.t 110), (.c (.rv (.bool true))), (.t 116)], none⟩]) (.cond (.t 117) (.seq (.reg [⟨(some 2), .mv, [(.c (.rv (.bool false)))], none⟩]) .ret) .skip)))))))) .ent) (.reg [⟨(some 118), (.ibin .add), [(.t 85), (.c (.rv (.int .i64 1)))], none⟩, ⟨(some 85), .mv, [(.t 118)], none⟩])))))) .ent)) (.seq (.reg [⟨(some 119), .mv, [(.t 4)], none⟩, ⟨(some 120), (.ibin .eql), [(.t 119), (.c (.rv (.int .i64 0)))], none⟩, ⟨(some 2), .mv, [(.t 120)], none⟩]) .ret)))))))
theorem k_decoupagelaw23_LevelParts : FnOK Go.Proofs.Try.prog 10 121 c_decoupagelaw23_LevelParts [(.t 2)] := fnOK_of (by kernel_rfl)


/-- How often m is in the first k lists. -/
def cntB (f : Nat → List Nat) : Nat → Nat → Nat
  | 0, _ => 0
  | k + 1, m => cntB f k m + (f k).count m
def cntL (L : Nat) (f : Nat → List Nat) (k : Nat) (xs : List Nat) : List Int := (List.range L).map fun m => ((cntB f k m + xs.count m : Nat) : Int)
theorem cntL_len {L : Nat} {f : Nat → List Nat} {k : Nat} {xs : List Nat} : (intsL (cntL L f k xs)).length = L := by simp [intsL, cntL]
theorem cntL_get {L : Nat} {f : Nat → List Nat} {k m : Nat} {xs : List Nat} (h : m < L) : (intsL (cntL L f k xs))[m]?.getD [] = [.int .i64 ((cntB f k m + xs.count m : Nat) : Int)] := by simp [intsL, cntL, h]
theorem cntL_set {L : Nat} {f : Nat → List Nat} {k x : Nat} {xs : List Nat} (h : x < L) : (cntL L f k xs).set x ((cntB f k x + xs.count x + 1 : Nat) : Int) = cntL L f k (xs ++ [x]) := by
  apply List.ext_getElem
  · simp [cntL]
  · intro i h1 h2
    simp -implicitDefEqProofs only [cntL, List.length_map, List.length_range] at h2
    rw [List.getElem_set]
    by_cases e : x = i
    · subst e; simp -implicitDefEqProofs only [if_true]; simp [cntL, List.count_append, Nat.add_assoc]
    · simp -implicitDefEqProofs only [if_neg e]
      have : List.count i [x] = 0 := List.count_eq_zero.2 (by simp; omega)
      simp [cntL, List.count_append, this]
theorem cntL_next {L : Nat} {f : Nat → List Nat} {k : Nat} : cntL L f k (f k) = cntL L f (k + 1) [] := by simp [cntL, cntB]
theorem cntL_zero {L : Nat} {f : Nat → List Nat} : List.replicate L (0 : Int) = cntL L f 0 [] := by
  apply List.ext_getElem <;> simp [cntL, cntB]
theorem cntB_le {f : Nat → List Nat} {B : Nat} (h : ∀ n, (f n).length ≤ B) (m : Nat) : ∀ k, cntB f k m ≤ k * B
  | 0 => by simp [cntB]
  | k + 1 => by
    have := cntB_le h m k
    have h1 := List.count_le_length (a := m) (l := f k)
    have h2 := h k
    rw [Nat.succ_mul]; simp -implicitDefEqProofs only [cntB]; omega
theorem cntB_no {f : Nat → List Nat} {m : Nat} (h : ∀ n, (f n).count m = 0) : ∀ k, cntB f k m = 0
  | 0 => rfl
  | k + 1 => by simp -implicitDefEqProofs only [cntB, cntB_no h k, h k]
theorem cntB_one {f : Nat → List Nat} {m u : Nat} (h : ∀ n, (f n).count m = if n = u then 1 else 0) : ∀ k, cntB f k m = if u < k then 1 else 0
  | 0 => rfl
  | k + 1 => by
    simp -implicitDefEqProofs only [cntB, cntB_one h k, h k]
    by_cases h1 : u < k
    · rw [if_pos h1, if_neg (by omega), if_pos (by omega)]
    · by_cases h2 : k = u
      · rw [if_neg h1, if_pos h2, if_pos (by omega)]
      · rw [if_neg h1, if_neg h2, if_neg (by omega)]
theorem sel_count {q : Nat → Bool} {L m : Nat} (h : m < L) : (selTo q L).count m = if q m = true then 1 else 0 := by
  unfold selTo
  by_cases hq : q m = true
  · rw [List.count_filter hq, if_pos hq]
    exact (List.nodup_range.count).trans (by simp [h])
  · rw [if_neg hq]
    exact List.count_eq_zero.2 (by simp [hq])

theorem zero_mem {l : List Nd} (hs : Shp l) : ∀ m k, k ≤ m → k < l.length → 0 ∈ pth l k
  | _, 0, _, _ => mem_self
  | 0, k + 1, h, _ => absurd h (by omega)
  | m + 1, k + 1, h, hk => by
    have hu := hs.up (k + 1) (by omega) hk
    rw [mem_par hs.wf (by omega) hk]
    exact .inr (zero_mem hs m _ (by omega) (by omega))
theorem made_zero {l : List Nd} (hs : Shp l) {m : Nat} (h : madeAt l m = true) : madeAt l 0 = true := by
  simp -implicitDefEqProofs only [madeAt, Bool.and_eq_true] at h
  obtain ⟨h1, h2⟩ := h
  have hm : m < l.length := by simpa [inL] using h1
  have h0 : inL l 0 = true := by have := inL_of (l := l) (k := 0) (by omega); simpa using this
  unfold madeS at h2
  rw [List.all_eq_true] at h2
  have := h2 0 (zero_mem hs m m (by omega) hm)
  simp [madeAt, h0, madeS_zero, this]
theorem group_lead {l : List Nd} {m : Nat} (h : leadAt l m = true) : groupAt l m = m := by
  obtain ⟨r, hr⟩ := pth_head (l := l) (n := m)
  simp [groupAt, lead_made h, hr, fstI, h]
theorem group_found {l : List Nd} (hs : Shp l) {m : Nat} (h : madeAt l m = true) : ∃ u, u < l.length ∧ groupAt l m = (u : Nat) ∧ leadAt l u = true := by
  have hm : m < l.length := by simp [madeAt, inL] at h; exact h.1
  have h0 : leadAt l ((0 : Nat) : Int) = true := by simp [leadAt, made_zero hs h]
  have hv : groupAt l m = fstI (leadAt l) (pth l m) := by simp [groupAt, h]
  rcases fst_cases (leadAt l) (pth l m) with ⟨_, h1⟩ | ⟨i, hi, h1, h2, _⟩
  · have := h1 0 (zero_mem hs m m (by omega) hm)
    rw [h0] at this; simp at this
  · exact ⟨_, pth_lt hm hi, by rw [hv, h1], h2⟩
theorem ctx_found {l : List Nd} (hs : Shp l) {m : Nat} (h0 : 0 < m) (h : leadAt l m = true) : ∃ u, u < l.length ∧ ctxAt l m = (u : Nat) ∧ formAt l u = true ∧ u ≠ m := by
  have hmd := lead_made h
  have hm : m < l.length := by simp [madeAt, inL] at hmd; exact hmd.1
  have hf : formAt l ((0 : Nat) : Int) = true := by simp [formAt, leadAt, made_zero hs hmd]
  have hv : ctxAt l m = fstI (formAt l) (upAt l m) := by simp [ctxAt, hmd]
  have hz : 0 ∈ upAt l m := by
    have := zero_mem hs m m (by omega) hm
    obtain ⟨r, hr⟩ := pth_head (l := l) (n := m)
    simp -implicitDefEqProofs only [upAt, inL_of hm, if_true, Int.toNat_natCast]
    rw [hr] at this ⊢
    simp at this ⊢
    rcases this with h | h
    · omega
    · exact h
  rcases fst_cases (formAt l) (upAt l m) with ⟨_, h1⟩ | ⟨i, hi, h1, h2, _⟩
  · have := h1 0 hz
    rw [hf] at this; simp at this
  · obtain ⟨a, b, c⟩ := up_below hs (List.getElem_mem hi)
    exact ⟨_, c, by rw [hv, h1], h2, by omega⟩
theorem mem_count {l : List Nd} {n m : Nat} (h : m < l.length) : (membersAt l n).count m = if (leadAt l n && memQ l n m) = true then 1 else 0 := by
  cases hl : leadAt l n with
  | false => simp [membersAt, hl]
  | true => simp -implicitDefEqProofs only [membersAt, hl, if_true, Int.toNat_natCast, Bool.true_and]; exact sel_count h
theorem part_count {l : List Nd} {n m : Nat} (h : m < l.length) : (partsAt l n).count m = if (formAt l n && partQ l n m) = true then 1 else 0 := by
  cases hl : formAt l n with
  | false => simp [partsAt, hl]
  | true => simp -implicitDefEqProofs only [partsAt, hl, if_true, Int.toNat_natCast, Bool.true_and]; exact sel_count h

def memF (l : List Nd) (n : Nat) : List Nat := membersAt l n
def partF (l : List Nd) (n : Nat) : List Nat := partsAt l n
theorem mem_total {l : List Nd} (hs : Shp l) {m : Nat} (hm : m < l.length) : cntB (memF l) l.length m = if (madeAt l m && !leadAt l m) = true then 1 else 0 := by
  cases hmd : madeAt l m with
  | false =>
    have : groupAt l m = -1 := by simp [groupAt, hmd]
    rw [cntB_no (fun n => by rw [memF, mem_count hm]; simp [memQ, this])]; simp
  | true =>
    cases hl : leadAt l m with
    | true =>
      have := group_lead hl
      rw [cntB_no (fun n => by
        rw [memF, mem_count hm, if_neg]
        simp -implicitDefEqProofs only [memQ, this, Bool.and_eq_true, decide_eq_true_eq, beq_iff_eq]; omega)]; simp
    | false =>
      obtain ⟨u, hu, hg, hlu⟩ := group_found hs hmd
      rw [cntB_one (u := u) (fun n => by
        rw [memF, mem_count hm]
        congr 1
        rw [eq_iff_iff]
        simp -implicitDefEqProofs only [memQ, hg, Bool.and_eq_true, decide_eq_true_eq, beq_iff_eq]
        constructor
        · intro h; omega
        · intro h
          subst h
          refine ⟨hlu, ?_, rfl⟩
          intro h; rw [h, hlu] at hl; simp at hl)]
      rw [if_pos hu]; rfl
theorem part_total {l : List Nd} (hs : Shp l) {m : Nat} (hm : m < l.length) : cntB (partF l) l.length m = if (leadAt l m && decide ((m : Int) > 0)) = true then 1 else 0 := by
  cases hl : leadAt l m with
  | false => rw [cntB_no (fun n => by rw [partF, part_count hm]; simp [partQ, hl])]; simp
  | true =>
    by_cases h0 : 0 < m
    · obtain ⟨u, hu, hg, hf, hne⟩ := ctx_found hs h0 hl
      rw [cntB_one (u := u) (fun n => by
        rw [partF, part_count hm]
        congr 1
        rw [eq_iff_iff]
        simp -implicitDefEqProofs only [partQ, hg, hl, Bool.and_eq_true, decide_eq_true_eq, beq_iff_eq]
        constructor
        · intro h; omega
        · intro h
          subst h
          exact ⟨hf, ⟨by omega, trivial⟩, rfl⟩)]
      rw [if_pos hu, decide_eq_true (by omega)]; rfl
    · obtain rfl : m = 0 := by omega
      have hc : ctxAt l ((0 : Nat) : Int) = -1 := by
        have : upAt l ((0 : Nat) : Int) = [] := by simp [upAt, pth_zero]
        simp -implicitDefEqProofs only [ctxAt, this]; split <;> rfl
      rw [cntB_no (fun n => by rw [partF, part_count hm]; simp -implicitDefEqProofs only [partQ, hc]; simp)]; simp
theorem memF_len {l : List Nd} (n : Nat) : (memF l n).length ≤ l.length := by
  unfold memF membersAt; split
  · exact selTo_len
  · simp
theorem partF_len {l : List Nd} (n : Nat) : (partF l n).length ≤ l.length := by
  unfold partF partsAt; split
  · exact selTo_len
  · simp
theorem memF_lt {l : List Nd} {n x : Nat} (h : x ∈ memF l n) : x < l.length := by
  unfold memF membersAt at h; split at h
  · simp [selTo] at h; exact h.1
  · simp at h
theorem partF_lt {l : List Nd} {n x : Nat} (h : x ∈ partF l n) : x < l.length := by
  unfold partF partsAt at h; split at h
  · simp [selTo] at h; exact h.1
  · simp at h
theorem cnt_small {f : Nat → List Nat} {L k m i : Nat} (hL : L ≤ 25) (hk : k ≤ L) (h : ∀ n, (f n).length ≤ L) : cntB f k m + ((f k).take i).count m ≤ 700 := by
  have h1 := cntB_le h m k
  have h2 := List.count_le_length (a := m) (l := (f k).take i)
  have h3 : ((f k).take i).length ≤ (f k).length := by simp; omega
  have h4 := h k
  have h5 : k * L ≤ 25 * 25 := Nat.mul_le_mul (by omega) hL
  omega

set_option maxHeartbeats 4000000 in
theorem sp_LevelParts (l : List Nd) : CallR Go.Proofs.Try.prog 10 [.rv (.sl 49 (ndL l))] [] [] (.rv (.bool true)) := by
  refine callR_G k_decoupagelaw23_LevelParts [.rv (.sl 49 (ndL l))] _ (by simp) (by simp [BkAll, bk_agg, bkAll_map, bk_rv, bk_fn, Sty.sv, Ln.sv, Nd.sv]) (fun K hK => ?_)
  have hlen := ndL_len l
  simp -implicitDefEqProofs only [c_decoupagelaw23_LevelParts, go_sem, ↓reduceIte, Nat.reduceEqDiff, Nat.reduceAdd, Nat.reduceSub, Nat.reduceMul, Nat.reduceLeDiff, Nat.reduceLT, reduceCtorEq, Int.reduceToNat]
  by_cases hl : l.length > 25
  · have e1 : decide ((l.length : Int) > 25) = true := decide_eq_true (by omega)
    have hcall1 := sp_awake23; repeat' (first | (simp -implicitDefEqProofs only [go_sem, ↓reduceIte, Nat.reduceEqDiff, Nat.reduceAdd, Nat.reduceSub, Nat.reduceMul, Nat.reduceLeDiff, Nat.reduceLT, reduceCtorEq, Int.reduceToNat, hlen, e1]) | (with_reducible refine g_noent ?_) | (with_reducible refine g_call0 hcall1 ?_) | (with_reducible refine g_calld0 hcall1 ?_) | (refine cdS (fun hg => ?_) (fun hg => ?_) <;> try simp -implicitDefEqProofs only [hg, Bool.not_true, Bool.not_false]) | (refine gdS (fun hg => ?_) (fun hg => ?_) <;> try simp -implicitDefEqProofs only [hg, Bool.not_true, Bool.not_false]) | (refine gddS (fun hg => ?_) (fun hg => ?_) <;> try simp -implicitDefEqProofs only [hg, Bool.not_true, Bool.not_false]) | ((with_reducible apply And.intro); focus (first | trivial | omega | decide | (simp -implicitDefEqProofs only [maxLen]; omega) | (simp [maxLen, sty_len, nd_len, ndL_len, lnL_len, intsL_len, rvs_len, lensS_len]; done) | (simp [maxLen, sty_len, nd_len, ndL_len, lnL_len, intsL_len, rvs_len, lensS_len]; omega))) | fail)
    exact (hK _ _ (ret_t rfl)).2
  · have e1 : decide ((l.length : Int) > 25) = false := decide_eq_false (by omega)
    have hb : l.length ≤ 8589934592 := by omega
    have hck := sp_ref07_Check l hb
    by_cases hc : chk l = 0
    · have ht := chk_tree hc
      have hs := tree_shp ht
      rw [hc] at hck
      have e00 : ((0 : Int) != 0) = false := rfl
      have e01 : ((0 : Int) == 0) = true := rfl
      have hcall2 := sp_awake23; have hcall3 := hck; have hcall4 := sp_kin_Of l hb hc; repeat' (first | (simp -implicitDefEqProofs only [go_sem, ↓reduceIte, Nat.reduceEqDiff, Nat.reduceAdd, Nat.reduceSub, Nat.reduceMul, Nat.reduceLeDiff, Nat.reduceLT, reduceCtorEq, Int.reduceToNat, hlen, e1, e00, rvs_rep1]) | (with_reducible refine g_noent ?_) | (with_reducible refine g_call0 hcall2 ?_) | (with_reducible refine g_calld0 hcall2 ?_) | (with_reducible refine g_call0 hcall3 ?_) | (with_reducible refine g_calld0 hcall3 ?_) | (with_reducible refine g_call0 hcall4 ?_) | (with_reducible refine g_calld0 hcall4 ?_) | (refine cdS (fun hg => ?_) (fun hg => ?_) <;> try simp -implicitDefEqProofs only [hg, Bool.not_true, Bool.not_false]) | (refine gdS (fun hg => ?_) (fun hg => ?_) <;> try simp -implicitDefEqProofs only [hg, Bool.not_true, Bool.not_false]) | (refine gddS (fun hg => ?_) (fun hg => ?_) <;> try simp -implicitDefEqProofs only [hg, Bool.not_true, Bool.not_false]) | ((with_reducible apply And.intro); focus (first | trivial | omega | decide | (simp -implicitDefEqProofs only [maxLen]; omega) | (simp [maxLen, sty_len, nd_len, ndL_len, lnL_len, intsL_len, rvs_len, lensS_len]; done) | (simp [maxLen, sty_len, nd_len, ndL_len, lnL_len, intsL_len, rvs_len, lensS_len]; omega))) | fail)
      have hz : List.replicate l.length (0 : Int) = cntL l.length (memF l) 0 [] := cntL_zero
      have hz2 : List.replicate l.length (0 : Int) = cntL l.length (partF l) 0 [] := cntL_zero
      refine g_loop (ι := Nat) (fun k => [(43, .rv (.int .i64 k)), (42, .rv (.int .i64 l.length)), (5, .row 0 0 l.length), (6, .row 1 0 l.length), (3, .rv (kinV l)), (4, .rv (.int .i64 0)), (0, .rv (.sl 49 (ndL l)))]) (fun k => [some (.row 1 0 (rvs (intsL (cntL l.length (memF l) k [])))), some (.row 1 0 (rvs (intsL (cntL l.length (partF l) k []))))]) (fun k => k ≤ l.length) (fun k => l.length - k) 0 (by simp) (by rw [← hz, ← hz2]; refine ent_env ?_; simp [lk]) (fun k hk K' hN hX hR => ?_)
      simp -implicitDefEqProofs only [go_sem, ↓reduceIte, Nat.reduceEqDiff, Nat.reduceAdd, Nat.reduceSub, Nat.reduceMul, Nat.reduceLeDiff, Nat.reduceLT, reduceCtorEq, Int.reduceToNat]
      refine cdS (fun hg => ?_) (fun hg => ?_)
      · have hk4 : k < l.length := by simp at hg; omega
        have h1 := sp_Members l hs hb k
        have h2 := sp_Parts l hs hb k
        rw [show membersAt l k = memF l k from rfl] at h1
        rw [show partsAt l k = partF l k from rfl] at h2
        have lm := nats_ln (memF l k)
        have lp := nats_ln (partF l k)
        have bm := memF_len (l := l) k
        have bp := partF_len (l := l) k
        have hcall5 := h1; have hcall6 := h2; repeat' (first | (simp -implicitDefEqProofs only [go_sem, ↓reduceIte, Nat.reduceEqDiff, Nat.reduceAdd, Nat.reduceSub, Nat.reduceMul, Nat.reduceLeDiff, Nat.reduceLT, reduceCtorEq, Int.reduceToNat, lm, lp]) | (with_reducible refine g_noent ?_) | (with_reducible refine g_call0 hcall5 ?_) | (with_reducible refine g_calld0 hcall5 ?_) | (with_reducible refine g_call0 hcall6 ?_) | (with_reducible refine g_calld0 hcall6 ?_) | (refine cdS (fun hg => ?_) (fun hg => ?_) <;> try simp -implicitDefEqProofs only [hg, Bool.not_true, Bool.not_false]) | (refine gdS (fun hg => ?_) (fun hg => ?_) <;> try simp -implicitDefEqProofs only [hg, Bool.not_true, Bool.not_false]) | (refine gddS (fun hg => ?_) (fun hg => ?_) <;> try simp -implicitDefEqProofs only [hg, Bool.not_true, Bool.not_false]) | ((with_reducible apply And.intro); focus (first | trivial | omega | decide | (simp -implicitDefEqProofs only [maxLen]; omega) | (simp [maxLen, sty_len, nd_len, ndL_len, lnL_len, intsL_len, rvs_len, lensS_len]; done) | (simp [maxLen, sty_len, nd_len, ndL_len, lnL_len, intsL_len, rvs_len, lensS_len]; omega))) | fail)
        refine g_loop (ι := Nat) (fun i => [(54, .rv (.int .i64 i)), (53, .rv (.int .i64 (memF l k).length)), (8, .rv (.sl 1 (intsL (natsI (memF l k))))), (9, .rv (.sl 1 (intsL (natsI (partF l k))))), (43, .rv (.int .i64 k)), (42, .rv (.int .i64 l.length)), (5, .row 0 0 l.length), (6, .row 1 0 l.length), (3, .rv (kinV l)), (4, .rv (.int .i64 0)), (0, .rv (.sl 49 (ndL l)))]) (fun i => [some (.row 1 0 (rvs (intsL (cntL l.length (memF l) k ((memF l k).take i))))), some (.row 1 0 (rvs (intsL (cntL l.length (partF l) k []))))]) (fun i => i ≤ (memF l k).length) (fun i => (memF l k).length - i) 0 (by simp) (ent_env (by simp [lk])) (fun i hi K2 hN2 hX2 hR2 => ?_)
        simp -implicitDefEqProofs only [go_sem, ↓reduceIte, Nat.reduceEqDiff, Nat.reduceAdd, Nat.reduceSub, Nat.reduceMul, Nat.reduceLeDiff, Nat.reduceLT, reduceCtorEq, Int.reduceToNat]
        refine cdS (fun hg => ?_) (fun hg => ?_)
        · have hi4 : i < (memF l k).length := by simp at hg; omega
          have hx := intsL_get (l := natsI (memF l k)) (i := i) (by rw [natsI_len]; exact hi4)
          rw [show (natsI (memF l k))[i]'(by rw [natsI_len]; exact hi4) = (((memF l k)[i]'hi4 : Nat) : Int) by simp [natsI]] at hx
          have hlt := memF_lt (List.getElem_mem hi4)
          have hc1 := cntL_get (f := memF l) (k := k) (xs := (memF l k).take i) hlt
          have hc2 := cntL_set (f := memF l) (k := k) (xs := (memF l k).take i) hlt
          have hc3 := cntL_len (L := l.length) (f := memF l) (k := k) (xs := (memF l k).take i)
          have ht1 : (memF l k).take i ++ [(memF l k)[i]'hi4] = (memF l k).take (i + 1) := (List.take_succ_eq_append_getElem hi4).symm
          rw [ht1] at hc2
          have hsm := cnt_small (i := i) (m := (memF l k)[i]'hi4) (by omega) (Nat.le_of_lt hk4) (memF_len (l := l))
          have wu := wrap_up (k := i) (by omega)
          have wc := wrap_up (k := cntB (memF l) k ((memF l k)[i]'hi4) + ((memF l k).take i).count ((memF l k)[i]'hi4)) (by omega)
          repeat' (first | (simp -implicitDefEqProofs only [go_sem, ↓reduceIte, Nat.reduceEqDiff, Nat.reduceAdd, Nat.reduceSub, Nat.reduceMul, Nat.reduceLeDiff, Nat.reduceLT, reduceCtorEq, Int.reduceToNat, lm, hx, hc1, hc2, hc3, rvs_set1, wu, wc]) | (with_reducible refine g_noent ?_) | (refine cdS (fun hg => ?_) (fun hg => ?_) <;> try simp -implicitDefEqProofs only [hg, Bool.not_true, Bool.not_false]) | (refine gdS (fun hg => ?_) (fun hg => ?_) <;> try simp -implicitDefEqProofs only [hg, Bool.not_true, Bool.not_false]) | (refine gddS (fun hg => ?_) (fun hg => ?_) <;> try simp -implicitDefEqProofs only [hg, Bool.not_true, Bool.not_false]) | ((with_reducible apply And.intro); focus (first | trivial | omega | decide | (simp -implicitDefEqProofs only [maxLen]; omega) | (simp [maxLen, sty_len, nd_len, ndL_len, lnL_len, intsL_len, rvs_len, lensS_len]; done) | (simp [maxLen, sty_len, nd_len, ndL_len, lnL_len, intsL_len, rvs_len, lensS_len]; omega))) | fail)
          exact hN2 (i + 1) _ _ (by omega) (by omega) (ent_env (by simp [lk]))
        · have hi4 : i = (memF l k).length := by simp at hg; omega
          subst hi4
          simp -implicitDefEqProofs only [go_sem, ↓reduceIte, Nat.reduceEqDiff, Nat.reduceAdd, Nat.reduceSub, Nat.reduceMul, Nat.reduceLeDiff, Nat.reduceLT, reduceCtorEq, Int.reduceToNat]
          refine hX2 _ _ _ ?_
          rw [List.take_length, cntL_next]
          repeat' (first | (simp -implicitDefEqProofs only [go_sem, ↓reduceIte, Nat.reduceEqDiff, Nat.reduceAdd, Nat.reduceSub, Nat.reduceMul, Nat.reduceLeDiff, Nat.reduceLT, reduceCtorEq, Int.reduceToNat, lp]) | (with_reducible refine g_noent ?_) | (refine cdS (fun hg => ?_) (fun hg => ?_) <;> try simp -implicitDefEqProofs only [hg, Bool.not_true, Bool.not_false]) | (refine gdS (fun hg => ?_) (fun hg => ?_) <;> try simp -implicitDefEqProofs only [hg, Bool.not_true, Bool.not_false]) | (refine gddS (fun hg => ?_) (fun hg => ?_) <;> try simp -implicitDefEqProofs only [hg, Bool.not_true, Bool.not_false]) | ((with_reducible apply And.intro); focus (first | trivial | omega | decide | (simp -implicitDefEqProofs only [maxLen]; omega) | (simp [maxLen, sty_len, nd_len, ndL_len, lnL_len, intsL_len, rvs_len, lensS_len]; done) | (simp [maxLen, sty_len, nd_len, ndL_len, lnL_len, intsL_len, rvs_len, lensS_len]; omega))) | fail)
          refine g_loop (ι := Nat) (fun i => [(69, .rv (.int .i64 i)), (68, .rv (.int .i64 (partF l k).length)), (9, .rv (.sl 1 (intsL (natsI (partF l k))))), (43, .rv (.int .i64 k)), (42, .rv (.int .i64 l.length)), (5, .row 0 0 l.length), (6, .row 1 0 l.length), (3, .rv (kinV l)), (4, .rv (.int .i64 0)), (0, .rv (.sl 49 (ndL l)))]) (fun i => [some (.row 1 0 (rvs (intsL (cntL l.length (memF l) (k + 1) [])))), some (.row 1 0 (rvs (intsL (cntL l.length (partF l) k ((partF l k).take i)))))]) (fun i => i ≤ (partF l k).length) (fun i => (partF l k).length - i) 0 (by simp) (ent_env (by simp [lk])) (fun i hi K2 hN2 hX2 hR2 => ?_)
          simp -implicitDefEqProofs only [go_sem, ↓reduceIte, Nat.reduceEqDiff, Nat.reduceAdd, Nat.reduceSub, Nat.reduceMul, Nat.reduceLeDiff, Nat.reduceLT, reduceCtorEq, Int.reduceToNat]
          refine cdS (fun hg => ?_) (fun hg => ?_)
          · have hi4 : i < (partF l k).length := by simp at hg; omega
            have hx := intsL_get (l := natsI (partF l k)) (i := i) (by rw [natsI_len]; exact hi4)
            rw [show (natsI (partF l k))[i]'(by rw [natsI_len]; exact hi4) = (((partF l k)[i]'hi4 : Nat) : Int) by simp [natsI]] at hx
            have hlt := partF_lt (List.getElem_mem hi4)
            have hc1 := cntL_get (f := partF l) (k := k) (xs := (partF l k).take i) hlt
            have hc2 := cntL_set (f := partF l) (k := k) (xs := (partF l k).take i) hlt
            have hc3 := cntL_len (L := l.length) (f := partF l) (k := k) (xs := (partF l k).take i)
            have ht1 : (partF l k).take i ++ [(partF l k)[i]'hi4] = (partF l k).take (i + 1) := (List.take_succ_eq_append_getElem hi4).symm
            rw [ht1] at hc2
            have hsm := cnt_small (i := i) (m := (partF l k)[i]'hi4) (by omega) (Nat.le_of_lt hk4) (partF_len (l := l))
            have wu := wrap_up (k := i) (by omega)
            have wc := wrap_up (k := cntB (partF l) k ((partF l k)[i]'hi4) + ((partF l k).take i).count ((partF l k)[i]'hi4)) (by omega)
            repeat' (first | (simp -implicitDefEqProofs only [go_sem, ↓reduceIte, Nat.reduceEqDiff, Nat.reduceAdd, Nat.reduceSub, Nat.reduceMul, Nat.reduceLeDiff, Nat.reduceLT, reduceCtorEq, Int.reduceToNat, lp, hx, hc1, hc2, hc3, rvs_set1, wu, wc]) | (with_reducible refine g_noent ?_) | (refine cdS (fun hg => ?_) (fun hg => ?_) <;> try simp -implicitDefEqProofs only [hg, Bool.not_true, Bool.not_false]) | (refine gdS (fun hg => ?_) (fun hg => ?_) <;> try simp -implicitDefEqProofs only [hg, Bool.not_true, Bool.not_false]) | (refine gddS (fun hg => ?_) (fun hg => ?_) <;> try simp -implicitDefEqProofs only [hg, Bool.not_true, Bool.not_false]) | ((with_reducible apply And.intro); focus (first | trivial | omega | decide | (simp -implicitDefEqProofs only [maxLen]; omega) | (simp [maxLen, sty_len, nd_len, ndL_len, lnL_len, intsL_len, rvs_len, lensS_len]; done) | (simp [maxLen, sty_len, nd_len, ndL_len, lnL_len, intsL_len, rvs_len, lensS_len]; omega))) | fail)
            exact hN2 (i + 1) _ _ (by omega) (by omega) (ent_env (by simp [lk]))
          · have hi4 : i = (partF l k).length := by simp at hg; omega
            subst hi4
            simp -implicitDefEqProofs only [go_sem, ↓reduceIte, Nat.reduceEqDiff, Nat.reduceAdd, Nat.reduceSub, Nat.reduceMul, Nat.reduceLeDiff, Nat.reduceLT, reduceCtorEq, Int.reduceToNat]
            refine hX2 _ _ _ ?_
            rw [List.take_length, cntL_next]
            have wu := wrap_up (k := k) (by omega)
            repeat' (first | (simp -implicitDefEqProofs only [go_sem, ↓reduceIte, Nat.reduceEqDiff, Nat.reduceAdd, Nat.reduceSub, Nat.reduceMul, Nat.reduceLeDiff, Nat.reduceLT, reduceCtorEq, Int.reduceToNat, wu]) | (with_reducible refine g_noent ?_) | (refine cdS (fun hg => ?_) (fun hg => ?_) <;> try simp -implicitDefEqProofs only [hg, Bool.not_true, Bool.not_false]) | (refine gdS (fun hg => ?_) (fun hg => ?_) <;> try simp -implicitDefEqProofs only [hg, Bool.not_true, Bool.not_false]) | (refine gddS (fun hg => ?_) (fun hg => ?_) <;> try simp -implicitDefEqProofs only [hg, Bool.not_true, Bool.not_false]) | ((with_reducible apply And.intro); focus (first | trivial | omega | decide | (simp -implicitDefEqProofs only [maxLen]; omega) | (simp [maxLen, sty_len, nd_len, ndL_len, lnL_len, intsL_len, rvs_len, lensS_len]; done) | (simp [maxLen, sty_len, nd_len, ndL_len, lnL_len, intsL_len, rvs_len, lensS_len]; omega))) | fail)
            exact hN (k + 1) _ _ (by omega) (by omega) (ent_env (by simp [lk]))
      · have hk4 : k = l.length := by simp at hg; omega
        subst hk4
        simp -implicitDefEqProofs only [go_sem, ↓reduceIte, Nat.reduceEqDiff, Nat.reduceAdd, Nat.reduceSub, Nat.reduceMul, Nat.reduceLeDiff, Nat.reduceLT, reduceCtorEq, Int.reduceToNat]
        refine hX _ _ _ ?_
        repeat' (first | (simp -implicitDefEqProofs only [go_sem, ↓reduceIte, Nat.reduceEqDiff, Nat.reduceAdd, Nat.reduceSub, Nat.reduceMul, Nat.reduceLeDiff, Nat.reduceLT, reduceCtorEq, Int.reduceToNat, hlen]) | (with_reducible refine g_noent ?_) | (refine cdS (fun hg => ?_) (fun hg => ?_) <;> try simp -implicitDefEqProofs only [hg, Bool.not_true, Bool.not_false]) | (refine gdS (fun hg => ?_) (fun hg => ?_) <;> try simp -implicitDefEqProofs only [hg, Bool.not_true, Bool.not_false]) | (refine gddS (fun hg => ?_) (fun hg => ?_) <;> try simp -implicitDefEqProofs only [hg, Bool.not_true, Bool.not_false]) | ((with_reducible apply And.intro); focus (first | trivial | omega | decide | (simp -implicitDefEqProofs only [maxLen]; omega) | (simp [maxLen, sty_len, nd_len, ndL_len, lnL_len, intsL_len, rvs_len, lensS_len]; done) | (simp [maxLen, sty_len, nd_len, ndL_len, lnL_len, intsL_len, rvs_len, lensS_len]; omega))) | fail)
        refine g_loop (ι := Nat) (fun k => [(85, .rv (.int .i64 k)), (84, .rv (.int .i64 l.length)), (5, .row 0 0 l.length), (6, .row 1 0 l.length), (3, .rv (kinV l)), (4, .rv (.int .i64 0)), (0, .rv (.sl 49 (ndL l)))]) (fun _ => [some (.row 1 0 (rvs (intsL (cntL l.length (memF l) l.length [])))), some (.row 1 0 (rvs (intsL (cntL l.length (partF l) l.length []))))]) (fun k => k ≤ l.length) (fun k => l.length - k) 0 (by simp) (ent_env (by simp [lk])) (fun k hk K' hN hX hR => ?_)
        simp -implicitDefEqProofs only [go_sem, ↓reduceIte, Nat.reduceEqDiff, Nat.reduceAdd, Nat.reduceSub, Nat.reduceMul, Nat.reduceLeDiff, Nat.reduceLT, reduceCtorEq, Int.reduceToNat]
        refine cdS (fun hg => ?_) (fun hg => ?_)
        · have hk4 : k < l.length := by simp at hg; omega
          have h1 := sp_Made l k
          have h2 := sp_Leads l k
          have wu := wrap_up (k := k) (by omega)
          have hc1 := cntL_get (f := memF l) (k := l.length) (xs := []) hk4
          have hc2 := cntL_get (f := partF l) (k := l.length) (xs := []) hk4
          have hc3 := cntL_len (L := l.length) (f := memF l) (k := l.length) (xs := [])
          have hc4 := cntL_len (L := l.length) (f := partF l) (k := l.length) (xs := [])
          rw [List.count_nil, Nat.add_zero, mem_total hs hk4] at hc1
          rw [List.count_nil, Nat.add_zero, part_total hs hk4] at hc2
          have b0 : (((0 : Nat) : Int) != 0) = false := rfl
          have b1 : (((1 : Nat) : Int) != 1) = false := rfl
          cases hm : madeAt l k with
          | false =>
            have hlf : leadAt l k = false := by simp [leadAt, hm]
            rw [hm] at h1
            rw [hlf] at h2
            simp -implicitDefEqProofs only [hm, hlf, Bool.false_and, Bool.false_eq_true, if_false] at hc1 hc2
            have hcall7 := h1; have hcall8 := h2; repeat' (first | (simp -implicitDefEqProofs only [go_sem, ↓reduceIte, Nat.reduceEqDiff, Nat.reduceAdd, Nat.reduceSub, Nat.reduceMul, Nat.reduceLeDiff, Nat.reduceLT, reduceCtorEq, Int.reduceToNat, hc1, hc2, hc3, hc4, b0, b1, wu]) | (with_reducible refine g_noent ?_) | (with_reducible refine g_call0 hcall7 ?_) | (with_reducible refine g_calld0 hcall7 ?_) | (with_reducible refine g_call0 hcall8 ?_) | (with_reducible refine g_calld0 hcall8 ?_) | (refine cdS (fun hg => ?_) (fun hg => ?_) <;> try simp -implicitDefEqProofs only [hg, Bool.not_true, Bool.not_false]) | (refine gdS (fun hg => ?_) (fun hg => ?_) <;> try simp -implicitDefEqProofs only [hg, Bool.not_true, Bool.not_false]) | (refine gddS (fun hg => ?_) (fun hg => ?_) <;> try simp -implicitDefEqProofs only [hg, Bool.not_true, Bool.not_false]) | ((with_reducible apply And.intro); focus (first | trivial | omega | decide | (simp -implicitDefEqProofs only [maxLen]; omega) | (simp [maxLen, sty_len, nd_len, ndL_len, lnL_len, intsL_len, rvs_len, lensS_len]; done) | (simp [maxLen, sty_len, nd_len, ndL_len, lnL_len, intsL_len, rvs_len, lensS_len]; omega))) | fail)
            exact hN (k + 1) _ _ (by omega) (by omega) (ent_env (by simp [lk]))
          | true =>
            rw [hm] at h1
            cases hl : leadAt l k with
            | false =>
              rw [hl] at h2
              simp -implicitDefEqProofs only [hm, hl, Bool.not_false, Bool.true_and, Bool.false_and, Bool.false_eq_true, if_false, if_true] at hc1 hc2
              have hcall9 := h1; have hcall10 := h2; repeat' (first | (simp -implicitDefEqProofs only [go_sem, ↓reduceIte, Nat.reduceEqDiff, Nat.reduceAdd, Nat.reduceSub, Nat.reduceMul, Nat.reduceLeDiff, Nat.reduceLT, reduceCtorEq, Int.reduceToNat, hc1, hc2, hc3, hc4, b0, b1, wu]) | (with_reducible refine g_noent ?_) | (with_reducible refine g_call0 hcall9 ?_) | (with_reducible refine g_calld0 hcall9 ?_) | (with_reducible refine g_call0 hcall10 ?_) | (with_reducible refine g_calld0 hcall10 ?_) | (refine cdS (fun hg => ?_) (fun hg => ?_) <;> try simp -implicitDefEqProofs only [hg, Bool.not_true, Bool.not_false]) | (refine gdS (fun hg => ?_) (fun hg => ?_) <;> try simp -implicitDefEqProofs only [hg, Bool.not_true, Bool.not_false]) | (refine gddS (fun hg => ?_) (fun hg => ?_) <;> try simp -implicitDefEqProofs only [hg, Bool.not_true, Bool.not_false]) | ((with_reducible apply And.intro); focus (first | trivial | omega | decide | (simp -implicitDefEqProofs only [maxLen]; omega) | (simp [maxLen, sty_len, nd_len, ndL_len, lnL_len, intsL_len, rvs_len, lensS_len]; done) | (simp [maxLen, sty_len, nd_len, ndL_len, lnL_len, intsL_len, rvs_len, lensS_len]; omega))) | fail)
              exact hN (k + 1) _ _ (by omega) (by omega) (ent_env (by simp [lk]))
            | true =>
              rw [hl] at h2
              by_cases h0 : (k : Int) > 0
              · have e5 : decide ((k : Int) > 0) = true := decide_eq_true h0
                simp -implicitDefEqProofs only [hm, hl, e5, Bool.not_true, Bool.and_self, Bool.and_false, Bool.false_eq_true, if_false, if_true] at hc1 hc2
                have hcall11 := h1; have hcall12 := h2; repeat' (first | (simp -implicitDefEqProofs only [go_sem, ↓reduceIte, Nat.reduceEqDiff, Nat.reduceAdd, Nat.reduceSub, Nat.reduceMul, Nat.reduceLeDiff, Nat.reduceLT, reduceCtorEq, Int.reduceToNat, e5, hc1, hc2, hc3, hc4, b0, b1, wu]) | (with_reducible refine g_noent ?_) | (with_reducible refine g_call0 hcall11 ?_) | (with_reducible refine g_calld0 hcall11 ?_) | (with_reducible refine g_call0 hcall12 ?_) | (with_reducible refine g_calld0 hcall12 ?_) | (refine cdS (fun hg => ?_) (fun hg => ?_) <;> try simp -implicitDefEqProofs only [hg, Bool.not_true, Bool.not_false]) | (refine gdS (fun hg => ?_) (fun hg => ?_) <;> try simp -implicitDefEqProofs only [hg, Bool.not_true, Bool.not_false]) | (refine gddS (fun hg => ?_) (fun hg => ?_) <;> try simp -implicitDefEqProofs only [hg, Bool.not_true, Bool.not_false]) | ((with_reducible apply And.intro); focus (first | trivial | omega | decide | (simp -implicitDefEqProofs only [maxLen]; omega) | (simp [maxLen, sty_len, nd_len, ndL_len, lnL_len, intsL_len, rvs_len, lensS_len]; done) | (simp [maxLen, sty_len, nd_len, ndL_len, lnL_len, intsL_len, rvs_len, lensS_len]; omega))) | fail)
                exact hN (k + 1) _ _ (by omega) (by omega) (ent_env (by simp [lk]))
              · have e5 : decide ((k : Int) > 0) = false := decide_eq_false h0
                simp -implicitDefEqProofs only [hm, hl, e5, Bool.not_true, Bool.and_self, Bool.and_false, Bool.false_eq_true, if_false, if_true] at hc1 hc2
                have hcall13 := h1; have hcall14 := h2; repeat' (first | (simp -implicitDefEqProofs only [go_sem, ↓reduceIte, Nat.reduceEqDiff, Nat.reduceAdd, Nat.reduceSub, Nat.reduceMul, Nat.reduceLeDiff, Nat.reduceLT, reduceCtorEq, Int.reduceToNat, e5, hc1, hc2, hc3, hc4, b0, b1, wu]) | (with_reducible refine g_noent ?_) | (with_reducible refine g_call0 hcall13 ?_) | (with_reducible refine g_calld0 hcall13 ?_) | (with_reducible refine g_call0 hcall14 ?_) | (with_reducible refine g_calld0 hcall14 ?_) | (refine cdS (fun hg => ?_) (fun hg => ?_) <;> try simp -implicitDefEqProofs only [hg, Bool.not_true, Bool.not_false]) | (refine gdS (fun hg => ?_) (fun hg => ?_) <;> try simp -implicitDefEqProofs only [hg, Bool.not_true, Bool.not_false]) | (refine gddS (fun hg => ?_) (fun hg => ?_) <;> try simp -implicitDefEqProofs only [hg, Bool.not_true, Bool.not_false]) | ((with_reducible apply And.intro); focus (first | trivial | omega | decide | (simp -implicitDefEqProofs only [maxLen]; omega) | (simp [maxLen, sty_len, nd_len, ndL_len, lnL_len, intsL_len, rvs_len, lensS_len]; done) | (simp [maxLen, sty_len, nd_len, ndL_len, lnL_len, intsL_len, rvs_len, lensS_len]; omega))) | fail)
                exact hN (k + 1) _ _ (by omega) (by omega) (ent_env (by simp [lk]))
        · simp -implicitDefEqProofs only [go_sem, ↓reduceIte, Nat.reduceEqDiff, Nat.reduceAdd, Nat.reduceSub, Nat.reduceMul, Nat.reduceLeDiff, Nat.reduceLT, reduceCtorEq, Int.reduceToNat]
          refine hX _ _ _ ?_
          repeat' (first | (simp -implicitDefEqProofs only [go_sem, ↓reduceIte, Nat.reduceEqDiff, Nat.reduceAdd, Nat.reduceSub, Nat.reduceMul, Nat.reduceLeDiff, Nat.reduceLT, reduceCtorEq, Int.reduceToNat, e01]) | (with_reducible refine g_noent ?_) | (refine cdS (fun hg => ?_) (fun hg => ?_) <;> try simp -implicitDefEqProofs only [hg, Bool.not_true, Bool.not_false]) | (refine gdS (fun hg => ?_) (fun hg => ?_) <;> try simp -implicitDefEqProofs only [hg, Bool.not_true, Bool.not_false]) | (refine gddS (fun hg => ?_) (fun hg => ?_) <;> try simp -implicitDefEqProofs only [hg, Bool.not_true, Bool.not_false]) | ((with_reducible apply And.intro); focus (first | trivial | omega | decide | (simp -implicitDefEqProofs only [maxLen]; omega) | (simp [maxLen, sty_len, nd_len, ndL_len, lnL_len, intsL_len, rvs_len, lensS_len]; done) | (simp [maxLen, sty_len, nd_len, ndL_len, lnL_len, intsL_len, rvs_len, lensS_len]; omega))) | fail)
          exact (hK _ _ (ret_t rfl)).2
    · have e00 : (chk l != 0) = true := by simpa using hc
      have hcall15 := sp_awake23; have hcall16 := hck; repeat' (first | (simp -implicitDefEqProofs only [go_sem, ↓reduceIte, Nat.reduceEqDiff, Nat.reduceAdd, Nat.reduceSub, Nat.reduceMul, Nat.reduceLeDiff, Nat.reduceLT, reduceCtorEq, Int.reduceToNat, hlen, e1, e00]) | (with_reducible refine g_noent ?_) | (with_reducible refine g_call0 hcall15 ?_) | (with_reducible refine g_calld0 hcall15 ?_) | (with_reducible refine g_call0 hcall16 ?_) | (with_reducible refine g_calld0 hcall16 ?_) | (refine cdS (fun hg => ?_) (fun hg => ?_) <;> try simp -implicitDefEqProofs only [hg, Bool.not_true, Bool.not_false]) | (refine gdS (fun hg => ?_) (fun hg => ?_) <;> try simp -implicitDefEqProofs only [hg, Bool.not_true, Bool.not_false]) | (refine gddS (fun hg => ?_) (fun hg => ?_) <;> try simp -implicitDefEqProofs only [hg, Bool.not_true, Bool.not_false]) | ((with_reducible apply And.intro); focus (first | trivial | omega | decide | (simp -implicitDefEqProofs only [maxLen]; omega) | (simp [maxLen, sty_len, nd_len, ndL_len, lnL_len, intsL_len, rvs_len, lensS_len]; done) | (simp [maxLen, sty_len, nd_len, ndL_len, lnL_len, intsL_len, rvs_len, lensS_len]; omega))) | fail)
      exact (hK _ _ (ret_t rfl)).2
end Go.Eng

/- What comes in, as nodes and numbers. -/
namespace Go.Eng
open Go Go.Proofs

theorem tyInt {n : Nat} {rs : List RV} (h : TyC Go.Proofs.Try.prog (n + 1) 3 rs) : ∃ i, rs = [.int .i64 i] := by
  obtain ⟨i, h, _⟩ := tyC_int Try.underlying3 h
  exact ⟨i, h⟩
theorem tyInt64 {n : Nat} {rs : List RV} (h : TyC Go.Proofs.Try.prog (n + 1) 2 rs) : ∃ i, rs = [.int .i64 i] := by
  obtain ⟨i, h, _⟩ := tyC_int Try.underlying2 h
  exact ⟨i, h⟩
theorem tyBool {n : Nat} {rs : List RV} (h : TyC Go.Proofs.Try.prog (n + 1) 4 rs) : ∃ b, rs = [.bool b] := by
  exact tyC_bool Try.underlying4 h
theorem tyLen {n : Nat} {rs : List RV} (h : TyC Go.Proofs.Try.prog (n + 2) 36 rs) : ∃ x : Ln, rs = x.cells := by
  have h := tyC_struct Try.underlying36 h
  obtain ⟨_, _, rfl, h1, _, _, rfl, h2, rfl⟩ := h
  obtain ⟨i, rfl⟩ := tyInt h1
  obtain ⟨j, rfl⟩ := tyInt64 h2
  exact ⟨⟨i, j⟩, rfl⟩
theorem list4 {α : Type} {xs : List α} (h : xs.length = 4) : ∃ a b c d, xs = [a, b, c, d] := by
  match xs, h with
  | [a, b, c, d], _ => exact ⟨a, b, c, d, rfl⟩
theorem tyQ {n : Nat} {rs : List RV} (h : TyC Go.Proofs.Try.prog (n + 3) 37 rs) : ∃ q : Q4 Ln, rs = q.lns := by
  obtain ⟨xs, rfl, hl, hx⟩ := tyC_array Try.underlying37 h
  obtain ⟨a, b, c, d, rfl⟩ := list4 hl
  obtain ⟨a, rfl⟩ := tyLen (hx a (by simp))
  obtain ⟨b, rfl⟩ := tyLen (hx b (by simp))
  obtain ⟨c, rfl⟩ := tyLen (hx c (by simp))
  obtain ⟨d, rfl⟩ := tyLen (hx d (by simp))
  exact ⟨⟨a, b, c, d⟩, rfl⟩
theorem tyB {n : Nat} {rs : List RV} (h : TyC Go.Proofs.Try.prog (n + 2) 38 rs) : ∃ q : Q4 Int, rs = q.ints := by
  obtain ⟨xs, rfl, hl, hx⟩ := tyC_array Try.underlying38 h
  obtain ⟨a, b, c, d, rfl⟩ := list4 hl
  obtain ⟨a, rfl⟩ := tyInt64 (hx a (by simp))
  obtain ⟨b, rfl⟩ := tyInt64 (hx b (by simp))
  obtain ⟨c, rfl⟩ := tyInt64 (hx c (by simp))
  obtain ⟨d, rfl⟩ := tyInt64 (hx d (by simp))
  exact ⟨⟨a, b, c, d⟩, rfl⟩
theorem tySty {n : Nat} {rs : List RV} (h : TyC Go.Proofs.Try.prog (n + 4) 40 rs) : ∃ s : Sty, rs = s.cells := by
  have h := tyC_struct Try.underlying40 h
  obtain ⟨_, _, rfl, h1, _, _, rfl, h2, _, _, rfl, h3, _, _, rfl, h4, _, _, rfl, h5, _, _, rfl, h6, _, _, rfl, h7, _, _, rfl, h8, _, _, rfl, h9, _, _, rfl, h10, _, _, rfl, h11, _, _, rfl, h12, _, _, rfl, h13, _, _, rfl, h14, _, _, rfl, h15, _, _, rfl, h16, _, _, rfl, h17, _, _, rfl, h18, rfl⟩ := h
  obtain ⟨b1, rfl⟩ := tyBool h1
  obtain ⟨i2, rfl⟩ := tyInt h2
  obtain ⟨q3, rfl⟩ := tyQ h3
  obtain ⟨x4, rfl⟩ := tyLen h4
  obtain ⟨x5, rfl⟩ := tyLen h5
  obtain ⟨x6, rfl⟩ := tyLen h6
  obtain ⟨x7, rfl⟩ := tyLen h7
  obtain ⟨x8, rfl⟩ := tyLen h8
  obtain ⟨x9, rfl⟩ := tyLen h9
  obtain ⟨q10, rfl⟩ := tyQ h10
  obtain ⟨q11, rfl⟩ := tyQ h11
  obtain ⟨q12, rfl⟩ := tyB h12
  obtain ⟨b13, rfl⟩ := tyBool h13
  obtain ⟨b14, rfl⟩ := tyBool h14
  obtain ⟨i15, rfl⟩ := tyInt64 h15
  obtain ⟨b16, rfl⟩ := tyBool h16
  obtain ⟨i17, rfl⟩ := tyInt64 h17
  obtain ⟨i18, rfl⟩ := tyInt64 h18
  exact ⟨⟨b1, i2, q3, x4, x5, x6, x7, x8, x9, q10, q11, q12, b13, b14, i15, b16, i17, i18⟩, rfl⟩
theorem tyNode {n : Nat} {rs : List RV} (h : TyC Go.Proofs.Try.prog (n + 5) 42 rs) : ∃ x : Nd, rs = x.cells := by
  have h := tyC_struct Try.underlying42 h
  obtain ⟨_, _, rfl, h1, _, _, rfl, h2, rfl⟩ := h
  obtain ⟨s, rfl⟩ := tySty h1
  obtain ⟨i, rfl⟩ := tyInt h2
  exact ⟨⟨s, i⟩, rfl⟩
theorem list_of {α : Type} {f : α → List RV} : ∀ {xs : List (List RV)}, (∀ x ∈ xs, ∃ a, x = f a) → ∃ l : List α, xs = l.map f
  | [], _ => ⟨[], rfl⟩
  | x :: xs, h => by
    obtain ⟨a, rfl⟩ := h x (by simp)
    obtain ⟨l, rfl⟩ := list_of (xs := xs) fun y hy => h y (by simp [hy])
    exact ⟨a :: l, rfl⟩

theorem cells49 : Program.cellsOf Go.Proofs.Try.prog 42 = 49 := by kernel_rfl
theorem aggN : aggT Go.Proofs.Try.prog 22 = some false := by kernel_rfl
theorem aggI : aggT Go.Proofs.Try.prog 3 = some false := by kernel_rfl

theorem openNodes {rs : List RV} (h : TyC Go.Proofs.Try.prog 6 22 rs) : ∃ l : List Nd, argS Go.Proofs.Try.prog 22 rs = .rv (.sl 49 (ndL l)) := by
  obtain ⟨xs, rfl, _, hx⟩ := tyC_slice Try.underlying22 h
  obtain ⟨l, rfl⟩ := list_of fun x hx' => tyNode (hx x hx')
  refine ⟨l, ?_⟩
  rw [argS_one aggN, cells49]; rfl
theorem openInt {rs : List RV} (h : TyC Go.Proofs.Try.prog 1 3 rs) : ∃ i : Int, argS Go.Proofs.Try.prog 3 rs = .rv (.int .i64 i) := by
  obtain ⟨i, rfl⟩ := tyInt h
  exact ⟨i, argS_one aggI⟩
end Go.Eng
