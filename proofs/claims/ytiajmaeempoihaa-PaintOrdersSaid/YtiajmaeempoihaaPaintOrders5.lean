/- Part 5 of the proof: R1, R2, R3, V1, V2, EngZe, EngZf, V3, V4, V5, Q1, Q2. -/
import Derived.Test.YtiajmaeempoihaaPaintOrders4
import Derived.KernelRfl
set_option linter.unusedSimpArgs false
set_option linter.unusedVariables false

/- rank: steps and their order. -/
namespace Go.Eng
open Go
/- cmp.isNaN[int] -/
def c_cmp_isNaN_int : AC := (.seq (.reg [⟨(some 2), .mv, [(.c (.rv (.bool false)))], none⟩]) (.seq (.reg [⟨(some 3), .mv, [(.t 0)], none⟩, ⟨(some 4), .mv, [(.t 0)], none⟩, ⟨(some 5), (.ibin .neq), [(.t 3), (.t 4)], none⟩, ⟨(some 2), .mv, [(.t 5)], none⟩]) .ret))
theorem k_cmp_isNaN_int : FnOK Go.Proofs.Try.prog 145 6 c_cmp_isNaN_int [(.t 2)] := fnOK_of (by kernel_rfl)

/- cmp.isNaN[int64] -/
def c_cmp_isNaN_int64 : AC := (.seq (.reg [⟨(some 2), .mv, [(.c (.rv (.bool false)))], none⟩]) (.seq (.reg [⟨(some 3), .mv, [(.t 0)], none⟩, ⟨(some 4), .mv, [(.t 0)], none⟩, ⟨(some 5), (.ibin .neq), [(.t 3), (.t 4)], none⟩, ⟨(some 2), .mv, [(.t 5)], none⟩]) .ret))
theorem k_cmp_isNaN_int64 : FnOK Go.Proofs.Try.prog 144 6 c_cmp_isNaN_int64 [(.t 2)] := fnOK_of (by kernel_rfl)

/- cmp.Compare[int] -/
def c_cmp_Compare_int : AC := (.seq (.reg [⟨(some 4), .mv, [(.c (.rv (.int .i64 0)))], none⟩]) (.seq (.reg [⟨(some 7), .mv, [(.t 0)], none⟩, ⟨(some 8), (.call 145), [(.t 7)], none⟩, ⟨(some 5), .mv, [(.t 8)], none⟩]) (.seq (.reg [⟨(some 9), .mv, [(.t 1)], none⟩, ⟨(some 10), (.call 145), [(.t 9)], none⟩, ⟨(some 6), .mv, [(.t 10)], none⟩]) (.seq (.seq (.reg [⟨(some 11), .mv, [(.t 5)], none⟩]) (.cond (.t 11) (.seq (.seq (.reg [⟨(some 12), .mv, [(.t 6)], none⟩]) (.cond (.t 12) (.seq (.reg [⟨(some 4), .mv, [(.c (.rv (.int .i64 0)))], none⟩]) .ret) .skip)) (.seq (.reg [⟨(some 4), .mv, [(.c (.rv (.int .i64 (-1))))], none⟩]) .ret)) .skip)) (.seq (.seq (.reg [⟨(some 13), .mv, [(.t 6)], none⟩]) (.cond (.t 13) (.seq (.reg [⟨(some 4), .mv, [(.c (.rv (.int .i64 1)))], none⟩]) .ret) .skip)) (.seq (.seq (.reg [⟨(some 14), .mv, [(.t 0)], none⟩, ⟨(some 15), .mv, [(.t 1)], none⟩, ⟨(some 16), (.ibin .lss), [(.t 14), (.t 15)], none⟩]) (.cond (.t 16) (.seq (.reg [⟨(some 4), .mv, [(.c (.rv (.int .i64 (-1))))], none⟩]) .ret) .skip)) (.seq (.seq (.reg [⟨(some 17), .mv, [(.t 0)], none⟩, ⟨(some 18), .mv, [(.t 1)], none⟩, ⟨(some 19), (.ibin .gtr), [(.t 17), (.t 18)], none⟩]) (.cond (.t 19) (.seq (.reg [⟨(some 4), .mv, [(.c (.rv (.int .i64 1)))], none⟩]) .ret) .skip)) (.seq (.reg [⟨(some 4), .mv, [(.c (.rv (.int .i64 0)))], none⟩]) .ret))))))))
theorem k_cmp_Compare_int : FnOK Go.Proofs.Try.prog 143 20 c_cmp_Compare_int [(.t 4)] := fnOK_of (by kernel_rfl)

/- cmp.Compare[int64] -/
def c_cmp_Compare_int64 : AC := (.seq (.reg [⟨(some 4), .mv, [(.c (.rv (.int .i64 0)))], none⟩]) (.seq (.reg [⟨(some 7), .mv, [(.t 0)], none⟩, ⟨(some 8), (.call 144), [(.t 7)], none⟩, ⟨(some 5), .mv, [(.t 8)], none⟩]) (.seq (.reg [⟨(some 9), .mv, [(.t 1)], none⟩, ⟨(some 10), (.call 144), [(.t 9)], none⟩, ⟨(some 6), .mv, [(.t 10)], none⟩]) (.seq (.seq (.reg [⟨(some 11), .mv, [(.t 5)], none⟩]) (.cond (.t 11) (.seq (.seq (.reg [⟨(some 12), .mv, [(.t 6)], none⟩]) (.cond (.t 12) (.seq (.reg [⟨(some 4), .mv, [(.c (.rv (.int .i64 0)))], none⟩]) .ret) .skip)) (.seq (.reg [⟨(some 4), .mv, [(.c (.rv (.int .i64 (-1))))], none⟩]) .ret)) .skip)) (.seq (.seq (.reg [⟨(some 13), .mv, [(.t 6)], none⟩]) (.cond (.t 13) (.seq (.reg [⟨(some 4), .mv, [(.c (.rv (.int .i64 1)))], none⟩]) .ret) .skip)) (.seq (.seq (.reg [⟨(some 14), .mv, [(.t 0)], none⟩, ⟨(some 15), .mv, [(.t 1)], none⟩, ⟨(some 16), (.ibin .lss), [(.t 14), (.t 15)], none⟩]) (.cond (.t 16) (.seq (.reg [⟨(some 4), .mv, [(.c (.rv (.int .i64 (-1))))], none⟩]) .ret) .skip)) (.seq (.seq (.reg [⟨(some 17), .mv, [(.t 0)], none⟩, ⟨(some 18), .mv, [(.t 1)], none⟩, ⟨(some 19), (.ibin .gtr), [(.t 17), (.t 18)], none⟩]) (.cond (.t 19) (.seq (.reg [⟨(some 4), .mv, [(.c (.rv (.int .i64 1)))], none⟩]) .ret) .skip)) (.seq (.reg [⟨(some 4), .mv, [(.c (.rv (.int .i64 0)))], none⟩]) .ret))))))))
theorem k_cmp_Compare_int64 : FnOK Go.Proofs.Try.prog 142 20 c_cmp_Compare_int64 [(.t 4)] := fnOK_of (by kernel_rfl)

/- cmp.Or[int] -/
def c_cmp_Or_int : AC := (.seq (.reg [⟨(some 2), .mv, [(.c (.rv (.int .i64 0)))], none⟩]) (.seq (.reg [⟨(some 3), .mv, [(.c (.rv (.int .i64 0)))], none⟩]) (.seq (.seq (.reg [⟨(some 6), .mv, [(.t 0)], none⟩, ⟨(some 7), .len, [(.t 6)], none⟩, ⟨(some 8), .mv, [(.c (.rv (.int .i64 0)))], none⟩]) (.seq (.block 0 (.loop (.seq (.reg [⟨(some 9), (.ibin .lss), [(.t 8), (.t 7)], none⟩]) (.seq (.cond (.t 9) .skip (.exit 0)) (.seq (.seq (.block 1 (.seq (.reg [⟨(some 10), (.ixs 1), [(.t 6), (.t 8)], none⟩, ⟨(some 11), (.load 1 false), [(.t 10)], none⟩, ⟨(some 5), .mv, [(.t 11)], none⟩]) (.seq (.reg [⟨(some 12), .mv, [(.t 5)], none⟩, ⟨(some 13), .mv, [(.t 3)], none⟩, ⟨(some 14), (.ibin .neq), [(.t 12), (.t 13)], none⟩]) (.cond (.t 14) (.seq (.reg [⟨(some 15), .mv, [(.t 5)], none⟩, ⟨(some 2), .mv, [(.t 15)], none⟩]) .ret) .skip)))) .ent) (.reg [⟨(some 16), (.ibin .add), [(.t 8), (.c (.rv (.int .i64 1)))], none⟩, ⟨(some 8), .mv, [(.t 16)], none⟩])))))) .ent)) (.seq (.reg [⟨(some 17), .mv, [(.t 3)], none⟩, ⟨(some 2), .mv, [(.t 17)], none⟩]) .ret))))
theorem k_cmp_Or_int : FnOK Go.Proofs.Try.prog 141 18 c_cmp_Or_int [(.t 2)] := fnOK_of (by kernel_rfl)

/- decoupage/decoupageref24.step -/
def c_decoupageref24_step : AC := (.seq (.reg [⟨(some 4), (.alloc [(.int .i64 0), (.int .i64 0), (.int .i64 0)]), [], none⟩]) (.seq (.reg [⟨(some 5), .mv, [(.c (.rv (.int .i64 0)))], none⟩]) (.seq (.seq (.reg [⟨(some 7), .mv, [(.t 0)], none⟩, ⟨(some 8), .mv, [(.t 1)], none⟩, ⟨(some 9), (.call 115), [(.t 7), (.t 8)], none⟩]) (.seq (.cond (.t 9) (.reg [⟨(some 10), .mv, [(.t 0)], none⟩, ⟨(some 11), .mv, [(.t 1)], none⟩, ⟨(some 12), (.ixs 49), [(.t 10), (.t 11)], none⟩, ⟨(some 13), (.fld 0), [(.t 12)], none⟩, ⟨(some 14), (.fld 44), [(.t 13)], none⟩, ⟨(some 15), (.load 1 false), [(.t 14)], none⟩, ⟨(some 5), .mv, [(.t 15)], none⟩]) .skip) .ent)) (.seq (.reg [⟨(some 6), .mv, [(.c (.rv (.int .i64 3)))], none⟩]) (.seq (.seq (.reg [⟨(some 16), .mv, [(.t 5)], none⟩, ⟨(some 17), (.ibin .lss), [(.t 16), (.c (.rv (.int .i64 0)))], none⟩]) (.seq (.cond (.t 17) (.reg [⟨(some 6), .mv, [(.c (.rv (.int .i64 1)))], none⟩]) .skip) .ent)) (.seq (.seq (.reg [⟨(some 18), .mv, [(.t 5)], none⟩, ⟨(some 19), (.ibin .gtr), [(.t 18), (.c (.rv (.int .i64 0)))], none⟩]) (.seq (.cond (.t 19) (.reg [⟨(some 6), .mv, [(.c (.rv (.int .i64 4)))], none⟩]) .skip) .ent)) (.seq (.reg [⟨(some 20), .mv, [(.t 6)], none⟩, ⟨(some 21), .mv, [(.t 5)], none⟩, ⟨(some 22), .mv, [(.t 1)], none⟩, ⟨(some 23), (.build [(.int .i64 0), (.int .i64 0), (.int .i64 0)] [(0, 1), (1, 1), (2, 1)]), [(.t 20), (.t 21), (.t 22)], none⟩, ⟨none, (.store 3), [(.t 4), (.t 23)], none⟩]) .ret)))))))
theorem k_decoupageref24_step : FnOK Go.Proofs.Try.prog 103 24 c_decoupageref24_step [(.c 4 3 true)] := fnOK_of (by kernel_rfl)

/- decoupage/decoupageref24.less -/
def c_decoupageref24_less : AC := (.seq (.reg [⟨(some 2), .box, [(.t 0)], none⟩, ⟨(some 3), .box, [(.t 1)], none⟩, ⟨(some 4), .mv, [(.c (.rv (.bool false)))], none⟩]) (.seq (.seq (.reg [⟨(some 5), (.fld 0), [(.t 2)], none⟩, ⟨(some 6), (.load 1 false), [(.t 5)], none⟩, ⟨(some 7), (.fld 0), [(.t 3)], none⟩, ⟨(some 8), (.load 1 false), [(.t 7)], none⟩, ⟨(some 9), (.ibin .neq), [(.t 6), (.t 8)], none⟩]) (.cond (.t 9) (.seq (.reg [⟨(some 10), (.fld 0), [(.t 2)], none⟩, ⟨(some 11), (.load 1 false), [(.t 10)], none⟩, ⟨(some 12), (.fld 0), [(.t 3)], none⟩, ⟨(some 13), (.load 1 false), [(.t 12)], none⟩, ⟨(some 14), (.ibin .lss), [(.t 11), (.t 13)], none⟩, ⟨(some 4), .mv, [(.t 14)], none⟩]) .ret) .skip)) (.seq (.seq (.reg [⟨(some 15), (.fld 1), [(.t 2)], none⟩, ⟨(some 16), (.load 1 false), [(.t 15)], none⟩, ⟨(some 17), (.fld 1), [(.t 3)], none⟩, ⟨(some 18), (.load 1 false), [(.t 17)], none⟩, ⟨(some 19), (.ibin .neq), [(.t 16), (.t 18)], none⟩]) (.cond (.t 19) (.seq (.reg [⟨(some 20), (.fld 1), [(.t 2)], none⟩, ⟨(some 21), (.load 1 false), [(.t 20)], none⟩, ⟨(some 22), (.fld 1), [(.t 3)], none⟩, ⟨(some 23), (.load 1 false), [(.t 22)], none⟩, ⟨(some 24), (.ibin .lss), [(.t 21), (.t 23)], none⟩, ⟨(some 4), .mv, [(.t 24)], none⟩]) .ret) .skip)) (.seq (.reg [⟨(some 25), (.fld 2), [(.t 2)], none⟩, ⟨(some 26), (.load 1 false), [(.t 25)], none⟩, ⟨(some 27), (.fld 2), [(.t 3)], none⟩, ⟨(some 28), (.load 1 false), [(.t 27)], none⟩, ⟨(some 29), (.ibin .lss), [(.t 26), (.t 28)], none⟩, ⟨(some 4), .mv, [(.t 29)], none⟩]) .ret))))
theorem k_decoupageref24_less : FnOK Go.Proofs.Try.prog 74 30 c_decoupageref24_less [(.t 4)] := fnOK_of (by kernel_rfl)


def orI : List Int → Int
  | [] => 0
  | a :: r => if a ≠ 0 then a else orI r
theorem sty_z {s : Sty} (h : styOK s = true) (hz : s.hasZ = false) : s.z = 0 := by
  unfold styOK tailOK at h
  simp -implicitDefEqProofs only [Bool.and_eq_true, decide_eq_true_eq, Bool.or_eq_true, hz] at h
  simpa using h.2.2

theorem sp_ref24_step (l : List Nd) (ht : treeOK l = true) (n : Int) (h0 : 0 < n) (hl : leadAt l n = true) : CallR Go.Proofs.Try.prog 103 [.rv (.sl 49 (ndL l)), .rv (.int .i64 n)] [] [] (stepAt l n).sv := by
  refine callR_G k_decoupageref24_step [.rv (.sl 49 (ndL l)), .rv (.int .i64 n)] _ (by simp) (by simp [BkAll, bk_agg, bkAll_map, bk_rv, bk_fn, Sty.sv, Ln.sv, Nd.sv]) (fun K hK => ?_)
  have hlen := ndL_len l
  have hf := sp_ref23_Forms l ht n
  obtain ⟨k, rfl, hk⟩ := inL_nat (lead_in hl)
  have hx := ndL_get hk
  have hsx : styAt l k = (l[k]'hk).s := by simp [styAt, inL_of hk, hk]
  have hp : ((l[k]'hk).cells.drop 44)[0]? = some (.int .i64 (l[k]'hk).s.z) := rfl
  have hk0 : ((k : Int) == 0) = false := by simp; omega
  simp -implicitDefEqProofs only [c_decoupageref24_step, go_sem]
  cases hz : formAt l k with
  | false =>
    rw [hz] at hf
    have hs0 : (l[k]'hk).s.z = 0 := by
      refine sty_z (tree_sty ht hk) ?_
      simp -implicitDefEqProofs only [formAt, hl, hk0, hsx, Bool.true_and, Bool.false_or] at hz
      exact hz
    have e1 : decide ((0 : Int) < 0) = false := rfl
    have e2 : decide ((0 : Int) > 0) = false := rfl
    have y_13 := hf; repeat' (first | (simp -implicitDefEqProofs only [go_sem, e1, e2]) | (with_reducible refine g_noent ?_) | (with_reducible first | refine g_call0 y_13 ?_ | refine g_calld0 y_13 ?_) | ((first | refine cdS (fun hg => ?_) (fun hg => ?_) | refine gdS (fun hg => ?_) (fun hg => ?_) | refine gddS (fun hg => ?_) (fun hg => ?_)) <;> try simp -implicitDefEqProofs only [hg, Bool.not_true, Bool.not_false]) | ((with_reducible apply And.intro); focus (first | trivial | omega | decide | (simp -implicitDefEqProofs only [maxLen]; omega) | (simp [maxLen, sty_len, nd_len, ndL_len, lnL_len, intsL_len, rvs_len, lensS_len] <;> omega))) | fail)
    refine (hK _ _ (ret_c (rs := (stepAt l k).cells) rfl ?_ rfl)).2
    simp -implicitDefEqProofs only [stepAt, hsx, hs0]; rfl
  | true =>
    rw [hz] at hf
    by_cases h1 : (l[k]'hk).s.z < 0
    · have e1 : decide ((l[k]'hk).s.z < 0) = true := decide_eq_true h1
      have e2 : decide ((l[k]'hk).s.z > 0) = false := decide_eq_false (by omega)
      have y_14 := hf; repeat' (first | (simp -implicitDefEqProofs only [go_sem, hlen, hx, nd_len, hp, e1, e2]) | (with_reducible refine g_noent ?_) | (with_reducible first | refine g_call0 y_14 ?_ | refine g_calld0 y_14 ?_) | ((first | refine cdS (fun hg => ?_) (fun hg => ?_) | refine gdS (fun hg => ?_) (fun hg => ?_) | refine gddS (fun hg => ?_) (fun hg => ?_)) <;> try simp -implicitDefEqProofs only [hg, Bool.not_true, Bool.not_false]) | ((with_reducible apply And.intro); focus (first | trivial | omega | decide | (simp -implicitDefEqProofs only [maxLen]; omega) | (simp [maxLen, sty_len, nd_len, ndL_len, lnL_len, intsL_len, rvs_len, lensS_len] <;> omega))) | fail)
      refine (hK _ _ (ret_c (rs := (stepAt l k).cells) rfl ?_ rfl)).2
      simp -implicitDefEqProofs only [stepAt, hsx, if_pos h1]; rfl
    · have e1 : decide ((l[k]'hk).s.z < 0) = false := decide_eq_false h1
      by_cases h2 : (l[k]'hk).s.z > 0
      · have e2 : decide ((l[k]'hk).s.z > 0) = true := decide_eq_true h2
        have y_15 := hf; repeat' (first | (simp -implicitDefEqProofs only [go_sem, hlen, hx, nd_len, hp, e1, e2]) | (with_reducible refine g_noent ?_) | (with_reducible first | refine g_call0 y_15 ?_ | refine g_calld0 y_15 ?_) | ((first | refine cdS (fun hg => ?_) (fun hg => ?_) | refine gdS (fun hg => ?_) (fun hg => ?_) | refine gddS (fun hg => ?_) (fun hg => ?_)) <;> try simp -implicitDefEqProofs only [hg, Bool.not_true, Bool.not_false]) | ((with_reducible apply And.intro); focus (first | trivial | omega | decide | (simp -implicitDefEqProofs only [maxLen]; omega) | (simp [maxLen, sty_len, nd_len, ndL_len, lnL_len, intsL_len, rvs_len, lensS_len] <;> omega))) | fail)
        refine (hK _ _ (ret_c (rs := (stepAt l k).cells) rfl ?_ rfl)).2
        simp -implicitDefEqProofs only [stepAt, hsx, if_neg h1, if_pos h2]; rfl
      · have e2 : decide ((l[k]'hk).s.z > 0) = false := decide_eq_false h2
        have y_16 := hf; repeat' (first | (simp -implicitDefEqProofs only [go_sem, hlen, hx, nd_len, hp, e1, e2]) | (with_reducible refine g_noent ?_) | (with_reducible first | refine g_call0 y_16 ?_ | refine g_calld0 y_16 ?_) | ((first | refine cdS (fun hg => ?_) (fun hg => ?_) | refine gdS (fun hg => ?_) (fun hg => ?_) | refine gddS (fun hg => ?_) (fun hg => ?_)) <;> try simp -implicitDefEqProofs only [hg, Bool.not_true, Bool.not_false]) | ((with_reducible apply And.intro); focus (first | trivial | omega | decide | (simp -implicitDefEqProofs only [maxLen]; omega) | (simp [maxLen, sty_len, nd_len, ndL_len, lnL_len, intsL_len, rvs_len, lensS_len] <;> omega))) | fail)
        refine (hK _ _ (ret_c (rs := (stepAt l k).cells) rfl ?_ rfl)).2
        have hs0 : (l[k]'hk).s.z = 0 := by omega
        simp -implicitDefEqProofs only [stepAt, hsx, hs0]; rfl

theorem sp_ref24_less (a b : Stp) : CallR Go.Proofs.Try.prog 74 [a.sv, b.sv] [] [] (.rv (.bool (decide (cmpT a b < 0)))) := by
  refine callR_G k_decoupageref24_less [a.sv, b.sv] _ (by simp) (by simp [BkAll, bk_agg, bkAll_map, bk_rv, bk_fn, Sty.sv, Ln.sv, Nd.sv]) (fun K hK => ?_)
  simp -implicitDefEqProofs only [c_decoupageref24_less, Stp.sv, Stp.cells, go_sem]
  by_cases h1 : a.layer = b.layer
  · have e1 : (a.layer != b.layer) = false := by simp [h1]
    by_cases h2 : a.z = b.z
    · have e2 : (a.z != b.z) = false := by simp [h2]
      repeat' (first | (simp -implicitDefEqProofs only [go_sem, e1, e2]) | (with_reducible refine g_noent ?_) | ((first | refine cdS (fun hg => ?_) (fun hg => ?_) | refine gdS (fun hg => ?_) (fun hg => ?_) | refine gddS (fun hg => ?_) (fun hg => ?_)) <;> try simp -implicitDefEqProofs only [hg, Bool.not_true, Bool.not_false]) | ((with_reducible apply And.intro); focus (first | trivial | omega | decide | (simp -implicitDefEqProofs only [maxLen]; omega) | (simp [maxLen, sty_len, nd_len, ndL_len, lnL_len, intsL_len, rvs_len, lensS_len] <;> omega))) | fail)
      refine (hK _ _ (ret_t ?_)).2
      simp -implicitDefEqProofs only [cmpT_neg]; simp [h1, h2, lk]
    · have e2 : (a.z != b.z) = true := by simp [h2]
      repeat' (first | (simp -implicitDefEqProofs only [go_sem, e1, e2]) | (with_reducible refine g_noent ?_) | ((first | refine cdS (fun hg => ?_) (fun hg => ?_) | refine gdS (fun hg => ?_) (fun hg => ?_) | refine gddS (fun hg => ?_) (fun hg => ?_)) <;> try simp -implicitDefEqProofs only [hg, Bool.not_true, Bool.not_false]) | ((with_reducible apply And.intro); focus (first | trivial | omega | decide | (simp -implicitDefEqProofs only [maxLen]; omega) | (simp [maxLen, sty_len, nd_len, ndL_len, lnL_len, intsL_len, rvs_len, lensS_len] <;> omega))) | fail)
      refine (hK _ _ (ret_t ?_)).2
      simp -implicitDefEqProofs only [cmpT_neg]; simp [h1, h2, lk]
  · have e1 : (a.layer != b.layer) = true := by simp [h1]
    repeat' (first | (simp -implicitDefEqProofs only [go_sem, e1]) | (with_reducible refine g_noent ?_) | ((first | refine cdS (fun hg => ?_) (fun hg => ?_) | refine gdS (fun hg => ?_) (fun hg => ?_) | refine gddS (fun hg => ?_) (fun hg => ?_)) <;> try simp -implicitDefEqProofs only [hg, Bool.not_true, Bool.not_false]) | ((with_reducible apply And.intro); focus (first | trivial | omega | decide | (simp -implicitDefEqProofs only [maxLen]; omega) | (simp [maxLen, sty_len, nd_len, ndL_len, lnL_len, intsL_len, rvs_len, lensS_len] <;> omega))) | fail)
    refine (hK _ _ (ret_t ?_)).2
    simp -implicitDefEqProofs only [cmpT_neg]; simp [h1, lk]

theorem st_take (x : Stp) : List.take 3 x.cells = x.cells := rfl
theorem st_take2 (x : Stp) : List.take 3 (x.cells.map SV.rv) = x.cells.map SV.rv := rfl
theorem cmpW_drop {x y : List Stp} {i : Nat} (hx : i < x.length) (hy : i < y.length) : cmpW (x.drop i) (y.drop i) = if cmpT x[i] y[i] ≠ 0 then cmpT x[i] y[i] else cmpW (x.drop (i + 1)) (y.drop (i + 1)) := by
  rw [List.drop_eq_getElem_cons hx, List.drop_eq_getElem_cons hy]; rfl
/-- Turned about up to the i-th from either end. -/
def RevTo (y z : List Stp) (i : Nat) : Prop := z.length = y.length ∧ 2 * i ≤ y.length + 1 ∧ ∀ t, (h : t < y.length) → z[t]? = if t < i ∨ y.length ≤ t + i then y[y.length - 1 - t]? else y[t]?
end Go.Eng


/- rank: ways. -/
namespace Go.Eng
open Go
/- decoupage/decoupageref24.contexts -/
def c_decoupageref24_contexts : AC := (.seq (.reg [⟨(some 4), .mv, [(.c (.rv .nilsl))], none⟩]) (.seq (.seq (.reg [⟨(some 5), .mv, [(.t 1)], none⟩, ⟨(some 6), (.ibin .leq), [(.t 5), (.c (.rv (.int .i64 0)))], none⟩]) (.cond (.t 6) (.seq (.reg [⟨(some 4), .mv, [(.c (.rv .nilsl))], none⟩]) .ret) .skip)) (.seq (.reg [⟨(some 7), .mv, [(.t 0)], none⟩, ⟨(some 8), .mv, [(.t 0)], none⟩, ⟨(some 9), .mv, [(.t 1)], none⟩, ⟨(some 10), (.call 102), [(.t 8), (.t 9)], none⟩, ⟨(some 11), (.call 101), [(.t 7), (.t 10)], none⟩, ⟨(some 12), .mv, [(.t 0)], none⟩, ⟨(some 13), .mv, [(.t 1)], none⟩, ⟨(some 14), (.call 103), [(.t 12), (.t 13)], none⟩, ⟨(some 15), (.bsl 3), [(.t 14)], none⟩, ⟨(some 16), (.app 3 24), [(.t 11), (.t 15)], none⟩, ⟨(some 4), .mv, [(.t 16)], none⟩]) .ret)))
theorem k_decoupageref24_contexts : FnOK Go.Proofs.Try.prog 101 17 c_decoupageref24_contexts [(.t 4)] := fnOK_of (by kernel_rfl)

/- decoupage/decoupageref24.Way -/
def c_decoupageref24_Way : AC := (.seq (.reg [⟨(some 4), .mv, [(.c (.rv .nilsl))], none⟩]) (.seq (.seq (.reg [⟨(some 7), .mv, [(.t 0)], none⟩, ⟨(some 8), .mv, [(.t 1)], none⟩, ⟨(some 9), (.call 42), [(.t 7), (.t 8)], none⟩, ⟨(some 10), .not, [(.t 9)], none⟩]) (.cond (.t 10) (.seq (.reg [⟨(some 4), .mv, [(.c (.rv .nilsl))], none⟩]) .ret) .skip)) (.seq (.reg [⟨(some 11), .mv, [(.t 0)], none⟩, ⟨(some 12), .mv, [(.t 1)], none⟩, ⟨(some 13), (.call 100), [(.t 11), (.t 12)], none⟩, ⟨(some 5), .mv, [(.t 13)], none⟩]) (.seq (.reg [⟨(some 14), .mv, [(.t 0)], none⟩, ⟨(some 15), .mv, [(.t 0)], none⟩, ⟨(some 16), .mv, [(.t 5)], none⟩, ⟨(some 17), (.call 102), [(.t 15), (.t 16)], none⟩, ⟨(some 18), (.call 101), [(.t 14), (.t 17)], none⟩, ⟨(some 6), .mv, [(.t 18)], none⟩]) (.seq (.seq (.reg [⟨(some 19), .mv, [(.t 5)], none⟩, ⟨(some 20), (.ibin .gtr), [(.t 19), (.c (.rv (.int .i64 0)))], none⟩]) (.seq (.cond (.t 20) (.reg [⟨(some 21), .mv, [(.t 6)], none⟩, ⟨(some 22), .mv, [(.t 0)], none⟩, ⟨(some 23), .mv, [(.t 5)], none⟩, ⟨(some 24), (.call 103), [(.t 22), (.t 23)], none⟩, ⟨(some 25), (.bsl 3), [(.t 24)], none⟩, ⟨(some 26), (.app 3 24), [(.t 21), (.t 25)], none⟩, ⟨(some 6), .mv, [(.t 26)], none⟩]) .skip) .ent)) (.seq (.seq (.reg [⟨(some 27), .mv, [(.t 5)], none⟩, ⟨(some 28), .mv, [(.t 1)], none⟩, ⟨(some 29), (.ibin .eql), [(.t 27), (.t 28)], none⟩]) (.cond (.t 29) (.seq (.reg [⟨(some 30), .mv, [(.t 6)], none⟩, ⟨(some 31), (.build [(.int .i64 0), (.int .i64 0), (.int .i64 0)] [(0, 1), (1, 1), (2, 1)]), [(.c (.rv (.int .i64 0))), (.c (.rv (.int .i64 0))), (.c (.rv (.int .i64 0)))], none⟩, ⟨(some 32), (.bsl 3), [(.t 31)], none⟩, ⟨(some 33), (.app 3 24), [(.t 30), (.t 32)], none⟩, ⟨(some 4), .mv, [(.t 33)], none⟩]) .ret) .skip)) (.seq (.reg [⟨(some 34), .mv, [(.t 6)], none⟩, ⟨(some 35), .mv, [(.t 1)], none⟩, ⟨(some 36), (.build [(.int .i64 0), (.int .i64 0), (.int .i64 0)] [(0, 1), (1, 1), (2, 1)]), [(.c (.rv (.int .i64 2))), (.c (.rv (.int .i64 0))), (.t 35)], none⟩, ⟨(some 37), (.bsl 3), [(.t 36)], none⟩, ⟨(some 38), (.app 3 24), [(.t 34), (.t 37)], none⟩, ⟨(some 4), .mv, [(.t 38)], none⟩]) .ret)))))))
theorem k_decoupageref24_Way : FnOK Go.Proofs.Try.prog 73 39 c_decoupageref24_Way [(.t 4)] := fnOK_of (by kernel_rfl)


theorem chain_len {l : List Nd} : ∀ m : Nat, ∀ n : Int, n.toNat ≤ m → (chain l n).length ≤ m
  | 0, n, h => by rw [chain_nil (by omega)]; simp
  | m + 1, n, h => by
    by_cases h0 : 0 < n
    · rw [chain_cons h0]
      have := ctx_lt (l := l) h0
      have := chain_len (l := l) m (ctxAt l n) (by omega)
      simp; omega
    · rw [chain_nil h0]; simp
theorem group_le {l : List Nd} {n : Nat} : groupAt l n ≤ n := by
  unfold groupAt
  split
  · rcases fst_cases (leadAt l) (pth l (n : Int).toNat) with ⟨h1, _⟩ | ⟨i, hi, h1, _, _⟩
    · rw [h1]; omega
    · rw [h1]
      simp -implicitDefEqProofs only [Int.toNat_natCast] at hi ⊢
      have := pth_le _ _ (List.getElem_mem hi)
      omega
  · omega
theorem way_len (l : List Nd) (n : Nat) : (wayAt l n).length ≤ n + 1 := by
  unfold wayAt
  split
  · have := chain_len (l := l) n (groupAt l n) (by have := group_le (l := l) (n := n); omega)
    simp [wayRev]; omega
  · simp

theorem stL_one (l : List Stp) : ∀ x ∈ stL l, ∀ r ∈ x, r.one = true := by
  intro x hx r hr
  simp -implicitDefEqProofs only [stL, List.mem_map] at hx
  obtain ⟨y, _, rfl⟩ := hx
  simp -implicitDefEqProofs only [Stp.cells, List.mem_cons, List.not_mem_nil, or_false] at hr
  rcases hr with rfl | rfl | rfl <;> rfl
/-- The steps down to a thing's context and it. -/
def headI (l : List Nd) (n : Int) : List Stp := ((chain l n).map (stepAt l)).reverse
theorem headI_len {l : List Nd} {n : Int} : (headI l n).length ≤ n.toNat := by
  have := chain_len (l := l) n.toNat n (Nat.le_refl _); simp [headI]; exact this
theorem ctx_form {l : List Nd} {n : Int} : ctxAt l n ≤ 0 ∨ leadAt l (ctxAt l n) = true := by
  unfold ctxAt
  split
  · rcases fst_cases (formAt l) (upAt l n) with ⟨h1, _⟩ | ⟨i, hi, h1, h2, _⟩
    · left; rw [h1]; omega
    · right; rw [h1]; exact form_lead h2
  · left; omega
theorem head_cons {l : List Nd} {n : Int} (h : 0 < n) : headI l n = headI l (ctxAt l n) ++ [stepAt l n] := by
  simp [headI, chain_cons h]

theorem stL_app3 {ys : List Stp} {a b c : Int} : rvs (stL ys) ++ [[.rv (.int .i64 a), .rv (.int .i64 b), .rv (.int .i64 c)]] = rvs (stL (ys ++ [⟨a, b, c⟩])) := by simp [rvs, stL, Stp.cells]
theorem sp_contexts (l : List Nd) (ht : treeOK l = true) (hb : l.length ≤ 8589934591) : ∀ (b : Nat) (m : Nat) (n : Int), n.toNat ≤ b → (n ≤ 0 ∨ leadAt l n = true) → CallR Go.Proofs.Try.prog 101 [.rv (.sl 49 (ndL l)), .rv (.int .i64 n)] [] [(m, .row 3 (headI l n).length (rvs (stL (headI l n))))] (.row m (headI l n).length (headI l n).length)
  | b, m, n, hn, hl => by
    by_cases h0 : n ≤ 0
    · refine callR_M k_decoupageref24_contexts [] [] [] [.rv (.sl 49 (ndL l)), .rv (.int .i64 n)] [.rv (.sl 49 (ndL l)), .rv (.int .i64 n)] _ _ (by simp) (by simp [BkAll, bk_rv]) rfl (by simp [nodupL]) (by simp [BkHs]) (fun K hK => ?_)
      simp -implicitDefEqProofs only [c_decoupageref24_contexts, go_sem]
      have e1 : decide (n ≤ 0) = true := decide_eq_true h0
      repeat' (first | (simp -implicitDefEqProofs only [go_sem, e1]) | (with_reducible refine g_noent ?_) | ((first | refine cdS (fun hg => ?_) (fun hg => ?_) | refine gdS (fun hg => ?_) (fun hg => ?_) | refine gddS (fun hg => ?_) (fun hg => ?_)) <;> try simp -implicitDefEqProofs only [hg, Bool.not_true, Bool.not_false]) | ((with_reducible apply And.intro); focus (first | trivial | omega | decide | (simp -implicitDefEqProofs only [maxLen]; omega) | (simp [maxLen, sty_len, nd_len, ndL_len, lnL_len, intsL_len, rvs_len, lensS_len] <;> omega))) | fail)
      refine (hK _ _ _ _ [some m] (ent_ghostv 4 3 0 rfl) ?_).2
      rw [show headI l n = [] by simp [headI, chain_nil (show ¬ 0 < n by omega)]]
      simp [retM, nodupL, newL, allU, keptL, retP, resL, lk, resT, RnHo, lkp, finU, hget_zero, hget_succ, hget, rnRows_rvs, rn_tup, rn_rv, rn_row, rn_ptr, rn_ifc, rn_agg, rn_dead, RnAll, ofL, rnAll_map]
      exact ⟨by simp [rvs, stL], fun i x y hx => by simp at hx⟩
    · match b, hn with
      | 0, hn => omega
      | b + 1, hn =>
        have e1 : decide (n ≤ 0) = false := decide_eq_false h0
        have hlt := ctx_lt (l := l) (n := n) (by omega)
        have ih := sp_contexts l ht hb b 0 (ctxAt l n) (by omega) ctx_form
        have hcx := sp_ref23_Context l ht (by omega) n
        have hl : leadAt l n = true := hl.resolve_left h0
        have hst := sp_ref24_step l ht n (by omega) hl
        have hin := lead_in hl
        have hnl : n.toNat < l.length := by obtain ⟨k, rfl, hk⟩ := inL_nat hin; simpa using hk
        refine callR_M k_decoupageref24_contexts [] [] [] [.rv (.sl 49 (ndL l)), .rv (.int .i64 n)] [.rv (.sl 49 (ndL l)), .rv (.int .i64 n)] _ _ (by simp) (by simp [BkAll, bk_rv]) rfl (by simp [nodupL]) (by simp [BkHs]) (fun K hK => ?_)
        simp -implicitDefEqProofs only [c_decoupageref24_contexts, go_sem]
        have hhl := headI_len (l := l) (n := ctxAt l n)
        have hap := head_cons (l := l) (n := n) (by omega)
        have hal : (headI l n).length = (headI l (ctxAt l n)).length + 1 := by rw [hap]; simp
        have hhx : (headI l (ctxAt l n)).length ≤ 8589934591 := by omega
        generalize hX : headI l (ctxAt l n) = X at ih hap hal hhx
        generalize hY : headI l n = Y at hap hal hK
        generalize hc : ctxAt l n = c at ih hcx
        generalize hs : stepAt l n = s at hst hap
        have htl := stL_len X
        have htk : (stL X).take X.length = stL X := List.take_of_length_le (by omega)
        have y_1 := hcx; repeat' (first | (simp -implicitDefEqProofs only [go_sem, e1]) | (with_reducible refine g_noent ?_) | (with_reducible first | refine g_call0 y_1 ?_ | refine g_calld0 y_1 ?_) | ((first | refine cdS (fun hg => ?_) (fun hg => ?_) | refine gdS (fun hg => ?_) (fun hg => ?_) | refine gddS (fun hg => ?_) (fun hg => ?_)) <;> try simp -implicitDefEqProofs only [hg, Bool.not_true, Bool.not_false]) | ((with_reducible apply And.intro); focus (first | trivial | omega | decide | (simp -implicitDefEqProofs only [maxLen]; omega) | (simp [maxLen, sty_len, nd_len, ndL_len, lnL_len, intsL_len, rvs_len, lensS_len] <;> omega))) | fail)
        refine g_call ih (by simp [PreOK, hget]) (by simp [okU, uph]) ?_
        have y_2 := hst; repeat' (first | (simp -implicitDefEqProofs only [go_sem, htl, htk, stL_app, st_len, st_take, st_take2]) | (with_reducible refine g_noent ?_) | (with_reducible first | refine g_call0 y_2 ?_ | refine g_calld0 y_2 ?_) | ((first | refine cdS (fun hg => ?_) (fun hg => ?_) | refine gdS (fun hg => ?_) (fun hg => ?_) | refine gddS (fun hg => ?_) (fun hg => ?_)) <;> try simp -implicitDefEqProofs only [hg, Bool.not_true, Bool.not_false]) | ((with_reducible apply And.intro); focus (first | trivial | omega | decide | (simp -implicitDefEqProofs only [maxLen]; omega) | (simp [maxLen, sty_len, nd_len, ndL_len, lnL_len, intsL_len, rvs_len, lensS_len] <;> omega))) | fail)
        refine (hK _ _ _ _ [some m] (ent_refl _ _) ?_).2
        subst hap
        simp [retM, nodupL, newL, allU, keptL, retP, resL, lk, resT, RnHo, lkp, finU, hget_zero, hget_succ, hget, rnRows_rvs, rn_tup, rn_rv, rn_row, rn_ptr, rn_ifc, rn_agg, rn_dead, RnAll, ofL, rnAll_map]

theorem sp_ref24_Way (l : List Nd) (ht : treeOK l = true) (hb : l.length ≤ 8589934590) (n : Int) : CallR Go.Proofs.Try.prog 73 [.rv (.sl 49 (ndL l)), .rv (.int .i64 n)] [] [] (.rv (.sl 3 (stL (wayAt l n)))) := by
  have hs := tree_shp ht
  have hm := sp_ref08_Made l ht n
  cases hmm : madeAt l n with
  | false =>
    rw [hmm] at hm
    rw [show wayAt l n = [] by simp [wayAt, hmm]]
    refine callR_nil 3 ?_
    refine callR_G k_decoupageref24_Way [.rv (.sl 49 (ndL l)), .rv (.int .i64 n)] _ (by simp) (by simp [BkAll, bk_agg, bkAll_map, bk_rv, bk_fn, Sty.sv, Ln.sv, Nd.sv]) (fun K hK => ?_)
    simp -implicitDefEqProofs only [c_decoupageref24_Way, go_sem]
    have y_3 := hm; repeat' (first | (simp -implicitDefEqProofs only [go_sem]) | (with_reducible refine g_noent ?_) | (with_reducible first | refine g_call0 y_3 ?_ | refine g_calld0 y_3 ?_) | ((first | refine cdS (fun hg => ?_) (fun hg => ?_) | refine gdS (fun hg => ?_) (fun hg => ?_) | refine gddS (fun hg => ?_) (fun hg => ?_)) <;> try simp -implicitDefEqProofs only [hg, Bool.not_true, Bool.not_false]) | ((with_reducible apply And.intro); focus (first | trivial | omega | decide | (simp -implicitDefEqProofs only [maxLen]; omega) | (simp [maxLen, sty_len, nd_len, ndL_len, lnL_len, intsL_len, rvs_len, lensS_len] <;> omega))) | fail)
    exact (hK _ _ (ret_t rfl)).2
  | true =>
    rw [hmm] at hm
    obtain ⟨k, rfl, hk⟩ := inL_nat (by simp [madeAt] at hmm; exact hmm.1)
    refine callR_G k_decoupageref24_Way [.rv (.sl 49 (ndL l)), .rv (.int .i64 k)] _ (by simp) (by simp [BkAll, bk_agg, bkAll_map, bk_rv, bk_fn, Sty.sv, Ln.sv, Nd.sv]) (fun K hK => ?_)
    obtain ⟨u, hu, hg, hlu⟩ := group_found hs hmm
    have hgr := sp_ref23_Group l ht (by omega) k
    rw [hg] at hgr
    have hcx := sp_ref23_Context l ht (by omega) u
    have hct := sp_contexts l ht (by omega) _ 0 (ctxAt l u) (Nat.le_refl _) ctx_form
    have hwl := way_len l k
    have hv : wayAt l k = headI l (ctxAt l u) ++ (if 0 < u then [stepAt l u] else []) ++ [lastAt l k] := by
      simp -implicitDefEqProofs only [wayAt, hmm, if_true, wayRev, hg, List.reverse_cons]
      congr 1
      by_cases h0 : 0 < u
      · rw [if_pos h0]; exact head_cons (by omega)
      · obtain rfl : u = 0 := by omega
        have hc0 : ctxAt l ((0 : Nat) : Int) ≤ 0 := by
          have : upAt l ((0 : Nat) : Int) = [] := by simp [upAt, pth_zero]
          simp -implicitDefEqProofs only [ctxAt, this]; split <;> simp [fstI]
        rw [chain_nil (by omega), headI, chain_nil (by omega)]; rfl
    have hwl2 := congrArg List.length hv
    rw [hv] at hK
    generalize hX : headI l (ctxAt l u) = X at hct hK hwl2
    generalize hc : ctxAt l u = c at hcx hct
    have htl := stL_len X
    have htk : (stL X).take X.length = stL X := List.take_of_length_le (by omega)
    simp -implicitDefEqProofs only [c_decoupageref24_Way, go_sem]
    by_cases h0 : 0 < u
    · have e1 : decide ((u : Int) > 0) = true := decide_eq_true (by omega)
      have hst := sp_ref24_step l ht u (by omega) hlu
      rw [if_pos h0] at hK hwl2
      simp -implicitDefEqProofs only [List.length_append, List.length_singleton] at hwl2
      generalize hs : stepAt l u = s at hst hK
      have htl2 := stL_len (X ++ [s])
      have htk2 : (stL (X ++ [s])).take (X.length + 1) = stL (X ++ [s]) := List.take_of_length_le (by rw [htl2]; simp)
      by_cases hgk : u = k
      · have hla : lastAt l k = ⟨0, 0, 0⟩ := by unfold lastAt; rw [if_pos (by rw [hg]; exact congrArg _ hgk)]
        have e2 : ((u : Int) == (k : Int)) = true := by simp [hgk]
        have y_4 := hm; have y_5 := hgr; have y_6 := hcx; repeat' (first | (simp -implicitDefEqProofs only [go_sem]) | (with_reducible refine g_noent ?_) | (with_reducible first | refine g_call0 y_4 ?_ | refine g_calld0 y_4 ?_) | (with_reducible first | refine g_call0 y_5 ?_ | refine g_calld0 y_5 ?_) | (with_reducible first | refine g_call0 y_6 ?_ | refine g_calld0 y_6 ?_) | ((first | refine cdS (fun hg => ?_) (fun hg => ?_) | refine gdS (fun hg => ?_) (fun hg => ?_) | refine gddS (fun hg => ?_) (fun hg => ?_)) <;> try simp -implicitDefEqProofs only [hg, Bool.not_true, Bool.not_false]) | ((with_reducible apply And.intro); focus (first | trivial | omega | decide | (simp -implicitDefEqProofs only [maxLen]; omega) | (simp [maxLen, sty_len, nd_len, ndL_len, lnL_len, intsL_len, rvs_len, lensS_len] <;> omega))) | fail)
        refine g_call hct (by simp [PreOK, hget]) (by simp [okU, uph]) ?_
        have y_7 := hst; repeat' (first | (simp -implicitDefEqProofs only [go_sem, e1, e2, htl, htk, stL_app, stL_app3, htl2, htk2, st_len, st_take, st_take2]) | (with_reducible refine g_noent ?_) | (with_reducible first | refine g_call0 y_7 ?_ | refine g_calld0 y_7 ?_) | ((first | refine cdS (fun hg => ?_) (fun hg => ?_) | refine gdS (fun hg => ?_) (fun hg => ?_) | refine gddS (fun hg => ?_) (fun hg => ?_)) <;> try simp -implicitDefEqProofs only [hg, Bool.not_true, Bool.not_false]) | ((with_reducible apply And.intro); focus (first | trivial | omega | decide | (simp -implicitDefEqProofs only [maxLen]; omega) | (simp [maxLen, sty_len, nd_len, ndL_len, lnL_len, intsL_len, rvs_len, lensS_len] <;> omega))) | fail)
        rw [hla] at hK
        exact (hK _ _ ⟨trivial, rn_frz (xs := stL (X ++ [s] ++ [⟨0, 0, 0⟩])) rfl rfl (by simp [stL]) (stL_one _)⟩).2
      · have hla : lastAt l k = ⟨2, 0, k⟩ := by unfold lastAt; rw [if_neg (by rw [hg]; intro h; exact hgk (by omega))]
        have e2 : ((u : Int) == (k : Int)) = false := by simp ; omega
        have y_8 := hm; have y_9 := hgr; have y_10 := hcx; repeat' (first | (simp -implicitDefEqProofs only [go_sem]) | (with_reducible refine g_noent ?_) | (with_reducible first | refine g_call0 y_8 ?_ | refine g_calld0 y_8 ?_) | (with_reducible first | refine g_call0 y_9 ?_ | refine g_calld0 y_9 ?_) | (with_reducible first | refine g_call0 y_10 ?_ | refine g_calld0 y_10 ?_) | ((first | refine cdS (fun hg => ?_) (fun hg => ?_) | refine gdS (fun hg => ?_) (fun hg => ?_) | refine gddS (fun hg => ?_) (fun hg => ?_)) <;> try simp -implicitDefEqProofs only [hg, Bool.not_true, Bool.not_false]) | ((with_reducible apply And.intro); focus (first | trivial | omega | decide | (simp -implicitDefEqProofs only [maxLen]; omega) | (simp [maxLen, sty_len, nd_len, ndL_len, lnL_len, intsL_len, rvs_len, lensS_len] <;> omega))) | fail)
        refine g_call hct (by simp [PreOK, hget]) (by simp [okU, uph]) ?_
        have y_11 := hst; repeat' (first | (simp -implicitDefEqProofs only [go_sem, e1, e2, htl, htk, stL_app, stL_app3, htl2, htk2, st_len, st_take, st_take2]) | (with_reducible refine g_noent ?_) | (with_reducible first | refine g_call0 y_11 ?_ | refine g_calld0 y_11 ?_) | ((first | refine cdS (fun hg => ?_) (fun hg => ?_) | refine gdS (fun hg => ?_) (fun hg => ?_) | refine gddS (fun hg => ?_) (fun hg => ?_)) <;> try simp -implicitDefEqProofs only [hg, Bool.not_true, Bool.not_false]) | ((with_reducible apply And.intro); focus (first | trivial | omega | decide | (simp -implicitDefEqProofs only [maxLen]; omega) | (simp [maxLen, sty_len, nd_len, ndL_len, lnL_len, intsL_len, rvs_len, lensS_len] <;> omega))) | fail)
        rw [hla] at hK
        exact (hK _ _ ⟨trivial, rn_frz (xs := stL (X ++ [s] ++ [⟨2, 0, k⟩])) rfl rfl (by simp [stL]) (stL_one _)⟩).2
    · have e1 : decide ((u : Int) > 0) = false := decide_eq_false (by omega)
      rw [if_neg h0, List.append_nil] at hK
      rw [if_neg h0, List.append_nil] at hwl2
      simp -implicitDefEqProofs only [List.length_append, List.length_singleton] at hwl2
      by_cases hgk : u = k
      · have hla : lastAt l k = ⟨0, 0, 0⟩ := by unfold lastAt; rw [if_pos (by rw [hg]; exact congrArg _ hgk)]
        have e2 : ((u : Int) == (k : Int)) = true := by simp [hgk]
        have y_12 := hm; have y_13 := hgr; have y_14 := hcx; repeat' (first | (simp -implicitDefEqProofs only [go_sem]) | (with_reducible refine g_noent ?_) | (with_reducible first | refine g_call0 y_12 ?_ | refine g_calld0 y_12 ?_) | (with_reducible first | refine g_call0 y_13 ?_ | refine g_calld0 y_13 ?_) | (with_reducible first | refine g_call0 y_14 ?_ | refine g_calld0 y_14 ?_) | ((first | refine cdS (fun hg => ?_) (fun hg => ?_) | refine gdS (fun hg => ?_) (fun hg => ?_) | refine gddS (fun hg => ?_) (fun hg => ?_)) <;> try simp -implicitDefEqProofs only [hg, Bool.not_true, Bool.not_false]) | ((with_reducible apply And.intro); focus (first | trivial | omega | decide | (simp -implicitDefEqProofs only [maxLen]; omega) | (simp [maxLen, sty_len, nd_len, ndL_len, lnL_len, intsL_len, rvs_len, lensS_len] <;> omega))) | fail)
        refine g_call hct (by simp [PreOK, hget]) (by simp [okU, uph]) ?_
        repeat' (first | (simp -implicitDefEqProofs only [go_sem, e1, e2, htl, htk, stL_app, stL_app3, st_len, st_take, st_take2]) | (with_reducible refine g_noent ?_) | ((first | refine cdS (fun hg => ?_) (fun hg => ?_) | refine gdS (fun hg => ?_) (fun hg => ?_) | refine gddS (fun hg => ?_) (fun hg => ?_)) <;> try simp -implicitDefEqProofs only [hg, Bool.not_true, Bool.not_false]) | ((with_reducible apply And.intro); focus (first | trivial | omega | decide | (simp -implicitDefEqProofs only [maxLen]; omega) | (simp [maxLen, sty_len, nd_len, ndL_len, lnL_len, intsL_len, rvs_len, lensS_len] <;> omega))) | fail)
        rw [hla] at hK
        exact (hK _ _ ⟨trivial, rn_frz (xs := stL (X ++ [⟨0, 0, 0⟩])) rfl rfl (by simp [stL]) (stL_one _)⟩).2
      · have hla : lastAt l k = ⟨2, 0, k⟩ := by unfold lastAt; rw [if_neg (by rw [hg]; intro h; exact hgk (by omega))]
        have e2 : ((u : Int) == (k : Int)) = false := by simp ; omega
        have y_15 := hm; have y_16 := hgr; have y_17 := hcx; repeat' (first | (simp -implicitDefEqProofs only [go_sem]) | (with_reducible refine g_noent ?_) | (with_reducible first | refine g_call0 y_15 ?_ | refine g_calld0 y_15 ?_) | (with_reducible first | refine g_call0 y_16 ?_ | refine g_calld0 y_16 ?_) | (with_reducible first | refine g_call0 y_17 ?_ | refine g_calld0 y_17 ?_) | ((first | refine cdS (fun hg => ?_) (fun hg => ?_) | refine gdS (fun hg => ?_) (fun hg => ?_) | refine gddS (fun hg => ?_) (fun hg => ?_)) <;> try simp -implicitDefEqProofs only [hg, Bool.not_true, Bool.not_false]) | ((with_reducible apply And.intro); focus (first | trivial | omega | decide | (simp -implicitDefEqProofs only [maxLen]; omega) | (simp [maxLen, sty_len, nd_len, ndL_len, lnL_len, intsL_len, rvs_len, lensS_len] <;> omega))) | fail)
        refine g_call hct (by simp [PreOK, hget]) (by simp [okU, uph]) ?_
        repeat' (first | (simp -implicitDefEqProofs only [go_sem, e1, e2, htl, htk, stL_app, stL_app3, st_len, st_take, st_take2]) | (with_reducible refine g_noent ?_) | ((first | refine cdS (fun hg => ?_) (fun hg => ?_) | refine gdS (fun hg => ?_) (fun hg => ?_) | refine gddS (fun hg => ?_) (fun hg => ?_)) <;> try simp -implicitDefEqProofs only [hg, Bool.not_true, Bool.not_false]) | ((with_reducible apply And.intro); focus (first | trivial | omega | decide | (simp -implicitDefEqProofs only [maxLen]; omega) | (simp [maxLen, sty_len, nd_len, ndL_len, lnL_len, intsL_len, rvs_len, lensS_len] <;> omega))) | fail)
        rw [hla] at hK
        exact (hK _ _ ⟨trivial, rn_frz (xs := stL (X ++ [⟨2, 0, k⟩])) rfl rfl (by simp [stL]) (stL_one _)⟩).2
end Go.Eng


/- rank: which spot is first; the statements as functions. -/
namespace Go.Eng
open Go
/- decoupage/decoupageref24.Less -/
def c_decoupageref24_Less : AC := (.seq (.reg [⟨(some 4), .box, [(.t 1)], none⟩, ⟨(some 5), .box, [(.t 2)], none⟩, ⟨(some 6), .mv, [(.c (.rv (.bool false)))], none⟩]) (.seq (.seq (.reg [⟨(some 10), .mv, [(.t 0)], none⟩, ⟨(some 11), (.fld 0), [(.t 4)], none⟩, ⟨(some 12), (.load 1 false), [(.t 11)], none⟩, ⟨(some 13), (.call 42), [(.t 10), (.t 12)], none⟩, ⟨(some 14), .not, [(.t 13)], none⟩, ⟨(some 15), .mv, [(.t 14)], none⟩, ⟨(some 16), .mv, [(.t 0)], (some (15, false))⟩, ⟨(some 17), (.fld 0), [(.t 5)], (some (15, false))⟩, ⟨(some 18), (.load 1 false), [(.t 17)], (some (15, false))⟩, ⟨(some 19), (.call 42), [(.t 16), (.t 18)], (some (15, false))⟩, ⟨(some 20), .not, [(.t 19)], (some (15, false))⟩, ⟨(some 21), .pick, [(.t 15), (.c (.rv (.bool true))), (.t 20)], none⟩]) (.cond (.t 21) (.seq (.reg [⟨(some 6), .mv, [(.c (.rv (.bool false)))], none⟩]) .ret) .skip)) (.seq (.seq (.reg [⟨(some 22), (.fld 0), [(.t 4)], none⟩, ⟨(some 23), (.load 1 false), [(.t 22)], none⟩, ⟨(some 24), (.fld 0), [(.t 5)], none⟩, ⟨(some 25), (.load 1 false), [(.t 24)], none⟩, ⟨(some 26), (.ibin .eql), [(.t 23), (.t 25)], none⟩]) (.cond (.t 26) (.seq (.reg [⟨(some 27), (.fld 1), [(.t 4)], none⟩, ⟨(some 28), (.load 1 false), [(.t 27)], none⟩, ⟨(some 29), (.fld 1), [(.t 5)], none⟩, ⟨(some 30), (.load 1 false), [(.t 29)], none⟩, ⟨(some 31), (.ibin .lss), [(.t 28), (.t 30)], none⟩, ⟨(some 6), .mv, [(.t 31)], none⟩]) .ret) .skip)) (.seq (.regd [0, 0, 2, 7, 0, 0, 32, 127, 255, 511] [⟨(some 32), .mv, [(.t 0)], none⟩, ⟨(some 33), (.fld 0), [(.t 4)], none⟩, ⟨(some 34), (.load 1 false), [(.t 33)], none⟩, ⟨(some 35), (.call 73), [(.t 32), (.t 34)], none⟩, ⟨(some 36), .mv, [(.t 0)], none⟩, ⟨(some 37), (.fld 0), [(.t 5)], none⟩, ⟨(some 38), (.load 1 false), [(.t 37)], none⟩, ⟨(some 39), (.call 73), [(.t 36), (.t 38)], none⟩, ⟨(some 7), .mv, [(.t 35)], none⟩, ⟨(some 8), .mv, [(.t 39)], none⟩]) (.seq (.seq (.reg [⟨(some 9), .mv, [(.c (.rv (.int .i64 0)))], none⟩]) (.seq (.block 0 (.loop (.seq (.seq (.reg [⟨(some 40), .mv, [(.t 9)], none⟩, ⟨(some 41), .mv, [(.t 7)], none⟩, ⟨(some 42), .len, [(.t 41)], none⟩, ⟨(some 43), (.ibin .lss), [(.t 40), (.t 42)], none⟩, ⟨(some 44), .mv, [(.t 43)], none⟩, ⟨(some 45), .mv, [(.t 9)], (some (44, true))⟩, ⟨(some 46), .mv, [(.t 8)], (some (44, true))⟩, ⟨(some 47), .len, [(.t 46)], (some (44, true))⟩, ⟨(some 48), (.ibin .lss), [(.t 45), (.t 47)], (some (44, true))⟩, ⟨(some 49), .pick, [(.t 44), (.t 48), (.c (.rv (.bool false)))], none⟩]) (.cond (.t 49) .skip (.exit 0))) (.seq (.seq (.block 1 (.seq (.regd [0, 0, 3, 7, 0, 0, 48, 112, 255] [⟨(some 52), .mv, [(.t 7)], none⟩, ⟨(some 53), .mv, [(.t 9)], none⟩, ⟨(some 54), (.ixs 3), [(.t 52), (.t 53)], none⟩, ⟨(some 55), (.load 3 true), [(.t 54)], none⟩, ⟨(some 56), .mv, [(.t 8)], none⟩, ⟨(some 57), .mv, [(.t 9)], none⟩, ⟨(some 58), (.ixs 3), [(.t 56), (.t 57)], none⟩, ⟨(some 59), (.load 3 true), [(.t 58)], none⟩, ⟨(some 60), (.eqs true true [.i, .i, .i]), [(.t 55), (.t 59)], none⟩]) (.cond (.t 60) (.seq (.regd [0, 0, 3, 7, 0, 0, 48, 112, 255, 511] [⟨(some 61), .mv, [(.t 7)], none⟩, ⟨(some 62), .mv, [(.t 9)], none⟩, ⟨(some 63), (.ixs 3), [(.t 61), (.t 62)], none⟩, ⟨(some 64), (.load 3 true), [(.t 63)], none⟩, ⟨(some 65), .mv, [(.t 8)], none⟩, ⟨(some 66), .mv, [(.t 9)], none⟩, ⟨(some 67), (.ixs 3), [(.t 65), (.t 66)], none⟩, ⟨(some 68), (.load 3 true), [(.t 67)], none⟩, ⟨(some 69), (.call 74), [(.t 64), (.t 68)], none⟩, ⟨(some 6), .mv, [(.t 69)], none⟩]) .ret) .skip))) .ent) (.reg [⟨(some 50), .mv, [(.t 9)], none⟩, ⟨(some 51), (.ibin .add), [(.t 50), (.c (.rv (.int .i64 1)))], none⟩, ⟨(some 9), .mv, [(.t 51)], none⟩]))))) .ent)) (.seq (.reg [⟨(some 70), .mv, [(.t 7)], none⟩, ⟨(some 71), .len, [(.t 70)], none⟩, ⟨(some 72), .mv, [(.t 8)], none⟩, ⟨(some 73), .len, [(.t 72)], none⟩, ⟨(some 74), (.ibin .lss), [(.t 71), (.t 73)], none⟩, ⟨(some 6), .mv, [(.t 74)], none⟩]) .ret))))))
theorem k_decoupageref24_Less : FnOK Go.Proofs.Try.prog 43 75 c_decoupageref24_Less [(.t 6)] := fnOK_of (by kernel_rfl)

theorem st_eqs (x y : Stp) : ∃ p : Prop, p ∧ cellsEq [.i, .i, .i] (x.cells.map .rv) (y.cells.map .rv) = some (p, decide (x = y)) := by
  refine ⟨(IntKind.i64 = IntKind.i64) ∧ (IntKind.i64 = IntKind.i64) ∧ (IntKind.i64 = IntKind.i64) ∧ True, ⟨rfl, rfl, rfl, trivial⟩, ?_⟩
  have : decide (x = y) = ((x.layer == y.layer) && ((x.z == y.z) && ((x.n == y.n) && true))) := by
    rw [Bool.eq_iff_iff]; cases x; cases y; simp
  rw [this]; rfl
theorem way_b (l : List Nd) (n : Int) : (wayAt l n).length ≤ l.length := by
  cases hm : madeAt l n with
  | false => simp [wayAt, hm]
  | true =>
    obtain ⟨k, rfl, hk⟩ := inL_nat (by simp [madeAt] at hm; exact hm.1)
    have := way_len l k; omega

theorem cmpW_end {x y : List Stp} {k : Nat} (h : x.length ≤ k ∨ y.length ≤ k) (hx : k ≤ x.length) (hy : k ≤ y.length) (he : cmpW (x.drop k) (y.drop k) = cmpW x y) : decide (cmpW x y < 0) = decide (x.length < y.length) := by
  rw [← he]
  rcases h with h | h
  · obtain rfl : k = x.length := by omega
    rw [List.drop_length]
    by_cases h2 : x.length < y.length
    · rw [List.drop_eq_getElem_cons h2]; simp [cmpW, h2]
    · rw [show y.drop x.length = [] from List.drop_of_length_le (by omega)]; simp [cmpW, h2]
  · obtain rfl : k = y.length := by omega
    rw [List.drop_length]
    by_cases h2 : y.length < x.length
    · rw [List.drop_eq_getElem_cons h2]; simp [cmpW]; omega
    · rw [show x.drop y.length = [] from List.drop_of_length_le (by omega)]; simp [cmpW]; omega

theorem sp_ref24_Less (l : List Nd) (ht : treeOK l = true) (hb : l.length ≤ 8589934590) (a b : Spt) : CallR Go.Proofs.Try.prog 43 [.rv (.sl 49 (ndL l)), a.sv, b.sv] [] [] (.rv (.bool (lessAt l a b))) := by
  refine callR_G k_decoupageref24_Less [.rv (.sl 49 (ndL l)), a.sv, b.sv] _ (by simp) (by simp [BkAll, bk_agg, bkAll_map, bk_rv, bk_fn, Sty.sv, Ln.sv, Nd.sv]) (fun K hK => ?_)
  have ha := sp_ref08_Made l ht a.n
  have hbm := sp_ref08_Made l ht b.n
  simp -implicitDefEqProofs only [c_decoupageref24_Less, Spt.sv, Spt.cells, go_sem]
  cases hma : madeAt l a.n with
  | false =>
    rw [hma] at ha
    have y_1 := ha; repeat' (first | (simp -implicitDefEqProofs only [go_sem]) | (with_reducible refine g_noent ?_) | (with_reducible first | refine g_call0 y_1 ?_ | refine g_calld0 y_1 ?_) | ((first | refine cdS (fun hg => ?_) (fun hg => ?_) | refine gdS (fun hg => ?_) (fun hg => ?_) | refine gddS (fun hg => ?_) (fun hg => ?_)) <;> try simp -implicitDefEqProofs only [hg, Bool.not_true, Bool.not_false]) | ((with_reducible apply And.intro); focus (first | trivial | omega | decide | (simp -implicitDefEqProofs only [maxLen]; omega) | (simp [maxLen, sty_len, nd_len, ndL_len, lnL_len, intsL_len, rvs_len, lensS_len] <;> omega))) | fail)
    exact (hK _ _ (ret_t (by simp [lessAt, hma, lk]))).2
  | true =>
    rw [hma] at ha
    cases hmb : madeAt l b.n with
    | false =>
      rw [hmb] at hbm
      have y_2 := ha; have y_3 := hbm; repeat' (first | (simp -implicitDefEqProofs only [go_sem]) | (with_reducible refine g_noent ?_) | (with_reducible first | refine g_call0 y_2 ?_ | refine g_calld0 y_2 ?_) | (with_reducible first | refine g_call0 y_3 ?_ | refine g_calld0 y_3 ?_) | ((first | refine cdS (fun hg => ?_) (fun hg => ?_) | refine gdS (fun hg => ?_) (fun hg => ?_) | refine gddS (fun hg => ?_) (fun hg => ?_)) <;> try simp -implicitDefEqProofs only [hg, Bool.not_true, Bool.not_false]) | ((with_reducible apply And.intro); focus (first | trivial | omega | decide | (simp -implicitDefEqProofs only [maxLen]; omega) | (simp [maxLen, sty_len, nd_len, ndL_len, lnL_len, intsL_len, rvs_len, lensS_len] <;> omega))) | fail)
      exact (hK _ _ (ret_t (by simp [lessAt, hmb, lk]))).2
    | true =>
      rw [hmb] at hbm
      by_cases he : a.n = b.n
      · have e1 : (a.n == b.n) = true := by simp [he]
        have y_4 := ha; have y_5 := hbm; repeat' (first | (simp -implicitDefEqProofs only [go_sem, e1]) | (with_reducible refine g_noent ?_) | (with_reducible first | refine g_call0 y_4 ?_ | refine g_calld0 y_4 ?_) | (with_reducible first | refine g_call0 y_5 ?_ | refine g_calld0 y_5 ?_) | ((first | refine cdS (fun hg => ?_) (fun hg => ?_) | refine gdS (fun hg => ?_) (fun hg => ?_) | refine gddS (fun hg => ?_) (fun hg => ?_)) <;> try simp -implicitDefEqProofs only [hg, Bool.not_true, Bool.not_false]) | ((with_reducible apply And.intro); focus (first | trivial | omega | decide | (simp -implicitDefEqProofs only [maxLen]; omega) | (simp [maxLen, sty_len, nd_len, ndL_len, lnL_len, intsL_len, rvs_len, lensS_len] <;> omega))) | fail)
        exact (hK _ _ (ret_t (by simp [lessAt, hma, hmb, ← he, lk]))).2
      · have e1 : (a.n == b.n) = false := by simp [he]
        have w1 := sp_ref24_Way l ht hb a.n
        have w2 := sp_ref24_Way l ht hb b.n
        have b1 := way_b l a.n
        have b2 := way_b l b.n
        have hv : lessAt l a b = decide (cmpW (wayAt l a.n) (wayAt l b.n) < 0) := by simp [lessAt, hma, hmb, he]
        rw [hv] at hK
        generalize wayAt l a.n = x at *
        generalize wayAt l b.n = y at *
        have hlx := stL_len x
        have hly := stL_len y
        have y_6 := ha; have y_7 := hbm; have y_8 := w1; have y_9 := w2; repeat' (first | (simp -implicitDefEqProofs only [go_sem, e1]) | (with_reducible refine g_noent ?_) | (with_reducible first | refine g_call0 y_6 ?_ | refine g_calld0 y_6 ?_) | (with_reducible first | refine g_call0 y_7 ?_ | refine g_calld0 y_7 ?_) | (with_reducible first | refine g_call0 y_8 ?_ | refine g_calld0 y_8 ?_) | (with_reducible first | refine g_call0 y_9 ?_ | refine g_calld0 y_9 ?_) | ((first | refine cdS (fun hg => ?_) (fun hg => ?_) | refine gdS (fun hg => ?_) (fun hg => ?_) | refine gddS (fun hg => ?_) (fun hg => ?_)) <;> try simp -implicitDefEqProofs only [hg, Bool.not_true, Bool.not_false]) | ((with_reducible apply And.intro); focus (first | trivial | omega | decide | (simp -implicitDefEqProofs only [maxLen]; omega) | (simp [maxLen, sty_len, nd_len, ndL_len, lnL_len, intsL_len, rvs_len, lensS_len] <;> omega))) | fail)
        refine g_loop (ι := Nat) (fun k => [(9, .rv (.int .i64 k)), (7, .rv (.sl 3 (stL x))), (8, .rv (.sl 3 (stL y)))]) (fun _ => [some (.var [.rv (.int .i64 a.n), .rv (.int .i64 a.kind)]), some (.var [.rv (.int .i64 b.n), .rv (.int .i64 b.kind)])]) (fun k => k ≤ x.length ∧ k ≤ y.length ∧ cmpW (x.drop k) (y.drop k) = cmpW x y) (fun k => x.length - k) 0 (by simp) (ent_env (by simp [lk])) (fun k hk K' hN hX hR => ?_)
        obtain ⟨hk1, hk2, hk3⟩ := hk
        simp -implicitDefEqProofs only [go_sem]
        by_cases h5 : k < x.length
        · have c1 : decide ((k : Int) < (x.length : Int)) = true := decide_eq_true (by omega)
          by_cases h6 : k < y.length
          · have c2 : decide ((k : Int) < (y.length : Int)) = true := decide_eq_true (by omega)
            have hx := stL_get h5
            have hy := stL_get h6
            have wu := wrap_up (k := k) (by omega)
            have hd := cmpW_drop h5 h6
            obtain ⟨pe, hpe, heq⟩ := st_eqs x[k] y[k]
            by_cases h7 : x[k] = y[k]
            · have c3 : decide (x[k] = y[k]) = true := decide_eq_true h7
              rw [if_neg (by simp [cmpT_zero.2 h7])] at hd
              repeat' (first | (simp -implicitDefEqProofs only [go_sem, c1, c2, hx, hy, hlx, hly, st_len, st_take, st_take2, heq, c3, wu]) | (with_reducible refine g_noent ?_) | ((first | refine cdS (fun hg => ?_) (fun hg => ?_) | refine gdS (fun hg => ?_) (fun hg => ?_) | refine gddS (fun hg => ?_) (fun hg => ?_)) <;> try simp -implicitDefEqProofs only [hg, Bool.not_true, Bool.not_false]) | ((with_reducible apply And.intro); focus (first | trivial | omega | decide | (simp -implicitDefEqProofs only [maxLen]; omega) | (simp [maxLen, sty_len, nd_len, ndL_len, lnL_len, intsL_len, rvs_len, lensS_len] <;> omega) | (exact hpe; done))) | fail)
              exact hN (k + 1) _ _ ⟨by omega, by omega, by rw [← hd]; exact hk3⟩ (by omega) (ent_env (by simp [lk]))
            · have c3 : decide (x[k] = y[k]) = false := decide_eq_false h7
              have hne : cmpT x[k] y[k] ≠ 0 := fun h => h7 (cmpT_zero.1 h)
              rw [if_pos hne] at hd
              have hls := sp_ref24_less x[k] y[k]
              have y_10 := hls; repeat' (first | (simp -implicitDefEqProofs only [go_sem, c1, c2, hx, hy, hlx, hly, st_len, st_take, st_take2, heq, c3, wu]) | (with_reducible refine g_noent ?_) | (with_reducible first | refine g_call0 y_10 ?_ | refine g_calld0 y_10 ?_) | ((first | refine cdS (fun hg => ?_) (fun hg => ?_) | refine gdS (fun hg => ?_) (fun hg => ?_) | refine gddS (fun hg => ?_) (fun hg => ?_)) <;> try simp -implicitDefEqProofs only [hg, Bool.not_true, Bool.not_false]) | ((with_reducible apply And.intro); focus (first | trivial | omega | decide | (simp -implicitDefEqProofs only [maxLen]; omega) | (simp [maxLen, sty_len, nd_len, ndL_len, lnL_len, intsL_len, rvs_len, lensS_len] <;> omega) | (exact hpe; done))) | fail)
              refine hR _ _ (hK _ _ (ret_t ?_)).2
              rw [← hk3, hd]; rfl
          · have c2 : decide ((k : Int) < (y.length : Int)) = false := decide_eq_false (by omega)
            repeat' (first | (simp -implicitDefEqProofs only [go_sem, c1, c2, hlx, hly]) | (with_reducible refine g_noent ?_) | ((first | refine cdS (fun hg => ?_) (fun hg => ?_) | refine gdS (fun hg => ?_) (fun hg => ?_) | refine gddS (fun hg => ?_) (fun hg => ?_)) <;> try simp -implicitDefEqProofs only [hg, Bool.not_true, Bool.not_false]) | ((with_reducible apply And.intro); focus (first | trivial | omega | decide | (simp -implicitDefEqProofs only [maxLen]; omega) | (simp [maxLen, sty_len, nd_len, ndL_len, lnL_len, intsL_len, rvs_len, lensS_len] <;> omega))) | fail)
            refine hX _ _ _ ?_
            repeat' (first | (simp -implicitDefEqProofs only [go_sem, hlx, hly]) | (with_reducible refine g_noent ?_) | ((first | refine cdS (fun hg => ?_) (fun hg => ?_) | refine gdS (fun hg => ?_) (fun hg => ?_) | refine gddS (fun hg => ?_) (fun hg => ?_)) <;> try simp -implicitDefEqProofs only [hg, Bool.not_true, Bool.not_false]) | ((with_reducible apply And.intro); focus (first | trivial | omega | decide | (simp -implicitDefEqProofs only [maxLen]; omega) | (simp [maxLen, sty_len, nd_len, ndL_len, lnL_len, intsL_len, rvs_len, lensS_len] <;> omega))) | fail)
            refine (hK _ _ (ret_t ?_)).2
            rw [cmpW_end (.inr (by omega)) hk1 hk2 hk3]; simp [lk]
        · have c1 : decide ((k : Int) < (x.length : Int)) = false := decide_eq_false (by omega)
          repeat' (first | (simp -implicitDefEqProofs only [go_sem, c1, hlx, hly]) | (with_reducible refine g_noent ?_) | ((first | refine cdS (fun hg => ?_) (fun hg => ?_) | refine gdS (fun hg => ?_) (fun hg => ?_) | refine gddS (fun hg => ?_) (fun hg => ?_)) <;> try simp -implicitDefEqProofs only [hg, Bool.not_true, Bool.not_false]) | ((with_reducible apply And.intro); focus (first | trivial | omega | decide | (simp -implicitDefEqProofs only [maxLen]; omega) | (simp [maxLen, sty_len, nd_len, ndL_len, lnL_len, intsL_len, rvs_len, lensS_len] <;> omega))) | fail)
          refine hX _ _ _ ?_
          repeat' (first | (simp -implicitDefEqProofs only [go_sem, hlx, hly]) | (with_reducible refine g_noent ?_) | ((first | refine cdS (fun hg => ?_) (fun hg => ?_) | refine gdS (fun hg => ?_) (fun hg => ?_) | refine gddS (fun hg => ?_) (fun hg => ?_)) <;> try simp -implicitDefEqProofs only [hg, Bool.not_true, Bool.not_false]) | ((with_reducible apply And.intro); focus (first | trivial | omega | decide | (simp -implicitDefEqProofs only [maxLen]; omega) | (simp [maxLen, sty_len, nd_len, ndL_len, lnL_len, intsL_len, rvs_len, lensS_len] <;> omega))) | fail)
          refine (hK _ _ (ret_t ?_)).2
          rw [cmpW_end (.inl (by omega)) hk1 hk2 hk3]; simp [lk]

end Go.Eng


/- paint: items, edges. -/
namespace Go.Eng
open Go
/- decoupage/plan.Edges -/
def c_plan_Edges : AC := (.seq (.reg [⟨(some 1), .box, [(.t 0)], none⟩, ⟨(some 2), (.alloc [(.int .i64 0), (.int .i64 0), (.int .i64 0), (.int .i64 0)]), [], none⟩]) (.seq (.seq (.reg [⟨(some 4), (.fld 0), [(.t 1)], none⟩, ⟨(some 5), (.load 1 false), [(.t 4)], none⟩, ⟨(some 6), .not, [(.t 5)], none⟩]) (.cond (.t 6) (.seq (.reg [⟨(some 7), (.build [(.int .i64 0), (.int .i64 0), (.int .i64 0), (.int .i64 0)] []), [], none⟩, ⟨none, (.store 4), [(.t 2), (.t 7)], none⟩]) .ret) .skip)) (.seq (.reg [⟨(some 8), (.load 21 true), [(.t 1)], none⟩, ⟨(some 9), (.call 52), [(.t 8)], none⟩, ⟨(some 3), (.alloc [(.int .i64 0), (.int .i64 0), (.int .i64 0), (.int .i64 0)]), [], none⟩, ⟨none, (.store 4), [(.t 3), (.t 9)], none⟩]) (.seq (.reg [⟨(some 10), (.fld 1), [(.t 1)], none⟩, ⟨(some 11), (.load 1 false), [(.t 10)], none⟩, ⟨(some 12), (.fld 2), [(.t 1)], none⟩, ⟨(some 13), (.load 1 false), [(.t 12)], none⟩, ⟨(some 14), (.fld 2), [(.t 3)], none⟩, ⟨(some 15), (.load 1 false), [(.t 14)], none⟩, ⟨(some 16), (.fld 17), [(.t 1)], none⟩, ⟨(some 17), (.ixa 4 1), [(.t 16), (.c (.rv (.int .i64 1)))], none⟩, ⟨(some 18), (.load 1 false), [(.t 17)], none⟩, ⟨(some 19), (.ibin .add), [(.t 15), (.t 18)], none⟩, ⟨(some 20), (.fld 3), [(.t 3)], none⟩, ⟨(some 21), (.load 1 false), [(.t 20)], none⟩, ⟨(some 22), (.fld 17), [(.t 1)], none⟩, ⟨(some 23), (.ixa 4 1), [(.t 22), (.c (.rv (.int .i64 2)))], none⟩, ⟨(some 24), (.load 1 false), [(.t 23)], none⟩, ⟨(some 25), (.ibin .add), [(.t 21), (.t 24)], none⟩, ⟨(some 26), (.build [(.int .i64 0), (.int .i64 0), (.int .i64 0), (.int .i64 0)] [(0, 1), (1, 1), (2, 1), (3, 1)]), [(.t 11), (.t 13), (.t 19), (.t 25)], none⟩, ⟨none, (.store 4), [(.t 2), (.t 26)], none⟩]) .ret))))
theorem k_plan_Edges : FnOK Go.Proofs.Try.prog 112 27 c_plan_Edges [(.c 2 4 true)] := fnOK_of (by kernel_rfl)

structure Itm where
  node : Int
  kind : Int
  r : Rc
  hole : Rc
  clip : Rc
  color : Int
  deriving DecidableEq, Inhabited
def Itm.cells (x : Itm) : List RV := [.int .i64 x.node, .int .i64 x.kind, .int .i64 x.r.x0, .int .i64 x.r.y0, .int .i64 x.r.x1, .int .i64 x.r.y1, .int .i64 x.hole.x0, .int .i64 x.hole.y0, .int .i64 x.hole.x1, .int .i64 x.hole.y1,
  .int .i64 x.clip.x0, .int .i64 x.clip.y0, .int .i64 x.clip.x1, .int .i64 x.clip.y1, .int .i64 x.color]
abbrev Itm.sv (x : Itm) : SV := .agg (x.cells.map .rv)
def itL (l : List Itm) : List (List RV) := l.map Itm.cells
theorem itL_len (l : List Itm) : (itL l).length = l.length := by simp [itL]
theorem itL_get {l : List Itm} {i : Nat} (h : i < l.length) : (itL l)[i]?.getD [] = (l[i]'h).cells := by simp [itL, h]
theorem it_len (x : Itm) : x.cells.length = 15 := rfl
theorem it_mlen (x : Itm) : (x.cells.map SV.rv).length = 15 := rfl
theorem it_tk (x : Itm) : x.cells.take 15 = x.cells := rfl
theorem it_tkm (x : Itm) : (x.cells.map SV.rv).take 15 = x.cells.map SV.rv := rfl
def edgesR (b : Bx) : Rc := if b.made = true then ⟨b.x, b.y, (padsR b).x1 + b.border.b, (padsR b).y1 + b.border.c⟩ else zeroR
theorem pads_bd {b : Bx} (h : fewB b = true) : -6000000000000000 ≤ (padsR b).x1 ∧ (padsR b).x1 ≤ 6000000000000000 ∧ -6000000000000000 ≤ (padsR b).y1 ∧ (padsR b).y1 ≤ 6000000000000000 := by
  have := few_pads h
  unfold padsR
  split
  · dsimp only; omega
  · simp [zeroR]

set_option maxRecDepth 10000 in
theorem sp_plan_Edges (b : Bx) (hb : fewB b = true) : CallR Go.Proofs.Try.prog 112 [b.sv] [] [] (edgesR b).sv := by
  refine callR_G k_plan_Edges [b.sv] _ (by simp) (by simp [BkAll, bk_agg, bkAll_map, bk_rv, bk_fn, Sty.sv, Ln.sv, Nd.sv]) (fun K hK => ?_)
  have hf := few_pads hb
  have hp := pads_bd hb
  have hpp := sp_plan_Pads b hb
  simp -implicitDefEqProofs only [Rc.sv, Rc.cells, List.map, Bx.sv] at hpp
  have w1 : IntKind.i64.wrap ((padsR b).x1 + b.border.b) = (padsR b).x1 + b.border.b := wrap_i64 (by omega) (by omega)
  have w2 : IntKind.i64.wrap ((padsR b).y1 + b.border.c) = (padsR b).y1 + b.border.c := wrap_i64 (by omega) (by omega)
  simp -implicitDefEqProofs only [c_plan_Edges, Bx.sv, go_sem]
  clear hf hp
  generalize hP : padsR b = p at *
  have b0 : b.cells[0]? = some (.bool b.made) := rfl
  have b1 : b.cells[1]? = some (.int .i64 b.x) := rfl
  have b2 : b.cells[2]? = some (.int .i64 b.y) := rfl
  have q0 : (b.cells.map SV.rv)[0]? = some (.rv (.bool b.made)) := rfl
  have q1 : (b.cells.map SV.rv)[1]? = some (.rv (.int .i64 b.x)) := rfl
  have q2 : (b.cells.map SV.rv)[2]? = some (.rv (.int .i64 b.y)) := rfl
  have q18 : (b.cells.map SV.rv)[18]? = some (.rv (.int .i64 b.border.b)) := rfl
  have q19 : (b.cells.map SV.rv)[19]? = some (.rv (.int .i64 b.border.c)) := rfl
  have qa : (b.cells.map SV.rv).take 21 = b.cells.map SV.rv := rfl
  cases hm : b.made with
  | false =>
    rw [hm] at q0
    repeat' (first | (simp -implicitDefEqProofs only [go_sem, bx_len, q0]) | (with_reducible refine g_noent ?_) | ((first | refine cdS (fun hg => ?_) (fun hg => ?_) | refine gdS (fun hg => ?_) (fun hg => ?_) | refine gddS (fun hg => ?_) (fun hg => ?_)) <;> try simp -implicitDefEqProofs only [hg, Bool.not_true, Bool.not_false]) | ((with_reducible apply And.intro); focus (first | trivial | omega | decide | (simp -implicitDefEqProofs only [maxLen]; omega) | (simp [maxLen, sty_len, nd_len, ndL_len, lnL_len, intsL_len, rvs_len, lensS_len] <;> omega))) | fail)
    refine (hK _ _ ?_).2
    rw [show edgesR b = zeroR from if_neg (by simp [hm])]
    simp [retM, nodupL, newL, allU, keptL, retP, resL, lk, resT, RnHo, lkp, finU, hget_zero, hget_succ, hget, rnRows_rvs, rn_tup, rn_rv, rn_row, rn_ptr, rn_ifc, rn_agg, rn_dead, RnAll, ofL, rnAll_map, go_sem, zeroR, Rc.cells]
  | true =>
    rw [hm] at q0
    have y_1 := hpp; repeat' (first | (simp -implicitDefEqProofs only [go_sem, bx_len, q0, qa, q1, q2, q18, q19, w1, w2]) | (with_reducible refine g_noent ?_) | (with_reducible first | refine g_call0 y_1 ?_ | refine g_calld0 y_1 ?_) | ((first | refine cdS (fun hg => ?_) (fun hg => ?_) | refine gdS (fun hg => ?_) (fun hg => ?_) | refine gddS (fun hg => ?_) (fun hg => ?_)) <;> try simp -implicitDefEqProofs only [hg, Bool.not_true, Bool.not_false]) | ((with_reducible apply And.intro); focus (first | trivial | omega | decide | (simp -implicitDefEqProofs only [maxLen]; omega) | (simp [maxLen, sty_len, nd_len, ndL_len, lnL_len, intsL_len, rvs_len, lensS_len] <;> omega))) | fail)
    refine (hK _ _ ?_).2
    rw [show edgesR b = ⟨b.x, b.y, p.x1 + b.border.b, p.y1 + b.border.c⟩ from by rw [← hP]; exact if_pos hm]
    simp -implicitDefEqProofs only [Rc.sv, Rc.cells, List.map]
    generalize p.x1 + b.border.b = n3
    generalize p.y1 + b.border.c = n4
    simp [retM, nodupL, newL, allU, keptL, retP, resL, lk, resT, RnHo, lkp, finU, hget_zero, hget_succ, hget, rnRows_rvs, rn_tup, rn_rv, rn_row, rn_ptr, rn_ifc, rn_agg, rn_dead, RnAll, ofL, rnAll_map, go_sem]
def backI (s : Sty) (n : Int) (b : Bx) (c : Rc) : List Itm := if s.back = 0 then [] else [⟨n, 0, edgesR b, zeroR, c, s.back⟩]
def lineI (s : Sty) (n : Int) (b : Bx) (c : Rc) : List Itm := if s.line = 0 ∨ s.border = ⟨0, 0, 0, 0⟩ then [] else [⟨n, 1, edgesR b, padsR b, c, s.line⟩]
def ownS (s : Sty) (n : Int) (b : Bx) (c : Rc) : List Itm := backI s n b c ++ lineI s n b c
end Go.Eng


/- paint: what one box has, in the document. -/
namespace Go.Eng
open Go

end Go.Eng

/- Things of the call's own under other numbers. -/
namespace Go.Eng
open Go

theorem ent_ren {n0 : Nat} {env env' : List (Nat × SV)} {h h' : List (Option HB)} (τ : Nat → Option Nat) (σ : Nat → Nat) (hn : n0 ≤ h'.length)
    (h1 : ∀ j i, τ j = some i → σ i = j) (hlow : ∀ j i, τ j = some i → j < n0 ∨ i < n0 → i = j) (hkeep : ∀ j, τ j = none → n0 ≤ j)
    (hh : ∀ i hb', hget h' i = some hb' → τ (σ i) = some i ∧ ∃ hb, hget h (σ i) = some hb ∧ RnH τ (hget h) hb hb')
    (hsm : ∀ j i, τ j = some i → (hget h j).isSome = true → (hget h' i).isSome = true)
    (he : ∀ n, Rn τ (hget h) (lk env n) (lk env' n)) : Ent n0 ⟨env, h⟩ ⟨env', h'⟩ := by
  intro C a w R
  obtain ⟨⟨rho, RF⟩, _, h0⟩ := R
  have M := RF.mem
  have hsome : ∀ i, (hget h' i).isSome = true → τ (σ i) = some i ∧ (hget h (σ i)).isSome = true := fun i hi => by
    obtain ⟨hb', hb2⟩ := Option.isSome_iff_exists.1 hi
    obtain ⟨a1, hb, a2, _⟩ := hh i hb' hb2
    exact ⟨a1, by rw [a2]; rfl⟩
  have okIn : ∀ b, okk C rho (hget h) b → okk C (fun i => rho (σ i)) (hget h') b := fun b hb => ⟨hb.1, fun id hid => hb.2 (σ id) (hsome id hid).2⟩
  have okfz : ∀ j b, τ j = none → (hget h j).isSome = true → rho j = some b → okk C (fun i => rho (σ i)) (hget h') b := fun j b hj hs hb => by
    refine ⟨?_, fun id hid he => ?_⟩
    · rcases (M.own j b hs hb).1 with ⟨a1, _⟩ | a
      · rw [h0 j (hkeep j hj)] at a1; cases a1
      · exact .inr a
    · have := M.inj (σ id) j b (hsome id hid).2 hs he hb
      rw [← this, (hsome id hid).1] at hj; cases hj
  have hs : ∀ j i, τ j = some i → rho j = (fun i => rho (σ i)) i ∧ ((hget h j).isSome = true → (hget h' i).isSome = true) ∧ (∀ cs, hget h' i = some (.var cs) → ∃ cs', hget h j = some (.var cs')) ∧ ∀ e ver xs, hget h' i = some (.row e ver xs) → ∃ xs', hget h j = some (.row e ver xs') := fun j i hj => by
    have hσ := h1 j i hj
    refine ⟨by simp only [hσ], hsm j i hj, fun cs hc => ?_, fun e ver xs hc => ?_⟩
    · obtain ⟨_, hb, a1, a2⟩ := hh i _ hc
      rw [hσ] at a1
      cases a2 with
      | var xs _ _ => exact ⟨xs, a1⟩
    · obtain ⟨_, hb, a1, a2⟩ := hh i _ hc
      rw [hσ] at a1
      cases a2 with
      | row _ _ xs _ _ _ => exact ⟨xs, a1⟩
  refine ⟨⟨fun i => rho (σ i), ⟨⟨fun i hb' hi => ?_, fun i j b g1 g2 g3 g4 => ?_, fun j b g1 g2 => ?_, M.fr, fun i hb' hb0 g1 g2 => ?_⟩, fun n => (RF.env n).leave okIn okfz (fun j hb hj => M.heap j hb hj) hs (he n), RF.size, RF.defers⟩⟩, hn, h0⟩
  · obtain ⟨a1, hb, a2, a3⟩ := hh i hb' hi
    exact (M.heap (σ i) hb a2).leave okIn okfz (fun j hb hj => M.heap j hb hj) hs a1 a3
  · have e := M.inj (σ i) (σ j) b (hsome i g1).2 (hsome j g2).2 g3 g4
    have t1 := (hsome i g1).1
    rw [e, (hsome j g2).1] at t1
    cases t1; rfl
  · obtain ⟨a, b2⟩ := M.own (σ j) b (hsome j g1).2 g2
    refine ⟨?_, b2⟩
    rcases a with ⟨p1, p2, p3⟩ | a
    · have hlt : σ j < n0 := by
        apply Classical.byContradiction
        intro hc
        rw [h0 (σ j) (by omega)] at p1; cases p1
      have := hlow _ _ (hsome j g1).1 (.inl hlt)
      rw [← this] at p1 p2
      exact .inl ⟨p1, p2, p3⟩
    · exact .inr a
  · obtain ⟨a1, hb, a2, a3⟩ := hh i hb' g1
    have hlt : i < n0 := by
      apply Classical.byContradiction
      intro hc
      rw [h0 i (by omega)] at g2; cases g2
    have hi := hlow _ _ a1 (.inr hlt)
    rw [← hi] at a2
    have ev := M.evo i hb hb0 a2 g2
    rw [← hi]
    cases a3 with
    | var xs ys _ => cases hb0 <;> exact ev
    | row e ver xs ys _ _ => cases hb0 <;> exact ev

/-- One thing takes another's place: number j becomes i; what stands from m on is given up, and so is the old i. -/
def τm (i j m k : Nat) : Option Nat := if k = j then some i else if k = i then none else if k < m then some k else none
def σm (i j k : Nat) : Nat := if k = i then j else k
theorem ent_move {n0 : Nat} {env env' : List (Nat × SV)} {h h' : List (Option HB)} (i j : Nat) (hi : n0 ≤ i) (him : i < h'.length) (hj : h'.length ≤ j)
    (hh : ∀ k, k < h'.length → ∃ hb hb', hget h (σm i j k) = some hb ∧ hget h' k = some hb' ∧ RnH (τm i j h'.length) (hget h) hb hb')
    (he : ∀ p ∈ env', Rn (τm i j h'.length) (hget h) (lk env p.1) p.2) : Ent n0 ⟨env, h⟩ ⟨env', h'⟩ := by
  refine ent_ren (τm i j h'.length) (σm i j) (by omega) (fun a b hab => ?_) (fun a b hab hlt => ?_) (fun a ha => ?_) (fun k hb' hk => ?_) (fun a b hab hs => ?_) (lk_dead_of (fun x => .dead x) he)
  · unfold τm at hab; unfold σm
    split at hab
    · cases hab; simp_all
    · split at hab
      · cases hab
      · split at hab
        · cases hab; rw [if_neg (by assumption)]
        · cases hab
  · unfold τm at hab
    split at hab
    · cases hab; omega
    · split at hab
      · cases hab
      · split at hab
        · cases hab; rfl
        · cases hab
  · unfold τm at ha
    split at ha
    · cases ha
    · split at ha
      · omega
      · split at ha
        · cases ha
        · omega
  · have hk2 : k < h'.length := by
      apply Classical.byContradiction
      intro hc
      unfold hget at hk
      rw [List.getElem?_eq_none (by omega)] at hk; cases hk
    obtain ⟨hb, hb2, a1, a2, a3⟩ := hh k hk2
    rw [a2] at hk; cases hk
    refine ⟨?_, hb, a1, a3⟩
    unfold σm τm
    by_cases e : k = i
    · simp [e]
    · rw [if_neg e, if_neg (by omega), if_neg e, if_pos hk2]
  · have hb : b < h'.length := by
      unfold τm at hab
      split at hab
      · cases hab; exact him
      · split at hab
        · cases hab
        · split at hab
          · cases hab; assumption
          · cases hab
    obtain ⟨_, hb', _, a2, _⟩ := hh b hb
    rw [a2]; rfl
end Go.Eng

/- What is the caller's own is lent to a call that only reads it: whatever its other arguments. -/
namespace Go.Eng
open Go
/-- What is the caller's own is lent to a call that only reads it. -/
theorem callR_borrowN {P : Program} {f : FuncId} {args0 : List SV} {args : List SV} {pre us : List (Nat × HB)} {sv : SV} (H : CallR P f args0 [] us sv) (hl : args.length = args0.length)
    (hz : ∀ hp, PreOK hp pre → ∀ (j : Nat) (y x : SV), args[j]? = some y → args0[j]? = some x → Rn (fun _ => none) hp y x) (hfl : FlatS sv) (hus : ∀ q ∈ us, FlatH q.2 ∧ ∀ p ∈ pre, p.1 ≠ q.1) : CallR P f args pre us sv := by
  refine ⟨H.1, fun C hp w rho vs hpre hnew R hvl hvs => ?_⟩
  let C2 : Ctx := ⟨w, fun b => okk C rho hp b ∨ ∃ id, (hp id).isSome = true ∧ rho id = some b, fun _ => False, C.N, fun _ => none, fun _ => none⟩
  have hok2 : ∀ b, C2.okE b → okk C2 (fun _ => none) (fun _ => none) b := fun b hb => ⟨.inl hb, fun id hid => by simp at hid⟩
  have R2 : RepH C2 (fun _ => none) w (fun _ => none) := ⟨fun id hb h => (by cases h), fun i j b h => (by simp at h), fun i b h => (by simp at h), ⟨rfl, rfl, rfl, Nat.le_refl _, fun b _ _ => rfl⟩, fun id hb hb0 h => (by cases h)⟩
  have hfresh : ∀ id, id ∈ us.map (·.1) → hp id = none ∧ C.h0 id = none := fun id hid => by
    obtain ⟨q, hq, rfl⟩ := List.mem_map.1 hid
    rcases hnew q hq with ⟨hb, hm⟩ | h
    · exact absurd rfl ((hus q hq).2 (q.1, hb) hm)
    · exact h
  refine (H.2 C2 (fun _ => none) w (fun _ => none) vs (fun q hq => by simp at hq) (fun q hq => .inr ⟨rfl, rfl⟩) R2 (by simp [hvl, hl]) (fun j s hj => ?_)).mono ?_
  · have hlt := (List.getElem?_eq_some_iff.1 hj).1
    have hy := List.getElem?_eq_getElem (l := args) (i := j) (by omega)
    exact Rp.leave (τ := fun _ => none) (fun b hb => hok2 b (.inl hb)) (fun i b _ hi hb => hok2 b (.inr ⟨i, hi, hb⟩)) (fun i hb hi => R.heap i hb hi) (fun j id h => by cases h) (hvs j _ hy) (hz hp hpre j _ s hy hj)
  · rintro e w' ⟨v, rho', rfl, S, hR⟩
    have R' := S.mem
    have hblk : ∀ b, b < w.heap.size → w'.heap[b]? = w.heap[b]? := fun b hb => R'.fr.block b hb (fun h => h)
    have hsz : w.heap.size ≤ w'.heap.size := R'.fr.size
    have hnewb : ∀ id b, id ∈ us.map (·.1) → rho' id = some b → w.heap.size ≤ b ∧ b < w'.heap.size := fun id b hid hb => by
      obtain ⟨h1, h2⟩ := R'.own id b (upl_none.2 hid) hb
      rcases h1 with ⟨a, _⟩ | a
      · cases a
      · exact ⟨a, h2⟩
    let rhoF : Nat → Option Nat := fun id => if id ∈ us.map (·.1) then rho' id else rho id
    have rT : ∀ id, id ∈ us.map (·.1) → rhoF id = rho' id := fun id h => if_pos h
    have rN : ∀ id, id ∉ us.map (·.1) → rhoF id = rho id := fun id h => if_neg h
    have hN : ∀ id, id ∉ us.map (·.1) → upl hp us id = hp id := fun id h => upl_or h
    have hT : ∀ id, id ∈ us.map (·.1) → upl hp us id = upl (fun _ => none) us id := fun id h => upl_mem h
    have hs : ∀ j, (upl (fun _ => none) us j).isSome = true → upl hp us j = upl (fun _ => none) us j ∧ rhoF j = rho' j := fun j hj => ⟨hT j (upl_none.1 hj), rT j (upl_none.1 hj)⟩
    have okM : ∀ b, okk C rho hp b → b < w.heap.size → okk C rhoF (upl hp us) b ∧ w'.heap[b]? = w.heap[b]? := fun b hb hlt => by
      refine ⟨⟨hb.1, fun id hid he => ?_⟩, hblk b hlt⟩
      by_cases hm : id ∈ us.map (·.1)
      · rw [rT id hm] at he
        have := (hnewb id b hm he).1; omega
      · rw [hN id hm] at hid
        rw [rN id hm] at he
        exact hb.2 id hid he
    have E : Evo w w' (okk C rho hp) (okk C rhoF (upl hp us)) rho rhoF hp (upl hp us) := Evo.of okM (fun id hb hq => by
      have hm : id ∉ us.map (·.1) := fun hm => by rw [(hfresh id hm).1] at hq; cases hq
      refine ⟨hb, by rw [hN id hm]; exact hq, ?_⟩
      rw [rN id hm]
      cases hb with
      | var cs => rfl
      | row e ver xs => exact ⟨Nat.le_refl _, fun _ => ⟨rfl, rfl, fun b hb cur t hc => ⟨cur, t, by rw [hblk b (R.own id b (by rw [hq]; rfl) hb).2]; exact hc, rfl⟩⟩⟩)
    refine ⟨v, rhoF, rfl, ⟨⟨fun id hb hq => ?_, fun i j b h1 h2 h3 h4 => ?_, fun id b h1 h2 => ?_, ⟨R'.fr.os.trans R.fr.os, R'.fr.tape.trans R.fr.tape, R'.fr.output.trans R.fr.output, Nat.le_trans R.fr.size hsz, fun b h1 h2 => ?_⟩, fun id hb hb0 h1 h2 => ?_⟩, E⟩, hR.flat hs hfl⟩
    · by_cases hm : id ∈ us.map (·.1)
      · rw [hT id hm] at hq
        have hfh : FlatH hb := by
          rcases upl_val hq with h | h
          · cases h
          · exact (hus _ h).1
        exact (R'.heap id hb hq).flat hs (upl_none.2 hm) hfh
      · rw [hN id hm] at hq
        rcases R.heap id hb hq with ⟨a1, a2⟩ | ⟨b, cur, t, a1, a2, a3⟩
        · exact .inl ⟨(rN id hm).trans a1, a2⟩
        · refine .inr ⟨b, cur, t, (rN id hm).trans a1, ?_, a3.mono E⟩
          rw [hblk b (R.own id b (by rw [hq]; rfl) a1).2]; exact a2
    · by_cases hi : i ∈ us.map (·.1) <;> by_cases hj : j ∈ us.map (·.1)
      · rw [rT i hi] at h3; rw [rT j hj] at h4
        exact R'.inj i j b (upl_none.2 hi) (upl_none.2 hj) h3 h4
      · rw [rT i hi] at h3; rw [rN j hj] at h4; rw [hN j hj] at h2
        have h5 := hnewb i b hi h3; have h6 := R.own j b h2 h4; omega
      · rw [rN i hi] at h3; rw [rT j hj] at h4; rw [hN i hi] at h1
        have h5 := hnewb j b hj h4; have h6 := R.own i b h1 h3; omega
      · rw [rN i hi] at h3; rw [rN j hj] at h4; rw [hN i hi] at h1; rw [hN j hj] at h2
        exact R.inj i j b h1 h2 h3 h4
    · by_cases hm : id ∈ us.map (·.1)
      · rw [rT id hm] at h2
        obtain ⟨a1, a2⟩ := hnewb id b hm h2
        exact ⟨.inr (Nat.le_trans R.fr.size a1), a2⟩
      · rw [hN id hm] at h1; rw [rN id hm] at h2
        obtain ⟨a1, a2⟩ := R.own id b h1 h2
        exact ⟨a1, by omega⟩
    · rw [hblk b (by have := R.fr.size; omega)]; exact R.fr.block b h1 h2
    · by_cases hm : id ∈ us.map (·.1)
      · rw [(hfresh id hm).2] at h2; cases h2
      · rw [hN id hm] at h1
        have ev := R.evo id hb hb0 h1 h2
        obtain ⟨hb', g1, g2⟩ : ∃ hb', upl hp us id = some hb' ∧ EvoHB w w' (rho id) (rhoF id) hb hb' := by
          refine ⟨hb, by rw [hN id hm]; exact h1, ?_⟩
          rw [rN id hm]
          cases hb with
          | var cs => rfl
          | row e ver xs => exact ⟨Nat.le_refl _, fun _ => ⟨rfl, rfl, fun b hb cur t hc => ⟨cur, t, by rw [hblk b (R.own id b (by rw [h1]; rfl) hb).2]; exact hc, rfl⟩⟩⟩
        rw [hN id hm, h1] at g1; cases g1
        exact ev.trans g2
end Go.Eng


/- paint: alike; what one box has, in the program. -/
namespace Go.Eng
open Go
/- (*decoupage/paint.painter).own -/
def c_paint_painter_own : AC := (.seq (.regd [0, 1, 3, 7, 0, 31, 0, 64, 192, 448, 0, 1984, 4032, 0, 0, 24639, 65535] [⟨(some 7), .mv, [(.t 0)], none⟩, ⟨(some 8), .nilchk, [(.t 7)], none⟩, ⟨(some 9), (.fld 0), [(.t 8)], none⟩, ⟨(some 10), (.load 1 false), [(.t 9)], none⟩, ⟨(some 11), .mv, [(.t 1)], none⟩, ⟨(some 12), (.call 51), [(.t 10), (.t 11)], none⟩, ⟨(some 13), .mv, [(.t 0)], none⟩, ⟨(some 14), .nilchk, [(.t 13)], none⟩, ⟨(some 15), (.fld 1), [(.t 14)], none⟩, ⟨(some 16), (.load 1 false), [(.t 15)], none⟩, ⟨(some 17), .mv, [(.t 1)], none⟩, ⟨(some 18), (.ixs 21), [(.t 16), (.t 17)], none⟩, ⟨(some 19), (.load 21 true), [(.t 18)], none⟩, ⟨(some 4), (.alloc [(.bool false), (.int .i64 0), (.int .i64 0), (.int .i64 0), (.int .i64 0), (.int .i64 0), (.int .i64 0), (.int .i64 0), (.int .i64 0), (.int .i64 0), (.int .i64 0), (.int .i64 0), (.int .i64 0), (.int .i64 0), (.int .i64 0), (.int .i64 0), (.int .i64 0), (.int .i64 0), (.int .i64 0), (.int .i64 0), (.int .i64 0), (.int .i64 0), (.int .i64 0), (.int .i64 0), (.int .i64 0), (.int .i64 0), (.int .i64 0), (.int .i64 0), (.int .i64 0), (.int .i64 0), (.int .i64 0), (.int .i64 0), (.int .i64 0), (.int .i64 0), (.int .i64 0), (.int .i64 0), (.int .i64 0), (.int .i64 0), (.int .i64 0), (.int .i64 0), (.int .i64 0), (.int .i64 0), (.bool false), (.bool false), (.int .i64 0), (.bool false), (.int .i64 0), (.int .i64 0)]), [], none⟩, ⟨(some 5), (.alloc [(.bool false), (.int .i64 0), (.int .i64 0), (.int .i64 0), (.int .i64 0), (.int .i64 0), (.int .i64 0), (.int .i64 0), (.int .i64 0), (.int .i64 0), (.int .i64 0), (.int .i64 0), (.int .i64 0), (.int .i64 0), (.int .i64 0), (.int .i64 0), (.int .i64 0), (.int .i64 0), (.int .i64 0), (.int .i64 0), (.int .i64 0)]), [], none⟩, ⟨none, (.store 48), [(.t 4), (.t 12)], none⟩, ⟨none, (.store 21), [(.t 5), (.t 19)], none⟩]) (.seq (.reg [⟨(some 20), (.load 21 true), [(.t 5)], none⟩, ⟨(some 21), (.call 112), [(.t 20)], none⟩, ⟨(some 6), (.alloc [(.int .i64 0), (.int .i64 0), (.int .i64 0), (.int .i64 0)]), [], none⟩, ⟨none, (.store 4), [(.t 6), (.t 21)], none⟩]) (.seq (.seq (.reg [⟨(some 22), (.fld 46), [(.t 4)], none⟩, ⟨(some 23), (.load 1 false), [(.t 22)], none⟩, ⟨(some 24), (.ibin .neq), [(.t 23), (.c (.rv (.int .i64 0)))], none⟩]) (.seq (.cond (.t 24) (.regd [0, 0, 2, 6, 14, 0, 0, 0, 128, 384, 896, 0, 3968, 8064, 0, 16384, 65504, 131040, 262142, 524287, 1048575, 2097151] [⟨(some 25), .mv, [(.t 0)], none⟩, ⟨(some 26), .mv, [(.t 0)], none⟩, ⟨(some 27), .nilchk, [(.t 26)], none⟩, ⟨(some 28), (.fld 5), [(.t 27)], none⟩, ⟨(some 29), (.load 1 false), [(.t 28)], none⟩, ⟨(some 30), .mv, [(.t 1)], none⟩, ⟨(some 31), (.load 4 true), [(.t 6)], none⟩, ⟨(some 32), .mv, [(.t 0)], none⟩, ⟨(some 33), .nilchk, [(.t 32)], none⟩, ⟨(some 34), (.fld 2), [(.t 33)], none⟩, ⟨(some 35), (.load 1 false), [(.t 34)], none⟩, ⟨(some 36), .mv, [(.t 1)], none⟩, ⟨(some 37), (.ixs 4), [(.t 35), (.t 36)], none⟩, ⟨(some 38), (.load 4 true), [(.t 37)], none⟩, ⟨(some 39), (.fld 46), [(.t 4)], none⟩, ⟨(some 40), (.load 1 false), [(.t 39)], none⟩, ⟨(some 41), (.build [(.int .i64 0), (.int .i64 0), (.int .i64 0), (.int .i64 0), (.int .i64 0), (.int .i64 0), (.int .i64 0), (.int .i64 0), (.int .i64 0), (.int .i64 0), (.int .i64 0), (.int .i64 0), (.int .i64 0), (.int .i64 0), (.int .i64 0)] [(0, 1), (1, 1), (2, 4), (10, 4), (14, 1)]), [(.t 30), (.c (.rv (.int .i64 0))), (.t 31), (.t 38), (.t 40)], none⟩, ⟨(some 42), (.bsl 15), [(.t 41)], none⟩, ⟨(some 43), (.app 15 120), [(.t 29), (.t 42)], none⟩, ⟨(some 44), .nilchk, [(.t 25)], none⟩, ⟨(some 45), (.fld 5), [(.t 44)], none⟩, ⟨none, (.store 1), [(.t 45), (.t 43)], none⟩]) .skip) .ent)) (.seq (.reg [⟨(some 46), (.fld 47), [(.t 4)], none⟩, ⟨(some 47), (.load 1 false), [(.t 46)], none⟩, ⟨(some 48), (.ibin .neq), [(.t 47), (.c (.rv (.int .i64 0)))], none⟩, ⟨(some 49), .mv, [(.t 48)], none⟩, ⟨(some 50), (.fld 38), [(.t 4)], (some (49, true))⟩, ⟨(some 51), (.load 4 true), [(.t 50)], (some (49, true))⟩, ⟨(some 52), (.build [(.int .i64 0), (.int .i64 0), (.int .i64 0), (.int .i64 0)] []), [], (some (49, true))⟩, ⟨(some 53), (.eqs true true [.i, .i, .i, .i]), [(.t 51), (.t 52)], (some (49, true))⟩, ⟨(some 54), .pick, [(.t 49), (.t 53), (.c (.rv (.bool false)))], none⟩]) (.seq (.cond (.t 54) (.regd [0, 0, 2, 6, 14, 0, 0, 0, 128, 0, 512, 1536, 3584, 0, 15872, 32256, 0, 65536, 262112, 524256, 1048574, 2097151, 4194303, 8388607] [⟨(some 55), .mv, [(.t 0)], none⟩, ⟨(some 56), .mv, [(.t 0)], none⟩, ⟨(some 57), .nilchk, [(.t 56)], none⟩, ⟨(some 58), (.fld 5), [(.t 57)], none⟩, ⟨(some 59), (.load 1 false), [(.t 58)], none⟩, ⟨(some 60), .mv, [(.t 1)], none⟩, ⟨(some 61), (.load 4 true), [(.t 6)], none⟩, ⟨(some 62), (.load 21 true), [(.t 5)], none⟩, ⟨(some 63), (.call 52), [(.t 62)], none⟩, ⟨(some 64), .mv, [(.t 0)], none⟩, ⟨(some 65), .nilchk, [(.t 64)], none⟩, ⟨(some 66), (.fld 2), [(.t 65)], none⟩, ⟨(some 67), (.load 1 false), [(.t 66)], none⟩, ⟨(some 68), .mv, [(.t 1)], none⟩, ⟨(some 69), (.ixs 4), [(.t 67), (.t 68)], none⟩, ⟨(some 70), (.load 4 true), [(.t 69)], none⟩, ⟨(some 71), (.fld 47), [(.t 4)], none⟩, ⟨(some 72), (.load 1 false), [(.t 71)], none⟩, ⟨(some 73), (.build [(.int .i64 0), (.int .i64 0), (.int .i64 0), (.int .i64 0), (.int .i64 0), (.int .i64 0), (.int .i64 0), (.int .i64 0), (.int .i64 0), (.int .i64 0), (.int .i64 0), (.int .i64 0), (.int .i64 0), (.int .i64 0), (.int .i64 0)] [(0, 1), (1, 1), (2, 4), (6, 4), (10, 4), (14, 1)]), [(.t 60), (.c (.rv (.int .i64 1))), (.t 61), (.t 63), (.t 70), (.t 72)], none⟩, ⟨(some 74), (.bsl 15), [(.t 73)], none⟩, ⟨(some 75), (.app 15 120), [(.t 59), (.t 74)], none⟩, ⟨(some 76), .nilchk, [(.t 55)], none⟩, ⟨(some 77), (.fld 5), [(.t 76)], none⟩, ⟨none, (.store 1), [(.t 77), (.t 75)], none⟩]) .skip) .ent)))))
theorem k_paint_painter_own : FnOK Go.Proofs.Try.prog 94 78 c_paint_painter_own [] := fnOK_of (by kernel_rfl)

def ckOKI : CK → RV → Bool
  | .b, .bool _ => true
  | .i, .int _ _ => true
  | _, _ => false
theorem itL_app0 {xs : List Itm} (a0 a1 a2 a3 a4 a5 a6 a7 a8 a9 a10 a11 a12 a13 a14 : Int) : rvs (itL xs) ++ [[SV.rv (.int .i64 a0), .rv (.int .i64 a1), .rv (.int .i64 a2), .rv (.int .i64 a3), .rv (.int .i64 a4), .rv (.int .i64 a5), .rv (.int .i64 a6), .rv (.int .i64 a7), .rv (.int .i64 a8), .rv (.int .i64 a9), .rv (.int .i64 a10), .rv (.int .i64 a11), .rv (.int .i64 a12), .rv (.int .i64 a13), .rv (.int .i64 a14)]] = rvs (itL (xs ++ [⟨a0, a1, ⟨a2, a3, a4, a5⟩, ⟨a6, a7, a8, a9⟩, ⟨a10, a11, a12, a13⟩, a14⟩])) := by simp [rvs, itL, Itm.cells]
/-- The painter. -/
def ptC (l : List Nd) (bx : List Bx) (cl : List Rc) (M Q : RV) (o : SV) : List SV := [.rv (kinV l), .rv (.sl 21 (bxL bx)), .rv (.sl 4 (rcL cl)), .rv M, .rv Q, o]
def ptH (l : List Nd) (bx : List Bx) (cl : List Rc) (M Q : RV) (q : Nat) (xs : List Itm) : HB := .var [.rv (kinV l), .rv (.sl 21 (bxL bx)), .rv (.sl 4 (rcL cl)), .rv M, .rv Q, .row q xs.length xs.length]
def ownI (l : List Nd) (bx : List Bx) (cl : List Rc) (n : Nat) : List Itm := ownS (styAt l n) n (bx.getD n default) (cl.getD n zeroR)

theorem bor_eqs (s : Sty) : ∃ p : Prop, p ∧ cellsEq [.i, .i, .i, .i] (s.border.ints.map SV.rv) [.rv (.int .i64 0), .rv (.int .i64 0), .rv (.int .i64 0), .rv (.int .i64 0)] = some (p, decide (s.border = ⟨0, 0, 0, 0⟩)) := by
  refine ⟨(IntKind.i64 = IntKind.i64) ∧ (IntKind.i64 = IntKind.i64) ∧ (IntKind.i64 = IntKind.i64) ∧ (IntKind.i64 = IntKind.i64) ∧ True, ⟨rfl, rfl, rfl, rfl, trivial⟩, ?_⟩
  rcases hb : s.border with ⟨a, b, c, d⟩
  have : decide ((⟨a, b, c, d⟩ : Q4 Int) = ⟨0, 0, 0, 0⟩) = ((a == 0) && ((b == 0) && ((c == 0) && ((d == 0) && true)))) := by
    rw [Bool.eq_iff_iff]; simp [Q4.mk.injEq]
  rw [this]; rfl
theorem bor_len (s : Sty) : (s.border.ints.map SV.rv).length = 4 := rfl
set_option maxRecDepth 20000 in
set_option maxHeartbeats 4000000 in
theorem sp_painter_own (l : List Nd) (hb : l.length ≤ 1000) (bx : List Bx) (cl : List Rc) (hbl : bx.length = l.length) (hcl : cl.length = l.length) (hf : bx.all fewB = true) (M Q : RV) (hM : M.one = true) (hQ : Q.one = true) (i q : Nat) (hiq : i ≠ q) (xs : List Itm) (hxs : xs.length ≤ 100000000) (n : Nat) (hn : n < l.length) :
    CallR Go.Proofs.Try.prog 94 [.ptr i 0, .rv (.int .i64 n)] [(i, ptH l bx cl M Q q xs), (q, .row 15 xs.length (rvs (itL xs)))] [(i, ptH l bx cl M Q q (xs ++ ownI l bx cl n)), (q, .row 15 (xs ++ ownI l bx cl n).length (rvs (itL (xs ++ ownI l bx cl n))))] (.tup []) := by
  refine callR_M k_paint_painter_own [i, q] [ptH l bx cl M Q 1 xs, .row 15 xs.length (rvs (itL xs))] [ptH l bx cl M Q q xs, .row 15 xs.length (rvs (itL xs))] [.ptr 0 0, .rv (.int .i64 n)] [.ptr i 0, .rv (.int .i64 n)] _ _ (by simp) (by simp [BkAll, bk_ptr, bk_rv]) rfl (by simp [nodupL, hiq]) (by simp [BkHs, ptH, rvs_inj, BkAll, bk_rv, bk_row]) (fun K hK => ?_)
  have hst := sp_Style l n
  have hby := bxL_getD (l := bx) (i := n) (by omega)
  have hcy := rcL_getD (l := cl) (i := n) (by omega)
  have hbk := bxL_len bx
  have hck := rcL_len cl
  have hee := sp_plan_Edges _ (few_at hf (i := n) (by omega))
  have hpp := sp_plan_Pads _ (few_at hf (i := n) (by omega))
  unfold ownI at hK
  generalize hs : styAt l n = s at *
  generalize hbb : bx.getD n default = b at *
  generalize hcc : cl.getD n zeroR = c at *
  simp -implicitDefEqProofs only [Rc.sv, Bx.sv] at hee hpp
  have qa : (b.cells.map SV.rv).take 21 = b.cells.map SV.rv := rfl
  have qa2 : b.cells.take 21 = b.cells := rfl
  have e46 := sty_at46 s
  have e47 := sty_at47 s
  have e38 := sty_ln38 s
  have hoS : ownS s n b c = (if s.back = 0 then [] else [⟨n, 0, edgesR b, zeroR, c, s.back⟩]) ++ (if s.line = 0 ∨ s.border = ⟨0, 0, 0, 0⟩ then [] else [⟨n, 1, edgesR b, padsR b, c, s.line⟩]) := rfl
  generalize edgesR b = e at *
  generalize padsR b = d at *
  obtain ⟨e0, e1, e2, e3⟩ := e
  obtain ⟨d0, d1, d2, d3⟩ := d
  obtain ⟨c0, c1, c2, c3⟩ := c
  simp -implicitDefEqProofs only [Rc.cells, List.map] at hee hpp hcy
  simp -implicitDefEqProofs only [c_paint_painter_own, ptH, go_sem]
  obtain ⟨p, hp, hpe⟩ := bor_eqs s
  have hxl := itL_len xs
  have htk : (itL xs).take xs.length = itL xs := List.take_of_length_le (by omega)
  have hxl2 := fun (y : Itm) => itL_len (xs ++ [y])
  have htk2 : ∀ y : Itm, (itL (xs ++ [y])).take (xs.length + 1) = itL (xs ++ [y]) := fun y => List.take_of_length_le (by rw [itL_len]; simp)
  by_cases h1 : s.back = 0
  · have f1 : (s.back != 0) = false := by simp [h1]
    by_cases h2 : s.line = 0
    · have f2 : (s.line != 0) = false := by simp [h2]
      have ho : ownS s n b ⟨c0, c1, c2, c3⟩ = [] := by rw [hoS]; rw [if_pos h1, if_pos (.inl h2)]; rfl
      rw [ho] at hK
      try rw [List.append_nil] at hK
      have y_1 := hst; have y_2 := hee; have y_3 := hpp; repeat' (first | (simp -implicitDefEqProofs only [go_sem, hby, hcy, hbk, hck, hbl, hcl, qa, qa2, bx_len, rc_len, sty_len, e46, e47, e38, hpe, bor_len, f1, f2, itL_app0, hxl, htk, hxl2, htk2]) | (with_reducible refine g_noent ?_) | (with_reducible first | refine g_call0 y_1 ?_ | refine g_calld0 y_1 ?_) | (with_reducible first | refine g_call0 y_2 ?_ | refine g_calld0 y_2 ?_) | (with_reducible first | refine g_call0 y_3 ?_ | refine g_calld0 y_3 ?_) | ((first | refine cdS (fun hg => ?_) (fun hg => ?_) | refine gdS (fun hg => ?_) (fun hg => ?_) | refine gddS (fun hg => ?_) (fun hg => ?_)) <;> try simp -implicitDefEqProofs only [hg, Bool.not_true, Bool.not_false]) | ((with_reducible apply And.intro); focus (first | trivial | omega | decide | (simp -implicitDefEqProofs only [maxLen]; omega) | (simp [maxLen, sty_len, nd_len, ndL_len, lnL_len, intsL_len, rvs_len, lensS_len] <;> omega) | (exact hp; done))) | fail)
      refine (hK _ _ _ _ [] (ent_refl _ _) ?_).1
      simp [retM, nodupL, newL, allU, keptL, retP, resL, lk, resT, RnHo, lkp, finU, hget_zero, hget_succ, hget, rnRows_rvs, rn_tup, rn_rv, rn_row, rn_ptr, rn_ifc, rn_agg, rn_dead, RnAll, ofL, rnAll_map, hiq, Ne.symm hiq, ptH]
    · have f2 : (s.line != 0) = true := by simp [h2]
      by_cases h3 : s.border = ⟨0, 0, 0, 0⟩
      · have ho : ownS s n b ⟨c0, c1, c2, c3⟩ = [] := by rw [hoS]; rw [if_pos h1, if_pos (.inr h3)]; rfl
        rw [ho] at hK
        try rw [List.append_nil] at hK
        rw [decide_eq_true h3] at hpe
        have y_4 := hst; have y_5 := hee; have y_6 := hpp; repeat' (first | (simp -implicitDefEqProofs only [go_sem, hby, hcy, hbk, hck, hbl, hcl, qa, qa2, bx_len, rc_len, sty_len, e46, e47, e38, hpe, bor_len, f1, f2, itL_app0, hxl, htk, hxl2, htk2]) | (with_reducible refine g_noent ?_) | (with_reducible first | refine g_call0 y_4 ?_ | refine g_calld0 y_4 ?_) | (with_reducible first | refine g_call0 y_5 ?_ | refine g_calld0 y_5 ?_) | (with_reducible first | refine g_call0 y_6 ?_ | refine g_calld0 y_6 ?_) | ((first | refine cdS (fun hg => ?_) (fun hg => ?_) | refine gdS (fun hg => ?_) (fun hg => ?_) | refine gddS (fun hg => ?_) (fun hg => ?_)) <;> try simp -implicitDefEqProofs only [hg, Bool.not_true, Bool.not_false]) | ((with_reducible apply And.intro); focus (first | trivial | omega | decide | (simp -implicitDefEqProofs only [maxLen]; omega) | (simp [maxLen, sty_len, nd_len, ndL_len, lnL_len, intsL_len, rvs_len, lensS_len] <;> omega) | (exact hp; done))) | fail)
        refine (hK _ _ _ _ [] (ent_refl _ _) ?_).1
        simp [retM, nodupL, newL, allU, keptL, retP, resL, lk, resT, RnHo, lkp, finU, hget_zero, hget_succ, hget, rnRows_rvs, rn_tup, rn_rv, rn_row, rn_ptr, rn_ifc, rn_agg, rn_dead, RnAll, ofL, rnAll_map, hiq, Ne.symm hiq, ptH]
      · have ho : ownS s n b ⟨c0, c1, c2, c3⟩ = [⟨n, 1, ⟨e0, e1, e2, e3⟩, ⟨d0, d1, d2, d3⟩, ⟨c0, c1, c2, c3⟩, s.line⟩] := by rw [hoS]; rw [if_pos h1, if_neg (fun h => h.elim h2 h3)]; rfl
        rw [ho] at hK
        rw [decide_eq_false h3] at hpe
        have y_7 := hst; have y_8 := hee; have y_9 := hpp; repeat' (first | (simp -implicitDefEqProofs only [go_sem, hby, hcy, hbk, hck, hbl, hcl, qa, qa2, bx_len, rc_len, sty_len, e46, e47, e38, hpe, bor_len, f1, f2, itL_app0, hxl, htk, hxl2, htk2]) | (with_reducible refine g_noent ?_) | (with_reducible first | refine g_call0 y_7 ?_ | refine g_calld0 y_7 ?_) | (with_reducible first | refine g_call0 y_8 ?_ | refine g_calld0 y_8 ?_) | (with_reducible first | refine g_call0 y_9 ?_ | refine g_calld0 y_9 ?_) | ((first | refine cdS (fun hg => ?_) (fun hg => ?_) | refine gdS (fun hg => ?_) (fun hg => ?_) | refine gddS (fun hg => ?_) (fun hg => ?_)) <;> try simp -implicitDefEqProofs only [hg, Bool.not_true, Bool.not_false]) | ((with_reducible apply And.intro); focus (first | trivial | omega | decide | (simp -implicitDefEqProofs only [maxLen]; omega) | (simp [maxLen, sty_len, nd_len, ndL_len, lnL_len, intsL_len, rvs_len, lensS_len] <;> omega) | (exact hp; done))) | fail)
        refine (hK _ _ _ _ [] (ent_refl _ _) ?_).1
        simp [retM, nodupL, newL, allU, keptL, retP, resL, lk, resT, RnHo, lkp, finU, hget_zero, hget_succ, hget, rnRows_rvs, rn_tup, rn_rv, rn_row, rn_ptr, rn_ifc, rn_agg, rn_dead, RnAll, ofL, rnAll_map, hiq, Ne.symm hiq, ptH]
  · have f1 : (s.back != 0) = true := by simp [h1]
    by_cases h2 : s.line = 0
    · have f2 : (s.line != 0) = false := by simp [h2]
      have ho : ownS s n b ⟨c0, c1, c2, c3⟩ = [⟨n, 0, ⟨e0, e1, e2, e3⟩, ⟨0, 0, 0, 0⟩, ⟨c0, c1, c2, c3⟩, s.back⟩] := by rw [hoS]; rw [if_neg h1, if_pos (.inl h2)]; rfl
      rw [ho] at hK
      try rw [List.append_nil] at hK
      have y_10 := hst; have y_11 := hee; have y_12 := hpp; repeat' (first | (simp -implicitDefEqProofs only [go_sem, hby, hcy, hbk, hck, hbl, hcl, qa, qa2, bx_len, rc_len, sty_len, e46, e47, e38, hpe, bor_len, f1, f2, itL_app0, hxl, htk, hxl2, htk2]) | (with_reducible refine g_noent ?_) | (with_reducible first | refine g_call0 y_10 ?_ | refine g_calld0 y_10 ?_) | (with_reducible first | refine g_call0 y_11 ?_ | refine g_calld0 y_11 ?_) | (with_reducible first | refine g_call0 y_12 ?_ | refine g_calld0 y_12 ?_) | ((first | refine cdS (fun hg => ?_) (fun hg => ?_) | refine gdS (fun hg => ?_) (fun hg => ?_) | refine gddS (fun hg => ?_) (fun hg => ?_)) <;> try simp -implicitDefEqProofs only [hg, Bool.not_true, Bool.not_false]) | ((with_reducible apply And.intro); focus (first | trivial | omega | decide | (simp -implicitDefEqProofs only [maxLen]; omega) | (simp [maxLen, sty_len, nd_len, ndL_len, lnL_len, intsL_len, rvs_len, lensS_len] <;> omega) | (exact hp; done))) | fail)
      refine (hK _ _ _ _ [] (ent_refl _ _) ?_).1
      simp [retM, nodupL, newL, allU, keptL, retP, resL, lk, resT, RnHo, lkp, finU, hget_zero, hget_succ, hget, rnRows_rvs, rn_tup, rn_rv, rn_row, rn_ptr, rn_ifc, rn_agg, rn_dead, RnAll, ofL, rnAll_map, hiq, Ne.symm hiq, ptH]
    · have f2 : (s.line != 0) = true := by simp [h2]
      by_cases h3 : s.border = ⟨0, 0, 0, 0⟩
      · have ho : ownS s n b ⟨c0, c1, c2, c3⟩ = [⟨n, 0, ⟨e0, e1, e2, e3⟩, ⟨0, 0, 0, 0⟩, ⟨c0, c1, c2, c3⟩, s.back⟩] := by rw [hoS]; rw [if_neg h1, if_pos (.inr h3)]; rfl
        rw [ho] at hK
        try rw [List.append_nil] at hK
        rw [decide_eq_true h3] at hpe
        have y_13 := hst; have y_14 := hee; have y_15 := hpp; repeat' (first | (simp -implicitDefEqProofs only [go_sem, hby, hcy, hbk, hck, hbl, hcl, qa, qa2, bx_len, rc_len, sty_len, e46, e47, e38, hpe, bor_len, f1, f2, itL_app0, hxl, htk, hxl2, htk2]) | (with_reducible refine g_noent ?_) | (with_reducible first | refine g_call0 y_13 ?_ | refine g_calld0 y_13 ?_) | (with_reducible first | refine g_call0 y_14 ?_ | refine g_calld0 y_14 ?_) | (with_reducible first | refine g_call0 y_15 ?_ | refine g_calld0 y_15 ?_) | ((first | refine cdS (fun hg => ?_) (fun hg => ?_) | refine gdS (fun hg => ?_) (fun hg => ?_) | refine gddS (fun hg => ?_) (fun hg => ?_)) <;> try simp -implicitDefEqProofs only [hg, Bool.not_true, Bool.not_false]) | ((with_reducible apply And.intro); focus (first | trivial | omega | decide | (simp -implicitDefEqProofs only [maxLen]; omega) | (simp [maxLen, sty_len, nd_len, ndL_len, lnL_len, intsL_len, rvs_len, lensS_len] <;> omega) | (exact hp; done))) | fail)
        refine (hK _ _ _ _ [] (ent_refl _ _) ?_).1
        simp [retM, nodupL, newL, allU, keptL, retP, resL, lk, resT, RnHo, lkp, finU, hget_zero, hget_succ, hget, rnRows_rvs, rn_tup, rn_rv, rn_row, rn_ptr, rn_ifc, rn_agg, rn_dead, RnAll, ofL, rnAll_map, hiq, Ne.symm hiq, ptH]
      · have ho : ownS s n b ⟨c0, c1, c2, c3⟩ = [⟨n, 0, ⟨e0, e1, e2, e3⟩, ⟨0, 0, 0, 0⟩, ⟨c0, c1, c2, c3⟩, s.back⟩, ⟨n, 1, ⟨e0, e1, e2, e3⟩, ⟨d0, d1, d2, d3⟩, ⟨c0, c1, c2, c3⟩, s.line⟩] := by rw [hoS]; rw [if_neg h1, if_neg (fun h => h.elim h2 h3)]; rfl
        rw [ho] at hK
        rw [decide_eq_false h3] at hpe
        have y_16 := hst; have y_17 := hee; have y_18 := hpp; repeat' (first | (simp -implicitDefEqProofs only [go_sem, hby, hcy, hbk, hck, hbl, hcl, qa, qa2, bx_len, rc_len, sty_len, e46, e47, e38, hpe, bor_len, f1, f2, itL_app0, hxl, htk, hxl2, htk2]) | (with_reducible refine g_noent ?_) | (with_reducible first | refine g_call0 y_16 ?_ | refine g_calld0 y_16 ?_) | (with_reducible first | refine g_call0 y_17 ?_ | refine g_calld0 y_17 ?_) | (with_reducible first | refine g_call0 y_18 ?_ | refine g_calld0 y_18 ?_) | ((first | refine cdS (fun hg => ?_) (fun hg => ?_) | refine gdS (fun hg => ?_) (fun hg => ?_) | refine gddS (fun hg => ?_) (fun hg => ?_)) <;> try simp -implicitDefEqProofs only [hg, Bool.not_true, Bool.not_false]) | ((with_reducible apply And.intro); focus (first | trivial | omega | decide | (simp -implicitDefEqProofs only [maxLen]; omega) | (simp [maxLen, sty_len, nd_len, ndL_len, lnL_len, intsL_len, rvs_len, lensS_len] <;> omega) | (exact hp; done))) | fail)
        refine (hK _ _ _ _ [] (ent_refl _ _) ?_).1
        simp [retM, nodupL, newL, allU, keptL, retP, resL, lk, resT, RnHo, lkp, finU, hget_zero, hget_succ, hget, rnRows_rvs, rn_tup, rn_rv, rn_row, rn_ptr, rn_ifc, rn_agg, rn_dead, RnAll, ofL, rnAll_map, hiq, Ne.symm hiq, ptH]
end Go.Eng


/- paint: tables that grow. -/
namespace Go.Eng
open Go

theorem fstI_cons (p : Int → Bool) (x : Nat) (r : List Nat) : fstI p (x :: r) = if p x = true then (x : Int) else fstI p r := by
  unfold fstI
  rw [List.find?_cons]
  cases h : p x <;> simp
theorem up_pth {l : List Nd} (hs : Shp l) {k : Nat} (h0 : 0 < k) (hk : k < l.length) : pth l k = k :: pth l (parL l k).toNat := by
  obtain ⟨p1, p2⟩ := hs.wf.2 k h0 hk
  exact pth_cons ⟨p1, by omega⟩
theorem par_made {l : List Nd} (hs : Shp l) {k : Nat} (h0 : 0 < k) (hk : k < l.length) (hm : madeAt l k = true) : ∃ p : Nat, parL l k = p ∧ p < k ∧ madeAt l p = true := by
  obtain ⟨p1, p2⟩ := hs.wf.2 k h0 hk
  refine ⟨(parL l k).toNat, by omega, by omega, ?_⟩
  simp -implicitDefEqProofs only [madeAt, Bool.and_eq_true, Int.toNat_natCast] at hm ⊢
  rw [madeS_par hs.wf h0 hk, Bool.and_eq_true] at hm
  exact ⟨inL_of (by omega), hm.2.2⟩
theorem ctx_step {l : List Nd} (hs : Shp l) {k p : Nat} (h0 : 0 < k) (hk : k < l.length) (hm : madeAt l k = true) (hp : parL l k = p) : ctxAt l k = if formAt l p = true then (p : Int) else ctxAt l p := by
  obtain ⟨p', hp', hpk, hpm⟩ := par_made hs h0 hk hm
  obtain rfl : p = p' := by omega
  have h1 : ctxAt l k = fstI (formAt l) (upAt l k) := by simp [ctxAt, hm]
  have h2 : ctxAt l p = fstI (formAt l) (upAt l p) := by simp [ctxAt, hpm]
  have h3 : upAt l k = pth l p := by
    simp -implicitDefEqProofs only [upAt, inL_of hk, if_true, Int.toNat_natCast]
    rw [up_pth hs h0 hk, hp, Int.toNat_natCast]; rfl
  have h4 : pth l p = p :: upAt l p := by
    simp -implicitDefEqProofs only [upAt, inL_of (l := l) (k := p) (by omega), if_true, Int.toNat_natCast]
    obtain ⟨r, hr⟩ := pth_head (l := l) (n := p)
    rw [hr]; rfl
  rw [h1, h3, h4, fstI_cons, h2]
theorem group_step {l : List Nd} (hs : Shp l) {k p : Nat} (h0 : 0 < k) (hk : k < l.length) (hm : madeAt l k = true) (hl : leadAt l k = false) (hp : parL l k = p) : groupAt l k = groupAt l p := by
  obtain ⟨p', hp', hpk, hpm⟩ := par_made hs h0 hk hm
  obtain rfl : p = p' := by omega
  have h1 : groupAt l k = fstI (leadAt l) (pth l k) := by simp [groupAt, hm]
  have h2 : groupAt l p = fstI (leadAt l) (pth l p) := by simp [groupAt, hpm]
  rw [h1, h2, up_pth hs h0 hk, hp, Int.toNat_natCast, fstI_cons, if_neg (by rw [hl]; simp)]
theorem lead_zero {l : List Nd} (hm : madeAt l 0 = true) : leadAt l 0 = true := by simp [leadAt, hm]
theorem form_zero {l : List Nd} (hm : madeAt l 0 = true) : formAt l 0 = true := by simp [formAt, lead_zero hm]
theorem made_z {l : List Nd} (hs : Shp l) {m : Nat} (h : madeAt l m = true) : madeAt l ((0 : Nat) : Int) = true := made_zero hs h

def tabTo (f : Nat → Int) (q : Nat → Bool) (L k : Nat) : List Int := (List.range L).map fun j => if (decide (j < k) && q j) = true then f j else 0
section tab
variable {f : Nat → Int} {q : Nat → Bool} {L k : Nat}
theorem tab_len : (tabTo f q L k).length = L := by simp [tabTo]
theorem tab_zero : tabTo f q L 0 = List.replicate L 0 := by
  refine List.ext_getElem (by simp [tabTo]) (fun i h1 h2 => ?_)
  simp [tabTo]
theorem tab_skip (h : q k = false) : tabTo f q L (k + 1) = tabTo f q L k := by
  refine List.ext_getElem (by simp [tabTo]) (fun i h1 h2 => ?_)
  simp -implicitDefEqProofs only [tabTo, List.getElem_map, List.getElem_range]
  by_cases e : i = k
  · subst e; simp [h]
  · have : decide (i < k + 1) = decide (i < k) := by rw [Bool.eq_iff_iff]; simp; omega
    rw [this]
theorem tab_set (h : q k = true) (hk : k < L) : (tabTo f q L k).set k (f k) = tabTo f q L (k + 1) := by
  refine List.ext_getElem (by simp [tabTo]) (fun i h1 h2 => ?_)
  simp -implicitDefEqProofs only [List.getElem_set, tabTo, List.getElem_map, List.getElem_range]
  by_cases e : k = i
  · subst e; simp [h]
  · have : decide (i < k + 1) = decide (i < k) := by rw [Bool.eq_iff_iff]; simp; omega
    rw [if_neg e, this]
theorem tab_at {p : Nat} (h : q p = true) (hp : p < k) (hL : p < L) : (tabTo f q L k).getD p 0 = f p := by
  simp [tabTo, List.getD_eq_getElem?_getD, hL, hp, h]
end tab

def selTab (q : Nat → Nat → Bool) (b L k : Nat) : List (List SV) := (List.range L).map fun p => [.row (p + b) (selTo (q p) k).length (selTo (q p) k).length]
def selRows (q : Nat → Nat → Bool) (L k : Nat) : List (Option HB) := (List.range L).map fun p => some (.row 1 (selTo (q p) k).length (rvs (intsL (natsI (selTo (q p) k)))))
section sel
variable {q : Nat → Nat → Bool} {b L k : Nat}
theorem selTab_len : (selTab q b L k).length = L := by simp [selTab]
theorem selRows_len : (selRows q L k).length = L := by simp [selRows]
theorem selTab_get {p : Nat} (hp : p < L) : (selTab q b L k)[p]?.getD [] = [.row (p + b) (selTo (q p) k).length (selTo (q p) k).length] := by simp [selTab, hp]
theorem selRows_get {p : Nat} {C : List (Option HB)} (hp : p < L) : hget (selRows q L k ++ C) p = some (.row 1 (selTo (q p) k).length (rvs (intsL (natsI (selTo (q p) k))))) := by
  unfold hget
  rw [List.getElem?_append_left (by rw [selRows_len]; exact hp)]
  simp [selRows, hp]
theorem selTab_zero : selTab q b L 0 = ghTab b L L := by
  refine List.ext_getElem (by simp [selTab, ghTab]) (fun i h1 h2 => ?_)
  simp [selTab] at h1
  simp [selTab, ghTab, selTo_zero, h1]; omega
theorem selRows_zero : selRows q L 0 = ghRows L 1 := by
  refine List.ext_getElem (by simp [selRows, ghRows]) (fun i h1 h2 => ?_)
  simp [selRows, ghRows, selTo_zero, natsI, intsL, rvs]
theorem selTab_skip (h : ∀ p, p < L → q p k = false) : selTab q b L (k + 1) = selTab q b L k := by
  refine List.ext_getElem (by simp [selTab]) (fun i h1 h2 => ?_)
  simp [selTab] at h1
  simp [selTab, selTo_succ, h i h1]
theorem selRows_skip (h : ∀ p, p < L → q p k = false) : selRows q L (k + 1) = selRows q L k := by
  refine List.ext_getElem (by simp [selRows]) (fun i h1 h2 => ?_)
  simp [selRows] at h1
  simp [selRows, selTo_succ, h i h1]
theorem selTab_next {u : Nat} (hu : q u k = true) (h : ∀ p, p < L → p ≠ u → q p k = false) : (selTab q b L k).set u [.row (u + b) ((selTo (q u) k).length + 1) ((selTo (q u) k).length + 1)] = selTab q b L (k + 1) := by
  refine List.ext_getElem (by simp [selTab]) (fun i h1 h2 => ?_)
  simp [selTab] at h2
  simp -implicitDefEqProofs only [List.getElem_set, selTab, List.getElem_map, List.getElem_range, selTo_succ]
  by_cases e : u = i
  · subst e; simp [hu]
  · rw [if_neg e, h i h2 (Ne.symm e)]; simp
theorem selRows_next {u : Nat} (hu : q u k = true) (h : ∀ p, p < L → p ≠ u → q p k = false) :
    (selRows q L k).set u (some (.row 1 ((selTo (q u) k).length + 1) (rvs (intsL (natsI (selTo (q u) k) ++ [(k : Int)]))))) = selRows q L (k + 1) := by
  refine List.ext_getElem (by simp [selRows]) (fun i h1 h2 => ?_)
  simp [selRows] at h2
  simp -implicitDefEqProofs only [List.getElem_set, selRows, List.getElem_map, List.getElem_range, selTo_succ]
  by_cases e : u = i
  · subst e; simp [hu, natsI]
  · rw [if_neg e, h i h2 (Ne.symm e)]; simp
end sel
def memV (q : Nat → Nat → Bool) (L : Nat) : List (List RV) := (List.range L).map fun p => [.sl 1 (intsL (natsI (selTo (q p) L)))]

theorem mem_none {l : List Nd} {k p : Nat} (h : madeAt l k = false ∨ leadAt l k = true) : memQ l p k = false := by
  unfold memQ
  rcases h with h | h
  · have : groupAt l k = -1 := by simp [groupAt, h]
    rw [this]; simp
  · rw [group_lead h]
    by_cases e : k = p
    · simp [e]
    · have : ((k : Int) == (p : Int)) = false := by simp; omega
      simp [this]
theorem part_none {l : List Nd} {k p : Nat} (h : leadAt l k = false ∨ k = 0) : partQ l p k = false := by
  unfold partQ
  rcases h with h | rfl
  · simp [h]
  · by_cases e : (0 : Nat) = p
    · simp [e]
    · by_cases hm : madeAt l ((0 : Nat) : Int) = true
      · have hc : ctxAt l ((0 : Nat) : Int) = -1 := by
          simp -implicitDefEqProofs only [ctxAt, hm, if_true]
          have : upAt l ((0 : Nat) : Int) = [] := by simp [upAt, pth_zero]
          rw [this]; rfl
        rw [hc]; simp
      · have : leadAt l ((0 : Nat) : Int) = false := by
          cases h : leadAt l ((0 : Nat) : Int) with
          | false => rfl
          | true => exact absurd (lead_made h) hm
        rw [this]; simp
theorem mem_one {l : List Nd} {k u : Nat} (hl : leadAt l k = false) (hg : groupAt l k = u) (hul : leadAt l u = true) : memQ l u k = true ∧ ∀ p, p ≠ u → memQ l p k = false := by
  have hne : k ≠ u := fun e => by subst e; rw [hl] at hul; simp at hul
  refine ⟨by simp [memQ, hg, hne], fun p hp => ?_⟩
  have : ((u : Int) == (p : Int)) = false := by simp; omega
  simp [memQ, hg, this]
theorem part_only {l : List Nd} {k u : Nat} (hl : leadAt l k = true) (hg : ctxAt l k = u) (hne : u ≠ k) : partQ l u k = true ∧ ∀ p, p ≠ u → partQ l p k = false := by
  refine ⟨by simp [partQ, hg, hl, Ne.symm hne], fun p hp => ?_⟩
  have : ((u : Int) == (p : Int)) = false := by simp; omega
  simp [partQ, hg, this]
end Go.Eng


/- paint: who is painted with whom. -/
namespace Go.Eng
open Go
/- (*decoupage/paint.painter).sort -/
def c_paint_painter_sort : AC := (.seq (.reg [⟨(some 7), .mv, [(.t 0)], none⟩, ⟨(some 8), .nilchk, [(.t 7)], none⟩, ⟨(some 9), (.fld 0), [(.t 8)], none⟩, ⟨(some 10), (.load 1 false), [(.t 9)], none⟩, ⟨(some 11), (.call 48), [(.t 10)], none⟩, ⟨(some 2), .mv, [(.t 11)], none⟩]) (.seq (.regd [0, 0, 0, 4, 0, 16, 13, 77, 205, 511, 1023, 2047] [⟨(some 12), .mv, [(.t 0)], none⟩, ⟨(some 13), .mv, [(.t 0)], none⟩, ⟨(some 14), .mv, [(.t 2)], none⟩, ⟨(some 15), (.mksl 1 24 [.nilsl]), [(.t 14), (.t 14)], none⟩, ⟨(some 16), .mv, [(.t 2)], none⟩, ⟨(some 17), (.mksl 1 24 [.nilsl]), [(.t 16), (.t 16)], none⟩, ⟨(some 18), .nilchk, [(.t 12)], none⟩, ⟨(some 19), (.fld 3), [(.t 18)], none⟩, ⟨none, (.store 1), [(.t 19), (.t 15)], none⟩, ⟨(some 20), .nilchk, [(.t 13)], none⟩, ⟨(some 21), (.fld 4), [(.t 20)], none⟩, ⟨none, (.store 1), [(.t 21), (.t 17)], none⟩]) (.seq (.regd [0, 1, 0, 4, 3, 31] [⟨(some 22), .mv, [(.t 2)], none⟩, ⟨(some 23), (.mksl 1 8 [(.int .i64 0)]), [(.t 22), (.t 22)], none⟩, ⟨(some 24), .mv, [(.t 2)], none⟩, ⟨(some 25), (.mksl 1 8 [(.int .i64 0)]), [(.t 24), (.t 24)], none⟩, ⟨(some 3), .mv, [(.t 23)], none⟩, ⟨(some 4), .mv, [(.t 25)], none⟩]) (.seq (.reg [⟨(some 26), .mv, [(.t 2)], none⟩, ⟨(some 27), .mv, [(.c (.rv (.int .i64 0)))], none⟩]) (.seq (.block 0 (.loop (.seq (.reg [⟨(some 28), (.ibin .lss), [(.t 27), (.t 26)], none⟩]) (.seq (.cond (.t 28) .skip (.exit 0)) (.seq (.seq (.block 1 (.seq (.reg [⟨(some 29), .mv, [(.t 27)], none⟩, ⟨(some 5), .mv, [(.t 29)], none⟩]) (.seq (.seq (.reg [⟨(some 30), .mv, [(.t 0)], none⟩, ⟨(some 31), .nilchk, [(.t 30)], none⟩, ⟨(some 32), (.fld 0), [(.t 31)], none⟩, ⟨(some 33), (.load 1 false), [(.t 32)], none⟩, ⟨(some 34), .mv, [(.t 5)], none⟩, ⟨(some 35), (.call 21), [(.t 33), (.t 34)], none⟩, ⟨(some 36), .not, [(.t 35)], none⟩]) (.cond (.t 36) (.exit 1) .skip)) (.seq (.reg [⟨(some 37), .mv, [(.t 0)], none⟩, ⟨(some 38), .nilchk, [(.t 37)], none⟩, ⟨(some 39), (.fld 0), [(.t 38)], none⟩, ⟨(some 40), (.load 1 false), [(.t 39)], none⟩, ⟨(some 41), .mv, [(.t 5)], none⟩, ⟨(some 42), (.call 80), [(.t 40), (.t 41)], none⟩, ⟨(some 6), .mv, [(.t 42)], none⟩]) (.seq (.seq (.reg [⟨(some 43), .mv, [(.t 5)], none⟩, ⟨(some 44), (.ibin .gtr), [(.t 43), (.c (.rv (.int .i64 0)))], none⟩]) (.seq (.cond (.t 44) (.seq (.reg [⟨(some 45), .mv, [(.t 4)], none⟩, ⟨(some 46), .mv, [(.t 5)], none⟩, ⟨(some 47), .mv, [(.t 4)], none⟩, ⟨(some 48), .mv, [(.t 6)], none⟩, ⟨(some 49), (.ixs 1), [(.t 47), (.t 48)], none⟩, ⟨(some 50), (.load 1 false), [(.t 49)], none⟩, ⟨(some 51), (.ixs 1), [(.t 45), (.t 46)], none⟩, ⟨none, (.store 1), [(.t 51), (.t 50)], none⟩]) (.seq (.reg [⟨(some 52), .mv, [(.t 0)], none⟩, ⟨(some 53), .nilchk, [(.t 52)], none⟩, ⟨(some 54), (.fld 0), [(.t 53)], none⟩, ⟨(some 55), (.load 1 false), [(.t 54)], none⟩, ⟨(some 56), .mv, [(.t 6)], none⟩, ⟨(some 57), (.call 91), [(.t 55), (.t 56)], none⟩]) (.seq (.cond (.t 57) (.reg [⟨(some 58), .mv, [(.t 4)], none⟩, ⟨(some 59), .mv, [(.t 5)], none⟩, ⟨(some 60), .mv, [(.t 6)], none⟩, ⟨(some 61), (.ixs 1), [(.t 58), (.t 59)], none⟩, ⟨none, (.store 1), [(.t 61), (.t 60)], none⟩]) .skip) .ent))) .skip) .ent)) (.seq (.seq (.reg [⟨(some 62), .mv, [(.t 0)], none⟩, ⟨(some 63), .nilchk, [(.t 62)], none⟩, ⟨(some 64), (.fld 0), [(.t 63)], none⟩, ⟨(some 65), (.load 1 false), [(.t 64)], none⟩, ⟨(some 66), .mv, [(.t 5)], none⟩, ⟨(some 67), (.call 92), [(.t 65), (.t 66)], none⟩]) (.cond (.t 67) (.seq (.reg [⟨(some 68), .mv, [(.t 3)], none⟩, ⟨(some 69), .mv, [(.t 5)], none⟩, ⟨(some 70), .mv, [(.t 5)], none⟩, ⟨(some 71), (.ixs 1), [(.t 68), (.t 69)], none⟩, ⟨none, (.store 1), [(.t 71), (.t 70)], none⟩]) (.seq (.seq (.reg [⟨(some 72), .mv, [(.t 5)], none⟩, ⟨(some 73), (.ibin .gtr), [(.t 72), (.c (.rv (.int .i64 0)))], none⟩]) (.seq (.cond (.t 73) (.regd [0, 1, 3, 7, 0, 0, 48, 112, 0, 256, 768, 1792, 0, 0, 12288, 28672, 65280, 130816, 0, 262144, 1048320, 2097151, 4194303] [⟨(some 74), .mv, [(.t 0)], none⟩, ⟨(some 75), .nilchk, [(.t 74)], none⟩, ⟨(some 76), (.fld 4), [(.t 75)], none⟩, ⟨(some 77), (.load 1 false), [(.t 76)], none⟩, ⟨(some 78), .mv, [(.t 4)], none⟩, ⟨(some 79), .mv, [(.t 5)], none⟩, ⟨(some 80), (.ixs 1), [(.t 78), (.t 79)], none⟩, ⟨(some 81), (.load 1 false), [(.t 80)], none⟩, ⟨(some 82), .mv, [(.t 0)], none⟩, ⟨(some 83), .nilchk, [(.t 82)], none⟩, ⟨(some 84), (.fld 4), [(.t 83)], none⟩, ⟨(some 85), (.load 1 false), [(.t 84)], none⟩, ⟨(some 86), .mv, [(.t 4)], none⟩, ⟨(some 87), .mv, [(.t 5)], none⟩, ⟨(some 88), (.ixs 1), [(.t 86), (.t 87)], none⟩, ⟨(some 89), (.load 1 false), [(.t 88)], none⟩, ⟨(some 90), (.ixs 1), [(.t 85), (.t 89)], none⟩, ⟨(some 91), (.load 1 false), [(.t 90)], none⟩, ⟨(some 92), .mv, [(.t 5)], none⟩, ⟨(some 93), (.bsl 1), [(.t 92)], none⟩, ⟨(some 94), (.app 1 8), [(.t 91), (.t 93)], none⟩, ⟨(some 95), (.ixs 1), [(.t 77), (.t 81)], none⟩, ⟨none, (.store 1), [(.t 95), (.t 94)], none⟩]) .skip) .ent)) (.exit 1))) .skip)) (.seq (.reg [⟨(some 96), .mv, [(.t 3)], none⟩, ⟨(some 97), .mv, [(.t 5)], none⟩, ⟨(some 98), .mv, [(.t 3)], none⟩, ⟨(some 99), .mv, [(.t 6)], none⟩, ⟨(some 100), (.ixs 1), [(.t 98), (.t 99)], none⟩, ⟨(some 101), (.load 1 false), [(.t 100)], none⟩, ⟨(some 102), (.ixs 1), [(.t 96), (.t 97)], none⟩, ⟨none, (.store 1), [(.t 102), (.t 101)], none⟩]) (.regd [0, 1, 3, 7, 0, 0, 48, 112, 0, 256, 768, 1792, 0, 0, 12288, 28672, 65280, 130816, 0, 262144, 1048320, 2097151, 4194303] [⟨(some 103), .mv, [(.t 0)], none⟩, ⟨(some 104), .nilchk, [(.t 103)], none⟩, ⟨(some 105), (.fld 3), [(.t 104)], none⟩, ⟨(some 106), (.load 1 false), [(.t 105)], none⟩, ⟨(some 107), .mv, [(.t 3)], none⟩, ⟨(some 108), .mv, [(.t 5)], none⟩, ⟨(some 109), (.ixs 1), [(.t 107), (.t 108)], none⟩, ⟨(some 110), (.load 1 false), [(.t 109)], none⟩, ⟨(some 111), .mv, [(.t 0)], none⟩, ⟨(some 112), .nilchk, [(.t 111)], none⟩, ⟨(some 113), (.fld 3), [(.t 112)], none⟩, ⟨(some 114), (.load 1 false), [(.t 113)], none⟩, ⟨(some 115), .mv, [(.t 3)], none⟩, ⟨(some 116), .mv, [(.t 5)], none⟩, ⟨(some 117), (.ixs 1), [(.t 115), (.t 116)], none⟩, ⟨(some 118), (.load 1 false), [(.t 117)], none⟩, ⟨(some 119), (.ixs 1), [(.t 114), (.t 118)], none⟩, ⟨(some 120), (.load 1 false), [(.t 119)], none⟩, ⟨(some 121), .mv, [(.t 5)], none⟩, ⟨(some 122), (.bsl 1), [(.t 121)], none⟩, ⟨(some 123), (.app 1 8), [(.t 120), (.t 122)], none⟩, ⟨(some 124), (.ixs 1), [(.t 106), (.t 110)], none⟩, ⟨none, (.store 1), [(.t 124), (.t 123)], none⟩])))))))) .ent) (.reg [⟨(some 125), (.ibin .add), [(.t 27), (.c (.rv (.int .i64 1)))], none⟩, ⟨(some 27), .mv, [(.t 125)], none⟩])))))) .ent)))))
theorem k_paint_painter_sort : FnOK Go.Proofs.Try.prog 70 126 c_paint_painter_sort [] := fnOK_of (by kernel_rfl)


theorem ctx_foundM {l : List Nd} (hs : Shp l) {m : Nat} (h0 : 0 < m) (hmd : madeAt l m = true) : ∃ u, u < l.length ∧ ctxAt l m = (u : Nat) ∧ formAt l u = true ∧ u ≠ m := by
  have hm : m < l.length := by simp [madeAt, inL] at hmd; exact hmd.1
  have hf : formAt l ((0 : Nat) : Int) = true := by simp [formAt, leadAt, made_zero hs hmd]
  have hv : ctxAt l m = fstI (formAt l) (upAt l m) := by simp [ctxAt, hmd]
  have hz : 0 ∈ upAt l m := by
    have := zero_mem hs m m (by omega) hm
    obtain ⟨r, hr⟩ := pth_head (l := l) (n := m)
    simp -implicitDefEqProofs only [upAt, inL_of hm, if_true, Int.toNat_natCast]
    rw [hr] at this ⊢
    simp at this ⊢
    rcases this with h | h
    · omega
    · exact h
  rcases fst_cases (formAt l) (upAt l m) with ⟨_, h1⟩ | ⟨i, hi, h1, h2, _⟩
  · have := h1 0 hz
    rw [hf] at this; simp at this
  · obtain ⟨a, b, c⟩ := up_below hs (List.getElem_mem hi)
    exact ⟨_, c, by rw [hv, h1], h2, by omega⟩

def leadTo (l : List Nd) (k : Nat) : List Int := tabTo (fun j => groupAt l j) (fun j => madeAt l j) l.length k
def ctxTo (l : List Nd) (k : Nat) : List Int := tabTo (fun j => ctxAt l j) (fun j => decide (0 < j) && madeAt l j) l.length k
theorem leadTo_len {l : List Nd} {k : Nat} : (leadTo l k).length = l.length := tab_len
theorem ctxTo_len {l : List Nd} {k : Nat} : (ctxTo l k).length = l.length := tab_len
def mTab (l : List Nd) (k : Nat) : List (List SV) := selTab (memQ l) 5 l.length k
def pTab (l : List Nd) (k : Nat) : List (List SV) := selTab (partQ l) (5 + l.length) l.length k
def aRows (l : List Nd) (k : Nat) : List (Option HB) := selRows (memQ l) l.length k ++ selRows (partQ l) l.length k
section
variable {l : List Nd} {k : Nat}
theorem mTab_len : (mTab l k).length = l.length := selTab_len
theorem pTab_len : (pTab l k).length = l.length := selTab_len
theorem mTab_get {p : Nat} (hp : p < l.length) : (mTab l k)[p]?.getD [] = [.row (p + 5) (selTo (memQ l p) k).length (selTo (memQ l p) k).length] := selTab_get hp
theorem pTab_get {p r : Nat} (hp : p < l.length) (hr : r = p + l.length) : (pTab l k)[p]?.getD [] = [.row (r + 5) (selTo (partQ l p) k).length (selTo (partQ l p) k).length] := by
  subst hr
  rw [show p + l.length + 5 = p + (5 + l.length) by omega]
  exact selTab_get hp
variable {N : Nat}
theorem aR_len : (aRows l k).length = l.length + l.length := by unfold aRows; rw [List.length_append, selRows_len, selRows_len]
theorem aR_get1 {p : Nat} {C : List (Option HB)} (hp : p < l.length) : hget (aRows l k ++ C) p = some (.row 1 (selTo (memQ l p) k).length (rvs (intsL (natsI (selTo (memQ l p) k))))) := by
  unfold aRows
  rw [List.append_assoc]
  exact selRows_get hp
theorem aR_get2 {p r : Nat} {C : List (Option HB)} (hp : p < l.length) (hr : r = p + l.length) : hget (aRows l k ++ C) r = some (.row 1 (selTo (partQ l p) k).length (rvs (intsL (natsI (selTo (partQ l p) k))))) := by
  subst hr
  unfold aRows
  rw [List.append_assoc]
  have := selRows_get (q := partQ l) (L := l.length) (k := k) (C := C) hp
  unfold hget at this ⊢
  rw [List.getElem?_append_right (by rw [selRows_len]; omega), selRows_len, Nat.add_sub_cancel]
  exact this
theorem aR_end (hN : N = l.length + l.length) {x : Option HB} {C : List (Option HB)} : hget (aRows l k ++ x :: C) N = x := by
  subst hN
  unfold hget
  rw [List.getElem?_append_right (by rw [aR_len]; exact Nat.le_refl _), aR_len]
  simp
theorem aR_end2 (hN : N = l.length + l.length) {r : Nat} {hb x : Option HB} {C : List (Option HB)} : hget ((aRows l k).set r hb ++ x :: C) N = x := by
  subst hN
  unfold hget
  rw [List.getElem?_append_right (by rw [List.length_set, aR_len]; exact Nat.le_refl _), List.length_set, aR_len]
  simp
theorem aR_set (hN : N = l.length + l.length) {r : Nat} {y : Option HB} {C : List (Option HB)} (hr : r < N) : (aRows l k ++ C).set r y = (aRows l k).set r y ++ C := by
  subst hN
  rw [List.set_append_left _ _ (by rw [aR_len]; exact hr)]
theorem aR_skip (h1 : ∀ p, memQ l p k = false) (h2 : ∀ p, partQ l p k = false) : aRows l (k + 1) = aRows l k ∧ mTab l (k + 1) = mTab l k ∧ pTab l (k + 1) = pTab l k := by
  refine ⟨?_, selTab_skip fun p _ => h1 p, selTab_skip fun p _ => h2 p⟩
  unfold aRows; rw [selRows_skip fun p _ => h1 p, selRows_skip fun p _ => h2 p]
theorem aR_next1 {u : Nat} (hul : u < l.length) (hu : memQ l u k = true) (h1 : ∀ p, p ≠ u → memQ l p k = false) (h2 : ∀ p, partQ l p k = false) :
    (aRows l k).set u (some (.row 1 ((selTo (memQ l u) k).length + 1) (rvs (intsL (natsI (selTo (memQ l u) k) ++ [(k : Int)]))))) = aRows l (k + 1) ∧ (mTab l k).set u [.row (u + 5) ((selTo (memQ l u) k).length + 1) ((selTo (memQ l u) k).length + 1)] = mTab l (k + 1) ∧ pTab l (k + 1) = pTab l k := by
  refine ⟨?_, selTab_next hu fun p _ hp => h1 p hp, selTab_skip fun p _ => h2 p⟩
  unfold aRows
  rw [List.set_append_left _ _ (by rw [selRows_len]; exact hul), selRows_next hu fun p _ hp => h1 p hp, selRows_skip fun p _ => h2 p]
theorem aR_next2 {u r : Nat} (hul : u < l.length) (hr : r = u + l.length) (hu : partQ l u k = true) (h1 : ∀ p, p ≠ u → partQ l p k = false) (h2 : ∀ p, memQ l p k = false) :
    (aRows l k).set r (some (.row 1 ((selTo (partQ l u) k).length + 1) (rvs (intsL (natsI (selTo (partQ l u) k) ++ [(k : Int)]))))) = aRows l (k + 1) ∧ (pTab l k).set u [.row (r + 5) ((selTo (partQ l u) k).length + 1) ((selTo (partQ l u) k).length + 1)] = pTab l (k + 1) ∧ mTab l (k + 1) = mTab l k := by
  subst hr
  refine ⟨?_, ?_, selTab_skip fun p _ => h2 p⟩
  · unfold aRows
    rw [List.set_append_right _ _ (by rw [selRows_len]; omega), selRows_len, Nat.add_sub_cancel, selRows_next hu fun p _ hp => h1 p hp, selRows_skip fun p _ => h2 p]
  · rw [show u + l.length + 5 = u + (5 + l.length) by omega]
    exact selTab_next hu fun p _ hp => h1 p hp
end

def sHeap (l : List Nd) (bx : List Bx) (cl : List Rc) (k : Nat) : List (Option HB) := some (.var [.rv (kinV l), .rv (.sl 21 (bxL bx)), .rv (.sl 4 (rcL cl)), .row 1 0 l.length, .row 2 0 l.length, .rv .nilsl]) :: some (.row 1 0 (mTab l k)) :: some (.row 1 0 (pTab l k)) :: some (.row 1 0 (rvs (intsL (leadTo l k)))) :: some (.row 1 0 (rvs (intsL (ctxTo l k)))) :: aRows l k
theorem sHeap_len {l : List Nd} {bx : List Bx} {cl : List Rc} {k : Nat} : (sHeap l bx cl k).length = l.length + l.length + 5 := by simp [sHeap, aR_len]
theorem sHeap_cl {l : List Nd} {bx : List Bx} {cl : List Rc} {k : Nat} : AllSome (ClH (l.length + l.length + 5)) (sHeap l bx cl k) := by
  refine ⟨by simp [ClH, ClA, clS_row, clS_rv], fun i x hx => ?_, fun i x hx => ?_, clH_rvs, clH_rvs, AllSome.of fun j x hx => ?_⟩
  · obtain ⟨hl, rfl⟩ := List.getElem?_eq_some_iff.1 hx
    simp [mTab_len] at hl
    simp [mTab, selTab, ClA, clS_row]; omega
  · obtain ⟨hl, rfl⟩ := List.getElem?_eq_some_iff.1 hx
    simp [pTab_len] at hl
    simp [pTab, selTab, ClA, clS_row]; omega
  · unfold aRows at hx
    obtain ⟨hl, rfl⟩ := List.getElem?_eq_some_iff.1 hx
    by_cases h : j < l.length
    · exact ⟨.row 1 (selTo (memQ l j) k).length (rvs (intsL (natsI (selTo (memQ l j) k)))), by rw [List.getElem_append_left (by rw [selRows_len]; exact h)]; simp [selRows], clH_rvs⟩
    · exact ⟨.row 1 (selTo (partQ l (j - l.length)) k).length (rvs (intsL (natsI (selTo (partQ l (j - l.length)) k)))), by rw [List.getElem_append_right (by rw [selRows_len]; omega)]; simp [selRows], clH_rvs⟩
theorem sHeap_tail {l : List Nd} {bx : List Bx} {cl : List Rc} {k : Nat} {env env' : List (Nat × SV)} {C : List (Option HB)} (he : ClEnv (l.length + l.length + 5) env env') : Ent 1 ⟨env, sHeap l bx cl k ++ C⟩ ⟨env', sHeap l bx cl k⟩ :=
  ent_tail (by rw [sHeap_len]; omega) (by rw [sHeap_len]; exact sHeap_cl) (by rw [sHeap_len]; exact he)

set_option maxRecDepth 20000 in
set_option maxHeartbeats 8000000 in
theorem sp_painter_sort (l : List Nd) (hs : Shp l) (hb : l.length ≤ 1000) (bx : List Bx) (cl : List Rc) (i : Nat) :
    CallR Go.Proofs.Try.prog 70 [.ptr i 0] [(i, .var [.rv (kinV l), .rv (.sl 21 (bxL bx)), .rv (.sl 4 (rcL cl)), .rv .nilsl, .rv .nilsl, .rv .nilsl])]
      [(i, .var [.rv (kinV l), .rv (.sl 21 (bxL bx)), .rv (.sl 4 (rcL cl)), .rv (.sl 1 (memV (memQ l) l.length)), .rv (.sl 1 (memV (partQ l) l.length)), .rv .nilsl])] (.tup []) := by
  refine callR_M k_paint_painter_sort [i] [.var [.rv (kinV l), .rv (.sl 21 (bxL bx)), .rv (.sl 4 (rcL cl)), .rv .nilsl, .rv .nilsl, .rv .nilsl]] [.var [.rv (kinV l), .rv (.sl 21 (bxL bx)), .rv (.sl 4 (rcL cl)), .rv .nilsl, .rv .nilsl, .rv .nilsl]] [.ptr 0 0] [.ptr i 0] _ _ (by simp) (by simp [BkAll, bk_ptr]) rfl (by simp [nodupL]) (by simp [BkHs, BkAll, bk_rv]) (fun K hK => ?_)
  simp -implicitDefEqProofs only [c_paint_painter_sort, go_sem]
  have y_1 := sp_Len l; repeat' (first | (simp -implicitDefEqProofs only [go_sem, rvs_rep1]) | (with_reducible refine g_noent ?_) | (with_reducible first | refine g_call0 y_1 ?_ | refine g_calld0 y_1 ?_) | ((first | refine cdS (fun hg => ?_) (fun hg => ?_) | refine gdS (fun hg => ?_) (fun hg => ?_) | refine gddS (fun hg => ?_) (fun hg => ?_)) <;> try simp -implicitDefEqProofs only [hg, Bool.not_true, Bool.not_false]) | ((with_reducible apply And.intro); focus (first | trivial | omega | decide | (simp -implicitDefEqProofs only [maxLen]; omega) | (simp [maxLen, sty_len, nd_len, ndL_len, lnL_len, intsL_len, rvs_len, lensS_len] <;> omega))) | fail)
  refine g_loop (ι := Nat) (fun k => [(27, .rv (.int .i64 k)), (26, .rv (.int .i64 l.length)), (3, .row 3 0 l.length), (4, .row 4 0 l.length), (0, .ptr 0 0)]) (fun k => some (.var [.rv (kinV l), .rv (.sl 21 (bxL bx)), .rv (.sl 4 (rcL cl)), .row 1 0 l.length, .row 2 0 l.length, .rv .nilsl]) :: some (.row 1 0 (mTab l k)) :: some (.row 1 0 (pTab l k)) :: some (.row 1 0 (rvs (intsL (leadTo l k)))) :: some (.row 1 0 (rvs (intsL (ctxTo l k)))) :: aRows l k) (fun k => k ≤ l.length) (fun k => l.length - k) 0 (by simp) ?_ (fun k hk K' hN hX hR => ?_)
  · refine (ent_env (env' := [(27, .rv (.int .i64 0)), (26, .rv (.int .i64 l.length)), (3, .row 3 0 l.length), (4, .row 4 0 l.length), (0, .ptr 0 0)]) (by simp [lk])).trans ?_
    refine (ent_ghosts (r := 1) (v := 0) (n := l.length) (e := 1) rfl).trans ?_
    refine (ent_ghosts (r := 2) (v := 0) (n := l.length) (e := 1) rfl).trans ?_
    have e1 : mTab l 0 = ghTab 5 l.length l.length := selTab_zero
    have e2 : pTab l 0 = ghTab (5 + l.length) l.length l.length := selTab_zero
    have e3 : aRows l 0 = ghRows l.length 1 ++ ghRows l.length 1 := by unfold aRows; rw [selRows_zero, selRows_zero]
    have e4 : leadTo l 0 = List.replicate l.length 0 := tab_zero
    have e5 : ctxTo l 0 = List.replicate l.length 0 := tab_zero
    rw [e1, e2, e3, e4, e5]
    simp -implicitDefEqProofs only [List.length_append, List.length_cons, List.length_nil, List.length_set, ghRows, List.length_replicate]
    simp [ent_refl]
  simp -implicitDefEqProofs only [go_sem]
  refine cdS (fun hg => ?_) (fun hg => ?_)
  · have hk4 : k < l.length := by simp at hg; omega
    have wu := wrap_up (k := k) (by omega)
    have hmd := sp_Made l k
    have hLl := leadTo_len (l := l) (k := k)
    have hLn := intsL_len (leadTo l k)
    have hCl := ctxTo_len (l := l) (k := k)
    have hCn := intsL_len (ctxTo l k)
    have hLk := intsL_getD (l := leadTo l k) (i := k) (by omega)
    have hCk := intsL_getD (l := ctxTo l k) (i := k) (by omega)
    cases hm : madeAt l k with
    | false =>
      rw [hm] at hmd
      have y_2 := hmd; repeat' (first | (simp -implicitDefEqProofs only [go_sem, wu]) | (with_reducible refine g_noent ?_) | (with_reducible first | refine g_call0 y_2 ?_ | refine g_calld0 y_2 ?_) | ((first | refine cdS (fun hg => ?_) (fun hg => ?_) | refine gdS (fun hg => ?_) (fun hg => ?_) | refine gddS (fun hg => ?_) (fun hg => ?_)) <;> try simp -implicitDefEqProofs only [hg, Bool.not_true, Bool.not_false]) | ((with_reducible apply And.intro); focus (first | trivial | omega | decide | (simp -implicitDefEqProofs only [maxLen]; omega) | (simp [maxLen, sty_len, nd_len, ndL_len, lnL_len, intsL_len, rvs_len, lensS_len] <;> omega))) | fail)
      refine hN (k + 1) _ _ (by omega) (by omega) ?_
      have hle : leadAt l k = false := by
        cases h : leadAt l k with
        | false => rfl
        | true => rw [lead_made h] at hm; cases hm
      obtain ⟨a1, a2, a3⟩ := aR_skip (l := l) (k := k) (fun p => mem_none (.inl hm)) (fun p => part_none (.inl hle))
      have a4 : leadTo l (k + 1) = leadTo l k := tab_skip hm
      have a5 : ctxTo l (k + 1) = ctxTo l k := tab_skip (by simp [hm])
      rw [a1, a2, a3, a4, a5]
      exact ent_env (by simp [lk])
    | true =>
      rw [hm] at hmd
      have hld := sp_Leads l k
      have hpr := sp_Parent l k
      have hpe : parAt l k = parL l k := by simp [parAt, inL_of hk4]
      by_cases hk0 : 0 < k
      · have hgt : decide ((k : Int) > 0) = true := decide_eq_true (by omega)
        obtain ⟨p, hp, hpk, hpm⟩ := par_made hs hk0 hk4 hm
        obtain ⟨N, hN2⟩ : ∃ N, N = l.length + l.length := ⟨_, rfl⟩
        have krl := aR_len (l := l) (k := k)
        rw [← hN2] at krl
        have hfr := sp_Forms l p
        rw [hpe, hp] at hpr
        have hCp := intsL_getD (l := ctxTo l k) (i := p) (by omega)
        have hLp := intsL_getD (l := leadTo l k) (i := p) (by omega)
        have hkrE := fun (x : Option HB) C => aR_end (l := l) (k := k) (N := N) hN2 (x := x) (C := C)
        have hkrE2 := fun (r : Nat) (hb x : Option HB) C => aR_end2 (l := l) (k := k) (N := N) hN2 (r := r) (hb := hb) (x := x) (C := C)
        have hctx := ctx_step hs hk0 hk4 hm hp
        obtain ⟨u, hul, hcu, hcf, huk⟩ := ctx_foundM hs hk0 hm
        have hset5 : (ctxTo l k).set k (u : Int) = ctxTo l (k + 1) := by rw [← hcu]; exact tab_set (f := fun j => ctxAt l j) (q := fun j => decide (0 < j) && madeAt l j) (by simp [hk0, hm]) hk4
        have hC1 : (ctxTo l (k + 1)).length = l.length := ctxTo_len
        have hC2 := intsL_len (ctxTo l (k + 1))
        have hC3 := intsL_getD (l := ctxTo l (k + 1)) (i := k) (by omega)
        have hC4 : (ctxTo l (k + 1)).getD k 0 = (u : Int) := by rw [← hcu]; exact tab_at (f := fun j => ctxAt l j) (q := fun j => decide (0 < j) && madeAt l j) (by simp [hk0, hm]) (by omega) hk4
        rw [hC4] at hC3
        have hSet : ∀ z : Int, ((ctxTo l k).set k z).length = l.length := fun z => by simp [hCl]
        have hSet2 := fun z : Int => intsL_len ((ctxTo l k).set k z)
        have hSet3 : ∀ z : Int, (intsL ((ctxTo l k).set k z))[k]?.getD [] = [.int .i64 z] := fun z => by
          rw [intsL_getD (by rw [hSet]; exact hk4), List.getD_eq_getElem?_getD, List.getElem?_set_self (by omega)]; rfl
        have hSS : ∀ z : Int, ((ctxTo l k).set k z).set k (u : Int) = ctxTo l (k + 1) := fun z => by rw [List.set_set]; exact hset5
        have hctv : formAt l p = false → (ctxTo l k).getD p 0 = (u : Int) := fun hf => by
          rw [hf] at hctx
          simp -implicitDefEqProofs only [Bool.false_eq_true, if_false] at hctx
          have hp0 : 0 < p := by
            apply Nat.pos_of_ne_zero
            rintro rfl
            have := form_zero (l := l) (by simpa using made_z hs hm)
            simp at hf
            rw [this] at hf; cases hf
          rw [← hcu, hctx]
          exact tab_at (f := fun j => ctxAt l j) (q := fun j => decide (0 < j) && madeAt l j) (by simp [hp0, hpm]) hpk (by omega)
        have hctw : formAt l p = true → p = u := fun hf => by
          rw [hf, if_pos rfl] at hctx
          omega
        cases hle : leadAt l k with
        | true =>
          rw [hle] at hld
          have hgl : groupAt l k = k := group_lead hle
          have hset4 : (leadTo l k).set k (k : Int) = leadTo l (k + 1) := by
            have := tab_set (f := fun j => groupAt l j) (q := fun j => madeAt l j) (L := l.length) (k := k) hm hk4
            rw [hgl] at this; exact this
          obtain ⟨r, hr⟩ : ∃ r, r = u + l.length := ⟨_, rfl⟩
          have hrN : r < N := by omega
          obtain ⟨o1, o2⟩ := part_only hle hcu huk
          obtain ⟨a1, a2, a3⟩ := aR_next2 hul hr o1 o2 (fun p => mem_none (.inr hle))
          have hpl := pTab_len (l := l) (k := k)
          have hpg := pTab_get (k := k) hul hr
          have hrg := fun C => aR_get2 (k := k) (C := C) hul hr
          have hsp := fun (y : Option HB) C => aR_set (l := l) (k := k) hN2 (y := y) (C := C) hrN
          have q0 : (r = N) = False := eq_false (by omega)
          have q1 : (r = N + 1) = False := eq_false (by omega)
          have q2 : (r = N + 2) = False := eq_false (by omega)
          have hkl : (natsI (selTo (partQ l u) k)).length = (selTo (partQ l u) k).length := by simp [natsI]
          have hkl2 := intsL_len (natsI (selTo (partQ l u) k))
          have htk : (intsL (natsI (selTo (partQ l u) k))).take (selTo (partQ l u) k).length = intsL (natsI (selTo (partQ l u) k)) := List.take_of_length_le (by omega)
          have hkk := selTo_len (q := partQ l u) (k := k)
          cases hf : formAt l p with
          | true =>
            have hpu := hctw hf
            subst hpu
            rw [hf] at hfr
            have y_3 := hmd; have y_4 := hpr; have y_5 := hfr; have y_6 := hld; repeat' (first | (simp -implicitDefEqProofs only [go_sem, hgt, hCl, hCn, hCp, hCk, rvs_set1, hSet, hSet2, hSet3, hSS, hLl, hLn, hLk, hset4, hpl, hC1, hC2, hC3, hpg, krl, hkrE, hkrE2, hrg, hsp, List.append_assoc, q0, q1, q2, hkl, hkl2, htk, rvs_app1, a1, a2, wu]) | (with_reducible refine g_noent ?_) | (with_reducible first | refine g_call0 y_3 ?_ | refine g_calld0 y_3 ?_) | (with_reducible first | refine g_call0 y_4 ?_ | refine g_calld0 y_4 ?_) | (with_reducible first | refine g_call0 y_5 ?_ | refine g_calld0 y_5 ?_) | (with_reducible first | refine g_call0 y_6 ?_ | refine g_calld0 y_6 ?_) | ((first | refine cdS (fun hg => ?_) (fun hg => ?_) | refine gdS (fun hg => ?_) (fun hg => ?_) | refine gddS (fun hg => ?_) (fun hg => ?_)) <;> try simp -implicitDefEqProofs only [hg, Bool.not_true, Bool.not_false]) | ((with_reducible apply And.intro); focus (first | trivial | omega | decide | (simp -implicitDefEqProofs only [maxLen]; omega) | (simp [maxLen, sty_len, nd_len, ndL_len, lnL_len, intsL_len, rvs_len, lensS_len] <;> omega) | (simp (decide := true) [compatB, compatB1, apartT, disj, Nat.testBit, q0, q1, q2]; done))) | fail)
            rw [← a3]
            exact hN (k + 1) _ _ (by omega) (by omega) (sHeap_tail (l := l) (bx := bx) (cl := cl) (k := k + 1) (by simp [ClEnv, lk, clS_rv, clS_ptr, clS_row]))
          | false =>
            rw [hf] at hfr
            have hcv := hctv hf
            rw [hcv] at hCp
            have y_7 := hmd; have y_8 := hpr; have y_9 := hfr; have y_10 := hld; repeat' (first | (simp -implicitDefEqProofs only [go_sem, hgt, hCl, hCn, hCp, hCk, rvs_set1, hset5, hLl, hLn, hLk, hset4, hpl, hC1, hC2, hC3, hpg, krl, hkrE, hkrE2, hrg, hsp, List.append_assoc, q0, q1, q2, hkl, hkl2, htk, rvs_app1, a1, a2, wu]) | (with_reducible refine g_noent ?_) | (with_reducible first | refine g_call0 y_7 ?_ | refine g_calld0 y_7 ?_) | (with_reducible first | refine g_call0 y_8 ?_ | refine g_calld0 y_8 ?_) | (with_reducible first | refine g_call0 y_9 ?_ | refine g_calld0 y_9 ?_) | (with_reducible first | refine g_call0 y_10 ?_ | refine g_calld0 y_10 ?_) | ((first | refine cdS (fun hg => ?_) (fun hg => ?_) | refine gdS (fun hg => ?_) (fun hg => ?_) | refine gddS (fun hg => ?_) (fun hg => ?_)) <;> try simp -implicitDefEqProofs only [hg, Bool.not_true, Bool.not_false]) | ((with_reducible apply And.intro); focus (first | trivial | omega | decide | (simp -implicitDefEqProofs only [maxLen]; omega) | (simp [maxLen, sty_len, nd_len, ndL_len, lnL_len, intsL_len, rvs_len, lensS_len] <;> omega) | (simp (decide := true) [compatB, compatB1, apartT, disj, Nat.testBit, q0, q1, q2]; done))) | fail)
            rw [← a3]
            exact hN (k + 1) _ _ (by omega) (by omega) (sHeap_tail (l := l) (bx := bx) (cl := cl) (k := k + 1) (by simp [ClEnv, lk, clS_rv, clS_ptr, clS_row]))
        | false =>
          rw [hle] at hld
          obtain ⟨g, hgl, hgu, hgf⟩ := group_found hs hm
          have hgs := group_step hs hk0 hk4 hm hle hp
          have hgp : (leadTo l k).getD p 0 = (g : Int) := by
            rw [← hgu, hgs]
            exact tab_at (f := fun j => groupAt l j) (q := fun j => madeAt l j) hpm hpk (by omega)
          rw [hgp] at hLp
          have hset4 : (leadTo l k).set k (g : Int) = leadTo l (k + 1) := by
            rw [← hgu]; exact tab_set (f := fun j => groupAt l j) (q := fun j => madeAt l j) (L := l.length) (k := k) hm hk4
          have hL1 : (leadTo l (k + 1)).length = l.length := leadTo_len
          have hL2 := intsL_len (leadTo l (k + 1))
          have hL3 := intsL_getD (l := leadTo l (k + 1)) (i := k) (by omega)
          have hL4 : (leadTo l (k + 1)).getD k 0 = (g : Int) := by rw [← hgu]; exact tab_at (f := fun j => groupAt l j) (q := fun j => madeAt l j) hm (by omega) hk4
          rw [hL4] at hL3
          have hrN : g < N := by omega
          obtain ⟨o1, o2⟩ := mem_one hle hgu hgf
          obtain ⟨a1, a2, a3⟩ := aR_next1 hgl o1 o2 (fun p => part_none (.inl hle))
          have hpl := mTab_len (l := l) (k := k)
          have hpg := mTab_get (k := k) hgl
          have hrg := fun C => aR_get1 (k := k) (C := C) hgl
          have hsp := fun (y : Option HB) C => aR_set (l := l) (k := k) hN2 (y := y) (C := C) hrN
          have q0 : (g = N) = False := eq_false (by omega)
          have q1 : (g = N + 1) = False := eq_false (by omega)
          have q2 : (g = N + 2) = False := eq_false (by omega)
          have hkl : (natsI (selTo (memQ l g) k)).length = (selTo (memQ l g) k).length := by simp [natsI]
          have hkl2 := intsL_len (natsI (selTo (memQ l g) k))
          have htk : (intsL (natsI (selTo (memQ l g) k))).take (selTo (memQ l g) k).length = intsL (natsI (selTo (memQ l g) k)) := List.take_of_length_le (by omega)
          have hkk := selTo_len (q := memQ l g) (k := k)
          cases hf : formAt l p with
          | true =>
            have hpu := hctw hf
            subst hpu
            rw [hf] at hfr
            have y_11 := hmd; have y_12 := hpr; have y_13 := hfr; have y_14 := hld; repeat' (first | (simp -implicitDefEqProofs only [go_sem, hgt, hCl, hCn, hCp, hCk, rvs_set1, hSet, hSet2, hSet3, hSS, hLl, hLn, hLk, hLp, hset4, hL1, hL2, hL3, hpl, hpg, krl, hkrE, hkrE2, hrg, hsp, List.append_assoc, q0, q1, q2, hkl, hkl2, htk, rvs_app1, a1, a2, wu]) | (with_reducible refine g_noent ?_) | (with_reducible first | refine g_call0 y_11 ?_ | refine g_calld0 y_11 ?_) | (with_reducible first | refine g_call0 y_12 ?_ | refine g_calld0 y_12 ?_) | (with_reducible first | refine g_call0 y_13 ?_ | refine g_calld0 y_13 ?_) | (with_reducible first | refine g_call0 y_14 ?_ | refine g_calld0 y_14 ?_) | ((first | refine cdS (fun hg => ?_) (fun hg => ?_) | refine gdS (fun hg => ?_) (fun hg => ?_) | refine gddS (fun hg => ?_) (fun hg => ?_)) <;> try simp -implicitDefEqProofs only [hg, Bool.not_true, Bool.not_false]) | ((with_reducible apply And.intro); focus (first | trivial | omega | decide | (simp -implicitDefEqProofs only [maxLen]; omega) | (simp [maxLen, sty_len, nd_len, ndL_len, lnL_len, intsL_len, rvs_len, lensS_len] <;> omega) | (simp (decide := true) [compatB, compatB1, apartT, disj, Nat.testBit, q0, q1, q2]; done))) | fail)
            rw [← a3]
            exact hN (k + 1) _ _ (by omega) (by omega) (sHeap_tail (l := l) (bx := bx) (cl := cl) (k := k + 1) (by simp [ClEnv, lk, clS_rv, clS_ptr, clS_row]))
          | false =>
            rw [hf] at hfr
            have hcv := hctv hf
            rw [hcv] at hCp
            have y_15 := hmd; have y_16 := hpr; have y_17 := hfr; have y_18 := hld; repeat' (first | (simp -implicitDefEqProofs only [go_sem, hgt, hCl, hCn, hCp, hCk, rvs_set1, hset5, hLl, hLn, hLk, hLp, hset4, hL1, hL2, hL3, hpl, hpg, krl, hkrE, hkrE2, hrg, hsp, List.append_assoc, q0, q1, q2, hkl, hkl2, htk, rvs_app1, a1, a2, wu]) | (with_reducible refine g_noent ?_) | (with_reducible first | refine g_call0 y_15 ?_ | refine g_calld0 y_15 ?_) | (with_reducible first | refine g_call0 y_16 ?_ | refine g_calld0 y_16 ?_) | (with_reducible first | refine g_call0 y_17 ?_ | refine g_calld0 y_17 ?_) | (with_reducible first | refine g_call0 y_18 ?_ | refine g_calld0 y_18 ?_) | ((first | refine cdS (fun hg => ?_) (fun hg => ?_) | refine gdS (fun hg => ?_) (fun hg => ?_) | refine gddS (fun hg => ?_) (fun hg => ?_)) <;> try simp -implicitDefEqProofs only [hg, Bool.not_true, Bool.not_false]) | ((with_reducible apply And.intro); focus (first | trivial | omega | decide | (simp -implicitDefEqProofs only [maxLen]; omega) | (simp [maxLen, sty_len, nd_len, ndL_len, lnL_len, intsL_len, rvs_len, lensS_len] <;> omega) | (simp (decide := true) [compatB, compatB1, apartT, disj, Nat.testBit, q0, q1, q2]; done))) | fail)
            rw [← a3]
            exact hN (k + 1) _ _ (by omega) (by omega) (sHeap_tail (l := l) (bx := bx) (cl := cl) (k := k + 1) (by simp [ClEnv, lk, clS_rv, clS_ptr, clS_row]))
      · obtain rfl : k = 0 := by omega
        have hgt : decide (((0 : Nat) : Int) > 0) = false := rfl
        have hlt : leadAt l ((0 : Nat) : Int) = true := lead_zero hm
        rw [hlt] at hld
        have hgl : groupAt l ((0 : Nat) : Int) = ((0 : Nat) : Int) := group_lead hlt
        have hset : (leadTo l 0).set 0 ((0 : Nat) : Int) = leadTo l (0 + 1) := by rw [← hgl]; exact tab_set (f := fun j => groupAt l j) hm hk4
        have y_19 := hmd; have y_20 := hpr; have y_21 := hld; repeat' (first | (simp -implicitDefEqProofs only [go_sem, hgt, hLl, hLn, hLk, rvs_set1, hset, wu]) | (with_reducible refine g_noent ?_) | (with_reducible first | refine g_call0 y_19 ?_ | refine g_calld0 y_19 ?_) | (with_reducible first | refine g_call0 y_20 ?_ | refine g_calld0 y_20 ?_) | (with_reducible first | refine g_call0 y_21 ?_ | refine g_calld0 y_21 ?_) | ((first | refine cdS (fun hg => ?_) (fun hg => ?_) | refine gdS (fun hg => ?_) (fun hg => ?_) | refine gddS (fun hg => ?_) (fun hg => ?_)) <;> try simp -implicitDefEqProofs only [hg, Bool.not_true, Bool.not_false]) | ((with_reducible apply And.intro); focus (first | trivial | omega | decide | (simp -implicitDefEqProofs only [maxLen]; omega) | (simp [maxLen, sty_len, nd_len, ndL_len, lnL_len, intsL_len, rvs_len, lensS_len] <;> omega))) | fail)
        refine hN 1 _ _ (by omega) (by omega) ?_
        obtain ⟨a1, a2, a3⟩ := aR_skip (l := l) (k := 0) (fun p => mem_none (.inr hlt)) (fun p => part_none (.inr rfl))
        have a5 : ctxTo l (0 + 1) = ctxTo l 0 := tab_skip (by simp)
        rw [a1, a2, a3, a5]
        exact ent_env (by simp [lk])
  · have hk4 : k = l.length := by simp at hg; omega
    subst hk4
    simp -implicitDefEqProofs only [go_sem]
    refine hX _ _ _ ?_
    repeat' (first | (simp -implicitDefEqProofs only [go_sem]) | (with_reducible refine g_noent ?_) | ((first | refine cdS (fun hg => ?_) (fun hg => ?_) | refine gdS (fun hg => ?_) (fun hg => ?_) | refine gddS (fun hg => ?_) (fun hg => ?_)) <;> try simp -implicitDefEqProofs only [hg, Bool.not_true, Bool.not_false]) | ((with_reducible apply And.intro); focus (first | trivial | omega | decide | (simp -implicitDefEqProofs only [maxLen]; omega) | (simp [maxLen, sty_len, nd_len, ndL_len, lnL_len, intsL_len, rvs_len, lensS_len] <;> omega))) | fail)
    refine (hK _ _ _ _ [] (ent_refl _ _) ?_).1
    simp -implicitDefEqProofs only [retM, List.map_cons, List.map_nil, List.append_nil]
    have hfz : ∀ (q : Nat → Nat → Bool) (j : Nat) (b : Nat) (h : Hp), h j = some (.row 1 0 (selTab q b l.length l.length)) → 0 < j → 0 < b → (∀ p, p < l.length → h (p + b) = some (.row 1 (selTo (q p) l.length).length (rvs (intsL (natsI (selTo (q p) l.length)))))) → Fz (ofL [some i]) h (.row j 0 l.length) (.sl 1 (memV q l.length)) := fun q j b h hj h0 hb0 hr => by
      refine .row j 1 0 l.length _ _ (by match j, h0 with | j + 1, _ => rfl) hj (by simp [memV]) (by rw [selTab_len]; exact Nat.le_refl _) (fun i x r hx hr => ?_) (fun i r k q hr hq => ?_) (fun i' x r k y q' hx hr' hy hq => ?_)
      · obtain ⟨_, rfl⟩ := List.getElem?_eq_some_iff.1 hx
        obtain ⟨_, rfl⟩ := List.getElem?_eq_some_iff.1 hr
        simp [selTab, memV]
      · obtain ⟨_, rfl⟩ := List.getElem?_eq_some_iff.1 hr
        have := List.mem_of_getElem? hq
        simp [memV] at this
        rw [this]; rfl
      · obtain ⟨hl, rfl⟩ := List.getElem?_eq_some_iff.1 hx
        obtain ⟨_, rfl⟩ := List.getElem?_eq_some_iff.1 hr'
        rw [selTab_len] at hl
        cases k with
        | succ k => simp [selTab] at hy
        | zero =>
          simp [selTab] at hy
          simp [memV] at hq
          subst hy; subst hq
          exact fz_rows (xs := intsL (natsI (selTo (q i') l.length))) (hr i' hl) (by obtain ⟨m, hm⟩ : ∃ m, i' + b = m + 1 := ⟨i' + b - 1, by omega⟩; rw [hm]; rfl) (by simp [intsL, natsI]) (intsL_one _)
    have f1 := hfz (memQ l) 1 5 (hget (some (.var [.rv (kinV l), .rv (.sl 21 (bxL bx)), .rv (.sl 4 (rcL cl)), .row 1 0 l.length, .row 2 0 l.length, .rv .nilsl]) :: some (.row 1 0 (mTab l l.length)) :: some (.row 1 0 (pTab l l.length)) :: some (.row 1 0 (rvs (intsL (leadTo l l.length)))) :: some (.row 1 0 (rvs (intsL (ctxTo l l.length)))) :: aRows l l.length)) rfl (by decide) (by decide) (fun p hp => by
      have := aR_get1 (l := l) (k := l.length) (C := []) hp
      rw [List.append_nil] at this
      exact this)
    have f2 := hfz (partQ l) 2 (5 + l.length) (hget (some (.var [.rv (kinV l), .rv (.sl 21 (bxL bx)), .rv (.sl 4 (rcL cl)), .row 1 0 l.length, .row 2 0 l.length, .rv .nilsl]) :: some (.row 1 0 (mTab l l.length)) :: some (.row 1 0 (pTab l l.length)) :: some (.row 1 0 (rvs (intsL (leadTo l l.length)))) :: some (.row 1 0 (rvs (intsL (ctxTo l l.length)))) :: aRows l l.length)) rfl (by decide) (by omega) (fun p hp => by
      have := aR_get2 (l := l) (k := l.length) (C := []) hp rfl
      rw [List.append_nil] at this
      rw [show p + (5 + l.length) = (p + l.length) + 5 by omega]
      exact this)
    refine ⟨by simp [nodupL], trivial, ⟨.head _, trivial⟩, ⟨?_, trivial⟩, trivial, .tup _ _ rfl (fun i x y hx => by simp [resT] at hx)⟩
    simp -implicitDefEqProofs only [finU, lkp, if_true, List.zip_cons_cons, List.zip_nil_right]
    exact ⟨rn_rv.2 rfl, rn_rv.2 rfl, rn_rv.2 rfl, .fz _ _ f1, .fz _ _ f2, rn_rv.2 rfl, trivial⟩
end Go.Eng


/- agenda: the order of entries. -/
namespace Go.Eng
open Go
/- (decoupage/agenda.Entry).Compare -/
def c_agenda_Entry_Compare : AC := (.seq (.reg [⟨(some 2), .box, [(.t 0)], none⟩, ⟨(some 3), .box, [(.t 1)], none⟩, ⟨(some 4), .mv, [(.c (.rv (.int .i64 0)))], none⟩]) (.seq (.regd [0, 1, 0, 4, 15, 0, 32, 0, 128, 511, 0, 1024, 0, 4096, 16383, 32767, 65535, 131071] [⟨(some 5), (.fld 0), [(.t 2)], none⟩, ⟨(some 6), (.load 1 false), [(.t 5)], none⟩, ⟨(some 7), (.fld 0), [(.t 3)], none⟩, ⟨(some 8), (.load 1 false), [(.t 7)], none⟩, ⟨(some 9), (.call 142), [(.t 6), (.t 8)], none⟩, ⟨(some 10), (.fld 1), [(.t 2)], none⟩, ⟨(some 11), (.load 1 false), [(.t 10)], none⟩, ⟨(some 12), (.fld 1), [(.t 3)], none⟩, ⟨(some 13), (.load 1 false), [(.t 12)], none⟩, ⟨(some 14), (.call 142), [(.t 11), (.t 13)], none⟩, ⟨(some 15), (.fld 2), [(.t 2)], none⟩, ⟨(some 16), (.load 1 false), [(.t 15)], none⟩, ⟨(some 17), (.fld 2), [(.t 3)], none⟩, ⟨(some 18), (.load 1 false), [(.t 17)], none⟩, ⟨(some 19), (.call 143), [(.t 16), (.t 18)], none⟩, ⟨(some 20), (.bsl 1), [(.t 9), (.t 14), (.t 19)], none⟩, ⟨(some 21), (.call 141), [(.t 20)], none⟩, ⟨(some 4), .mv, [(.t 21)], none⟩]) .ret))
theorem k_agenda_Entry_Compare : FnOK Go.Proofs.Try.prog 140 22 c_agenda_Entry_Compare [(.t 4)] := fnOK_of (by kernel_rfl)

structure Ent3 where
  key : Int
  tie : Int
  n : Int
  deriving DecidableEq

def Ent3.cells (e : Ent3) : List RV := [.int .i64 e.key, .int .i64 e.tie, .int .i64 e.n]
def Ent3.sv (e : Ent3) : SV := .agg [.rv (.int .i64 e.key), .rv (.int .i64 e.tie), .rv (.int .i64 e.n)]

def cmpIA (x y : Int) : Int := if x < y then -1 else if x > y then 1 else 0

theorem sp_cmp_isNaN_int (x : Int) : CallR Go.Proofs.Try.prog 145 [.rv (.int .i64 x)] [] [] (.rv (.bool false)) := by
  refine callR_F k_cmp_isNaN_int [.int .i64 x] _ (by simp) (fun K hK => ?_)
  simp -implicitDefEqProofs only [c_cmp_isNaN_int, g_nil, g_skip, g_reg, g_regd, g_seq, g_block, g_end, g_cond, g_ret, g_exit, gx_nil, gx_c, gx_o, gx_d, gx_b, g_onil, g_dnil, g_op, g_opg, g_opd, g_opdg, condI, callvI, invI, plainI, opI, guardI, callvdI, invdI, plaindI, opdI, guarddI, opE, o1, o2, ix2, loadE, storeE, boxE, allLen, bslE, buildE, fits, fldE, ixsE, ixaE, ixvE, fldvE, lenE, lensE, srcE, appE, bnd2, bndL, bndH, bnd0, bndE, slcE, slcC, pickE, allocE, nilchkE, isNilSV, ibinE, ibin, ishfE, ishf, eqnilE, eqbE, notE, negE, cviE, mkslE, mxE, mnE, extE, isNilSl, isNilFn, isNilIf, isNilO, eqniloE, eqsF, eqsE, cellsEq, cellEq, sbinE, sbin, ifcOf, tasF, tasE, cellsSV, cellsAll, layO, mkEnv, lk, hget_zero, hget_succ, putE, uphO, uph, uphL, evX, rdsX, uIds, List.map_cons, List.map_nil, List.length_cons, List.length_nil, List.length_append, List.length_map, List.length_set, List.set_cons_zero, List.set_cons_succ, List.cons_append, List.nil_append, List.append_nil, List.getElem?_cons_zero, List.getElem?_cons_succ, List.getElem?_nil, List.take_succ_cons, List.take_zero, List.drop_succ_cons, List.drop_zero, List.drop_nil, List.take_nil, Option.getD_some, Option.getD_none, Option.map_some, Option.map_none, true_and, and_true, ↓reduceIte, Nat.reduceEqDiff, Nat.reduceAdd, Nat.reduceSub, Nat.reduceMul, Nat.reduceLeDiff, Nat.reduceLT, Nat.zero_add, Nat.add_zero, decide_eq_true_eq, Bool.false_eq_true, reduceCtorEq, rvs_len, rvs_get, rvs_fold, rvs_take, rvs_append, Int.toNat_natCast, bneTT, bneTF, bneFT, bneFF, Bool.not_true, Bool.not_false, splice0, slcaE, clrE, chunks]
  refine (hK _ _ ?_).2
  simp [resL, retP, lk, resT, rn_rv]

theorem sp_cmp_isNaN_int64 (x : Int) : CallR Go.Proofs.Try.prog 144 [.rv (.int .i64 x)] [] [] (.rv (.bool false)) := by
  refine callR_F k_cmp_isNaN_int64 [.int .i64 x] _ (by simp) (fun K hK => ?_)
  simp -implicitDefEqProofs only [c_cmp_isNaN_int64, g_nil, g_skip, g_reg, g_regd, g_seq, g_block, g_end, g_cond, g_ret, g_exit, gx_nil, gx_c, gx_o, gx_d, gx_b, g_onil, g_dnil, g_op, g_opg, g_opd, g_opdg, condI, callvI, invI, plainI, opI, guardI, callvdI, invdI, plaindI, opdI, guarddI, opE, o1, o2, ix2, loadE, storeE, boxE, allLen, bslE, buildE, fits, fldE, ixsE, ixaE, ixvE, fldvE, lenE, lensE, srcE, appE, bnd2, bndL, bndH, bnd0, bndE, slcE, slcC, pickE, allocE, nilchkE, isNilSV, ibinE, ibin, ishfE, ishf, eqnilE, eqbE, notE, negE, cviE, mkslE, mxE, mnE, extE, isNilSl, isNilFn, isNilIf, isNilO, eqniloE, eqsF, eqsE, cellsEq, cellEq, sbinE, sbin, ifcOf, tasF, tasE, cellsSV, cellsAll, layO, mkEnv, lk, hget_zero, hget_succ, putE, uphO, uph, uphL, evX, rdsX, uIds, List.map_cons, List.map_nil, List.length_cons, List.length_nil, List.length_append, List.length_map, List.length_set, List.set_cons_zero, List.set_cons_succ, List.cons_append, List.nil_append, List.append_nil, List.getElem?_cons_zero, List.getElem?_cons_succ, List.getElem?_nil, List.take_succ_cons, List.take_zero, List.drop_succ_cons, List.drop_zero, List.drop_nil, List.take_nil, Option.getD_some, Option.getD_none, Option.map_some, Option.map_none, true_and, and_true, ↓reduceIte, Nat.reduceEqDiff, Nat.reduceAdd, Nat.reduceSub, Nat.reduceMul, Nat.reduceLeDiff, Nat.reduceLT, Nat.zero_add, Nat.add_zero, decide_eq_true_eq, Bool.false_eq_true, reduceCtorEq, rvs_len, rvs_get, rvs_fold, rvs_take, rvs_append, Int.toNat_natCast, bneTT, bneTF, bneFT, bneFF, Bool.not_true, Bool.not_false, splice0, slcaE, clrE, chunks]
  refine (hK _ _ ?_).2
  simp [resL, retP, lk, resT, rn_rv]

theorem sp_cmp_Compare_int (x y : Int) : CallR Go.Proofs.Try.prog 143 [.rv (.int .i64 x), .rv (.int .i64 y)] [] [] (.rv (.int .i64 (cmpIA x y))) := by
  refine callR_F k_cmp_Compare_int [.int .i64 x, .int .i64 y] _ (by simp) (fun K hK => ?_)
  simp -implicitDefEqProofs only [c_cmp_Compare_int, g_nil, g_skip, g_reg, g_regd, g_seq, g_block, g_end, g_cond, g_ret, g_exit, gx_nil, gx_c, gx_o, gx_d, gx_b, g_onil, g_dnil, g_op, g_opg, g_opd, g_opdg, condI, callvI, invI, plainI, opI, guardI, callvdI, invdI, plaindI, opdI, guarddI, opE, o1, o2, ix2, loadE, storeE, boxE, allLen, bslE, buildE, fits, fldE, ixsE, ixaE, ixvE, fldvE, lenE, lensE, srcE, appE, bnd2, bndL, bndH, bnd0, bndE, slcE, slcC, pickE, allocE, nilchkE, isNilSV, ibinE, ibin, ishfE, ishf, eqnilE, eqbE, notE, negE, cviE, mkslE, mxE, mnE, extE, isNilSl, isNilFn, isNilIf, isNilO, eqniloE, eqsF, eqsE, cellsEq, cellEq, sbinE, sbin, ifcOf, tasF, tasE, cellsSV, cellsAll, layO, mkEnv, lk, hget_zero, hget_succ, putE, uphO, uph, uphL, evX, rdsX, uIds, List.map_cons, List.map_nil, List.length_cons, List.length_nil, List.length_append, List.length_map, List.length_set, List.set_cons_zero, List.set_cons_succ, List.cons_append, List.nil_append, List.append_nil, List.getElem?_cons_zero, List.getElem?_cons_succ, List.getElem?_nil, List.take_succ_cons, List.take_zero, List.drop_succ_cons, List.drop_zero, List.drop_nil, List.take_nil, Option.getD_some, Option.getD_none, Option.map_some, Option.map_none, true_and, and_true, ↓reduceIte, Nat.reduceEqDiff, Nat.reduceAdd, Nat.reduceSub, Nat.reduceMul, Nat.reduceLeDiff, Nat.reduceLT, Nat.zero_add, Nat.add_zero, decide_eq_true_eq, Bool.false_eq_true, reduceCtorEq, rvs_len, rvs_get, rvs_fold, rvs_take, rvs_append, Int.toNat_natCast, bneTT, bneTF, bneFT, bneFF, Bool.not_true, Bool.not_false, splice0, slcaE, clrE, chunks]
  refine g_call0 (sp_cmp_isNaN_int x) ?_
  simp -implicitDefEqProofs only [g_nil, g_skip, g_reg, g_regd, g_seq, g_block, g_end, g_cond, g_ret, g_exit, gx_nil, gx_c, gx_o, gx_d, gx_b, g_onil, g_dnil, g_op, g_opg, g_opd, g_opdg, condI, callvI, invI, plainI, opI, guardI, callvdI, invdI, plaindI, opdI, guarddI, opE, o1, o2, ix2, loadE, storeE, boxE, allLen, bslE, buildE, fits, fldE, ixsE, ixaE, ixvE, fldvE, lenE, lensE, srcE, appE, bnd2, bndL, bndH, bnd0, bndE, slcE, slcC, pickE, allocE, nilchkE, isNilSV, ibinE, ibin, ishfE, ishf, eqnilE, eqbE, notE, negE, cviE, mkslE, mxE, mnE, extE, isNilSl, isNilFn, isNilIf, isNilO, eqniloE, eqsF, eqsE, cellsEq, cellEq, sbinE, sbin, ifcOf, tasF, tasE, cellsSV, cellsAll, layO, mkEnv, lk, hget_zero, hget_succ, putE, uphO, uph, uphL, evX, rdsX, uIds, List.map_cons, List.map_nil, List.length_cons, List.length_nil, List.length_append, List.length_map, List.length_set, List.set_cons_zero, List.set_cons_succ, List.cons_append, List.nil_append, List.append_nil, List.getElem?_cons_zero, List.getElem?_cons_succ, List.getElem?_nil, List.take_succ_cons, List.take_zero, List.drop_succ_cons, List.drop_zero, List.drop_nil, List.take_nil, Option.getD_some, Option.getD_none, Option.map_some, Option.map_none, true_and, and_true, ↓reduceIte, Nat.reduceEqDiff, Nat.reduceAdd, Nat.reduceSub, Nat.reduceMul, Nat.reduceLeDiff, Nat.reduceLT, Nat.zero_add, Nat.add_zero, decide_eq_true_eq, Bool.false_eq_true, reduceCtorEq, rvs_len, rvs_get, rvs_fold, rvs_take, rvs_append, Int.toNat_natCast, bneTT, bneTF, bneFT, bneFF, Bool.not_true, Bool.not_false, splice0, slcaE, clrE, chunks]
  refine g_call0 (sp_cmp_isNaN_int y) ?_
  simp -implicitDefEqProofs only [g_nil, g_skip, g_reg, g_regd, g_seq, g_block, g_end, g_cond, g_ret, g_exit, gx_nil, gx_c, gx_o, gx_d, gx_b, g_onil, g_dnil, g_op, g_opg, g_opd, g_opdg, condI, callvI, invI, plainI, opI, guardI, callvdI, invdI, plaindI, opdI, guarddI, opE, o1, o2, ix2, loadE, storeE, boxE, allLen, bslE, buildE, fits, fldE, ixsE, ixaE, ixvE, fldvE, lenE, lensE, srcE, appE, bnd2, bndL, bndH, bnd0, bndE, slcE, slcC, pickE, allocE, nilchkE, isNilSV, ibinE, ibin, ishfE, ishf, eqnilE, eqbE, notE, negE, cviE, mkslE, mxE, mnE, extE, isNilSl, isNilFn, isNilIf, isNilO, eqniloE, eqsF, eqsE, cellsEq, cellEq, sbinE, sbin, ifcOf, tasF, tasE, cellsSV, cellsAll, layO, mkEnv, lk, hget_zero, hget_succ, putE, uphO, uph, uphL, evX, rdsX, uIds, List.map_cons, List.map_nil, List.length_cons, List.length_nil, List.length_append, List.length_map, List.length_set, List.set_cons_zero, List.set_cons_succ, List.cons_append, List.nil_append, List.append_nil, List.getElem?_cons_zero, List.getElem?_cons_succ, List.getElem?_nil, List.take_succ_cons, List.take_zero, List.drop_succ_cons, List.drop_zero, List.drop_nil, List.take_nil, Option.getD_some, Option.getD_none, Option.map_some, Option.map_none, true_and, and_true, ↓reduceIte, Nat.reduceEqDiff, Nat.reduceAdd, Nat.reduceSub, Nat.reduceMul, Nat.reduceLeDiff, Nat.reduceLT, Nat.zero_add, Nat.add_zero, decide_eq_true_eq, Bool.false_eq_true, reduceCtorEq, rvs_len, rvs_get, rvs_fold, rvs_take, rvs_append, Int.toNat_natCast, bneTT, bneTF, bneFT, bneFF, Bool.not_true, Bool.not_false, splice0, slcaE, clrE, chunks]
  split
  · refine (hK _ _ ?_).2
    simp [resL, retP, lk, resT, rn_rv, cmpIA, *]
  split
  · refine (hK _ _ ?_).2
    simp [resL, retP, lk, resT, rn_rv, cmpIA, *]
  · refine (hK _ _ ?_).2
    simp [resL, retP, lk, resT, rn_rv, cmpIA, *]

theorem sp_cmp_Compare_int64 (x y : Int) : CallR Go.Proofs.Try.prog 142 [.rv (.int .i64 x), .rv (.int .i64 y)] [] [] (.rv (.int .i64 (cmpIA x y))) := by
  refine callR_F k_cmp_Compare_int64 [.int .i64 x, .int .i64 y] _ (by simp) (fun K hK => ?_)
  simp -implicitDefEqProofs only [c_cmp_Compare_int64, g_nil, g_skip, g_reg, g_regd, g_seq, g_block, g_end, g_cond, g_ret, g_exit, gx_nil, gx_c, gx_o, gx_d, gx_b, g_onil, g_dnil, g_op, g_opg, g_opd, g_opdg, condI, callvI, invI, plainI, opI, guardI, callvdI, invdI, plaindI, opdI, guarddI, opE, o1, o2, ix2, loadE, storeE, boxE, allLen, bslE, buildE, fits, fldE, ixsE, ixaE, ixvE, fldvE, lenE, lensE, srcE, appE, bnd2, bndL, bndH, bnd0, bndE, slcE, slcC, pickE, allocE, nilchkE, isNilSV, ibinE, ibin, ishfE, ishf, eqnilE, eqbE, notE, negE, cviE, mkslE, mxE, mnE, extE, isNilSl, isNilFn, isNilIf, isNilO, eqniloE, eqsF, eqsE, cellsEq, cellEq, sbinE, sbin, ifcOf, tasF, tasE, cellsSV, cellsAll, layO, mkEnv, lk, hget_zero, hget_succ, putE, uphO, uph, uphL, evX, rdsX, uIds, List.map_cons, List.map_nil, List.length_cons, List.length_nil, List.length_append, List.length_map, List.length_set, List.set_cons_zero, List.set_cons_succ, List.cons_append, List.nil_append, List.append_nil, List.getElem?_cons_zero, List.getElem?_cons_succ, List.getElem?_nil, List.take_succ_cons, List.take_zero, List.drop_succ_cons, List.drop_zero, List.drop_nil, List.take_nil, Option.getD_some, Option.getD_none, Option.map_some, Option.map_none, true_and, and_true, ↓reduceIte, Nat.reduceEqDiff, Nat.reduceAdd, Nat.reduceSub, Nat.reduceMul, Nat.reduceLeDiff, Nat.reduceLT, Nat.zero_add, Nat.add_zero, decide_eq_true_eq, Bool.false_eq_true, reduceCtorEq, rvs_len, rvs_get, rvs_fold, rvs_take, rvs_append, Int.toNat_natCast, bneTT, bneTF, bneFT, bneFF, Bool.not_true, Bool.not_false, splice0, slcaE, clrE, chunks]
  refine g_call0 (sp_cmp_isNaN_int64 x) ?_
  simp -implicitDefEqProofs only [g_nil, g_skip, g_reg, g_regd, g_seq, g_block, g_end, g_cond, g_ret, g_exit, gx_nil, gx_c, gx_o, gx_d, gx_b, g_onil, g_dnil, g_op, g_opg, g_opd, g_opdg, condI, callvI, invI, plainI, opI, guardI, callvdI, invdI, plaindI, opdI, guarddI, opE, o1, o2, ix2, loadE, storeE, boxE, allLen, bslE, buildE, fits, fldE, ixsE, ixaE, ixvE, fldvE, lenE, lensE, srcE, appE, bnd2, bndL, bndH, bnd0, bndE, slcE, slcC, pickE, allocE, nilchkE, isNilSV, ibinE, ibin, ishfE, ishf, eqnilE, eqbE, notE, negE, cviE, mkslE, mxE, mnE, extE, isNilSl, isNilFn, isNilIf, isNilO, eqniloE, eqsF, eqsE, cellsEq, cellEq, sbinE, sbin, ifcOf, tasF, tasE, cellsSV, cellsAll, layO, mkEnv, lk, hget_zero, hget_succ, putE, uphO, uph, uphL, evX, rdsX, uIds, List.map_cons, List.map_nil, List.length_cons, List.length_nil, List.length_append, List.length_map, List.length_set, List.set_cons_zero, List.set_cons_succ, List.cons_append, List.nil_append, List.append_nil, List.getElem?_cons_zero, List.getElem?_cons_succ, List.getElem?_nil, List.take_succ_cons, List.take_zero, List.drop_succ_cons, List.drop_zero, List.drop_nil, List.take_nil, Option.getD_some, Option.getD_none, Option.map_some, Option.map_none, true_and, and_true, ↓reduceIte, Nat.reduceEqDiff, Nat.reduceAdd, Nat.reduceSub, Nat.reduceMul, Nat.reduceLeDiff, Nat.reduceLT, Nat.zero_add, Nat.add_zero, decide_eq_true_eq, Bool.false_eq_true, reduceCtorEq, rvs_len, rvs_get, rvs_fold, rvs_take, rvs_append, Int.toNat_natCast, bneTT, bneTF, bneFT, bneFF, Bool.not_true, Bool.not_false, splice0, slcaE, clrE, chunks]
  refine g_call0 (sp_cmp_isNaN_int64 y) ?_
  simp -implicitDefEqProofs only [g_nil, g_skip, g_reg, g_regd, g_seq, g_block, g_end, g_cond, g_ret, g_exit, gx_nil, gx_c, gx_o, gx_d, gx_b, g_onil, g_dnil, g_op, g_opg, g_opd, g_opdg, condI, callvI, invI, plainI, opI, guardI, callvdI, invdI, plaindI, opdI, guarddI, opE, o1, o2, ix2, loadE, storeE, boxE, allLen, bslE, buildE, fits, fldE, ixsE, ixaE, ixvE, fldvE, lenE, lensE, srcE, appE, bnd2, bndL, bndH, bnd0, bndE, slcE, slcC, pickE, allocE, nilchkE, isNilSV, ibinE, ibin, ishfE, ishf, eqnilE, eqbE, notE, negE, cviE, mkslE, mxE, mnE, extE, isNilSl, isNilFn, isNilIf, isNilO, eqniloE, eqsF, eqsE, cellsEq, cellEq, sbinE, sbin, ifcOf, tasF, tasE, cellsSV, cellsAll, layO, mkEnv, lk, hget_zero, hget_succ, putE, uphO, uph, uphL, evX, rdsX, uIds, List.map_cons, List.map_nil, List.length_cons, List.length_nil, List.length_append, List.length_map, List.length_set, List.set_cons_zero, List.set_cons_succ, List.cons_append, List.nil_append, List.append_nil, List.getElem?_cons_zero, List.getElem?_cons_succ, List.getElem?_nil, List.take_succ_cons, List.take_zero, List.drop_succ_cons, List.drop_zero, List.drop_nil, List.take_nil, Option.getD_some, Option.getD_none, Option.map_some, Option.map_none, true_and, and_true, ↓reduceIte, Nat.reduceEqDiff, Nat.reduceAdd, Nat.reduceSub, Nat.reduceMul, Nat.reduceLeDiff, Nat.reduceLT, Nat.zero_add, Nat.add_zero, decide_eq_true_eq, Bool.false_eq_true, reduceCtorEq, rvs_len, rvs_get, rvs_fold, rvs_take, rvs_append, Int.toNat_natCast, bneTT, bneTF, bneFT, bneFF, Bool.not_true, Bool.not_false, splice0, slcaE, clrE, chunks]
  split
  · refine (hK _ _ ?_).2
    simp [resL, retP, lk, resT, rn_rv, cmpIA, *]
  split
  · refine (hK _ _ ?_).2
    simp [resL, retP, lk, resT, rn_rv, cmpIA, *]
  · refine (hK _ _ ?_).2
    simp [resL, retP, lk, resT, rn_rv, cmpIA, *]

def intL (ys : List Int) : List (List RV) := ys.map fun n => [.int .i64 n]

def orF : List Int → Int
  | [] => 0
  | n :: r => if n ≠ 0 then n else orF r

theorem orF_at {ys : List Int} {k : Nat} (hk : k < ys.length) (h0 : ∀ j, j < k → ys[j]? = some 0) (hn : ys[k] ≠ 0) : orF ys = ys[k] := by
  induction ys generalizing k with
  | nil => simp at hk
  | cons a r ih =>
    cases k with
    | zero => simp at hn; simp [orF, hn]
    | succ k =>
      have := h0 0 (by omega)
      simp at this
      subst this
      simp -implicitDefEqProofs only [orF, ne_eq, not_true_eq_false, ↓reduceIte, List.getElem_cons_succ]
      exact ih (by simpa using hk) (fun j hj => by simpa using h0 (j + 1) (by omega)) (by simpa using hn)

theorem orF_none {ys : List Int} (h0 : ∀ j, j < ys.length → ys[j]? = some 0) : orF ys = 0 := by
  induction ys with
  | nil => rfl
  | cons a r ih =>
    have := h0 0 (by simp)
    simp at this
    subst this
    simp -implicitDefEqProofs only [orF, ne_eq, not_true_eq_false, ↓reduceIte]
    exact ih (fun j hj => by simpa using h0 (j + 1) (by simpa using hj))

theorem sp_cmp_Or_int (ys : List Int) (hl : ys.length < 1000000) : CallR Go.Proofs.Try.prog 141 [.rv (.sl 1 (intL ys))] [] [] (.rv (.int .i64 (orF ys))) := by
  have hlen : (intL ys).length = ys.length := by simp [intL]
  refine callR_F k_cmp_Or_int [.sl 1 (intL ys)] _ (by simp) (fun K hK => ?_)
  simp -implicitDefEqProofs only [c_cmp_Or_int, hlen, g_nil, g_skip, g_reg, g_regd, g_seq, g_block, g_end, g_cond, g_ret, g_exit, gx_nil, gx_c, gx_o, gx_d, gx_b, g_onil, g_dnil, g_op, g_opg, g_opd, g_opdg, condI, callvI, invI, plainI, opI, guardI, callvdI, invdI, plaindI, opdI, guarddI, opE, o1, o2, ix2, loadE, storeE, boxE, allLen, bslE, buildE, fits, fldE, ixsE, ixaE, ixvE, fldvE, lenE, lensE, srcE, appE, bnd2, bndL, bndH, bnd0, bndE, slcE, slcC, pickE, allocE, nilchkE, isNilSV, ibinE, ibin, ishfE, ishf, eqnilE, eqbE, notE, negE, cviE, mkslE, mxE, mnE, extE, isNilSl, isNilFn, isNilIf, isNilO, eqniloE, eqsF, eqsE, cellsEq, cellEq, sbinE, sbin, ifcOf, tasF, tasE, cellsSV, cellsAll, layO, mkEnv, lk, hget_zero, hget_succ, putE, uphO, uph, uphL, evX, rdsX, uIds, List.map_cons, List.map_nil, List.length_cons, List.length_nil, List.length_append, List.length_map, List.length_set, List.set_cons_zero, List.set_cons_succ, List.cons_append, List.nil_append, List.append_nil, List.getElem?_cons_zero, List.getElem?_cons_succ, List.getElem?_nil, List.take_succ_cons, List.take_zero, List.drop_succ_cons, List.drop_zero, List.drop_nil, List.take_nil, Option.getD_some, Option.getD_none, Option.map_some, Option.map_none, true_and, and_true, ↓reduceIte, Nat.reduceEqDiff, Nat.reduceAdd, Nat.reduceSub, Nat.reduceMul, Nat.reduceLeDiff, Nat.reduceLT, Nat.zero_add, Nat.add_zero, decide_eq_true_eq, Bool.false_eq_true, reduceCtorEq, rvs_len, rvs_get, rvs_fold, rvs_take, rvs_append, Int.toNat_natCast, bneTT, bneTF, bneFT, bneFF, Bool.not_true, Bool.not_false, splice0, slcaE, clrE, chunks]
  refine g_loop (ι := Nat) (fun k => [(8, .rv (.int .i64 k)), (7, .rv (.int .i64 ys.length)), (6, .rv (.sl 1 (intL ys))), (3, .rv (.int .i64 0))]) (fun _ => []) (fun k => k ≤ ys.length ∧ ∀ j, j < k → ys[j]? = some 0) (fun k => ys.length - k) 0 (by simp) (ent_env (by simp [lk])) (fun k hk K' hn he hr => ?_)
  simp -implicitDefEqProofs only [hlen, g_nil, g_skip, g_reg, g_regd, g_seq, g_block, g_end, g_cond, g_ret, g_exit, gx_nil, gx_c, gx_o, gx_d, gx_b, g_onil, g_dnil, g_op, g_opg, g_opd, g_opdg, condI, callvI, invI, plainI, opI, guardI, callvdI, invdI, plaindI, opdI, guarddI, opE, o1, o2, ix2, loadE, storeE, boxE, allLen, bslE, buildE, fits, fldE, ixsE, ixaE, ixvE, fldvE, lenE, lensE, srcE, appE, bnd2, bndL, bndH, bnd0, bndE, slcE, slcC, pickE, allocE, nilchkE, isNilSV, ibinE, ibin, ishfE, ishf, eqnilE, eqbE, notE, negE, cviE, mkslE, mxE, mnE, extE, isNilSl, isNilFn, isNilIf, isNilO, eqniloE, eqsF, eqsE, cellsEq, cellEq, sbinE, sbin, ifcOf, tasF, tasE, cellsSV, cellsAll, layO, mkEnv, lk, hget_zero, hget_succ, putE, uphO, uph, uphL, evX, rdsX, uIds, List.map_cons, List.map_nil, List.length_cons, List.length_nil, List.length_append, List.length_map, List.length_set, List.set_cons_zero, List.set_cons_succ, List.cons_append, List.nil_append, List.append_nil, List.getElem?_cons_zero, List.getElem?_cons_succ, List.getElem?_nil, List.take_succ_cons, List.take_zero, List.drop_succ_cons, List.drop_zero, List.drop_nil, List.take_nil, Option.getD_some, Option.getD_none, Option.map_some, Option.map_none, true_and, and_true, ↓reduceIte, Nat.reduceEqDiff, Nat.reduceAdd, Nat.reduceSub, Nat.reduceMul, Nat.reduceLeDiff, Nat.reduceLT, Nat.zero_add, Nat.add_zero, decide_eq_true_eq, Bool.false_eq_true, reduceCtorEq, rvs_len, rvs_get, rvs_fold, rvs_take, rvs_append, Int.toNat_natCast, bneTT, bneTF, bneFT, bneFF, Bool.not_true, Bool.not_false, splice0, slcaE, clrE, chunks]
  split
  · rename_i hlt
    have hkl : k < ys.length := by omega
    have hx : (intL ys)[k]?.getD [] = [.int .i64 ys[k]] := by simp [intL, hkl]
    simp -implicitDefEqProofs only [hx, hlen, g_nil, g_skip, g_reg, g_regd, g_seq, g_block, g_end, g_cond, g_ret, g_exit, gx_nil, gx_c, gx_o, gx_d, gx_b, g_onil, g_dnil, g_op, g_opg, g_opd, g_opdg, condI, callvI, invI, plainI, opI, guardI, callvdI, invdI, plaindI, opdI, guarddI, opE, o1, o2, ix2, loadE, storeE, boxE, allLen, bslE, buildE, fits, fldE, ixsE, ixaE, ixvE, fldvE, lenE, lensE, srcE, appE, bnd2, bndL, bndH, bnd0, bndE, slcE, slcC, pickE, allocE, nilchkE, isNilSV, ibinE, ibin, ishfE, ishf, eqnilE, eqbE, notE, negE, cviE, mkslE, mxE, mnE, extE, isNilSl, isNilFn, isNilIf, isNilO, eqniloE, eqsF, eqsE, cellsEq, cellEq, sbinE, sbin, ifcOf, tasF, tasE, cellsSV, cellsAll, layO, mkEnv, lk, hget_zero, hget_succ, putE, uphO, uph, uphL, evX, rdsX, uIds, List.map_cons, List.map_nil, List.length_cons, List.length_nil, List.length_append, List.length_map, List.length_set, List.set_cons_zero, List.set_cons_succ, List.cons_append, List.nil_append, List.append_nil, List.getElem?_cons_zero, List.getElem?_cons_succ, List.getElem?_nil, List.take_succ_cons, List.take_zero, List.drop_succ_cons, List.drop_zero, List.drop_nil, List.take_nil, Option.getD_some, Option.getD_none, Option.map_some, Option.map_none, true_and, and_true, ↓reduceIte, Nat.reduceEqDiff, Nat.reduceAdd, Nat.reduceSub, Nat.reduceMul, Nat.reduceLeDiff, Nat.reduceLT, Nat.zero_add, Nat.add_zero, decide_eq_true_eq, Bool.false_eq_true, reduceCtorEq, rvs_len, rvs_get, rvs_fold, rvs_take, rvs_append, Int.toNat_natCast, bneTT, bneTF, bneFT, bneFF, Bool.not_true, Bool.not_false, splice0, slcaE, clrE, chunks]
    refine ⟨by omega, ?_⟩
    by_cases h0 : ys[k] = 0
    · simp -implicitDefEqProofs only [h0, g_nil, g_skip, g_reg, g_regd, g_seq, g_block, g_end, g_cond, g_ret, g_exit, gx_nil, gx_c, gx_o, gx_d, gx_b, g_onil, g_dnil, g_op, g_opg, g_opd, g_opdg, condI, callvI, invI, plainI, opI, guardI, callvdI, invdI, plaindI, opdI, guarddI, opE, o1, o2, ix2, loadE, storeE, boxE, allLen, bslE, buildE, fits, fldE, ixsE, ixaE, ixvE, fldvE, lenE, lensE, srcE, appE, bnd2, bndL, bndH, bnd0, bndE, slcE, slcC, pickE, allocE, nilchkE, isNilSV, ibinE, ibin, ishfE, ishf, eqnilE, eqbE, notE, negE, cviE, mkslE, mxE, mnE, extE, isNilSl, isNilFn, isNilIf, isNilO, eqniloE, eqsF, eqsE, cellsEq, cellEq, sbinE, sbin, ifcOf, tasF, tasE, cellsSV, cellsAll, layO, mkEnv, lk, hget_zero, hget_succ, putE, uphO, uph, uphL, evX, rdsX, uIds, List.map_cons, List.map_nil, List.length_cons, List.length_nil, List.length_append, List.length_map, List.length_set, List.set_cons_zero, List.set_cons_succ, List.cons_append, List.nil_append, List.append_nil, List.getElem?_cons_zero, List.getElem?_cons_succ, List.getElem?_nil, List.take_succ_cons, List.take_zero, List.drop_succ_cons, List.drop_zero, List.drop_nil, List.take_nil, Option.getD_some, Option.getD_none, Option.map_some, Option.map_none, true_and, and_true, ↓reduceIte, Nat.reduceEqDiff, Nat.reduceAdd, Nat.reduceSub, Nat.reduceMul, Nat.reduceLeDiff, Nat.reduceLT, Nat.zero_add, Nat.add_zero, decide_eq_true_eq, Bool.false_eq_true, reduceCtorEq, rvs_len, rvs_get, rvs_fold, rvs_take, rvs_append, Int.toNat_natCast, bneTT, bneTF, bneFT, bneFF, Bool.not_true, Bool.not_false, splice0, slcaE, clrE, chunks]
      refine g_noent ?_
      simp -implicitDefEqProofs only [g_nil, g_skip, g_reg, g_regd, g_seq, g_block, g_end, g_cond, g_ret, g_exit, gx_nil, gx_c, gx_o, gx_d, gx_b, g_onil, g_dnil, g_op, g_opg, g_opd, g_opdg, condI, callvI, invI, plainI, opI, guardI, callvdI, invdI, plaindI, opdI, guarddI, opE, o1, o2, ix2, loadE, storeE, boxE, allLen, bslE, buildE, fits, fldE, ixsE, ixaE, ixvE, fldvE, lenE, lensE, srcE, appE, bnd2, bndL, bndH, bnd0, bndE, slcE, slcC, pickE, allocE, nilchkE, isNilSV, ibinE, ibin, ishfE, ishf, eqnilE, eqbE, notE, negE, cviE, mkslE, mxE, mnE, extE, isNilSl, isNilFn, isNilIf, isNilO, eqniloE, eqsF, eqsE, cellsEq, cellEq, sbinE, sbin, ifcOf, tasF, tasE, cellsSV, cellsAll, layO, mkEnv, lk, hget_zero, hget_succ, putE, uphO, uph, uphL, evX, rdsX, uIds, List.map_cons, List.map_nil, List.length_cons, List.length_nil, List.length_append, List.length_map, List.length_set, List.set_cons_zero, List.set_cons_succ, List.cons_append, List.nil_append, List.append_nil, List.getElem?_cons_zero, List.getElem?_cons_succ, List.getElem?_nil, List.take_succ_cons, List.take_zero, List.drop_succ_cons, List.drop_zero, List.drop_nil, List.take_nil, Option.getD_some, Option.getD_none, Option.map_some, Option.map_none, true_and, and_true, ↓reduceIte, Nat.reduceEqDiff, Nat.reduceAdd, Nat.reduceSub, Nat.reduceMul, Nat.reduceLeDiff, Nat.reduceLT, Nat.zero_add, Nat.add_zero, decide_eq_true_eq, Bool.false_eq_true, reduceCtorEq, rvs_len, rvs_get, rvs_fold, rvs_take, rvs_append, Int.toNat_natCast, bneTT, bneTF, bneFT, bneFF, Bool.not_true, Bool.not_false, splice0, slcaE, clrE, chunks]
      rw [wrap_i64 (by omega) (by omega)]
      refine hn (k + 1) _ _ ⟨by omega, fun j hj => ?_⟩ (by omega) (ent_env (by simp [lk]))
      by_cases hjk : j = k
      · subst hjk; rw [List.getElem?_eq_getElem hkl, h0]
      · exact hk.2 j (by omega)
    · have hb : (ys[k] != 0) = true := by simp [h0]
      simp -implicitDefEqProofs only [hb, g_nil, g_skip, g_reg, g_regd, g_seq, g_block, g_end, g_cond, g_ret, g_exit, gx_nil, gx_c, gx_o, gx_d, gx_b, g_onil, g_dnil, g_op, g_opg, g_opd, g_opdg, condI, callvI, invI, plainI, opI, guardI, callvdI, invdI, plaindI, opdI, guarddI, opE, o1, o2, ix2, loadE, storeE, boxE, allLen, bslE, buildE, fits, fldE, ixsE, ixaE, ixvE, fldvE, lenE, lensE, srcE, appE, bnd2, bndL, bndH, bnd0, bndE, slcE, slcC, pickE, allocE, nilchkE, isNilSV, ibinE, ibin, ishfE, ishf, eqnilE, eqbE, notE, negE, cviE, mkslE, mxE, mnE, extE, isNilSl, isNilFn, isNilIf, isNilO, eqniloE, eqsF, eqsE, cellsEq, cellEq, sbinE, sbin, ifcOf, tasF, tasE, cellsSV, cellsAll, layO, mkEnv, lk, hget_zero, hget_succ, putE, uphO, uph, uphL, evX, rdsX, uIds, List.map_cons, List.map_nil, List.length_cons, List.length_nil, List.length_append, List.length_map, List.length_set, List.set_cons_zero, List.set_cons_succ, List.cons_append, List.nil_append, List.append_nil, List.getElem?_cons_zero, List.getElem?_cons_succ, List.getElem?_nil, List.take_succ_cons, List.take_zero, List.drop_succ_cons, List.drop_zero, List.drop_nil, List.take_nil, Option.getD_some, Option.getD_none, Option.map_some, Option.map_none, true_and, and_true, ↓reduceIte, Nat.reduceEqDiff, Nat.reduceAdd, Nat.reduceSub, Nat.reduceMul, Nat.reduceLeDiff, Nat.reduceLT, Nat.zero_add, Nat.add_zero, decide_eq_true_eq, Bool.false_eq_true, reduceCtorEq, rvs_len, rvs_get, rvs_fold, rvs_take, rvs_append, Int.toNat_natCast, bneTT, bneTF, bneFT, bneFF, Bool.not_true, Bool.not_false, splice0, slcaE, clrE, chunks]
      refine hr _ _ ((hK _ _ ?_).2)
      simp [resL, retP, lk, resT, rn_rv, orF_at hkl hk.2 h0]
  · rename_i hge
    refine he _ _ _ ?_
    simp -implicitDefEqProofs only [g_nil, g_skip, g_reg, g_regd, g_seq, g_block, g_end, g_cond, g_ret, g_exit, gx_nil, gx_c, gx_o, gx_d, gx_b, g_onil, g_dnil, g_op, g_opg, g_opd, g_opdg, condI, callvI, invI, plainI, opI, guardI, callvdI, invdI, plaindI, opdI, guarddI, opE, o1, o2, ix2, loadE, storeE, boxE, allLen, bslE, buildE, fits, fldE, ixsE, ixaE, ixvE, fldvE, lenE, lensE, srcE, appE, bnd2, bndL, bndH, bnd0, bndE, slcE, slcC, pickE, allocE, nilchkE, isNilSV, ibinE, ibin, ishfE, ishf, eqnilE, eqbE, notE, negE, cviE, mkslE, mxE, mnE, extE, isNilSl, isNilFn, isNilIf, isNilO, eqniloE, eqsF, eqsE, cellsEq, cellEq, sbinE, sbin, ifcOf, tasF, tasE, cellsSV, cellsAll, layO, mkEnv, lk, hget_zero, hget_succ, putE, uphO, uph, uphL, evX, rdsX, uIds, List.map_cons, List.map_nil, List.length_cons, List.length_nil, List.length_append, List.length_map, List.length_set, List.set_cons_zero, List.set_cons_succ, List.cons_append, List.nil_append, List.append_nil, List.getElem?_cons_zero, List.getElem?_cons_succ, List.getElem?_nil, List.take_succ_cons, List.take_zero, List.drop_succ_cons, List.drop_zero, List.drop_nil, List.take_nil, Option.getD_some, Option.getD_none, Option.map_some, Option.map_none, true_and, and_true, ↓reduceIte, Nat.reduceEqDiff, Nat.reduceAdd, Nat.reduceSub, Nat.reduceMul, Nat.reduceLeDiff, Nat.reduceLT, Nat.zero_add, Nat.add_zero, decide_eq_true_eq, Bool.false_eq_true, reduceCtorEq, rvs_len, rvs_get, rvs_fold, rvs_take, rvs_append, Int.toNat_natCast, bneTT, bneTF, bneFT, bneFF, Bool.not_true, Bool.not_false, splice0, slcaE, clrE, chunks]
    refine g_noent ?_
    simp -implicitDefEqProofs only [g_nil, g_skip, g_reg, g_regd, g_seq, g_block, g_end, g_cond, g_ret, g_exit, gx_nil, gx_c, gx_o, gx_d, gx_b, g_onil, g_dnil, g_op, g_opg, g_opd, g_opdg, condI, callvI, invI, plainI, opI, guardI, callvdI, invdI, plaindI, opdI, guarddI, opE, o1, o2, ix2, loadE, storeE, boxE, allLen, bslE, buildE, fits, fldE, ixsE, ixaE, ixvE, fldvE, lenE, lensE, srcE, appE, bnd2, bndL, bndH, bnd0, bndE, slcE, slcC, pickE, allocE, nilchkE, isNilSV, ibinE, ibin, ishfE, ishf, eqnilE, eqbE, notE, negE, cviE, mkslE, mxE, mnE, extE, isNilSl, isNilFn, isNilIf, isNilO, eqniloE, eqsF, eqsE, cellsEq, cellEq, sbinE, sbin, ifcOf, tasF, tasE, cellsSV, cellsAll, layO, mkEnv, lk, hget_zero, hget_succ, putE, uphO, uph, uphL, evX, rdsX, uIds, List.map_cons, List.map_nil, List.length_cons, List.length_nil, List.length_append, List.length_map, List.length_set, List.set_cons_zero, List.set_cons_succ, List.cons_append, List.nil_append, List.append_nil, List.getElem?_cons_zero, List.getElem?_cons_succ, List.getElem?_nil, List.take_succ_cons, List.take_zero, List.drop_succ_cons, List.drop_zero, List.drop_nil, List.take_nil, Option.getD_some, Option.getD_none, Option.map_some, Option.map_none, true_and, and_true, ↓reduceIte, Nat.reduceEqDiff, Nat.reduceAdd, Nat.reduceSub, Nat.reduceMul, Nat.reduceLeDiff, Nat.reduceLT, Nat.zero_add, Nat.add_zero, decide_eq_true_eq, Bool.false_eq_true, reduceCtorEq, rvs_len, rvs_get, rvs_fold, rvs_take, rvs_append, Int.toNat_natCast, bneTT, bneTF, bneFT, bneFF, Bool.not_true, Bool.not_false, splice0, slcaE, clrE, chunks]
    refine (hK _ _ ?_).2
    have : k = ys.length := by omega
    subst this
    simp [resL, retP, lk, resT, rn_rv, orF_none hk.2]

def cmpE (a b : Ent3) : Int := orF [cmpIA a.key b.key, cmpIA a.tie b.tie, cmpIA a.n b.n]

theorem sp_agenda_Entry_Compare (a b : Ent3) : CallR Go.Proofs.Try.prog 140 [a.sv, b.sv] [] [] (.rv (.int .i64 (cmpE a b))) := by
  refine callR_M k_agenda_Entry_Compare [] [] [] [a.sv, b.sv] [a.sv, b.sv] [] _ (by simp) (by simp [BkAll, Ent3.sv, bk_agg, bk_rv]) rfl (by simp [nodupL]) (by simp [BkHs]) (fun K hK => ?_)
  simp -implicitDefEqProofs only [c_agenda_Entry_Compare, Ent3.sv, g_nil, g_skip, g_reg, g_regd, g_seq, g_block, g_end, g_cond, g_ret, g_exit, gx_nil, gx_c, gx_o, gx_d, gx_b, g_onil, g_dnil, g_op, g_opg, g_opd, g_opdg, condI, callvI, invI, plainI, opI, guardI, callvdI, invdI, plaindI, opdI, guarddI, opE, o1, o2, ix2, loadE, storeE, boxE, allLen, bslE, buildE, fits, fldE, ixsE, ixaE, ixvE, fldvE, lenE, lensE, srcE, appE, bnd2, bndL, bndH, bnd0, bndE, slcE, slcC, pickE, allocE, nilchkE, isNilSV, ibinE, ibin, ishfE, ishf, eqnilE, eqbE, notE, negE, cviE, mkslE, mxE, mnE, extE, isNilSl, isNilFn, isNilIf, isNilO, eqniloE, eqsF, eqsE, cellsEq, cellEq, sbinE, sbin, ifcOf, tasF, tasE, cellsSV, cellsAll, layO, mkEnv, lk, hget_zero, hget_succ, putE, uphO, uph, uphL, evX, rdsX, uIds, List.map_cons, List.map_nil, List.length_cons, List.length_nil, List.length_append, List.length_map, List.length_set, List.set_cons_zero, List.set_cons_succ, List.cons_append, List.nil_append, List.append_nil, List.getElem?_cons_zero, List.getElem?_cons_succ, List.getElem?_nil, List.take_succ_cons, List.take_zero, List.drop_succ_cons, List.drop_zero, List.drop_nil, List.take_nil, Option.getD_some, Option.getD_none, Option.map_some, Option.map_none, true_and, and_true, ↓reduceIte, Nat.reduceEqDiff, Nat.reduceAdd, Nat.reduceSub, Nat.reduceMul, Nat.reduceLeDiff, Nat.reduceLT, Nat.zero_add, Nat.add_zero, decide_eq_true_eq, Bool.false_eq_true, reduceCtorEq, rvs_len, rvs_get, rvs_fold, rvs_take, rvs_append, Int.toNat_natCast, bneTT, bneTF, bneFT, bneFF, Bool.not_true, Bool.not_false, splice0, slcaE, clrE, chunks]
  refine g_calld0 (sp_cmp_Compare_int64 a.key b.key) ?_
  simp -implicitDefEqProofs only [g_nil, g_skip, g_reg, g_regd, g_seq, g_block, g_end, g_cond, g_ret, g_exit, gx_nil, gx_c, gx_o, gx_d, gx_b, g_onil, g_dnil, g_op, g_opg, g_opd, g_opdg, condI, callvI, invI, plainI, opI, guardI, callvdI, invdI, plaindI, opdI, guarddI, opE, o1, o2, ix2, loadE, storeE, boxE, allLen, bslE, buildE, fits, fldE, ixsE, ixaE, ixvE, fldvE, lenE, lensE, srcE, appE, bnd2, bndL, bndH, bnd0, bndE, slcE, slcC, pickE, allocE, nilchkE, isNilSV, ibinE, ibin, ishfE, ishf, eqnilE, eqbE, notE, negE, cviE, mkslE, mxE, mnE, extE, isNilSl, isNilFn, isNilIf, isNilO, eqniloE, eqsF, eqsE, cellsEq, cellEq, sbinE, sbin, ifcOf, tasF, tasE, cellsSV, cellsAll, layO, mkEnv, lk, hget_zero, hget_succ, putE, uphO, uph, uphL, evX, rdsX, uIds, List.map_cons, List.map_nil, List.length_cons, List.length_nil, List.length_append, List.length_map, List.length_set, List.set_cons_zero, List.set_cons_succ, List.cons_append, List.nil_append, List.append_nil, List.getElem?_cons_zero, List.getElem?_cons_succ, List.getElem?_nil, List.take_succ_cons, List.take_zero, List.drop_succ_cons, List.drop_zero, List.drop_nil, List.take_nil, Option.getD_some, Option.getD_none, Option.map_some, Option.map_none, true_and, and_true, ↓reduceIte, Nat.reduceEqDiff, Nat.reduceAdd, Nat.reduceSub, Nat.reduceMul, Nat.reduceLeDiff, Nat.reduceLT, Nat.zero_add, Nat.add_zero, decide_eq_true_eq, Bool.false_eq_true, reduceCtorEq, rvs_len, rvs_get, rvs_fold, rvs_take, rvs_append, Int.toNat_natCast, bneTT, bneTF, bneFT, bneFF, Bool.not_true, Bool.not_false, splice0, slcaE, clrE, chunks]
  refine g_calld0 (sp_cmp_Compare_int64 a.tie b.tie) ?_
  simp -implicitDefEqProofs only [g_nil, g_skip, g_reg, g_regd, g_seq, g_block, g_end, g_cond, g_ret, g_exit, gx_nil, gx_c, gx_o, gx_d, gx_b, g_onil, g_dnil, g_op, g_opg, g_opd, g_opdg, condI, callvI, invI, plainI, opI, guardI, callvdI, invdI, plaindI, opdI, guarddI, opE, o1, o2, ix2, loadE, storeE, boxE, allLen, bslE, buildE, fits, fldE, ixsE, ixaE, ixvE, fldvE, lenE, lensE, srcE, appE, bnd2, bndL, bndH, bnd0, bndE, slcE, slcC, pickE, allocE, nilchkE, isNilSV, ibinE, ibin, ishfE, ishf, eqnilE, eqbE, notE, negE, cviE, mkslE, mxE, mnE, extE, isNilSl, isNilFn, isNilIf, isNilO, eqniloE, eqsF, eqsE, cellsEq, cellEq, sbinE, sbin, ifcOf, tasF, tasE, cellsSV, cellsAll, layO, mkEnv, lk, hget_zero, hget_succ, putE, uphO, uph, uphL, evX, rdsX, uIds, List.map_cons, List.map_nil, List.length_cons, List.length_nil, List.length_append, List.length_map, List.length_set, List.set_cons_zero, List.set_cons_succ, List.cons_append, List.nil_append, List.append_nil, List.getElem?_cons_zero, List.getElem?_cons_succ, List.getElem?_nil, List.take_succ_cons, List.take_zero, List.drop_succ_cons, List.drop_zero, List.drop_nil, List.take_nil, Option.getD_some, Option.getD_none, Option.map_some, Option.map_none, true_and, and_true, ↓reduceIte, Nat.reduceEqDiff, Nat.reduceAdd, Nat.reduceSub, Nat.reduceMul, Nat.reduceLeDiff, Nat.reduceLT, Nat.zero_add, Nat.add_zero, decide_eq_true_eq, Bool.false_eq_true, reduceCtorEq, rvs_len, rvs_get, rvs_fold, rvs_take, rvs_append, Int.toNat_natCast, bneTT, bneTF, bneFT, bneFF, Bool.not_true, Bool.not_false, splice0, slcaE, clrE, chunks]
  refine g_calld0 (sp_cmp_Compare_int a.n b.n) ?_
  simp -implicitDefEqProofs only [g_nil, g_skip, g_reg, g_regd, g_seq, g_block, g_end, g_cond, g_ret, g_exit, gx_nil, gx_c, gx_o, gx_d, gx_b, g_onil, g_dnil, g_op, g_opg, g_opd, g_opdg, condI, callvI, invI, plainI, opI, guardI, callvdI, invdI, plaindI, opdI, guarddI, opE, o1, o2, ix2, loadE, storeE, boxE, allLen, bslE, buildE, fits, fldE, ixsE, ixaE, ixvE, fldvE, lenE, lensE, srcE, appE, bnd2, bndL, bndH, bnd0, bndE, slcE, slcC, pickE, allocE, nilchkE, isNilSV, ibinE, ibin, ishfE, ishf, eqnilE, eqbE, notE, negE, cviE, mkslE, mxE, mnE, extE, isNilSl, isNilFn, isNilIf, isNilO, eqniloE, eqsF, eqsE, cellsEq, cellEq, sbinE, sbin, ifcOf, tasF, tasE, cellsSV, cellsAll, layO, mkEnv, lk, hget_zero, hget_succ, putE, uphO, uph, uphL, evX, rdsX, uIds, List.map_cons, List.map_nil, List.length_cons, List.length_nil, List.length_append, List.length_map, List.length_set, List.set_cons_zero, List.set_cons_succ, List.cons_append, List.nil_append, List.append_nil, List.getElem?_cons_zero, List.getElem?_cons_succ, List.getElem?_nil, List.take_succ_cons, List.take_zero, List.drop_succ_cons, List.drop_zero, List.drop_nil, List.take_nil, Option.getD_some, Option.getD_none, Option.map_some, Option.map_none, true_and, and_true, ↓reduceIte, Nat.reduceEqDiff, Nat.reduceAdd, Nat.reduceSub, Nat.reduceMul, Nat.reduceLeDiff, Nat.reduceLT, Nat.zero_add, Nat.add_zero, decide_eq_true_eq, Bool.false_eq_true, reduceCtorEq, rvs_len, rvs_get, rvs_fold, rvs_take, rvs_append, Int.toNat_natCast, bneTT, bneTF, bneFT, bneFF, Bool.not_true, Bool.not_false, splice0, slcaE, clrE, chunks]
  refine g_calld (pre := [(2, .row 1 0 (rvs [[.int .i64 (cmpIA a.key b.key)], [.int .i64 (cmpIA a.tie b.tie)], [.int .i64 (cmpIA a.n b.n)]]))]) (us := []) (callR_lend (rs := [.sl 1 (intL [cmpIA a.key b.key, cmpIA a.tie b.tie, cmpIA a.n b.n])]) (sp_cmp_Or_int [cmpIA a.key b.key, cmpIA a.tie b.tie, cmpIA a.n b.n] (by simp)) (fun hp hpre => ⟨fz_row (len := 3) (hpre _ (.head _)) rfl (by simp) (by simp [RV.one]), trivial⟩) rfl (.rv _ (.int _ _)) (by simp)) (by simp [PreOK, hget, rvs]) trivial ?_
  simp -implicitDefEqProofs only [g_nil, g_skip, g_reg, g_regd, g_seq, g_block, g_end, g_cond, g_ret, g_exit, gx_nil, gx_c, gx_o, gx_d, gx_b, g_onil, g_dnil, g_op, g_opg, g_opd, g_opdg, condI, callvI, invI, plainI, opI, guardI, callvdI, invdI, plaindI, opdI, guarddI, opE, o1, o2, ix2, loadE, storeE, boxE, allLen, bslE, buildE, fits, fldE, ixsE, ixaE, ixvE, fldvE, lenE, lensE, srcE, appE, bnd2, bndL, bndH, bnd0, bndE, slcE, slcC, pickE, allocE, nilchkE, isNilSV, ibinE, ibin, ishfE, ishf, eqnilE, eqbE, notE, negE, cviE, mkslE, mxE, mnE, extE, isNilSl, isNilFn, isNilIf, isNilO, eqniloE, eqsF, eqsE, cellsEq, cellEq, sbinE, sbin, ifcOf, tasF, tasE, cellsSV, cellsAll, layO, mkEnv, lk, hget_zero, hget_succ, putE, uphO, uph, uphL, evX, rdsX, uIds, List.map_cons, List.map_nil, List.length_cons, List.length_nil, List.length_append, List.length_map, List.length_set, List.set_cons_zero, List.set_cons_succ, List.cons_append, List.nil_append, List.append_nil, List.getElem?_cons_zero, List.getElem?_cons_succ, List.getElem?_nil, List.take_succ_cons, List.take_zero, List.drop_succ_cons, List.drop_zero, List.drop_nil, List.take_nil, Option.getD_some, Option.getD_none, Option.map_some, Option.map_none, true_and, and_true, ↓reduceIte, Nat.reduceEqDiff, Nat.reduceAdd, Nat.reduceSub, Nat.reduceMul, Nat.reduceLeDiff, Nat.reduceLT, Nat.zero_add, Nat.add_zero, decide_eq_true_eq, Bool.false_eq_true, reduceCtorEq, rvs_len, rvs_get, rvs_fold, rvs_take, rvs_append, Int.toNat_natCast, bneTT, bneTF, bneFT, bneFF, Bool.not_true, Bool.not_false, splice0, slcaE, clrE, chunks]
  refine ⟨by decide, ?_⟩
  refine (hK _ _ _ _ [] (ent_refl _ _) ?_).2
  simp [retM, nodupL, newL, allU, keptL, retP, resL, lk, resT, rn_rv, cmpE]

end Go.Eng


/- agenda: the pile. -/
namespace Go.Eng
open Go
/- (decoupage/agenda.pile).Len -/
def c_agenda_pile_Len : AC := (.seq (.reg [⟨(some 2), .mv, [(.c (.rv (.int .i64 0)))], none⟩]) (.seq (.reg [⟨(some 3), .mv, [(.t 0)], none⟩, ⟨(some 4), .len, [(.t 3)], none⟩, ⟨(some 2), .mv, [(.t 4)], none⟩]) .ret))
theorem k_agenda_pile_Len : FnOK Go.Proofs.Try.prog 137 5 c_agenda_pile_Len [(.t 2)] := fnOK_of (by kernel_rfl)

/- (decoupage/agenda.pile).Less -/
def c_agenda_pile_Less : AC := (.seq (.reg [⟨(some 6), .mv, [(.c (.rv (.bool false)))], none⟩]) (.seq (.regd [0, 0, 3, 7, 0, 0, 48, 112, 255, 511, 1023] [⟨(some 7), .mv, [(.t 0)], none⟩, ⟨(some 8), .mv, [(.t 1)], none⟩, ⟨(some 9), (.ixs 3), [(.t 7), (.t 8)], none⟩, ⟨(some 10), (.load 3 true), [(.t 9)], none⟩, ⟨(some 11), .mv, [(.t 0)], none⟩, ⟨(some 12), .mv, [(.t 2)], none⟩, ⟨(some 13), (.ixs 3), [(.t 11), (.t 12)], none⟩, ⟨(some 14), (.load 3 true), [(.t 13)], none⟩, ⟨(some 15), (.call 140), [(.t 10), (.t 14)], none⟩, ⟨(some 16), (.ibin .lss), [(.t 15), (.c (.rv (.int .i64 0)))], none⟩, ⟨(some 6), .mv, [(.t 16)], none⟩]) .ret))
theorem k_agenda_pile_Less : FnOK Go.Proofs.Try.prog 138 17 c_agenda_pile_Less [(.t 6)] := fnOK_of (by kernel_rfl)

/- (decoupage/agenda.pile).Swap -/
def c_agenda_pile_Swap : AC := (.regd [0, 0, 0, 0, 0, 0, 48, 112, 0, 0, 768, 1792, 4083, 8179, 16383, 32767] [⟨(some 6), .mv, [(.t 0)], none⟩, ⟨(some 7), .mv, [(.t 1)], none⟩, ⟨(some 8), .mv, [(.t 0)], none⟩, ⟨(some 9), .mv, [(.t 2)], none⟩, ⟨(some 10), .mv, [(.t 0)], none⟩, ⟨(some 11), .mv, [(.t 2)], none⟩, ⟨(some 12), (.ixs 3), [(.t 10), (.t 11)], none⟩, ⟨(some 13), (.load 3 true), [(.t 12)], none⟩, ⟨(some 14), .mv, [(.t 0)], none⟩, ⟨(some 15), .mv, [(.t 1)], none⟩, ⟨(some 16), (.ixs 3), [(.t 14), (.t 15)], none⟩, ⟨(some 17), (.load 3 true), [(.t 16)], none⟩, ⟨(some 18), (.ixs 3), [(.t 6), (.t 7)], none⟩, ⟨none, (.store 3), [(.t 18), (.t 13)], none⟩, ⟨(some 19), (.ixs 3), [(.t 8), (.t 9)], none⟩, ⟨none, (.store 3), [(.t 19), (.t 17)], none⟩])
theorem k_agenda_pile_Swap : FnOK Go.Proofs.Try.prog 139 20 c_agenda_pile_Swap [] := fnOK_of (by kernel_rfl)

/- (*decoupage/agenda.pile).Pop -/
def c_agenda_pile_Pop : AC := (.seq (.reg [⟨(some 2), .mv, [(.c (.rv .nili))], none⟩]) (.seq (.reg [⟨(some 5), .mv, [(.t 0)], none⟩, ⟨(some 6), .nilchk, [(.t 5)], none⟩, ⟨(some 7), (.load 1 false), [(.t 6)], none⟩, ⟨(some 3), .mv, [(.t 7)], none⟩]) (.seq (.reg [⟨(some 8), .mv, [(.t 3)], none⟩, ⟨(some 9), .mv, [(.t 3)], none⟩, ⟨(some 10), .len, [(.t 9)], none⟩, ⟨(some 11), (.ibin .sub), [(.t 10), (.c (.rv (.int .i64 1)))], none⟩, ⟨(some 12), (.ixs 3), [(.t 8), (.t 11)], none⟩, ⟨(some 13), (.load 3 true), [(.t 12)], none⟩, ⟨(some 4), (.alloc [(.int .i64 0), (.int .i64 0), (.int .i64 0)]), [], none⟩, ⟨none, (.store 3), [(.t 4), (.t 13)], none⟩]) (.seq (.reg [⟨(some 14), .mv, [(.t 0)], none⟩, ⟨(some 15), .mv, [(.t 3)], none⟩, ⟨(some 16), .mv, [(.t 3)], none⟩, ⟨(some 17), .len, [(.t 16)], none⟩, ⟨(some 18), (.ibin .sub), [(.t 17), (.c (.rv (.int .i64 1)))], none⟩, ⟨(some 19), (.slc 3 false true), [(.t 15), (.t 18)], none⟩, ⟨(some 20), .nilchk, [(.t 14)], none⟩, ⟨none, (.store 1), [(.t 20), (.t 19)], none⟩]) (.seq (.reg [⟨(some 21), (.load 3 true), [(.t 4)], none⟩, ⟨(some 22), (.mkif 138), [(.t 21)], none⟩, ⟨(some 2), .mv, [(.t 22)], none⟩]) .ret)))))
theorem k_agenda_pile_Pop : FnOK Go.Proofs.Try.prog 147 23 c_agenda_pile_Pop [(.t 2)] := fnOK_of (by kernel_rfl)

/- (*decoupage/agenda.pile).Push -/
def c_agenda_pile_Push : AC := (.seq (.reg [⟨(some 7), .mv, [(.t 1)], none⟩, ⟨(some 8), (.tas 138 true), [(.t 7)], none⟩, ⟨(some 6), .mv, [(.t 8)], none⟩, ⟨(some 9), (.ext 0), [(.t 6)], none⟩, ⟨(some 10), (.ext 1), [(.t 6)], none⟩, ⟨(some 4), (.alloc [(.int .i64 0), (.int .i64 0), (.int .i64 0)]), [], none⟩, ⟨none, (.store 3), [(.t 4), (.t 9)], none⟩, ⟨(some 5), .mv, [(.t 10)], none⟩]) (.seq (.reg [⟨(some 11), .mv, [(.t 5)], none⟩]) (.seq (.cond (.t 11) (.regd [0, 0, 2, 6, 0, 16, 62, 127, 255] [⟨(some 12), .mv, [(.t 0)], none⟩, ⟨(some 13), .mv, [(.t 0)], none⟩, ⟨(some 14), .nilchk, [(.t 13)], none⟩, ⟨(some 15), (.load 1 false), [(.t 14)], none⟩, ⟨(some 16), (.load 3 true), [(.t 4)], none⟩, ⟨(some 17), (.bsl 3), [(.t 16)], none⟩, ⟨(some 18), (.app 3 24), [(.t 15), (.t 17)], none⟩, ⟨(some 19), .nilchk, [(.t 12)], none⟩, ⟨none, (.store 1), [(.t 19), (.t 18)], none⟩]) .skip) .ent)))
theorem k_agenda_pile_Push : FnOK Go.Proofs.Try.prog 148 20 c_agenda_pile_Push [] := fnOK_of (by kernel_rfl)


abbrev cellsL (es : List Ent3) : List (List RV) := es.map Ent3.cells

theorem cellsL_get {es : List Ent3} {i : Nat} (h : i < es.length) : ((cellsL es)[i]?).getD [] = [.int .i64 es[i].key, .int .i64 es[i].tie, .int .i64 es[i].n] := by
  simp [cellsL, h, Ent3.cells]

theorem cellsL_set {es : List Ent3} {i : Nat} {e : Ent3} : (rvs (cellsL es)).set i [.rv (.int .i64 e.key), .rv (.int .i64 e.tie), .rv (.int .i64 e.n)] = rvs (cellsL (es.set i e)) := by
  rw [show ([.rv (.int .i64 e.key), .rv (.int .i64 e.tie), .rv (.int .i64 e.n)] : List SV) = e.cells.map SV.rv from rfl, rvs_set]
  simp [cellsL, List.map_set]

theorem cellsL_drop {es : List Ent3} {i : Nat} : (((cellsL es)[i]?.getD []).map SV.rv).drop 3 = [] := by
  rw [List.drop_eq_nil_iff]
  by_cases h : i < es.length
  · rw [cellsL_get h]; simp
  · rw [List.getElem?_eq_none (by simp [cellsL]; omega)]; simp

theorem sp_agenda_pile_Len (i1 v n : Nat) (es : List Ent3) : CallR Go.Proofs.Try.prog 137 [.row i1 v n] [(i1, .row 3 v (rvs (cellsL es)))] [] (.rv (.int .i64 n)) := by
  refine callR_M k_agenda_pile_Len [i1] [.row 3 v (rvs (cellsL es))] [.row 3 v (rvs (cellsL es))] [.row 0 v n] [.row i1 v n] [] _ (by simp) (by simp [BkAll, bk_row]) rfl (by simp [nodupL]) (by simp [BkHs, rvs_inj]) (fun K hK => ?_)
  simp -implicitDefEqProofs only [c_agenda_pile_Len, g_nil, g_skip, g_reg, g_regd, g_seq, g_block, g_end, g_cond, g_ret, g_exit, gx_nil, gx_c, gx_o, gx_d, gx_b, g_onil, g_dnil, g_op, g_opg, g_opd, g_opdg, condI, callvI, invI, plainI, opI, guardI, callvdI, invdI, plaindI, opdI, guarddI, opE, o1, o2, ix2, loadE, storeE, boxE, allLen, bslE, buildE, fits, fldE, ixsE, ixaE, ixvE, fldvE, lenE, lensE, srcE, appE, bnd2, bndL, bndH, bnd0, bndE, slcE, slcC, pickE, allocE, nilchkE, isNilSV, ibinE, ibin, ishfE, ishf, eqnilE, eqbE, notE, negE, cviE, mkslE, mxE, mnE, extE, isNilSl, isNilFn, isNilIf, isNilO, eqniloE, eqsF, eqsE, cellsEq, cellEq, sbinE, sbin, ifcOf, tasF, tasE, cellsSV, cellsAll, layO, mkEnv, lk, hget_zero, hget_succ, putE, uphO, uph, uphL, evX, rdsX, uIds, List.map_cons, List.map_nil, List.length_cons, List.length_nil, List.length_append, List.length_map, List.length_set, List.set_cons_zero, List.set_cons_succ, List.cons_append, List.nil_append, List.append_nil, List.getElem?_cons_zero, List.getElem?_cons_succ, List.getElem?_nil, List.take_succ_cons, List.take_zero, List.drop_succ_cons, List.drop_zero, List.drop_nil, List.take_nil, Option.getD_some, Option.getD_none, Option.map_some, Option.map_none, true_and, and_true, ↓reduceIte, Nat.reduceEqDiff, Nat.reduceAdd, Nat.reduceSub, Nat.reduceMul, Nat.reduceLeDiff, Nat.reduceLT, Nat.zero_add, Nat.add_zero, decide_eq_true_eq, Bool.false_eq_true, reduceCtorEq, rvs_len, rvs_get, rvs_fold, rvs_take, rvs_append, Int.toNat_natCast, bneTT, bneTF, bneFT, bneFF, Bool.not_true, Bool.not_false, splice0, slcaE, clrE, chunks]
  refine (hK _ _ _ _ [] (ent_refl _ _) ?_).2
  simp [retM, nodupL, newL, allU, keptL, retP, resL, lk, resT, rn_rv, RnHo, lkp, finU, hget, rnRows_rvs]

theorem sp_agenda_pile_Less (i1 v n : Nat) (es : List Ent3) (i j : Nat) (hn : n ≤ es.length) (hi : i < n) (hj : j < n) :
    CallR Go.Proofs.Try.prog 138 [.row i1 v n, .rv (.int .i64 i), .rv (.int .i64 j)] [(i1, .row 3 v (rvs (cellsL es)))] [] (.rv (.bool (decide (cmpE es[i] es[j] < 0)))) := by
  refine callR_M k_agenda_pile_Less [i1] [.row 3 v (rvs (cellsL es))] [.row 3 v (rvs (cellsL es))] [.row 0 v n, .rv (.int .i64 i), .rv (.int .i64 j)] [.row i1 v n, .rv (.int .i64 i), .rv (.int .i64 j)] [] _ (by simp) (by simp [BkAll, bk_row, bk_rv]) rfl (by simp [nodupL]) (by simp [BkHs, rvs_inj]) (fun K hK => ?_)
  simp -implicitDefEqProofs only [c_agenda_pile_Less, cellsL_get (show i < es.length by omega), cellsL_get (show j < es.length by omega), g_nil, g_skip, g_reg, g_regd, g_seq, g_block, g_end, g_cond, g_ret, g_exit, gx_nil, gx_c, gx_o, gx_d, gx_b, g_onil, g_dnil, g_op, g_opg, g_opd, g_opdg, condI, callvI, invI, plainI, opI, guardI, callvdI, invdI, plaindI, opdI, guarddI, opE, o1, o2, ix2, loadE, storeE, boxE, allLen, bslE, buildE, fits, fldE, ixsE, ixaE, ixvE, fldvE, lenE, lensE, srcE, appE, bnd2, bndL, bndH, bnd0, bndE, slcE, slcC, pickE, allocE, nilchkE, isNilSV, ibinE, ibin, ishfE, ishf, eqnilE, eqbE, notE, negE, cviE, mkslE, mxE, mnE, extE, isNilSl, isNilFn, isNilIf, isNilO, eqniloE, eqsF, eqsE, cellsEq, cellEq, sbinE, sbin, ifcOf, tasF, tasE, cellsSV, cellsAll, layO, mkEnv, lk, hget_zero, hget_succ, putE, uphO, uph, uphL, evX, rdsX, uIds, List.map_cons, List.map_nil, List.length_cons, List.length_nil, List.length_append, List.length_map, List.length_set, List.set_cons_zero, List.set_cons_succ, List.cons_append, List.nil_append, List.append_nil, List.getElem?_cons_zero, List.getElem?_cons_succ, List.getElem?_nil, List.take_succ_cons, List.take_zero, List.drop_succ_cons, List.drop_zero, List.drop_nil, List.take_nil, Option.getD_some, Option.getD_none, Option.map_some, Option.map_none, true_and, and_true, ↓reduceIte, Nat.reduceEqDiff, Nat.reduceAdd, Nat.reduceSub, Nat.reduceMul, Nat.reduceLeDiff, Nat.reduceLT, Nat.zero_add, Nat.add_zero, decide_eq_true_eq, Bool.false_eq_true, reduceCtorEq, rvs_len, rvs_get, rvs_fold, rvs_take, rvs_append, Int.toNat_natCast, bneTT, bneTF, bneFT, bneFF, Bool.not_true, Bool.not_false, splice0, slcaE, clrE, chunks]
  refine ⟨by omega, by omega, by omega, by omega, ?_⟩
  refine g_calld0 (sp_agenda_Entry_Compare es[i] es[j]) ?_
  simp -implicitDefEqProofs only [g_nil, g_skip, g_reg, g_regd, g_seq, g_block, g_end, g_cond, g_ret, g_exit, gx_nil, gx_c, gx_o, gx_d, gx_b, g_onil, g_dnil, g_op, g_opg, g_opd, g_opdg, condI, callvI, invI, plainI, opI, guardI, callvdI, invdI, plaindI, opdI, guarddI, opE, o1, o2, ix2, loadE, storeE, boxE, allLen, bslE, buildE, fits, fldE, ixsE, ixaE, ixvE, fldvE, lenE, lensE, srcE, appE, bnd2, bndL, bndH, bnd0, bndE, slcE, slcC, pickE, allocE, nilchkE, isNilSV, ibinE, ibin, ishfE, ishf, eqnilE, eqbE, notE, negE, cviE, mkslE, mxE, mnE, extE, isNilSl, isNilFn, isNilIf, isNilO, eqniloE, eqsF, eqsE, cellsEq, cellEq, sbinE, sbin, ifcOf, tasF, tasE, cellsSV, cellsAll, layO, mkEnv, lk, hget_zero, hget_succ, putE, uphO, uph, uphL, evX, rdsX, uIds, List.map_cons, List.map_nil, List.length_cons, List.length_nil, List.length_append, List.length_map, List.length_set, List.set_cons_zero, List.set_cons_succ, List.cons_append, List.nil_append, List.append_nil, List.getElem?_cons_zero, List.getElem?_cons_succ, List.getElem?_nil, List.take_succ_cons, List.take_zero, List.drop_succ_cons, List.drop_zero, List.drop_nil, List.take_nil, Option.getD_some, Option.getD_none, Option.map_some, Option.map_none, true_and, and_true, ↓reduceIte, Nat.reduceEqDiff, Nat.reduceAdd, Nat.reduceSub, Nat.reduceMul, Nat.reduceLeDiff, Nat.reduceLT, Nat.zero_add, Nat.add_zero, decide_eq_true_eq, Bool.false_eq_true, reduceCtorEq, rvs_len, rvs_get, rvs_fold, rvs_take, rvs_append, Int.toNat_natCast, bneTT, bneTF, bneFT, bneFF, Bool.not_true, Bool.not_false, splice0, slcaE, clrE, chunks]
  refine ⟨by decide, ?_⟩
  refine (hK _ _ _ _ [] (ent_refl _ _) ?_).2
  simp [retM, nodupL, newL, allU, keptL, retP, resL, lk, resT, rn_rv, RnHo, lkp, finU, hget, rnRows_rvs]

def swapL (es : List Ent3) (i j : Nat) (hi : i < es.length) (hj : j < es.length) : List Ent3 := (es.set i es[j]).set j es[i]

theorem sp_agenda_pile_Swap (i1 v n : Nat) (es : List Ent3) (i j : Nat) (hn : n ≤ es.length) (hi : i < n) (hj : j < n) :
    CallR Go.Proofs.Try.prog 139 [.row i1 v n, .rv (.int .i64 i), .rv (.int .i64 j)] [(i1, .row 3 v (rvs (cellsL es)))] [(i1, .row 3 v (rvs (cellsL (swapL es i j (by omega) (by omega)))))] (.tup []) := by
  refine callR_M k_agenda_pile_Swap [i1] [.row 3 v (rvs (cellsL es))] [.row 3 v (rvs (cellsL es))] [.row 0 v n, .rv (.int .i64 i), .rv (.int .i64 j)] [.row i1 v n, .rv (.int .i64 i), .rv (.int .i64 j)] _ _ (by simp) (by simp [BkAll, bk_row, bk_rv]) rfl (by simp [nodupL]) (by simp [BkHs, rvs_inj]) (fun K hK => ?_)
  simp -implicitDefEqProofs only [c_agenda_pile_Swap, cellsL_get (show i < es.length by omega), cellsL_get (show j < es.length by omega), g_nil, g_skip, g_reg, g_regd, g_seq, g_block, g_end, g_cond, g_ret, g_exit, gx_nil, gx_c, gx_o, gx_d, gx_b, g_onil, g_dnil, g_op, g_opg, g_opd, g_opdg, condI, callvI, invI, plainI, opI, guardI, callvdI, invdI, plaindI, opdI, guarddI, opE, o1, o2, ix2, loadE, storeE, boxE, allLen, bslE, buildE, fits, fldE, ixsE, ixaE, ixvE, fldvE, lenE, lensE, srcE, appE, bnd2, bndL, bndH, bnd0, bndE, slcE, slcC, pickE, allocE, nilchkE, isNilSV, ibinE, ibin, ishfE, ishf, eqnilE, eqbE, notE, negE, cviE, mkslE, mxE, mnE, extE, isNilSl, isNilFn, isNilIf, isNilO, eqniloE, eqsF, eqsE, cellsEq, cellEq, sbinE, sbin, ifcOf, tasF, tasE, cellsSV, cellsAll, layO, mkEnv, lk, hget_zero, hget_succ, putE, uphO, uph, uphL, evX, rdsX, uIds, List.map_cons, List.map_nil, List.length_cons, List.length_nil, List.length_append, List.length_map, List.length_set, List.set_cons_zero, List.set_cons_succ, List.cons_append, List.nil_append, List.append_nil, List.getElem?_cons_zero, List.getElem?_cons_succ, List.getElem?_nil, List.take_succ_cons, List.take_zero, List.drop_succ_cons, List.drop_zero, List.drop_nil, List.take_nil, Option.getD_some, Option.getD_none, Option.map_some, Option.map_none, true_and, and_true, ↓reduceIte, Nat.reduceEqDiff, Nat.reduceAdd, Nat.reduceSub, Nat.reduceMul, Nat.reduceLeDiff, Nat.reduceLT, Nat.zero_add, Nat.add_zero, decide_eq_true_eq, Bool.false_eq_true, reduceCtorEq, rvs_len, rvs_get, rvs_fold, rvs_take, rvs_append, Int.toNat_natCast, bneTT, bneTF, bneFT, bneFF, Bool.not_true, Bool.not_false, splice0, slcaE, clrE, chunks]
  simp -implicitDefEqProofs only [cellsL_set, cellsL_drop, rvs_get, List.length_set]
  refine ⟨by omega, by omega, by omega, by omega, by omega, by omega, by omega, by omega, by decide, ?_⟩
  refine (hK _ _ _ _ [] (ent_refl _ _) ?_).1
  simp [retM, nodupL, newL, allU, keptL, retP, resL, lk, resT, RnHo, lkp, finU, hget, cellsL_set, rnRows_rvs, swapL, rn_tup, RnAll]

theorem sp_agenda_pile_Pop (i0 i1 v n : Nat) (es : List Ent3) (hi : i0 ≠ i1) (hn : n ≤ es.length) (h0 : 0 < n) (hb : n < 1000000) :
    CallR Go.Proofs.Try.prog 147 [.ptr i0 0] [(i0, .var [.row i1 v n]), (i1, .row 3 v (rvs (cellsL es)))] [(i0, .var [.row i1 v (n - 1)])] (.ifc 138 (es[n-1]).sv) := by
  refine callR_M k_agenda_pile_Pop [i0, i1] [.var [.row 1 v n], .row 3 v (rvs (cellsL es))] [.var [.row i1 v n], .row 3 v (rvs (cellsL es))] [.ptr 0 0] [.ptr i0 0] _ _ (by simp) (by simp [BkAll, bk_ptr]) rfl (by simp [nodupL, hi]) (by simp [BkHs, rvs_inj, BkAll, bk_row]) (fun K hK => ?_)
  have hw : IntKind.i64.wrap ((n : Int) - 1) = ((n - 1 : Nat) : Int) := by rw [wrap_i64 (by omega) (by omega)]; omega
  simp -implicitDefEqProofs only [c_agenda_pile_Pop, hw, cellsL_get (show n - 1 < es.length by omega), g_nil, g_skip, g_reg, g_regd, g_seq, g_block, g_end, g_cond, g_ret, g_exit, gx_nil, gx_c, gx_o, gx_d, gx_b, g_onil, g_dnil, g_op, g_opg, g_opd, g_opdg, condI, callvI, invI, plainI, opI, guardI, callvdI, invdI, plaindI, opdI, guarddI, opE, o1, o2, ix2, loadE, storeE, boxE, allLen, bslE, buildE, fits, fldE, ixsE, ixaE, ixvE, fldvE, lenE, lensE, srcE, appE, bnd2, bndL, bndH, bnd0, bndE, slcE, slcC, pickE, allocE, nilchkE, isNilSV, ibinE, ibin, ishfE, ishf, eqnilE, eqbE, notE, negE, cviE, mkslE, mxE, mnE, extE, isNilSl, isNilFn, isNilIf, isNilO, eqniloE, eqsF, eqsE, cellsEq, cellEq, sbinE, sbin, ifcOf, tasF, tasE, cellsSV, cellsAll, layO, mkEnv, lk, hget_zero, hget_succ, putE, uphO, uph, uphL, evX, rdsX, uIds, List.map_cons, List.map_nil, List.length_cons, List.length_nil, List.length_append, List.length_map, List.length_set, List.set_cons_zero, List.set_cons_succ, List.cons_append, List.nil_append, List.append_nil, List.getElem?_cons_zero, List.getElem?_cons_succ, List.getElem?_nil, List.take_succ_cons, List.take_zero, List.drop_succ_cons, List.drop_zero, List.drop_nil, List.take_nil, Option.getD_some, Option.getD_none, Option.map_some, Option.map_none, true_and, and_true, ↓reduceIte, Nat.reduceEqDiff, Nat.reduceAdd, Nat.reduceSub, Nat.reduceMul, Nat.reduceLeDiff, Nat.reduceLT, Nat.zero_add, Nat.add_zero, decide_eq_true_eq, Bool.false_eq_true, reduceCtorEq, rvs_len, rvs_get, rvs_fold, rvs_take, rvs_append, Int.toNat_natCast, bneTT, bneTF, bneFT, bneFF, Bool.not_true, Bool.not_false, splice0, slcaE, clrE, chunks]
  refine ⟨by omega, by omega, by omega, ?_⟩
  refine (hK _ _ _ _ [] (ent_refl _ _) ?_).2
  simp [retM, nodupL, newL, allU, keptL, retP, resL, lk, resT, RnHo, lkp, finU, hget_zero, hget_succ, hget, rnRows_rvs, rn_tup, rn_rv, rn_row, rn_ptr, rn_ifc, rn_agg, rn_dead, RnAll, ofL, rnAll_map, hi, Ne.symm hi, Ent3.sv]

theorem sp_agenda_pile_Push (i0 i1 v n : Nat) (es : List Ent3) (e : Ent3) (hi : i0 ≠ i1) (hn : n ≤ es.length) (hb : n < 1000000) :
    CallR Go.Proofs.Try.prog 148 [.ptr i0 0, .ifc 138 e.sv] [(i0, .var [.row i1 v n]), (i1, .row 3 v (rvs (cellsL es)))] [(i0, .var [.row i1 (v + 1) (n + 1)]), (i1, .row 3 (v + 1) (rvs (cellsL (es.take n ++ [e]))))] (.tup []) := by
  refine callR_M k_agenda_pile_Push [i0, i1] [.var [.row 1 v n], .row 3 v (rvs (cellsL es))] [.var [.row i1 v n], .row 3 v (rvs (cellsL es))] [.ptr 0 0, .ifc 138 e.sv] [.ptr i0 0, .ifc 138 e.sv] _ _ (by simp) (by simp [BkAll, bk_ptr, bk_ifc, bk_agg, bk_rv, Ent3.sv]) rfl (by simp [nodupL, hi]) (by simp [BkHs, rvs_inj, BkAll, bk_row]) (fun K hK => ?_)
  simp -implicitDefEqProofs only [c_agenda_pile_Push, Ent3.sv, g_nil, g_skip, g_reg, g_regd, g_seq, g_block, g_end, g_cond, g_ret, g_exit, gx_nil, gx_c, gx_o, gx_d, gx_b, g_onil, g_dnil, g_op, g_opg, g_opd, g_opdg, condI, callvI, invI, plainI, opI, guardI, callvdI, invdI, plaindI, opdI, guarddI, opE, o1, o2, ix2, loadE, storeE, boxE, allLen, bslE, buildE, fits, fldE, ixsE, ixaE, ixvE, fldvE, lenE, lensE, srcE, appE, bnd2, bndL, bndH, bnd0, bndE, slcE, slcC, pickE, allocE, nilchkE, isNilSV, ibinE, ibin, ishfE, ishf, eqnilE, eqbE, notE, negE, cviE, mkslE, mxE, mnE, extE, isNilSl, isNilFn, isNilIf, isNilO, eqniloE, eqsF, eqsE, cellsEq, cellEq, sbinE, sbin, ifcOf, tasF, tasE, cellsSV, cellsAll, layO, mkEnv, lk, hget_zero, hget_succ, putE, uphO, uph, uphL, evX, rdsX, uIds, List.map_cons, List.map_nil, List.length_cons, List.length_nil, List.length_append, List.length_map, List.length_set, List.set_cons_zero, List.set_cons_succ, List.cons_append, List.nil_append, List.append_nil, List.getElem?_cons_zero, List.getElem?_cons_succ, List.getElem?_nil, List.take_succ_cons, List.take_zero, List.drop_succ_cons, List.drop_zero, List.drop_nil, List.take_nil, Option.getD_some, Option.getD_none, Option.map_some, Option.map_none, true_and, and_true, ↓reduceIte, Nat.reduceEqDiff, Nat.reduceAdd, Nat.reduceSub, Nat.reduceMul, Nat.reduceLeDiff, Nat.reduceLT, Nat.zero_add, Nat.add_zero, decide_eq_true_eq, Bool.false_eq_true, reduceCtorEq, rvs_len, rvs_get, rvs_fold, rvs_take, rvs_append, Int.toNat_natCast, bneTT, bneTF, bneFT, bneFF, Bool.not_true, Bool.not_false, splice0, slcaE, clrE, chunks]
  refine ⟨⟨by omega, by simp -implicitDefEqProofs only [maxLen]; omega, by omega⟩, by decide, g_noent ?_⟩
  simp -implicitDefEqProofs only [g_nil, g_skip, g_reg, g_regd, g_seq, g_block, g_end, g_cond, g_ret, g_exit, gx_nil, gx_c, gx_o, gx_d, gx_b, g_onil, g_dnil, g_op, g_opg, g_opd, g_opdg, condI, callvI, invI, plainI, opI, guardI, callvdI, invdI, plaindI, opdI, guarddI, opE, o1, o2, ix2, loadE, storeE, boxE, allLen, bslE, buildE, fits, fldE, ixsE, ixaE, ixvE, fldvE, lenE, lensE, srcE, appE, bnd2, bndL, bndH, bnd0, bndE, slcE, slcC, pickE, allocE, nilchkE, isNilSV, ibinE, ibin, ishfE, ishf, eqnilE, eqbE, notE, negE, cviE, mkslE, mxE, mnE, extE, isNilSl, isNilFn, isNilIf, isNilO, eqniloE, eqsF, eqsE, cellsEq, cellEq, sbinE, sbin, ifcOf, tasF, tasE, cellsSV, cellsAll, layO, mkEnv, lk, hget_zero, hget_succ, putE, uphO, uph, uphL, evX, rdsX, uIds, List.map_cons, List.map_nil, List.length_cons, List.length_nil, List.length_append, List.length_map, List.length_set, List.set_cons_zero, List.set_cons_succ, List.cons_append, List.nil_append, List.append_nil, List.getElem?_cons_zero, List.getElem?_cons_succ, List.getElem?_nil, List.take_succ_cons, List.take_zero, List.drop_succ_cons, List.drop_zero, List.drop_nil, List.take_nil, Option.getD_some, Option.getD_none, Option.map_some, Option.map_none, true_and, and_true, ↓reduceIte, Nat.reduceEqDiff, Nat.reduceAdd, Nat.reduceSub, Nat.reduceMul, Nat.reduceLeDiff, Nat.reduceLT, Nat.zero_add, Nat.add_zero, decide_eq_true_eq, Bool.false_eq_true, reduceCtorEq, rvs_len, rvs_get, rvs_fold, rvs_take, rvs_append, Int.toNat_natCast, bneTT, bneTF, bneFT, bneFF, Bool.not_true, Bool.not_false, splice0, slcaE, clrE, chunks]
  refine (hK _ _ _ _ [] (ent_refl _ _) ?_).1
  have hx : rvs (List.take n (cellsL es)) ++ [[SV.rv (.int .i64 e.key), .rv (.int .i64 e.tie), .rv (.int .i64 e.n)]] = rvs (cellsL (es.take n ++ [e])) := by
    rw [show ([[SV.rv (.int .i64 e.key), .rv (.int .i64 e.tie), .rv (.int .i64 e.n)]] : List (List SV)) = rvs [e.cells] from rfl, rvs_append]
    simp [cellsL, List.map_take]
  simp [hx, retM, nodupL, newL, allU, keptL, retP, resL, lk, resT, RnHo, lkp, finU, hget_zero, hget_succ, hget, rnRows_rvs, rn_tup, rn_rv, rn_row, rn_ptr, rn_ifc, rn_agg, rn_dead, RnAll, ofL, rnAll_map, hi, Ne.symm hi]
end Go.Eng
