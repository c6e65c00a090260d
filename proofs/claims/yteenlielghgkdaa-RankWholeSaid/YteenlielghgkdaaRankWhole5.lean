/- Part 5 of the proof: R1, R2, R3, R5, KF, KG. -/
import Derived.Test.YteenlielghgkdaaRankWhole4
import Derived.Test.YteenlielghgkdaaProg
import Derived.KernelRfl
set_option linter.unusedSimpArgs false
set_option linter.unusedVariables false
/- rank: steps and their order. -/
namespace Go.Eng
open Go
/- cmp.isNaN[int] -/
def c_cmp_isNaN_int : AC := (.seq (.reg [⟨(some 2), .mv, [(.c (.rv (.bool false)))], none⟩]) (.seq (.reg [⟨(some 3), .mv, [(.t 0)], none⟩, ⟨(some 4), .mv, [(.t 0)], none⟩, ⟨(some 5), (.ibin .neq), [(.t 3), (.t 4)], none⟩, ⟨(some 2), .mv, [(.t 5)], none⟩]) .ret))
theorem k_cmp_isNaN_int : FnOK Go.Proofs.Try.prog 110 6 c_cmp_isNaN_int [(.t 2)] := fnOK_of (by kernel_rfl)

/- cmp.isNaN[int64] -/
def c_cmp_isNaN_int64 : AC := (.seq (.reg [⟨(some 2), .mv, [(.c (.rv (.bool false)))], none⟩]) (.seq (.reg [⟨(some 3), .mv, [(.t 0)], none⟩, ⟨(some 4), .mv, [(.t 0)], none⟩, ⟨(some 5), (.ibin .neq), [(.t 3), (.t 4)], none⟩, ⟨(some 2), .mv, [(.t 5)], none⟩]) .ret))
theorem k_cmp_isNaN_int64 : FnOK Go.Proofs.Try.prog 111 6 c_cmp_isNaN_int64 [(.t 2)] := fnOK_of (by kernel_rfl)

/- cmp.Compare[int] -/
def c_cmp_Compare_int : AC := (.seq (.reg [⟨(some 4), .mv, [(.c (.rv (.int .i64 0)))], none⟩]) (.seq (.reg [⟨(some 7), .mv, [(.t 0)], none⟩, ⟨(some 8), (.call 110), [(.t 7)], none⟩, ⟨(some 5), .mv, [(.t 8)], none⟩]) (.seq (.reg [⟨(some 9), .mv, [(.t 1)], none⟩, ⟨(some 10), (.call 110), [(.t 9)], none⟩, ⟨(some 6), .mv, [(.t 10)], none⟩]) (.seq (.seq (.reg [⟨(some 11), .mv, [(.t 5)], none⟩]) (.cond (.t 11) (.seq (.seq (.reg [⟨(some 12), .mv, [(.t 6)], none⟩]) (.cond (.t 12) (.seq (.reg [⟨(some 4), .mv, [(.c (.rv (.int .i64 0)))], none⟩]) .ret) .skip)) (.seq (.reg [⟨(some 4), .mv, [(.c (.rv (.int .i64 (-1))))], none⟩]) .ret)) .skip)) (.seq (.seq (.reg [⟨(some 13), .mv, [(.t 6)], none⟩]) (.cond (.t 13) (.seq (.reg [⟨(some 4), .mv, [(.c (.rv (.int .i64 1)))], none⟩]) .ret) .skip)) (.seq (.seq (.reg [⟨(some 14), .mv, [(.t 0)], none⟩, ⟨(some 15), .mv, [(.t 1)], none⟩, ⟨(some 16), (.ibin .lss), [(.t 14), (.t 15)], none⟩]) (.cond (.t 16) (.seq (.reg [⟨(some 4), .mv, [(.c (.rv (.int .i64 (-1))))], none⟩]) .ret) .skip)) (.seq (.seq (.reg [⟨(some 17), .mv, [(.t 0)], none⟩, ⟨(some 18), .mv, [(.t 1)], none⟩, ⟨(some 19), (.ibin .gtr), [(.t 17), (.t 18)], none⟩]) (.cond (.t 19) (.seq (.reg [⟨(some 4), .mv, [(.c (.rv (.int .i64 1)))], none⟩]) .ret) .skip)) (.seq (.reg [⟨(some 4), .mv, [(.c (.rv (.int .i64 0)))], none⟩]) .ret))))))))
theorem k_cmp_Compare_int : FnOK Go.Proofs.Try.prog 101 20 c_cmp_Compare_int [(.t 4)] := fnOK_of (by kernel_rfl)

/- cmp.Compare[int64] -/
def c_cmp_Compare_int64 : AC := (.seq (.reg [⟨(some 4), .mv, [(.c (.rv (.int .i64 0)))], none⟩]) (.seq (.reg [⟨(some 7), .mv, [(.t 0)], none⟩, ⟨(some 8), (.call 111), [(.t 7)], none⟩, ⟨(some 5), .mv, [(.t 8)], none⟩]) (.seq (.reg [⟨(some 9), .mv, [(.t 1)], none⟩, ⟨(some 10), (.call 111), [(.t 9)], none⟩, ⟨(some 6), .mv, [(.t 10)], none⟩]) (.seq (.seq (.reg [⟨(some 11), .mv, [(.t 5)], none⟩]) (.cond (.t 11) (.seq (.seq (.reg [⟨(some 12), .mv, [(.t 6)], none⟩]) (.cond (.t 12) (.seq (.reg [⟨(some 4), .mv, [(.c (.rv (.int .i64 0)))], none⟩]) .ret) .skip)) (.seq (.reg [⟨(some 4), .mv, [(.c (.rv (.int .i64 (-1))))], none⟩]) .ret)) .skip)) (.seq (.seq (.reg [⟨(some 13), .mv, [(.t 6)], none⟩]) (.cond (.t 13) (.seq (.reg [⟨(some 4), .mv, [(.c (.rv (.int .i64 1)))], none⟩]) .ret) .skip)) (.seq (.seq (.reg [⟨(some 14), .mv, [(.t 0)], none⟩, ⟨(some 15), .mv, [(.t 1)], none⟩, ⟨(some 16), (.ibin .lss), [(.t 14), (.t 15)], none⟩]) (.cond (.t 16) (.seq (.reg [⟨(some 4), .mv, [(.c (.rv (.int .i64 (-1))))], none⟩]) .ret) .skip)) (.seq (.seq (.reg [⟨(some 17), .mv, [(.t 0)], none⟩, ⟨(some 18), .mv, [(.t 1)], none⟩, ⟨(some 19), (.ibin .gtr), [(.t 17), (.t 18)], none⟩]) (.cond (.t 19) (.seq (.reg [⟨(some 4), .mv, [(.c (.rv (.int .i64 1)))], none⟩]) .ret) .skip)) (.seq (.reg [⟨(some 4), .mv, [(.c (.rv (.int .i64 0)))], none⟩]) .ret))))))))
theorem k_cmp_Compare_int64 : FnOK Go.Proofs.Try.prog 102 20 c_cmp_Compare_int64 [(.t 4)] := fnOK_of (by kernel_rfl)

/- cmp.Or[int] -/
def c_cmp_Or_int : AC := (.seq (.reg [⟨(some 2), .mv, [(.c (.rv (.int .i64 0)))], none⟩]) (.seq (.reg [⟨(some 3), .mv, [(.c (.rv (.int .i64 0)))], none⟩]) (.seq (.seq (.reg [⟨(some 6), .mv, [(.t 0)], none⟩, ⟨(some 7), .len, [(.t 6)], none⟩, ⟨(some 8), .mv, [(.c (.rv (.int .i64 0)))], none⟩]) (.seq (.block 0 (.loop (.seq (.reg [⟨(some 9), (.ibin .lss), [(.t 8), (.t 7)], none⟩]) (.seq (.cond (.t 9) .skip (.exit 0)) (.seq (.seq (.block 1 (.seq (.reg [⟨(some 10), (.ixs 1), [(.t 6), (.t 8)], none⟩, ⟨(some 11), (.load 1 false), [(.t 10)], none⟩, ⟨(some 5), .mv, [(.t 11)], none⟩]) (.seq (.reg [⟨(some 12), .mv, [(.t 5)], none⟩, ⟨(some 13), .mv, [(.t 3)], none⟩, ⟨(some 14), (.ibin .neq), [(.t 12), (.t 13)], none⟩]) (.cond (.t 14) (.seq (.reg [⟨(some 15), .mv, [(.t 5)], none⟩, ⟨(some 2), .mv, [(.t 15)], none⟩]) .ret) .skip)))) .ent) (.reg [⟨(some 16), (.ibin .add), [(.t 8), (.c (.rv (.int .i64 1)))], none⟩, ⟨(some 8), .mv, [(.t 16)], none⟩])))))) .ent)) (.seq (.reg [⟨(some 17), .mv, [(.t 3)], none⟩, ⟨(some 2), .mv, [(.t 17)], none⟩]) .ret))))
theorem k_cmp_Or_int : FnOK Go.Proofs.Try.prog 100 18 c_cmp_Or_int [(.t 2)] := fnOK_of (by kernel_rfl)

/- (decoupage/rank.Step).compare -/
def c_rank_Step_compare : AC := (.seq (.reg [⟨(some 2), .box, [(.t 0)], none⟩, ⟨(some 3), .box, [(.t 1)], none⟩, ⟨(some 4), .mv, [(.c (.rv (.int .i64 0)))], none⟩]) (.seq (.regd [0, 1, 0, 4, 15, 0, 32, 0, 128, 511, 0, 1024, 0, 4096, 16383, 32767, 65535, 131071] [⟨(some 5), (.fld 0), [(.t 2)], none⟩, ⟨(some 6), (.load 1 false), [(.t 5)], none⟩, ⟨(some 7), (.fld 0), [(.t 3)], none⟩, ⟨(some 8), (.load 1 false), [(.t 7)], none⟩, ⟨(some 9), (.call 101), [(.t 6), (.t 8)], none⟩, ⟨(some 10), (.fld 1), [(.t 2)], none⟩, ⟨(some 11), (.load 1 false), [(.t 10)], none⟩, ⟨(some 12), (.fld 1), [(.t 3)], none⟩, ⟨(some 13), (.load 1 false), [(.t 12)], none⟩, ⟨(some 14), (.call 102), [(.t 11), (.t 13)], none⟩, ⟨(some 15), (.fld 2), [(.t 2)], none⟩, ⟨(some 16), (.load 1 false), [(.t 15)], none⟩, ⟨(some 17), (.fld 2), [(.t 3)], none⟩, ⟨(some 18), (.load 1 false), [(.t 17)], none⟩, ⟨(some 19), (.call 101), [(.t 16), (.t 18)], none⟩, ⟨(some 20), (.bsl 1), [(.t 9), (.t 14), (.t 19)], none⟩, ⟨(some 21), (.call 100), [(.t 20)], none⟩, ⟨(some 4), .mv, [(.t 21)], none⟩]) .ret))
theorem k_rank_Step_compare : FnOK Go.Proofs.Try.prog 87 22 c_rank_Step_compare [(.t 4)] := fnOK_of (by kernel_rfl)

/- decoupage/rank.step -/
def c_rank_step : AC := (.seq (.reg [⟨(some 4), (.alloc [(.int .i64 0), (.int .i64 0), (.int .i64 0)]), [], none⟩]) (.seq (.reg [⟨(some 6), .mv, [(.t 0)], none⟩, ⟨(some 7), .mv, [(.t 1)], none⟩, ⟨(some 8), (.call 26), [(.t 6), (.t 7)], none⟩, ⟨(some 9), (.fldv 44 1 false), [(.t 8)], none⟩, ⟨(some 5), .mv, [(.t 9)], none⟩]) (.seq (.seq (.block 0 (.seq (.reg [⟨(some 11), .mv, [(.t 5)], none⟩, ⟨(some 12), (.ibin .lss), [(.t 11), (.c (.rv (.int .i64 0)))], none⟩, ⟨(some 10), .mv, [(.t 12)], none⟩]) (.cond (.t 10) (.seq (.reg [⟨(some 13), .mv, [(.t 5)], none⟩, ⟨(some 14), .mv, [(.t 1)], none⟩, ⟨(some 15), (.build [(.int .i64 0), (.int .i64 0), (.int .i64 0)] [(0, 1), (1, 1), (2, 1)]), [(.c (.rv (.int .i64 1))), (.t 13), (.t 14)], none⟩, ⟨none, (.store 3), [(.t 4), (.t 15)], none⟩]) .ret) (.seq (.reg [⟨(some 17), .mv, [(.t 5)], none⟩, ⟨(some 18), (.ibin .gtr), [(.t 17), (.c (.rv (.int .i64 0)))], none⟩, ⟨(some 16), .mv, [(.t 18)], none⟩]) (.cond (.t 16) (.seq (.reg [⟨(some 19), .mv, [(.t 5)], none⟩, ⟨(some 20), .mv, [(.t 1)], none⟩, ⟨(some 21), (.build [(.int .i64 0), (.int .i64 0), (.int .i64 0)] [(0, 1), (1, 1), (2, 1)]), [(.c (.rv (.int .i64 4))), (.t 19), (.t 20)], none⟩, ⟨none, (.store 3), [(.t 4), (.t 21)], none⟩]) .ret) .skip))))) .ent) (.seq (.reg [⟨(some 22), .mv, [(.t 1)], none⟩, ⟨(some 23), (.build [(.int .i64 0), (.int .i64 0), (.int .i64 0)] [(0, 1), (1, 1), (2, 1)]), [(.c (.rv (.int .i64 3))), (.c (.rv (.int .i64 0))), (.t 22)], none⟩, ⟨none, (.store 3), [(.t 4), (.t 23)], none⟩]) .ret))))
theorem k_rank_step : FnOK Go.Proofs.Try.prog 82 24 c_rank_step [(.c 4 3 true)] := fnOK_of (by kernel_rfl)

/- slices.Reverse[[]decoupage/rank.Step,decoupage/rank.Step] -/
def c_slices_Reverse_Step : AC := (.seq (.reg [⟨(some 4), .mv, [(.t 0)], none⟩, ⟨(some 5), .len, [(.t 4)], none⟩, ⟨(some 6), (.ibin .sub), [(.t 5), (.c (.rv (.int .i64 1)))], none⟩, ⟨(some 2), .mv, [(.c (.rv (.int .i64 0)))], none⟩, ⟨(some 3), .mv, [(.t 6)], none⟩]) (.seq (.block 0 (.loop (.seq (.seq (.reg [⟨(some 7), .mv, [(.t 2)], none⟩, ⟨(some 8), .mv, [(.t 3)], none⟩, ⟨(some 9), (.ibin .lss), [(.t 7), (.t 8)], none⟩]) (.cond (.t 9) .skip (.exit 0))) (.seq (.seq (.block 1 (.regd [0, 0, 0, 0, 0, 0, 48, 112, 0, 0, 768, 1792, 4083, 8179, 16383, 32767] [⟨(some 14), .mv, [(.t 0)], none⟩, ⟨(some 15), .mv, [(.t 2)], none⟩, ⟨(some 16), .mv, [(.t 0)], none⟩, ⟨(some 17), .mv, [(.t 3)], none⟩, ⟨(some 18), .mv, [(.t 0)], none⟩, ⟨(some 19), .mv, [(.t 3)], none⟩, ⟨(some 20), (.ixs 3), [(.t 18), (.t 19)], none⟩, ⟨(some 21), (.load 3 true), [(.t 20)], none⟩, ⟨(some 22), .mv, [(.t 0)], none⟩, ⟨(some 23), .mv, [(.t 2)], none⟩, ⟨(some 24), (.ixs 3), [(.t 22), (.t 23)], none⟩, ⟨(some 25), (.load 3 true), [(.t 24)], none⟩, ⟨(some 26), (.ixs 3), [(.t 14), (.t 15)], none⟩, ⟨none, (.store 3), [(.t 26), (.t 21)], none⟩, ⟨(some 27), (.ixs 3), [(.t 16), (.t 17)], none⟩, ⟨none, (.store 3), [(.t 27), (.t 25)], none⟩])) .ent) (.reg [⟨(some 10), .mv, [(.t 2)], none⟩, ⟨(some 11), (.ibin .add), [(.t 10), (.c (.rv (.int .i64 1)))], none⟩, ⟨(some 12), .mv, [(.t 3)], none⟩, ⟨(some 13), (.ibin .sub), [(.t 12), (.c (.rv (.int .i64 1)))], none⟩, ⟨(some 2), .mv, [(.t 11)], none⟩, ⟨(some 3), .mv, [(.t 13)], none⟩]))))) .ent))
theorem k_slices_Reverse_Step : FnOK Go.Proofs.Try.prog 83 28 c_slices_Reverse_Step [] := fnOK_of (by kernel_rfl)

/- slices.CompareFunc[[]decoupage/rank.Step,[]decoupage/rank.Step,decoupage/rank.Step,decoupage/rank.Step] -/
def c_slices_CompareFunc_Step : AC := (.seq (.reg [⟨(some 6), .mv, [(.c (.rv (.int .i64 0)))], none⟩]) (.seq (.seq (.reg [⟨(some 11), .mv, [(.t 0)], none⟩, ⟨(some 12), .len, [(.t 11)], none⟩, ⟨(some 13), .mv, [(.c (.rv (.int .i64 0)))], none⟩]) (.seq (.block 0 (.loop (.seq (.reg [⟨(some 14), (.ibin .lss), [(.t 13), (.t 12)], none⟩]) (.seq (.cond (.t 14) .skip (.exit 0)) (.seq (.seq (.block 1 (.seq (.reg [⟨(some 15), .mv, [(.t 13)], none⟩, ⟨(some 16), (.ixs 3), [(.t 11), (.t 13)], none⟩, ⟨(some 17), (.load 3 true), [(.t 16)], none⟩, ⟨(some 8), (.alloc [(.int .i64 0), (.int .i64 0), (.int .i64 0)]), [], none⟩, ⟨(some 7), .mv, [(.t 15)], none⟩, ⟨none, (.store 3), [(.t 8), (.t 17)], none⟩]) (.seq (.seq (.reg [⟨(some 18), .mv, [(.t 7)], none⟩, ⟨(some 19), .mv, [(.t 1)], none⟩, ⟨(some 20), .len, [(.t 19)], none⟩, ⟨(some 21), (.ibin .geq), [(.t 18), (.t 20)], none⟩]) (.cond (.t 21) (.seq (.reg [⟨(some 6), .mv, [(.c (.rv (.int .i64 1)))], none⟩]) .ret) .skip)) (.seq (.reg [⟨(some 22), .mv, [(.t 1)], none⟩, ⟨(some 23), .mv, [(.t 7)], none⟩, ⟨(some 24), (.ixs 3), [(.t 22), (.t 23)], none⟩, ⟨(some 25), (.load 3 true), [(.t 24)], none⟩, ⟨(some 9), (.alloc [(.int .i64 0), (.int .i64 0), (.int .i64 0)]), [], none⟩, ⟨none, (.store 3), [(.t 9), (.t 25)], none⟩]) (.seq (.reg [⟨(some 26), .mv, [(.t 2)], none⟩, ⟨(some 27), (.load 3 true), [(.t 8)], none⟩, ⟨(some 28), (.load 3 true), [(.t 9)], none⟩, ⟨(some 29), .callv, [(.t 26), (.t 27), (.t 28)], none⟩, ⟨(some 10), .mv, [(.t 29)], none⟩]) (.seq (.reg [⟨(some 30), .mv, [(.t 10)], none⟩, ⟨(some 31), (.ibin .neq), [(.t 30), (.c (.rv (.int .i64 0)))], none⟩]) (.cond (.t 31) (.seq (.reg [⟨(some 32), .mv, [(.t 10)], none⟩, ⟨(some 6), .mv, [(.t 32)], none⟩]) .ret) .skip))))))) .ent) (.reg [⟨(some 33), (.ibin .add), [(.t 13), (.c (.rv (.int .i64 1)))], none⟩, ⟨(some 13), .mv, [(.t 33)], none⟩])))))) .ent)) (.seq (.seq (.reg [⟨(some 34), .mv, [(.t 0)], none⟩, ⟨(some 35), .len, [(.t 34)], none⟩, ⟨(some 36), .mv, [(.t 1)], none⟩, ⟨(some 37), .len, [(.t 36)], none⟩, ⟨(some 38), (.ibin .lss), [(.t 35), (.t 37)], none⟩]) (.cond (.t 38) (.seq (.reg [⟨(some 6), .mv, [(.c (.rv (.int .i64 (-1))))], none⟩]) .ret) .skip)) (.seq (.reg [⟨(some 6), .mv, [(.c (.rv (.int .i64 0)))], none⟩]) .ret))))
theorem k_slices_CompareFunc_Step : FnOK Go.Proofs.Try.prog 86 39 c_slices_CompareFunc_Step [(.t 6)] := fnOK_of (by kernel_rfl)

theorem sp_isNaN (a : Int) : CallR Go.Proofs.Try.prog 110 [.rv (.int .i64 a)] [] [] (.rv (.bool false)) := by
  refine callR_G k_cmp_isNaN_int [.rv (.int .i64 a)] _ (by simp) (by simp [BkAll, bk_agg, bkAll_map, bk_rv, bk_fn, Sty.sv, Ln.sv, Nd.sv]) (fun K hK => ?_)
  simp -implicitDefEqProofs only [c_cmp_isNaN_int, go_sem, ↓reduceIte, Nat.reduceEqDiff, Nat.reduceAdd, Nat.reduceSub, Nat.reduceMul, Nat.reduceLeDiff, Nat.reduceLT, reduceCtorEq, Int.reduceToNat]
  repeat' (first | (simp -implicitDefEqProofs only [go_sem, ↓reduceIte, Nat.reduceEqDiff, Nat.reduceAdd, Nat.reduceSub, Nat.reduceMul, Nat.reduceLeDiff, Nat.reduceLT, reduceCtorEq, Int.reduceToNat, bne_self_eq_false]) | (with_reducible refine g_noent ?_) | (refine cdS (fun hg => ?_) (fun hg => ?_) <;> try simp -implicitDefEqProofs only [hg, Bool.not_true, Bool.not_false]) | (refine gdS (fun hg => ?_) (fun hg => ?_) <;> try simp -implicitDefEqProofs only [hg, Bool.not_true, Bool.not_false]) | (refine gddS (fun hg => ?_) (fun hg => ?_) <;> try simp -implicitDefEqProofs only [hg, Bool.not_true, Bool.not_false]) | ((with_reducible apply And.intro); focus (first | trivial | omega | decide | (simp -implicitDefEqProofs only [maxLen]; omega) | (simp [maxLen, sty_len, nd_len, ndL_len, lnL_len, intsL_len, rvs_len, lensS_len]; done) | (simp [maxLen, sty_len, nd_len, ndL_len, lnL_len, intsL_len, rvs_len, lensS_len]; omega))) | fail)
  exact (hK _ _ (ret_t rfl)).2
theorem sp_isNaN64 (a : Int) : CallR Go.Proofs.Try.prog 111 [.rv (.int .i64 a)] [] [] (.rv (.bool false)) := by
  refine callR_G k_cmp_isNaN_int64 [.rv (.int .i64 a)] _ (by simp) (by simp [BkAll, bk_agg, bkAll_map, bk_rv, bk_fn, Sty.sv, Ln.sv, Nd.sv]) (fun K hK => ?_)
  simp -implicitDefEqProofs only [c_cmp_isNaN_int64, go_sem, ↓reduceIte, Nat.reduceEqDiff, Nat.reduceAdd, Nat.reduceSub, Nat.reduceMul, Nat.reduceLeDiff, Nat.reduceLT, reduceCtorEq, Int.reduceToNat]
  repeat' (first | (simp -implicitDefEqProofs only [go_sem, ↓reduceIte, Nat.reduceEqDiff, Nat.reduceAdd, Nat.reduceSub, Nat.reduceMul, Nat.reduceLeDiff, Nat.reduceLT, reduceCtorEq, Int.reduceToNat, bne_self_eq_false]) | (with_reducible refine g_noent ?_) | (refine cdS (fun hg => ?_) (fun hg => ?_) <;> try simp -implicitDefEqProofs only [hg, Bool.not_true, Bool.not_false]) | (refine gdS (fun hg => ?_) (fun hg => ?_) <;> try simp -implicitDefEqProofs only [hg, Bool.not_true, Bool.not_false]) | (refine gddS (fun hg => ?_) (fun hg => ?_) <;> try simp -implicitDefEqProofs only [hg, Bool.not_true, Bool.not_false]) | ((with_reducible apply And.intro); focus (first | trivial | omega | decide | (simp -implicitDefEqProofs only [maxLen]; omega) | (simp [maxLen, sty_len, nd_len, ndL_len, lnL_len, intsL_len, rvs_len, lensS_len]; done) | (simp [maxLen, sty_len, nd_len, ndL_len, lnL_len, intsL_len, rvs_len, lensS_len]; omega))) | fail)
  exact (hK _ _ (ret_t rfl)).2
theorem sp_CompareI (a b : Int) : CallR Go.Proofs.Try.prog 101 [.rv (.int .i64 a), .rv (.int .i64 b)] [] [] (.rv (.int .i64 (cmpI a b))) := by
  refine callR_G k_cmp_Compare_int [.rv (.int .i64 a), .rv (.int .i64 b)] _ (by simp) (by simp [BkAll, bk_agg, bkAll_map, bk_rv, bk_fn, Sty.sv, Ln.sv, Nd.sv]) (fun K hK => ?_)
  simp -implicitDefEqProofs only [c_cmp_Compare_int, go_sem, ↓reduceIte, Nat.reduceEqDiff, Nat.reduceAdd, Nat.reduceSub, Nat.reduceMul, Nat.reduceLeDiff, Nat.reduceLT, reduceCtorEq, Int.reduceToNat]
  have ha := sp_isNaN a
  have hb := sp_isNaN b
  by_cases h1 : a < b
  · have e1 : decide (a < b) = true := decide_eq_true h1
    have hcall1 := ha; have hcall2 := hb; repeat' (first | (simp -implicitDefEqProofs only [go_sem, ↓reduceIte, Nat.reduceEqDiff, Nat.reduceAdd, Nat.reduceSub, Nat.reduceMul, Nat.reduceLeDiff, Nat.reduceLT, reduceCtorEq, Int.reduceToNat, e1]) | (with_reducible refine g_noent ?_) | (with_reducible refine g_call0 hcall1 ?_) | (with_reducible refine g_calld0 hcall1 ?_) | (with_reducible refine g_call0 hcall2 ?_) | (with_reducible refine g_calld0 hcall2 ?_) | (refine cdS (fun hg => ?_) (fun hg => ?_) <;> try simp -implicitDefEqProofs only [hg, Bool.not_true, Bool.not_false]) | (refine gdS (fun hg => ?_) (fun hg => ?_) <;> try simp -implicitDefEqProofs only [hg, Bool.not_true, Bool.not_false]) | (refine gddS (fun hg => ?_) (fun hg => ?_) <;> try simp -implicitDefEqProofs only [hg, Bool.not_true, Bool.not_false]) | ((with_reducible apply And.intro); focus (first | trivial | omega | decide | (simp -implicitDefEqProofs only [maxLen]; omega) | (simp [maxLen, sty_len, nd_len, ndL_len, lnL_len, intsL_len, rvs_len, lensS_len]; done) | (simp [maxLen, sty_len, nd_len, ndL_len, lnL_len, intsL_len, rvs_len, lensS_len]; omega))) | fail)
    exact (hK _ _ (ret_t (by simp [cmpI, h1, lk]))).2
  · have e1 : decide (a < b) = false := decide_eq_false h1
    by_cases h2 : a > b
    · have e2 : decide (a > b) = true := decide_eq_true h2
      have hcall3 := ha; have hcall4 := hb; repeat' (first | (simp -implicitDefEqProofs only [go_sem, ↓reduceIte, Nat.reduceEqDiff, Nat.reduceAdd, Nat.reduceSub, Nat.reduceMul, Nat.reduceLeDiff, Nat.reduceLT, reduceCtorEq, Int.reduceToNat, e1, e2]) | (with_reducible refine g_noent ?_) | (with_reducible refine g_call0 hcall3 ?_) | (with_reducible refine g_calld0 hcall3 ?_) | (with_reducible refine g_call0 hcall4 ?_) | (with_reducible refine g_calld0 hcall4 ?_) | (refine cdS (fun hg => ?_) (fun hg => ?_) <;> try simp -implicitDefEqProofs only [hg, Bool.not_true, Bool.not_false]) | (refine gdS (fun hg => ?_) (fun hg => ?_) <;> try simp -implicitDefEqProofs only [hg, Bool.not_true, Bool.not_false]) | (refine gddS (fun hg => ?_) (fun hg => ?_) <;> try simp -implicitDefEqProofs only [hg, Bool.not_true, Bool.not_false]) | ((with_reducible apply And.intro); focus (first | trivial | omega | decide | (simp -implicitDefEqProofs only [maxLen]; omega) | (simp [maxLen, sty_len, nd_len, ndL_len, lnL_len, intsL_len, rvs_len, lensS_len]; done) | (simp [maxLen, sty_len, nd_len, ndL_len, lnL_len, intsL_len, rvs_len, lensS_len]; omega))) | fail)
      refine (hK _ _ (ret_t ?_)).2
      simp -implicitDefEqProofs only [cmpI, if_neg h1, if_pos h2]; rfl
    · have e2 : decide (a > b) = false := decide_eq_false h2
      have hcall5 := ha; have hcall6 := hb; repeat' (first | (simp -implicitDefEqProofs only [go_sem, ↓reduceIte, Nat.reduceEqDiff, Nat.reduceAdd, Nat.reduceSub, Nat.reduceMul, Nat.reduceLeDiff, Nat.reduceLT, reduceCtorEq, Int.reduceToNat, e1, e2]) | (with_reducible refine g_noent ?_) | (with_reducible refine g_call0 hcall5 ?_) | (with_reducible refine g_calld0 hcall5 ?_) | (with_reducible refine g_call0 hcall6 ?_) | (with_reducible refine g_calld0 hcall6 ?_) | (refine cdS (fun hg => ?_) (fun hg => ?_) <;> try simp -implicitDefEqProofs only [hg, Bool.not_true, Bool.not_false]) | (refine gdS (fun hg => ?_) (fun hg => ?_) <;> try simp -implicitDefEqProofs only [hg, Bool.not_true, Bool.not_false]) | (refine gddS (fun hg => ?_) (fun hg => ?_) <;> try simp -implicitDefEqProofs only [hg, Bool.not_true, Bool.not_false]) | ((with_reducible apply And.intro); focus (first | trivial | omega | decide | (simp -implicitDefEqProofs only [maxLen]; omega) | (simp [maxLen, sty_len, nd_len, ndL_len, lnL_len, intsL_len, rvs_len, lensS_len]; done) | (simp [maxLen, sty_len, nd_len, ndL_len, lnL_len, intsL_len, rvs_len, lensS_len]; omega))) | fail)
      refine (hK _ _ (ret_t ?_)).2
      simp -implicitDefEqProofs only [cmpI, if_neg h1, if_neg h2]; rfl
theorem sp_CompareI64 (a b : Int) : CallR Go.Proofs.Try.prog 102 [.rv (.int .i64 a), .rv (.int .i64 b)] [] [] (.rv (.int .i64 (cmpI a b))) := by
  refine callR_G k_cmp_Compare_int64 [.rv (.int .i64 a), .rv (.int .i64 b)] _ (by simp) (by simp [BkAll, bk_agg, bkAll_map, bk_rv, bk_fn, Sty.sv, Ln.sv, Nd.sv]) (fun K hK => ?_)
  simp -implicitDefEqProofs only [c_cmp_Compare_int64, go_sem, ↓reduceIte, Nat.reduceEqDiff, Nat.reduceAdd, Nat.reduceSub, Nat.reduceMul, Nat.reduceLeDiff, Nat.reduceLT, reduceCtorEq, Int.reduceToNat]
  have ha := sp_isNaN64 a
  have hb := sp_isNaN64 b
  by_cases h1 : a < b
  · have e1 : decide (a < b) = true := decide_eq_true h1
    have hcall7 := ha; have hcall8 := hb; repeat' (first | (simp -implicitDefEqProofs only [go_sem, ↓reduceIte, Nat.reduceEqDiff, Nat.reduceAdd, Nat.reduceSub, Nat.reduceMul, Nat.reduceLeDiff, Nat.reduceLT, reduceCtorEq, Int.reduceToNat, e1]) | (with_reducible refine g_noent ?_) | (with_reducible refine g_call0 hcall7 ?_) | (with_reducible refine g_calld0 hcall7 ?_) | (with_reducible refine g_call0 hcall8 ?_) | (with_reducible refine g_calld0 hcall8 ?_) | (refine cdS (fun hg => ?_) (fun hg => ?_) <;> try simp -implicitDefEqProofs only [hg, Bool.not_true, Bool.not_false]) | (refine gdS (fun hg => ?_) (fun hg => ?_) <;> try simp -implicitDefEqProofs only [hg, Bool.not_true, Bool.not_false]) | (refine gddS (fun hg => ?_) (fun hg => ?_) <;> try simp -implicitDefEqProofs only [hg, Bool.not_true, Bool.not_false]) | ((with_reducible apply And.intro); focus (first | trivial | omega | decide | (simp -implicitDefEqProofs only [maxLen]; omega) | (simp [maxLen, sty_len, nd_len, ndL_len, lnL_len, intsL_len, rvs_len, lensS_len]; done) | (simp [maxLen, sty_len, nd_len, ndL_len, lnL_len, intsL_len, rvs_len, lensS_len]; omega))) | fail)
    exact (hK _ _ (ret_t (by simp [cmpI, h1, lk]))).2
  · have e1 : decide (a < b) = false := decide_eq_false h1
    by_cases h2 : a > b
    · have e2 : decide (a > b) = true := decide_eq_true h2
      have hcall9 := ha; have hcall10 := hb; repeat' (first | (simp -implicitDefEqProofs only [go_sem, ↓reduceIte, Nat.reduceEqDiff, Nat.reduceAdd, Nat.reduceSub, Nat.reduceMul, Nat.reduceLeDiff, Nat.reduceLT, reduceCtorEq, Int.reduceToNat, e1, e2]) | (with_reducible refine g_noent ?_) | (with_reducible refine g_call0 hcall9 ?_) | (with_reducible refine g_calld0 hcall9 ?_) | (with_reducible refine g_call0 hcall10 ?_) | (with_reducible refine g_calld0 hcall10 ?_) | (refine cdS (fun hg => ?_) (fun hg => ?_) <;> try simp -implicitDefEqProofs only [hg, Bool.not_true, Bool.not_false]) | (refine gdS (fun hg => ?_) (fun hg => ?_) <;> try simp -implicitDefEqProofs only [hg, Bool.not_true, Bool.not_false]) | (refine gddS (fun hg => ?_) (fun hg => ?_) <;> try simp -implicitDefEqProofs only [hg, Bool.not_true, Bool.not_false]) | ((with_reducible apply And.intro); focus (first | trivial | omega | decide | (simp -implicitDefEqProofs only [maxLen]; omega) | (simp [maxLen, sty_len, nd_len, ndL_len, lnL_len, intsL_len, rvs_len, lensS_len]; done) | (simp [maxLen, sty_len, nd_len, ndL_len, lnL_len, intsL_len, rvs_len, lensS_len]; omega))) | fail)
      refine (hK _ _ (ret_t ?_)).2
      simp -implicitDefEqProofs only [cmpI, if_neg h1, if_pos h2]; rfl
    · have e2 : decide (a > b) = false := decide_eq_false h2
      have hcall11 := ha; have hcall12 := hb; repeat' (first | (simp -implicitDefEqProofs only [go_sem, ↓reduceIte, Nat.reduceEqDiff, Nat.reduceAdd, Nat.reduceSub, Nat.reduceMul, Nat.reduceLeDiff, Nat.reduceLT, reduceCtorEq, Int.reduceToNat, e1, e2]) | (with_reducible refine g_noent ?_) | (with_reducible refine g_call0 hcall11 ?_) | (with_reducible refine g_calld0 hcall11 ?_) | (with_reducible refine g_call0 hcall12 ?_) | (with_reducible refine g_calld0 hcall12 ?_) | (refine cdS (fun hg => ?_) (fun hg => ?_) <;> try simp -implicitDefEqProofs only [hg, Bool.not_true, Bool.not_false]) | (refine gdS (fun hg => ?_) (fun hg => ?_) <;> try simp -implicitDefEqProofs only [hg, Bool.not_true, Bool.not_false]) | (refine gddS (fun hg => ?_) (fun hg => ?_) <;> try simp -implicitDefEqProofs only [hg, Bool.not_true, Bool.not_false]) | ((with_reducible apply And.intro); focus (first | trivial | omega | decide | (simp -implicitDefEqProofs only [maxLen]; omega) | (simp [maxLen, sty_len, nd_len, ndL_len, lnL_len, intsL_len, rvs_len, lensS_len]; done) | (simp [maxLen, sty_len, nd_len, ndL_len, lnL_len, intsL_len, rvs_len, lensS_len]; omega))) | fail)
      refine (hK _ _ (ret_t ?_)).2
      simp -implicitDefEqProofs only [cmpI, if_neg h1, if_neg h2]; rfl

def orI : List Int → Int
  | [] => 0
  | a :: r => if a ≠ 0 then a else orI r
theorem orI_drop {xs : List Int} {i : Nat} (h : i < xs.length) : orI (xs.drop i) = if xs[i] ≠ 0 then xs[i] else orI (xs.drop (i + 1)) := by
  rw [List.drop_eq_getElem_cons h]; rfl
theorem sp_Or (xs : List Int) (hb : xs.length ≤ 8589934592) : CallR Go.Proofs.Try.prog 100 [.rv (.sl 1 (intsL xs))] [] [] (.rv (.int .i64 (orI xs))) := by
  refine callR_G k_cmp_Or_int [.rv (.sl 1 (intsL xs))] _ (by simp) (by simp [BkAll, bk_agg, bkAll_map, bk_rv, bk_fn, Sty.sv, Ln.sv, Nd.sv]) (fun K hK => ?_)
  have hl := intsL_len xs
  simp -implicitDefEqProofs only [c_cmp_Or_int, hl, go_sem, ↓reduceIte, Nat.reduceEqDiff, Nat.reduceAdd, Nat.reduceSub, Nat.reduceMul, Nat.reduceLeDiff, Nat.reduceLT, reduceCtorEq, Int.reduceToNat]
  repeat' (first | (simp -implicitDefEqProofs only [go_sem, ↓reduceIte, Nat.reduceEqDiff, Nat.reduceAdd, Nat.reduceSub, Nat.reduceMul, Nat.reduceLeDiff, Nat.reduceLT, reduceCtorEq, Int.reduceToNat, hl]) | (with_reducible refine g_noent ?_) | (refine cdS (fun hg => ?_) (fun hg => ?_) <;> try simp -implicitDefEqProofs only [hg, Bool.not_true, Bool.not_false]) | (refine gdS (fun hg => ?_) (fun hg => ?_) <;> try simp -implicitDefEqProofs only [hg, Bool.not_true, Bool.not_false]) | (refine gddS (fun hg => ?_) (fun hg => ?_) <;> try simp -implicitDefEqProofs only [hg, Bool.not_true, Bool.not_false]) | ((with_reducible apply And.intro); focus (first | trivial | omega | decide | (simp -implicitDefEqProofs only [maxLen]; omega) | (simp [maxLen, sty_len, nd_len, ndL_len, lnL_len, intsL_len, rvs_len, lensS_len]; done) | (simp [maxLen, sty_len, nd_len, ndL_len, lnL_len, intsL_len, rvs_len, lensS_len]; omega))) | fail)
  refine g_loop (ι := Nat) (fun k => [(8, .rv (.int .i64 k)), (7, .rv (.int .i64 xs.length)), (6, .rv (.sl 1 (intsL xs))), (3, .rv (.int .i64 0))]) (fun _ => []) (fun k => k ≤ xs.length ∧ orI (xs.drop k) = orI xs) (fun k => xs.length - k) 0 (by simp) (ent_env (by simp [lk])) (fun k hk K' hN hX hR => ?_)
  obtain ⟨hk1, hk2⟩ := hk
  simp -implicitDefEqProofs only [go_sem, ↓reduceIte, Nat.reduceEqDiff, Nat.reduceAdd, Nat.reduceSub, Nat.reduceMul, Nat.reduceLeDiff, Nat.reduceLT, reduceCtorEq, Int.reduceToNat]
  refine cdS (fun hg => ?_) (fun hg => ?_)
  · have hk4 : k < xs.length := by simp at hg; omega
    have hx := intsL_get hk4
    have wu := wrap_up (k := k) (by omega)
    have hd := orI_drop hk4
    by_cases h0 : xs[k] = 0
    · have e1 : (xs[k] != 0) = false := by simp [h0]
      rw [if_neg (by simp [h0])] at hd
      repeat' (first | (simp -implicitDefEqProofs only [go_sem, ↓reduceIte, Nat.reduceEqDiff, Nat.reduceAdd, Nat.reduceSub, Nat.reduceMul, Nat.reduceLeDiff, Nat.reduceLT, reduceCtorEq, Int.reduceToNat, hx, hl, wu, e1]) | (with_reducible refine g_noent ?_) | (refine cdS (fun hg => ?_) (fun hg => ?_) <;> try simp -implicitDefEqProofs only [hg, Bool.not_true, Bool.not_false]) | (refine gdS (fun hg => ?_) (fun hg => ?_) <;> try simp -implicitDefEqProofs only [hg, Bool.not_true, Bool.not_false]) | (refine gddS (fun hg => ?_) (fun hg => ?_) <;> try simp -implicitDefEqProofs only [hg, Bool.not_true, Bool.not_false]) | ((with_reducible apply And.intro); focus (first | trivial | omega | decide | (simp -implicitDefEqProofs only [maxLen]; omega) | (simp [maxLen, sty_len, nd_len, ndL_len, lnL_len, intsL_len, rvs_len, lensS_len]; done) | (simp [maxLen, sty_len, nd_len, ndL_len, lnL_len, intsL_len, rvs_len, lensS_len]; omega))) | fail)
      exact hN (k + 1) _ _ ⟨by omega, hd ▸ hk2⟩ (by omega) (ent_env (by simp [lk]))
    · have e1 : (xs[k] != 0) = true := by simp [h0]
      rw [if_pos h0] at hd
      repeat' (first | (simp -implicitDefEqProofs only [go_sem, ↓reduceIte, Nat.reduceEqDiff, Nat.reduceAdd, Nat.reduceSub, Nat.reduceMul, Nat.reduceLeDiff, Nat.reduceLT, reduceCtorEq, Int.reduceToNat, hx, hl, wu, e1]) | (with_reducible refine g_noent ?_) | (refine cdS (fun hg => ?_) (fun hg => ?_) <;> try simp -implicitDefEqProofs only [hg, Bool.not_true, Bool.not_false]) | (refine gdS (fun hg => ?_) (fun hg => ?_) <;> try simp -implicitDefEqProofs only [hg, Bool.not_true, Bool.not_false]) | (refine gddS (fun hg => ?_) (fun hg => ?_) <;> try simp -implicitDefEqProofs only [hg, Bool.not_true, Bool.not_false]) | ((with_reducible apply And.intro); focus (first | trivial | omega | decide | (simp -implicitDefEqProofs only [maxLen]; omega) | (simp [maxLen, sty_len, nd_len, ndL_len, lnL_len, intsL_len, rvs_len, lensS_len]; done) | (simp [maxLen, sty_len, nd_len, ndL_len, lnL_len, intsL_len, rvs_len, lensS_len]; omega))) | fail)
      exact hR _ _ (hK _ _ (ret_t (by rw [← hk2, hd]; simp [lk]))).2
  · have hk4 : k = xs.length := by simp at hg; omega
    subst hk4
    simp -implicitDefEqProofs only [go_sem, ↓reduceIte, Nat.reduceEqDiff, Nat.reduceAdd, Nat.reduceSub, Nat.reduceMul, Nat.reduceLeDiff, Nat.reduceLT, reduceCtorEq, Int.reduceToNat]
    refine hX _ _ _ ?_
    repeat' (first | (simp -implicitDefEqProofs only [go_sem, ↓reduceIte, Nat.reduceEqDiff, Nat.reduceAdd, Nat.reduceSub, Nat.reduceMul, Nat.reduceLeDiff, Nat.reduceLT, reduceCtorEq, Int.reduceToNat]) | (with_reducible refine g_noent ?_) | (refine cdS (fun hg => ?_) (fun hg => ?_) <;> try simp -implicitDefEqProofs only [hg, Bool.not_true, Bool.not_false]) | (refine gdS (fun hg => ?_) (fun hg => ?_) <;> try simp -implicitDefEqProofs only [hg, Bool.not_true, Bool.not_false]) | (refine gddS (fun hg => ?_) (fun hg => ?_) <;> try simp -implicitDefEqProofs only [hg, Bool.not_true, Bool.not_false]) | ((with_reducible apply And.intro); focus (first | trivial | omega | decide | (simp -implicitDefEqProofs only [maxLen]; omega) | (simp [maxLen, sty_len, nd_len, ndL_len, lnL_len, intsL_len, rvs_len, lensS_len]; done) | (simp [maxLen, sty_len, nd_len, ndL_len, lnL_len, intsL_len, rvs_len, lensS_len]; omega))) | fail)
    refine (hK _ _ (ret_t ?_)).2
    rw [List.drop_length] at hk2
    rw [← hk2]; rfl

theorem sp_Step_compare (a b : Stp) : CallR Go.Proofs.Try.prog 87 [a.sv, b.sv] [] [] (.rv (.int .i64 (cmpT a b))) := by
  have hor : orI [cmpI a.layer b.layer, cmpI a.z b.z, cmpI a.n b.n] = cmpT a b := by
    simp -implicitDefEqProofs only [orI, cmpT]
    (repeat' split) <;> simp_all
  have ho := sp_Or [cmpI a.layer b.layer, cmpI a.z b.z, cmpI a.n b.n] (by simp)
  rw [hor] at ho
  refine callR_G k_rank_Step_compare [a.sv, b.sv] _ (by simp) (by simp [BkAll, bk_agg, bkAll_map, bk_rv, bk_fn, Sty.sv, Ln.sv, Nd.sv]) (fun K hK => ?_)
  simp -implicitDefEqProofs only [c_rank_Step_compare, Stp.sv, Stp.cells, go_sem, ↓reduceIte, Nat.reduceEqDiff, Nat.reduceAdd, Nat.reduceSub, Nat.reduceMul, Nat.reduceLeDiff, Nat.reduceLT, reduceCtorEq, Int.reduceToNat]
  have c1 := sp_CompareI a.layer b.layer
  have c2 := sp_CompareI64 a.z b.z
  have c3 := sp_CompareI a.n b.n
  have hq : CallR Go.Proofs.Try.prog 100 [.row 2 0 3] [(2, .row 1 0 [[.rv (.int .i64 (cmpI a.layer b.layer))], [.rv (.int .i64 (cmpI a.z b.z))], [.rv (.int .i64 (cmpI a.n b.n))]])] [] (.rv (.int .i64 (cmpT a b))) := lend1 (id := 2) (v := 0) (n := 3) (bs := []) ho (.int _ _) (by simp [intsL]) (intsL_one _)
  have hcall13 := c1; have hcall14 := c2; have hcall15 := c3; have hcall16 := hq; repeat' (first | (simp -implicitDefEqProofs only [go_sem, ↓reduceIte, Nat.reduceEqDiff, Nat.reduceAdd, Nat.reduceSub, Nat.reduceMul, Nat.reduceLeDiff, Nat.reduceLT, reduceCtorEq, Int.reduceToNat]) | (with_reducible refine g_noent ?_) | (with_reducible refine g_call0 hcall13 ?_) | (with_reducible refine g_calld0 hcall13 ?_) | (with_reducible refine g_call0 hcall14 ?_) | (with_reducible refine g_calld0 hcall14 ?_) | (with_reducible refine g_call0 hcall15 ?_) | (with_reducible refine g_calld0 hcall15 ?_) | (refine g_call hcall16 (by simp [PreOK, hget]; done) (by simp [okU, uph]; done) ?_) | (refine g_calld hcall16 (by simp [PreOK, hget]; done) (by simp [okU, uph]; done) ?_) | (refine cdS (fun hg => ?_) (fun hg => ?_) <;> try simp -implicitDefEqProofs only [hg, Bool.not_true, Bool.not_false]) | (refine gdS (fun hg => ?_) (fun hg => ?_) <;> try simp -implicitDefEqProofs only [hg, Bool.not_true, Bool.not_false]) | (refine gddS (fun hg => ?_) (fun hg => ?_) <;> try simp -implicitDefEqProofs only [hg, Bool.not_true, Bool.not_false]) | ((with_reducible apply And.intro); focus (first | trivial | omega | decide | (simp -implicitDefEqProofs only [maxLen]; omega) | (simp [maxLen, sty_len, nd_len, ndL_len, lnL_len, intsL_len, rvs_len, lensS_len]; done) | (simp [maxLen, sty_len, nd_len, ndL_len, lnL_len, intsL_len, rvs_len, lensS_len]; omega))) | fail)
  exact (hK _ _ (ret_t rfl)).2

theorem sp_step (l : List Nd) (n : Int) : CallR Go.Proofs.Try.prog 82 [.rv (kinV l), .rv (.int .i64 n)] [] [] (stepAt l n).sv := by
  refine callR_G k_rank_step [.rv (kinV l), .rv (.int .i64 n)] _ (by simp) (by simp [BkAll, bk_agg, bkAll_map, bk_rv, bk_fn, Sty.sv, Ln.sv, Nd.sv]) (fun K hK => ?_)
  have hst := sp_Style l n
  simp -implicitDefEqProofs only [c_rank_step, go_sem, ↓reduceIte, Nat.reduceEqDiff, Nat.reduceAdd, Nat.reduceSub, Nat.reduceMul, Nat.reduceLeDiff, Nat.reduceLT, reduceCtorEq, Int.reduceToNat]
  by_cases h1 : (styAt l n).z < 0
  · have e1 : decide ((styAt l n).z < 0) = true := decide_eq_true h1
    have hcall17 := hst; repeat' (first | (simp -implicitDefEqProofs only [go_sem, ↓reduceIte, Nat.reduceEqDiff, Nat.reduceAdd, Nat.reduceSub, Nat.reduceMul, Nat.reduceLeDiff, Nat.reduceLT, reduceCtorEq, Int.reduceToNat, sty_at44, e1]) | (with_reducible refine g_noent ?_) | (with_reducible refine g_call0 hcall17 ?_) | (with_reducible refine g_calld0 hcall17 ?_) | (refine cdS (fun hg => ?_) (fun hg => ?_) <;> try simp -implicitDefEqProofs only [hg, Bool.not_true, Bool.not_false]) | (refine gdS (fun hg => ?_) (fun hg => ?_) <;> try simp -implicitDefEqProofs only [hg, Bool.not_true, Bool.not_false]) | (refine gddS (fun hg => ?_) (fun hg => ?_) <;> try simp -implicitDefEqProofs only [hg, Bool.not_true, Bool.not_false]) | ((with_reducible apply And.intro); focus (first | trivial | omega | decide | (simp -implicitDefEqProofs only [maxLen]; omega) | (simp [maxLen, sty_len, nd_len, ndL_len, lnL_len, intsL_len, rvs_len, lensS_len]; done) | (simp [maxLen, sty_len, nd_len, ndL_len, lnL_len, intsL_len, rvs_len, lensS_len]; omega))) | fail)
    refine (hK _ _ (ret_c (rs := (stepAt l n).cells) rfl ?_ rfl)).2
    simp -implicitDefEqProofs only [stepAt, if_pos h1]; rfl
  · have e1 : decide ((styAt l n).z < 0) = false := decide_eq_false h1
    by_cases h2 : (styAt l n).z > 0
    · have e2 : decide ((styAt l n).z > 0) = true := decide_eq_true h2
      have hcall18 := hst; repeat' (first | (simp -implicitDefEqProofs only [go_sem, ↓reduceIte, Nat.reduceEqDiff, Nat.reduceAdd, Nat.reduceSub, Nat.reduceMul, Nat.reduceLeDiff, Nat.reduceLT, reduceCtorEq, Int.reduceToNat, sty_at44, e1, e2]) | (with_reducible refine g_noent ?_) | (with_reducible refine g_call0 hcall18 ?_) | (with_reducible refine g_calld0 hcall18 ?_) | (refine cdS (fun hg => ?_) (fun hg => ?_) <;> try simp -implicitDefEqProofs only [hg, Bool.not_true, Bool.not_false]) | (refine gdS (fun hg => ?_) (fun hg => ?_) <;> try simp -implicitDefEqProofs only [hg, Bool.not_true, Bool.not_false]) | (refine gddS (fun hg => ?_) (fun hg => ?_) <;> try simp -implicitDefEqProofs only [hg, Bool.not_true, Bool.not_false]) | ((with_reducible apply And.intro); focus (first | trivial | omega | decide | (simp -implicitDefEqProofs only [maxLen]; omega) | (simp [maxLen, sty_len, nd_len, ndL_len, lnL_len, intsL_len, rvs_len, lensS_len]; done) | (simp [maxLen, sty_len, nd_len, ndL_len, lnL_len, intsL_len, rvs_len, lensS_len]; omega))) | fail)
      refine (hK _ _ (ret_c (rs := (stepAt l n).cells) rfl ?_ rfl)).2
      simp -implicitDefEqProofs only [stepAt, if_neg h1, if_pos h2]; rfl
    · have e2 : decide ((styAt l n).z > 0) = false := decide_eq_false h2
      have hcall19 := hst; repeat' (first | (simp -implicitDefEqProofs only [go_sem, ↓reduceIte, Nat.reduceEqDiff, Nat.reduceAdd, Nat.reduceSub, Nat.reduceMul, Nat.reduceLeDiff, Nat.reduceLT, reduceCtorEq, Int.reduceToNat, sty_at44, e1, e2]) | (with_reducible refine g_noent ?_) | (with_reducible refine g_call0 hcall19 ?_) | (with_reducible refine g_calld0 hcall19 ?_) | (refine cdS (fun hg => ?_) (fun hg => ?_) <;> try simp -implicitDefEqProofs only [hg, Bool.not_true, Bool.not_false]) | (refine gdS (fun hg => ?_) (fun hg => ?_) <;> try simp -implicitDefEqProofs only [hg, Bool.not_true, Bool.not_false]) | (refine gddS (fun hg => ?_) (fun hg => ?_) <;> try simp -implicitDefEqProofs only [hg, Bool.not_true, Bool.not_false]) | ((with_reducible apply And.intro); focus (first | trivial | omega | decide | (simp -implicitDefEqProofs only [maxLen]; omega) | (simp [maxLen, sty_len, nd_len, ndL_len, lnL_len, intsL_len, rvs_len, lensS_len]; done) | (simp [maxLen, sty_len, nd_len, ndL_len, lnL_len, intsL_len, rvs_len, lensS_len]; omega))) | fail)
      refine (hK _ _ (ret_c (rs := (stepAt l n).cells) rfl ?_ rfl)).2
      simp -implicitDefEqProofs only [stepAt, if_neg h1, if_neg h2]; rfl

theorem st_take (x : Stp) : List.take 3 x.cells = x.cells := rfl
theorem st_take2 (x : Stp) : List.take 3 (x.cells.map SV.rv) = x.cells.map SV.rv := rfl
theorem st_put (x y : Stp) : y.cells.map SV.rv ++ List.drop 3 (x.cells.map SV.rv) = y.cells.map SV.rv := rfl
theorem clS_fn0 {n f : Nat} : ClS n (.fn f []) ↔ True := ⟨fun _ => trivial, fun _ => clS_fn trivial⟩
theorem cmpW_drop {x y : List Stp} {i : Nat} (hx : i < x.length) (hy : i < y.length) : cmpW (x.drop i) (y.drop i) = if cmpT x[i] y[i] ≠ 0 then cmpT x[i] y[i] else cmpW (x.drop (i + 1)) (y.drop (i + 1)) := by
  rw [List.drop_eq_getElem_cons hx, List.drop_eq_getElem_cons hy]; rfl
theorem sp_CompareFunc (x y : List Stp) (hb : x.length ≤ 8589934592) : CallR Go.Proofs.Try.prog 86 [.rv (.sl 3 (stL x)), .rv (.sl 3 (stL y)), .fn 87 []] [] [] (.rv (.int .i64 (cmpW x y))) := by
  refine callR_G k_slices_CompareFunc_Step [.rv (.sl 3 (stL x)), .rv (.sl 3 (stL y)), .fn 87 []] _ (by simp) (by simp [BkAll, bk_agg, bkAll_map, bk_rv, bk_fn, Sty.sv, Ln.sv, Nd.sv]) (fun K hK => ?_)
  have hlx := stL_len x
  have hly := stL_len y
  simp -implicitDefEqProofs only [c_slices_CompareFunc_Step, go_sem, ↓reduceIte, Nat.reduceEqDiff, Nat.reduceAdd, Nat.reduceSub, Nat.reduceMul, Nat.reduceLeDiff, Nat.reduceLT, reduceCtorEq, Int.reduceToNat]
  repeat' (first | (simp -implicitDefEqProofs only [go_sem, ↓reduceIte, Nat.reduceEqDiff, Nat.reduceAdd, Nat.reduceSub, Nat.reduceMul, Nat.reduceLeDiff, Nat.reduceLT, reduceCtorEq, Int.reduceToNat, hlx]) | (with_reducible refine g_noent ?_) | (refine cdS (fun hg => ?_) (fun hg => ?_) <;> try simp -implicitDefEqProofs only [hg, Bool.not_true, Bool.not_false]) | (refine gdS (fun hg => ?_) (fun hg => ?_) <;> try simp -implicitDefEqProofs only [hg, Bool.not_true, Bool.not_false]) | (refine gddS (fun hg => ?_) (fun hg => ?_) <;> try simp -implicitDefEqProofs only [hg, Bool.not_true, Bool.not_false]) | ((with_reducible apply And.intro); focus (first | trivial | omega | decide | (simp -implicitDefEqProofs only [maxLen]; omega) | (simp [maxLen, sty_len, nd_len, ndL_len, lnL_len, intsL_len, rvs_len, lensS_len]; done) | (simp [maxLen, sty_len, nd_len, ndL_len, lnL_len, intsL_len, rvs_len, lensS_len]; omega))) | fail)
  refine g_loop (ι := Nat) (fun k => [(13, .rv (.int .i64 k)), (12, .rv (.int .i64 x.length)), (11, .rv (.sl 3 (stL x))), (0, .rv (.sl 3 (stL x))), (1, .rv (.sl 3 (stL y))), (2, .fn 87 [])]) (fun _ => []) (fun k => k ≤ x.length ∧ k ≤ y.length ∧ cmpW (x.drop k) (y.drop k) = cmpW x y) (fun k => x.length - k) 0 (by simp) (ent_env (by simp [lk])) (fun k hk K' hN hX hR => ?_)
  obtain ⟨hk1, hk2, hk3⟩ := hk
  simp -implicitDefEqProofs only [go_sem, ↓reduceIte, Nat.reduceEqDiff, Nat.reduceAdd, Nat.reduceSub, Nat.reduceMul, Nat.reduceLeDiff, Nat.reduceLT, reduceCtorEq, Int.reduceToNat]
  refine cdS (fun hg => ?_) (fun hg => ?_)
  · have hk4 : k < x.length := by simp at hg; omega
    have hx := stL_get hk4
    have wu := wrap_up (k := k) (by omega)
    by_cases h5 : k < y.length
    · have e1 : decide ((k : Int) ≥ (y.length : Int)) = false := decide_eq_false (by omega)
      have hy := stL_get h5
      have hd := cmpW_drop hk4 h5
      have hc := sp_Step_compare x[k] y[k]
      by_cases h0 : cmpT x[k] y[k] = 0
      · have e2 : (cmpT x[k] y[k] != 0) = false := by simp [h0]
        rw [if_neg (by simp [h0])] at hd
        have hcall24 := hc; repeat' (first | (simp -implicitDefEqProofs only [go_sem, ↓reduceIte, Nat.reduceEqDiff, Nat.reduceAdd, Nat.reduceSub, Nat.reduceMul, Nat.reduceLeDiff, Nat.reduceLT, reduceCtorEq, Int.reduceToNat, hx, hy, hlx, hly, st_len, st_take, st_take2, e1, e2, wu]) | (with_reducible refine g_noent ?_) | (with_reducible refine g_call0 hcall24 ?_) | (with_reducible refine g_calld0 hcall24 ?_) | (refine cdS (fun hg => ?_) (fun hg => ?_) <;> try simp -implicitDefEqProofs only [hg, Bool.not_true, Bool.not_false]) | (refine gdS (fun hg => ?_) (fun hg => ?_) <;> try simp -implicitDefEqProofs only [hg, Bool.not_true, Bool.not_false]) | (refine gddS (fun hg => ?_) (fun hg => ?_) <;> try simp -implicitDefEqProofs only [hg, Bool.not_true, Bool.not_false]) | ((with_reducible apply And.intro); focus (first | trivial | omega | decide | (simp -implicitDefEqProofs only [maxLen]; omega) | (simp [maxLen, sty_len, nd_len, ndL_len, lnL_len, intsL_len, rvs_len, lensS_len]; done) | (simp [maxLen, sty_len, nd_len, ndL_len, lnL_len, intsL_len, rvs_len, lensS_len]; omega) | (exact ⟨rfl, by decide⟩; done))) | fail)
        exact hN (k + 1) _ _ ⟨by omega, by omega, by rw [← hd]; exact hk3⟩ (by omega) (ent_tail (h' := []) (by simp) trivial (by simp [ClEnv, lk, clS_rv, clS_fn0]))
      · have e2 : (cmpT x[k] y[k] != 0) = true := by simp [h0]
        rw [if_pos h0] at hd
        have hcall25 := hc; repeat' (first | (simp -implicitDefEqProofs only [go_sem, ↓reduceIte, Nat.reduceEqDiff, Nat.reduceAdd, Nat.reduceSub, Nat.reduceMul, Nat.reduceLeDiff, Nat.reduceLT, reduceCtorEq, Int.reduceToNat, hx, hy, hlx, hly, st_len, st_take, st_take2, e1, e2, wu]) | (with_reducible refine g_noent ?_) | (with_reducible refine g_call0 hcall25 ?_) | (with_reducible refine g_calld0 hcall25 ?_) | (refine cdS (fun hg => ?_) (fun hg => ?_) <;> try simp -implicitDefEqProofs only [hg, Bool.not_true, Bool.not_false]) | (refine gdS (fun hg => ?_) (fun hg => ?_) <;> try simp -implicitDefEqProofs only [hg, Bool.not_true, Bool.not_false]) | (refine gddS (fun hg => ?_) (fun hg => ?_) <;> try simp -implicitDefEqProofs only [hg, Bool.not_true, Bool.not_false]) | ((with_reducible apply And.intro); focus (first | trivial | omega | decide | (simp -implicitDefEqProofs only [maxLen]; omega) | (simp [maxLen, sty_len, nd_len, ndL_len, lnL_len, intsL_len, rvs_len, lensS_len]; done) | (simp [maxLen, sty_len, nd_len, ndL_len, lnL_len, intsL_len, rvs_len, lensS_len]; omega) | (exact ⟨rfl, by decide⟩; done))) | fail)
        refine hR _ _ (hK _ _ (ret_t ?_)).2
        rw [← hk3, hd]; rfl
    · have e1 : decide ((k : Int) ≥ (y.length : Int)) = true := decide_eq_true (by omega)
      repeat' (first | (simp -implicitDefEqProofs only [go_sem, ↓reduceIte, Nat.reduceEqDiff, Nat.reduceAdd, Nat.reduceSub, Nat.reduceMul, Nat.reduceLeDiff, Nat.reduceLT, reduceCtorEq, Int.reduceToNat, hx, hlx, hly, st_len, st_take, st_take2, e1, wu]) | (with_reducible refine g_noent ?_) | (refine cdS (fun hg => ?_) (fun hg => ?_) <;> try simp -implicitDefEqProofs only [hg, Bool.not_true, Bool.not_false]) | (refine gdS (fun hg => ?_) (fun hg => ?_) <;> try simp -implicitDefEqProofs only [hg, Bool.not_true, Bool.not_false]) | (refine gddS (fun hg => ?_) (fun hg => ?_) <;> try simp -implicitDefEqProofs only [hg, Bool.not_true, Bool.not_false]) | ((with_reducible apply And.intro); focus (first | trivial | omega | decide | (simp -implicitDefEqProofs only [maxLen]; omega) | (simp [maxLen, sty_len, nd_len, ndL_len, lnL_len, intsL_len, rvs_len, lensS_len]; done) | (simp [maxLen, sty_len, nd_len, ndL_len, lnL_len, intsL_len, rvs_len, lensS_len]; omega) | (exact ⟨rfl, by decide⟩; done))) | fail)
      have hdy : y.drop k = [] := List.drop_of_length_le (by omega)
      have hv : cmpW x y = 1 := by rw [← hk3, List.drop_eq_getElem_cons hk4, hdy]; rfl
      refine hR _ _ (hK _ _ (ret_t ?_)).2
      rw [hv]; rfl
  · have hk4 : k = x.length := by simp at hg; omega
    subst hk4
    simp -implicitDefEqProofs only [go_sem, ↓reduceIte, Nat.reduceEqDiff, Nat.reduceAdd, Nat.reduceSub, Nat.reduceMul, Nat.reduceLeDiff, Nat.reduceLT, reduceCtorEq, Int.reduceToNat]
    refine hX _ _ _ ?_
    rw [List.drop_length] at hk3
    by_cases h5 : x.length < y.length
    · have e1 : decide ((x.length : Int) < (y.length : Int)) = true := decide_eq_true (by omega)
      repeat' (first | (simp -implicitDefEqProofs only [go_sem, ↓reduceIte, Nat.reduceEqDiff, Nat.reduceAdd, Nat.reduceSub, Nat.reduceMul, Nat.reduceLeDiff, Nat.reduceLT, reduceCtorEq, Int.reduceToNat, hlx, hly, e1]) | (with_reducible refine g_noent ?_) | (refine cdS (fun hg => ?_) (fun hg => ?_) <;> try simp -implicitDefEqProofs only [hg, Bool.not_true, Bool.not_false]) | (refine gdS (fun hg => ?_) (fun hg => ?_) <;> try simp -implicitDefEqProofs only [hg, Bool.not_true, Bool.not_false]) | (refine gddS (fun hg => ?_) (fun hg => ?_) <;> try simp -implicitDefEqProofs only [hg, Bool.not_true, Bool.not_false]) | ((with_reducible apply And.intro); focus (first | trivial | omega | decide | (simp -implicitDefEqProofs only [maxLen]; omega) | (simp [maxLen, sty_len, nd_len, ndL_len, lnL_len, intsL_len, rvs_len, lensS_len]; done) | (simp [maxLen, sty_len, nd_len, ndL_len, lnL_len, intsL_len, rvs_len, lensS_len]; omega))) | fail)
      have hv : cmpW x y = -1 := by rw [← hk3, List.drop_eq_getElem_cons h5]; rfl
      refine (hK _ _ (ret_t ?_)).2
      rw [hv]; rfl
    · have e1 : decide ((x.length : Int) < (y.length : Int)) = false := decide_eq_false (by omega)
      repeat' (first | (simp -implicitDefEqProofs only [go_sem, ↓reduceIte, Nat.reduceEqDiff, Nat.reduceAdd, Nat.reduceSub, Nat.reduceMul, Nat.reduceLeDiff, Nat.reduceLT, reduceCtorEq, Int.reduceToNat, hlx, hly, e1]) | (with_reducible refine g_noent ?_) | (refine cdS (fun hg => ?_) (fun hg => ?_) <;> try simp -implicitDefEqProofs only [hg, Bool.not_true, Bool.not_false]) | (refine gdS (fun hg => ?_) (fun hg => ?_) <;> try simp -implicitDefEqProofs only [hg, Bool.not_true, Bool.not_false]) | (refine gddS (fun hg => ?_) (fun hg => ?_) <;> try simp -implicitDefEqProofs only [hg, Bool.not_true, Bool.not_false]) | ((with_reducible apply And.intro); focus (first | trivial | omega | decide | (simp -implicitDefEqProofs only [maxLen]; omega) | (simp [maxLen, sty_len, nd_len, ndL_len, lnL_len, intsL_len, rvs_len, lensS_len]; done) | (simp [maxLen, sty_len, nd_len, ndL_len, lnL_len, intsL_len, rvs_len, lensS_len]; omega))) | fail)
      have hdy : y.drop x.length = [] := List.drop_of_length_le (by omega)
      have hv : cmpW x y = 0 := by rw [← hk3, hdy]; rfl
      refine (hK _ _ (ret_t ?_)).2
      rw [hv]; rfl

/-- Turned about up to the i-th from either end. -/
def RevTo (y z : List Stp) (i : Nat) : Prop := z.length = y.length ∧ 2 * i ≤ y.length + 1 ∧ ∀ t, (h : t < y.length) → z[t]? = if t < i ∨ y.length ≤ t + i then y[y.length - 1 - t]? else y[t]?
theorem rev_zero {y : List Stp} : RevTo y y 0 := ⟨rfl, by omega, fun t h => by rw [if_neg (by omega)]⟩
theorem rev_done {y z : List Stp} {i : Nat} (h : RevTo y z i) (hi : y.length ≤ 2 * i + 1) : z = y.reverse := by
  obtain ⟨h1, h2, h3⟩ := h
  apply List.ext_getElem?
  intro t
  by_cases ht : t < y.length
  · rw [h3 t ht, List.getElem?_reverse ht]
    by_cases hc : t < i ∨ y.length ≤ t + i
    · rw [if_pos hc]
    · rw [if_neg hc]; congr 1; omega
  · rw [List.getElem?_eq_none (by omega), List.getElem?_eq_none (by simp; omega)]
theorem rev_step {y z : List Stp} {i j : Nat} (h : RevTo y z i) (hj : j + i + 1 = y.length) (hij : i < j) (hi : i < z.length) (hjz : j < z.length) : RevTo y ((z.set i z[j]).set j z[i]) (i + 1) := by
  obtain ⟨h1, h2, h3⟩ := h
  refine ⟨by simp [h1], by omega, fun t ht => ?_⟩
  have hzi := h3 i (by omega)
  have hzj := h3 j (by omega)
  rw [if_neg (by omega), List.getElem?_eq_getElem hi] at hzi
  rw [if_neg (by omega), List.getElem?_eq_getElem hjz] at hzj
  by_cases e1 : t = j
  · subst e1
    rw [List.getElem?_set_self (by simp; exact hjz), if_pos (by omega), hzi]
    congr 1; omega
  · rw [List.getElem?_set_ne (by omega)]
    by_cases e2 : t = i
    · subst e2
      rw [List.getElem?_set_self hi, if_pos (by omega), hzj]
      congr 1; omega
    · rw [List.getElem?_set_ne (by omega), h3 t ht]
      by_cases hc : t < i ∨ y.length ≤ t + i
      · rw [if_pos hc, if_pos (by omega)]
      · rw [if_neg hc, if_neg (by omega)]

theorem all1 {p : Nat → HB → HB → Prop} {a a' : HB} (h0 : p 0 a a') : ∀ (j : Nat) (x y : HB), [a][j]? = some x → [a'][j]? = some y → p j x y := by
  intro j x y hx hy
  match j with
  | 0 => simp at hx hy; subst hx; subst hy; exact h0
  | j + 1 => simp at hx
theorem sp_Reverse (m v : Nat) (ys : List Stp) (hb : ys.length ≤ 8589934592) : CallR Go.Proofs.Try.prog 83 [.row m v ys.length] [(m, .row 3 v (rvs (stL ys)))] [(m, .row 3 v (rvs (stL ys.reverse)))] (.tup []) := by
  refine callR_N k_slices_Reverse_Step [m] [.row 3 v (rvs (stL ys))] [.row 3 v (rvs (stL ys))] [.row 0 v ys.length] [.row m v ys.length] _ _ (by simp) (by simp [BkAll, bk_row]) rfl (by simp [nodupL]) rfl (all1 bk_rvs) (fun K hK => ?_)
  simp -implicitDefEqProofs only [c_slices_Reverse_Step, go_sem, ↓reduceIte, Nat.reduceEqDiff, Nat.reduceAdd, Nat.reduceSub, Nat.reduceMul, Nat.reduceLeDiff, Nat.reduceLT, reduceCtorEq, Int.reduceToNat]
  have w0 : IntKind.i64.wrap ((ys.length : Int) - 1) = (ys.length : Int) - 1 - ((0 : Nat) : Int) := by rw [wrap_i64 (by omega) (by omega)]; omega
  repeat' (first | (simp -implicitDefEqProofs only [go_sem, ↓reduceIte, Nat.reduceEqDiff, Nat.reduceAdd, Nat.reduceSub, Nat.reduceMul, Nat.reduceLeDiff, Nat.reduceLT, reduceCtorEq, Int.reduceToNat, w0]) | (with_reducible refine g_noent ?_) | (refine cdS (fun hg => ?_) (fun hg => ?_) <;> try simp -implicitDefEqProofs only [hg, Bool.not_true, Bool.not_false]) | (refine gdS (fun hg => ?_) (fun hg => ?_) <;> try simp -implicitDefEqProofs only [hg, Bool.not_true, Bool.not_false]) | (refine gddS (fun hg => ?_) (fun hg => ?_) <;> try simp -implicitDefEqProofs only [hg, Bool.not_true, Bool.not_false]) | ((with_reducible apply And.intro); focus (first | trivial | omega | decide | (simp -implicitDefEqProofs only [maxLen]; omega) | (simp [maxLen, sty_len, nd_len, ndL_len, lnL_len, intsL_len, rvs_len, lensS_len]; done) | (simp [maxLen, sty_len, nd_len, ndL_len, lnL_len, intsL_len, rvs_len, lensS_len]; omega))) | fail)
  refine g_loop (ι := List Stp × Nat) (fun q => [(2, .rv (.int .i64 q.2)), (3, .rv (.int .i64 ((ys.length : Int) - 1 - q.2))), (0, .row 0 v ys.length)]) (fun q => [some (.row 3 v (rvs (stL q.1)))]) (fun q => RevTo ys q.1 q.2 ∧ q.2 ≤ ys.length) (fun q => ys.length - q.2) (ys, 0) ⟨rev_zero, by simp⟩ (ent_env (by simp [lk])) (fun q hq K' hN hX hR => ?_)
  obtain ⟨z, i⟩ := q
  obtain ⟨q1, q2⟩ := hq
  dsimp only at q1 q2 ⊢
  simp -implicitDefEqProofs only [go_sem, ↓reduceIte, Nat.reduceEqDiff, Nat.reduceAdd, Nat.reduceSub, Nat.reduceMul, Nat.reduceLeDiff, Nat.reduceLT, reduceCtorEq, Int.reduceToNat]
  refine cdS (fun hg => ?_) (fun hg => ?_)
  · have hlt : (i : Int) < (ys.length : Int) - 1 - i := by simpa using hg
    obtain ⟨j, hj⟩ : ∃ j : Nat, j + i + 1 = ys.length := ⟨ys.length - 1 - i, by omega⟩
    have hjv : (ys.length : Int) - 1 - i = ((j : Nat) : Int) := by omega
    have hzl := q1.1
    have hx := stL_get (l := z) (i := i) (by omega)
    have hy := stL_get (l := z) (i := j) (by omega)
    have hl := stL_len z
    have hl2 := stL_len (z.set i (z[j]'(by omega)))
    have hy2 := stL_get (l := z.set i (z[j]'(by omega))) (i := j) (by simp; omega)
    have hl3 : (z.set i (z[j]'(by omega))).length = z.length := by simp
    have wu := wrap_up (k := i) (by omega)
    have wj : IntKind.i64.wrap ((j : Int) - 1) = (ys.length : Int) - 1 - ((i + 1 : Nat) : Int) := by rw [wrap_i64 (by omega) (by omega)]; omega
    rw [hjv]
    repeat' (first | (simp -implicitDefEqProofs only [go_sem, ↓reduceIte, Nat.reduceEqDiff, Nat.reduceAdd, Nat.reduceSub, Nat.reduceMul, Nat.reduceLeDiff, Nat.reduceLT, reduceCtorEq, Int.reduceToNat, hx, hy, hl, hzl, st_len, st_take, st_take2, st_put, stL_set, hy2, hl2, hl3, wu, wj]) | (with_reducible refine g_noent ?_) | (refine cdS (fun hg => ?_) (fun hg => ?_) <;> try simp -implicitDefEqProofs only [hg, Bool.not_true, Bool.not_false]) | (refine gdS (fun hg => ?_) (fun hg => ?_) <;> try simp -implicitDefEqProofs only [hg, Bool.not_true, Bool.not_false]) | (refine gddS (fun hg => ?_) (fun hg => ?_) <;> try simp -implicitDefEqProofs only [hg, Bool.not_true, Bool.not_false]) | ((with_reducible apply And.intro); focus (first | trivial | omega | decide | (simp -implicitDefEqProofs only [maxLen]; omega) | (simp [maxLen, sty_len, nd_len, ndL_len, lnL_len, intsL_len, rvs_len, lensS_len]; done) | (simp [maxLen, sty_len, nd_len, ndL_len, lnL_len, intsL_len, rvs_len, lensS_len]; omega))) | fail)
    exact hN ((z.set i (z[j]'(by omega))).set j (z[i]'(by omega)), i + 1) _ _ ⟨rev_step q1 hj (by omega) (by omega) (by omega), by dsimp only; omega⟩ (by dsimp only; omega) (ent_env (by simp [lk]))
  · have hlt : ¬ (i : Int) < (ys.length : Int) - 1 - i := by simpa using hg
    simp -implicitDefEqProofs only [go_sem, ↓reduceIte, Nat.reduceEqDiff, Nat.reduceAdd, Nat.reduceSub, Nat.reduceMul, Nat.reduceLeDiff, Nat.reduceLT, reduceCtorEq, Int.reduceToNat]
    refine hX _ _ _ ?_
    repeat' (first | (simp -implicitDefEqProofs only [go_sem, ↓reduceIte, Nat.reduceEqDiff, Nat.reduceAdd, Nat.reduceSub, Nat.reduceMul, Nat.reduceLeDiff, Nat.reduceLT, reduceCtorEq, Int.reduceToNat]) | (with_reducible refine g_noent ?_) | (refine cdS (fun hg => ?_) (fun hg => ?_) <;> try simp -implicitDefEqProofs only [hg, Bool.not_true, Bool.not_false]) | (refine gdS (fun hg => ?_) (fun hg => ?_) <;> try simp -implicitDefEqProofs only [hg, Bool.not_true, Bool.not_false]) | (refine gddS (fun hg => ?_) (fun hg => ?_) <;> try simp -implicitDefEqProofs only [hg, Bool.not_true, Bool.not_false]) | ((with_reducible apply And.intro); focus (first | trivial | omega | decide | (simp -implicitDefEqProofs only [maxLen]; omega) | (simp [maxLen, sty_len, nd_len, ndL_len, lnL_len, intsL_len, rvs_len, lensS_len]; done) | (simp [maxLen, sty_len, nd_len, ndL_len, lnL_len, intsL_len, rvs_len, lensS_len]; omega))) | fail)
    have hz := rev_done q1 (by omega)
    subst hz
    refine (hK _ _ _ _ [] (ent_refl _ _) ?_).1
    simp [retM, nodupL, newL, allU, keptL, retP, resL, lk, resT, RnHo, lkp, finU, hget_zero, hget_succ, hget, rnRows_rvs, rn_tup, rn_rv, rn_row, rn_ptr, rn_ifc, rn_agg, rn_dead, RnAll, ofL, rnAll_map]
end Go.Eng

/- rank: ways. -/
namespace Go.Eng
open Go
/- decoupage/rank.Way -/
def c_rank_Way : AC := (.seq (.reg [⟨(some 4), .mv, [(.c (.rv .nilsl))], none⟩]) (.seq (.seq (.reg [⟨(some 8), .mv, [(.t 0)], none⟩, ⟨(some 9), .mv, [(.t 1)], none⟩, ⟨(some 10), (.call 30), [(.t 8), (.t 9)], none⟩, ⟨(some 11), .not, [(.t 10)], none⟩]) (.cond (.t 11) (.seq (.reg [⟨(some 4), .mv, [(.c (.rv .nilsl))], none⟩]) .ret) .skip)) (.seq (.reg [⟨(some 12), .mv, [(.t 0)], none⟩, ⟨(some 13), .mv, [(.t 1)], none⟩, ⟨(some 14), (.call 42), [(.t 12), (.t 13)], none⟩, ⟨(some 5), .mv, [(.t 14)], none⟩]) (.seq (.reg [⟨(some 15), .mv, [(.t 1)], none⟩, ⟨(some 16), (.build [(.int .i64 0), (.int .i64 0), (.int .i64 0)] [(0, 1), (1, 1), (2, 1)]), [(.c (.rv (.int .i64 2))), (.c (.rv (.int .i64 0))), (.t 15)], none⟩, ⟨(some 17), (.bsl 3), [(.t 16)], none⟩, ⟨(some 6), .mv, [(.t 17)], none⟩]) (.seq (.seq (.reg [⟨(some 18), .mv, [(.t 5)], none⟩, ⟨(some 19), .mv, [(.t 1)], none⟩, ⟨(some 20), (.ibin .eql), [(.t 18), (.t 19)], none⟩]) (.seq (.cond (.t 20) (.reg [⟨(some 21), (.build [(.int .i64 0), (.int .i64 0), (.int .i64 0)] []), [], none⟩, ⟨(some 22), (.bsl 3), [(.t 21)], none⟩, ⟨(some 6), .mv, [(.t 22)], none⟩]) .skip) .ent)) (.seq (.seq (.reg [⟨(some 23), .mv, [(.t 5)], none⟩, ⟨(some 7), .mv, [(.t 23)], none⟩]) (.seq (.block 0 (.loop (.seq (.seq (.reg [⟨(some 24), .mv, [(.t 7)], none⟩, ⟨(some 25), (.ibin .gtr), [(.t 24), (.c (.rv (.int .i64 0)))], none⟩]) (.cond (.t 25) .skip (.exit 0))) (.seq (.seq (.block 1 (.reg [⟨(some 29), .mv, [(.t 6)], none⟩, ⟨(some 30), .mv, [(.t 0)], none⟩, ⟨(some 31), .mv, [(.t 7)], none⟩, ⟨(some 32), (.call 82), [(.t 30), (.t 31)], none⟩, ⟨(some 33), (.bsl 3), [(.t 32)], none⟩, ⟨(some 34), (.app 3 24), [(.t 29), (.t 33)], none⟩, ⟨(some 6), .mv, [(.t 34)], none⟩])) .ent) (.reg [⟨(some 26), .mv, [(.t 0)], none⟩, ⟨(some 27), .mv, [(.t 7)], none⟩, ⟨(some 28), (.call 44), [(.t 26), (.t 27)], none⟩, ⟨(some 7), .mv, [(.t 28)], none⟩]))))) .ent)) (.seq (.reg [⟨(some 35), .mv, [(.t 6)], none⟩, ⟨(some 36), (.call 83), [(.t 35)], none⟩]) (.seq (.reg [⟨(some 37), .mv, [(.t 6)], none⟩, ⟨(some 4), .mv, [(.t 37)], none⟩]) .ret))))))))
theorem k_rank_Way : FnOK Go.Proofs.Try.prog 56 38 c_rank_Way [(.t 4)] := fnOK_of (by kernel_rfl)

theorem chain_len {l : List Nd} : ∀ m : Nat, ∀ n : Int, n.toNat ≤ m → (chain l n).length ≤ m
  | 0, n, h => by rw [chain_nil (by omega)]; simp
  | m + 1, n, h => by
    by_cases h0 : 0 < n
    · rw [chain_cons h0]
      have := ctx_lt (l := l) h0
      have := chain_len (l := l) m (ctxAt l n) (by omega)
      simp; omega
    · rw [chain_nil h0]; simp
theorem group_le {l : List Nd} {n : Nat} : groupAt l n ≤ n := by
  unfold groupAt
  split
  · rcases fst_cases (leadAt l) (pth l (n : Int).toNat) with ⟨h1, _⟩ | ⟨i, hi, h1, _, _⟩
    · rw [h1]; omega
    · rw [h1]
      simp -implicitDefEqProofs only [Int.toNat_natCast] at hi ⊢
      have := pth_le _ _ (List.getElem_mem hi)
      omega
  · omega
theorem way_len (l : List Nd) (n : Nat) : (wayAt l n).length ≤ n + 1 := by
  unfold wayAt
  split
  · have := chain_len (l := l) n (groupAt l n) (by have := group_le (l := l) (n := n); omega)
    simp [wayRev]; omega
  · simp

theorem stL_one (l : List Stp) : ∀ x ∈ stL l, ∀ r ∈ x, r.one = true := by
  intro x hx r hr
  simp -implicitDefEqProofs only [stL, List.mem_map] at hx
  obtain ⟨y, _, rfl⟩ := hx
  simp -implicitDefEqProofs only [Stp.cells, List.mem_cons, List.not_mem_nil, or_false] at hr
  rcases hr with rfl | rfl | rfl <;> rfl
theorem clH_row1 {n e v : Nat} {a b c : RV} : ClH n (.row e v [[.rv a, .rv b, .rv c]]) := clH_rvs (xs := [[a, b, c]])
theorem sp_Way (l : List Nd) (hs : Shp l) (hb : l.length ≤ 8589934591) (n : Int) : CallR Go.Proofs.Try.prog 56 [.rv (kinV l), .rv (.int .i64 n)] [] [] (.rv (.sl 3 (stL (wayAt l n)))) := by
  have hm := sp_Made l n
  cases hmm : madeAt l n with
  | false =>
    rw [hmm] at hm
    rw [show wayAt l n = [] by simp [wayAt, hmm]]
    refine callR_nil 3 ?_
    refine callR_G k_rank_Way [.rv (kinV l), .rv (.int .i64 n)] _ (by simp) (by simp [BkAll, bk_agg, bkAll_map, bk_rv, bk_fn, Sty.sv, Ln.sv, Nd.sv]) (fun K hK => ?_)
    simp -implicitDefEqProofs only [c_rank_Way, go_sem, ↓reduceIte, Nat.reduceEqDiff, Nat.reduceAdd, Nat.reduceSub, Nat.reduceMul, Nat.reduceLeDiff, Nat.reduceLT, reduceCtorEq, Int.reduceToNat]
    have hcall1 := hm; repeat' (first | (simp -implicitDefEqProofs only [go_sem, ↓reduceIte, Nat.reduceEqDiff, Nat.reduceAdd, Nat.reduceSub, Nat.reduceMul, Nat.reduceLeDiff, Nat.reduceLT, reduceCtorEq, Int.reduceToNat]) | (with_reducible refine g_noent ?_) | (with_reducible refine g_call0 hcall1 ?_) | (with_reducible refine g_calld0 hcall1 ?_) | (refine cdS (fun hg => ?_) (fun hg => ?_) <;> try simp -implicitDefEqProofs only [hg, Bool.not_true, Bool.not_false]) | (refine gdS (fun hg => ?_) (fun hg => ?_) <;> try simp -implicitDefEqProofs only [hg, Bool.not_true, Bool.not_false]) | (refine gddS (fun hg => ?_) (fun hg => ?_) <;> try simp -implicitDefEqProofs only [hg, Bool.not_true, Bool.not_false]) | ((with_reducible apply And.intro); focus (first | trivial | omega | decide | (simp -implicitDefEqProofs only [maxLen]; omega) | (simp [maxLen, sty_len, nd_len, ndL_len, lnL_len, intsL_len, rvs_len, lensS_len]; done) | (simp [maxLen, sty_len, nd_len, ndL_len, lnL_len, intsL_len, rvs_len, lensS_len]; omega))) | fail)
    exact (hK _ _ (ret_t rfl)).2
  | true =>
    rw [hmm] at hm
    obtain ⟨k, rfl, hk⟩ := inL_nat (by simp [madeAt] at hmm; exact hmm.1)
    refine callR_G k_rank_Way [.rv (kinV l), .rv (.int .i64 k)] _ (by simp) (by simp [BkAll, bk_agg, bkAll_map, bk_rv, bk_fn, Sty.sv, Ln.sv, Nd.sv]) (fun K hK => ?_)
    have hg := sp_Group l hs k
    have hwl := way_len l k
    have hv : wayAt l k = (wayRev l k).reverse := by simp [wayAt, hmm]
    simp -implicitDefEqProofs only [c_rank_Way, go_sem, ↓reduceIte, Nat.reduceEqDiff, Nat.reduceAdd, Nat.reduceSub, Nat.reduceMul, Nat.reduceLeDiff, Nat.reduceLT, reduceCtorEq, Int.reduceToNat]
    by_cases hgk : groupAt l k = k
    · have e1 : (groupAt l k == (k : Int)) = true := by simp [hgk]
      have hcall2 := hm; have hcall3 := hg; repeat' (first | (simp -implicitDefEqProofs only [go_sem, ↓reduceIte, Nat.reduceEqDiff, Nat.reduceAdd, Nat.reduceSub, Nat.reduceMul, Nat.reduceLeDiff, Nat.reduceLT, reduceCtorEq, Int.reduceToNat, e1]) | (with_reducible refine g_noent ?_) | (with_reducible refine g_call0 hcall2 ?_) | (with_reducible refine g_calld0 hcall2 ?_) | (with_reducible refine g_call0 hcall3 ?_) | (with_reducible refine g_calld0 hcall3 ?_) | (refine cdS (fun hg => ?_) (fun hg => ?_) <;> try simp -implicitDefEqProofs only [hg, Bool.not_true, Bool.not_false]) | (refine gdS (fun hg => ?_) (fun hg => ?_) <;> try simp -implicitDefEqProofs only [hg, Bool.not_true, Bool.not_false]) | (refine gddS (fun hg => ?_) (fun hg => ?_) <;> try simp -implicitDefEqProofs only [hg, Bool.not_true, Bool.not_false]) | ((with_reducible apply And.intro); focus (first | trivial | omega | decide | (simp -implicitDefEqProofs only [maxLen]; omega) | (simp [maxLen, sty_len, nd_len, ndL_len, lnL_len, intsL_len, rvs_len, lensS_len]; done) | (simp [maxLen, sty_len, nd_len, ndL_len, lnL_len, intsL_len, rvs_len, lensS_len]; omega))) | fail)
      have hla : lastAt l k = ⟨0, 0, 0⟩ := by simp -implicitDefEqProofs only [lastAt, if_pos hgk]
      refine g_loop (ι := List Stp × Int) (fun q => [(7, .rv (.int .i64 q.2)), (6, .row 1 (q.1.length - 1) q.1.length), (0, .rv (kinV l))]) (fun q => [some (.row 3 0 [[.rv (.int .i64 2), .rv (.int .i64 0), .rv (.int .i64 k)]]), some (.row 3 (q.1.length - 1) (rvs (stL q.1)))]) (fun q => q.1 ++ (chain l q.2).map (stepAt l) = wayRev l k ∧ 0 < q.1.length) (fun q => q.2.toNat) ([lastAt l k], groupAt l k) ⟨rfl, by simp⟩ (by rw [hla]; exact ent_env (by simp [lk])) (fun q hq K' hN hX hR => ?_)
      obtain ⟨xs, p⟩ := q
      obtain ⟨q1, q2⟩ := hq
      dsimp only at q1 q2 ⊢
      simp -implicitDefEqProofs only [go_sem, ↓reduceIte, Nat.reduceEqDiff, Nat.reduceAdd, Nat.reduceSub, Nat.reduceMul, Nat.reduceLeDiff, Nat.reduceLT, reduceCtorEq, Int.reduceToNat]
      refine cdS (fun hg => ?_) (fun hg => ?_)
      · have h0 : 0 < p := by simpa using hg
        have hst := sp_step l p
        have hcx := sp_Context l hs p
        have htl := stL_len xs
        have htk : (stL xs).take xs.length = stL xs := List.take_of_length_le (by omega)
        rw [chain_cons h0] at q1
        have hve : xs.length - 1 + 1 = xs.length := by omega
        have hxl : xs.length + 1 ≤ 8589934592 := by
          have h1 : (wayAt l k).length = (wayRev l k).length := by rw [hv]; simp
          have h2 := congrArg List.length q1
          simp at h2
          omega
        have hcall4 := hst; have hcall5 := hcx; repeat' (first | (simp -implicitDefEqProofs only [go_sem, ↓reduceIte, Nat.reduceEqDiff, Nat.reduceAdd, Nat.reduceSub, Nat.reduceMul, Nat.reduceLeDiff, Nat.reduceLT, reduceCtorEq, Int.reduceToNat, htl, htk, stL_app, st_len, st_take, st_take2, hve]) | (with_reducible refine g_noent ?_) | (with_reducible refine g_call0 hcall4 ?_) | (with_reducible refine g_calld0 hcall4 ?_) | (with_reducible refine g_call0 hcall5 ?_) | (with_reducible refine g_calld0 hcall5 ?_) | (refine cdS (fun hg => ?_) (fun hg => ?_) <;> try simp -implicitDefEqProofs only [hg, Bool.not_true, Bool.not_false]) | (refine gdS (fun hg => ?_) (fun hg => ?_) <;> try simp -implicitDefEqProofs only [hg, Bool.not_true, Bool.not_false]) | (refine gddS (fun hg => ?_) (fun hg => ?_) <;> try simp -implicitDefEqProofs only [hg, Bool.not_true, Bool.not_false]) | ((with_reducible apply And.intro); focus (first | trivial | omega | decide | (simp -implicitDefEqProofs only [maxLen]; omega) | (simp [maxLen, sty_len, nd_len, ndL_len, lnL_len, intsL_len, rvs_len, lensS_len]; done) | (simp [maxLen, sty_len, nd_len, ndL_len, lnL_len, intsL_len, rvs_len, lensS_len]; omega))) | fail)
        have hcl := ctx_lt (l := l) h0
        refine hN (xs ++ [stepAt l p], ctxAt l p) _ _ ⟨by simp [← q1], by simp⟩ (by dsimp only; omega) ?_
        dsimp only
        rw [List.length_append, List.length_singleton, Nat.add_sub_cancel]
        exact ent_tail (h' := [some (.row 3 0 [[.rv (.int .i64 2), .rv (.int .i64 0), .rv (.int .i64 k)]]), some (.row 3 xs.length (rvs (stL (xs ++ [stepAt l p]))))]) (by simp) ⟨clH_row1, clH_rvs, trivial⟩ (by simp [ClEnv, lk, clS_rv, clS_row])
      · have h0 : ¬ 0 < p := by simpa using hg
        simp -implicitDefEqProofs only [go_sem, ↓reduceIte, Nat.reduceEqDiff, Nat.reduceAdd, Nat.reduceSub, Nat.reduceMul, Nat.reduceLeDiff, Nat.reduceLT, reduceCtorEq, Int.reduceToNat]
        refine hX _ _ _ ?_
        rw [chain_nil h0] at q1
        simp -implicitDefEqProofs only [List.map_nil, List.append_nil] at q1
        subst q1
        have hrl : (wayRev l k).length ≤ 8589934592 := by
          have : (wayAt l k).length = (wayRev l k).length := by rw [hv]; simp
          omega
        have hrv := sp_Reverse 1 ((wayRev l k).length - 1) (wayRev l k) hrl
        have hcall6 := hrv; repeat' (first | (simp -implicitDefEqProofs only [go_sem, ↓reduceIte, Nat.reduceEqDiff, Nat.reduceAdd, Nat.reduceSub, Nat.reduceMul, Nat.reduceLeDiff, Nat.reduceLT, reduceCtorEq, Int.reduceToNat]) | (with_reducible refine g_noent ?_) | (refine g_call hcall6 (by simp [PreOK, hget]; done) (by simp [okU, uph]; done) ?_) | (refine g_calld hcall6 (by simp [PreOK, hget]; done) (by simp [okU, uph]; done) ?_) | (refine cdS (fun hg => ?_) (fun hg => ?_) <;> try simp -implicitDefEqProofs only [hg, Bool.not_true, Bool.not_false]) | (refine gdS (fun hg => ?_) (fun hg => ?_) <;> try simp -implicitDefEqProofs only [hg, Bool.not_true, Bool.not_false]) | (refine gddS (fun hg => ?_) (fun hg => ?_) <;> try simp -implicitDefEqProofs only [hg, Bool.not_true, Bool.not_false]) | ((with_reducible apply And.intro); focus (first | trivial | omega | decide | (simp -implicitDefEqProofs only [maxLen]; omega) | (simp [maxLen, sty_len, nd_len, ndL_len, lnL_len, intsL_len, rvs_len, lensS_len]; done) | (simp [maxLen, sty_len, nd_len, ndL_len, lnL_len, intsL_len, rvs_len, lensS_len]; omega))) | fail)
        rw [hv] at hK
        exact (hK _ _ ⟨trivial, rn_frz (xs := stL (wayRev l k).reverse) rfl rfl (by simp [stL]) (stL_one _)⟩).2
    · have e1 : (groupAt l k == (k : Int)) = false := by simp [hgk]
      have hcall7 := hm; have hcall8 := hg; repeat' (first | (simp -implicitDefEqProofs only [go_sem, ↓reduceIte, Nat.reduceEqDiff, Nat.reduceAdd, Nat.reduceSub, Nat.reduceMul, Nat.reduceLeDiff, Nat.reduceLT, reduceCtorEq, Int.reduceToNat, e1]) | (with_reducible refine g_noent ?_) | (with_reducible refine g_call0 hcall7 ?_) | (with_reducible refine g_calld0 hcall7 ?_) | (with_reducible refine g_call0 hcall8 ?_) | (with_reducible refine g_calld0 hcall8 ?_) | (refine cdS (fun hg => ?_) (fun hg => ?_) <;> try simp -implicitDefEqProofs only [hg, Bool.not_true, Bool.not_false]) | (refine gdS (fun hg => ?_) (fun hg => ?_) <;> try simp -implicitDefEqProofs only [hg, Bool.not_true, Bool.not_false]) | (refine gddS (fun hg => ?_) (fun hg => ?_) <;> try simp -implicitDefEqProofs only [hg, Bool.not_true, Bool.not_false]) | ((with_reducible apply And.intro); focus (first | trivial | omega | decide | (simp -implicitDefEqProofs only [maxLen]; omega) | (simp [maxLen, sty_len, nd_len, ndL_len, lnL_len, intsL_len, rvs_len, lensS_len]; done) | (simp [maxLen, sty_len, nd_len, ndL_len, lnL_len, intsL_len, rvs_len, lensS_len]; omega))) | fail)
      have hla : lastAt l k = ⟨2, 0, k⟩ := by simp -implicitDefEqProofs only [lastAt, if_neg hgk]
      refine g_loop (ι := List Stp × Int) (fun q => [(7, .rv (.int .i64 q.2)), (6, .row 0 (q.1.length - 1) q.1.length), (0, .rv (kinV l))]) (fun q => [some (.row 3 (q.1.length - 1) (rvs (stL q.1)))]) (fun q => q.1 ++ (chain l q.2).map (stepAt l) = wayRev l k ∧ 0 < q.1.length) (fun q => q.2.toNat) ([lastAt l k], groupAt l k) ⟨rfl, by simp⟩ (by rw [hla]; exact ent_env (by simp [lk])) (fun q hq K' hN hX hR => ?_)
      obtain ⟨xs, p⟩ := q
      obtain ⟨q1, q2⟩ := hq
      dsimp only at q1 q2 ⊢
      simp -implicitDefEqProofs only [go_sem, ↓reduceIte, Nat.reduceEqDiff, Nat.reduceAdd, Nat.reduceSub, Nat.reduceMul, Nat.reduceLeDiff, Nat.reduceLT, reduceCtorEq, Int.reduceToNat]
      refine cdS (fun hg => ?_) (fun hg => ?_)
      · have h0 : 0 < p := by simpa using hg
        have hst := sp_step l p
        have hcx := sp_Context l hs p
        have htl := stL_len xs
        have htk : (stL xs).take xs.length = stL xs := List.take_of_length_le (by omega)
        rw [chain_cons h0] at q1
        have hve : xs.length - 1 + 1 = xs.length := by omega
        have hxl : xs.length + 1 ≤ 8589934592 := by
          have h1 : (wayAt l k).length = (wayRev l k).length := by rw [hv]; simp
          have h2 := congrArg List.length q1
          simp at h2
          omega
        have hcall9 := hst; have hcall10 := hcx; repeat' (first | (simp -implicitDefEqProofs only [go_sem, ↓reduceIte, Nat.reduceEqDiff, Nat.reduceAdd, Nat.reduceSub, Nat.reduceMul, Nat.reduceLeDiff, Nat.reduceLT, reduceCtorEq, Int.reduceToNat, htl, htk, stL_app, st_len, st_take, st_take2, hve]) | (with_reducible refine g_noent ?_) | (with_reducible refine g_call0 hcall9 ?_) | (with_reducible refine g_calld0 hcall9 ?_) | (with_reducible refine g_call0 hcall10 ?_) | (with_reducible refine g_calld0 hcall10 ?_) | (refine cdS (fun hg => ?_) (fun hg => ?_) <;> try simp -implicitDefEqProofs only [hg, Bool.not_true, Bool.not_false]) | (refine gdS (fun hg => ?_) (fun hg => ?_) <;> try simp -implicitDefEqProofs only [hg, Bool.not_true, Bool.not_false]) | (refine gddS (fun hg => ?_) (fun hg => ?_) <;> try simp -implicitDefEqProofs only [hg, Bool.not_true, Bool.not_false]) | ((with_reducible apply And.intro); focus (first | trivial | omega | decide | (simp -implicitDefEqProofs only [maxLen]; omega) | (simp [maxLen, sty_len, nd_len, ndL_len, lnL_len, intsL_len, rvs_len, lensS_len]; done) | (simp [maxLen, sty_len, nd_len, ndL_len, lnL_len, intsL_len, rvs_len, lensS_len]; omega))) | fail)
        have hcl := ctx_lt (l := l) h0
        refine hN (xs ++ [stepAt l p], ctxAt l p) _ _ ⟨by simp [← q1], by simp⟩ (by dsimp only; omega) ?_
        dsimp only
        rw [List.length_append, List.length_singleton, Nat.add_sub_cancel]
        exact ent_tail (h' := [some (.row 3 xs.length (rvs (stL (xs ++ [stepAt l p]))))]) (by simp) ⟨clH_rvs, trivial⟩ (by simp [ClEnv, lk, clS_rv, clS_row])
      · have h0 : ¬ 0 < p := by simpa using hg
        simp -implicitDefEqProofs only [go_sem, ↓reduceIte, Nat.reduceEqDiff, Nat.reduceAdd, Nat.reduceSub, Nat.reduceMul, Nat.reduceLeDiff, Nat.reduceLT, reduceCtorEq, Int.reduceToNat]
        refine hX _ _ _ ?_
        rw [chain_nil h0] at q1
        simp -implicitDefEqProofs only [List.map_nil, List.append_nil] at q1
        subst q1
        have hrl : (wayRev l k).length ≤ 8589934592 := by
          have : (wayAt l k).length = (wayRev l k).length := by rw [hv]; simp
          omega
        have hrv := sp_Reverse 0 ((wayRev l k).length - 1) (wayRev l k) hrl
        have hcall11 := hrv; repeat' (first | (simp -implicitDefEqProofs only [go_sem, ↓reduceIte, Nat.reduceEqDiff, Nat.reduceAdd, Nat.reduceSub, Nat.reduceMul, Nat.reduceLeDiff, Nat.reduceLT, reduceCtorEq, Int.reduceToNat]) | (with_reducible refine g_noent ?_) | (refine g_call hcall11 (by simp [PreOK, hget]; done) (by simp [okU, uph]; done) ?_) | (refine g_calld hcall11 (by simp [PreOK, hget]; done) (by simp [okU, uph]; done) ?_) | (refine cdS (fun hg => ?_) (fun hg => ?_) <;> try simp -implicitDefEqProofs only [hg, Bool.not_true, Bool.not_false]) | (refine gdS (fun hg => ?_) (fun hg => ?_) <;> try simp -implicitDefEqProofs only [hg, Bool.not_true, Bool.not_false]) | (refine gddS (fun hg => ?_) (fun hg => ?_) <;> try simp -implicitDefEqProofs only [hg, Bool.not_true, Bool.not_false]) | ((with_reducible apply And.intro); focus (first | trivial | omega | decide | (simp -implicitDefEqProofs only [maxLen]; omega) | (simp [maxLen, sty_len, nd_len, ndL_len, lnL_len, intsL_len, rvs_len, lensS_len]; done) | (simp [maxLen, sty_len, nd_len, ndL_len, lnL_len, intsL_len, rvs_len, lensS_len]; omega))) | fail)
        rw [hv] at hK
        exact (hK _ _ ⟨trivial, rn_frz (xs := stL (wayRev l k).reverse) rfl rfl (by simp [stL]) (stL_one _)⟩).2

/-- The steps down to a thing's context and it. -/
def headI (l : List Nd) (n : Int) : List Stp := ((chain l n).map (stepAt l)).reverse
end Go.Eng

/- rank: which spot is first; the statements as functions. -/
namespace Go.Eng
open Go
/- decoupage/rank.Less -/
def c_rank_Less : AC := (.seq (.reg [⟨(some 4), .box, [(.t 1)], none⟩, ⟨(some 5), .box, [(.t 2)], none⟩, ⟨(some 6), .mv, [(.c (.rv (.bool false)))], none⟩]) (.seq (.seq (.reg [⟨(some 7), .mv, [(.t 0)], none⟩, ⟨(some 8), (.fld 0), [(.t 4)], none⟩, ⟨(some 9), (.load 1 false), [(.t 8)], none⟩, ⟨(some 10), (.call 30), [(.t 7), (.t 9)], none⟩, ⟨(some 11), .not, [(.t 10)], none⟩, ⟨(some 12), .mv, [(.t 11)], none⟩, ⟨(some 13), .mv, [(.t 0)], (some (12, false))⟩, ⟨(some 14), (.fld 0), [(.t 5)], (some (12, false))⟩, ⟨(some 15), (.load 1 false), [(.t 14)], (some (12, false))⟩, ⟨(some 16), (.call 30), [(.t 13), (.t 15)], (some (12, false))⟩, ⟨(some 17), .not, [(.t 16)], (some (12, false))⟩, ⟨(some 18), .pick, [(.t 12), (.c (.rv (.bool true))), (.t 17)], none⟩]) (.cond (.t 18) (.seq (.reg [⟨(some 6), .mv, [(.c (.rv (.bool false)))], none⟩]) .ret) .skip)) (.seq (.seq (.reg [⟨(some 19), (.fld 0), [(.t 4)], none⟩, ⟨(some 20), (.load 1 false), [(.t 19)], none⟩, ⟨(some 21), (.fld 0), [(.t 5)], none⟩, ⟨(some 22), (.load 1 false), [(.t 21)], none⟩, ⟨(some 23), (.ibin .eql), [(.t 20), (.t 22)], none⟩]) (.cond (.t 23) (.seq (.reg [⟨(some 24), (.fld 1), [(.t 4)], none⟩, ⟨(some 25), (.load 1 false), [(.t 24)], none⟩, ⟨(some 26), (.fld 1), [(.t 5)], none⟩, ⟨(some 27), (.load 1 false), [(.t 26)], none⟩, ⟨(some 28), (.ibin .lss), [(.t 25), (.t 27)], none⟩, ⟨(some 6), .mv, [(.t 28)], none⟩]) .ret) .skip)) (.seq (.regd [0, 0, 2, 7, 0, 0, 32, 127, 255, 511, 1023] [⟨(some 29), .mv, [(.t 0)], none⟩, ⟨(some 30), (.fld 0), [(.t 4)], none⟩, ⟨(some 31), (.load 1 false), [(.t 30)], none⟩, ⟨(some 32), (.call 56), [(.t 29), (.t 31)], none⟩, ⟨(some 33), .mv, [(.t 0)], none⟩, ⟨(some 34), (.fld 0), [(.t 5)], none⟩, ⟨(some 35), (.load 1 false), [(.t 34)], none⟩, ⟨(some 36), (.call 56), [(.t 33), (.t 35)], none⟩, ⟨(some 37), (.call 86), [(.t 32), (.t 36), (.c (.fn 87 []))], none⟩, ⟨(some 38), (.ibin .lss), [(.t 37), (.c (.rv (.int .i64 0)))], none⟩, ⟨(some 6), .mv, [(.t 38)], none⟩]) .ret))))
theorem k_rank_Less : FnOK Go.Proofs.Try.prog 58 39 c_rank_Less [(.t 6)] := fnOK_of (by kernel_rfl)

/- decoupage/decoupagelaw24.awake -/
def c_decoupagelaw24_awake : AC := (.seq (.reg [⟨(some 0), .mv, [(.c (.rv (.bool false)))], none⟩]) (.seq (.reg [⟨(some 4), (.call 54), [], none⟩, ⟨(some 5), (.build [(.bool false), (.int .i64 0), (.int .i64 0), (.int .i64 0), (.int .i64 0), (.int .i64 0), (.int .i64 0), (.int .i64 0), (.int .i64 0), (.int .i64 0), (.int .i64 0), (.int .i64 0), (.int .i64 0), (.int .i64 0), (.int .i64 0), (.int .i64 0), (.int .i64 0), (.int .i64 0), (.int .i64 0), (.int .i64 0), (.int .i64 0), (.int .i64 0), (.int .i64 0), (.int .i64 0), (.int .i64 0), (.int .i64 0), (.int .i64 0), (.int .i64 0), (.int .i64 0), (.int .i64 0), (.int .i64 0), (.int .i64 0), (.int .i64 0), (.int .i64 0), (.int .i64 0), (.int .i64 0), (.int .i64 0), (.int .i64 0), (.int .i64 0), (.int .i64 0), (.int .i64 0), (.int .i64 0), (.bool false), (.bool false), (.int .i64 0), (.bool false), (.int .i64 0), (.int .i64 0), (.int .i64 0)] [(0, 48), (48, 1)]), [(.t 4), (.c (.rv (.int .i64 (-1))))], none⟩, ⟨(some 6), (.bsl 49), [(.t 5)], none⟩, ⟨(some 7), (.call 17), [(.t 6)], none⟩, ⟨(some 3), .mv, [(.t 7)], none⟩, ⟨(some 8), (.ext 0), [(.t 3)], none⟩, ⟨(some 9), (.ext 1), [(.t 3)], none⟩, ⟨(some 1), .mv, [(.t 8)], none⟩, ⟨(some 2), .mv, [(.t 9)], none⟩]) (.seq (.reg [⟨(some 10), .mv, [(.t 2)], none⟩, ⟨(some 11), (.ibin .eql), [(.t 10), (.c (.rv (.int .i64 0)))], none⟩, ⟨(some 12), .mv, [(.t 11)], none⟩, ⟨(some 13), .mv, [(.t 1)], (some (12, true))⟩, ⟨(some 14), (.call 56), [(.t 13), (.c (.rv (.int .i64 0)))], (some (12, true))⟩, ⟨(some 15), .len, [(.t 14)], (some (12, true))⟩, ⟨(some 16), (.ibin .eql), [(.t 15), (.c (.rv (.int .i64 1)))], (some (12, true))⟩, ⟨(some 17), .pick, [(.t 12), (.t 16), (.c (.rv (.bool false)))], none⟩, ⟨(some 18), .mv, [(.t 17)], none⟩, ⟨(some 19), .mv, [(.t 1)], (some (18, true))⟩, ⟨(some 20), (.build [(.int .i64 0), (.int .i64 0)] []), [], (some (18, true))⟩, ⟨(some 21), (.build [(.int .i64 0), (.int .i64 0)] [(1, 1)]), [(.c (.rv (.int .i64 1)))], (some (18, true))⟩, ⟨(some 22), (.call 58), [(.t 19), (.t 20), (.t 21)], (some (18, true))⟩, ⟨(some 23), .pick, [(.t 18), (.t 22), (.c (.rv (.bool false)))], none⟩, ⟨(some 0), .mv, [(.t 23)], none⟩]) .ret)))
theorem k_decoupagelaw24_awake : FnOK Go.Proofs.Try.prog 55 24 c_decoupagelaw24_awake [(.t 0)] := fnOK_of (by kernel_rfl)


theorem way_b (l : List Nd) (n : Int) : (wayAt l n).length ≤ l.length := by
  cases hm : madeAt l n with
  | false => simp [wayAt, hm]
  | true =>
    obtain ⟨k, rfl, hk⟩ := inL_nat (by simp [madeAt] at hm; exact hm.1)
    have := way_len l k; omega

theorem sp_Less (l : List Nd) (hs : Shp l) (hb : l.length ≤ 8589934590) (a b : Spt) : CallR Go.Proofs.Try.prog 58 [.rv (kinV l), a.sv, b.sv] [] [] (.rv (.bool (lessAt l a b))) := by
  refine callR_G k_rank_Less [.rv (kinV l), a.sv, b.sv] _ (by simp) (by simp [BkAll, bk_agg, bkAll_map, bk_rv, bk_fn, Sty.sv, Ln.sv, Nd.sv]) (fun K hK => ?_)
  have ha := sp_Made l a.n
  have hbm := sp_Made l b.n
  simp -implicitDefEqProofs only [c_rank_Less, Spt.sv, Spt.cells, go_sem, ↓reduceIte, Nat.reduceEqDiff, Nat.reduceAdd, Nat.reduceSub, Nat.reduceMul, Nat.reduceLeDiff, Nat.reduceLT, reduceCtorEq, Int.reduceToNat]
  cases hma : madeAt l a.n with
  | false =>
    rw [hma] at ha
    have hcall1 := ha; repeat' (first | (simp -implicitDefEqProofs only [go_sem, ↓reduceIte, Nat.reduceEqDiff, Nat.reduceAdd, Nat.reduceSub, Nat.reduceMul, Nat.reduceLeDiff, Nat.reduceLT, reduceCtorEq, Int.reduceToNat]) | (with_reducible refine g_noent ?_) | (with_reducible refine g_call0 hcall1 ?_) | (with_reducible refine g_calld0 hcall1 ?_) | (refine cdS (fun hg => ?_) (fun hg => ?_) <;> try simp -implicitDefEqProofs only [hg, Bool.not_true, Bool.not_false]) | (refine gdS (fun hg => ?_) (fun hg => ?_) <;> try simp -implicitDefEqProofs only [hg, Bool.not_true, Bool.not_false]) | (refine gddS (fun hg => ?_) (fun hg => ?_) <;> try simp -implicitDefEqProofs only [hg, Bool.not_true, Bool.not_false]) | ((with_reducible apply And.intro); focus (first | trivial | omega | decide | (simp -implicitDefEqProofs only [maxLen]; omega) | (simp [maxLen, sty_len, nd_len, ndL_len, lnL_len, intsL_len, rvs_len, lensS_len]; done) | (simp [maxLen, sty_len, nd_len, ndL_len, lnL_len, intsL_len, rvs_len, lensS_len]; omega))) | fail)
    exact (hK _ _ (ret_t (by simp [lessAt, hma, lk]))).2
  | true =>
    rw [hma] at ha
    cases hmb : madeAt l b.n with
    | false =>
      rw [hmb] at hbm
      have hcall2 := ha; have hcall3 := hbm; repeat' (first | (simp -implicitDefEqProofs only [go_sem, ↓reduceIte, Nat.reduceEqDiff, Nat.reduceAdd, Nat.reduceSub, Nat.reduceMul, Nat.reduceLeDiff, Nat.reduceLT, reduceCtorEq, Int.reduceToNat]) | (with_reducible refine g_noent ?_) | (with_reducible refine g_call0 hcall2 ?_) | (with_reducible refine g_calld0 hcall2 ?_) | (with_reducible refine g_call0 hcall3 ?_) | (with_reducible refine g_calld0 hcall3 ?_) | (refine cdS (fun hg => ?_) (fun hg => ?_) <;> try simp -implicitDefEqProofs only [hg, Bool.not_true, Bool.not_false]) | (refine gdS (fun hg => ?_) (fun hg => ?_) <;> try simp -implicitDefEqProofs only [hg, Bool.not_true, Bool.not_false]) | (refine gddS (fun hg => ?_) (fun hg => ?_) <;> try simp -implicitDefEqProofs only [hg, Bool.not_true, Bool.not_false]) | ((with_reducible apply And.intro); focus (first | trivial | omega | decide | (simp -implicitDefEqProofs only [maxLen]; omega) | (simp [maxLen, sty_len, nd_len, ndL_len, lnL_len, intsL_len, rvs_len, lensS_len]; done) | (simp [maxLen, sty_len, nd_len, ndL_len, lnL_len, intsL_len, rvs_len, lensS_len]; omega))) | fail)
      exact (hK _ _ (ret_t (by simp [lessAt, hmb, lk]))).2
    | true =>
      rw [hmb] at hbm
      by_cases he : a.n = b.n
      · have e1 : (a.n == b.n) = true := by simp [he]
        have hcall4 := ha; have hcall5 := hbm; repeat' (first | (simp -implicitDefEqProofs only [go_sem, ↓reduceIte, Nat.reduceEqDiff, Nat.reduceAdd, Nat.reduceSub, Nat.reduceMul, Nat.reduceLeDiff, Nat.reduceLT, reduceCtorEq, Int.reduceToNat, e1]) | (with_reducible refine g_noent ?_) | (with_reducible refine g_call0 hcall4 ?_) | (with_reducible refine g_calld0 hcall4 ?_) | (with_reducible refine g_call0 hcall5 ?_) | (with_reducible refine g_calld0 hcall5 ?_) | (refine cdS (fun hg => ?_) (fun hg => ?_) <;> try simp -implicitDefEqProofs only [hg, Bool.not_true, Bool.not_false]) | (refine gdS (fun hg => ?_) (fun hg => ?_) <;> try simp -implicitDefEqProofs only [hg, Bool.not_true, Bool.not_false]) | (refine gddS (fun hg => ?_) (fun hg => ?_) <;> try simp -implicitDefEqProofs only [hg, Bool.not_true, Bool.not_false]) | ((with_reducible apply And.intro); focus (first | trivial | omega | decide | (simp -implicitDefEqProofs only [maxLen]; omega) | (simp [maxLen, sty_len, nd_len, ndL_len, lnL_len, intsL_len, rvs_len, lensS_len]; done) | (simp [maxLen, sty_len, nd_len, ndL_len, lnL_len, intsL_len, rvs_len, lensS_len]; omega))) | fail)
        exact (hK _ _ (ret_t (by simp [lessAt, hma, hmb, ← he, lk]))).2
      · have e1 : (a.n == b.n) = false := by simp [he]
        have w1 := sp_Way l hs (by omega) a.n
        have w2 := sp_Way l hs (by omega) b.n
        have b1 := way_b l a.n
        have hc := sp_CompareFunc (wayAt l a.n) (wayAt l b.n) (by omega)
        have hcall6 := ha; have hcall7 := hbm; have hcall8 := w1; have hcall9 := w2; have hcall10 := hc; repeat' (first | (simp -implicitDefEqProofs only [go_sem, ↓reduceIte, Nat.reduceEqDiff, Nat.reduceAdd, Nat.reduceSub, Nat.reduceMul, Nat.reduceLeDiff, Nat.reduceLT, reduceCtorEq, Int.reduceToNat, e1]) | (with_reducible refine g_noent ?_) | (with_reducible refine g_call0 hcall6 ?_) | (with_reducible refine g_calld0 hcall6 ?_) | (with_reducible refine g_call0 hcall7 ?_) | (with_reducible refine g_calld0 hcall7 ?_) | (with_reducible refine g_call0 hcall8 ?_) | (with_reducible refine g_calld0 hcall8 ?_) | (with_reducible refine g_call0 hcall9 ?_) | (with_reducible refine g_calld0 hcall9 ?_) | (with_reducible refine g_call0 hcall10 ?_) | (with_reducible refine g_calld0 hcall10 ?_) | (refine cdS (fun hg => ?_) (fun hg => ?_) <;> try simp -implicitDefEqProofs only [hg, Bool.not_true, Bool.not_false]) | (refine gdS (fun hg => ?_) (fun hg => ?_) <;> try simp -implicitDefEqProofs only [hg, Bool.not_true, Bool.not_false]) | (refine gddS (fun hg => ?_) (fun hg => ?_) <;> try simp -implicitDefEqProofs only [hg, Bool.not_true, Bool.not_false]) | ((with_reducible apply And.intro); focus (first | trivial | omega | decide | (simp -implicitDefEqProofs only [maxLen]; omega) | (simp [maxLen, sty_len, nd_len, ndL_len, lnL_len, intsL_len, rvs_len, lensS_len]; done) | (simp [maxLen, sty_len, nd_len, ndL_len, lnL_len, intsL_len, rvs_len, lensS_len]; omega))) | fail)
        exact (hK _ _ (ret_t (by simp [lessAt, hma, hmb, he, lk]))).2

theorem one_way : wayAt [⟨plainS, -1⟩] 0 = [⟨0, 0, 0⟩] := by
  have hg : groupAt [⟨plainS, -1⟩] ((0 : Nat) : Int) = ((0 : Nat) : Int) := group_lead (by exact one_lead)
  have hg : groupAt [⟨plainS, -1⟩] 0 = 0 := hg
  simp [wayAt, one_made, wayRev, lastAt, hg, chain_nil]
theorem one_less : lessAt [⟨plainS, -1⟩] ⟨0, 0⟩ ⟨0, 1⟩ = true := by simp [lessAt, one_made]
theorem sp_awake24 : CallR Go.Proofs.Try.prog 55 [] [] [] (.rv (.bool true)) := by
  refine callR_G k_decoupagelaw24_awake [] _ (by simp) (by simp [BkAll, bk_agg, bkAll_map, bk_rv, bk_fn, Sty.sv, Ln.sv, Nd.sv]) (fun K hK => ?_)
  have hk := sp_kin_OfR [⟨plainS, -1⟩] (by decide) one_chk 0 0
  have h1 := sp_Way [⟨plainS, -1⟩] (tree_shp one_tree) (by decide) 0
  have h2 := sp_Less [⟨plainS, -1⟩] (tree_shp one_tree) (by decide) ⟨0, 0⟩ ⟨0, 1⟩
  rw [one_way] at h1
  rw [one_less] at h2
  simp -implicitDefEqProofs only [Spt.sv, Spt.cells, List.map_cons, List.map_nil] at h2
  have e1 : ((0 : Int) == 0) = true := rfl
  have e2 : (((1 : Nat) : Int) == 1) = true := rfl
  have e3 : (stL [⟨0, 0, 0⟩]).length = 1 := rfl
  simp -implicitDefEqProofs only [c_decoupagelaw24_awake, go_sem, ↓reduceIte, Nat.reduceEqDiff, Nat.reduceAdd, Nat.reduceSub, Nat.reduceMul, Nat.reduceLeDiff, Nat.reduceLT, reduceCtorEq, Int.reduceToNat]
  have hcall21 := sp_Plain; repeat' (first | (simp -implicitDefEqProofs only [go_sem, ↓reduceIte, Nat.reduceEqDiff, Nat.reduceAdd, Nat.reduceSub, Nat.reduceMul, Nat.reduceLeDiff, Nat.reduceLT, reduceCtorEq, Int.reduceToNat, sty_len]) | (with_reducible refine g_noent ?_) | (with_reducible refine g_call0 hcall21 ?_) | (with_reducible refine g_calld0 hcall21 ?_) | (refine cdS (fun hg => ?_) (fun hg => ?_) <;> try simp -implicitDefEqProofs only [hg, Bool.not_true, Bool.not_false]) | (refine gdS (fun hg => ?_) (fun hg => ?_) <;> try simp -implicitDefEqProofs only [hg, Bool.not_true, Bool.not_false]) | (refine gddS (fun hg => ?_) (fun hg => ?_) <;> try simp -implicitDefEqProofs only [hg, Bool.not_true, Bool.not_false]) | ((with_reducible apply And.intro); focus (first | trivial | omega | decide | (simp -implicitDefEqProofs only [maxLen]; omega) | (simp [maxLen, sty_len, nd_len, ndL_len, lnL_len, intsL_len, rvs_len, lensS_len]; done) | (simp [maxLen, sty_len, nd_len, ndL_len, lnL_len, intsL_len, rvs_len, lensS_len]; omega))) | fail)
  refine g_call hk (pre_one rfl) trivial ?_
  have hcall22 := h1; have hcall23 := h2; repeat' (first | (simp -implicitDefEqProofs only [go_sem, ↓reduceIte, Nat.reduceEqDiff, Nat.reduceAdd, Nat.reduceSub, Nat.reduceMul, Nat.reduceLeDiff, Nat.reduceLT, reduceCtorEq, Int.reduceToNat, e1, e2, e3]) | (with_reducible refine g_noent ?_) | (with_reducible refine g_call0 hcall22 ?_) | (with_reducible refine g_calld0 hcall22 ?_) | (with_reducible refine g_call0 hcall23 ?_) | (with_reducible refine g_calld0 hcall23 ?_) | (refine cdS (fun hg => ?_) (fun hg => ?_) <;> try simp -implicitDefEqProofs only [hg, Bool.not_true, Bool.not_false]) | (refine gdS (fun hg => ?_) (fun hg => ?_) <;> try simp -implicitDefEqProofs only [hg, Bool.not_true, Bool.not_false]) | (refine gddS (fun hg => ?_) (fun hg => ?_) <;> try simp -implicitDefEqProofs only [hg, Bool.not_true, Bool.not_false]) | ((with_reducible apply And.intro); focus (first | trivial | omega | decide | (simp -implicitDefEqProofs only [maxLen]; omega) | (simp [maxLen, sty_len, nd_len, ndL_len, lnL_len, intsL_len, rvs_len, lensS_len]; done) | (simp [maxLen, sty_len, nd_len, ndL_len, lnL_len, intsL_len, rvs_len, lensS_len]; omega))) | fail)
  exact (hK _ _ (ret_t rfl)).2
end Go.Eng

/- rank: what stands below one that forms is painted as one. -/
namespace Go.Eng
open Go
/- decoupage/decoupagelaw24.RankWhole -/
def c_decoupagelaw24_RankWhole : AC := (.seq (.reg [⟨(some 10), .mv, [(.c (.rv (.bool false)))], none⟩]) (.seq (.seq (.reg [⟨(some 13), (.call 55), [], none⟩, ⟨(some 14), .not, [(.t 13)], none⟩, ⟨(some 15), .mv, [(.t 14)], none⟩, ⟨(some 16), .mv, [(.t 0)], (some (15, false))⟩, ⟨(some 17), .len, [(.t 16)], (some (15, false))⟩, ⟨(some 18), (.ibin .gtr), [(.t 17), (.c (.rv (.int .i64 25)))], (some (15, false))⟩, ⟨(some 19), .pick, [(.t 15), (.c (.rv (.bool true))), (.t 18)], none⟩, ⟨(some 20), .mv, [(.t 19)], none⟩, ⟨(some 21), .mv, [(.t 0)], (some (20, false))⟩, ⟨(some 22), (.call 21), [(.t 21)], (some (20, false))⟩, ⟨(some 23), (.ibin .neq), [(.t 22), (.c (.rv (.int .i64 0)))], (some (20, false))⟩, ⟨(some 24), .pick, [(.t 20), (.c (.rv (.bool true))), (.t 23)], none⟩, ⟨(some 25), .mv, [(.t 24)], none⟩, ⟨(some 26), .mv, [(.t 0)], (some (25, false))⟩, ⟨(some 27), .mv, [(.t 1)], (some (25, false))⟩, ⟨(some 28), (.call 41), [(.t 26), (.t 27)], (some (25, false))⟩, ⟨(some 29), .not, [(.t 28)], (some (25, false))⟩, ⟨(some 30), .pick, [(.t 25), (.c (.rv (.bool true))), (.t 29)], none⟩]) (.cond (.t 30) (.seq (.reg [⟨(some 31), (.call 55), [], none⟩, ⟨(some 10), .mv, [(.t 31)], none⟩]) .ret) .skip)) (.seq (.reg [⟨(some 33), .mv, [(.t 0)], none⟩, ⟨(some 34), (.call 17), [(.t 33)], none⟩, ⟨(some 32), .mv, [(.t 34)], none⟩, ⟨(some 35), (.ext 0), [(.t 32)], none⟩, ⟨(some 36), (.ext 1), [(.t 32)], none⟩, ⟨(some 11), .mv, [(.t 35)], none⟩, ⟨(some 12), .mv, [(.t 36)], none⟩]) (.seq (.seq (.reg [⟨(some 37), .mv, [(.t 0)], none⟩, ⟨(some 38), .mv, [(.t 1)], none⟩, ⟨(some 39), .mv, [(.t 2)], none⟩, ⟨(some 40), (.call 20), [(.t 37), (.t 38), (.t 39)], none⟩, ⟨(some 41), .not, [(.t 40)], none⟩, ⟨(some 42), .mv, [(.t 41)], none⟩, ⟨(some 43), .mv, [(.t 0)], (some (42, false))⟩, ⟨(some 44), .mv, [(.t 1)], (some (42, false))⟩, ⟨(some 45), .mv, [(.t 3)], (some (42, false))⟩, ⟨(some 46), (.call 20), [(.t 43), (.t 44), (.t 45)], (some (42, false))⟩, ⟨(some 47), .not, [(.t 46)], (some (42, false))⟩, ⟨(some 48), .pick, [(.t 42), (.c (.rv (.bool true))), (.t 47)], none⟩, ⟨(some 49), .mv, [(.t 48)], none⟩, ⟨(some 50), .mv, [(.t 0)], (some (49, false))⟩, ⟨(some 51), .mv, [(.t 1)], (some (49, false))⟩, ⟨(some 52), .mv, [(.t 4)], (some (49, false))⟩, ⟨(some 53), (.call 20), [(.t 50), (.t 51), (.t 52)], (some (49, false))⟩, ⟨(some 54), .pick, [(.t 49), (.c (.rv (.bool true))), (.t 53)], none⟩]) (.cond (.t 54) (.seq (.reg [⟨(some 55), .mv, [(.t 12)], none⟩, ⟨(some 56), (.ibin .eql), [(.t 55), (.c (.rv (.int .i64 0)))], none⟩, ⟨(some 10), .mv, [(.t 56)], none⟩]) .ret) .skip)) (.seq (.reg [⟨(some 57), .mv, [(.t 12)], none⟩, ⟨(some 58), (.ibin .eql), [(.t 57), (.c (.rv (.int .i64 0)))], none⟩, ⟨(some 59), .mv, [(.t 58)], none⟩, ⟨(some 60), .mv, [(.t 11)], (some (59, true))⟩, ⟨(some 61), .mv, [(.t 2)], (some (59, true))⟩, ⟨(some 62), (.build [(.int .i64 0), (.int .i64 0)] [(0, 1)]), [(.t 61)], (some (59, true))⟩, ⟨(some 63), .mv, [(.t 4)], (some (59, true))⟩, ⟨(some 64), (.build [(.int .i64 0), (.int .i64 0)] [(0, 1)]), [(.t 63)], (some (59, true))⟩, ⟨(some 65), (.call 58), [(.t 60), (.t 62), (.t 64)], (some (59, true))⟩, ⟨(some 66), .mv, [(.t 65)], (some (59, true))⟩, ⟨(some 67), .mv, [(.t 11)], (some (66, true))⟩, ⟨(some 68), .mv, [(.t 4)], (some (66, true))⟩, ⟨(some 69), (.build [(.int .i64 0), (.int .i64 0)] [(0, 1)]), [(.t 68)], (some (66, true))⟩, ⟨(some 70), .mv, [(.t 3)], (some (66, true))⟩, ⟨(some 71), (.build [(.int .i64 0), (.int .i64 0)] [(0, 1)]), [(.t 70)], (some (66, true))⟩, ⟨(some 72), (.call 58), [(.t 67), (.t 69), (.t 71)], (some (66, true))⟩, ⟨(some 73), .pick, [(.t 66), (.t 72), (.c (.rv (.bool false)))], (some (59, true))⟩, ⟨(some 74), .not, [(.t 73)], (some (59, true))⟩, ⟨(some 75), .pick, [(.t 59), (.t 74), (.c (.rv (.bool false)))], none⟩, ⟨(some 10), .mv, [(.t 75)], none⟩]) .ret)))))
theorem k_decoupagelaw24_RankWhole : FnOK Go.Proofs.Try.prog 15 76 c_decoupagelaw24_RankWhole [(.t 10)] := fnOK_of (by kernel_rfl)


set_option maxHeartbeats 4000000 in
theorem sp_RankWhole (l : List Nd) (a x y z : Int) : CallR Go.Proofs.Try.prog 15 [.rv (.sl 49 (ndL l)), .rv (.int .i64 a), .rv (.int .i64 x), .rv (.int .i64 y), .rv (.int .i64 z)] [] [] (.rv (.bool true)) := by
  refine callR_G k_decoupagelaw24_RankWhole [.rv (.sl 49 (ndL l)), .rv (.int .i64 a), .rv (.int .i64 x), .rv (.int .i64 y), .rv (.int .i64 z)] _ (by simp) (by simp [BkAll, bk_agg, bkAll_map, bk_rv, bk_fn, Sty.sv, Ln.sv, Nd.sv]) (fun K hK => ?_)
  have hlen := ndL_len l
  simp -implicitDefEqProofs only [c_decoupagelaw24_RankWhole, go_sem, ↓reduceIte, Nat.reduceEqDiff, Nat.reduceAdd, Nat.reduceSub, Nat.reduceMul, Nat.reduceLeDiff, Nat.reduceLT, reduceCtorEq, Int.reduceToNat]
  by_cases hl : l.length > 25
  · have e1 : decide ((l.length : Int) > 25) = true := decide_eq_true (by omega)
    have hcall1 := sp_awake24; repeat' (first | (simp -implicitDefEqProofs only [go_sem, ↓reduceIte, Nat.reduceEqDiff, Nat.reduceAdd, Nat.reduceSub, Nat.reduceMul, Nat.reduceLeDiff, Nat.reduceLT, reduceCtorEq, Int.reduceToNat, hlen, e1]) | (with_reducible refine g_noent ?_) | (with_reducible refine g_call0 hcall1 ?_) | (with_reducible refine g_calld0 hcall1 ?_) | (refine cdS (fun hg => ?_) (fun hg => ?_) <;> try simp -implicitDefEqProofs only [hg, Bool.not_true, Bool.not_false]) | (refine gdS (fun hg => ?_) (fun hg => ?_) <;> try simp -implicitDefEqProofs only [hg, Bool.not_true, Bool.not_false]) | (refine gddS (fun hg => ?_) (fun hg => ?_) <;> try simp -implicitDefEqProofs only [hg, Bool.not_true, Bool.not_false]) | ((with_reducible apply And.intro); focus (first | trivial | omega | decide | (simp -implicitDefEqProofs only [maxLen]; omega) | (simp [maxLen, sty_len, nd_len, ndL_len, lnL_len, intsL_len, rvs_len, lensS_len]; done) | (simp [maxLen, sty_len, nd_len, ndL_len, lnL_len, intsL_len, rvs_len, lensS_len]; omega))) | fail)
    exact (hK _ _ (ret_t rfl)).2
  · have e1 : decide ((l.length : Int) > 25) = false := decide_eq_false (by omega)
    have hb : l.length ≤ 8589934592 := by omega
    have hck := sp_ref07_Check l hb
    by_cases hc : chk l = 0
    · have ht := chk_tree hc
      have hs := tree_shp ht
      rw [hc] at hck
      have e00 : ((0 : Int) != 0) = false := rfl
      have e01 : ((0 : Int) == 0) = true := rfl
      have hf := sp_ref23_Forms l ht a
      cases hfa : formAt l a with
      | false =>
        rw [hfa] at hf
        have hcall2 := sp_awake24; have hcall3 := hck; have hcall4 := hf; repeat' (first | (simp -implicitDefEqProofs only [go_sem, ↓reduceIte, Nat.reduceEqDiff, Nat.reduceAdd, Nat.reduceSub, Nat.reduceMul, Nat.reduceLeDiff, Nat.reduceLT, reduceCtorEq, Int.reduceToNat, hlen, e1, e00]) | (with_reducible refine g_noent ?_) | (with_reducible refine g_call0 hcall2 ?_) | (with_reducible refine g_calld0 hcall2 ?_) | (with_reducible refine g_call0 hcall3 ?_) | (with_reducible refine g_calld0 hcall3 ?_) | (with_reducible refine g_call0 hcall4 ?_) | (with_reducible refine g_calld0 hcall4 ?_) | (refine cdS (fun hg => ?_) (fun hg => ?_) <;> try simp -implicitDefEqProofs only [hg, Bool.not_true, Bool.not_false]) | (refine gdS (fun hg => ?_) (fun hg => ?_) <;> try simp -implicitDefEqProofs only [hg, Bool.not_true, Bool.not_false]) | (refine gddS (fun hg => ?_) (fun hg => ?_) <;> try simp -implicitDefEqProofs only [hg, Bool.not_true, Bool.not_false]) | ((with_reducible apply And.intro); focus (first | trivial | omega | decide | (simp -implicitDefEqProofs only [maxLen]; omega) | (simp [maxLen, sty_len, nd_len, ndL_len, lnL_len, intsL_len, rvs_len, lensS_len]; done) | (simp [maxLen, sty_len, nd_len, ndL_len, lnL_len, intsL_len, rvs_len, lensS_len]; omega))) | fail)
        exact (hK _ _ (ret_t rfl)).2
      | true =>
        rw [hfa] at hf
        have b1 := sp_ref08_Below l hs hb a x
        have b2 := sp_ref08_Below l hs hb a y
        have b3 := sp_ref08_Below l hs hb a z
        have h1 := sp_Less l hs (by omega) ⟨x, 0⟩ ⟨z, 0⟩
        have h2 := sp_Less l hs (by omega) ⟨z, 0⟩ ⟨y, 0⟩
        simp -implicitDefEqProofs only [Spt.sv, Spt.cells, List.map_cons, List.map_nil] at h1 h2
        have key := less_whole (x := x) (y := y) (z := z) hs hfa
        cases hx : belowAt l a x with
        | false =>
          rw [hx] at b1
          have hcall5 := sp_awake24; have hcall6 := hck; have hcall7 := hf; have hcall8 := sp_kin_Of l hb hc; have hcall9 := b1; repeat' (first | (simp -implicitDefEqProofs only [go_sem, ↓reduceIte, Nat.reduceEqDiff, Nat.reduceAdd, Nat.reduceSub, Nat.reduceMul, Nat.reduceLeDiff, Nat.reduceLT, reduceCtorEq, Int.reduceToNat, hlen, e1, e00, e01]) | (with_reducible refine g_noent ?_) | (with_reducible refine g_call0 hcall5 ?_) | (with_reducible refine g_calld0 hcall5 ?_) | (with_reducible refine g_call0 hcall6 ?_) | (with_reducible refine g_calld0 hcall6 ?_) | (with_reducible refine g_call0 hcall7 ?_) | (with_reducible refine g_calld0 hcall7 ?_) | (with_reducible refine g_call0 hcall8 ?_) | (with_reducible refine g_calld0 hcall8 ?_) | (with_reducible refine g_call0 hcall9 ?_) | (with_reducible refine g_calld0 hcall9 ?_) | (refine cdS (fun hg => ?_) (fun hg => ?_) <;> try simp -implicitDefEqProofs only [hg, Bool.not_true, Bool.not_false]) | (refine gdS (fun hg => ?_) (fun hg => ?_) <;> try simp -implicitDefEqProofs only [hg, Bool.not_true, Bool.not_false]) | (refine gddS (fun hg => ?_) (fun hg => ?_) <;> try simp -implicitDefEqProofs only [hg, Bool.not_true, Bool.not_false]) | ((with_reducible apply And.intro); focus (first | trivial | omega | decide | (simp -implicitDefEqProofs only [maxLen]; omega) | (simp [maxLen, sty_len, nd_len, ndL_len, lnL_len, intsL_len, rvs_len, lensS_len]; done) | (simp [maxLen, sty_len, nd_len, ndL_len, lnL_len, intsL_len, rvs_len, lensS_len]; omega))) | fail)
          exact (hK _ _ (ret_t rfl)).2
        | true =>
          rw [hx] at b1
          cases hy : belowAt l a y with
          | false =>
            rw [hy] at b2
            have hcall10 := sp_awake24; have hcall11 := hck; have hcall12 := hf; have hcall13 := sp_kin_Of l hb hc; have hcall14 := b1; have hcall15 := b2; repeat' (first | (simp -implicitDefEqProofs only [go_sem, ↓reduceIte, Nat.reduceEqDiff, Nat.reduceAdd, Nat.reduceSub, Nat.reduceMul, Nat.reduceLeDiff, Nat.reduceLT, reduceCtorEq, Int.reduceToNat, hlen, e1, e00, e01]) | (with_reducible refine g_noent ?_) | (with_reducible refine g_call0 hcall10 ?_) | (with_reducible refine g_calld0 hcall10 ?_) | (with_reducible refine g_call0 hcall11 ?_) | (with_reducible refine g_calld0 hcall11 ?_) | (with_reducible refine g_call0 hcall12 ?_) | (with_reducible refine g_calld0 hcall12 ?_) | (with_reducible refine g_call0 hcall13 ?_) | (with_reducible refine g_calld0 hcall13 ?_) | (with_reducible refine g_call0 hcall14 ?_) | (with_reducible refine g_calld0 hcall14 ?_) | (with_reducible refine g_call0 hcall15 ?_) | (with_reducible refine g_calld0 hcall15 ?_) | (refine cdS (fun hg => ?_) (fun hg => ?_) <;> try simp -implicitDefEqProofs only [hg, Bool.not_true, Bool.not_false]) | (refine gdS (fun hg => ?_) (fun hg => ?_) <;> try simp -implicitDefEqProofs only [hg, Bool.not_true, Bool.not_false]) | (refine gddS (fun hg => ?_) (fun hg => ?_) <;> try simp -implicitDefEqProofs only [hg, Bool.not_true, Bool.not_false]) | ((with_reducible apply And.intro); focus (first | trivial | omega | decide | (simp -implicitDefEqProofs only [maxLen]; omega) | (simp [maxLen, sty_len, nd_len, ndL_len, lnL_len, intsL_len, rvs_len, lensS_len]; done) | (simp [maxLen, sty_len, nd_len, ndL_len, lnL_len, intsL_len, rvs_len, lensS_len]; omega))) | fail)
            exact (hK _ _ (ret_t rfl)).2
          | true =>
            rw [hy] at b2
            cases hz : belowAt l a z with
            | true =>
              rw [hz] at b3
              have hcall16 := sp_awake24; have hcall17 := hck; have hcall18 := hf; have hcall19 := sp_kin_Of l hb hc; have hcall20 := b1; have hcall21 := b2; have hcall22 := b3; repeat' (first | (simp -implicitDefEqProofs only [go_sem, ↓reduceIte, Nat.reduceEqDiff, Nat.reduceAdd, Nat.reduceSub, Nat.reduceMul, Nat.reduceLeDiff, Nat.reduceLT, reduceCtorEq, Int.reduceToNat, hlen, e1, e00, e01]) | (with_reducible refine g_noent ?_) | (with_reducible refine g_call0 hcall16 ?_) | (with_reducible refine g_calld0 hcall16 ?_) | (with_reducible refine g_call0 hcall17 ?_) | (with_reducible refine g_calld0 hcall17 ?_) | (with_reducible refine g_call0 hcall18 ?_) | (with_reducible refine g_calld0 hcall18 ?_) | (with_reducible refine g_call0 hcall19 ?_) | (with_reducible refine g_calld0 hcall19 ?_) | (with_reducible refine g_call0 hcall20 ?_) | (with_reducible refine g_calld0 hcall20 ?_) | (with_reducible refine g_call0 hcall21 ?_) | (with_reducible refine g_calld0 hcall21 ?_) | (with_reducible refine g_call0 hcall22 ?_) | (with_reducible refine g_calld0 hcall22 ?_) | (refine cdS (fun hg => ?_) (fun hg => ?_) <;> try simp -implicitDefEqProofs only [hg, Bool.not_true, Bool.not_false]) | (refine gdS (fun hg => ?_) (fun hg => ?_) <;> try simp -implicitDefEqProofs only [hg, Bool.not_true, Bool.not_false]) | (refine gddS (fun hg => ?_) (fun hg => ?_) <;> try simp -implicitDefEqProofs only [hg, Bool.not_true, Bool.not_false]) | ((with_reducible apply And.intro); focus (first | trivial | omega | decide | (simp -implicitDefEqProofs only [maxLen]; omega) | (simp [maxLen, sty_len, nd_len, ndL_len, lnL_len, intsL_len, rvs_len, lensS_len]; done) | (simp [maxLen, sty_len, nd_len, ndL_len, lnL_len, intsL_len, rvs_len, lensS_len]; omega))) | fail)
              exact (hK _ _ (ret_t rfl)).2
            | false =>
              rw [hz] at b3
              have key := key hx hy hz
              cases hp : lessAt l ⟨x, 0⟩ ⟨z, 0⟩ with
              | false =>
                rw [hp] at h1
                have hcall23 := sp_awake24; have hcall24 := hck; have hcall25 := hf; have hcall26 := sp_kin_Of l hb hc; have hcall27 := b1; have hcall28 := b2; have hcall29 := b3; have hcall30 := h1; repeat' (first | (simp -implicitDefEqProofs only [go_sem, ↓reduceIte, Nat.reduceEqDiff, Nat.reduceAdd, Nat.reduceSub, Nat.reduceMul, Nat.reduceLeDiff, Nat.reduceLT, reduceCtorEq, Int.reduceToNat, hlen, e1, e00, e01]) | (with_reducible refine g_noent ?_) | (with_reducible refine g_call0 hcall23 ?_) | (with_reducible refine g_calld0 hcall23 ?_) | (with_reducible refine g_call0 hcall24 ?_) | (with_reducible refine g_calld0 hcall24 ?_) | (with_reducible refine g_call0 hcall25 ?_) | (with_reducible refine g_calld0 hcall25 ?_) | (with_reducible refine g_call0 hcall26 ?_) | (with_reducible refine g_calld0 hcall26 ?_) | (with_reducible refine g_call0 hcall27 ?_) | (with_reducible refine g_calld0 hcall27 ?_) | (with_reducible refine g_call0 hcall28 ?_) | (with_reducible refine g_calld0 hcall28 ?_) | (with_reducible refine g_call0 hcall29 ?_) | (with_reducible refine g_calld0 hcall29 ?_) | (with_reducible refine g_call0 hcall30 ?_) | (with_reducible refine g_calld0 hcall30 ?_) | (refine cdS (fun hg => ?_) (fun hg => ?_) <;> try simp -implicitDefEqProofs only [hg, Bool.not_true, Bool.not_false]) | (refine gdS (fun hg => ?_) (fun hg => ?_) <;> try simp -implicitDefEqProofs only [hg, Bool.not_true, Bool.not_false]) | (refine gddS (fun hg => ?_) (fun hg => ?_) <;> try simp -implicitDefEqProofs only [hg, Bool.not_true, Bool.not_false]) | ((with_reducible apply And.intro); focus (first | trivial | omega | decide | (simp -implicitDefEqProofs only [maxLen]; omega) | (simp [maxLen, sty_len, nd_len, ndL_len, lnL_len, intsL_len, rvs_len, lensS_len]; done) | (simp [maxLen, sty_len, nd_len, ndL_len, lnL_len, intsL_len, rvs_len, lensS_len]; omega))) | fail)
                exact (hK _ _ (ret_t rfl)).2
              | true =>
                rw [hp] at h1
                have hq : lessAt l ⟨z, 0⟩ ⟨y, 0⟩ = false := by
                  rw [Bool.eq_false_iff]; intro h; exact key ⟨hp, h⟩
                rw [hq] at h2
                have hcall31 := sp_awake24; have hcall32 := hck; have hcall33 := hf; have hcall34 := sp_kin_Of l hb hc; have hcall35 := b1; have hcall36 := b2; have hcall37 := b3; have hcall38 := h1; have hcall39 := h2; repeat' (first | (simp -implicitDefEqProofs only [go_sem, ↓reduceIte, Nat.reduceEqDiff, Nat.reduceAdd, Nat.reduceSub, Nat.reduceMul, Nat.reduceLeDiff, Nat.reduceLT, reduceCtorEq, Int.reduceToNat, hlen, e1, e00, e01]) | (with_reducible refine g_noent ?_) | (with_reducible refine g_call0 hcall31 ?_) | (with_reducible refine g_calld0 hcall31 ?_) | (with_reducible refine g_call0 hcall32 ?_) | (with_reducible refine g_calld0 hcall32 ?_) | (with_reducible refine g_call0 hcall33 ?_) | (with_reducible refine g_calld0 hcall33 ?_) | (with_reducible refine g_call0 hcall34 ?_) | (with_reducible refine g_calld0 hcall34 ?_) | (with_reducible refine g_call0 hcall35 ?_) | (with_reducible refine g_calld0 hcall35 ?_) | (with_reducible refine g_call0 hcall36 ?_) | (with_reducible refine g_calld0 hcall36 ?_) | (with_reducible refine g_call0 hcall37 ?_) | (with_reducible refine g_calld0 hcall37 ?_) | (with_reducible refine g_call0 hcall38 ?_) | (with_reducible refine g_calld0 hcall38 ?_) | (with_reducible refine g_call0 hcall39 ?_) | (with_reducible refine g_calld0 hcall39 ?_) | (refine cdS (fun hg => ?_) (fun hg => ?_) <;> try simp -implicitDefEqProofs only [hg, Bool.not_true, Bool.not_false]) | (refine gdS (fun hg => ?_) (fun hg => ?_) <;> try simp -implicitDefEqProofs only [hg, Bool.not_true, Bool.not_false]) | (refine gddS (fun hg => ?_) (fun hg => ?_) <;> try simp -implicitDefEqProofs only [hg, Bool.not_true, Bool.not_false]) | ((with_reducible apply And.intro); focus (first | trivial | omega | decide | (simp -implicitDefEqProofs only [maxLen]; omega) | (simp [maxLen, sty_len, nd_len, ndL_len, lnL_len, intsL_len, rvs_len, lensS_len]; done) | (simp [maxLen, sty_len, nd_len, ndL_len, lnL_len, intsL_len, rvs_len, lensS_len]; omega))) | fail)
                exact (hK _ _ (ret_t rfl)).2
    · have e00 : (chk l != 0) = true := by simpa using hc
      have hcall40 := sp_awake24; have hcall41 := hck; repeat' (first | (simp -implicitDefEqProofs only [go_sem, ↓reduceIte, Nat.reduceEqDiff, Nat.reduceAdd, Nat.reduceSub, Nat.reduceMul, Nat.reduceLeDiff, Nat.reduceLT, reduceCtorEq, Int.reduceToNat, hlen, e1, e00]) | (with_reducible refine g_noent ?_) | (with_reducible refine g_call0 hcall40 ?_) | (with_reducible refine g_calld0 hcall40 ?_) | (with_reducible refine g_call0 hcall41 ?_) | (with_reducible refine g_calld0 hcall41 ?_) | (refine cdS (fun hg => ?_) (fun hg => ?_) <;> try simp -implicitDefEqProofs only [hg, Bool.not_true, Bool.not_false]) | (refine gdS (fun hg => ?_) (fun hg => ?_) <;> try simp -implicitDefEqProofs only [hg, Bool.not_true, Bool.not_false]) | (refine gddS (fun hg => ?_) (fun hg => ?_) <;> try simp -implicitDefEqProofs only [hg, Bool.not_true, Bool.not_false]) | ((with_reducible apply And.intro); focus (first | trivial | omega | decide | (simp -implicitDefEqProofs only [maxLen]; omega) | (simp [maxLen, sty_len, nd_len, ndL_len, lnL_len, intsL_len, rvs_len, lensS_len]; done) | (simp [maxLen, sty_len, nd_len, ndL_len, lnL_len, intsL_len, rvs_len, lensS_len]; omega))) | fail)
      exact (hK _ _ (ret_t rfl)).2
end Go.Eng

/- What comes in, as nodes and numbers. -/
namespace Go.Eng
open Go Go.Proofs

theorem tyInt {n : Nat} {rs : List RV} (h : TyC Go.Proofs.Try.prog (n + 1) 3 rs) : ∃ i, rs = [.int .i64 i] := by
  obtain ⟨i, h, _⟩ := tyC_int Try.underlying3 h
  exact ⟨i, h⟩
theorem tyInt64 {n : Nat} {rs : List RV} (h : TyC Go.Proofs.Try.prog (n + 1) 2 rs) : ∃ i, rs = [.int .i64 i] := by
  obtain ⟨i, h, _⟩ := tyC_int Try.underlying2 h
  exact ⟨i, h⟩
theorem tyBool {n : Nat} {rs : List RV} (h : TyC Go.Proofs.Try.prog (n + 1) 4 rs) : ∃ b, rs = [.bool b] := by
  exact tyC_bool Try.underlying4 h
theorem tyLen {n : Nat} {rs : List RV} (h : TyC Go.Proofs.Try.prog (n + 2) 36 rs) : ∃ x : Ln, rs = x.cells := by
  have h := tyC_struct Try.underlying36 h
  obtain ⟨_, _, rfl, h1, _, _, rfl, h2, rfl⟩ := h
  obtain ⟨i, rfl⟩ := tyInt h1
  obtain ⟨j, rfl⟩ := tyInt64 h2
  exact ⟨⟨i, j⟩, rfl⟩
theorem list4 {α : Type} {xs : List α} (h : xs.length = 4) : ∃ a b c d, xs = [a, b, c, d] := by
  match xs, h with
  | [a, b, c, d], _ => exact ⟨a, b, c, d, rfl⟩
theorem tyQ {n : Nat} {rs : List RV} (h : TyC Go.Proofs.Try.prog (n + 3) 37 rs) : ∃ q : Q4 Ln, rs = q.lns := by
  obtain ⟨xs, rfl, hl, hx⟩ := tyC_array Try.underlying37 h
  obtain ⟨a, b, c, d, rfl⟩ := list4 hl
  obtain ⟨a, rfl⟩ := tyLen (hx a (by simp))
  obtain ⟨b, rfl⟩ := tyLen (hx b (by simp))
  obtain ⟨c, rfl⟩ := tyLen (hx c (by simp))
  obtain ⟨d, rfl⟩ := tyLen (hx d (by simp))
  exact ⟨⟨a, b, c, d⟩, rfl⟩
theorem tyB {n : Nat} {rs : List RV} (h : TyC Go.Proofs.Try.prog (n + 2) 38 rs) : ∃ q : Q4 Int, rs = q.ints := by
  obtain ⟨xs, rfl, hl, hx⟩ := tyC_array Try.underlying38 h
  obtain ⟨a, b, c, d, rfl⟩ := list4 hl
  obtain ⟨a, rfl⟩ := tyInt64 (hx a (by simp))
  obtain ⟨b, rfl⟩ := tyInt64 (hx b (by simp))
  obtain ⟨c, rfl⟩ := tyInt64 (hx c (by simp))
  obtain ⟨d, rfl⟩ := tyInt64 (hx d (by simp))
  exact ⟨⟨a, b, c, d⟩, rfl⟩
theorem tySty {n : Nat} {rs : List RV} (h : TyC Go.Proofs.Try.prog (n + 4) 40 rs) : ∃ s : Sty, rs = s.cells := by
  have h := tyC_struct Try.underlying40 h
  obtain ⟨_, _, rfl, h1, _, _, rfl, h2, _, _, rfl, h3, _, _, rfl, h4, _, _, rfl, h5, _, _, rfl, h6, _, _, rfl, h7, _, _, rfl, h8, _, _, rfl, h9, _, _, rfl, h10, _, _, rfl, h11, _, _, rfl, h12, _, _, rfl, h13, _, _, rfl, h14, _, _, rfl, h15, _, _, rfl, h16, _, _, rfl, h17, _, _, rfl, h18, rfl⟩ := h
  obtain ⟨b1, rfl⟩ := tyBool h1
  obtain ⟨i2, rfl⟩ := tyInt h2
  obtain ⟨q3, rfl⟩ := tyQ h3
  obtain ⟨x4, rfl⟩ := tyLen h4
  obtain ⟨x5, rfl⟩ := tyLen h5
  obtain ⟨x6, rfl⟩ := tyLen h6
  obtain ⟨x7, rfl⟩ := tyLen h7
  obtain ⟨x8, rfl⟩ := tyLen h8
  obtain ⟨x9, rfl⟩ := tyLen h9
  obtain ⟨q10, rfl⟩ := tyQ h10
  obtain ⟨q11, rfl⟩ := tyQ h11
  obtain ⟨q12, rfl⟩ := tyB h12
  obtain ⟨b13, rfl⟩ := tyBool h13
  obtain ⟨b14, rfl⟩ := tyBool h14
  obtain ⟨i15, rfl⟩ := tyInt64 h15
  obtain ⟨b16, rfl⟩ := tyBool h16
  obtain ⟨i17, rfl⟩ := tyInt64 h17
  obtain ⟨i18, rfl⟩ := tyInt64 h18
  exact ⟨⟨b1, i2, q3, x4, x5, x6, x7, x8, x9, q10, q11, q12, b13, b14, i15, b16, i17, i18⟩, rfl⟩
theorem tyNode {n : Nat} {rs : List RV} (h : TyC Go.Proofs.Try.prog (n + 5) 42 rs) : ∃ x : Nd, rs = x.cells := by
  have h := tyC_struct Try.underlying42 h
  obtain ⟨_, _, rfl, h1, _, _, rfl, h2, rfl⟩ := h
  obtain ⟨s, rfl⟩ := tySty h1
  obtain ⟨i, rfl⟩ := tyInt h2
  exact ⟨⟨s, i⟩, rfl⟩
theorem list_of {α : Type} {f : α → List RV} : ∀ {xs : List (List RV)}, (∀ x ∈ xs, ∃ a, x = f a) → ∃ l : List α, xs = l.map f
  | [], _ => ⟨[], rfl⟩
  | x :: xs, h => by
    obtain ⟨a, rfl⟩ := h x (by simp)
    obtain ⟨l, rfl⟩ := list_of (xs := xs) fun y hy => h y (by simp [hy])
    exact ⟨a :: l, rfl⟩

theorem cells49 : Program.cellsOf Go.Proofs.Try.prog 42 = 49 := by kernel_rfl
theorem aggN : aggT Go.Proofs.Try.prog 22 = some false := by kernel_rfl
theorem aggI : aggT Go.Proofs.Try.prog 3 = some false := by kernel_rfl

theorem openNodes {rs : List RV} (h : TyC Go.Proofs.Try.prog 6 22 rs) : ∃ l : List Nd, argS Go.Proofs.Try.prog 22 rs = .rv (.sl 49 (ndL l)) := by
  obtain ⟨xs, rfl, _, hx⟩ := tyC_slice Try.underlying22 h
  obtain ⟨l, rfl⟩ := list_of fun x hx' => tyNode (hx x hx')
  refine ⟨l, ?_⟩
  rw [argS_one aggN, cells49]; rfl
theorem openInt {rs : List RV} (h : TyC Go.Proofs.Try.prog 1 3 rs) : ∃ i : Int, argS Go.Proofs.Try.prog 3 rs = .rv (.int .i64 i) := by
  obtain ⟨i, rfl⟩ := tyInt h
  exact ⟨i, argS_one aggI⟩
end Go.Eng

/- What comes in, as spots. -/
namespace Go.Eng
open Go Go.Proofs
end Go.Eng
