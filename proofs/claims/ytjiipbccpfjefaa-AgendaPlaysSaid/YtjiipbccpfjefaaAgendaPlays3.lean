/- Part 3 of the proof: A1, A2, A3, A4, A5, A6, A8, A9, A10, EngZ, A11, AT, AS, EngZa, EngZb, EngZc, EngZd, B1. -/
import Derived.Test.YtjiipbccpfjefaaAgendaPlays2
import Derived.Test.YtjiipbccpfjefaaProg
import Derived.KernelRfl
set_option linter.unusedSimpArgs false
set_option linter.unusedVariables false
/- agenda: the order of entries. -/
namespace Go.Eng
open Go
/- cmp.isNaN[int64] -/
def c25 : AC := (.seq (.reg [⟨(some 2), .mv, [(.c (.rv (.bool false)))], none⟩]) (.seq (.reg [⟨(some 3), .mv, [(.t 0)], none⟩, ⟨(some 4), .mv, [(.t 0)], none⟩, ⟨(some 5), (.ibin .neq), [(.t 3), (.t 4)], none⟩, ⟨(some 2), .mv, [(.t 5)], none⟩]) .ret))
theorem k25 : FnOK Go.Proofs.Try.prog 25 6 c25 [(.t 2)] := fnOK_of (by kernel_rfl)

/- cmp.isNaN[int] -/
def c26 : AC := (.seq (.reg [⟨(some 2), .mv, [(.c (.rv (.bool false)))], none⟩]) (.seq (.reg [⟨(some 3), .mv, [(.t 0)], none⟩, ⟨(some 4), .mv, [(.t 0)], none⟩, ⟨(some 5), (.ibin .neq), [(.t 3), (.t 4)], none⟩, ⟨(some 2), .mv, [(.t 5)], none⟩]) .ret))
theorem k26 : FnOK Go.Proofs.Try.prog 26 6 c26 [(.t 2)] := fnOK_of (by kernel_rfl)

/- cmp.Compare[int64] -/
def c19 : AC := (.seq (.reg [⟨(some 4), .mv, [(.c (.rv (.int .i64 0)))], none⟩]) (.seq (.reg [⟨(some 7), .mv, [(.t 0)], none⟩, ⟨(some 8), (.call 25), [(.t 7)], none⟩, ⟨(some 5), .mv, [(.t 8)], none⟩]) (.seq (.reg [⟨(some 9), .mv, [(.t 1)], none⟩, ⟨(some 10), (.call 25), [(.t 9)], none⟩, ⟨(some 6), .mv, [(.t 10)], none⟩]) (.seq (.seq (.reg [⟨(some 11), .mv, [(.t 5)], none⟩]) (.cond (.t 11) (.seq (.seq (.reg [⟨(some 12), .mv, [(.t 6)], none⟩]) (.cond (.t 12) (.seq (.reg [⟨(some 4), .mv, [(.c (.rv (.int .i64 0)))], none⟩]) .ret) .skip)) (.seq (.reg [⟨(some 4), .mv, [(.c (.rv (.int .i64 (-1))))], none⟩]) .ret)) .skip)) (.seq (.seq (.reg [⟨(some 13), .mv, [(.t 6)], none⟩]) (.cond (.t 13) (.seq (.reg [⟨(some 4), .mv, [(.c (.rv (.int .i64 1)))], none⟩]) .ret) .skip)) (.seq (.seq (.reg [⟨(some 14), .mv, [(.t 0)], none⟩, ⟨(some 15), .mv, [(.t 1)], none⟩, ⟨(some 16), (.ibin .lss), [(.t 14), (.t 15)], none⟩]) (.cond (.t 16) (.seq (.reg [⟨(some 4), .mv, [(.c (.rv (.int .i64 (-1))))], none⟩]) .ret) .skip)) (.seq (.seq (.reg [⟨(some 17), .mv, [(.t 0)], none⟩, ⟨(some 18), .mv, [(.t 1)], none⟩, ⟨(some 19), (.ibin .gtr), [(.t 17), (.t 18)], none⟩]) (.cond (.t 19) (.seq (.reg [⟨(some 4), .mv, [(.c (.rv (.int .i64 1)))], none⟩]) .ret) .skip)) (.seq (.reg [⟨(some 4), .mv, [(.c (.rv (.int .i64 0)))], none⟩]) .ret))))))))
theorem k19 : FnOK Go.Proofs.Try.prog 19 20 c19 [(.t 4)] := fnOK_of (by kernel_rfl)

/- cmp.Compare[int] -/
def c20 : AC := (.seq (.reg [⟨(some 4), .mv, [(.c (.rv (.int .i64 0)))], none⟩]) (.seq (.reg [⟨(some 7), .mv, [(.t 0)], none⟩, ⟨(some 8), (.call 26), [(.t 7)], none⟩, ⟨(some 5), .mv, [(.t 8)], none⟩]) (.seq (.reg [⟨(some 9), .mv, [(.t 1)], none⟩, ⟨(some 10), (.call 26), [(.t 9)], none⟩, ⟨(some 6), .mv, [(.t 10)], none⟩]) (.seq (.seq (.reg [⟨(some 11), .mv, [(.t 5)], none⟩]) (.cond (.t 11) (.seq (.seq (.reg [⟨(some 12), .mv, [(.t 6)], none⟩]) (.cond (.t 12) (.seq (.reg [⟨(some 4), .mv, [(.c (.rv (.int .i64 0)))], none⟩]) .ret) .skip)) (.seq (.reg [⟨(some 4), .mv, [(.c (.rv (.int .i64 (-1))))], none⟩]) .ret)) .skip)) (.seq (.seq (.reg [⟨(some 13), .mv, [(.t 6)], none⟩]) (.cond (.t 13) (.seq (.reg [⟨(some 4), .mv, [(.c (.rv (.int .i64 1)))], none⟩]) .ret) .skip)) (.seq (.seq (.reg [⟨(some 14), .mv, [(.t 0)], none⟩, ⟨(some 15), .mv, [(.t 1)], none⟩, ⟨(some 16), (.ibin .lss), [(.t 14), (.t 15)], none⟩]) (.cond (.t 16) (.seq (.reg [⟨(some 4), .mv, [(.c (.rv (.int .i64 (-1))))], none⟩]) .ret) .skip)) (.seq (.seq (.reg [⟨(some 17), .mv, [(.t 0)], none⟩, ⟨(some 18), .mv, [(.t 1)], none⟩, ⟨(some 19), (.ibin .gtr), [(.t 17), (.t 18)], none⟩]) (.cond (.t 19) (.seq (.reg [⟨(some 4), .mv, [(.c (.rv (.int .i64 1)))], none⟩]) .ret) .skip)) (.seq (.reg [⟨(some 4), .mv, [(.c (.rv (.int .i64 0)))], none⟩]) .ret))))))))
theorem k20 : FnOK Go.Proofs.Try.prog 20 20 c20 [(.t 4)] := fnOK_of (by kernel_rfl)

/- cmp.Or[int] -/
def c18 : AC := (.seq (.reg [⟨(some 2), .mv, [(.c (.rv (.int .i64 0)))], none⟩]) (.seq (.reg [⟨(some 3), .mv, [(.c (.rv (.int .i64 0)))], none⟩]) (.seq (.seq (.reg [⟨(some 6), .mv, [(.t 0)], none⟩, ⟨(some 7), .len, [(.t 6)], none⟩, ⟨(some 8), .mv, [(.c (.rv (.int .i64 0)))], none⟩]) (.seq (.block 0 (.loop (.seq (.reg [⟨(some 9), (.ibin .lss), [(.t 8), (.t 7)], none⟩]) (.seq (.cond (.t 9) .skip (.exit 0)) (.seq (.seq (.block 1 (.seq (.reg [⟨(some 10), (.ixs 1), [(.t 6), (.t 8)], none⟩, ⟨(some 11), (.load 1 false), [(.t 10)], none⟩, ⟨(some 5), .mv, [(.t 11)], none⟩]) (.seq (.reg [⟨(some 12), .mv, [(.t 5)], none⟩, ⟨(some 13), .mv, [(.t 3)], none⟩, ⟨(some 14), (.ibin .neq), [(.t 12), (.t 13)], none⟩]) (.cond (.t 14) (.seq (.reg [⟨(some 15), .mv, [(.t 5)], none⟩, ⟨(some 2), .mv, [(.t 15)], none⟩]) .ret) .skip)))) .ent) (.reg [⟨(some 16), (.ibin .add), [(.t 8), (.c (.rv (.int .i64 1)))], none⟩, ⟨(some 8), .mv, [(.t 16)], none⟩])))))) .ent)) (.seq (.reg [⟨(some 17), .mv, [(.t 3)], none⟩, ⟨(some 2), .mv, [(.t 17)], none⟩]) .ret))))
theorem k18 : FnOK Go.Proofs.Try.prog 18 18 c18 [(.t 2)] := fnOK_of (by kernel_rfl)

/- (decoupage/agenda.Entry).Compare -/
def c8 : AC := (.seq (.reg [⟨(some 2), .box, [(.t 0)], none⟩, ⟨(some 3), .box, [(.t 1)], none⟩, ⟨(some 4), .mv, [(.c (.rv (.int .i64 0)))], none⟩]) (.seq (.regd [0, 1, 0, 4, 15, 0, 32, 0, 128, 511, 0, 1024, 0, 4096, 16383, 32767, 65535, 131071] [⟨(some 5), (.fld 0), [(.t 2)], none⟩, ⟨(some 6), (.load 1 false), [(.t 5)], none⟩, ⟨(some 7), (.fld 0), [(.t 3)], none⟩, ⟨(some 8), (.load 1 false), [(.t 7)], none⟩, ⟨(some 9), (.call 19), [(.t 6), (.t 8)], none⟩, ⟨(some 10), (.fld 1), [(.t 2)], none⟩, ⟨(some 11), (.load 1 false), [(.t 10)], none⟩, ⟨(some 12), (.fld 1), [(.t 3)], none⟩, ⟨(some 13), (.load 1 false), [(.t 12)], none⟩, ⟨(some 14), (.call 19), [(.t 11), (.t 13)], none⟩, ⟨(some 15), (.fld 2), [(.t 2)], none⟩, ⟨(some 16), (.load 1 false), [(.t 15)], none⟩, ⟨(some 17), (.fld 2), [(.t 3)], none⟩, ⟨(some 18), (.load 1 false), [(.t 17)], none⟩, ⟨(some 19), (.call 20), [(.t 16), (.t 18)], none⟩, ⟨(some 20), (.bsl 1), [(.t 9), (.t 14), (.t 19)], none⟩, ⟨(some 21), (.call 18), [(.t 20)], none⟩, ⟨(some 4), .mv, [(.t 21)], none⟩]) .ret))
theorem k8 : FnOK Go.Proofs.Try.prog 8 22 c8 [(.t 4)] := fnOK_of (by kernel_rfl)

/- decoupage/decoupageref04.Less -/
def c9 : AC := (.seq (.reg [⟨(some 2), .box, [(.t 0)], none⟩, ⟨(some 3), .box, [(.t 1)], none⟩, ⟨(some 4), .mv, [(.c (.rv (.bool false)))], none⟩]) (.seq (.seq (.reg [⟨(some 5), (.fld 0), [(.t 2)], none⟩, ⟨(some 6), (.load 1 false), [(.t 5)], none⟩, ⟨(some 7), (.fld 0), [(.t 3)], none⟩, ⟨(some 8), (.load 1 false), [(.t 7)], none⟩, ⟨(some 9), (.ibin .neq), [(.t 6), (.t 8)], none⟩]) (.cond (.t 9) (.seq (.reg [⟨(some 10), (.fld 0), [(.t 2)], none⟩, ⟨(some 11), (.load 1 false), [(.t 10)], none⟩, ⟨(some 12), (.fld 0), [(.t 3)], none⟩, ⟨(some 13), (.load 1 false), [(.t 12)], none⟩, ⟨(some 14), (.ibin .lss), [(.t 11), (.t 13)], none⟩, ⟨(some 4), .mv, [(.t 14)], none⟩]) .ret) .skip)) (.seq (.seq (.reg [⟨(some 15), (.fld 1), [(.t 2)], none⟩, ⟨(some 16), (.load 1 false), [(.t 15)], none⟩, ⟨(some 17), (.fld 1), [(.t 3)], none⟩, ⟨(some 18), (.load 1 false), [(.t 17)], none⟩, ⟨(some 19), (.ibin .neq), [(.t 16), (.t 18)], none⟩]) (.cond (.t 19) (.seq (.reg [⟨(some 20), (.fld 1), [(.t 2)], none⟩, ⟨(some 21), (.load 1 false), [(.t 20)], none⟩, ⟨(some 22), (.fld 1), [(.t 3)], none⟩, ⟨(some 23), (.load 1 false), [(.t 22)], none⟩, ⟨(some 24), (.ibin .lss), [(.t 21), (.t 23)], none⟩, ⟨(some 4), .mv, [(.t 24)], none⟩]) .ret) .skip)) (.seq (.reg [⟨(some 25), (.fld 2), [(.t 2)], none⟩, ⟨(some 26), (.load 1 false), [(.t 25)], none⟩, ⟨(some 27), (.fld 2), [(.t 3)], none⟩, ⟨(some 28), (.load 1 false), [(.t 27)], none⟩, ⟨(some 29), (.ibin .lss), [(.t 26), (.t 28)], none⟩, ⟨(some 4), .mv, [(.t 29)], none⟩]) .ret))))
theorem k9 : FnOK Go.Proofs.Try.prog 9 30 c9 [(.t 4)] := fnOK_of (by kernel_rfl)


structure Ent3 where
  key : Int
  tie : Int
  n : Int
  deriving DecidableEq

def Ent3.cells (e : Ent3) : List RV := [.int .i64 e.key, .int .i64 e.tie, .int .i64 e.n]
def Ent3.sv (e : Ent3) : SV := .agg [.rv (.int .i64 e.key), .rv (.int .i64 e.tie), .rv (.int .i64 e.n)]

def cmpI (x y : Int) : Int := if x < y then -1 else if x > y then 1 else 0

theorem sp26 (x : Int) : CallR Go.Proofs.Try.prog 26 [.rv (.int .i64 x)] [] [] (.rv (.bool false)) := by
  refine callR_F k26 [.int .i64 x] _ (by simp) (fun K hK => ?_)
  simp -implicitDefEqProofs only [c26, g_nil, g_skip, g_reg, g_regd, g_seq, g_block, g_end, g_cond, g_ret, g_exit, gx_nil, gx_c, gx_o, gx_d, gx_b, g_onil, g_dnil, g_op, g_opg, g_opd, g_opdg, condI, callvI, invI, plainI, opI, guardI, callvdI, invdI, plaindI, opdI, guarddI, opE, o1, o2, ix2, loadE, storeE, boxE, allLen, bslE, buildE, fits, fldE, ixsE, ixaE, ixvE, fldvE, lenE, lensE, srcE, appE, bnd2, bndL, bndH, bnd0, bndE, slcE, slcC, pickE, allocE, nilchkE, isNilSV, ibinE, ibin, ishfE, ishf, eqnilE, eqbE, notE, negE, cviE, mkslE, mxE, mnE, extE, isNilSl, isNilFn, isNilIf, isNilO, eqniloE, eqsF, eqsE, cellsEq, cellEq, sbinE, sbin, ifcOf, tasF, tasE, cellsSV, cellsAll, layO, mkEnv, lk, hget_zero, hget_succ, putE, uphO, uph, uphL, evX, rdsX, uIds, List.map_cons, List.map_nil, List.length_cons, List.length_nil, List.length_append, List.length_map, List.length_set, List.set_cons_zero, List.set_cons_succ, List.cons_append, List.nil_append, List.append_nil, List.getElem?_cons_zero, List.getElem?_cons_succ, List.getElem?_nil, List.take_succ_cons, List.take_zero, List.drop_succ_cons, List.drop_zero, List.drop_nil, List.take_nil, Option.getD_some, Option.getD_none, Option.map_some, Option.map_none, true_and, and_true, ↓reduceIte, Nat.reduceEqDiff, Nat.reduceAdd, Nat.reduceSub, Nat.reduceMul, Nat.reduceLeDiff, Nat.reduceLT, Nat.zero_add, Nat.add_zero, decide_eq_true_eq, Bool.false_eq_true, reduceCtorEq, rvs_len, rvs_get, rvs_fold, rvs_take, rvs_append, Int.toNat_natCast, bneTT, bneTF, bneFT, bneFF, Bool.not_true, Bool.not_false, splice0, slcaE, clrE, chunks]
  refine (hK _ _ ?_).2
  simp [resL, retP, lk, resT, rn_rv]

theorem sp25 (x : Int) : CallR Go.Proofs.Try.prog 25 [.rv (.int .i64 x)] [] [] (.rv (.bool false)) := by
  refine callR_F k25 [.int .i64 x] _ (by simp) (fun K hK => ?_)
  simp -implicitDefEqProofs only [c25, g_nil, g_skip, g_reg, g_regd, g_seq, g_block, g_end, g_cond, g_ret, g_exit, gx_nil, gx_c, gx_o, gx_d, gx_b, g_onil, g_dnil, g_op, g_opg, g_opd, g_opdg, condI, callvI, invI, plainI, opI, guardI, callvdI, invdI, plaindI, opdI, guarddI, opE, o1, o2, ix2, loadE, storeE, boxE, allLen, bslE, buildE, fits, fldE, ixsE, ixaE, ixvE, fldvE, lenE, lensE, srcE, appE, bnd2, bndL, bndH, bnd0, bndE, slcE, slcC, pickE, allocE, nilchkE, isNilSV, ibinE, ibin, ishfE, ishf, eqnilE, eqbE, notE, negE, cviE, mkslE, mxE, mnE, extE, isNilSl, isNilFn, isNilIf, isNilO, eqniloE, eqsF, eqsE, cellsEq, cellEq, sbinE, sbin, ifcOf, tasF, tasE, cellsSV, cellsAll, layO, mkEnv, lk, hget_zero, hget_succ, putE, uphO, uph, uphL, evX, rdsX, uIds, List.map_cons, List.map_nil, List.length_cons, List.length_nil, List.length_append, List.length_map, List.length_set, List.set_cons_zero, List.set_cons_succ, List.cons_append, List.nil_append, List.append_nil, List.getElem?_cons_zero, List.getElem?_cons_succ, List.getElem?_nil, List.take_succ_cons, List.take_zero, List.drop_succ_cons, List.drop_zero, List.drop_nil, List.take_nil, Option.getD_some, Option.getD_none, Option.map_some, Option.map_none, true_and, and_true, ↓reduceIte, Nat.reduceEqDiff, Nat.reduceAdd, Nat.reduceSub, Nat.reduceMul, Nat.reduceLeDiff, Nat.reduceLT, Nat.zero_add, Nat.add_zero, decide_eq_true_eq, Bool.false_eq_true, reduceCtorEq, rvs_len, rvs_get, rvs_fold, rvs_take, rvs_append, Int.toNat_natCast, bneTT, bneTF, bneFT, bneFF, Bool.not_true, Bool.not_false, splice0, slcaE, clrE, chunks]
  refine (hK _ _ ?_).2
  simp [resL, retP, lk, resT, rn_rv]

theorem sp20 (x y : Int) : CallR Go.Proofs.Try.prog 20 [.rv (.int .i64 x), .rv (.int .i64 y)] [] [] (.rv (.int .i64 (cmpI x y))) := by
  refine callR_F k20 [.int .i64 x, .int .i64 y] _ (by simp) (fun K hK => ?_)
  simp -implicitDefEqProofs only [c20, g_nil, g_skip, g_reg, g_regd, g_seq, g_block, g_end, g_cond, g_ret, g_exit, gx_nil, gx_c, gx_o, gx_d, gx_b, g_onil, g_dnil, g_op, g_opg, g_opd, g_opdg, condI, callvI, invI, plainI, opI, guardI, callvdI, invdI, plaindI, opdI, guarddI, opE, o1, o2, ix2, loadE, storeE, boxE, allLen, bslE, buildE, fits, fldE, ixsE, ixaE, ixvE, fldvE, lenE, lensE, srcE, appE, bnd2, bndL, bndH, bnd0, bndE, slcE, slcC, pickE, allocE, nilchkE, isNilSV, ibinE, ibin, ishfE, ishf, eqnilE, eqbE, notE, negE, cviE, mkslE, mxE, mnE, extE, isNilSl, isNilFn, isNilIf, isNilO, eqniloE, eqsF, eqsE, cellsEq, cellEq, sbinE, sbin, ifcOf, tasF, tasE, cellsSV, cellsAll, layO, mkEnv, lk, hget_zero, hget_succ, putE, uphO, uph, uphL, evX, rdsX, uIds, List.map_cons, List.map_nil, List.length_cons, List.length_nil, List.length_append, List.length_map, List.length_set, List.set_cons_zero, List.set_cons_succ, List.cons_append, List.nil_append, List.append_nil, List.getElem?_cons_zero, List.getElem?_cons_succ, List.getElem?_nil, List.take_succ_cons, List.take_zero, List.drop_succ_cons, List.drop_zero, List.drop_nil, List.take_nil, Option.getD_some, Option.getD_none, Option.map_some, Option.map_none, true_and, and_true, ↓reduceIte, Nat.reduceEqDiff, Nat.reduceAdd, Nat.reduceSub, Nat.reduceMul, Nat.reduceLeDiff, Nat.reduceLT, Nat.zero_add, Nat.add_zero, decide_eq_true_eq, Bool.false_eq_true, reduceCtorEq, rvs_len, rvs_get, rvs_fold, rvs_take, rvs_append, Int.toNat_natCast, bneTT, bneTF, bneFT, bneFF, Bool.not_true, Bool.not_false, splice0, slcaE, clrE, chunks]
  refine g_call0 (sp26 x) ?_
  simp -implicitDefEqProofs only [g_nil, g_skip, g_reg, g_regd, g_seq, g_block, g_end, g_cond, g_ret, g_exit, gx_nil, gx_c, gx_o, gx_d, gx_b, g_onil, g_dnil, g_op, g_opg, g_opd, g_opdg, condI, callvI, invI, plainI, opI, guardI, callvdI, invdI, plaindI, opdI, guarddI, opE, o1, o2, ix2, loadE, storeE, boxE, allLen, bslE, buildE, fits, fldE, ixsE, ixaE, ixvE, fldvE, lenE, lensE, srcE, appE, bnd2, bndL, bndH, bnd0, bndE, slcE, slcC, pickE, allocE, nilchkE, isNilSV, ibinE, ibin, ishfE, ishf, eqnilE, eqbE, notE, negE, cviE, mkslE, mxE, mnE, extE, isNilSl, isNilFn, isNilIf, isNilO, eqniloE, eqsF, eqsE, cellsEq, cellEq, sbinE, sbin, ifcOf, tasF, tasE, cellsSV, cellsAll, layO, mkEnv, lk, hget_zero, hget_succ, putE, uphO, uph, uphL, evX, rdsX, uIds, List.map_cons, List.map_nil, List.length_cons, List.length_nil, List.length_append, List.length_map, List.length_set, List.set_cons_zero, List.set_cons_succ, List.cons_append, List.nil_append, List.append_nil, List.getElem?_cons_zero, List.getElem?_cons_succ, List.getElem?_nil, List.take_succ_cons, List.take_zero, List.drop_succ_cons, List.drop_zero, List.drop_nil, List.take_nil, Option.getD_some, Option.getD_none, Option.map_some, Option.map_none, true_and, and_true, ↓reduceIte, Nat.reduceEqDiff, Nat.reduceAdd, Nat.reduceSub, Nat.reduceMul, Nat.reduceLeDiff, Nat.reduceLT, Nat.zero_add, Nat.add_zero, decide_eq_true_eq, Bool.false_eq_true, reduceCtorEq, rvs_len, rvs_get, rvs_fold, rvs_take, rvs_append, Int.toNat_natCast, bneTT, bneTF, bneFT, bneFF, Bool.not_true, Bool.not_false, splice0, slcaE, clrE, chunks]
  refine g_call0 (sp26 y) ?_
  simp -implicitDefEqProofs only [g_nil, g_skip, g_reg, g_regd, g_seq, g_block, g_end, g_cond, g_ret, g_exit, gx_nil, gx_c, gx_o, gx_d, gx_b, g_onil, g_dnil, g_op, g_opg, g_opd, g_opdg, condI, callvI, invI, plainI, opI, guardI, callvdI, invdI, plaindI, opdI, guarddI, opE, o1, o2, ix2, loadE, storeE, boxE, allLen, bslE, buildE, fits, fldE, ixsE, ixaE, ixvE, fldvE, lenE, lensE, srcE, appE, bnd2, bndL, bndH, bnd0, bndE, slcE, slcC, pickE, allocE, nilchkE, isNilSV, ibinE, ibin, ishfE, ishf, eqnilE, eqbE, notE, negE, cviE, mkslE, mxE, mnE, extE, isNilSl, isNilFn, isNilIf, isNilO, eqniloE, eqsF, eqsE, cellsEq, cellEq, sbinE, sbin, ifcOf, tasF, tasE, cellsSV, cellsAll, layO, mkEnv, lk, hget_zero, hget_succ, putE, uphO, uph, uphL, evX, rdsX, uIds, List.map_cons, List.map_nil, List.length_cons, List.length_nil, List.length_append, List.length_map, List.length_set, List.set_cons_zero, List.set_cons_succ, List.cons_append, List.nil_append, List.append_nil, List.getElem?_cons_zero, List.getElem?_cons_succ, List.getElem?_nil, List.take_succ_cons, List.take_zero, List.drop_succ_cons, List.drop_zero, List.drop_nil, List.take_nil, Option.getD_some, Option.getD_none, Option.map_some, Option.map_none, true_and, and_true, ↓reduceIte, Nat.reduceEqDiff, Nat.reduceAdd, Nat.reduceSub, Nat.reduceMul, Nat.reduceLeDiff, Nat.reduceLT, Nat.zero_add, Nat.add_zero, decide_eq_true_eq, Bool.false_eq_true, reduceCtorEq, rvs_len, rvs_get, rvs_fold, rvs_take, rvs_append, Int.toNat_natCast, bneTT, bneTF, bneFT, bneFF, Bool.not_true, Bool.not_false, splice0, slcaE, clrE, chunks]
  split
  · refine (hK _ _ ?_).2
    simp [resL, retP, lk, resT, rn_rv, cmpI, *]
  split
  · refine (hK _ _ ?_).2
    simp [resL, retP, lk, resT, rn_rv, cmpI, *]
  · refine (hK _ _ ?_).2
    simp [resL, retP, lk, resT, rn_rv, cmpI, *]

theorem sp19 (x y : Int) : CallR Go.Proofs.Try.prog 19 [.rv (.int .i64 x), .rv (.int .i64 y)] [] [] (.rv (.int .i64 (cmpI x y))) := by
  refine callR_F k19 [.int .i64 x, .int .i64 y] _ (by simp) (fun K hK => ?_)
  simp -implicitDefEqProofs only [c19, g_nil, g_skip, g_reg, g_regd, g_seq, g_block, g_end, g_cond, g_ret, g_exit, gx_nil, gx_c, gx_o, gx_d, gx_b, g_onil, g_dnil, g_op, g_opg, g_opd, g_opdg, condI, callvI, invI, plainI, opI, guardI, callvdI, invdI, plaindI, opdI, guarddI, opE, o1, o2, ix2, loadE, storeE, boxE, allLen, bslE, buildE, fits, fldE, ixsE, ixaE, ixvE, fldvE, lenE, lensE, srcE, appE, bnd2, bndL, bndH, bnd0, bndE, slcE, slcC, pickE, allocE, nilchkE, isNilSV, ibinE, ibin, ishfE, ishf, eqnilE, eqbE, notE, negE, cviE, mkslE, mxE, mnE, extE, isNilSl, isNilFn, isNilIf, isNilO, eqniloE, eqsF, eqsE, cellsEq, cellEq, sbinE, sbin, ifcOf, tasF, tasE, cellsSV, cellsAll, layO, mkEnv, lk, hget_zero, hget_succ, putE, uphO, uph, uphL, evX, rdsX, uIds, List.map_cons, List.map_nil, List.length_cons, List.length_nil, List.length_append, List.length_map, List.length_set, List.set_cons_zero, List.set_cons_succ, List.cons_append, List.nil_append, List.append_nil, List.getElem?_cons_zero, List.getElem?_cons_succ, List.getElem?_nil, List.take_succ_cons, List.take_zero, List.drop_succ_cons, List.drop_zero, List.drop_nil, List.take_nil, Option.getD_some, Option.getD_none, Option.map_some, Option.map_none, true_and, and_true, ↓reduceIte, Nat.reduceEqDiff, Nat.reduceAdd, Nat.reduceSub, Nat.reduceMul, Nat.reduceLeDiff, Nat.reduceLT, Nat.zero_add, Nat.add_zero, decide_eq_true_eq, Bool.false_eq_true, reduceCtorEq, rvs_len, rvs_get, rvs_fold, rvs_take, rvs_append, Int.toNat_natCast, bneTT, bneTF, bneFT, bneFF, Bool.not_true, Bool.not_false, splice0, slcaE, clrE, chunks]
  refine g_call0 (sp25 x) ?_
  simp -implicitDefEqProofs only [g_nil, g_skip, g_reg, g_regd, g_seq, g_block, g_end, g_cond, g_ret, g_exit, gx_nil, gx_c, gx_o, gx_d, gx_b, g_onil, g_dnil, g_op, g_opg, g_opd, g_opdg, condI, callvI, invI, plainI, opI, guardI, callvdI, invdI, plaindI, opdI, guarddI, opE, o1, o2, ix2, loadE, storeE, boxE, allLen, bslE, buildE, fits, fldE, ixsE, ixaE, ixvE, fldvE, lenE, lensE, srcE, appE, bnd2, bndL, bndH, bnd0, bndE, slcE, slcC, pickE, allocE, nilchkE, isNilSV, ibinE, ibin, ishfE, ishf, eqnilE, eqbE, notE, negE, cviE, mkslE, mxE, mnE, extE, isNilSl, isNilFn, isNilIf, isNilO, eqniloE, eqsF, eqsE, cellsEq, cellEq, sbinE, sbin, ifcOf, tasF, tasE, cellsSV, cellsAll, layO, mkEnv, lk, hget_zero, hget_succ, putE, uphO, uph, uphL, evX, rdsX, uIds, List.map_cons, List.map_nil, List.length_cons, List.length_nil, List.length_append, List.length_map, List.length_set, List.set_cons_zero, List.set_cons_succ, List.cons_append, List.nil_append, List.append_nil, List.getElem?_cons_zero, List.getElem?_cons_succ, List.getElem?_nil, List.take_succ_cons, List.take_zero, List.drop_succ_cons, List.drop_zero, List.drop_nil, List.take_nil, Option.getD_some, Option.getD_none, Option.map_some, Option.map_none, true_and, and_true, ↓reduceIte, Nat.reduceEqDiff, Nat.reduceAdd, Nat.reduceSub, Nat.reduceMul, Nat.reduceLeDiff, Nat.reduceLT, Nat.zero_add, Nat.add_zero, decide_eq_true_eq, Bool.false_eq_true, reduceCtorEq, rvs_len, rvs_get, rvs_fold, rvs_take, rvs_append, Int.toNat_natCast, bneTT, bneTF, bneFT, bneFF, Bool.not_true, Bool.not_false, splice0, slcaE, clrE, chunks]
  refine g_call0 (sp25 y) ?_
  simp -implicitDefEqProofs only [g_nil, g_skip, g_reg, g_regd, g_seq, g_block, g_end, g_cond, g_ret, g_exit, gx_nil, gx_c, gx_o, gx_d, gx_b, g_onil, g_dnil, g_op, g_opg, g_opd, g_opdg, condI, callvI, invI, plainI, opI, guardI, callvdI, invdI, plaindI, opdI, guarddI, opE, o1, o2, ix2, loadE, storeE, boxE, allLen, bslE, buildE, fits, fldE, ixsE, ixaE, ixvE, fldvE, lenE, lensE, srcE, appE, bnd2, bndL, bndH, bnd0, bndE, slcE, slcC, pickE, allocE, nilchkE, isNilSV, ibinE, ibin, ishfE, ishf, eqnilE, eqbE, notE, negE, cviE, mkslE, mxE, mnE, extE, isNilSl, isNilFn, isNilIf, isNilO, eqniloE, eqsF, eqsE, cellsEq, cellEq, sbinE, sbin, ifcOf, tasF, tasE, cellsSV, cellsAll, layO, mkEnv, lk, hget_zero, hget_succ, putE, uphO, uph, uphL, evX, rdsX, uIds, List.map_cons, List.map_nil, List.length_cons, List.length_nil, List.length_append, List.length_map, List.length_set, List.set_cons_zero, List.set_cons_succ, List.cons_append, List.nil_append, List.append_nil, List.getElem?_cons_zero, List.getElem?_cons_succ, List.getElem?_nil, List.take_succ_cons, List.take_zero, List.drop_succ_cons, List.drop_zero, List.drop_nil, List.take_nil, Option.getD_some, Option.getD_none, Option.map_some, Option.map_none, true_and, and_true, ↓reduceIte, Nat.reduceEqDiff, Nat.reduceAdd, Nat.reduceSub, Nat.reduceMul, Nat.reduceLeDiff, Nat.reduceLT, Nat.zero_add, Nat.add_zero, decide_eq_true_eq, Bool.false_eq_true, reduceCtorEq, rvs_len, rvs_get, rvs_fold, rvs_take, rvs_append, Int.toNat_natCast, bneTT, bneTF, bneFT, bneFF, Bool.not_true, Bool.not_false, splice0, slcaE, clrE, chunks]
  split
  · refine (hK _ _ ?_).2
    simp [resL, retP, lk, resT, rn_rv, cmpI, *]
  split
  · refine (hK _ _ ?_).2
    simp [resL, retP, lk, resT, rn_rv, cmpI, *]
  · refine (hK _ _ ?_).2
    simp [resL, retP, lk, resT, rn_rv, cmpI, *]

def intL (ys : List Int) : List (List RV) := ys.map fun n => [.int .i64 n]

def orF : List Int → Int
  | [] => 0
  | n :: r => if n ≠ 0 then n else orF r

theorem orF_at {ys : List Int} {k : Nat} (hk : k < ys.length) (h0 : ∀ j, j < k → ys[j]? = some 0) (hn : ys[k] ≠ 0) : orF ys = ys[k] := by
  induction ys generalizing k with
  | nil => simp at hk
  | cons a r ih =>
    cases k with
    | zero => simp at hn; simp [orF, hn]
    | succ k =>
      have := h0 0 (by omega)
      simp at this
      subst this
      simp -implicitDefEqProofs only [orF, ne_eq, not_true_eq_false, ↓reduceIte, List.getElem_cons_succ]
      exact ih (by simpa using hk) (fun j hj => by simpa using h0 (j + 1) (by omega)) (by simpa using hn)

theorem orF_none {ys : List Int} (h0 : ∀ j, j < ys.length → ys[j]? = some 0) : orF ys = 0 := by
  induction ys with
  | nil => rfl
  | cons a r ih =>
    have := h0 0 (by simp)
    simp at this
    subst this
    simp -implicitDefEqProofs only [orF, ne_eq, not_true_eq_false, ↓reduceIte]
    exact ih (fun j hj => by simpa using h0 (j + 1) (by simpa using hj))

theorem sp18 (ys : List Int) (hl : ys.length < 1000000) : CallR Go.Proofs.Try.prog 18 [.rv (.sl 1 (intL ys))] [] [] (.rv (.int .i64 (orF ys))) := by
  have hlen : (intL ys).length = ys.length := by simp [intL]
  refine callR_F k18 [.sl 1 (intL ys)] _ (by simp) (fun K hK => ?_)
  simp -implicitDefEqProofs only [c18, hlen, g_nil, g_skip, g_reg, g_regd, g_seq, g_block, g_end, g_cond, g_ret, g_exit, gx_nil, gx_c, gx_o, gx_d, gx_b, g_onil, g_dnil, g_op, g_opg, g_opd, g_opdg, condI, callvI, invI, plainI, opI, guardI, callvdI, invdI, plaindI, opdI, guarddI, opE, o1, o2, ix2, loadE, storeE, boxE, allLen, bslE, buildE, fits, fldE, ixsE, ixaE, ixvE, fldvE, lenE, lensE, srcE, appE, bnd2, bndL, bndH, bnd0, bndE, slcE, slcC, pickE, allocE, nilchkE, isNilSV, ibinE, ibin, ishfE, ishf, eqnilE, eqbE, notE, negE, cviE, mkslE, mxE, mnE, extE, isNilSl, isNilFn, isNilIf, isNilO, eqniloE, eqsF, eqsE, cellsEq, cellEq, sbinE, sbin, ifcOf, tasF, tasE, cellsSV, cellsAll, layO, mkEnv, lk, hget_zero, hget_succ, putE, uphO, uph, uphL, evX, rdsX, uIds, List.map_cons, List.map_nil, List.length_cons, List.length_nil, List.length_append, List.length_map, List.length_set, List.set_cons_zero, List.set_cons_succ, List.cons_append, List.nil_append, List.append_nil, List.getElem?_cons_zero, List.getElem?_cons_succ, List.getElem?_nil, List.take_succ_cons, List.take_zero, List.drop_succ_cons, List.drop_zero, List.drop_nil, List.take_nil, Option.getD_some, Option.getD_none, Option.map_some, Option.map_none, true_and, and_true, ↓reduceIte, Nat.reduceEqDiff, Nat.reduceAdd, Nat.reduceSub, Nat.reduceMul, Nat.reduceLeDiff, Nat.reduceLT, Nat.zero_add, Nat.add_zero, decide_eq_true_eq, Bool.false_eq_true, reduceCtorEq, rvs_len, rvs_get, rvs_fold, rvs_take, rvs_append, Int.toNat_natCast, bneTT, bneTF, bneFT, bneFF, Bool.not_true, Bool.not_false, splice0, slcaE, clrE, chunks]
  refine g_loop (ι := Nat) (fun k => [(8, .rv (.int .i64 k)), (7, .rv (.int .i64 ys.length)), (6, .rv (.sl 1 (intL ys))), (3, .rv (.int .i64 0))]) (fun _ => []) (fun k => k ≤ ys.length ∧ ∀ j, j < k → ys[j]? = some 0) (fun k => ys.length - k) 0 (by simp) (ent_env (by simp [lk])) (fun k hk K' hn he hr => ?_)
  simp -implicitDefEqProofs only [hlen, g_nil, g_skip, g_reg, g_regd, g_seq, g_block, g_end, g_cond, g_ret, g_exit, gx_nil, gx_c, gx_o, gx_d, gx_b, g_onil, g_dnil, g_op, g_opg, g_opd, g_opdg, condI, callvI, invI, plainI, opI, guardI, callvdI, invdI, plaindI, opdI, guarddI, opE, o1, o2, ix2, loadE, storeE, boxE, allLen, bslE, buildE, fits, fldE, ixsE, ixaE, ixvE, fldvE, lenE, lensE, srcE, appE, bnd2, bndL, bndH, bnd0, bndE, slcE, slcC, pickE, allocE, nilchkE, isNilSV, ibinE, ibin, ishfE, ishf, eqnilE, eqbE, notE, negE, cviE, mkslE, mxE, mnE, extE, isNilSl, isNilFn, isNilIf, isNilO, eqniloE, eqsF, eqsE, cellsEq, cellEq, sbinE, sbin, ifcOf, tasF, tasE, cellsSV, cellsAll, layO, mkEnv, lk, hget_zero, hget_succ, putE, uphO, uph, uphL, evX, rdsX, uIds, List.map_cons, List.map_nil, List.length_cons, List.length_nil, List.length_append, List.length_map, List.length_set, List.set_cons_zero, List.set_cons_succ, List.cons_append, List.nil_append, List.append_nil, List.getElem?_cons_zero, List.getElem?_cons_succ, List.getElem?_nil, List.take_succ_cons, List.take_zero, List.drop_succ_cons, List.drop_zero, List.drop_nil, List.take_nil, Option.getD_some, Option.getD_none, Option.map_some, Option.map_none, true_and, and_true, ↓reduceIte, Nat.reduceEqDiff, Nat.reduceAdd, Nat.reduceSub, Nat.reduceMul, Nat.reduceLeDiff, Nat.reduceLT, Nat.zero_add, Nat.add_zero, decide_eq_true_eq, Bool.false_eq_true, reduceCtorEq, rvs_len, rvs_get, rvs_fold, rvs_take, rvs_append, Int.toNat_natCast, bneTT, bneTF, bneFT, bneFF, Bool.not_true, Bool.not_false, splice0, slcaE, clrE, chunks]
  split
  · rename_i hlt
    have hkl : k < ys.length := by omega
    have hx : (intL ys)[k]?.getD [] = [.int .i64 ys[k]] := by simp [intL, hkl]
    simp -implicitDefEqProofs only [hx, hlen, g_nil, g_skip, g_reg, g_regd, g_seq, g_block, g_end, g_cond, g_ret, g_exit, gx_nil, gx_c, gx_o, gx_d, gx_b, g_onil, g_dnil, g_op, g_opg, g_opd, g_opdg, condI, callvI, invI, plainI, opI, guardI, callvdI, invdI, plaindI, opdI, guarddI, opE, o1, o2, ix2, loadE, storeE, boxE, allLen, bslE, buildE, fits, fldE, ixsE, ixaE, ixvE, fldvE, lenE, lensE, srcE, appE, bnd2, bndL, bndH, bnd0, bndE, slcE, slcC, pickE, allocE, nilchkE, isNilSV, ibinE, ibin, ishfE, ishf, eqnilE, eqbE, notE, negE, cviE, mkslE, mxE, mnE, extE, isNilSl, isNilFn, isNilIf, isNilO, eqniloE, eqsF, eqsE, cellsEq, cellEq, sbinE, sbin, ifcOf, tasF, tasE, cellsSV, cellsAll, layO, mkEnv, lk, hget_zero, hget_succ, putE, uphO, uph, uphL, evX, rdsX, uIds, List.map_cons, List.map_nil, List.length_cons, List.length_nil, List.length_append, List.length_map, List.length_set, List.set_cons_zero, List.set_cons_succ, List.cons_append, List.nil_append, List.append_nil, List.getElem?_cons_zero, List.getElem?_cons_succ, List.getElem?_nil, List.take_succ_cons, List.take_zero, List.drop_succ_cons, List.drop_zero, List.drop_nil, List.take_nil, Option.getD_some, Option.getD_none, Option.map_some, Option.map_none, true_and, and_true, ↓reduceIte, Nat.reduceEqDiff, Nat.reduceAdd, Nat.reduceSub, Nat.reduceMul, Nat.reduceLeDiff, Nat.reduceLT, Nat.zero_add, Nat.add_zero, decide_eq_true_eq, Bool.false_eq_true, reduceCtorEq, rvs_len, rvs_get, rvs_fold, rvs_take, rvs_append, Int.toNat_natCast, bneTT, bneTF, bneFT, bneFF, Bool.not_true, Bool.not_false, splice0, slcaE, clrE, chunks]
    refine ⟨by omega, ?_⟩
    by_cases h0 : ys[k] = 0
    · simp -implicitDefEqProofs only [h0, g_nil, g_skip, g_reg, g_regd, g_seq, g_block, g_end, g_cond, g_ret, g_exit, gx_nil, gx_c, gx_o, gx_d, gx_b, g_onil, g_dnil, g_op, g_opg, g_opd, g_opdg, condI, callvI, invI, plainI, opI, guardI, callvdI, invdI, plaindI, opdI, guarddI, opE, o1, o2, ix2, loadE, storeE, boxE, allLen, bslE, buildE, fits, fldE, ixsE, ixaE, ixvE, fldvE, lenE, lensE, srcE, appE, bnd2, bndL, bndH, bnd0, bndE, slcE, slcC, pickE, allocE, nilchkE, isNilSV, ibinE, ibin, ishfE, ishf, eqnilE, eqbE, notE, negE, cviE, mkslE, mxE, mnE, extE, isNilSl, isNilFn, isNilIf, isNilO, eqniloE, eqsF, eqsE, cellsEq, cellEq, sbinE, sbin, ifcOf, tasF, tasE, cellsSV, cellsAll, layO, mkEnv, lk, hget_zero, hget_succ, putE, uphO, uph, uphL, evX, rdsX, uIds, List.map_cons, List.map_nil, List.length_cons, List.length_nil, List.length_append, List.length_map, List.length_set, List.set_cons_zero, List.set_cons_succ, List.cons_append, List.nil_append, List.append_nil, List.getElem?_cons_zero, List.getElem?_cons_succ, List.getElem?_nil, List.take_succ_cons, List.take_zero, List.drop_succ_cons, List.drop_zero, List.drop_nil, List.take_nil, Option.getD_some, Option.getD_none, Option.map_some, Option.map_none, true_and, and_true, ↓reduceIte, Nat.reduceEqDiff, Nat.reduceAdd, Nat.reduceSub, Nat.reduceMul, Nat.reduceLeDiff, Nat.reduceLT, Nat.zero_add, Nat.add_zero, decide_eq_true_eq, Bool.false_eq_true, reduceCtorEq, rvs_len, rvs_get, rvs_fold, rvs_take, rvs_append, Int.toNat_natCast, bneTT, bneTF, bneFT, bneFF, Bool.not_true, Bool.not_false, splice0, slcaE, clrE, chunks]
      refine g_noent ?_
      simp -implicitDefEqProofs only [g_nil, g_skip, g_reg, g_regd, g_seq, g_block, g_end, g_cond, g_ret, g_exit, gx_nil, gx_c, gx_o, gx_d, gx_b, g_onil, g_dnil, g_op, g_opg, g_opd, g_opdg, condI, callvI, invI, plainI, opI, guardI, callvdI, invdI, plaindI, opdI, guarddI, opE, o1, o2, ix2, loadE, storeE, boxE, allLen, bslE, buildE, fits, fldE, ixsE, ixaE, ixvE, fldvE, lenE, lensE, srcE, appE, bnd2, bndL, bndH, bnd0, bndE, slcE, slcC, pickE, allocE, nilchkE, isNilSV, ibinE, ibin, ishfE, ishf, eqnilE, eqbE, notE, negE, cviE, mkslE, mxE, mnE, extE, isNilSl, isNilFn, isNilIf, isNilO, eqniloE, eqsF, eqsE, cellsEq, cellEq, sbinE, sbin, ifcOf, tasF, tasE, cellsSV, cellsAll, layO, mkEnv, lk, hget_zero, hget_succ, putE, uphO, uph, uphL, evX, rdsX, uIds, List.map_cons, List.map_nil, List.length_cons, List.length_nil, List.length_append, List.length_map, List.length_set, List.set_cons_zero, List.set_cons_succ, List.cons_append, List.nil_append, List.append_nil, List.getElem?_cons_zero, List.getElem?_cons_succ, List.getElem?_nil, List.take_succ_cons, List.take_zero, List.drop_succ_cons, List.drop_zero, List.drop_nil, List.take_nil, Option.getD_some, Option.getD_none, Option.map_some, Option.map_none, true_and, and_true, ↓reduceIte, Nat.reduceEqDiff, Nat.reduceAdd, Nat.reduceSub, Nat.reduceMul, Nat.reduceLeDiff, Nat.reduceLT, Nat.zero_add, Nat.add_zero, decide_eq_true_eq, Bool.false_eq_true, reduceCtorEq, rvs_len, rvs_get, rvs_fold, rvs_take, rvs_append, Int.toNat_natCast, bneTT, bneTF, bneFT, bneFF, Bool.not_true, Bool.not_false, splice0, slcaE, clrE, chunks]
      rw [wrap_i64 (by omega) (by omega)]
      refine hn (k + 1) _ _ ⟨by omega, fun j hj => ?_⟩ (by omega) (ent_env (by simp [lk]))
      by_cases hjk : j = k
      · subst hjk; rw [List.getElem?_eq_getElem hkl, h0]
      · exact hk.2 j (by omega)
    · have hb : (ys[k] != 0) = true := by simp [h0]
      simp -implicitDefEqProofs only [hb, g_nil, g_skip, g_reg, g_regd, g_seq, g_block, g_end, g_cond, g_ret, g_exit, gx_nil, gx_c, gx_o, gx_d, gx_b, g_onil, g_dnil, g_op, g_opg, g_opd, g_opdg, condI, callvI, invI, plainI, opI, guardI, callvdI, invdI, plaindI, opdI, guarddI, opE, o1, o2, ix2, loadE, storeE, boxE, allLen, bslE, buildE, fits, fldE, ixsE, ixaE, ixvE, fldvE, lenE, lensE, srcE, appE, bnd2, bndL, bndH, bnd0, bndE, slcE, slcC, pickE, allocE, nilchkE, isNilSV, ibinE, ibin, ishfE, ishf, eqnilE, eqbE, notE, negE, cviE, mkslE, mxE, mnE, extE, isNilSl, isNilFn, isNilIf, isNilO, eqniloE, eqsF, eqsE, cellsEq, cellEq, sbinE, sbin, ifcOf, tasF, tasE, cellsSV, cellsAll, layO, mkEnv, lk, hget_zero, hget_succ, putE, uphO, uph, uphL, evX, rdsX, uIds, List.map_cons, List.map_nil, List.length_cons, List.length_nil, List.length_append, List.length_map, List.length_set, List.set_cons_zero, List.set_cons_succ, List.cons_append, List.nil_append, List.append_nil, List.getElem?_cons_zero, List.getElem?_cons_succ, List.getElem?_nil, List.take_succ_cons, List.take_zero, List.drop_succ_cons, List.drop_zero, List.drop_nil, List.take_nil, Option.getD_some, Option.getD_none, Option.map_some, Option.map_none, true_and, and_true, ↓reduceIte, Nat.reduceEqDiff, Nat.reduceAdd, Nat.reduceSub, Nat.reduceMul, Nat.reduceLeDiff, Nat.reduceLT, Nat.zero_add, Nat.add_zero, decide_eq_true_eq, Bool.false_eq_true, reduceCtorEq, rvs_len, rvs_get, rvs_fold, rvs_take, rvs_append, Int.toNat_natCast, bneTT, bneTF, bneFT, bneFF, Bool.not_true, Bool.not_false, splice0, slcaE, clrE, chunks]
      refine hr _ _ ((hK _ _ ?_).2)
      simp [resL, retP, lk, resT, rn_rv, orF_at hkl hk.2 h0]
  · rename_i hge
    refine he _ _ _ ?_
    simp -implicitDefEqProofs only [g_nil, g_skip, g_reg, g_regd, g_seq, g_block, g_end, g_cond, g_ret, g_exit, gx_nil, gx_c, gx_o, gx_d, gx_b, g_onil, g_dnil, g_op, g_opg, g_opd, g_opdg, condI, callvI, invI, plainI, opI, guardI, callvdI, invdI, plaindI, opdI, guarddI, opE, o1, o2, ix2, loadE, storeE, boxE, allLen, bslE, buildE, fits, fldE, ixsE, ixaE, ixvE, fldvE, lenE, lensE, srcE, appE, bnd2, bndL, bndH, bnd0, bndE, slcE, slcC, pickE, allocE, nilchkE, isNilSV, ibinE, ibin, ishfE, ishf, eqnilE, eqbE, notE, negE, cviE, mkslE, mxE, mnE, extE, isNilSl, isNilFn, isNilIf, isNilO, eqniloE, eqsF, eqsE, cellsEq, cellEq, sbinE, sbin, ifcOf, tasF, tasE, cellsSV, cellsAll, layO, mkEnv, lk, hget_zero, hget_succ, putE, uphO, uph, uphL, evX, rdsX, uIds, List.map_cons, List.map_nil, List.length_cons, List.length_nil, List.length_append, List.length_map, List.length_set, List.set_cons_zero, List.set_cons_succ, List.cons_append, List.nil_append, List.append_nil, List.getElem?_cons_zero, List.getElem?_cons_succ, List.getElem?_nil, List.take_succ_cons, List.take_zero, List.drop_succ_cons, List.drop_zero, List.drop_nil, List.take_nil, Option.getD_some, Option.getD_none, Option.map_some, Option.map_none, true_and, and_true, ↓reduceIte, Nat.reduceEqDiff, Nat.reduceAdd, Nat.reduceSub, Nat.reduceMul, Nat.reduceLeDiff, Nat.reduceLT, Nat.zero_add, Nat.add_zero, decide_eq_true_eq, Bool.false_eq_true, reduceCtorEq, rvs_len, rvs_get, rvs_fold, rvs_take, rvs_append, Int.toNat_natCast, bneTT, bneTF, bneFT, bneFF, Bool.not_true, Bool.not_false, splice0, slcaE, clrE, chunks]
    refine g_noent ?_
    simp -implicitDefEqProofs only [g_nil, g_skip, g_reg, g_regd, g_seq, g_block, g_end, g_cond, g_ret, g_exit, gx_nil, gx_c, gx_o, gx_d, gx_b, g_onil, g_dnil, g_op, g_opg, g_opd, g_opdg, condI, callvI, invI, plainI, opI, guardI, callvdI, invdI, plaindI, opdI, guarddI, opE, o1, o2, ix2, loadE, storeE, boxE, allLen, bslE, buildE, fits, fldE, ixsE, ixaE, ixvE, fldvE, lenE, lensE, srcE, appE, bnd2, bndL, bndH, bnd0, bndE, slcE, slcC, pickE, allocE, nilchkE, isNilSV, ibinE, ibin, ishfE, ishf, eqnilE, eqbE, notE, negE, cviE, mkslE, mxE, mnE, extE, isNilSl, isNilFn, isNilIf, isNilO, eqniloE, eqsF, eqsE, cellsEq, cellEq, sbinE, sbin, ifcOf, tasF, tasE, cellsSV, cellsAll, layO, mkEnv, lk, hget_zero, hget_succ, putE, uphO, uph, uphL, evX, rdsX, uIds, List.map_cons, List.map_nil, List.length_cons, List.length_nil, List.length_append, List.length_map, List.length_set, List.set_cons_zero, List.set_cons_succ, List.cons_append, List.nil_append, List.append_nil, List.getElem?_cons_zero, List.getElem?_cons_succ, List.getElem?_nil, List.take_succ_cons, List.take_zero, List.drop_succ_cons, List.drop_zero, List.drop_nil, List.take_nil, Option.getD_some, Option.getD_none, Option.map_some, Option.map_none, true_and, and_true, ↓reduceIte, Nat.reduceEqDiff, Nat.reduceAdd, Nat.reduceSub, Nat.reduceMul, Nat.reduceLeDiff, Nat.reduceLT, Nat.zero_add, Nat.add_zero, decide_eq_true_eq, Bool.false_eq_true, reduceCtorEq, rvs_len, rvs_get, rvs_fold, rvs_take, rvs_append, Int.toNat_natCast, bneTT, bneTF, bneFT, bneFF, Bool.not_true, Bool.not_false, splice0, slcaE, clrE, chunks]
    refine (hK _ _ ?_).2
    have : k = ys.length := by omega
    subst this
    simp [resL, retP, lk, resT, rn_rv, orF_none hk.2]

def cmpE (a b : Ent3) : Int := orF [cmpI a.key b.key, cmpI a.tie b.tie, cmpI a.n b.n]

theorem sp8 (a b : Ent3) : CallR Go.Proofs.Try.prog 8 [a.sv, b.sv] [] [] (.rv (.int .i64 (cmpE a b))) := by
  refine callR_M k8 [] [] [] [a.sv, b.sv] [a.sv, b.sv] [] _ (by simp) (by simp [BkAll, Ent3.sv, bk_agg, bk_rv]) rfl (by simp [nodupL]) (by simp [BkHs]) (fun K hK => ?_)
  simp -implicitDefEqProofs only [c8, Ent3.sv, g_nil, g_skip, g_reg, g_regd, g_seq, g_block, g_end, g_cond, g_ret, g_exit, gx_nil, gx_c, gx_o, gx_d, gx_b, g_onil, g_dnil, g_op, g_opg, g_opd, g_opdg, condI, callvI, invI, plainI, opI, guardI, callvdI, invdI, plaindI, opdI, guarddI, opE, o1, o2, ix2, loadE, storeE, boxE, allLen, bslE, buildE, fits, fldE, ixsE, ixaE, ixvE, fldvE, lenE, lensE, srcE, appE, bnd2, bndL, bndH, bnd0, bndE, slcE, slcC, pickE, allocE, nilchkE, isNilSV, ibinE, ibin, ishfE, ishf, eqnilE, eqbE, notE, negE, cviE, mkslE, mxE, mnE, extE, isNilSl, isNilFn, isNilIf, isNilO, eqniloE, eqsF, eqsE, cellsEq, cellEq, sbinE, sbin, ifcOf, tasF, tasE, cellsSV, cellsAll, layO, mkEnv, lk, hget_zero, hget_succ, putE, uphO, uph, uphL, evX, rdsX, uIds, List.map_cons, List.map_nil, List.length_cons, List.length_nil, List.length_append, List.length_map, List.length_set, List.set_cons_zero, List.set_cons_succ, List.cons_append, List.nil_append, List.append_nil, List.getElem?_cons_zero, List.getElem?_cons_succ, List.getElem?_nil, List.take_succ_cons, List.take_zero, List.drop_succ_cons, List.drop_zero, List.drop_nil, List.take_nil, Option.getD_some, Option.getD_none, Option.map_some, Option.map_none, true_and, and_true, ↓reduceIte, Nat.reduceEqDiff, Nat.reduceAdd, Nat.reduceSub, Nat.reduceMul, Nat.reduceLeDiff, Nat.reduceLT, Nat.zero_add, Nat.add_zero, decide_eq_true_eq, Bool.false_eq_true, reduceCtorEq, rvs_len, rvs_get, rvs_fold, rvs_take, rvs_append, Int.toNat_natCast, bneTT, bneTF, bneFT, bneFF, Bool.not_true, Bool.not_false, splice0, slcaE, clrE, chunks]
  refine g_calld0 (sp19 a.key b.key) ?_
  simp -implicitDefEqProofs only [g_nil, g_skip, g_reg, g_regd, g_seq, g_block, g_end, g_cond, g_ret, g_exit, gx_nil, gx_c, gx_o, gx_d, gx_b, g_onil, g_dnil, g_op, g_opg, g_opd, g_opdg, condI, callvI, invI, plainI, opI, guardI, callvdI, invdI, plaindI, opdI, guarddI, opE, o1, o2, ix2, loadE, storeE, boxE, allLen, bslE, buildE, fits, fldE, ixsE, ixaE, ixvE, fldvE, lenE, lensE, srcE, appE, bnd2, bndL, bndH, bnd0, bndE, slcE, slcC, pickE, allocE, nilchkE, isNilSV, ibinE, ibin, ishfE, ishf, eqnilE, eqbE, notE, negE, cviE, mkslE, mxE, mnE, extE, isNilSl, isNilFn, isNilIf, isNilO, eqniloE, eqsF, eqsE, cellsEq, cellEq, sbinE, sbin, ifcOf, tasF, tasE, cellsSV, cellsAll, layO, mkEnv, lk, hget_zero, hget_succ, putE, uphO, uph, uphL, evX, rdsX, uIds, List.map_cons, List.map_nil, List.length_cons, List.length_nil, List.length_append, List.length_map, List.length_set, List.set_cons_zero, List.set_cons_succ, List.cons_append, List.nil_append, List.append_nil, List.getElem?_cons_zero, List.getElem?_cons_succ, List.getElem?_nil, List.take_succ_cons, List.take_zero, List.drop_succ_cons, List.drop_zero, List.drop_nil, List.take_nil, Option.getD_some, Option.getD_none, Option.map_some, Option.map_none, true_and, and_true, ↓reduceIte, Nat.reduceEqDiff, Nat.reduceAdd, Nat.reduceSub, Nat.reduceMul, Nat.reduceLeDiff, Nat.reduceLT, Nat.zero_add, Nat.add_zero, decide_eq_true_eq, Bool.false_eq_true, reduceCtorEq, rvs_len, rvs_get, rvs_fold, rvs_take, rvs_append, Int.toNat_natCast, bneTT, bneTF, bneFT, bneFF, Bool.not_true, Bool.not_false, splice0, slcaE, clrE, chunks]
  refine g_calld0 (sp19 a.tie b.tie) ?_
  simp -implicitDefEqProofs only [g_nil, g_skip, g_reg, g_regd, g_seq, g_block, g_end, g_cond, g_ret, g_exit, gx_nil, gx_c, gx_o, gx_d, gx_b, g_onil, g_dnil, g_op, g_opg, g_opd, g_opdg, condI, callvI, invI, plainI, opI, guardI, callvdI, invdI, plaindI, opdI, guarddI, opE, o1, o2, ix2, loadE, storeE, boxE, allLen, bslE, buildE, fits, fldE, ixsE, ixaE, ixvE, fldvE, lenE, lensE, srcE, appE, bnd2, bndL, bndH, bnd0, bndE, slcE, slcC, pickE, allocE, nilchkE, isNilSV, ibinE, ibin, ishfE, ishf, eqnilE, eqbE, notE, negE, cviE, mkslE, mxE, mnE, extE, isNilSl, isNilFn, isNilIf, isNilO, eqniloE, eqsF, eqsE, cellsEq, cellEq, sbinE, sbin, ifcOf, tasF, tasE, cellsSV, cellsAll, layO, mkEnv, lk, hget_zero, hget_succ, putE, uphO, uph, uphL, evX, rdsX, uIds, List.map_cons, List.map_nil, List.length_cons, List.length_nil, List.length_append, List.length_map, List.length_set, List.set_cons_zero, List.set_cons_succ, List.cons_append, List.nil_append, List.append_nil, List.getElem?_cons_zero, List.getElem?_cons_succ, List.getElem?_nil, List.take_succ_cons, List.take_zero, List.drop_succ_cons, List.drop_zero, List.drop_nil, List.take_nil, Option.getD_some, Option.getD_none, Option.map_some, Option.map_none, true_and, and_true, ↓reduceIte, Nat.reduceEqDiff, Nat.reduceAdd, Nat.reduceSub, Nat.reduceMul, Nat.reduceLeDiff, Nat.reduceLT, Nat.zero_add, Nat.add_zero, decide_eq_true_eq, Bool.false_eq_true, reduceCtorEq, rvs_len, rvs_get, rvs_fold, rvs_take, rvs_append, Int.toNat_natCast, bneTT, bneTF, bneFT, bneFF, Bool.not_true, Bool.not_false, splice0, slcaE, clrE, chunks]
  refine g_calld0 (sp20 a.n b.n) ?_
  simp -implicitDefEqProofs only [g_nil, g_skip, g_reg, g_regd, g_seq, g_block, g_end, g_cond, g_ret, g_exit, gx_nil, gx_c, gx_o, gx_d, gx_b, g_onil, g_dnil, g_op, g_opg, g_opd, g_opdg, condI, callvI, invI, plainI, opI, guardI, callvdI, invdI, plaindI, opdI, guarddI, opE, o1, o2, ix2, loadE, storeE, boxE, allLen, bslE, buildE, fits, fldE, ixsE, ixaE, ixvE, fldvE, lenE, lensE, srcE, appE, bnd2, bndL, bndH, bnd0, bndE, slcE, slcC, pickE, allocE, nilchkE, isNilSV, ibinE, ibin, ishfE, ishf, eqnilE, eqbE, notE, negE, cviE, mkslE, mxE, mnE, extE, isNilSl, isNilFn, isNilIf, isNilO, eqniloE, eqsF, eqsE, cellsEq, cellEq, sbinE, sbin, ifcOf, tasF, tasE, cellsSV, cellsAll, layO, mkEnv, lk, hget_zero, hget_succ, putE, uphO, uph, uphL, evX, rdsX, uIds, List.map_cons, List.map_nil, List.length_cons, List.length_nil, List.length_append, List.length_map, List.length_set, List.set_cons_zero, List.set_cons_succ, List.cons_append, List.nil_append, List.append_nil, List.getElem?_cons_zero, List.getElem?_cons_succ, List.getElem?_nil, List.take_succ_cons, List.take_zero, List.drop_succ_cons, List.drop_zero, List.drop_nil, List.take_nil, Option.getD_some, Option.getD_none, Option.map_some, Option.map_none, true_and, and_true, ↓reduceIte, Nat.reduceEqDiff, Nat.reduceAdd, Nat.reduceSub, Nat.reduceMul, Nat.reduceLeDiff, Nat.reduceLT, Nat.zero_add, Nat.add_zero, decide_eq_true_eq, Bool.false_eq_true, reduceCtorEq, rvs_len, rvs_get, rvs_fold, rvs_take, rvs_append, Int.toNat_natCast, bneTT, bneTF, bneFT, bneFF, Bool.not_true, Bool.not_false, splice0, slcaE, clrE, chunks]
  refine g_calld (pre := [(2, .row 1 0 (rvs [[.int .i64 (cmpI a.key b.key)], [.int .i64 (cmpI a.tie b.tie)], [.int .i64 (cmpI a.n b.n)]]))]) (us := []) (callR_lend (rs := [.sl 1 (intL [cmpI a.key b.key, cmpI a.tie b.tie, cmpI a.n b.n])]) (sp18 [cmpI a.key b.key, cmpI a.tie b.tie, cmpI a.n b.n] (by simp)) (fun hp hpre => ⟨fz_row (len := 3) (hpre _ (.head _)) rfl (by simp) (by simp [RV.one]), trivial⟩) rfl (.rv _ (.int _ _)) (by simp)) (by simp [PreOK, hget, rvs]) trivial ?_
  simp -implicitDefEqProofs only [g_nil, g_skip, g_reg, g_regd, g_seq, g_block, g_end, g_cond, g_ret, g_exit, gx_nil, gx_c, gx_o, gx_d, gx_b, g_onil, g_dnil, g_op, g_opg, g_opd, g_opdg, condI, callvI, invI, plainI, opI, guardI, callvdI, invdI, plaindI, opdI, guarddI, opE, o1, o2, ix2, loadE, storeE, boxE, allLen, bslE, buildE, fits, fldE, ixsE, ixaE, ixvE, fldvE, lenE, lensE, srcE, appE, bnd2, bndL, bndH, bnd0, bndE, slcE, slcC, pickE, allocE, nilchkE, isNilSV, ibinE, ibin, ishfE, ishf, eqnilE, eqbE, notE, negE, cviE, mkslE, mxE, mnE, extE, isNilSl, isNilFn, isNilIf, isNilO, eqniloE, eqsF, eqsE, cellsEq, cellEq, sbinE, sbin, ifcOf, tasF, tasE, cellsSV, cellsAll, layO, mkEnv, lk, hget_zero, hget_succ, putE, uphO, uph, uphL, evX, rdsX, uIds, List.map_cons, List.map_nil, List.length_cons, List.length_nil, List.length_append, List.length_map, List.length_set, List.set_cons_zero, List.set_cons_succ, List.cons_append, List.nil_append, List.append_nil, List.getElem?_cons_zero, List.getElem?_cons_succ, List.getElem?_nil, List.take_succ_cons, List.take_zero, List.drop_succ_cons, List.drop_zero, List.drop_nil, List.take_nil, Option.getD_some, Option.getD_none, Option.map_some, Option.map_none, true_and, and_true, ↓reduceIte, Nat.reduceEqDiff, Nat.reduceAdd, Nat.reduceSub, Nat.reduceMul, Nat.reduceLeDiff, Nat.reduceLT, Nat.zero_add, Nat.add_zero, decide_eq_true_eq, Bool.false_eq_true, reduceCtorEq, rvs_len, rvs_get, rvs_fold, rvs_take, rvs_append, Int.toNat_natCast, bneTT, bneTF, bneFT, bneFF, Bool.not_true, Bool.not_false, splice0, slcaE, clrE, chunks]
  refine ⟨by decide, ?_⟩
  refine (hK _ _ _ _ [] (ent_refl _ _) ?_).2
  simp [retM, nodupL, newL, allU, keptL, retP, resL, lk, resT, rn_rv, cmpE]

end Go.Eng


/- agenda: the pile. -/
namespace Go.Eng
open Go
/- (decoupage/agenda.pile).Len -/
def c45 : AC := (.seq (.reg [⟨(some 2), .mv, [(.c (.rv (.int .i64 0)))], none⟩]) (.seq (.reg [⟨(some 3), .mv, [(.t 0)], none⟩, ⟨(some 4), .len, [(.t 3)], none⟩, ⟨(some 2), .mv, [(.t 4)], none⟩]) .ret))
theorem k45 : FnOK Go.Proofs.Try.prog 45 5 c45 [(.t 2)] := fnOK_of (by kernel_rfl)

/- (decoupage/agenda.pile).Less -/
def c46 : AC := (.seq (.reg [⟨(some 6), .mv, [(.c (.rv (.bool false)))], none⟩]) (.seq (.regd [0, 0, 3, 7, 0, 0, 48, 112, 255, 511, 1023] [⟨(some 7), .mv, [(.t 0)], none⟩, ⟨(some 8), .mv, [(.t 1)], none⟩, ⟨(some 9), (.ixs 3), [(.t 7), (.t 8)], none⟩, ⟨(some 10), (.load 3 true), [(.t 9)], none⟩, ⟨(some 11), .mv, [(.t 0)], none⟩, ⟨(some 12), .mv, [(.t 2)], none⟩, ⟨(some 13), (.ixs 3), [(.t 11), (.t 12)], none⟩, ⟨(some 14), (.load 3 true), [(.t 13)], none⟩, ⟨(some 15), (.call 8), [(.t 10), (.t 14)], none⟩, ⟨(some 16), (.ibin .lss), [(.t 15), (.c (.rv (.int .i64 0)))], none⟩, ⟨(some 6), .mv, [(.t 16)], none⟩]) .ret))
theorem k46 : FnOK Go.Proofs.Try.prog 46 17 c46 [(.t 6)] := fnOK_of (by kernel_rfl)

/- (decoupage/agenda.pile).Swap -/
def c47 : AC := (.regd [0, 0, 0, 0, 0, 0, 48, 112, 0, 0, 768, 1792, 4083, 8179, 16383, 32767] [⟨(some 6), .mv, [(.t 0)], none⟩, ⟨(some 7), .mv, [(.t 1)], none⟩, ⟨(some 8), .mv, [(.t 0)], none⟩, ⟨(some 9), .mv, [(.t 2)], none⟩, ⟨(some 10), .mv, [(.t 0)], none⟩, ⟨(some 11), .mv, [(.t 2)], none⟩, ⟨(some 12), (.ixs 3), [(.t 10), (.t 11)], none⟩, ⟨(some 13), (.load 3 true), [(.t 12)], none⟩, ⟨(some 14), .mv, [(.t 0)], none⟩, ⟨(some 15), .mv, [(.t 1)], none⟩, ⟨(some 16), (.ixs 3), [(.t 14), (.t 15)], none⟩, ⟨(some 17), (.load 3 true), [(.t 16)], none⟩, ⟨(some 18), (.ixs 3), [(.t 6), (.t 7)], none⟩, ⟨none, (.store 3), [(.t 18), (.t 13)], none⟩, ⟨(some 19), (.ixs 3), [(.t 8), (.t 9)], none⟩, ⟨none, (.store 3), [(.t 19), (.t 17)], none⟩])
theorem k47 : FnOK Go.Proofs.Try.prog 47 20 c47 [] := fnOK_of (by kernel_rfl)

/- (*decoupage/agenda.pile).Pop -/
def c48 : AC := (.seq (.reg [⟨(some 2), .mv, [(.c (.rv .nili))], none⟩]) (.seq (.reg [⟨(some 5), .mv, [(.t 0)], none⟩, ⟨(some 6), .nilchk, [(.t 5)], none⟩, ⟨(some 7), (.load 1 false), [(.t 6)], none⟩, ⟨(some 3), .mv, [(.t 7)], none⟩]) (.seq (.reg [⟨(some 8), .mv, [(.t 3)], none⟩, ⟨(some 9), .mv, [(.t 3)], none⟩, ⟨(some 10), .len, [(.t 9)], none⟩, ⟨(some 11), (.ibin .sub), [(.t 10), (.c (.rv (.int .i64 1)))], none⟩, ⟨(some 12), (.ixs 3), [(.t 8), (.t 11)], none⟩, ⟨(some 13), (.load 3 true), [(.t 12)], none⟩, ⟨(some 4), (.alloc [(.int .i64 0), (.int .i64 0), (.int .i64 0)]), [], none⟩, ⟨none, (.store 3), [(.t 4), (.t 13)], none⟩]) (.seq (.reg [⟨(some 14), .mv, [(.t 0)], none⟩, ⟨(some 15), .mv, [(.t 3)], none⟩, ⟨(some 16), .mv, [(.t 3)], none⟩, ⟨(some 17), .len, [(.t 16)], none⟩, ⟨(some 18), (.ibin .sub), [(.t 17), (.c (.rv (.int .i64 1)))], none⟩, ⟨(some 19), (.slc 3 false true), [(.t 15), (.t 18)], none⟩, ⟨(some 20), .nilchk, [(.t 14)], none⟩, ⟨none, (.store 1), [(.t 20), (.t 19)], none⟩]) (.seq (.reg [⟨(some 21), (.load 3 true), [(.t 4)], none⟩, ⟨(some 22), (.mkif 23), [(.t 21)], none⟩, ⟨(some 2), .mv, [(.t 22)], none⟩]) .ret)))))
theorem k48 : FnOK Go.Proofs.Try.prog 48 23 c48 [(.t 2)] := fnOK_of (by kernel_rfl)

/- (*decoupage/agenda.pile).Push -/
def c49 : AC := (.seq (.reg [⟨(some 7), .mv, [(.t 1)], none⟩, ⟨(some 8), (.tas 23 true), [(.t 7)], none⟩, ⟨(some 6), .mv, [(.t 8)], none⟩, ⟨(some 9), (.ext 0), [(.t 6)], none⟩, ⟨(some 10), (.ext 1), [(.t 6)], none⟩, ⟨(some 4), (.alloc [(.int .i64 0), (.int .i64 0), (.int .i64 0)]), [], none⟩, ⟨none, (.store 3), [(.t 4), (.t 9)], none⟩, ⟨(some 5), .mv, [(.t 10)], none⟩]) (.seq (.reg [⟨(some 11), .mv, [(.t 5)], none⟩]) (.seq (.cond (.t 11) (.regd [0, 0, 2, 6, 0, 16, 62, 127, 255] [⟨(some 12), .mv, [(.t 0)], none⟩, ⟨(some 13), .mv, [(.t 0)], none⟩, ⟨(some 14), .nilchk, [(.t 13)], none⟩, ⟨(some 15), (.load 1 false), [(.t 14)], none⟩, ⟨(some 16), (.load 3 true), [(.t 4)], none⟩, ⟨(some 17), (.bsl 3), [(.t 16)], none⟩, ⟨(some 18), (.app 3 24), [(.t 15), (.t 17)], none⟩, ⟨(some 19), .nilchk, [(.t 12)], none⟩, ⟨none, (.store 1), [(.t 19), (.t 18)], none⟩]) .skip) .ent)))
theorem k49 : FnOK Go.Proofs.Try.prog 49 20 c49 [] := fnOK_of (by kernel_rfl)


abbrev cellsL (es : List Ent3) : List (List RV) := es.map Ent3.cells

theorem cellsL_get {es : List Ent3} {i : Nat} (h : i < es.length) : ((cellsL es)[i]?).getD [] = [.int .i64 es[i].key, .int .i64 es[i].tie, .int .i64 es[i].n] := by
  simp [cellsL, h, Ent3.cells]

theorem cellsL_set {es : List Ent3} {i : Nat} {e : Ent3} : (rvs (cellsL es)).set i [.rv (.int .i64 e.key), .rv (.int .i64 e.tie), .rv (.int .i64 e.n)] = rvs (cellsL (es.set i e)) := by
  rw [show ([.rv (.int .i64 e.key), .rv (.int .i64 e.tie), .rv (.int .i64 e.n)] : List SV) = e.cells.map SV.rv from rfl, rvs_set]
  simp [cellsL, List.map_set]

theorem cellsL_drop {es : List Ent3} {i : Nat} : (((cellsL es)[i]?.getD []).map SV.rv).drop 3 = [] := by
  rw [List.drop_eq_nil_iff]
  by_cases h : i < es.length
  · rw [cellsL_get h]; simp
  · rw [List.getElem?_eq_none (by simp [cellsL]; omega)]; simp

theorem sp45 (i1 v n : Nat) (es : List Ent3) : CallR Go.Proofs.Try.prog 45 [.row i1 v n] [(i1, .row 3 v (rvs (cellsL es)))] [] (.rv (.int .i64 n)) := by
  refine callR_M k45 [i1] [.row 3 v (rvs (cellsL es))] [.row 3 v (rvs (cellsL es))] [.row 0 v n] [.row i1 v n] [] _ (by simp) (by simp [BkAll, bk_row]) rfl (by simp [nodupL]) (by simp [BkHs, rvs_inj]) (fun K hK => ?_)
  simp -implicitDefEqProofs only [c45, g_nil, g_skip, g_reg, g_regd, g_seq, g_block, g_end, g_cond, g_ret, g_exit, gx_nil, gx_c, gx_o, gx_d, gx_b, g_onil, g_dnil, g_op, g_opg, g_opd, g_opdg, condI, callvI, invI, plainI, opI, guardI, callvdI, invdI, plaindI, opdI, guarddI, opE, o1, o2, ix2, loadE, storeE, boxE, allLen, bslE, buildE, fits, fldE, ixsE, ixaE, ixvE, fldvE, lenE, lensE, srcE, appE, bnd2, bndL, bndH, bnd0, bndE, slcE, slcC, pickE, allocE, nilchkE, isNilSV, ibinE, ibin, ishfE, ishf, eqnilE, eqbE, notE, negE, cviE, mkslE, mxE, mnE, extE, isNilSl, isNilFn, isNilIf, isNilO, eqniloE, eqsF, eqsE, cellsEq, cellEq, sbinE, sbin, ifcOf, tasF, tasE, cellsSV, cellsAll, layO, mkEnv, lk, hget_zero, hget_succ, putE, uphO, uph, uphL, evX, rdsX, uIds, List.map_cons, List.map_nil, List.length_cons, List.length_nil, List.length_append, List.length_map, List.length_set, List.set_cons_zero, List.set_cons_succ, List.cons_append, List.nil_append, List.append_nil, List.getElem?_cons_zero, List.getElem?_cons_succ, List.getElem?_nil, List.take_succ_cons, List.take_zero, List.drop_succ_cons, List.drop_zero, List.drop_nil, List.take_nil, Option.getD_some, Option.getD_none, Option.map_some, Option.map_none, true_and, and_true, ↓reduceIte, Nat.reduceEqDiff, Nat.reduceAdd, Nat.reduceSub, Nat.reduceMul, Nat.reduceLeDiff, Nat.reduceLT, Nat.zero_add, Nat.add_zero, decide_eq_true_eq, Bool.false_eq_true, reduceCtorEq, rvs_len, rvs_get, rvs_fold, rvs_take, rvs_append, Int.toNat_natCast, bneTT, bneTF, bneFT, bneFF, Bool.not_true, Bool.not_false, splice0, slcaE, clrE, chunks]
  refine (hK _ _ _ _ [] (ent_refl _ _) ?_).2
  simp [retM, nodupL, newL, allU, keptL, retP, resL, lk, resT, rn_rv, RnHo, lkp, finU, hget, rnRows_rvs]

theorem sp46 (i1 v n : Nat) (es : List Ent3) (i j : Nat) (hn : n ≤ es.length) (hi : i < n) (hj : j < n) :
    CallR Go.Proofs.Try.prog 46 [.row i1 v n, .rv (.int .i64 i), .rv (.int .i64 j)] [(i1, .row 3 v (rvs (cellsL es)))] [] (.rv (.bool (decide (cmpE es[i] es[j] < 0)))) := by
  refine callR_M k46 [i1] [.row 3 v (rvs (cellsL es))] [.row 3 v (rvs (cellsL es))] [.row 0 v n, .rv (.int .i64 i), .rv (.int .i64 j)] [.row i1 v n, .rv (.int .i64 i), .rv (.int .i64 j)] [] _ (by simp) (by simp [BkAll, bk_row, bk_rv]) rfl (by simp [nodupL]) (by simp [BkHs, rvs_inj]) (fun K hK => ?_)
  simp -implicitDefEqProofs only [c46, cellsL_get (show i < es.length by omega), cellsL_get (show j < es.length by omega), g_nil, g_skip, g_reg, g_regd, g_seq, g_block, g_end, g_cond, g_ret, g_exit, gx_nil, gx_c, gx_o, gx_d, gx_b, g_onil, g_dnil, g_op, g_opg, g_opd, g_opdg, condI, callvI, invI, plainI, opI, guardI, callvdI, invdI, plaindI, opdI, guarddI, opE, o1, o2, ix2, loadE, storeE, boxE, allLen, bslE, buildE, fits, fldE, ixsE, ixaE, ixvE, fldvE, lenE, lensE, srcE, appE, bnd2, bndL, bndH, bnd0, bndE, slcE, slcC, pickE, allocE, nilchkE, isNilSV, ibinE, ibin, ishfE, ishf, eqnilE, eqbE, notE, negE, cviE, mkslE, mxE, mnE, extE, isNilSl, isNilFn, isNilIf, isNilO, eqniloE, eqsF, eqsE, cellsEq, cellEq, sbinE, sbin, ifcOf, tasF, tasE, cellsSV, cellsAll, layO, mkEnv, lk, hget_zero, hget_succ, putE, uphO, uph, uphL, evX, rdsX, uIds, List.map_cons, List.map_nil, List.length_cons, List.length_nil, List.length_append, List.length_map, List.length_set, List.set_cons_zero, List.set_cons_succ, List.cons_append, List.nil_append, List.append_nil, List.getElem?_cons_zero, List.getElem?_cons_succ, List.getElem?_nil, List.take_succ_cons, List.take_zero, List.drop_succ_cons, List.drop_zero, List.drop_nil, List.take_nil, Option.getD_some, Option.getD_none, Option.map_some, Option.map_none, true_and, and_true, ↓reduceIte, Nat.reduceEqDiff, Nat.reduceAdd, Nat.reduceSub, Nat.reduceMul, Nat.reduceLeDiff, Nat.reduceLT, Nat.zero_add, Nat.add_zero, decide_eq_true_eq, Bool.false_eq_true, reduceCtorEq, rvs_len, rvs_get, rvs_fold, rvs_take, rvs_append, Int.toNat_natCast, bneTT, bneTF, bneFT, bneFF, Bool.not_true, Bool.not_false, splice0, slcaE, clrE, chunks]
  refine ⟨by omega, by omega, by omega, by omega, ?_⟩
  refine g_calld0 (sp8 es[i] es[j]) ?_
  simp -implicitDefEqProofs only [g_nil, g_skip, g_reg, g_regd, g_seq, g_block, g_end, g_cond, g_ret, g_exit, gx_nil, gx_c, gx_o, gx_d, gx_b, g_onil, g_dnil, g_op, g_opg, g_opd, g_opdg, condI, callvI, invI, plainI, opI, guardI, callvdI, invdI, plaindI, opdI, guarddI, opE, o1, o2, ix2, loadE, storeE, boxE, allLen, bslE, buildE, fits, fldE, ixsE, ixaE, ixvE, fldvE, lenE, lensE, srcE, appE, bnd2, bndL, bndH, bnd0, bndE, slcE, slcC, pickE, allocE, nilchkE, isNilSV, ibinE, ibin, ishfE, ishf, eqnilE, eqbE, notE, negE, cviE, mkslE, mxE, mnE, extE, isNilSl, isNilFn, isNilIf, isNilO, eqniloE, eqsF, eqsE, cellsEq, cellEq, sbinE, sbin, ifcOf, tasF, tasE, cellsSV, cellsAll, layO, mkEnv, lk, hget_zero, hget_succ, putE, uphO, uph, uphL, evX, rdsX, uIds, List.map_cons, List.map_nil, List.length_cons, List.length_nil, List.length_append, List.length_map, List.length_set, List.set_cons_zero, List.set_cons_succ, List.cons_append, List.nil_append, List.append_nil, List.getElem?_cons_zero, List.getElem?_cons_succ, List.getElem?_nil, List.take_succ_cons, List.take_zero, List.drop_succ_cons, List.drop_zero, List.drop_nil, List.take_nil, Option.getD_some, Option.getD_none, Option.map_some, Option.map_none, true_and, and_true, ↓reduceIte, Nat.reduceEqDiff, Nat.reduceAdd, Nat.reduceSub, Nat.reduceMul, Nat.reduceLeDiff, Nat.reduceLT, Nat.zero_add, Nat.add_zero, decide_eq_true_eq, Bool.false_eq_true, reduceCtorEq, rvs_len, rvs_get, rvs_fold, rvs_take, rvs_append, Int.toNat_natCast, bneTT, bneTF, bneFT, bneFF, Bool.not_true, Bool.not_false, splice0, slcaE, clrE, chunks]
  refine ⟨by decide, ?_⟩
  refine (hK _ _ _ _ [] (ent_refl _ _) ?_).2
  simp [retM, nodupL, newL, allU, keptL, retP, resL, lk, resT, rn_rv, RnHo, lkp, finU, hget, rnRows_rvs]

def swapL (es : List Ent3) (i j : Nat) (hi : i < es.length) (hj : j < es.length) : List Ent3 := (es.set i es[j]).set j es[i]

theorem sp47 (i1 v n : Nat) (es : List Ent3) (i j : Nat) (hn : n ≤ es.length) (hi : i < n) (hj : j < n) :
    CallR Go.Proofs.Try.prog 47 [.row i1 v n, .rv (.int .i64 i), .rv (.int .i64 j)] [(i1, .row 3 v (rvs (cellsL es)))] [(i1, .row 3 v (rvs (cellsL (swapL es i j (by omega) (by omega)))))] (.tup []) := by
  refine callR_M k47 [i1] [.row 3 v (rvs (cellsL es))] [.row 3 v (rvs (cellsL es))] [.row 0 v n, .rv (.int .i64 i), .rv (.int .i64 j)] [.row i1 v n, .rv (.int .i64 i), .rv (.int .i64 j)] _ _ (by simp) (by simp [BkAll, bk_row, bk_rv]) rfl (by simp [nodupL]) (by simp [BkHs, rvs_inj]) (fun K hK => ?_)
  simp -implicitDefEqProofs only [c47, cellsL_get (show i < es.length by omega), cellsL_get (show j < es.length by omega), g_nil, g_skip, g_reg, g_regd, g_seq, g_block, g_end, g_cond, g_ret, g_exit, gx_nil, gx_c, gx_o, gx_d, gx_b, g_onil, g_dnil, g_op, g_opg, g_opd, g_opdg, condI, callvI, invI, plainI, opI, guardI, callvdI, invdI, plaindI, opdI, guarddI, opE, o1, o2, ix2, loadE, storeE, boxE, allLen, bslE, buildE, fits, fldE, ixsE, ixaE, ixvE, fldvE, lenE, lensE, srcE, appE, bnd2, bndL, bndH, bnd0, bndE, slcE, slcC, pickE, allocE, nilchkE, isNilSV, ibinE, ibin, ishfE, ishf, eqnilE, eqbE, notE, negE, cviE, mkslE, mxE, mnE, extE, isNilSl, isNilFn, isNilIf, isNilO, eqniloE, eqsF, eqsE, cellsEq, cellEq, sbinE, sbin, ifcOf, tasF, tasE, cellsSV, cellsAll, layO, mkEnv, lk, hget_zero, hget_succ, putE, uphO, uph, uphL, evX, rdsX, uIds, List.map_cons, List.map_nil, List.length_cons, List.length_nil, List.length_append, List.length_map, List.length_set, List.set_cons_zero, List.set_cons_succ, List.cons_append, List.nil_append, List.append_nil, List.getElem?_cons_zero, List.getElem?_cons_succ, List.getElem?_nil, List.take_succ_cons, List.take_zero, List.drop_succ_cons, List.drop_zero, List.drop_nil, List.take_nil, Option.getD_some, Option.getD_none, Option.map_some, Option.map_none, true_and, and_true, ↓reduceIte, Nat.reduceEqDiff, Nat.reduceAdd, Nat.reduceSub, Nat.reduceMul, Nat.reduceLeDiff, Nat.reduceLT, Nat.zero_add, Nat.add_zero, decide_eq_true_eq, Bool.false_eq_true, reduceCtorEq, rvs_len, rvs_get, rvs_fold, rvs_take, rvs_append, Int.toNat_natCast, bneTT, bneTF, bneFT, bneFF, Bool.not_true, Bool.not_false, splice0, slcaE, clrE, chunks]
  simp -implicitDefEqProofs only [cellsL_set, cellsL_drop, rvs_get, List.length_set]
  refine ⟨by omega, by omega, by omega, by omega, by omega, by omega, by omega, by omega, by decide, ?_⟩
  refine (hK _ _ _ _ [] (ent_refl _ _) ?_).1
  simp [retM, nodupL, newL, allU, keptL, retP, resL, lk, resT, RnHo, lkp, finU, hget, cellsL_set, rnRows_rvs, swapL, rn_tup, RnAll]

theorem sp48 (i0 i1 v n : Nat) (es : List Ent3) (hi : i0 ≠ i1) (hn : n ≤ es.length) (h0 : 0 < n) (hb : n < 1000000) :
    CallR Go.Proofs.Try.prog 48 [.ptr i0 0] [(i0, .var [.row i1 v n]), (i1, .row 3 v (rvs (cellsL es)))] [(i0, .var [.row i1 v (n - 1)])] (.ifc 23 (es[n-1]).sv) := by
  refine callR_M k48 [i0, i1] [.var [.row 1 v n], .row 3 v (rvs (cellsL es))] [.var [.row i1 v n], .row 3 v (rvs (cellsL es))] [.ptr 0 0] [.ptr i0 0] _ _ (by simp) (by simp [BkAll, bk_ptr]) rfl (by simp [nodupL, hi]) (by simp [BkHs, rvs_inj, BkAll, bk_row]) (fun K hK => ?_)
  have hw : IntKind.i64.wrap ((n : Int) - 1) = ((n - 1 : Nat) : Int) := by rw [wrap_i64 (by omega) (by omega)]; omega
  simp -implicitDefEqProofs only [c48, hw, cellsL_get (show n - 1 < es.length by omega), g_nil, g_skip, g_reg, g_regd, g_seq, g_block, g_end, g_cond, g_ret, g_exit, gx_nil, gx_c, gx_o, gx_d, gx_b, g_onil, g_dnil, g_op, g_opg, g_opd, g_opdg, condI, callvI, invI, plainI, opI, guardI, callvdI, invdI, plaindI, opdI, guarddI, opE, o1, o2, ix2, loadE, storeE, boxE, allLen, bslE, buildE, fits, fldE, ixsE, ixaE, ixvE, fldvE, lenE, lensE, srcE, appE, bnd2, bndL, bndH, bnd0, bndE, slcE, slcC, pickE, allocE, nilchkE, isNilSV, ibinE, ibin, ishfE, ishf, eqnilE, eqbE, notE, negE, cviE, mkslE, mxE, mnE, extE, isNilSl, isNilFn, isNilIf, isNilO, eqniloE, eqsF, eqsE, cellsEq, cellEq, sbinE, sbin, ifcOf, tasF, tasE, cellsSV, cellsAll, layO, mkEnv, lk, hget_zero, hget_succ, putE, uphO, uph, uphL, evX, rdsX, uIds, List.map_cons, List.map_nil, List.length_cons, List.length_nil, List.length_append, List.length_map, List.length_set, List.set_cons_zero, List.set_cons_succ, List.cons_append, List.nil_append, List.append_nil, List.getElem?_cons_zero, List.getElem?_cons_succ, List.getElem?_nil, List.take_succ_cons, List.take_zero, List.drop_succ_cons, List.drop_zero, List.drop_nil, List.take_nil, Option.getD_some, Option.getD_none, Option.map_some, Option.map_none, true_and, and_true, ↓reduceIte, Nat.reduceEqDiff, Nat.reduceAdd, Nat.reduceSub, Nat.reduceMul, Nat.reduceLeDiff, Nat.reduceLT, Nat.zero_add, Nat.add_zero, decide_eq_true_eq, Bool.false_eq_true, reduceCtorEq, rvs_len, rvs_get, rvs_fold, rvs_take, rvs_append, Int.toNat_natCast, bneTT, bneTF, bneFT, bneFF, Bool.not_true, Bool.not_false, splice0, slcaE, clrE, chunks]
  refine ⟨by omega, by omega, by omega, ?_⟩
  refine (hK _ _ _ _ [] (ent_refl _ _) ?_).2
  simp [retM, nodupL, newL, allU, keptL, retP, resL, lk, resT, RnHo, lkp, finU, hget_zero, hget_succ, hget, rnRows_rvs, rn_tup, rn_rv, rn_row, rn_ptr, rn_ifc, rn_agg, rn_dead, RnAll, ofL, rnAll_map, hi, Ne.symm hi, Ent3.sv]

theorem sp49 (i0 i1 v n : Nat) (es : List Ent3) (e : Ent3) (hi : i0 ≠ i1) (hn : n ≤ es.length) (hb : n < 1000000) :
    CallR Go.Proofs.Try.prog 49 [.ptr i0 0, .ifc 23 e.sv] [(i0, .var [.row i1 v n]), (i1, .row 3 v (rvs (cellsL es)))] [(i0, .var [.row i1 (v + 1) (n + 1)]), (i1, .row 3 (v + 1) (rvs (cellsL (es.take n ++ [e]))))] (.tup []) := by
  refine callR_M k49 [i0, i1] [.var [.row 1 v n], .row 3 v (rvs (cellsL es))] [.var [.row i1 v n], .row 3 v (rvs (cellsL es))] [.ptr 0 0, .ifc 23 e.sv] [.ptr i0 0, .ifc 23 e.sv] _ _ (by simp) (by simp [BkAll, bk_ptr, bk_ifc, bk_agg, bk_rv, Ent3.sv]) rfl (by simp [nodupL, hi]) (by simp [BkHs, rvs_inj, BkAll, bk_row]) (fun K hK => ?_)
  simp -implicitDefEqProofs only [c49, Ent3.sv, g_nil, g_skip, g_reg, g_regd, g_seq, g_block, g_end, g_cond, g_ret, g_exit, gx_nil, gx_c, gx_o, gx_d, gx_b, g_onil, g_dnil, g_op, g_opg, g_opd, g_opdg, condI, callvI, invI, plainI, opI, guardI, callvdI, invdI, plaindI, opdI, guarddI, opE, o1, o2, ix2, loadE, storeE, boxE, allLen, bslE, buildE, fits, fldE, ixsE, ixaE, ixvE, fldvE, lenE, lensE, srcE, appE, bnd2, bndL, bndH, bnd0, bndE, slcE, slcC, pickE, allocE, nilchkE, isNilSV, ibinE, ibin, ishfE, ishf, eqnilE, eqbE, notE, negE, cviE, mkslE, mxE, mnE, extE, isNilSl, isNilFn, isNilIf, isNilO, eqniloE, eqsF, eqsE, cellsEq, cellEq, sbinE, sbin, ifcOf, tasF, tasE, cellsSV, cellsAll, layO, mkEnv, lk, hget_zero, hget_succ, putE, uphO, uph, uphL, evX, rdsX, uIds, List.map_cons, List.map_nil, List.length_cons, List.length_nil, List.length_append, List.length_map, List.length_set, List.set_cons_zero, List.set_cons_succ, List.cons_append, List.nil_append, List.append_nil, List.getElem?_cons_zero, List.getElem?_cons_succ, List.getElem?_nil, List.take_succ_cons, List.take_zero, List.drop_succ_cons, List.drop_zero, List.drop_nil, List.take_nil, Option.getD_some, Option.getD_none, Option.map_some, Option.map_none, true_and, and_true, ↓reduceIte, Nat.reduceEqDiff, Nat.reduceAdd, Nat.reduceSub, Nat.reduceMul, Nat.reduceLeDiff, Nat.reduceLT, Nat.zero_add, Nat.add_zero, decide_eq_true_eq, Bool.false_eq_true, reduceCtorEq, rvs_len, rvs_get, rvs_fold, rvs_take, rvs_append, Int.toNat_natCast, bneTT, bneTF, bneFT, bneFF, Bool.not_true, Bool.not_false, splice0, slcaE, clrE, chunks]
  refine ⟨⟨by omega, by simp -implicitDefEqProofs only [maxLen]; omega, by omega⟩, by decide, g_noent ?_⟩
  simp -implicitDefEqProofs only [g_nil, g_skip, g_reg, g_regd, g_seq, g_block, g_end, g_cond, g_ret, g_exit, gx_nil, gx_c, gx_o, gx_d, gx_b, g_onil, g_dnil, g_op, g_opg, g_opd, g_opdg, condI, callvI, invI, plainI, opI, guardI, callvdI, invdI, plaindI, opdI, guarddI, opE, o1, o2, ix2, loadE, storeE, boxE, allLen, bslE, buildE, fits, fldE, ixsE, ixaE, ixvE, fldvE, lenE, lensE, srcE, appE, bnd2, bndL, bndH, bnd0, bndE, slcE, slcC, pickE, allocE, nilchkE, isNilSV, ibinE, ibin, ishfE, ishf, eqnilE, eqbE, notE, negE, cviE, mkslE, mxE, mnE, extE, isNilSl, isNilFn, isNilIf, isNilO, eqniloE, eqsF, eqsE, cellsEq, cellEq, sbinE, sbin, ifcOf, tasF, tasE, cellsSV, cellsAll, layO, mkEnv, lk, hget_zero, hget_succ, putE, uphO, uph, uphL, evX, rdsX, uIds, List.map_cons, List.map_nil, List.length_cons, List.length_nil, List.length_append, List.length_map, List.length_set, List.set_cons_zero, List.set_cons_succ, List.cons_append, List.nil_append, List.append_nil, List.getElem?_cons_zero, List.getElem?_cons_succ, List.getElem?_nil, List.take_succ_cons, List.take_zero, List.drop_succ_cons, List.drop_zero, List.drop_nil, List.take_nil, Option.getD_some, Option.getD_none, Option.map_some, Option.map_none, true_and, and_true, ↓reduceIte, Nat.reduceEqDiff, Nat.reduceAdd, Nat.reduceSub, Nat.reduceMul, Nat.reduceLeDiff, Nat.reduceLT, Nat.zero_add, Nat.add_zero, decide_eq_true_eq, Bool.false_eq_true, reduceCtorEq, rvs_len, rvs_get, rvs_fold, rvs_take, rvs_append, Int.toNat_natCast, bneTT, bneTF, bneFT, bneFF, Bool.not_true, Bool.not_false, splice0, slcaE, clrE, chunks]
  refine (hK _ _ _ _ [] (ent_refl _ _) ?_).1
  have hx : rvs (List.take n (cellsL es)) ++ [[SV.rv (.int .i64 e.key), .rv (.int .i64 e.tie), .rv (.int .i64 e.n)]] = rvs (cellsL (es.take n ++ [e])) := by
    rw [show ([[SV.rv (.int .i64 e.key), .rv (.int .i64 e.tie), .rv (.int .i64 e.n)]] : List (List SV)) = rvs [e.cells] from rfl, rvs_append]
    simp [cellsL, List.map_take]
  simp [hx, retM, nodupL, newL, allU, keptL, retP, resL, lk, resT, RnHo, lkp, finU, hget_zero, hget_succ, hget, rnRows_rvs, rn_tup, rn_rv, rn_row, rn_ptr, rn_ifc, rn_agg, rn_dead, RnAll, ofL, rnAll_map, hi, Ne.symm hi]
end Go.Eng


/- agenda: the heap. -/
namespace Go.Eng
open Go
/- container/heap.up -/
def c27 : AC := (.seq (.block 0 (.loop (.seq (.block 1 (.seq (.reg [⟨(some 5), .mv, [(.t 1)], none⟩, ⟨(some 6), (.ibin .sub), [(.t 5), (.c (.rv (.int .i64 1)))], none⟩, ⟨(some 7), (.ibin .quo), [(.t 6), (.c (.rv (.int .i64 2)))], none⟩, ⟨(some 4), .mv, [(.t 7)], none⟩]) (.seq (.seq (.reg [⟨(some 8), .mv, [(.t 4)], none⟩, ⟨(some 9), .mv, [(.t 1)], none⟩, ⟨(some 10), (.ibin .eql), [(.t 8), (.t 9)], none⟩, ⟨(some 11), .mv, [(.t 10)], none⟩, ⟨(some 12), .mv, [(.t 0)], (some (11, false))⟩, ⟨(some 13), .mv, [(.t 1)], (some (11, false))⟩, ⟨(some 14), .mv, [(.t 4)], (some (11, false))⟩, ⟨(some 15), (.inv "Less"), [(.t 12), (.t 13), (.t 14)], (some (11, false))⟩, ⟨(some 16), .not, [(.t 15)], (some (11, false))⟩, ⟨(some 17), .pick, [(.t 11), (.c (.rv (.bool true))), (.t 16)], none⟩]) (.cond (.t 17) (.exit 0) .skip)) (.seq (.reg [⟨(some 18), .mv, [(.t 0)], none⟩, ⟨(some 19), .mv, [(.t 4)], none⟩, ⟨(some 20), .mv, [(.t 1)], none⟩, ⟨(some 21), (.inv "Swap"), [(.t 18), (.t 19), (.t 20)], none⟩]) (.reg [⟨(some 22), .mv, [(.t 4)], none⟩, ⟨(some 1), .mv, [(.t 22)], none⟩]))))) .ent))) .ent)
theorem k27 : FnOK Go.Proofs.Try.prog 27 23 c27 [] := fnOK_of (by kernel_rfl)

/- container/heap.down -/
def c28 : AC := (.seq (.reg [⟨(some 6), .mv, [(.c (.rv (.bool false)))], none⟩]) (.seq (.reg [⟨(some 11), .mv, [(.t 1)], none⟩, ⟨(some 7), .mv, [(.t 11)], none⟩]) (.seq (.seq (.block 0 (.loop (.seq (.block 1 (.seq (.reg [⟨(some 12), .mv, [(.t 7)], none⟩, ⟨(some 13), (.ibin .mul), [(.c (.rv (.int .i64 2))), (.t 12)], none⟩, ⟨(some 14), (.ibin .add), [(.t 13), (.c (.rv (.int .i64 1)))], none⟩, ⟨(some 8), .mv, [(.t 14)], none⟩]) (.seq (.seq (.reg [⟨(some 15), .mv, [(.t 8)], none⟩, ⟨(some 16), .mv, [(.t 2)], none⟩, ⟨(some 17), (.ibin .geq), [(.t 15), (.t 16)], none⟩, ⟨(some 18), .mv, [(.t 17)], none⟩, ⟨(some 19), .mv, [(.t 8)], (some (18, false))⟩, ⟨(some 20), (.ibin .lss), [(.t 19), (.c (.rv (.int .i64 0)))], (some (18, false))⟩, ⟨(some 21), .pick, [(.t 18), (.c (.rv (.bool true))), (.t 20)], none⟩]) (.cond (.t 21) (.exit 0) .skip)) (.seq (.reg [⟨(some 22), .mv, [(.t 8)], none⟩, ⟨(some 9), .mv, [(.t 22)], none⟩]) (.seq (.seq (.reg [⟨(some 23), .mv, [(.t 8)], none⟩, ⟨(some 24), (.ibin .add), [(.t 23), (.c (.rv (.int .i64 1)))], none⟩, ⟨(some 10), .mv, [(.t 24)], none⟩]) (.seq (.reg [⟨(some 25), .mv, [(.t 10)], none⟩, ⟨(some 26), .mv, [(.t 2)], none⟩, ⟨(some 27), (.ibin .lss), [(.t 25), (.t 26)], none⟩, ⟨(some 28), .mv, [(.t 27)], none⟩, ⟨(some 29), .mv, [(.t 0)], (some (28, true))⟩, ⟨(some 30), .mv, [(.t 10)], (some (28, true))⟩, ⟨(some 31), .mv, [(.t 8)], (some (28, true))⟩, ⟨(some 32), (.inv "Less"), [(.t 29), (.t 30), (.t 31)], (some (28, true))⟩, ⟨(some 33), .pick, [(.t 28), (.t 32), (.c (.rv (.bool false)))], none⟩]) (.seq (.cond (.t 33) (.reg [⟨(some 34), .mv, [(.t 10)], none⟩, ⟨(some 9), .mv, [(.t 34)], none⟩]) .skip) .ent))) (.seq (.seq (.reg [⟨(some 35), .mv, [(.t 0)], none⟩, ⟨(some 36), .mv, [(.t 9)], none⟩, ⟨(some 37), .mv, [(.t 7)], none⟩, ⟨(some 38), (.inv "Less"), [(.t 35), (.t 36), (.t 37)], none⟩, ⟨(some 39), .not, [(.t 38)], none⟩]) (.cond (.t 39) (.exit 0) .skip)) (.seq (.reg [⟨(some 40), .mv, [(.t 0)], none⟩, ⟨(some 41), .mv, [(.t 7)], none⟩, ⟨(some 42), .mv, [(.t 9)], none⟩, ⟨(some 43), (.inv "Swap"), [(.t 40), (.t 41), (.t 42)], none⟩]) (.reg [⟨(some 44), .mv, [(.t 9)], none⟩, ⟨(some 7), .mv, [(.t 44)], none⟩])))))))) .ent))) .ent) (.seq (.reg [⟨(some 45), .mv, [(.t 7)], none⟩, ⟨(some 46), .mv, [(.t 1)], none⟩, ⟨(some 47), (.ibin .gtr), [(.t 45), (.t 46)], none⟩, ⟨(some 6), .mv, [(.t 47)], none⟩]) .ret))))
theorem k28 : FnOK Go.Proofs.Try.prog 28 48 c28 [(.t 6)] := fnOK_of (by kernel_rfl)

/- container/heap.Push -/
def c21 : AC := (.seq (.reg [⟨(some 4), .mv, [(.t 0)], none⟩, ⟨(some 5), .mv, [(.t 1)], none⟩, ⟨(some 6), (.inv "Push"), [(.t 4), (.t 5)], none⟩]) (.reg [⟨(some 7), .mv, [(.t 0)], none⟩, ⟨(some 8), .mv, [(.t 0)], none⟩, ⟨(some 9), (.inv "Len"), [(.t 8)], none⟩, ⟨(some 10), (.ibin .sub), [(.t 9), (.c (.rv (.int .i64 1)))], none⟩, ⟨(some 11), (.call 27), [(.t 7), (.t 10)], none⟩]))
theorem k21 : FnOK Go.Proofs.Try.prog 21 12 c21 [] := fnOK_of (by kernel_rfl)

/- container/heap.Pop -/
def c22 : AC := (.seq (.reg [⟨(some 2), .mv, [(.c (.rv .nili))], none⟩]) (.seq (.reg [⟨(some 4), .mv, [(.t 0)], none⟩, ⟨(some 5), (.inv "Len"), [(.t 4)], none⟩, ⟨(some 6), (.ibin .sub), [(.t 5), (.c (.rv (.int .i64 1)))], none⟩, ⟨(some 3), .mv, [(.t 6)], none⟩]) (.seq (.reg [⟨(some 7), .mv, [(.t 0)], none⟩, ⟨(some 8), .mv, [(.t 3)], none⟩, ⟨(some 9), (.inv "Swap"), [(.t 7), (.c (.rv (.int .i64 0))), (.t 8)], none⟩]) (.seq (.reg [⟨(some 10), .mv, [(.t 0)], none⟩, ⟨(some 11), .mv, [(.t 3)], none⟩, ⟨(some 12), (.call 28), [(.t 10), (.c (.rv (.int .i64 0))), (.t 11)], none⟩]) (.seq (.reg [⟨(some 13), .mv, [(.t 0)], none⟩, ⟨(some 14), (.inv "Pop"), [(.t 13)], none⟩, ⟨(some 2), .mv, [(.t 14)], none⟩]) .ret)))))
theorem k22 : FnOK Go.Proofs.Try.prog 22 15 c22 [(.t 2)] := fnOK_of (by kernel_rfl)


instance : Inhabited Ent3 := ⟨⟨0, 0, 0⟩⟩
def ga (es : List Ent3) (i : Nat) : Ent3 := es.getD i ⟨0, 0, 0⟩
theorem ga_eq {es : List Ent3} {i : Nat} (h : i < es.length) : es[i] = ga es i := by simp [ga, h]
def sw (es : List Ent3) (i j : Nat) : List Ent3 := (es.set i (ga es j)).set j (ga es i)
theorem sw_len {es : List Ent3} {i j : Nat} : (sw es i j).length = es.length := by simp [sw]

theorem inv53Less : invF Go.Proofs.Try.prog 53 "Less" = some (46, some (1, false)) := by kernel_rfl
theorem inv53Swap : invF Go.Proofs.Try.prog 53 "Swap" = some (47, some (1, false)) := by kernel_rfl
theorem inv53Len : invF Go.Proofs.Try.prog 53 "Len" = some (45, some (1, false)) := by kernel_rfl
theorem inv53Push : invF Go.Proofs.Try.prog 53 "Push" = some (49, none) := by kernel_rfl
theorem inv53Pop : invF Go.Proofs.Try.prog 53 "Pop" = some (48, none) := by kernel_rfl

theorem spLess (i1 v n : Nat) (es : List Ent3) (i j : Nat) (hn : n ≤ es.length) (hi : i < n) (hj : j < n) :
    CallR Go.Proofs.Try.prog 46 [.row i1 v n, .rv (.int .i64 i), .rv (.int .i64 j)] [(i1, .row 3 v (rvs (cellsL es)))] [] (.rv (.bool (decide (cmpE (ga es i) (ga es j) < 0)))) := by
  have := sp46 i1 v n es i j hn hi hj
  rwa [ga_eq, ga_eq] at this

theorem spSwap (i1 v n : Nat) (es : List Ent3) (i j : Nat) (hn : n ≤ es.length) (hi : i < n) (hj : j < n) :
    CallR Go.Proofs.Try.prog 47 [.row i1 v n, .rv (.int .i64 i), .rv (.int .i64 j)] [(i1, .row 3 v (rvs (cellsL es)))] [(i1, .row 3 v (rvs (cellsL (sw es i j))))] (.tup []) := by
  have := sp47 i1 v n es i j hn hi hj
  unfold swapL at this
  rwa [ga_eq, ga_eq] at this

theorem pre1 {hp : Hp} {a : Nat} {hb : HB} (h : hp a = some hb) : PreOK hp [(a, hb)] := fun q hq => by simp at hq; subst hq; exact h
theorem pre2 {hp : Hp} {a b : Nat} {x y : HB} (h : hp a = some x) (k : hp b = some y) : PreOK hp [(a, x), (b, y)] := fun q hq => by
  simp at hq
  rcases hq with rfl | rfl
  · exact h
  · exact k
theorem okU1 {h : List (Option HB)} {a : Nat} {x y : HB} {pre : List (Nat × HB)} (hg : hget h a = some y) (hm : (a, y) ∈ pre := by simp) : okU pre h [(a, x)] := by
  refine ⟨.inr ⟨?_, y, hm⟩, trivial⟩
  unfold hget at hg
  cases hl : h[a]? with
  | none => simp [hl] at hg
  | some z => exact (List.getElem?_eq_some_iff.1 hl).1

/-- up of the library's heap. -/
def upF (es : List Ent3) (j : Nat) : List Ent3 :=
  if h : j = 0 then es else if cmpE (ga es j) (ga es ((j - 1) / 2)) < 0 then upF (sw es ((j - 1) / 2) j) ((j - 1) / 2) else es
termination_by j
decreasing_by omega

theorem upF_len (es : List Ent3) (j : Nat) : (upF es j).length = es.length := by
  induction j using Nat.strongRecOn generalizing es with
  | _ j ih =>
    unfold upF
    split
    · rfl
    · split
      · rw [ih _ (by omega), sw_len]
      · rfl

theorem sp27 (i0 i1 v n : Nat) (es : List Ent3) (j : Nat) (hi : i0 ≠ i1) (hn : n ≤ es.length) (hj : j < n) (hb : n < 1000000) :
    CallR Go.Proofs.Try.prog 27 [.ifc 53 (.ptr i0 0), .rv (.int .i64 j)] [(i0, .var [.row i1 v n]), (i1, .row 3 v (rvs (cellsL es)))] [(i1, .row 3 v (rvs (cellsL (upF es j))))] (.tup []) := by
  refine callR_M k27 [i0, i1] [.var [.row 1 v n], .row 3 v (rvs (cellsL es))] [.var [.row i1 v n], .row 3 v (rvs (cellsL es))] [.ifc 53 (.ptr 0 0), .rv (.int .i64 j)] [.ifc 53 (.ptr i0 0), .rv (.int .i64 j)] _ _ (by simp) (by simp [BkAll, bk_ptr, bk_row, bk_rv, bk_agg, bk_ifc, bk_fn, bk_tup, bk_dead, BkHs, rvs_inj, nodupL]) rfl (by simp [nodupL, hi]) (by simp [BkAll, bk_ptr, bk_row, bk_rv, bk_agg, bk_ifc, bk_fn, bk_tup, bk_dead, BkHs, rvs_inj, nodupL]) (fun K hK => ?_)
  simp -implicitDefEqProofs only [c27, g_nil, g_skip, g_reg, g_regd, g_seq, g_block, g_end, g_cond, g_ret, g_exit, gx_nil, gx_c, gx_o, gx_d, gx_b, g_onil, g_dnil, g_op, g_opg, g_opd, g_opdg, condI, callvI, invI, plainI, opI, guardI, callvdI, invdI, plaindI, opdI, guarddI, opE, o1, o2, ix2, loadE, storeE, boxE, allLen, bslE, buildE, fits, fldE, ixsE, ixaE, ixvE, fldvE, lenE, lensE, srcE, appE, bnd2, bndL, bndH, bnd0, bndE, slcE, slcC, pickE, allocE, nilchkE, isNilSV, ibinE, ibin, ishfE, ishf, eqnilE, eqbE, notE, negE, cviE, mkslE, mxE, mnE, extE, isNilSl, isNilFn, isNilIf, isNilO, eqniloE, eqsF, eqsE, cellsEq, cellEq, sbinE, sbin, ifcOf, tasF, tasE, cellsSV, cellsAll, layO, mkEnv, lk, hget_zero, hget_succ, putE, uphO, uph, uphL, evX, rdsX, uIds, List.map_cons, List.map_nil, List.length_cons, List.length_nil, List.length_append, List.length_map, List.length_set, List.set_cons_zero, List.set_cons_succ, List.cons_append, List.nil_append, List.append_nil, List.getElem?_cons_zero, List.getElem?_cons_succ, List.getElem?_nil, List.take_succ_cons, List.take_zero, List.drop_succ_cons, List.drop_zero, List.drop_nil, List.take_nil, Option.getD_some, Option.getD_none, Option.map_some, Option.map_none, true_and, and_true, ↓reduceIte, Nat.reduceEqDiff, Nat.reduceAdd, Nat.reduceSub, Nat.reduceMul, Nat.reduceLeDiff, Nat.reduceLT, Nat.zero_add, Nat.add_zero, decide_eq_true_eq, Bool.false_eq_true, reduceCtorEq, rvs_len, rvs_get, rvs_fold, rvs_take, rvs_append, Int.toNat_natCast, bneTT, bneTF, bneFT, bneFF, Bool.not_true, Bool.not_false, splice0, slcaE, clrE, chunks]
  refine g_loop (ι := List Ent3 × Nat) (fun x => [(1, .rv (.int .i64 x.2)), (0, .ifc 53 (.ptr 0 0))]) (fun x => [some (.var [.row 1 v n]), some (.row 3 v (rvs (cellsL x.1)))]) (fun x => n ≤ x.1.length ∧ x.2 < n ∧ upF x.1 x.2 = upF es j) (fun x => x.2) (es, j) ⟨hn, hj, rfl⟩ (ent_env (by simp [lk])) (fun x hx K' hN hX hR => ?_)
  obtain ⟨fs, i⟩ := x
  obtain ⟨hn', hi', hu⟩ := hx
  dsimp only at hn' hi' hu ⊢
  have hq : IntKind.i64.wrap ((IntKind.i64.wrap ((i : Int) - 1)).tdiv 2) = (((i - 1) / 2 : Nat) : Int) := by
    rw [wrap_i64 (n := (i : Int) - 1) (by omega) (by omega)]
    by_cases h0 : i = 0
    · subst h0; decide
    · rw [show ((i : Int) - 1) = ((i - 1 : Nat) : Int) by omega, show ((2 : Int)) = ((2 : Nat) : Int) from rfl, ← Int.ofNat_tdiv, wrap_i64 (by omega) (by omega)]
  have fin : ∀ (e : List (Nat × SV)), upF fs i = fs → K' (.exit 0) ⟨e, [some (.var [.row 1 v n]), some (.row 3 v (rvs (cellsL fs)))]⟩ := fun e hf => by
    refine hX 0 _ _ ?_
    simp -implicitDefEqProofs only [g_nil, g_skip, g_reg, g_regd, g_seq, g_block, g_end, g_cond, g_ret, g_exit, gx_nil, gx_c, gx_o, gx_d, gx_b, g_onil, g_dnil, g_op, g_opg, g_opd, g_opdg, condI, callvI, invI, plainI, opI, guardI, callvdI, invdI, plaindI, opdI, guarddI, opE, o1, o2, ix2, loadE, storeE, boxE, allLen, bslE, buildE, fits, fldE, ixsE, ixaE, ixvE, fldvE, lenE, lensE, srcE, appE, bnd2, bndL, bndH, bnd0, bndE, slcE, slcC, pickE, allocE, nilchkE, isNilSV, ibinE, ibin, ishfE, ishf, eqnilE, eqbE, notE, negE, cviE, mkslE, mxE, mnE, extE, isNilSl, isNilFn, isNilIf, isNilO, eqniloE, eqsF, eqsE, cellsEq, cellEq, sbinE, sbin, ifcOf, tasF, tasE, cellsSV, cellsAll, layO, mkEnv, lk, hget_zero, hget_succ, putE, uphO, uph, uphL, evX, rdsX, uIds, List.map_cons, List.map_nil, List.length_cons, List.length_nil, List.length_append, List.length_map, List.length_set, List.set_cons_zero, List.set_cons_succ, List.cons_append, List.nil_append, List.append_nil, List.getElem?_cons_zero, List.getElem?_cons_succ, List.getElem?_nil, List.take_succ_cons, List.take_zero, List.drop_succ_cons, List.drop_zero, List.drop_nil, List.take_nil, Option.getD_some, Option.getD_none, Option.map_some, Option.map_none, true_and, and_true, ↓reduceIte, Nat.reduceEqDiff, Nat.reduceAdd, Nat.reduceSub, Nat.reduceMul, Nat.reduceLeDiff, Nat.reduceLT, Nat.zero_add, Nat.add_zero, decide_eq_true_eq, Bool.false_eq_true, reduceCtorEq, rvs_len, rvs_get, rvs_fold, rvs_take, rvs_append, Int.toNat_natCast, bneTT, bneTF, bneFT, bneFF, Bool.not_true, Bool.not_false, splice0, slcaE, clrE, chunks]
    refine g_noent ?_
    simp -implicitDefEqProofs only [g_nil, g_skip, g_reg, g_regd, g_seq, g_block, g_end, g_cond, g_ret, g_exit, gx_nil, gx_c, gx_o, gx_d, gx_b, g_onil, g_dnil, g_op, g_opg, g_opd, g_opdg, condI, callvI, invI, plainI, opI, guardI, callvdI, invdI, plaindI, opdI, guarddI, opE, o1, o2, ix2, loadE, storeE, boxE, allLen, bslE, buildE, fits, fldE, ixsE, ixaE, ixvE, fldvE, lenE, lensE, srcE, appE, bnd2, bndL, bndH, bnd0, bndE, slcE, slcC, pickE, allocE, nilchkE, isNilSV, ibinE, ibin, ishfE, ishf, eqnilE, eqbE, notE, negE, cviE, mkslE, mxE, mnE, extE, isNilSl, isNilFn, isNilIf, isNilO, eqniloE, eqsF, eqsE, cellsEq, cellEq, sbinE, sbin, ifcOf, tasF, tasE, cellsSV, cellsAll, layO, mkEnv, lk, hget_zero, hget_succ, putE, uphO, uph, uphL, evX, rdsX, uIds, List.map_cons, List.map_nil, List.length_cons, List.length_nil, List.length_append, List.length_map, List.length_set, List.set_cons_zero, List.set_cons_succ, List.cons_append, List.nil_append, List.append_nil, List.getElem?_cons_zero, List.getElem?_cons_succ, List.getElem?_nil, List.take_succ_cons, List.take_zero, List.drop_succ_cons, List.drop_zero, List.drop_nil, List.take_nil, Option.getD_some, Option.getD_none, Option.map_some, Option.map_none, true_and, and_true, ↓reduceIte, Nat.reduceEqDiff, Nat.reduceAdd, Nat.reduceSub, Nat.reduceMul, Nat.reduceLeDiff, Nat.reduceLT, Nat.zero_add, Nat.add_zero, decide_eq_true_eq, Bool.false_eq_true, reduceCtorEq, rvs_len, rvs_get, rvs_fold, rvs_take, rvs_append, Int.toNat_natCast, bneTT, bneTF, bneFT, bneFF, Bool.not_true, Bool.not_false, splice0, slcaE, clrE, chunks]
    refine (hK _ _ _ _ [] (ent_refl _ _) ?_).1
    rw [← hu, hf]
    simp [retM, nodupL, newL, allU, keptL, retP, resL, lk, resT, RnHo, lkp, finU, hget_zero, hget_succ, hget, rnRows_rvs, rn_tup, rn_rv, rn_row, rn_ptr, rn_ifc, rn_agg, rn_dead, RnAll, ofL, rnAll_map, hi, Ne.symm hi]
  by_cases h0 : i = 0
  · subst h0
    have he : ((((0 - 1) / 2 : Nat) : Int) == ((0 : Nat) : Int)) = true := by decide
    simp -implicitDefEqProofs only [hq, he, g_nil, g_skip, g_reg, g_regd, g_seq, g_block, g_end, g_cond, g_ret, g_exit, gx_nil, gx_c, gx_o, gx_d, gx_b, g_onil, g_dnil, g_op, g_opg, g_opd, g_opdg, condI, callvI, invI, plainI, opI, guardI, callvdI, invdI, plaindI, opdI, guarddI, opE, o1, o2, ix2, loadE, storeE, boxE, allLen, bslE, buildE, fits, fldE, ixsE, ixaE, ixvE, fldvE, lenE, lensE, srcE, appE, bnd2, bndL, bndH, bnd0, bndE, slcE, slcC, pickE, allocE, nilchkE, isNilSV, ibinE, ibin, ishfE, ishf, eqnilE, eqbE, notE, negE, cviE, mkslE, mxE, mnE, extE, isNilSl, isNilFn, isNilIf, isNilO, eqniloE, eqsF, eqsE, cellsEq, cellEq, sbinE, sbin, ifcOf, tasF, tasE, cellsSV, cellsAll, layO, mkEnv, lk, hget_zero, hget_succ, putE, uphO, uph, uphL, evX, rdsX, uIds, List.map_cons, List.map_nil, List.length_cons, List.length_nil, List.length_append, List.length_map, List.length_set, List.set_cons_zero, List.set_cons_succ, List.cons_append, List.nil_append, List.append_nil, List.getElem?_cons_zero, List.getElem?_cons_succ, List.getElem?_nil, List.take_succ_cons, List.take_zero, List.drop_succ_cons, List.drop_zero, List.drop_nil, List.take_nil, Option.getD_some, Option.getD_none, Option.map_some, Option.map_none, true_and, and_true, ↓reduceIte, Nat.reduceEqDiff, Nat.reduceAdd, Nat.reduceSub, Nat.reduceMul, Nat.reduceLeDiff, Nat.reduceLT, Nat.zero_add, Nat.add_zero, decide_eq_true_eq, Bool.false_eq_true, reduceCtorEq, rvs_len, rvs_get, rvs_fold, rvs_take, rvs_append, Int.toNat_natCast, bneTT, bneTF, bneFT, bneFF, Bool.not_true, Bool.not_false, splice0, slcaE, clrE, chunks]
    exact ⟨by decide, fin _ (by unfold upF; simp)⟩
  · have he : ((((i - 1) / 2 : Nat) : Int) == (i : Int)) = false := by simp; omega
    simp -implicitDefEqProofs only [hq, he, inv53Less, g_nil, g_skip, g_reg, g_regd, g_seq, g_block, g_end, g_cond, g_ret, g_exit, gx_nil, gx_c, gx_o, gx_d, gx_b, g_onil, g_dnil, g_op, g_opg, g_opd, g_opdg, condI, callvI, invI, plainI, opI, guardI, callvdI, invdI, plaindI, opdI, guarddI, opE, o1, o2, ix2, loadE, storeE, boxE, allLen, bslE, buildE, fits, fldE, ixsE, ixaE, ixvE, fldvE, lenE, lensE, srcE, appE, bnd2, bndL, bndH, bnd0, bndE, slcE, slcC, pickE, allocE, nilchkE, isNilSV, ibinE, ibin, ishfE, ishf, eqnilE, eqbE, notE, negE, cviE, mkslE, mxE, mnE, extE, isNilSl, isNilFn, isNilIf, isNilO, eqniloE, eqsF, eqsE, cellsEq, cellEq, sbinE, sbin, ifcOf, tasF, tasE, cellsSV, cellsAll, layO, mkEnv, lk, hget_zero, hget_succ, putE, uphO, uph, uphL, evX, rdsX, uIds, List.map_cons, List.map_nil, List.length_cons, List.length_nil, List.length_append, List.length_map, List.length_set, List.set_cons_zero, List.set_cons_succ, List.cons_append, List.nil_append, List.append_nil, List.getElem?_cons_zero, List.getElem?_cons_succ, List.getElem?_nil, List.take_succ_cons, List.take_zero, List.drop_succ_cons, List.drop_zero, List.drop_nil, List.take_nil, Option.getD_some, Option.getD_none, Option.map_some, Option.map_none, true_and, and_true, ↓reduceIte, Nat.reduceEqDiff, Nat.reduceAdd, Nat.reduceSub, Nat.reduceMul, Nat.reduceLeDiff, Nat.reduceLT, Nat.zero_add, Nat.add_zero, decide_eq_true_eq, Bool.false_eq_true, reduceCtorEq, rvs_len, rvs_get, rvs_fold, rvs_take, rvs_append, Int.toNat_natCast, bneTT, bneTF, bneFT, bneFF, Bool.not_true, Bool.not_false, splice0, slcaE, clrE, chunks]
    refine ⟨by decide, g_call (spLess 1 v n fs i ((i - 1) / 2) hn' hi' (by omega)) (pre1 rfl) trivial ?_⟩
    by_cases hc : cmpE (ga fs i) (ga fs ((i - 1) / 2)) < 0
    · simp -implicitDefEqProofs only [hc, decide_true, Bool.not_true, inv53Swap, g_nil, g_skip, g_reg, g_regd, g_seq, g_block, g_end, g_cond, g_ret, g_exit, gx_nil, gx_c, gx_o, gx_d, gx_b, g_onil, g_dnil, g_op, g_opg, g_opd, g_opdg, condI, callvI, invI, plainI, opI, guardI, callvdI, invdI, plaindI, opdI, guarddI, opE, o1, o2, ix2, loadE, storeE, boxE, allLen, bslE, buildE, fits, fldE, ixsE, ixaE, ixvE, fldvE, lenE, lensE, srcE, appE, bnd2, bndL, bndH, bnd0, bndE, slcE, slcC, pickE, allocE, nilchkE, isNilSV, ibinE, ibin, ishfE, ishf, eqnilE, eqbE, notE, negE, cviE, mkslE, mxE, mnE, extE, isNilSl, isNilFn, isNilIf, isNilO, eqniloE, eqsF, eqsE, cellsEq, cellEq, sbinE, sbin, ifcOf, tasF, tasE, cellsSV, cellsAll, layO, mkEnv, lk, hget_zero, hget_succ, putE, uphO, uph, uphL, evX, rdsX, uIds, List.map_cons, List.map_nil, List.length_cons, List.length_nil, List.length_append, List.length_map, List.length_set, List.set_cons_zero, List.set_cons_succ, List.cons_append, List.nil_append, List.append_nil, List.getElem?_cons_zero, List.getElem?_cons_succ, List.getElem?_nil, List.take_succ_cons, List.take_zero, List.drop_succ_cons, List.drop_zero, List.drop_nil, List.take_nil, Option.getD_some, Option.getD_none, Option.map_some, Option.map_none, true_and, and_true, ↓reduceIte, Nat.reduceEqDiff, Nat.reduceAdd, Nat.reduceSub, Nat.reduceMul, Nat.reduceLeDiff, Nat.reduceLT, Nat.zero_add, Nat.add_zero, decide_eq_true_eq, Bool.false_eq_true, reduceCtorEq, rvs_len, rvs_get, rvs_fold, rvs_take, rvs_append, Int.toNat_natCast, bneTT, bneTF, bneFT, bneFF, Bool.not_true, Bool.not_false, splice0, slcaE, clrE, chunks]
      refine g_call (spSwap 1 v n fs ((i - 1) / 2) i hn' (by omega) hi') (pre1 rfl) (okU1 rfl) ?_
      simp -implicitDefEqProofs only [g_nil, g_skip, g_reg, g_regd, g_seq, g_block, g_end, g_cond, g_ret, g_exit, gx_nil, gx_c, gx_o, gx_d, gx_b, g_onil, g_dnil, g_op, g_opg, g_opd, g_opdg, condI, callvI, invI, plainI, opI, guardI, callvdI, invdI, plaindI, opdI, guarddI, opE, o1, o2, ix2, loadE, storeE, boxE, allLen, bslE, buildE, fits, fldE, ixsE, ixaE, ixvE, fldvE, lenE, lensE, srcE, appE, bnd2, bndL, bndH, bnd0, bndE, slcE, slcC, pickE, allocE, nilchkE, isNilSV, ibinE, ibin, ishfE, ishf, eqnilE, eqbE, notE, negE, cviE, mkslE, mxE, mnE, extE, isNilSl, isNilFn, isNilIf, isNilO, eqniloE, eqsF, eqsE, cellsEq, cellEq, sbinE, sbin, ifcOf, tasF, tasE, cellsSV, cellsAll, layO, mkEnv, lk, hget_zero, hget_succ, putE, uphO, uph, uphL, evX, rdsX, uIds, List.map_cons, List.map_nil, List.length_cons, List.length_nil, List.length_append, List.length_map, List.length_set, List.set_cons_zero, List.set_cons_succ, List.cons_append, List.nil_append, List.append_nil, List.getElem?_cons_zero, List.getElem?_cons_succ, List.getElem?_nil, List.take_succ_cons, List.take_zero, List.drop_succ_cons, List.drop_zero, List.drop_nil, List.take_nil, Option.getD_some, Option.getD_none, Option.map_some, Option.map_none, true_and, and_true, ↓reduceIte, Nat.reduceEqDiff, Nat.reduceAdd, Nat.reduceSub, Nat.reduceMul, Nat.reduceLeDiff, Nat.reduceLT, Nat.zero_add, Nat.add_zero, decide_eq_true_eq, Bool.false_eq_true, reduceCtorEq, rvs_len, rvs_get, rvs_fold, rvs_take, rvs_append, Int.toNat_natCast, bneTT, bneTF, bneFT, bneFF, Bool.not_true, Bool.not_false, splice0, slcaE, clrE, chunks]
      refine g_noent ?_
      simp -implicitDefEqProofs only [g_nil, g_skip, g_reg, g_regd, g_seq, g_block, g_end, g_cond, g_ret, g_exit, gx_nil, gx_c, gx_o, gx_d, gx_b, g_onil, g_dnil, g_op, g_opg, g_opd, g_opdg, condI, callvI, invI, plainI, opI, guardI, callvdI, invdI, plaindI, opdI, guarddI, opE, o1, o2, ix2, loadE, storeE, boxE, allLen, bslE, buildE, fits, fldE, ixsE, ixaE, ixvE, fldvE, lenE, lensE, srcE, appE, bnd2, bndL, bndH, bnd0, bndE, slcE, slcC, pickE, allocE, nilchkE, isNilSV, ibinE, ibin, ishfE, ishf, eqnilE, eqbE, notE, negE, cviE, mkslE, mxE, mnE, extE, isNilSl, isNilFn, isNilIf, isNilO, eqniloE, eqsF, eqsE, cellsEq, cellEq, sbinE, sbin, ifcOf, tasF, tasE, cellsSV, cellsAll, layO, mkEnv, lk, hget_zero, hget_succ, putE, uphO, uph, uphL, evX, rdsX, uIds, List.map_cons, List.map_nil, List.length_cons, List.length_nil, List.length_append, List.length_map, List.length_set, List.set_cons_zero, List.set_cons_succ, List.cons_append, List.nil_append, List.append_nil, List.getElem?_cons_zero, List.getElem?_cons_succ, List.getElem?_nil, List.take_succ_cons, List.take_zero, List.drop_succ_cons, List.drop_zero, List.drop_nil, List.take_nil, Option.getD_some, Option.getD_none, Option.map_some, Option.map_none, true_and, and_true, ↓reduceIte, Nat.reduceEqDiff, Nat.reduceAdd, Nat.reduceSub, Nat.reduceMul, Nat.reduceLeDiff, Nat.reduceLT, Nat.zero_add, Nat.add_zero, decide_eq_true_eq, Bool.false_eq_true, reduceCtorEq, rvs_len, rvs_get, rvs_fold, rvs_take, rvs_append, Int.toNat_natCast, bneTT, bneTF, bneFT, bneFF, Bool.not_true, Bool.not_false, splice0, slcaE, clrE, chunks]
      refine hN (sw fs ((i - 1) / 2) i, (i - 1) / 2) _ _ ⟨by rw [sw_len]; exact hn', by dsimp only; omega, ?_⟩ (by dsimp only; omega) (ent_env (by simp [lk]))
      rw [← hu]
      conv => rhs; unfold upF
      simp [h0, hc]
    · simp -implicitDefEqProofs only [hc, decide_false, Bool.not_false, g_nil, g_skip, g_reg, g_regd, g_seq, g_block, g_end, g_cond, g_ret, g_exit, gx_nil, gx_c, gx_o, gx_d, gx_b, g_onil, g_dnil, g_op, g_opg, g_opd, g_opdg, condI, callvI, invI, plainI, opI, guardI, callvdI, invdI, plaindI, opdI, guarddI, opE, o1, o2, ix2, loadE, storeE, boxE, allLen, bslE, buildE, fits, fldE, ixsE, ixaE, ixvE, fldvE, lenE, lensE, srcE, appE, bnd2, bndL, bndH, bnd0, bndE, slcE, slcC, pickE, allocE, nilchkE, isNilSV, ibinE, ibin, ishfE, ishf, eqnilE, eqbE, notE, negE, cviE, mkslE, mxE, mnE, extE, isNilSl, isNilFn, isNilIf, isNilO, eqniloE, eqsF, eqsE, cellsEq, cellEq, sbinE, sbin, ifcOf, tasF, tasE, cellsSV, cellsAll, layO, mkEnv, lk, hget_zero, hget_succ, putE, uphO, uph, uphL, evX, rdsX, uIds, List.map_cons, List.map_nil, List.length_cons, List.length_nil, List.length_append, List.length_map, List.length_set, List.set_cons_zero, List.set_cons_succ, List.cons_append, List.nil_append, List.append_nil, List.getElem?_cons_zero, List.getElem?_cons_succ, List.getElem?_nil, List.take_succ_cons, List.take_zero, List.drop_succ_cons, List.drop_zero, List.drop_nil, List.take_nil, Option.getD_some, Option.getD_none, Option.map_some, Option.map_none, true_and, and_true, ↓reduceIte, Nat.reduceEqDiff, Nat.reduceAdd, Nat.reduceSub, Nat.reduceMul, Nat.reduceLeDiff, Nat.reduceLT, Nat.zero_add, Nat.add_zero, decide_eq_true_eq, Bool.false_eq_true, reduceCtorEq, rvs_len, rvs_get, rvs_fold, rvs_take, rvs_append, Int.toNat_natCast, bneTT, bneTF, bneFT, bneFF, Bool.not_true, Bool.not_false, splice0, slcaE, clrE, chunks]
      exact fin _ (by unfold upF; simp [h0, hc])

def pickJ (es : List Ent3) (i m : Nat) : Nat := if 2 * i + 2 < m ∧ cmpE (ga es (2 * i + 2)) (ga es (2 * i + 1)) < 0 then 2 * i + 2 else 2 * i + 1

theorem pickJ_gt (es : List Ent3) (i m : Nat) : i < pickJ es i m := by unfold pickJ; split <;> omega
theorem pickJ_lt (es : List Ent3) (i m : Nat) (h : 2 * i + 1 < m) : pickJ es i m < m := by unfold pickJ; split <;> omega

/-- down of the library's heap. -/
def downF (es : List Ent3) (i m : Nat) : List Ent3 :=
  if h : 2 * i + 1 < m then if cmpE (ga es (pickJ es i m)) (ga es i) < 0 then downF (sw es i (pickJ es i m)) (pickJ es i m) m else es else es
termination_by m - i
decreasing_by have := pickJ_gt es i m; omega

theorem downF_len (m : Nat) : ∀ (k i : Nat) (es : List Ent3), m - i = k → (downF es i m).length = es.length := by
  intro k
  induction k using Nat.strongRecOn with
  | _ k ih =>
    intro i es hk
    unfold downF
    split
    · split
      · have := pickJ_gt es i m
        rw [ih _ (by omega) _ _ rfl, sw_len]
      · rfl
    · rfl

theorem sp28 (i0 i1 v n : Nat) (es : List Ent3) (s m : Nat) (hi : i0 ≠ i1) (hn : n ≤ es.length) (hm : m ≤ n) (hs : s ≤ m) (hb : n < 1000000) :
    CallR Go.Proofs.Try.prog 28 [.ifc 53 (.ptr i0 0), .rv (.int .i64 s), .rv (.int .i64 m)] [(i0, .var [.row i1 v n]), (i1, .row 3 v (rvs (cellsL es)))] [(i1, .row 3 v (rvs (cellsL (downF es s m))))] .dead := by
  refine callR_M k28 [i0, i1] [.var [.row 1 v n], .row 3 v (rvs (cellsL es))] [.var [.row i1 v n], .row 3 v (rvs (cellsL es))] [.ifc 53 (.ptr 0 0), .rv (.int .i64 s), .rv (.int .i64 m)] [.ifc 53 (.ptr i0 0), .rv (.int .i64 s), .rv (.int .i64 m)] _ _ (by simp) (by simp [BkAll, bk_ptr, bk_row, bk_rv, bk_agg, bk_ifc, bk_fn, bk_tup, bk_dead, BkHs, rvs_inj, nodupL]) rfl (by simp [nodupL, hi]) (by simp [BkAll, bk_ptr, bk_row, bk_rv, bk_agg, bk_ifc, bk_fn, bk_tup, bk_dead, BkHs, rvs_inj, nodupL]) (fun K hK => ?_)
  simp -implicitDefEqProofs only [c28, g_nil, g_skip, g_reg, g_regd, g_seq, g_block, g_end, g_cond, g_ret, g_exit, gx_nil, gx_c, gx_o, gx_d, gx_b, g_onil, g_dnil, g_op, g_opg, g_opd, g_opdg, condI, callvI, invI, plainI, opI, guardI, callvdI, invdI, plaindI, opdI, guarddI, opE, o1, o2, ix2, loadE, storeE, boxE, allLen, bslE, buildE, fits, fldE, ixsE, ixaE, ixvE, fldvE, lenE, lensE, srcE, appE, bnd2, bndL, bndH, bnd0, bndE, slcE, slcC, pickE, allocE, nilchkE, isNilSV, ibinE, ibin, ishfE, ishf, eqnilE, eqbE, notE, negE, cviE, mkslE, mxE, mnE, extE, isNilSl, isNilFn, isNilIf, isNilO, eqniloE, eqsF, eqsE, cellsEq, cellEq, sbinE, sbin, ifcOf, tasF, tasE, cellsSV, cellsAll, layO, mkEnv, lk, hget_zero, hget_succ, putE, uphO, uph, uphL, evX, rdsX, uIds, List.map_cons, List.map_nil, List.length_cons, List.length_nil, List.length_append, List.length_map, List.length_set, List.set_cons_zero, List.set_cons_succ, List.cons_append, List.nil_append, List.append_nil, List.getElem?_cons_zero, List.getElem?_cons_succ, List.getElem?_nil, List.take_succ_cons, List.take_zero, List.drop_succ_cons, List.drop_zero, List.drop_nil, List.take_nil, Option.getD_some, Option.getD_none, Option.map_some, Option.map_none, true_and, and_true, ↓reduceIte, Nat.reduceEqDiff, Nat.reduceAdd, Nat.reduceSub, Nat.reduceMul, Nat.reduceLeDiff, Nat.reduceLT, Nat.zero_add, Nat.add_zero, decide_eq_true_eq, Bool.false_eq_true, reduceCtorEq, rvs_len, rvs_get, rvs_fold, rvs_take, rvs_append, Int.toNat_natCast, bneTT, bneTF, bneFT, bneFF, Bool.not_true, Bool.not_false, splice0, slcaE, clrE, chunks]
  refine g_loop (ι := List Ent3 × Nat) (fun x => [(7, .rv (.int .i64 x.2)), (0, .ifc 53 (.ptr 0 0)), (1, .rv (.int .i64 s)), (2, .rv (.int .i64 m))]) (fun x => [some (.var [.row 1 v n]), some (.row 3 v (rvs (cellsL x.1)))]) (fun x => n ≤ x.1.length ∧ x.2 ≤ m ∧ downF x.1 x.2 m = downF es s m) (fun x => m - x.2) (es, s) ⟨hn, hs, rfl⟩ (ent_env (by simp [lk])) (fun x hx K' hN hX hR => ?_)
  obtain ⟨fs, i⟩ := x
  obtain ⟨hn', hi', hu⟩ := hx
  dsimp only at hn' hi' hu ⊢
  have h1 : IntKind.i64.wrap (IntKind.i64.wrap (2 * (i : Int)) + 1) = ((2 * i + 1 : Nat) : Int) := by
    rw [wrap_i64 (n := 2 * (i : Int)) (by omega) (by omega), wrap_i64 (by omega) (by omega)]; omega
  have h2 : IntKind.i64.wrap (((2 * i + 1 : Nat) : Int) + 1) = ((2 * i + 2 : Nat) : Int) := by
    rw [wrap_i64 (by omega) (by omega)]; omega
  have fin : ∀ (e : List (Nat × SV)), downF fs i m = fs → lk e 7 = .rv (.int .i64 i) → lk e 1 = .rv (.int .i64 s) → K' (.exit 0) ⟨e, [some (.var [.row 1 v n]), some (.row 3 v (rvs (cellsL fs)))]⟩ := fun e hf l7 l1 => by
    refine hX 0 _ _ ?_
    simp -implicitDefEqProofs only [g_nil, g_skip, g_reg, g_regd, g_seq, g_block, g_end, g_cond, g_ret, g_exit, gx_nil, gx_c, gx_o, gx_d, gx_b, g_onil, g_dnil, g_op, g_opg, g_opd, g_opdg, condI, callvI, invI, plainI, opI, guardI, callvdI, invdI, plaindI, opdI, guarddI, opE, o1, o2, ix2, loadE, storeE, boxE, allLen, bslE, buildE, fits, fldE, ixsE, ixaE, ixvE, fldvE, lenE, lensE, srcE, appE, bnd2, bndL, bndH, bnd0, bndE, slcE, slcC, pickE, allocE, nilchkE, isNilSV, ibinE, ibin, ishfE, ishf, eqnilE, eqbE, notE, negE, cviE, mkslE, mxE, mnE, extE, isNilSl, isNilFn, isNilIf, isNilO, eqniloE, eqsF, eqsE, cellsEq, cellEq, sbinE, sbin, ifcOf, tasF, tasE, cellsSV, cellsAll, layO, mkEnv, lk, hget_zero, hget_succ, putE, uphO, uph, uphL, evX, rdsX, uIds, List.map_cons, List.map_nil, List.length_cons, List.length_nil, List.length_append, List.length_map, List.length_set, List.set_cons_zero, List.set_cons_succ, List.cons_append, List.nil_append, List.append_nil, List.getElem?_cons_zero, List.getElem?_cons_succ, List.getElem?_nil, List.take_succ_cons, List.take_zero, List.drop_succ_cons, List.drop_zero, List.drop_nil, List.take_nil, Option.getD_some, Option.getD_none, Option.map_some, Option.map_none, true_and, and_true, ↓reduceIte, Nat.reduceEqDiff, Nat.reduceAdd, Nat.reduceSub, Nat.reduceMul, Nat.reduceLeDiff, Nat.reduceLT, Nat.zero_add, Nat.add_zero, decide_eq_true_eq, Bool.false_eq_true, reduceCtorEq, rvs_len, rvs_get, rvs_fold, rvs_take, rvs_append, Int.toNat_natCast, bneTT, bneTF, bneFT, bneFF, Bool.not_true, Bool.not_false, splice0, slcaE, clrE, chunks]
    refine g_noent ?_
    simp -implicitDefEqProofs only [l7, l1, g_nil, g_skip, g_reg, g_regd, g_seq, g_block, g_end, g_cond, g_ret, g_exit, gx_nil, gx_c, gx_o, gx_d, gx_b, g_onil, g_dnil, g_op, g_opg, g_opd, g_opdg, condI, callvI, invI, plainI, opI, guardI, callvdI, invdI, plaindI, opdI, guarddI, opE, o1, o2, ix2, loadE, storeE, boxE, allLen, bslE, buildE, fits, fldE, ixsE, ixaE, ixvE, fldvE, lenE, lensE, srcE, appE, bnd2, bndL, bndH, bnd0, bndE, slcE, slcC, pickE, allocE, nilchkE, isNilSV, ibinE, ibin, ishfE, ishf, eqnilE, eqbE, notE, negE, cviE, mkslE, mxE, mnE, extE, isNilSl, isNilFn, isNilIf, isNilO, eqniloE, eqsF, eqsE, cellsEq, cellEq, sbinE, sbin, ifcOf, tasF, tasE, cellsSV, cellsAll, layO, mkEnv, lk, hget_zero, hget_succ, putE, uphO, uph, uphL, evX, rdsX, uIds, List.map_cons, List.map_nil, List.length_cons, List.length_nil, List.length_append, List.length_map, List.length_set, List.set_cons_zero, List.set_cons_succ, List.cons_append, List.nil_append, List.append_nil, List.getElem?_cons_zero, List.getElem?_cons_succ, List.getElem?_nil, List.take_succ_cons, List.take_zero, List.drop_succ_cons, List.drop_zero, List.drop_nil, List.take_nil, Option.getD_some, Option.getD_none, Option.map_some, Option.map_none, true_and, and_true, ↓reduceIte, Nat.reduceEqDiff, Nat.reduceAdd, Nat.reduceSub, Nat.reduceMul, Nat.reduceLeDiff, Nat.reduceLT, Nat.zero_add, Nat.add_zero, decide_eq_true_eq, Bool.false_eq_true, reduceCtorEq, rvs_len, rvs_get, rvs_fold, rvs_take, rvs_append, Int.toNat_natCast, bneTT, bneTF, bneFT, bneFF, Bool.not_true, Bool.not_false, splice0, slcaE, clrE, chunks]
    refine (hK _ _ _ _ [] (ent_refl _ _) ?_).2
    rw [← hu, hf]
    simp [retM, nodupL, newL, allU, keptL, retP, resL, lk, resT, RnHo, lkp, finU, hget_zero, hget_succ, hget, rnRows_rvs, rn_tup, rn_rv, rn_row, rn_ptr, rn_ifc, rn_agg, rn_dead, RnAll, ofL, rnAll_map, hi, Ne.symm hi]
  by_cases hc : 2 * i + 1 < m
  · have e1 : decide (((2 * i + 1 : Nat) : Int) ≥ (m : Int)) = false := by simp; omega
    have e2 : decide (((2 * i + 1 : Nat) : Int) < 0) = false := by simp; omega
    have hcs : (2 * i + 2 < m ∧ cmpE (ga fs (2 * i + 2)) (ga fs (2 * i + 1)) < 0 ∧ pickJ fs i m = 2 * i + 2) ∨ (2 * i + 2 < m ∧ ¬ cmpE (ga fs (2 * i + 2)) (ga fs (2 * i + 1)) < 0 ∧ pickJ fs i m = 2 * i + 1) ∨ (¬ 2 * i + 2 < m ∧ pickJ fs i m = 2 * i + 1) := by
      unfold pickJ
      by_cases ha : 2 * i + 2 < m <;> by_cases hb : cmpE (ga fs (2 * i + 2)) (ga fs (2 * i + 1)) < 0 <;> simp [ha, hb]
    have hj1 := pickJ_gt fs i m
    have hj2 := pickJ_lt fs i m hc
    rcases hcs with ⟨a, b, p⟩ | ⟨a, b, p⟩ | ⟨a, p⟩
    case' pos.inl =>
      have e3 : decide (((2 * i + 2 : Nat) : Int) < (m : Int)) = true := by simp; omega
      simp -implicitDefEqProofs only [h1, h2, e1, e2, e3, inv53Less, g_nil, g_skip, g_reg, g_regd, g_seq, g_block, g_end, g_cond, g_ret, g_exit, gx_nil, gx_c, gx_o, gx_d, gx_b, g_onil, g_dnil, g_op, g_opg, g_opd, g_opdg, condI, callvI, invI, plainI, opI, guardI, callvdI, invdI, plaindI, opdI, guarddI, opE, o1, o2, ix2, loadE, storeE, boxE, allLen, bslE, buildE, fits, fldE, ixsE, ixaE, ixvE, fldvE, lenE, lensE, srcE, appE, bnd2, bndL, bndH, bnd0, bndE, slcE, slcC, pickE, allocE, nilchkE, isNilSV, ibinE, ibin, ishfE, ishf, eqnilE, eqbE, notE, negE, cviE, mkslE, mxE, mnE, extE, isNilSl, isNilFn, isNilIf, isNilO, eqniloE, eqsF, eqsE, cellsEq, cellEq, sbinE, sbin, ifcOf, tasF, tasE, cellsSV, cellsAll, layO, mkEnv, lk, hget_zero, hget_succ, putE, uphO, uph, uphL, evX, rdsX, uIds, List.map_cons, List.map_nil, List.length_cons, List.length_nil, List.length_append, List.length_map, List.length_set, List.set_cons_zero, List.set_cons_succ, List.cons_append, List.nil_append, List.append_nil, List.getElem?_cons_zero, List.getElem?_cons_succ, List.getElem?_nil, List.take_succ_cons, List.take_zero, List.drop_succ_cons, List.drop_zero, List.drop_nil, List.take_nil, Option.getD_some, Option.getD_none, Option.map_some, Option.map_none, true_and, and_true, ↓reduceIte, Nat.reduceEqDiff, Nat.reduceAdd, Nat.reduceSub, Nat.reduceMul, Nat.reduceLeDiff, Nat.reduceLT, Nat.zero_add, Nat.add_zero, decide_eq_true_eq, Bool.false_eq_true, reduceCtorEq, rvs_len, rvs_get, rvs_fold, rvs_take, rvs_append, Int.toNat_natCast, bneTT, bneTF, bneFT, bneFF, Bool.not_true, Bool.not_false, splice0, slcaE, clrE, chunks]
      refine g_call (spLess 1 v n fs (2 * i + 2) (2 * i + 1) hn' (by omega) (by omega)) (pre1 rfl) trivial ?_
      simp -implicitDefEqProofs only [b, decide_true, g_nil, g_skip, g_reg, g_regd, g_seq, g_block, g_end, g_cond, g_ret, g_exit, gx_nil, gx_c, gx_o, gx_d, gx_b, g_onil, g_dnil, g_op, g_opg, g_opd, g_opdg, condI, callvI, invI, plainI, opI, guardI, callvdI, invdI, plaindI, opdI, guarddI, opE, o1, o2, ix2, loadE, storeE, boxE, allLen, bslE, buildE, fits, fldE, ixsE, ixaE, ixvE, fldvE, lenE, lensE, srcE, appE, bnd2, bndL, bndH, bnd0, bndE, slcE, slcC, pickE, allocE, nilchkE, isNilSV, ibinE, ibin, ishfE, ishf, eqnilE, eqbE, notE, negE, cviE, mkslE, mxE, mnE, extE, isNilSl, isNilFn, isNilIf, isNilO, eqniloE, eqsF, eqsE, cellsEq, cellEq, sbinE, sbin, ifcOf, tasF, tasE, cellsSV, cellsAll, layO, mkEnv, lk, hget_zero, hget_succ, putE, uphO, uph, uphL, evX, rdsX, uIds, List.map_cons, List.map_nil, List.length_cons, List.length_nil, List.length_append, List.length_map, List.length_set, List.set_cons_zero, List.set_cons_succ, List.cons_append, List.nil_append, List.append_nil, List.getElem?_cons_zero, List.getElem?_cons_succ, List.getElem?_nil, List.take_succ_cons, List.take_zero, List.drop_succ_cons, List.drop_zero, List.drop_nil, List.take_nil, Option.getD_some, Option.getD_none, Option.map_some, Option.map_none, true_and, and_true, ↓reduceIte, Nat.reduceEqDiff, Nat.reduceAdd, Nat.reduceSub, Nat.reduceMul, Nat.reduceLeDiff, Nat.reduceLT, Nat.zero_add, Nat.add_zero, decide_eq_true_eq, Bool.false_eq_true, reduceCtorEq, rvs_len, rvs_get, rvs_fold, rvs_take, rvs_append, Int.toNat_natCast, bneTT, bneTF, bneFT, bneFF, Bool.not_true, Bool.not_false, splice0, slcaE, clrE, chunks]
    case' pos.inr.inl =>
      have e3 : decide (((2 * i + 2 : Nat) : Int) < (m : Int)) = true := by simp; omega
      simp -implicitDefEqProofs only [h1, h2, e1, e2, e3, inv53Less, g_nil, g_skip, g_reg, g_regd, g_seq, g_block, g_end, g_cond, g_ret, g_exit, gx_nil, gx_c, gx_o, gx_d, gx_b, g_onil, g_dnil, g_op, g_opg, g_opd, g_opdg, condI, callvI, invI, plainI, opI, guardI, callvdI, invdI, plaindI, opdI, guarddI, opE, o1, o2, ix2, loadE, storeE, boxE, allLen, bslE, buildE, fits, fldE, ixsE, ixaE, ixvE, fldvE, lenE, lensE, srcE, appE, bnd2, bndL, bndH, bnd0, bndE, slcE, slcC, pickE, allocE, nilchkE, isNilSV, ibinE, ibin, ishfE, ishf, eqnilE, eqbE, notE, negE, cviE, mkslE, mxE, mnE, extE, isNilSl, isNilFn, isNilIf, isNilO, eqniloE, eqsF, eqsE, cellsEq, cellEq, sbinE, sbin, ifcOf, tasF, tasE, cellsSV, cellsAll, layO, mkEnv, lk, hget_zero, hget_succ, putE, uphO, uph, uphL, evX, rdsX, uIds, List.map_cons, List.map_nil, List.length_cons, List.length_nil, List.length_append, List.length_map, List.length_set, List.set_cons_zero, List.set_cons_succ, List.cons_append, List.nil_append, List.append_nil, List.getElem?_cons_zero, List.getElem?_cons_succ, List.getElem?_nil, List.take_succ_cons, List.take_zero, List.drop_succ_cons, List.drop_zero, List.drop_nil, List.take_nil, Option.getD_some, Option.getD_none, Option.map_some, Option.map_none, true_and, and_true, ↓reduceIte, Nat.reduceEqDiff, Nat.reduceAdd, Nat.reduceSub, Nat.reduceMul, Nat.reduceLeDiff, Nat.reduceLT, Nat.zero_add, Nat.add_zero, decide_eq_true_eq, Bool.false_eq_true, reduceCtorEq, rvs_len, rvs_get, rvs_fold, rvs_take, rvs_append, Int.toNat_natCast, bneTT, bneTF, bneFT, bneFF, Bool.not_true, Bool.not_false, splice0, slcaE, clrE, chunks]
      refine g_call (spLess 1 v n fs (2 * i + 2) (2 * i + 1) hn' (by omega) (by omega)) (pre1 rfl) trivial ?_
      simp -implicitDefEqProofs only [b, decide_false, g_nil, g_skip, g_reg, g_regd, g_seq, g_block, g_end, g_cond, g_ret, g_exit, gx_nil, gx_c, gx_o, gx_d, gx_b, g_onil, g_dnil, g_op, g_opg, g_opd, g_opdg, condI, callvI, invI, plainI, opI, guardI, callvdI, invdI, plaindI, opdI, guarddI, opE, o1, o2, ix2, loadE, storeE, boxE, allLen, bslE, buildE, fits, fldE, ixsE, ixaE, ixvE, fldvE, lenE, lensE, srcE, appE, bnd2, bndL, bndH, bnd0, bndE, slcE, slcC, pickE, allocE, nilchkE, isNilSV, ibinE, ibin, ishfE, ishf, eqnilE, eqbE, notE, negE, cviE, mkslE, mxE, mnE, extE, isNilSl, isNilFn, isNilIf, isNilO, eqniloE, eqsF, eqsE, cellsEq, cellEq, sbinE, sbin, ifcOf, tasF, tasE, cellsSV, cellsAll, layO, mkEnv, lk, hget_zero, hget_succ, putE, uphO, uph, uphL, evX, rdsX, uIds, List.map_cons, List.map_nil, List.length_cons, List.length_nil, List.length_append, List.length_map, List.length_set, List.set_cons_zero, List.set_cons_succ, List.cons_append, List.nil_append, List.append_nil, List.getElem?_cons_zero, List.getElem?_cons_succ, List.getElem?_nil, List.take_succ_cons, List.take_zero, List.drop_succ_cons, List.drop_zero, List.drop_nil, List.take_nil, Option.getD_some, Option.getD_none, Option.map_some, Option.map_none, true_and, and_true, ↓reduceIte, Nat.reduceEqDiff, Nat.reduceAdd, Nat.reduceSub, Nat.reduceMul, Nat.reduceLeDiff, Nat.reduceLT, Nat.zero_add, Nat.add_zero, decide_eq_true_eq, Bool.false_eq_true, reduceCtorEq, rvs_len, rvs_get, rvs_fold, rvs_take, rvs_append, Int.toNat_natCast, bneTT, bneTF, bneFT, bneFF, Bool.not_true, Bool.not_false, splice0, slcaE, clrE, chunks]
    case' pos.inr.inr =>
      have e3 : decide (((2 * i + 2 : Nat) : Int) < (m : Int)) = false := by simp; omega
      simp -implicitDefEqProofs only [h1, h2, e1, e2, e3, inv53Less, g_nil, g_skip, g_reg, g_regd, g_seq, g_block, g_end, g_cond, g_ret, g_exit, gx_nil, gx_c, gx_o, gx_d, gx_b, g_onil, g_dnil, g_op, g_opg, g_opd, g_opdg, condI, callvI, invI, plainI, opI, guardI, callvdI, invdI, plaindI, opdI, guarddI, opE, o1, o2, ix2, loadE, storeE, boxE, allLen, bslE, buildE, fits, fldE, ixsE, ixaE, ixvE, fldvE, lenE, lensE, srcE, appE, bnd2, bndL, bndH, bnd0, bndE, slcE, slcC, pickE, allocE, nilchkE, isNilSV, ibinE, ibin, ishfE, ishf, eqnilE, eqbE, notE, negE, cviE, mkslE, mxE, mnE, extE, isNilSl, isNilFn, isNilIf, isNilO, eqniloE, eqsF, eqsE, cellsEq, cellEq, sbinE, sbin, ifcOf, tasF, tasE, cellsSV, cellsAll, layO, mkEnv, lk, hget_zero, hget_succ, putE, uphO, uph, uphL, evX, rdsX, uIds, List.map_cons, List.map_nil, List.length_cons, List.length_nil, List.length_append, List.length_map, List.length_set, List.set_cons_zero, List.set_cons_succ, List.cons_append, List.nil_append, List.append_nil, List.getElem?_cons_zero, List.getElem?_cons_succ, List.getElem?_nil, List.take_succ_cons, List.take_zero, List.drop_succ_cons, List.drop_zero, List.drop_nil, List.take_nil, Option.getD_some, Option.getD_none, Option.map_some, Option.map_none, true_and, and_true, ↓reduceIte, Nat.reduceEqDiff, Nat.reduceAdd, Nat.reduceSub, Nat.reduceMul, Nat.reduceLeDiff, Nat.reduceLT, Nat.zero_add, Nat.add_zero, decide_eq_true_eq, Bool.false_eq_true, reduceCtorEq, rvs_len, rvs_get, rvs_fold, rvs_take, rvs_append, Int.toNat_natCast, bneTT, bneTF, bneFT, bneFF, Bool.not_true, Bool.not_false, splice0, slcaE, clrE, chunks]
    all_goals
      refine g_ent [(9, .rv (.int .i64 (pickJ fs i m : Nat))), (7, .rv (.int .i64 i)), (0, .ifc 53 (.ptr 0 0)), (1, .rv (.int .i64 s)), (2, .rv (.int .i64 m))] _ (ent_env (by simp [lk, p])) ?_
      simp -implicitDefEqProofs only [inv53Less, g_nil, g_skip, g_reg, g_regd, g_seq, g_block, g_end, g_cond, g_ret, g_exit, gx_nil, gx_c, gx_o, gx_d, gx_b, g_onil, g_dnil, g_op, g_opg, g_opd, g_opdg, condI, callvI, invI, plainI, opI, guardI, callvdI, invdI, plaindI, opdI, guarddI, opE, o1, o2, ix2, loadE, storeE, boxE, allLen, bslE, buildE, fits, fldE, ixsE, ixaE, ixvE, fldvE, lenE, lensE, srcE, appE, bnd2, bndL, bndH, bnd0, bndE, slcE, slcC, pickE, allocE, nilchkE, isNilSV, ibinE, ibin, ishfE, ishf, eqnilE, eqbE, notE, negE, cviE, mkslE, mxE, mnE, extE, isNilSl, isNilFn, isNilIf, isNilO, eqniloE, eqsF, eqsE, cellsEq, cellEq, sbinE, sbin, ifcOf, tasF, tasE, cellsSV, cellsAll, layO, mkEnv, lk, hget_zero, hget_succ, putE, uphO, uph, uphL, evX, rdsX, uIds, List.map_cons, List.map_nil, List.length_cons, List.length_nil, List.length_append, List.length_map, List.length_set, List.set_cons_zero, List.set_cons_succ, List.cons_append, List.nil_append, List.append_nil, List.getElem?_cons_zero, List.getElem?_cons_succ, List.getElem?_nil, List.take_succ_cons, List.take_zero, List.drop_succ_cons, List.drop_zero, List.drop_nil, List.take_nil, Option.getD_some, Option.getD_none, Option.map_some, Option.map_none, true_and, and_true, ↓reduceIte, Nat.reduceEqDiff, Nat.reduceAdd, Nat.reduceSub, Nat.reduceMul, Nat.reduceLeDiff, Nat.reduceLT, Nat.zero_add, Nat.add_zero, decide_eq_true_eq, Bool.false_eq_true, reduceCtorEq, rvs_len, rvs_get, rvs_fold, rvs_take, rvs_append, Int.toNat_natCast, bneTT, bneTF, bneFT, bneFF, Bool.not_true, Bool.not_false, splice0, slcaE, clrE, chunks]
      refine g_call (spLess 1 v n fs (pickJ fs i m) i hn' (by omega) (by omega)) (pre1 rfl) trivial ?_
      by_cases hd : cmpE (ga fs (pickJ fs i m)) (ga fs i) < 0
      · simp -implicitDefEqProofs only [hd, decide_true, Bool.not_true, inv53Swap, g_nil, g_skip, g_reg, g_regd, g_seq, g_block, g_end, g_cond, g_ret, g_exit, gx_nil, gx_c, gx_o, gx_d, gx_b, g_onil, g_dnil, g_op, g_opg, g_opd, g_opdg, condI, callvI, invI, plainI, opI, guardI, callvdI, invdI, plaindI, opdI, guarddI, opE, o1, o2, ix2, loadE, storeE, boxE, allLen, bslE, buildE, fits, fldE, ixsE, ixaE, ixvE, fldvE, lenE, lensE, srcE, appE, bnd2, bndL, bndH, bnd0, bndE, slcE, slcC, pickE, allocE, nilchkE, isNilSV, ibinE, ibin, ishfE, ishf, eqnilE, eqbE, notE, negE, cviE, mkslE, mxE, mnE, extE, isNilSl, isNilFn, isNilIf, isNilO, eqniloE, eqsF, eqsE, cellsEq, cellEq, sbinE, sbin, ifcOf, tasF, tasE, cellsSV, cellsAll, layO, mkEnv, lk, hget_zero, hget_succ, putE, uphO, uph, uphL, evX, rdsX, uIds, List.map_cons, List.map_nil, List.length_cons, List.length_nil, List.length_append, List.length_map, List.length_set, List.set_cons_zero, List.set_cons_succ, List.cons_append, List.nil_append, List.append_nil, List.getElem?_cons_zero, List.getElem?_cons_succ, List.getElem?_nil, List.take_succ_cons, List.take_zero, List.drop_succ_cons, List.drop_zero, List.drop_nil, List.take_nil, Option.getD_some, Option.getD_none, Option.map_some, Option.map_none, true_and, and_true, ↓reduceIte, Nat.reduceEqDiff, Nat.reduceAdd, Nat.reduceSub, Nat.reduceMul, Nat.reduceLeDiff, Nat.reduceLT, Nat.zero_add, Nat.add_zero, decide_eq_true_eq, Bool.false_eq_true, reduceCtorEq, rvs_len, rvs_get, rvs_fold, rvs_take, rvs_append, Int.toNat_natCast, bneTT, bneTF, bneFT, bneFF, Bool.not_true, Bool.not_false, splice0, slcaE, clrE, chunks]
        refine g_call (spSwap 1 v n fs i (pickJ fs i m) hn' (by omega) (by omega)) (pre1 rfl) (okU1 rfl) ?_
        simp -implicitDefEqProofs only [g_nil, g_skip, g_reg, g_regd, g_seq, g_block, g_end, g_cond, g_ret, g_exit, gx_nil, gx_c, gx_o, gx_d, gx_b, g_onil, g_dnil, g_op, g_opg, g_opd, g_opdg, condI, callvI, invI, plainI, opI, guardI, callvdI, invdI, plaindI, opdI, guarddI, opE, o1, o2, ix2, loadE, storeE, boxE, allLen, bslE, buildE, fits, fldE, ixsE, ixaE, ixvE, fldvE, lenE, lensE, srcE, appE, bnd2, bndL, bndH, bnd0, bndE, slcE, slcC, pickE, allocE, nilchkE, isNilSV, ibinE, ibin, ishfE, ishf, eqnilE, eqbE, notE, negE, cviE, mkslE, mxE, mnE, extE, isNilSl, isNilFn, isNilIf, isNilO, eqniloE, eqsF, eqsE, cellsEq, cellEq, sbinE, sbin, ifcOf, tasF, tasE, cellsSV, cellsAll, layO, mkEnv, lk, hget_zero, hget_succ, putE, uphO, uph, uphL, evX, rdsX, uIds, List.map_cons, List.map_nil, List.length_cons, List.length_nil, List.length_append, List.length_map, List.length_set, List.set_cons_zero, List.set_cons_succ, List.cons_append, List.nil_append, List.append_nil, List.getElem?_cons_zero, List.getElem?_cons_succ, List.getElem?_nil, List.take_succ_cons, List.take_zero, List.drop_succ_cons, List.drop_zero, List.drop_nil, List.take_nil, Option.getD_some, Option.getD_none, Option.map_some, Option.map_none, true_and, and_true, ↓reduceIte, Nat.reduceEqDiff, Nat.reduceAdd, Nat.reduceSub, Nat.reduceMul, Nat.reduceLeDiff, Nat.reduceLT, Nat.zero_add, Nat.add_zero, decide_eq_true_eq, Bool.false_eq_true, reduceCtorEq, rvs_len, rvs_get, rvs_fold, rvs_take, rvs_append, Int.toNat_natCast, bneTT, bneTF, bneFT, bneFF, Bool.not_true, Bool.not_false, splice0, slcaE, clrE, chunks]
        refine g_noent ?_
        simp -implicitDefEqProofs only [g_nil, g_skip, g_reg, g_regd, g_seq, g_block, g_end, g_cond, g_ret, g_exit, gx_nil, gx_c, gx_o, gx_d, gx_b, g_onil, g_dnil, g_op, g_opg, g_opd, g_opdg, condI, callvI, invI, plainI, opI, guardI, callvdI, invdI, plaindI, opdI, guarddI, opE, o1, o2, ix2, loadE, storeE, boxE, allLen, bslE, buildE, fits, fldE, ixsE, ixaE, ixvE, fldvE, lenE, lensE, srcE, appE, bnd2, bndL, bndH, bnd0, bndE, slcE, slcC, pickE, allocE, nilchkE, isNilSV, ibinE, ibin, ishfE, ishf, eqnilE, eqbE, notE, negE, cviE, mkslE, mxE, mnE, extE, isNilSl, isNilFn, isNilIf, isNilO, eqniloE, eqsF, eqsE, cellsEq, cellEq, sbinE, sbin, ifcOf, tasF, tasE, cellsSV, cellsAll, layO, mkEnv, lk, hget_zero, hget_succ, putE, uphO, uph, uphL, evX, rdsX, uIds, List.map_cons, List.map_nil, List.length_cons, List.length_nil, List.length_append, List.length_map, List.length_set, List.set_cons_zero, List.set_cons_succ, List.cons_append, List.nil_append, List.append_nil, List.getElem?_cons_zero, List.getElem?_cons_succ, List.getElem?_nil, List.take_succ_cons, List.take_zero, List.drop_succ_cons, List.drop_zero, List.drop_nil, List.take_nil, Option.getD_some, Option.getD_none, Option.map_some, Option.map_none, true_and, and_true, ↓reduceIte, Nat.reduceEqDiff, Nat.reduceAdd, Nat.reduceSub, Nat.reduceMul, Nat.reduceLeDiff, Nat.reduceLT, Nat.zero_add, Nat.add_zero, decide_eq_true_eq, Bool.false_eq_true, reduceCtorEq, rvs_len, rvs_get, rvs_fold, rvs_take, rvs_append, Int.toNat_natCast, bneTT, bneTF, bneFT, bneFF, Bool.not_true, Bool.not_false, splice0, slcaE, clrE, chunks]
        refine hN (sw fs i (pickJ fs i m), pickJ fs i m) _ _ ⟨by rw [sw_len]; exact hn', by dsimp only; omega, ?_⟩ (by dsimp only; omega) (ent_env (by simp [lk]))
        rw [← hu]
        conv => rhs; unfold downF
        simp [hc, hd]
      · simp -implicitDefEqProofs only [hd, decide_false, Bool.not_false, g_nil, g_skip, g_reg, g_regd, g_seq, g_block, g_end, g_cond, g_ret, g_exit, gx_nil, gx_c, gx_o, gx_d, gx_b, g_onil, g_dnil, g_op, g_opg, g_opd, g_opdg, condI, callvI, invI, plainI, opI, guardI, callvdI, invdI, plaindI, opdI, guarddI, opE, o1, o2, ix2, loadE, storeE, boxE, allLen, bslE, buildE, fits, fldE, ixsE, ixaE, ixvE, fldvE, lenE, lensE, srcE, appE, bnd2, bndL, bndH, bnd0, bndE, slcE, slcC, pickE, allocE, nilchkE, isNilSV, ibinE, ibin, ishfE, ishf, eqnilE, eqbE, notE, negE, cviE, mkslE, mxE, mnE, extE, isNilSl, isNilFn, isNilIf, isNilO, eqniloE, eqsF, eqsE, cellsEq, cellEq, sbinE, sbin, ifcOf, tasF, tasE, cellsSV, cellsAll, layO, mkEnv, lk, hget_zero, hget_succ, putE, uphO, uph, uphL, evX, rdsX, uIds, List.map_cons, List.map_nil, List.length_cons, List.length_nil, List.length_append, List.length_map, List.length_set, List.set_cons_zero, List.set_cons_succ, List.cons_append, List.nil_append, List.append_nil, List.getElem?_cons_zero, List.getElem?_cons_succ, List.getElem?_nil, List.take_succ_cons, List.take_zero, List.drop_succ_cons, List.drop_zero, List.drop_nil, List.take_nil, Option.getD_some, Option.getD_none, Option.map_some, Option.map_none, true_and, and_true, ↓reduceIte, Nat.reduceEqDiff, Nat.reduceAdd, Nat.reduceSub, Nat.reduceMul, Nat.reduceLeDiff, Nat.reduceLT, Nat.zero_add, Nat.add_zero, decide_eq_true_eq, Bool.false_eq_true, reduceCtorEq, rvs_len, rvs_get, rvs_fold, rvs_take, rvs_append, Int.toNat_natCast, bneTT, bneTF, bneFT, bneFF, Bool.not_true, Bool.not_false, splice0, slcaE, clrE, chunks]
        exact fin _ (by unfold downF; simp [hc, hd]) (by simp [lk]) (by simp [lk])
  · have e1 : decide (((2 * i + 1 : Nat) : Int) ≥ (m : Int)) = true := by simp; omega
    simp -implicitDefEqProofs only [h1, e1, g_nil, g_skip, g_reg, g_regd, g_seq, g_block, g_end, g_cond, g_ret, g_exit, gx_nil, gx_c, gx_o, gx_d, gx_b, g_onil, g_dnil, g_op, g_opg, g_opd, g_opdg, condI, callvI, invI, plainI, opI, guardI, callvdI, invdI, plaindI, opdI, guarddI, opE, o1, o2, ix2, loadE, storeE, boxE, allLen, bslE, buildE, fits, fldE, ixsE, ixaE, ixvE, fldvE, lenE, lensE, srcE, appE, bnd2, bndL, bndH, bnd0, bndE, slcE, slcC, pickE, allocE, nilchkE, isNilSV, ibinE, ibin, ishfE, ishf, eqnilE, eqbE, notE, negE, cviE, mkslE, mxE, mnE, extE, isNilSl, isNilFn, isNilIf, isNilO, eqniloE, eqsF, eqsE, cellsEq, cellEq, sbinE, sbin, ifcOf, tasF, tasE, cellsSV, cellsAll, layO, mkEnv, lk, hget_zero, hget_succ, putE, uphO, uph, uphL, evX, rdsX, uIds, List.map_cons, List.map_nil, List.length_cons, List.length_nil, List.length_append, List.length_map, List.length_set, List.set_cons_zero, List.set_cons_succ, List.cons_append, List.nil_append, List.append_nil, List.getElem?_cons_zero, List.getElem?_cons_succ, List.getElem?_nil, List.take_succ_cons, List.take_zero, List.drop_succ_cons, List.drop_zero, List.drop_nil, List.take_nil, Option.getD_some, Option.getD_none, Option.map_some, Option.map_none, true_and, and_true, ↓reduceIte, Nat.reduceEqDiff, Nat.reduceAdd, Nat.reduceSub, Nat.reduceMul, Nat.reduceLeDiff, Nat.reduceLT, Nat.zero_add, Nat.add_zero, decide_eq_true_eq, Bool.false_eq_true, reduceCtorEq, rvs_len, rvs_get, rvs_fold, rvs_take, rvs_append, Int.toNat_natCast, bneTT, bneTF, bneFT, bneFF, Bool.not_true, Bool.not_false, splice0, slcaE, clrE, chunks]
    exact fin _ (by unfold downF; simp [hc]) (by simp [lk]) (by simp [lk])
end Go.Eng


/- agenda: what is added and taken. -/
namespace Go.Eng
open Go
/- (*decoupage/agenda.Agenda).Add -/
def c11 : AC := (.seq (.reg [⟨(some 3), .box, [(.t 1)], none⟩]) (.seq (.reg [⟨(some 4), .mv, [(.t 0)], none⟩, ⟨(some 5), (.eqnil true), [(.t 4)], none⟩]) (.seq (.cond (.t 5) (.regd [0, 1, 3, 7, 0, 16, 63] [⟨(some 6), .mv, [(.t 0)], none⟩, ⟨(some 7), .nilchk, [(.t 6)], none⟩, ⟨(some 8), (.fld 0), [(.t 7)], none⟩, ⟨(some 9), (.mkif 53), [(.t 8)], none⟩, ⟨(some 10), (.load 3 true), [(.t 3)], none⟩, ⟨(some 11), (.mkif 23), [(.t 10)], none⟩, ⟨(some 12), (.call 21), [(.t 9), (.t 11)], none⟩]) .skip) .ent)))
theorem k11 : FnOK Go.Proofs.Try.prog 11 13 c11 [] := fnOK_of (by kernel_rfl)

/- (*decoupage/agenda.Agenda).Next -/
def c12 : AC := (.seq (.reg [⟨(some 2), (.alloc [(.int .i64 0), (.int .i64 0), (.int .i64 0)]), [], none⟩, ⟨(some 3), .mv, [(.c (.rv (.bool false)))], none⟩]) (.seq (.seq (.reg [⟨(some 6), .mv, [(.t 0)], none⟩, ⟨(some 7), (.eqnil false), [(.t 6)], none⟩, ⟨(some 8), .mv, [(.t 7)], none⟩, ⟨(some 9), .mv, [(.t 0)], (some (8, false))⟩, ⟨(some 10), .nilchk, [(.t 9)], (some (8, false))⟩, ⟨(some 11), (.fld 0), [(.t 10)], (some (8, false))⟩, ⟨(some 12), (.load 1 false), [(.t 11)], (some (8, false))⟩, ⟨(some 13), .len, [(.t 12)], (some (8, false))⟩, ⟨(some 14), (.ibin .eql), [(.t 13), (.c (.rv (.int .i64 0)))], (some (8, false))⟩, ⟨(some 15), .pick, [(.t 8), (.c (.rv (.bool true))), (.t 14)], none⟩]) (.cond (.t 15) (.seq (.reg [⟨(some 16), (.build [(.int .i64 0), (.int .i64 0), (.int .i64 0)] []), [], none⟩, ⟨none, (.store 3), [(.t 2), (.t 16)], none⟩, ⟨(some 3), .mv, [(.c (.rv (.bool false)))], none⟩]) .ret) .skip)) (.seq (.reg [⟨(some 18), .mv, [(.t 0)], none⟩, ⟨(some 19), .nilchk, [(.t 18)], none⟩, ⟨(some 20), (.fld 0), [(.t 19)], none⟩, ⟨(some 21), (.mkif 53), [(.t 20)], none⟩, ⟨(some 22), (.call 22), [(.t 21)], none⟩, ⟨(some 23), (.tas 23 true), [(.t 22)], none⟩, ⟨(some 17), .mv, [(.t 23)], none⟩, ⟨(some 24), (.ext 0), [(.t 17)], none⟩, ⟨(some 25), (.ext 1), [(.t 17)], none⟩, ⟨(some 4), (.alloc [(.int .i64 0), (.int .i64 0), (.int .i64 0)]), [], none⟩, ⟨none, (.store 3), [(.t 4), (.t 24)], none⟩, ⟨(some 5), .mv, [(.t 25)], none⟩]) (.seq (.reg [⟨(some 26), (.load 3 true), [(.t 4)], none⟩, ⟨(some 27), .mv, [(.t 5)], none⟩, ⟨none, (.store 3), [(.t 2), (.t 26)], none⟩, ⟨(some 3), .mv, [(.t 27)], none⟩]) .ret))))
theorem k12 : FnOK Go.Proofs.Try.prog 12 28 c12 [(.c 2 3 true), (.t 3)] := fnOK_of (by kernel_rfl)

/- (*decoupage/agenda.Agenda).Peek -/
def c14 : AC := (.seq (.reg [⟨(some 2), (.alloc [(.int .i64 0), (.int .i64 0), (.int .i64 0)]), [], none⟩, ⟨(some 3), .mv, [(.c (.rv (.bool false)))], none⟩]) (.seq (.seq (.reg [⟨(some 4), .mv, [(.t 0)], none⟩, ⟨(some 5), (.eqnil false), [(.t 4)], none⟩, ⟨(some 6), .mv, [(.t 5)], none⟩, ⟨(some 7), .mv, [(.t 0)], (some (6, false))⟩, ⟨(some 8), .nilchk, [(.t 7)], (some (6, false))⟩, ⟨(some 9), (.fld 0), [(.t 8)], (some (6, false))⟩, ⟨(some 10), (.load 1 false), [(.t 9)], (some (6, false))⟩, ⟨(some 11), .len, [(.t 10)], (some (6, false))⟩, ⟨(some 12), (.ibin .eql), [(.t 11), (.c (.rv (.int .i64 0)))], (some (6, false))⟩, ⟨(some 13), .pick, [(.t 6), (.c (.rv (.bool true))), (.t 12)], none⟩]) (.cond (.t 13) (.seq (.reg [⟨(some 14), (.build [(.int .i64 0), (.int .i64 0), (.int .i64 0)] []), [], none⟩, ⟨none, (.store 3), [(.t 2), (.t 14)], none⟩, ⟨(some 3), .mv, [(.c (.rv (.bool false)))], none⟩]) .ret) .skip)) (.seq (.reg [⟨(some 15), .mv, [(.t 0)], none⟩, ⟨(some 16), .nilchk, [(.t 15)], none⟩, ⟨(some 17), (.fld 0), [(.t 16)], none⟩, ⟨(some 18), (.load 1 false), [(.t 17)], none⟩, ⟨(some 19), (.ixs 3), [(.t 18), (.c (.rv (.int .i64 0)))], none⟩, ⟨(some 20), (.load 3 true), [(.t 19)], none⟩, ⟨none, (.store 3), [(.t 2), (.t 20)], none⟩, ⟨(some 3), .mv, [(.c (.rv (.bool true)))], none⟩]) .ret)))
theorem k14 : FnOK Go.Proofs.Try.prog 14 21 c14 [(.c 2 3 true), (.t 3)] := fnOK_of (by kernel_rfl)

/- (*decoupage/agenda.Agenda).Len -/
def c15 : AC := (.seq (.reg [⟨(some 2), .mv, [(.c (.rv (.int .i64 0)))], none⟩]) (.seq (.seq (.reg [⟨(some 3), .mv, [(.t 0)], none⟩, ⟨(some 4), (.eqnil false), [(.t 3)], none⟩]) (.cond (.t 4) (.seq (.reg [⟨(some 2), .mv, [(.c (.rv (.int .i64 0)))], none⟩]) .ret) .skip)) (.seq (.reg [⟨(some 5), .mv, [(.t 0)], none⟩, ⟨(some 6), .nilchk, [(.t 5)], none⟩, ⟨(some 7), (.fld 0), [(.t 6)], none⟩, ⟨(some 8), (.load 1 false), [(.t 7)], none⟩, ⟨(some 9), .len, [(.t 8)], none⟩, ⟨(some 2), .mv, [(.t 9)], none⟩]) .ret)))
theorem k15 : FnOK Go.Proofs.Try.prog 15 10 c15 [(.t 2)] := fnOK_of (by kernel_rfl)


theorem okU2 {h : List (Option HB)} {a b : Nat} {x y x' y' : HB} {pre : List (Nat × HB)} (ha : hget h a = some x) (hb : hget h b = some y) (hm : (a, x) ∈ pre := by simp) (hm' : (b, y) ∈ pre := by simp) : okU pre h [(a, x'), (b, y')] := by
  have lt : ∀ {i : Nat} {z : HB}, hget h i = some z → i < h.length := fun {i z} hg => by
    unfold hget at hg
    cases hl : h[i]? with
    | none => simp [hl] at hg
    | some z => exact (List.getElem?_eq_some_iff.1 hl).1
  refine ⟨.inr ⟨lt ha, x, hm⟩, .inr ⟨?_, y, hm'⟩, trivial⟩
  have := uph_length h (a, x')
  have := lt hb
  omega

def pushF (es : List Ent3) (n : Nat) (e : Ent3) : List Ent3 := upF (es.take n ++ [e]) n
def popF (es : List Ent3) (n : Nat) : List Ent3 := downF (sw es 0 (n - 1)) 0 (n - 1)

theorem sp21 (i0 i1 v n : Nat) (es : List Ent3) (e : Ent3) (hi : i0 ≠ i1) (hn : n ≤ es.length) (hb : n < 100000) :
    CallR Go.Proofs.Try.prog 21 [.ifc 53 (.ptr i0 0), .ifc 23 e.sv] [(i0, .var [.row i1 v n]), (i1, .row 3 v (rvs (cellsL es)))] [(i0, .var [.row i1 (v + 1) (n + 1)]), (i1, .row 3 (v + 1) (rvs (cellsL (pushF es n e))))] (.tup []) := by
  refine callR_M k21 [i0, i1] [.var [.row 1 v n], .row 3 v (rvs (cellsL es))] [.var [.row i1 v n], .row 3 v (rvs (cellsL es))] [.ifc 53 (.ptr 0 0), .ifc 23 e.sv] [.ifc 53 (.ptr i0 0), .ifc 23 e.sv] _ _ (by simp) (by simp [BkAll, bk_ptr, bk_row, bk_rv, bk_agg, bk_ifc, bk_fn, bk_tup, bk_dead, BkHs, rvs_inj, nodupL, Ent3.sv]) rfl (by simp [nodupL, hi]) (by simp [BkAll, bk_ptr, bk_row, bk_rv, bk_agg, bk_ifc, bk_fn, bk_tup, bk_dead, BkHs, rvs_inj, nodupL]) (fun K hK => ?_)
  simp -implicitDefEqProofs only [c21, inv53Push, g_nil, g_skip, g_reg, g_regd, g_seq, g_block, g_end, g_cond, g_ret, g_exit, gx_nil, gx_c, gx_o, gx_d, gx_b, g_onil, g_dnil, g_op, g_opg, g_opd, g_opdg, condI, callvI, invI, plainI, opI, guardI, callvdI, invdI, plaindI, opdI, guarddI, opE, o1, o2, ix2, loadE, storeE, boxE, allLen, bslE, buildE, fits, fldE, ixsE, ixaE, ixvE, fldvE, lenE, lensE, srcE, appE, bnd2, bndL, bndH, bnd0, bndE, slcE, slcC, pickE, allocE, nilchkE, isNilSV, ibinE, ibin, ishfE, ishf, eqnilE, eqbE, notE, negE, cviE, mkslE, mxE, mnE, extE, isNilSl, isNilFn, isNilIf, isNilO, eqniloE, eqsF, eqsE, cellsEq, cellEq, sbinE, sbin, ifcOf, tasF, tasE, cellsSV, cellsAll, layO, mkEnv, lk, hget_zero, hget_succ, putE, uphO, uph, uphL, evX, rdsX, uIds, List.map_cons, List.map_nil, List.length_cons, List.length_nil, List.length_append, List.length_map, List.length_set, List.set_cons_zero, List.set_cons_succ, List.cons_append, List.nil_append, List.append_nil, List.getElem?_cons_zero, List.getElem?_cons_succ, List.getElem?_nil, List.take_succ_cons, List.take_zero, List.drop_succ_cons, List.drop_zero, List.drop_nil, List.take_nil, Option.getD_some, Option.getD_none, Option.map_some, Option.map_none, true_and, and_true, ↓reduceIte, Nat.reduceEqDiff, Nat.reduceAdd, Nat.reduceSub, Nat.reduceMul, Nat.reduceLeDiff, Nat.reduceLT, Nat.zero_add, Nat.add_zero, decide_eq_true_eq, Bool.false_eq_true, reduceCtorEq, rvs_len, rvs_get, rvs_fold, rvs_take, rvs_append, Int.toNat_natCast, bneTT, bneTF, bneFT, bneFF, Bool.not_true, Bool.not_false, splice0, slcaE, clrE, chunks]
  refine g_call (sp49 0 1 v n es e (by decide) hn (by omega)) (pre2 rfl rfl) (okU2 rfl rfl) ?_
  simp -implicitDefEqProofs only [inv53Len, g_nil, g_skip, g_reg, g_regd, g_seq, g_block, g_end, g_cond, g_ret, g_exit, gx_nil, gx_c, gx_o, gx_d, gx_b, g_onil, g_dnil, g_op, g_opg, g_opd, g_opdg, condI, callvI, invI, plainI, opI, guardI, callvdI, invdI, plaindI, opdI, guarddI, opE, o1, o2, ix2, loadE, storeE, boxE, allLen, bslE, buildE, fits, fldE, ixsE, ixaE, ixvE, fldvE, lenE, lensE, srcE, appE, bnd2, bndL, bndH, bnd0, bndE, slcE, slcC, pickE, allocE, nilchkE, isNilSV, ibinE, ibin, ishfE, ishf, eqnilE, eqbE, notE, negE, cviE, mkslE, mxE, mnE, extE, isNilSl, isNilFn, isNilIf, isNilO, eqniloE, eqsF, eqsE, cellsEq, cellEq, sbinE, sbin, ifcOf, tasF, tasE, cellsSV, cellsAll, layO, mkEnv, lk, hget_zero, hget_succ, putE, uphO, uph, uphL, evX, rdsX, uIds, List.map_cons, List.map_nil, List.length_cons, List.length_nil, List.length_append, List.length_map, List.length_set, List.set_cons_zero, List.set_cons_succ, List.cons_append, List.nil_append, List.append_nil, List.getElem?_cons_zero, List.getElem?_cons_succ, List.getElem?_nil, List.take_succ_cons, List.take_zero, List.drop_succ_cons, List.drop_zero, List.drop_nil, List.take_nil, Option.getD_some, Option.getD_none, Option.map_some, Option.map_none, true_and, and_true, ↓reduceIte, Nat.reduceEqDiff, Nat.reduceAdd, Nat.reduceSub, Nat.reduceMul, Nat.reduceLeDiff, Nat.reduceLT, Nat.zero_add, Nat.add_zero, decide_eq_true_eq, Bool.false_eq_true, reduceCtorEq, rvs_len, rvs_get, rvs_fold, rvs_take, rvs_append, Int.toNat_natCast, bneTT, bneTF, bneFT, bneFF, Bool.not_true, Bool.not_false, splice0, slcaE, clrE, chunks]
  refine g_call (sp45 1 (v + 1) (n + 1) _) (pre1 rfl) trivial ?_
  have hw : IntKind.i64.wrap (((n + 1 : Nat) : Int) - 1) = ((n : Nat) : Int) := by rw [wrap_i64 (by omega) (by omega)]; omega
  simp -implicitDefEqProofs only [hw, g_nil, g_skip, g_reg, g_regd, g_seq, g_block, g_end, g_cond, g_ret, g_exit, gx_nil, gx_c, gx_o, gx_d, gx_b, g_onil, g_dnil, g_op, g_opg, g_opd, g_opdg, condI, callvI, invI, plainI, opI, guardI, callvdI, invdI, plaindI, opdI, guarddI, opE, o1, o2, ix2, loadE, storeE, boxE, allLen, bslE, buildE, fits, fldE, ixsE, ixaE, ixvE, fldvE, lenE, lensE, srcE, appE, bnd2, bndL, bndH, bnd0, bndE, slcE, slcC, pickE, allocE, nilchkE, isNilSV, ibinE, ibin, ishfE, ishf, eqnilE, eqbE, notE, negE, cviE, mkslE, mxE, mnE, extE, isNilSl, isNilFn, isNilIf, isNilO, eqniloE, eqsF, eqsE, cellsEq, cellEq, sbinE, sbin, ifcOf, tasF, tasE, cellsSV, cellsAll, layO, mkEnv, lk, hget_zero, hget_succ, putE, uphO, uph, uphL, evX, rdsX, uIds, List.map_cons, List.map_nil, List.length_cons, List.length_nil, List.length_append, List.length_map, List.length_set, List.set_cons_zero, List.set_cons_succ, List.cons_append, List.nil_append, List.append_nil, List.getElem?_cons_zero, List.getElem?_cons_succ, List.getElem?_nil, List.take_succ_cons, List.take_zero, List.drop_succ_cons, List.drop_zero, List.drop_nil, List.take_nil, Option.getD_some, Option.getD_none, Option.map_some, Option.map_none, true_and, and_true, ↓reduceIte, Nat.reduceEqDiff, Nat.reduceAdd, Nat.reduceSub, Nat.reduceMul, Nat.reduceLeDiff, Nat.reduceLT, Nat.zero_add, Nat.add_zero, decide_eq_true_eq, Bool.false_eq_true, reduceCtorEq, rvs_len, rvs_get, rvs_fold, rvs_take, rvs_append, Int.toNat_natCast, bneTT, bneTF, bneFT, bneFF, Bool.not_true, Bool.not_false, splice0, slcaE, clrE, chunks]
  refine g_call (sp27 0 1 (v + 1) (n + 1) (es.take n ++ [e]) n (by decide) (by simp; omega) (by omega) (by omega)) (pre2 rfl rfl) (okU1 rfl) ?_
  simp -implicitDefEqProofs only [g_nil, g_skip, g_reg, g_regd, g_seq, g_block, g_end, g_cond, g_ret, g_exit, gx_nil, gx_c, gx_o, gx_d, gx_b, g_onil, g_dnil, g_op, g_opg, g_opd, g_opdg, condI, callvI, invI, plainI, opI, guardI, callvdI, invdI, plaindI, opdI, guarddI, opE, o1, o2, ix2, loadE, storeE, boxE, allLen, bslE, buildE, fits, fldE, ixsE, ixaE, ixvE, fldvE, lenE, lensE, srcE, appE, bnd2, bndL, bndH, bnd0, bndE, slcE, slcC, pickE, allocE, nilchkE, isNilSV, ibinE, ibin, ishfE, ishf, eqnilE, eqbE, notE, negE, cviE, mkslE, mxE, mnE, extE, isNilSl, isNilFn, isNilIf, isNilO, eqniloE, eqsF, eqsE, cellsEq, cellEq, sbinE, sbin, ifcOf, tasF, tasE, cellsSV, cellsAll, layO, mkEnv, lk, hget_zero, hget_succ, putE, uphO, uph, uphL, evX, rdsX, uIds, List.map_cons, List.map_nil, List.length_cons, List.length_nil, List.length_append, List.length_map, List.length_set, List.set_cons_zero, List.set_cons_succ, List.cons_append, List.nil_append, List.append_nil, List.getElem?_cons_zero, List.getElem?_cons_succ, List.getElem?_nil, List.take_succ_cons, List.take_zero, List.drop_succ_cons, List.drop_zero, List.drop_nil, List.take_nil, Option.getD_some, Option.getD_none, Option.map_some, Option.map_none, true_and, and_true, ↓reduceIte, Nat.reduceEqDiff, Nat.reduceAdd, Nat.reduceSub, Nat.reduceMul, Nat.reduceLeDiff, Nat.reduceLT, Nat.zero_add, Nat.add_zero, decide_eq_true_eq, Bool.false_eq_true, reduceCtorEq, rvs_len, rvs_get, rvs_fold, rvs_take, rvs_append, Int.toNat_natCast, bneTT, bneTF, bneFT, bneFF, Bool.not_true, Bool.not_false, splice0, slcaE, clrE, chunks]
  refine (hK _ _ _ _ [] (ent_refl _ _) ?_).1
  simp [retM, nodupL, newL, allU, keptL, retP, resL, lk, resT, RnHo, lkp, finU, hget_zero, hget_succ, hget, rnRows_rvs, rn_tup, rn_rv, rn_row, rn_ptr, rn_ifc, rn_agg, rn_dead, RnAll, ofL, rnAll_map, hi, Ne.symm hi, pushF]

theorem sp22 (i0 i1 v n : Nat) (es : List Ent3) (hi : i0 ≠ i1) (hn : n ≤ es.length) (h0 : 0 < n) (hb : n < 100000) :
    CallR Go.Proofs.Try.prog 22 [.ifc 53 (.ptr i0 0)] [(i0, .var [.row i1 v n]), (i1, .row 3 v (rvs (cellsL es)))] [(i0, .var [.row i1 v (n - 1)]), (i1, .row 3 v (rvs (cellsL (popF es n))))] (.ifc 23 (ga (popF es n) (n - 1)).sv) := by
  refine callR_M k22 [i0, i1] [.var [.row 1 v n], .row 3 v (rvs (cellsL es))] [.var [.row i1 v n], .row 3 v (rvs (cellsL es))] [.ifc 53 (.ptr 0 0)] [.ifc 53 (.ptr i0 0)] _ _ (by simp) (by simp [BkAll, bk_ptr, bk_row, bk_rv, bk_agg, bk_ifc, bk_fn, bk_tup, bk_dead, BkHs, rvs_inj, nodupL]) rfl (by simp [nodupL, hi]) (by simp [BkAll, bk_ptr, bk_row, bk_rv, bk_agg, bk_ifc, bk_fn, bk_tup, bk_dead, BkHs, rvs_inj, nodupL]) (fun K hK => ?_)
  have hw : IntKind.i64.wrap ((n : Int) - 1) = ((n - 1 : Nat) : Int) := by rw [wrap_i64 (by omega) (by omega)]; omega
  simp -implicitDefEqProofs only [c22, inv53Len, g_nil, g_skip, g_reg, g_regd, g_seq, g_block, g_end, g_cond, g_ret, g_exit, gx_nil, gx_c, gx_o, gx_d, gx_b, g_onil, g_dnil, g_op, g_opg, g_opd, g_opdg, condI, callvI, invI, plainI, opI, guardI, callvdI, invdI, plaindI, opdI, guarddI, opE, o1, o2, ix2, loadE, storeE, boxE, allLen, bslE, buildE, fits, fldE, ixsE, ixaE, ixvE, fldvE, lenE, lensE, srcE, appE, bnd2, bndL, bndH, bnd0, bndE, slcE, slcC, pickE, allocE, nilchkE, isNilSV, ibinE, ibin, ishfE, ishf, eqnilE, eqbE, notE, negE, cviE, mkslE, mxE, mnE, extE, isNilSl, isNilFn, isNilIf, isNilO, eqniloE, eqsF, eqsE, cellsEq, cellEq, sbinE, sbin, ifcOf, tasF, tasE, cellsSV, cellsAll, layO, mkEnv, lk, hget_zero, hget_succ, putE, uphO, uph, uphL, evX, rdsX, uIds, List.map_cons, List.map_nil, List.length_cons, List.length_nil, List.length_append, List.length_map, List.length_set, List.set_cons_zero, List.set_cons_succ, List.cons_append, List.nil_append, List.append_nil, List.getElem?_cons_zero, List.getElem?_cons_succ, List.getElem?_nil, List.take_succ_cons, List.take_zero, List.drop_succ_cons, List.drop_zero, List.drop_nil, List.take_nil, Option.getD_some, Option.getD_none, Option.map_some, Option.map_none, true_and, and_true, ↓reduceIte, Nat.reduceEqDiff, Nat.reduceAdd, Nat.reduceSub, Nat.reduceMul, Nat.reduceLeDiff, Nat.reduceLT, Nat.zero_add, Nat.add_zero, decide_eq_true_eq, Bool.false_eq_true, reduceCtorEq, rvs_len, rvs_get, rvs_fold, rvs_take, rvs_append, Int.toNat_natCast, bneTT, bneTF, bneFT, bneFF, Bool.not_true, Bool.not_false, splice0, slcaE, clrE, chunks]
  refine g_call (sp45 1 v n es) (pre1 rfl) trivial ?_
  simp -implicitDefEqProofs only [hw, inv53Swap, g_nil, g_skip, g_reg, g_regd, g_seq, g_block, g_end, g_cond, g_ret, g_exit, gx_nil, gx_c, gx_o, gx_d, gx_b, g_onil, g_dnil, g_op, g_opg, g_opd, g_opdg, condI, callvI, invI, plainI, opI, guardI, callvdI, invdI, plaindI, opdI, guarddI, opE, o1, o2, ix2, loadE, storeE, boxE, allLen, bslE, buildE, fits, fldE, ixsE, ixaE, ixvE, fldvE, lenE, lensE, srcE, appE, bnd2, bndL, bndH, bnd0, bndE, slcE, slcC, pickE, allocE, nilchkE, isNilSV, ibinE, ibin, ishfE, ishf, eqnilE, eqbE, notE, negE, cviE, mkslE, mxE, mnE, extE, isNilSl, isNilFn, isNilIf, isNilO, eqniloE, eqsF, eqsE, cellsEq, cellEq, sbinE, sbin, ifcOf, tasF, tasE, cellsSV, cellsAll, layO, mkEnv, lk, hget_zero, hget_succ, putE, uphO, uph, uphL, evX, rdsX, uIds, List.map_cons, List.map_nil, List.length_cons, List.length_nil, List.length_append, List.length_map, List.length_set, List.set_cons_zero, List.set_cons_succ, List.cons_append, List.nil_append, List.append_nil, List.getElem?_cons_zero, List.getElem?_cons_succ, List.getElem?_nil, List.take_succ_cons, List.take_zero, List.drop_succ_cons, List.drop_zero, List.drop_nil, List.take_nil, Option.getD_some, Option.getD_none, Option.map_some, Option.map_none, true_and, and_true, ↓reduceIte, Nat.reduceEqDiff, Nat.reduceAdd, Nat.reduceSub, Nat.reduceMul, Nat.reduceLeDiff, Nat.reduceLT, Nat.zero_add, Nat.add_zero, decide_eq_true_eq, Bool.false_eq_true, reduceCtorEq, rvs_len, rvs_get, rvs_fold, rvs_take, rvs_append, Int.toNat_natCast, bneTT, bneTF, bneFT, bneFF, Bool.not_true, Bool.not_false, splice0, slcaE, clrE, chunks]
  refine g_call (spSwap 1 v n es 0 (n - 1) hn h0 (by omega)) (pre1 rfl) (okU1 rfl) ?_
  simp -implicitDefEqProofs only [g_nil, g_skip, g_reg, g_regd, g_seq, g_block, g_end, g_cond, g_ret, g_exit, gx_nil, gx_c, gx_o, gx_d, gx_b, g_onil, g_dnil, g_op, g_opg, g_opd, g_opdg, condI, callvI, invI, plainI, opI, guardI, callvdI, invdI, plaindI, opdI, guarddI, opE, o1, o2, ix2, loadE, storeE, boxE, allLen, bslE, buildE, fits, fldE, ixsE, ixaE, ixvE, fldvE, lenE, lensE, srcE, appE, bnd2, bndL, bndH, bnd0, bndE, slcE, slcC, pickE, allocE, nilchkE, isNilSV, ibinE, ibin, ishfE, ishf, eqnilE, eqbE, notE, negE, cviE, mkslE, mxE, mnE, extE, isNilSl, isNilFn, isNilIf, isNilO, eqniloE, eqsF, eqsE, cellsEq, cellEq, sbinE, sbin, ifcOf, tasF, tasE, cellsSV, cellsAll, layO, mkEnv, lk, hget_zero, hget_succ, putE, uphO, uph, uphL, evX, rdsX, uIds, List.map_cons, List.map_nil, List.length_cons, List.length_nil, List.length_append, List.length_map, List.length_set, List.set_cons_zero, List.set_cons_succ, List.cons_append, List.nil_append, List.append_nil, List.getElem?_cons_zero, List.getElem?_cons_succ, List.getElem?_nil, List.take_succ_cons, List.take_zero, List.drop_succ_cons, List.drop_zero, List.drop_nil, List.take_nil, Option.getD_some, Option.getD_none, Option.map_some, Option.map_none, true_and, and_true, ↓reduceIte, Nat.reduceEqDiff, Nat.reduceAdd, Nat.reduceSub, Nat.reduceMul, Nat.reduceLeDiff, Nat.reduceLT, Nat.zero_add, Nat.add_zero, decide_eq_true_eq, Bool.false_eq_true, reduceCtorEq, rvs_len, rvs_get, rvs_fold, rvs_take, rvs_append, Int.toNat_natCast, bneTT, bneTF, bneFT, bneFF, Bool.not_true, Bool.not_false, splice0, slcaE, clrE, chunks]
  refine g_call (sp28 0 1 v n (sw es 0 (n - 1)) 0 (n - 1) (by decide) (by rw [sw_len]; exact hn) (by omega) (by omega) (by omega)) (pre2 rfl rfl) (okU1 rfl) ?_
  simp -implicitDefEqProofs only [inv53Pop, g_nil, g_skip, g_reg, g_regd, g_seq, g_block, g_end, g_cond, g_ret, g_exit, gx_nil, gx_c, gx_o, gx_d, gx_b, g_onil, g_dnil, g_op, g_opg, g_opd, g_opdg, condI, callvI, invI, plainI, opI, guardI, callvdI, invdI, plaindI, opdI, guarddI, opE, o1, o2, ix2, loadE, storeE, boxE, allLen, bslE, buildE, fits, fldE, ixsE, ixaE, ixvE, fldvE, lenE, lensE, srcE, appE, bnd2, bndL, bndH, bnd0, bndE, slcE, slcC, pickE, allocE, nilchkE, isNilSV, ibinE, ibin, ishfE, ishf, eqnilE, eqbE, notE, negE, cviE, mkslE, mxE, mnE, extE, isNilSl, isNilFn, isNilIf, isNilO, eqniloE, eqsF, eqsE, cellsEq, cellEq, sbinE, sbin, ifcOf, tasF, tasE, cellsSV, cellsAll, layO, mkEnv, lk, hget_zero, hget_succ, putE, uphO, uph, uphL, evX, rdsX, uIds, List.map_cons, List.map_nil, List.length_cons, List.length_nil, List.length_append, List.length_map, List.length_set, List.set_cons_zero, List.set_cons_succ, List.cons_append, List.nil_append, List.append_nil, List.getElem?_cons_zero, List.getElem?_cons_succ, List.getElem?_nil, List.take_succ_cons, List.take_zero, List.drop_succ_cons, List.drop_zero, List.drop_nil, List.take_nil, Option.getD_some, Option.getD_none, Option.map_some, Option.map_none, true_and, and_true, ↓reduceIte, Nat.reduceEqDiff, Nat.reduceAdd, Nat.reduceSub, Nat.reduceMul, Nat.reduceLeDiff, Nat.reduceLT, Nat.zero_add, Nat.add_zero, decide_eq_true_eq, Bool.false_eq_true, reduceCtorEq, rvs_len, rvs_get, rvs_fold, rvs_take, rvs_append, Int.toNat_natCast, bneTT, bneTF, bneFT, bneFF, Bool.not_true, Bool.not_false, splice0, slcaE, clrE, chunks]
  have hlen : n ≤ (downF (sw es 0 (n - 1)) 0 (n - 1)).length := by rw [downF_len _ _ _ _ rfl, sw_len]; exact hn
  have hp := sp48 0 1 v n (downF (sw es 0 (n - 1)) 0 (n - 1)) (by decide) hlen h0 (by omega)
  rw [ga_eq] at hp
  refine g_call hp (pre2 rfl rfl) (okU1 rfl) ?_
  simp -implicitDefEqProofs only [g_nil, g_skip, g_reg, g_regd, g_seq, g_block, g_end, g_cond, g_ret, g_exit, gx_nil, gx_c, gx_o, gx_d, gx_b, g_onil, g_dnil, g_op, g_opg, g_opd, g_opdg, condI, callvI, invI, plainI, opI, guardI, callvdI, invdI, plaindI, opdI, guarddI, opE, o1, o2, ix2, loadE, storeE, boxE, allLen, bslE, buildE, fits, fldE, ixsE, ixaE, ixvE, fldvE, lenE, lensE, srcE, appE, bnd2, bndL, bndH, bnd0, bndE, slcE, slcC, pickE, allocE, nilchkE, isNilSV, ibinE, ibin, ishfE, ishf, eqnilE, eqbE, notE, negE, cviE, mkslE, mxE, mnE, extE, isNilSl, isNilFn, isNilIf, isNilO, eqniloE, eqsF, eqsE, cellsEq, cellEq, sbinE, sbin, ifcOf, tasF, tasE, cellsSV, cellsAll, layO, mkEnv, lk, hget_zero, hget_succ, putE, uphO, uph, uphL, evX, rdsX, uIds, List.map_cons, List.map_nil, List.length_cons, List.length_nil, List.length_append, List.length_map, List.length_set, List.set_cons_zero, List.set_cons_succ, List.cons_append, List.nil_append, List.append_nil, List.getElem?_cons_zero, List.getElem?_cons_succ, List.getElem?_nil, List.take_succ_cons, List.take_zero, List.drop_succ_cons, List.drop_zero, List.drop_nil, List.take_nil, Option.getD_some, Option.getD_none, Option.map_some, Option.map_none, true_and, and_true, ↓reduceIte, Nat.reduceEqDiff, Nat.reduceAdd, Nat.reduceSub, Nat.reduceMul, Nat.reduceLeDiff, Nat.reduceLT, Nat.zero_add, Nat.add_zero, decide_eq_true_eq, Bool.false_eq_true, reduceCtorEq, rvs_len, rvs_get, rvs_fold, rvs_take, rvs_append, Int.toNat_natCast, bneTT, bneTF, bneFT, bneFF, Bool.not_true, Bool.not_false, splice0, slcaE, clrE, chunks]
  refine (hK _ _ _ _ [] (ent_refl _ _) ?_).2
  simp [retM, nodupL, newL, allU, keptL, retP, resL, lk, resT, RnHo, lkp, finU, hget_zero, hget_succ, hget, rnRows_rvs, rn_tup, rn_rv, rn_row, rn_ptr, rn_ifc, rn_agg, rn_dead, RnAll, ofL, rnAll_map, hi, Ne.symm hi, popF, Ent3.sv]

theorem sp11 (i0 i1 v n : Nat) (es : List Ent3) (e : Ent3) (hi : i0 ≠ i1) (hn : n ≤ es.length) (hb : n < 100000) :
    CallR Go.Proofs.Try.prog 11 [.ptr i0 0, e.sv] [(i0, .var [.row i1 v n]), (i1, .row 3 v (rvs (cellsL es)))] [(i0, .var [.row i1 (v + 1) (n + 1)]), (i1, .row 3 (v + 1) (rvs (cellsL (pushF es n e))))] (.tup []) := by
  refine callR_M k11 [i0, i1] [.var [.row 1 v n], .row 3 v (rvs (cellsL es))] [.var [.row i1 v n], .row 3 v (rvs (cellsL es))] [.ptr 0 0, e.sv] [.ptr i0 0, e.sv] _ _ (by simp) (by simp [BkAll, bk_ptr, bk_row, bk_rv, bk_agg, bk_ifc, bk_fn, bk_tup, bk_dead, BkHs, rvs_inj, nodupL, Ent3.sv]) rfl (by simp [nodupL, hi]) (by simp [BkAll, bk_ptr, bk_row, bk_rv, bk_agg, bk_ifc, bk_fn, bk_tup, bk_dead, BkHs, rvs_inj, nodupL]) (fun K hK => ?_)
  simp -implicitDefEqProofs only [c11, Ent3.sv, g_nil, g_skip, g_reg, g_regd, g_seq, g_block, g_end, g_cond, g_ret, g_exit, gx_nil, gx_c, gx_o, gx_d, gx_b, g_onil, g_dnil, g_op, g_opg, g_opd, g_opdg, condI, callvI, invI, plainI, opI, guardI, callvdI, invdI, plaindI, opdI, guarddI, opE, o1, o2, ix2, loadE, storeE, boxE, allLen, bslE, buildE, fits, fldE, ixsE, ixaE, ixvE, fldvE, lenE, lensE, srcE, appE, bnd2, bndL, bndH, bnd0, bndE, slcE, slcC, pickE, allocE, nilchkE, isNilSV, ibinE, ibin, ishfE, ishf, eqnilE, eqbE, notE, negE, cviE, mkslE, mxE, mnE, extE, isNilSl, isNilFn, isNilIf, isNilO, eqniloE, eqsF, eqsE, cellsEq, cellEq, sbinE, sbin, ifcOf, tasF, tasE, cellsSV, cellsAll, layO, mkEnv, lk, hget_zero, hget_succ, putE, uphO, uph, uphL, evX, rdsX, uIds, List.map_cons, List.map_nil, List.length_cons, List.length_nil, List.length_append, List.length_map, List.length_set, List.set_cons_zero, List.set_cons_succ, List.cons_append, List.nil_append, List.append_nil, List.getElem?_cons_zero, List.getElem?_cons_succ, List.getElem?_nil, List.take_succ_cons, List.take_zero, List.drop_succ_cons, List.drop_zero, List.drop_nil, List.take_nil, Option.getD_some, Option.getD_none, Option.map_some, Option.map_none, true_and, and_true, ↓reduceIte, Nat.reduceEqDiff, Nat.reduceAdd, Nat.reduceSub, Nat.reduceMul, Nat.reduceLeDiff, Nat.reduceLT, Nat.zero_add, Nat.add_zero, decide_eq_true_eq, Bool.false_eq_true, reduceCtorEq, rvs_len, rvs_get, rvs_fold, rvs_take, rvs_append, Int.toNat_natCast, bneTT, bneTF, bneFT, bneFF, Bool.not_true, Bool.not_false, splice0, slcaE, clrE, chunks]
  refine g_calld (sp21 0 1 v n es e (by decide) hn hb) (pre2 rfl rfl) (okU2 rfl rfl) ?_
  simp -implicitDefEqProofs only [g_nil, g_skip, g_reg, g_regd, g_seq, g_block, g_end, g_cond, g_ret, g_exit, gx_nil, gx_c, gx_o, gx_d, gx_b, g_onil, g_dnil, g_op, g_opg, g_opd, g_opdg, condI, callvI, invI, plainI, opI, guardI, callvdI, invdI, plaindI, opdI, guarddI, opE, o1, o2, ix2, loadE, storeE, boxE, allLen, bslE, buildE, fits, fldE, ixsE, ixaE, ixvE, fldvE, lenE, lensE, srcE, appE, bnd2, bndL, bndH, bnd0, bndE, slcE, slcC, pickE, allocE, nilchkE, isNilSV, ibinE, ibin, ishfE, ishf, eqnilE, eqbE, notE, negE, cviE, mkslE, mxE, mnE, extE, isNilSl, isNilFn, isNilIf, isNilO, eqniloE, eqsF, eqsE, cellsEq, cellEq, sbinE, sbin, ifcOf, tasF, tasE, cellsSV, cellsAll, layO, mkEnv, lk, hget_zero, hget_succ, putE, uphO, uph, uphL, evX, rdsX, uIds, List.map_cons, List.map_nil, List.length_cons, List.length_nil, List.length_append, List.length_map, List.length_set, List.set_cons_zero, List.set_cons_succ, List.cons_append, List.nil_append, List.append_nil, List.getElem?_cons_zero, List.getElem?_cons_succ, List.getElem?_nil, List.take_succ_cons, List.take_zero, List.drop_succ_cons, List.drop_zero, List.drop_nil, List.take_nil, Option.getD_some, Option.getD_none, Option.map_some, Option.map_none, true_and, and_true, ↓reduceIte, Nat.reduceEqDiff, Nat.reduceAdd, Nat.reduceSub, Nat.reduceMul, Nat.reduceLeDiff, Nat.reduceLT, Nat.zero_add, Nat.add_zero, decide_eq_true_eq, Bool.false_eq_true, reduceCtorEq, rvs_len, rvs_get, rvs_fold, rvs_take, rvs_append, Int.toNat_natCast, bneTT, bneTF, bneFT, bneFF, Bool.not_true, Bool.not_false, splice0, slcaE, clrE, chunks]
  refine ⟨by decide, g_noent ?_⟩
  simp -implicitDefEqProofs only [g_nil, g_skip, g_reg, g_regd, g_seq, g_block, g_end, g_cond, g_ret, g_exit, gx_nil, gx_c, gx_o, gx_d, gx_b, g_onil, g_dnil, g_op, g_opg, g_opd, g_opdg, condI, callvI, invI, plainI, opI, guardI, callvdI, invdI, plaindI, opdI, guarddI, opE, o1, o2, ix2, loadE, storeE, boxE, allLen, bslE, buildE, fits, fldE, ixsE, ixaE, ixvE, fldvE, lenE, lensE, srcE, appE, bnd2, bndL, bndH, bnd0, bndE, slcE, slcC, pickE, allocE, nilchkE, isNilSV, ibinE, ibin, ishfE, ishf, eqnilE, eqbE, notE, negE, cviE, mkslE, mxE, mnE, extE, isNilSl, isNilFn, isNilIf, isNilO, eqniloE, eqsF, eqsE, cellsEq, cellEq, sbinE, sbin, ifcOf, tasF, tasE, cellsSV, cellsAll, layO, mkEnv, lk, hget_zero, hget_succ, putE, uphO, uph, uphL, evX, rdsX, uIds, List.map_cons, List.map_nil, List.length_cons, List.length_nil, List.length_append, List.length_map, List.length_set, List.set_cons_zero, List.set_cons_succ, List.cons_append, List.nil_append, List.append_nil, List.getElem?_cons_zero, List.getElem?_cons_succ, List.getElem?_nil, List.take_succ_cons, List.take_zero, List.drop_succ_cons, List.drop_zero, List.drop_nil, List.take_nil, Option.getD_some, Option.getD_none, Option.map_some, Option.map_none, true_and, and_true, ↓reduceIte, Nat.reduceEqDiff, Nat.reduceAdd, Nat.reduceSub, Nat.reduceMul, Nat.reduceLeDiff, Nat.reduceLT, Nat.zero_add, Nat.add_zero, decide_eq_true_eq, Bool.false_eq_true, reduceCtorEq, rvs_len, rvs_get, rvs_fold, rvs_take, rvs_append, Int.toNat_natCast, bneTT, bneTF, bneFT, bneFF, Bool.not_true, Bool.not_false, splice0, slcaE, clrE, chunks]
  refine (hK _ _ _ _ [] (ent_refl _ _) ?_).1
  simp [retM, nodupL, newL, allU, keptL, retP, resL, lk, resT, RnHo, lkp, finU, hget_zero, hget_succ, hget, rnRows_rvs, rn_tup, rn_rv, rn_row, rn_ptr, rn_ifc, rn_agg, rn_dead, RnAll, ofL, rnAll_map, hi, Ne.symm hi]

theorem sp15 (i0 i1 v n : Nat) (es : List Ent3) (hi : i0 ≠ i1) :
    CallR Go.Proofs.Try.prog 15 [.ptr i0 0] [(i0, .var [.row i1 v n]), (i1, .row 3 v (rvs (cellsL es)))] [] (.rv (.int .i64 n)) := by
  refine callR_M k15 [i0, i1] [.var [.row 1 v n], .row 3 v (rvs (cellsL es))] [.var [.row i1 v n], .row 3 v (rvs (cellsL es))] [.ptr 0 0] [.ptr i0 0] _ _ (by simp) (by simp [BkAll, bk_ptr, bk_row, bk_rv, bk_agg, bk_ifc, bk_fn, bk_tup, bk_dead, BkHs, rvs_inj, nodupL]) rfl (by simp [nodupL, hi]) (by simp [BkAll, bk_ptr, bk_row, bk_rv, bk_agg, bk_ifc, bk_fn, bk_tup, bk_dead, BkHs, rvs_inj, nodupL]) (fun K hK => ?_)
  simp -implicitDefEqProofs only [c15, g_nil, g_skip, g_reg, g_regd, g_seq, g_block, g_end, g_cond, g_ret, g_exit, gx_nil, gx_c, gx_o, gx_d, gx_b, g_onil, g_dnil, g_op, g_opg, g_opd, g_opdg, condI, callvI, invI, plainI, opI, guardI, callvdI, invdI, plaindI, opdI, guarddI, opE, o1, o2, ix2, loadE, storeE, boxE, allLen, bslE, buildE, fits, fldE, ixsE, ixaE, ixvE, fldvE, lenE, lensE, srcE, appE, bnd2, bndL, bndH, bnd0, bndE, slcE, slcC, pickE, allocE, nilchkE, isNilSV, ibinE, ibin, ishfE, ishf, eqnilE, eqbE, notE, negE, cviE, mkslE, mxE, mnE, extE, isNilSl, isNilFn, isNilIf, isNilO, eqniloE, eqsF, eqsE, cellsEq, cellEq, sbinE, sbin, ifcOf, tasF, tasE, cellsSV, cellsAll, layO, mkEnv, lk, hget_zero, hget_succ, putE, uphO, uph, uphL, evX, rdsX, uIds, List.map_cons, List.map_nil, List.length_cons, List.length_nil, List.length_append, List.length_map, List.length_set, List.set_cons_zero, List.set_cons_succ, List.cons_append, List.nil_append, List.append_nil, List.getElem?_cons_zero, List.getElem?_cons_succ, List.getElem?_nil, List.take_succ_cons, List.take_zero, List.drop_succ_cons, List.drop_zero, List.drop_nil, List.take_nil, Option.getD_some, Option.getD_none, Option.map_some, Option.map_none, true_and, and_true, ↓reduceIte, Nat.reduceEqDiff, Nat.reduceAdd, Nat.reduceSub, Nat.reduceMul, Nat.reduceLeDiff, Nat.reduceLT, Nat.zero_add, Nat.add_zero, decide_eq_true_eq, Bool.false_eq_true, reduceCtorEq, rvs_len, rvs_get, rvs_fold, rvs_take, rvs_append, Int.toNat_natCast, bneTT, bneTF, bneFT, bneFF, Bool.not_true, Bool.not_false, splice0, slcaE, clrE, chunks]
  refine (hK _ _ _ _ [] (ent_refl _ _) ?_).2
  simp [retM, nodupL, newL, allU, keptL, retP, resL, lk, resT, RnHo, lkp, finU, hget_zero, hget_succ, hget, rnRows_rvs, rn_tup, rn_rv, rn_row, rn_ptr, rn_ifc, rn_agg, rn_dead, RnAll, ofL, rnAll_map, hi, Ne.symm hi]

theorem sp14 (i0 i1 v n : Nat) (es : List Ent3) (hi : i0 ≠ i1) (hn : n ≤ es.length) :
    CallR Go.Proofs.Try.prog 14 [.ptr i0 0] [(i0, .var [.row i1 v n]), (i1, .row 3 v (rvs (cellsL es)))] [] (.tup [if n = 0 then (⟨0, 0, 0⟩ : Ent3).sv else (ga es 0).sv, .rv (.bool (decide (n ≠ 0)))]) := by
  refine callR_M k14 [i0, i1] [.var [.row 1 v n], .row 3 v (rvs (cellsL es))] [.var [.row i1 v n], .row 3 v (rvs (cellsL es))] [.ptr 0 0] [.ptr i0 0] _ _ (by simp) (by simp [BkAll, bk_ptr, bk_row, bk_rv, bk_agg, bk_ifc, bk_fn, bk_tup, bk_dead, BkHs, rvs_inj, nodupL]) rfl (by simp [nodupL, hi]) (by simp [BkAll, bk_ptr, bk_row, bk_rv, bk_agg, bk_ifc, bk_fn, bk_tup, bk_dead, BkHs, rvs_inj, nodupL]) (fun K hK => ?_)
  by_cases h0 : n = 0
  · subst h0
    have he : (((0 : Nat) : Int) == 0) = true := by decide
    simp -implicitDefEqProofs only [c14, he, g_nil, g_skip, g_reg, g_regd, g_seq, g_block, g_end, g_cond, g_ret, g_exit, gx_nil, gx_c, gx_o, gx_d, gx_b, g_onil, g_dnil, g_op, g_opg, g_opd, g_opdg, condI, callvI, invI, plainI, opI, guardI, callvdI, invdI, plaindI, opdI, guarddI, opE, o1, o2, ix2, loadE, storeE, boxE, allLen, bslE, buildE, fits, fldE, ixsE, ixaE, ixvE, fldvE, lenE, lensE, srcE, appE, bnd2, bndL, bndH, bnd0, bndE, slcE, slcC, pickE, allocE, nilchkE, isNilSV, ibinE, ibin, ishfE, ishf, eqnilE, eqbE, notE, negE, cviE, mkslE, mxE, mnE, extE, isNilSl, isNilFn, isNilIf, isNilO, eqniloE, eqsF, eqsE, cellsEq, cellEq, sbinE, sbin, ifcOf, tasF, tasE, cellsSV, cellsAll, layO, mkEnv, lk, hget_zero, hget_succ, putE, uphO, uph, uphL, evX, rdsX, uIds, List.map_cons, List.map_nil, List.length_cons, List.length_nil, List.length_append, List.length_map, List.length_set, List.set_cons_zero, List.set_cons_succ, List.cons_append, List.nil_append, List.append_nil, List.getElem?_cons_zero, List.getElem?_cons_succ, List.getElem?_nil, List.take_succ_cons, List.take_zero, List.drop_succ_cons, List.drop_zero, List.drop_nil, List.take_nil, Option.getD_some, Option.getD_none, Option.map_some, Option.map_none, true_and, and_true, ↓reduceIte, Nat.reduceEqDiff, Nat.reduceAdd, Nat.reduceSub, Nat.reduceMul, Nat.reduceLeDiff, Nat.reduceLT, Nat.zero_add, Nat.add_zero, decide_eq_true_eq, Bool.false_eq_true, reduceCtorEq, rvs_len, rvs_get, rvs_fold, rvs_take, rvs_append, Int.toNat_natCast, bneTT, bneTF, bneFT, bneFF, Bool.not_true, Bool.not_false, splice0, slcaE, clrE, chunks]
    refine (hK _ _ _ _ [] (ent_refl _ _) ?_).2
    simp [retM, nodupL, newL, allU, keptL, retP, resL, lk, resT, RnHo, lkp, finU, hget_zero, hget_succ, hget, rnRows_rvs, rn_tup, rn_rv, rn_row, rn_ptr, rn_ifc, rn_agg, rn_dead, RnAll, ofL, rnAll_map, hi, Ne.symm hi, loadE, Ent3.sv]
  · have he : ((n : Int) == 0) = false := by simp; omega
    have hx := cellsL_get (show 0 < es.length by omega)
    rw [ga_eq] at hx
    have h00 : (0 : Int).toNat = 0 := rfl
    simp -implicitDefEqProofs only [c14, he, hx, h00, g_nil, g_skip, g_reg, g_regd, g_seq, g_block, g_end, g_cond, g_ret, g_exit, gx_nil, gx_c, gx_o, gx_d, gx_b, g_onil, g_dnil, g_op, g_opg, g_opd, g_opdg, condI, callvI, invI, plainI, opI, guardI, callvdI, invdI, plaindI, opdI, guarddI, opE, o1, o2, ix2, loadE, storeE, boxE, allLen, bslE, buildE, fits, fldE, ixsE, ixaE, ixvE, fldvE, lenE, lensE, srcE, appE, bnd2, bndL, bndH, bnd0, bndE, slcE, slcC, pickE, allocE, nilchkE, isNilSV, ibinE, ibin, ishfE, ishf, eqnilE, eqbE, notE, negE, cviE, mkslE, mxE, mnE, extE, isNilSl, isNilFn, isNilIf, isNilO, eqniloE, eqsF, eqsE, cellsEq, cellEq, sbinE, sbin, ifcOf, tasF, tasE, cellsSV, cellsAll, layO, mkEnv, lk, hget_zero, hget_succ, putE, uphO, uph, uphL, evX, rdsX, uIds, List.map_cons, List.map_nil, List.length_cons, List.length_nil, List.length_append, List.length_map, List.length_set, List.set_cons_zero, List.set_cons_succ, List.cons_append, List.nil_append, List.append_nil, List.getElem?_cons_zero, List.getElem?_cons_succ, List.getElem?_nil, List.take_succ_cons, List.take_zero, List.drop_succ_cons, List.drop_zero, List.drop_nil, List.take_nil, Option.getD_some, Option.getD_none, Option.map_some, Option.map_none, true_and, and_true, ↓reduceIte, Nat.reduceEqDiff, Nat.reduceAdd, Nat.reduceSub, Nat.reduceMul, Nat.reduceLeDiff, Nat.reduceLT, Nat.zero_add, Nat.add_zero, decide_eq_true_eq, Bool.false_eq_true, reduceCtorEq, rvs_len, rvs_get, rvs_fold, rvs_take, rvs_append, Int.toNat_natCast, bneTT, bneTF, bneFT, bneFF, Bool.not_true, Bool.not_false, splice0, slcaE, clrE, chunks]
    refine ⟨by omega, by omega, ?_⟩
    refine (hK _ _ _ _ [] (ent_refl _ _) ?_).2
    simp [retM, nodupL, newL, allU, keptL, retP, resL, lk, resT, RnHo, lkp, finU, hget_zero, hget_succ, hget, rnRows_rvs, rn_tup, rn_rv, rn_row, rn_ptr, rn_ifc, rn_agg, rn_dead, RnAll, ofL, rnAll_map, hi, Ne.symm hi, loadE, Ent3.sv, h0]

theorem sp12 (i0 i1 v n : Nat) (es : List Ent3) (hi : i0 ≠ i1) (hn : n ≤ es.length) (h0 : n ≠ 0) (hb : n < 100000) :
    CallR Go.Proofs.Try.prog 12 [.ptr i0 0] [(i0, .var [.row i1 v n]), (i1, .row 3 v (rvs (cellsL es)))] [(i0, .var [.row i1 v (n - 1)]), (i1, .row 3 v (rvs (cellsL (popF es n))))] (.tup [(ga (popF es n) (n - 1)).sv, .rv (.bool true)]) := by
  refine callR_M k12 [i0, i1] [.var [.row 1 v n], .row 3 v (rvs (cellsL es))] [.var [.row i1 v n], .row 3 v (rvs (cellsL es))] [.ptr 0 0] [.ptr i0 0] _ _ (by simp) (by simp [BkAll, bk_ptr, bk_row, bk_rv, bk_agg, bk_ifc, bk_fn, bk_tup, bk_dead, BkHs, rvs_inj, nodupL]) rfl (by simp [nodupL, hi]) (by simp [BkAll, bk_ptr, bk_row, bk_rv, bk_agg, bk_ifc, bk_fn, bk_tup, bk_dead, BkHs, rvs_inj, nodupL]) (fun K hK => ?_)
  have he : ((n : Int) == 0) = false := by simp; omega
  simp -implicitDefEqProofs only [c12, he, g_nil, g_skip, g_reg, g_regd, g_seq, g_block, g_end, g_cond, g_ret, g_exit, gx_nil, gx_c, gx_o, gx_d, gx_b, g_onil, g_dnil, g_op, g_opg, g_opd, g_opdg, condI, callvI, invI, plainI, opI, guardI, callvdI, invdI, plaindI, opdI, guarddI, opE, o1, o2, ix2, loadE, storeE, boxE, allLen, bslE, buildE, fits, fldE, ixsE, ixaE, ixvE, fldvE, lenE, lensE, srcE, appE, bnd2, bndL, bndH, bnd0, bndE, slcE, slcC, pickE, allocE, nilchkE, isNilSV, ibinE, ibin, ishfE, ishf, eqnilE, eqbE, notE, negE, cviE, mkslE, mxE, mnE, extE, isNilSl, isNilFn, isNilIf, isNilO, eqniloE, eqsF, eqsE, cellsEq, cellEq, sbinE, sbin, ifcOf, tasF, tasE, cellsSV, cellsAll, layO, mkEnv, lk, hget_zero, hget_succ, putE, uphO, uph, uphL, evX, rdsX, uIds, List.map_cons, List.map_nil, List.length_cons, List.length_nil, List.length_append, List.length_map, List.length_set, List.set_cons_zero, List.set_cons_succ, List.cons_append, List.nil_append, List.append_nil, List.getElem?_cons_zero, List.getElem?_cons_succ, List.getElem?_nil, List.take_succ_cons, List.take_zero, List.drop_succ_cons, List.drop_zero, List.drop_nil, List.take_nil, Option.getD_some, Option.getD_none, Option.map_some, Option.map_none, true_and, and_true, ↓reduceIte, Nat.reduceEqDiff, Nat.reduceAdd, Nat.reduceSub, Nat.reduceMul, Nat.reduceLeDiff, Nat.reduceLT, Nat.zero_add, Nat.add_zero, decide_eq_true_eq, Bool.false_eq_true, reduceCtorEq, rvs_len, rvs_get, rvs_fold, rvs_take, rvs_append, Int.toNat_natCast, bneTT, bneTF, bneFT, bneFF, Bool.not_true, Bool.not_false, splice0, slcaE, clrE, chunks]
  refine g_call (sp22 0 1 v n es (by decide) hn (by omega) hb) (pre2 rfl rfl) (okU2 rfl rfl) ?_
  simp -implicitDefEqProofs only [Ent3.sv, g_nil, g_skip, g_reg, g_regd, g_seq, g_block, g_end, g_cond, g_ret, g_exit, gx_nil, gx_c, gx_o, gx_d, gx_b, g_onil, g_dnil, g_op, g_opg, g_opd, g_opdg, condI, callvI, invI, plainI, opI, guardI, callvdI, invdI, plaindI, opdI, guarddI, opE, o1, o2, ix2, loadE, storeE, boxE, allLen, bslE, buildE, fits, fldE, ixsE, ixaE, ixvE, fldvE, lenE, lensE, srcE, appE, bnd2, bndL, bndH, bnd0, bndE, slcE, slcC, pickE, allocE, nilchkE, isNilSV, ibinE, ibin, ishfE, ishf, eqnilE, eqbE, notE, negE, cviE, mkslE, mxE, mnE, extE, isNilSl, isNilFn, isNilIf, isNilO, eqniloE, eqsF, eqsE, cellsEq, cellEq, sbinE, sbin, ifcOf, tasF, tasE, cellsSV, cellsAll, layO, mkEnv, lk, hget_zero, hget_succ, putE, uphO, uph, uphL, evX, rdsX, uIds, List.map_cons, List.map_nil, List.length_cons, List.length_nil, List.length_append, List.length_map, List.length_set, List.set_cons_zero, List.set_cons_succ, List.cons_append, List.nil_append, List.append_nil, List.getElem?_cons_zero, List.getElem?_cons_succ, List.getElem?_nil, List.take_succ_cons, List.take_zero, List.drop_succ_cons, List.drop_zero, List.drop_nil, List.take_nil, Option.getD_some, Option.getD_none, Option.map_some, Option.map_none, true_and, and_true, ↓reduceIte, Nat.reduceEqDiff, Nat.reduceAdd, Nat.reduceSub, Nat.reduceMul, Nat.reduceLeDiff, Nat.reduceLT, Nat.zero_add, Nat.add_zero, decide_eq_true_eq, Bool.false_eq_true, reduceCtorEq, rvs_len, rvs_get, rvs_fold, rvs_take, rvs_append, Int.toNat_natCast, bneTT, bneTF, bneFT, bneFF, Bool.not_true, Bool.not_false, splice0, slcaE, clrE, chunks]
  refine (hK _ _ _ _ [] (ent_refl _ _) ?_).2
  simp [retM, nodupL, newL, allU, keptL, retP, resL, lk, resT, RnHo, lkp, finU, hget_zero, hget_succ, hget, rnRows_rvs, rn_tup, rn_rv, rn_row, rn_ptr, rn_ifc, rn_agg, rn_dead, RnAll, ofL, rnAll_map, hi, Ne.symm hi, loadE, Ent3.sv]

theorem sp12e (i0 i1 v : Nat) (es : List Ent3) (hi : i0 ≠ i1) :
    CallR Go.Proofs.Try.prog 12 [.ptr i0 0] [(i0, .var [.row i1 v 0]), (i1, .row 3 v (rvs (cellsL es)))] [] (.tup [(⟨0, 0, 0⟩ : Ent3).sv, .rv (.bool false)]) := by
  refine callR_M k12 [i0, i1] [.var [.row 1 v 0], .row 3 v (rvs (cellsL es))] [.var [.row i1 v 0], .row 3 v (rvs (cellsL es))] [.ptr 0 0] [.ptr i0 0] _ _ (by simp) (by simp [BkAll, bk_ptr, bk_row, bk_rv, bk_agg, bk_ifc, bk_fn, bk_tup, bk_dead, BkHs, rvs_inj, nodupL]) rfl (by simp [nodupL, hi]) (by simp [BkAll, bk_ptr, bk_row, bk_rv, bk_agg, bk_ifc, bk_fn, bk_tup, bk_dead, BkHs, rvs_inj, nodupL]) (fun K hK => ?_)
  have he : (((0 : Nat) : Int) == 0) = true := by decide
  simp -implicitDefEqProofs only [c12, he, g_nil, g_skip, g_reg, g_regd, g_seq, g_block, g_end, g_cond, g_ret, g_exit, gx_nil, gx_c, gx_o, gx_d, gx_b, g_onil, g_dnil, g_op, g_opg, g_opd, g_opdg, condI, callvI, invI, plainI, opI, guardI, callvdI, invdI, plaindI, opdI, guarddI, opE, o1, o2, ix2, loadE, storeE, boxE, allLen, bslE, buildE, fits, fldE, ixsE, ixaE, ixvE, fldvE, lenE, lensE, srcE, appE, bnd2, bndL, bndH, bnd0, bndE, slcE, slcC, pickE, allocE, nilchkE, isNilSV, ibinE, ibin, ishfE, ishf, eqnilE, eqbE, notE, negE, cviE, mkslE, mxE, mnE, extE, isNilSl, isNilFn, isNilIf, isNilO, eqniloE, eqsF, eqsE, cellsEq, cellEq, sbinE, sbin, ifcOf, tasF, tasE, cellsSV, cellsAll, layO, mkEnv, lk, hget_zero, hget_succ, putE, uphO, uph, uphL, evX, rdsX, uIds, List.map_cons, List.map_nil, List.length_cons, List.length_nil, List.length_append, List.length_map, List.length_set, List.set_cons_zero, List.set_cons_succ, List.cons_append, List.nil_append, List.append_nil, List.getElem?_cons_zero, List.getElem?_cons_succ, List.getElem?_nil, List.take_succ_cons, List.take_zero, List.drop_succ_cons, List.drop_zero, List.drop_nil, List.take_nil, Option.getD_some, Option.getD_none, Option.map_some, Option.map_none, true_and, and_true, ↓reduceIte, Nat.reduceEqDiff, Nat.reduceAdd, Nat.reduceSub, Nat.reduceMul, Nat.reduceLeDiff, Nat.reduceLT, Nat.zero_add, Nat.add_zero, decide_eq_true_eq, Bool.false_eq_true, reduceCtorEq, rvs_len, rvs_get, rvs_fold, rvs_take, rvs_append, Int.toNat_natCast, bneTT, bneTF, bneFT, bneFF, Bool.not_true, Bool.not_false, splice0, slcaE, clrE, chunks]
  refine (hK _ _ _ _ [] (ent_refl _ _) ?_).2
  simp [retM, nodupL, newL, allU, keptL, retP, resL, lk, resT, RnHo, lkp, finU, hget_zero, hget_succ, hget, rnRows_rvs, rn_tup, rn_rv, rn_row, rn_ptr, rn_ifc, rn_agg, rn_dead, RnAll, ofL, rnAll_map, hi, Ne.symm hi, loadE, Ent3.sv]

/-- The nil agenda's variable, and a pile that is nil. -/
theorem sp11n (i0 m : Nat) (e : Ent3) (hi : m ≠ i0) :
    CallR Go.Proofs.Try.prog 11 [.ptr i0 0, e.sv] [(i0, .var [.rv .nilsl])] [(i0, .var [.row m 1 1]), (m, .row 3 1 (rvs (cellsL (pushF [] 0 e))))] (.tup []) :=
  callR_ghost (o := 0) (m := m) (e := 3) rfl (by simp) hi (by simp) (by simp) (sp11 i0 m 0 0 [] e (Ne.symm hi) (by simp) (by simp))
end Go.Eng


/- agenda: a program that does something. -/
namespace Go.Eng
open Go
/- decoupage/decoupagelaw04.awake -/
def c7 : AC := (.seq (.reg [⟨(some 0), .mv, [(.c (.rv (.bool false)))], none⟩]) (.seq (.reg [⟨(some 1), (.alloc [.nilsl]), [], none⟩]) (.seq (.reg [⟨(some 4), (.build [(.int .i64 0), (.int .i64 0), (.int .i64 0)] [(0, 1)]), [(.c (.rv (.int .i64 3)))], none⟩, ⟨(some 5), (.call 11), [(.t 1), (.t 4)], none⟩]) (.seq (.reg [⟨(some 6), (.build [(.int .i64 0), (.int .i64 0), (.int .i64 0)] [(0, 1)]), [(.c (.rv (.int .i64 1)))], none⟩, ⟨(some 7), (.call 11), [(.t 1), (.t 6)], none⟩]) (.seq (.reg [⟨(some 9), (.call 12), [(.t 1)], none⟩, ⟨(some 8), .mv, [(.t 9)], none⟩, ⟨(some 10), (.ext 0), [(.t 8)], none⟩, ⟨(some 11), (.ext 1), [(.t 8)], none⟩, ⟨(some 2), (.alloc [(.int .i64 0), (.int .i64 0), (.int .i64 0)]), [], none⟩, ⟨none, (.store 3), [(.t 2), (.t 10)], none⟩, ⟨(some 3), .mv, [(.t 11)], none⟩]) (.seq (.reg [⟨(some 12), .mv, [(.t 3)], none⟩, ⟨(some 13), .mv, [(.t 12)], none⟩, ⟨(some 14), (.fld 0), [(.t 2)], (some (13, true))⟩, ⟨(some 15), (.load 1 false), [(.t 14)], (some (13, true))⟩, ⟨(some 16), (.ibin .eql), [(.t 15), (.c (.rv (.int .i64 1)))], (some (13, true))⟩, ⟨(some 17), .pick, [(.t 13), (.t 16), (.c (.rv (.bool false)))], none⟩, ⟨(some 18), .mv, [(.t 17)], none⟩, ⟨(some 19), (.call 15), [(.t 1)], (some (18, true))⟩, ⟨(some 20), (.ibin .eql), [(.t 19), (.c (.rv (.int .i64 1)))], (some (18, true))⟩, ⟨(some 21), .pick, [(.t 18), (.t 20), (.c (.rv (.bool false)))], none⟩, ⟨(some 0), .mv, [(.t 21)], none⟩]) .ret))))))
theorem k7 : FnOK Go.Proofs.Try.prog 7 22 c7 [(.t 0)] := fnOK_of (by kernel_rfl)


theorem ps1 : pushF [] 0 ⟨3, 0, 0⟩ = [⟨3, 0, 0⟩] := by simp [pushF, upF]
theorem ps2 : pushF [⟨3, 0, 0⟩] 1 ⟨1, 0, 0⟩ = [⟨1, 0, 0⟩, ⟨3, 0, 0⟩] := by
  simp [pushF, upF, ga, cmpE, cmpI, orF, sw]
theorem ps3 : popF [⟨1, 0, 0⟩, ⟨3, 0, 0⟩] 2 = [⟨3, 0, 0⟩, ⟨1, 0, 0⟩] := by
  simp [popF, downF, ga, sw]

theorem okUn {h : List (Option HB)} {a b : Nat} {x x' y' : HB} {pre : List (Nat × HB)} (ha : hget h a = some x) (hb : b = h.length) (hm : (a, x) ∈ pre := by simp) : okU pre h [(a, x'), (b, y')] := by
  have hlt : a < h.length := by
    unfold hget at ha
    cases hl : h[a]? with
    | none => simp [hl] at ha
    | some z => exact (List.getElem?_eq_some_iff.1 hl).1
  refine ⟨.inr ⟨hlt, x, hm⟩, .inl ?_, trivial⟩
  unfold uph
  rw [if_neg (by simp; omega), List.length_set]; exact hb

theorem sp7 : CallR Go.Proofs.Try.prog 7 [] [] [] (.rv (.bool true)) := by
  refine callR_F k7 [] _ (by simp) (fun K hK => ?_)
  simp -implicitDefEqProofs only [c7, g_nil, g_skip, g_reg, g_regd, g_seq, g_block, g_end, g_cond, g_ret, g_exit, gx_nil, gx_c, gx_o, gx_d, gx_b, g_onil, g_dnil, g_op, g_opg, g_opd, g_opdg, condI, callvI, invI, plainI, opI, guardI, callvdI, invdI, plaindI, opdI, guarddI, opE, o1, o2, ix2, loadE, storeE, boxE, allLen, bslE, buildE, fits, fldE, ixsE, ixaE, ixvE, fldvE, lenE, lensE, srcE, appE, bnd2, bndL, bndH, bnd0, bndE, slcE, slcC, pickE, allocE, nilchkE, isNilSV, ibinE, ibin, ishfE, ishf, eqnilE, eqbE, notE, negE, cviE, mkslE, mxE, mnE, extE, isNilSl, isNilFn, isNilIf, isNilO, eqniloE, eqsF, eqsE, cellsEq, cellEq, sbinE, sbin, ifcOf, tasF, tasE, cellsSV, cellsAll, layO, mkEnv, lk, hget_zero, hget_succ, putE, uphO, uph, uphL, evX, rdsX, uIds, List.map_cons, List.map_nil, List.length_cons, List.length_nil, List.length_append, List.length_map, List.length_set, List.set_cons_zero, List.set_cons_succ, List.cons_append, List.nil_append, List.append_nil, List.getElem?_cons_zero, List.getElem?_cons_succ, List.getElem?_nil, List.take_succ_cons, List.take_zero, List.drop_succ_cons, List.drop_zero, List.drop_nil, List.take_nil, Option.getD_some, Option.getD_none, Option.map_some, Option.map_none, true_and, and_true, ↓reduceIte, Nat.reduceEqDiff, Nat.reduceAdd, Nat.reduceSub, Nat.reduceMul, Nat.reduceLeDiff, Nat.reduceLT, Nat.zero_add, Nat.add_zero, decide_eq_true_eq, Bool.false_eq_true, reduceCtorEq, rvs_len, rvs_get, rvs_fold, rvs_take, rvs_append, Int.toNat_natCast, bneTT, bneTF, bneFT, bneFF, Bool.not_true, Bool.not_false, splice0, slcaE, clrE, chunks]
  refine g_call (sp11n 0 1 ⟨3, 0, 0⟩ (by decide)) (pre1 rfl) (okUn rfl rfl) ?_
  simp -implicitDefEqProofs only [ps1, g_nil, g_skip, g_reg, g_regd, g_seq, g_block, g_end, g_cond, g_ret, g_exit, gx_nil, gx_c, gx_o, gx_d, gx_b, g_onil, g_dnil, g_op, g_opg, g_opd, g_opdg, condI, callvI, invI, plainI, opI, guardI, callvdI, invdI, plaindI, opdI, guarddI, opE, o1, o2, ix2, loadE, storeE, boxE, allLen, bslE, buildE, fits, fldE, ixsE, ixaE, ixvE, fldvE, lenE, lensE, srcE, appE, bnd2, bndL, bndH, bnd0, bndE, slcE, slcC, pickE, allocE, nilchkE, isNilSV, ibinE, ibin, ishfE, ishf, eqnilE, eqbE, notE, negE, cviE, mkslE, mxE, mnE, extE, isNilSl, isNilFn, isNilIf, isNilO, eqniloE, eqsF, eqsE, cellsEq, cellEq, sbinE, sbin, ifcOf, tasF, tasE, cellsSV, cellsAll, layO, mkEnv, lk, hget_zero, hget_succ, putE, uphO, uph, uphL, evX, rdsX, uIds, List.map_cons, List.map_nil, List.length_cons, List.length_nil, List.length_append, List.length_map, List.length_set, List.set_cons_zero, List.set_cons_succ, List.cons_append, List.nil_append, List.append_nil, List.getElem?_cons_zero, List.getElem?_cons_succ, List.getElem?_nil, List.take_succ_cons, List.take_zero, List.drop_succ_cons, List.drop_zero, List.drop_nil, List.take_nil, Option.getD_some, Option.getD_none, Option.map_some, Option.map_none, true_and, and_true, ↓reduceIte, Nat.reduceEqDiff, Nat.reduceAdd, Nat.reduceSub, Nat.reduceMul, Nat.reduceLeDiff, Nat.reduceLT, Nat.zero_add, Nat.add_zero, decide_eq_true_eq, Bool.false_eq_true, reduceCtorEq, rvs_len, rvs_get, rvs_fold, rvs_take, rvs_append, Int.toNat_natCast, bneTT, bneTF, bneFT, bneFF, Bool.not_true, Bool.not_false, splice0, slcaE, clrE, chunks]
  refine g_call (sp11 0 1 1 1 [⟨3, 0, 0⟩] ⟨1, 0, 0⟩ (by decide) (by simp) (by simp)) (pre2 rfl rfl) (okU2 rfl rfl) ?_
  simp -implicitDefEqProofs only [ps2, g_nil, g_skip, g_reg, g_regd, g_seq, g_block, g_end, g_cond, g_ret, g_exit, gx_nil, gx_c, gx_o, gx_d, gx_b, g_onil, g_dnil, g_op, g_opg, g_opd, g_opdg, condI, callvI, invI, plainI, opI, guardI, callvdI, invdI, plaindI, opdI, guarddI, opE, o1, o2, ix2, loadE, storeE, boxE, allLen, bslE, buildE, fits, fldE, ixsE, ixaE, ixvE, fldvE, lenE, lensE, srcE, appE, bnd2, bndL, bndH, bnd0, bndE, slcE, slcC, pickE, allocE, nilchkE, isNilSV, ibinE, ibin, ishfE, ishf, eqnilE, eqbE, notE, negE, cviE, mkslE, mxE, mnE, extE, isNilSl, isNilFn, isNilIf, isNilO, eqniloE, eqsF, eqsE, cellsEq, cellEq, sbinE, sbin, ifcOf, tasF, tasE, cellsSV, cellsAll, layO, mkEnv, lk, hget_zero, hget_succ, putE, uphO, uph, uphL, evX, rdsX, uIds, List.map_cons, List.map_nil, List.length_cons, List.length_nil, List.length_append, List.length_map, List.length_set, List.set_cons_zero, List.set_cons_succ, List.cons_append, List.nil_append, List.append_nil, List.getElem?_cons_zero, List.getElem?_cons_succ, List.getElem?_nil, List.take_succ_cons, List.take_zero, List.drop_succ_cons, List.drop_zero, List.drop_nil, List.take_nil, Option.getD_some, Option.getD_none, Option.map_some, Option.map_none, true_and, and_true, ↓reduceIte, Nat.reduceEqDiff, Nat.reduceAdd, Nat.reduceSub, Nat.reduceMul, Nat.reduceLeDiff, Nat.reduceLT, Nat.zero_add, Nat.add_zero, decide_eq_true_eq, Bool.false_eq_true, reduceCtorEq, rvs_len, rvs_get, rvs_fold, rvs_take, rvs_append, Int.toNat_natCast, bneTT, bneTF, bneFT, bneFF, Bool.not_true, Bool.not_false, splice0, slcaE, clrE, chunks]
  refine g_call (sp12 0 1 2 2 [⟨1, 0, 0⟩, ⟨3, 0, 0⟩] (by decide) (by simp) (by simp) (by simp)) (pre2 rfl rfl) (okU2 rfl rfl) ?_
  have hg : ga [⟨3, 0, 0⟩, ⟨1, 0, 0⟩] 1 = ⟨1, 0, 0⟩ := rfl
  have e1 : ((1 : Int) == 1) = true := by decide
  simp -implicitDefEqProofs only [ps3, hg, Ent3.sv, e1, g_nil, g_skip, g_reg, g_regd, g_seq, g_block, g_end, g_cond, g_ret, g_exit, gx_nil, gx_c, gx_o, gx_d, gx_b, g_onil, g_dnil, g_op, g_opg, g_opd, g_opdg, condI, callvI, invI, plainI, opI, guardI, callvdI, invdI, plaindI, opdI, guarddI, opE, o1, o2, ix2, loadE, storeE, boxE, allLen, bslE, buildE, fits, fldE, ixsE, ixaE, ixvE, fldvE, lenE, lensE, srcE, appE, bnd2, bndL, bndH, bnd0, bndE, slcE, slcC, pickE, allocE, nilchkE, isNilSV, ibinE, ibin, ishfE, ishf, eqnilE, eqbE, notE, negE, cviE, mkslE, mxE, mnE, extE, isNilSl, isNilFn, isNilIf, isNilO, eqniloE, eqsF, eqsE, cellsEq, cellEq, sbinE, sbin, ifcOf, tasF, tasE, cellsSV, cellsAll, layO, mkEnv, lk, hget_zero, hget_succ, putE, uphO, uph, uphL, evX, rdsX, uIds, List.map_cons, List.map_nil, List.length_cons, List.length_nil, List.length_append, List.length_map, List.length_set, List.set_cons_zero, List.set_cons_succ, List.cons_append, List.nil_append, List.append_nil, List.getElem?_cons_zero, List.getElem?_cons_succ, List.getElem?_nil, List.take_succ_cons, List.take_zero, List.drop_succ_cons, List.drop_zero, List.drop_nil, List.take_nil, Option.getD_some, Option.getD_none, Option.map_some, Option.map_none, true_and, and_true, ↓reduceIte, Nat.reduceEqDiff, Nat.reduceAdd, Nat.reduceSub, Nat.reduceMul, Nat.reduceLeDiff, Nat.reduceLT, Nat.zero_add, Nat.add_zero, decide_eq_true_eq, Bool.false_eq_true, reduceCtorEq, rvs_len, rvs_get, rvs_fold, rvs_take, rvs_append, Int.toNat_natCast, bneTT, bneTF, bneFT, bneFF, Bool.not_true, Bool.not_false, splice0, slcaE, clrE, chunks]
  refine g_call (sp15 0 1 2 1 [⟨3, 0, 0⟩, ⟨1, 0, 0⟩] (by decide)) (pre2 rfl rfl) trivial ?_
  have e2 : (((1 : Nat) : Int) == 1) = true := by decide
  simp -implicitDefEqProofs only [e2, g_nil, g_skip, g_reg, g_regd, g_seq, g_block, g_end, g_cond, g_ret, g_exit, gx_nil, gx_c, gx_o, gx_d, gx_b, g_onil, g_dnil, g_op, g_opg, g_opd, g_opdg, condI, callvI, invI, plainI, opI, guardI, callvdI, invdI, plaindI, opdI, guarddI, opE, o1, o2, ix2, loadE, storeE, boxE, allLen, bslE, buildE, fits, fldE, ixsE, ixaE, ixvE, fldvE, lenE, lensE, srcE, appE, bnd2, bndL, bndH, bnd0, bndE, slcE, slcC, pickE, allocE, nilchkE, isNilSV, ibinE, ibin, ishfE, ishf, eqnilE, eqbE, notE, negE, cviE, mkslE, mxE, mnE, extE, isNilSl, isNilFn, isNilIf, isNilO, eqniloE, eqsF, eqsE, cellsEq, cellEq, sbinE, sbin, ifcOf, tasF, tasE, cellsSV, cellsAll, layO, mkEnv, lk, hget_zero, hget_succ, putE, uphO, uph, uphL, evX, rdsX, uIds, List.map_cons, List.map_nil, List.length_cons, List.length_nil, List.length_append, List.length_map, List.length_set, List.set_cons_zero, List.set_cons_succ, List.cons_append, List.nil_append, List.append_nil, List.getElem?_cons_zero, List.getElem?_cons_succ, List.getElem?_nil, List.take_succ_cons, List.take_zero, List.drop_succ_cons, List.drop_zero, List.drop_nil, List.take_nil, Option.getD_some, Option.getD_none, Option.map_some, Option.map_none, true_and, and_true, ↓reduceIte, Nat.reduceEqDiff, Nat.reduceAdd, Nat.reduceSub, Nat.reduceMul, Nat.reduceLeDiff, Nat.reduceLT, Nat.zero_add, Nat.add_zero, decide_eq_true_eq, Bool.false_eq_true, reduceCtorEq, rvs_len, rvs_get, rvs_fold, rvs_take, rvs_append, Int.toNat_natCast, bneTT, bneTF, bneFT, bneFF, Bool.not_true, Bool.not_false, splice0, slcaE, clrE, chunks]
  refine (hK _ _ ?_).2
  simp [retM, nodupL, newL, allU, keptL, retP, resL, lk, resT, RnHo, lkp, finU, hget_zero, hget_succ, hget, rnRows_rvs, rn_tup, rn_rv, rn_row, rn_ptr, rn_ifc, rn_agg, rn_dead, RnAll, ofL, rnAll_map]
end Go.Eng


/- agenda: entries have one order. -/
namespace Go.Eng
open Go
/- decoupage/decoupagelaw04.AgendaOrders -/
def c3 : AC := (.seq (.reg [⟨(some 3), .box, [(.t 0)], none⟩, ⟨(some 4), .box, [(.t 1)], none⟩, ⟨(some 5), .box, [(.t 2)], none⟩, ⟨(some 6), .mv, [(.c (.rv (.bool false)))], none⟩]) (.seq (.seq (.reg [⟨(some 11), (.call 7), [], none⟩, ⟨(some 12), .not, [(.t 11)], none⟩]) (.cond (.t 12) (.seq (.reg [⟨(some 6), .mv, [(.c (.rv (.bool false)))], none⟩]) .ret) .skip)) (.seq (.regd [0, 0, 3, 0, 0, 31, 0, 0, 255, 511, 1023, 2047] [⟨(some 13), (.load 3 true), [(.t 3)], none⟩, ⟨(some 14), (.load 3 true), [(.t 4)], none⟩, ⟨(some 15), (.call 8), [(.t 13), (.t 14)], none⟩, ⟨(some 16), (.load 3 true), [(.t 4)], none⟩, ⟨(some 17), (.load 3 true), [(.t 5)], none⟩, ⟨(some 18), (.call 8), [(.t 16), (.t 17)], none⟩, ⟨(some 19), (.load 3 true), [(.t 3)], none⟩, ⟨(some 20), (.load 3 true), [(.t 5)], none⟩, ⟨(some 21), (.call 8), [(.t 19), (.t 20)], none⟩, ⟨(some 7), .mv, [(.t 15)], none⟩, ⟨(some 8), .mv, [(.t 18)], none⟩, ⟨(some 9), .mv, [(.t 21)], none⟩]) (.seq (.reg [⟨(some 22), (.load 3 true), [(.t 3)], none⟩, ⟨(some 23), (.load 3 true), [(.t 4)], none⟩, ⟨(some 24), (.call 9), [(.t 22), (.t 23)], none⟩, ⟨(some 10), .mv, [(.t 24)], none⟩]) (.seq (.reg [⟨(some 25), .mv, [(.t 7)], none⟩, ⟨(some 26), (.load 3 true), [(.t 4)], none⟩, ⟨(some 27), (.load 3 true), [(.t 3)], none⟩, ⟨(some 28), (.call 8), [(.t 26), (.t 27)], none⟩, ⟨(some 29), .neg, [(.t 28)], none⟩, ⟨(some 30), (.ibin .eql), [(.t 25), (.t 29)], none⟩, ⟨(some 31), .mv, [(.t 30)], none⟩, ⟨(some 32), .mv, [(.t 7)], (some (31, true))⟩, ⟨(some 33), (.ibin .eql), [(.t 32), (.c (.rv (.int .i64 0)))], (some (31, true))⟩, ⟨(some 34), (.load 3 true), [(.t 3)], (some (31, true))⟩, ⟨(some 35), (.load 3 true), [(.t 4)], (some (31, true))⟩, ⟨(some 36), (.eqs false true [.i, .i, .i]), [(.t 34), (.t 35)], (some (31, true))⟩, ⟨(some 37), (.eqb false), [(.t 33), (.t 36)], (some (31, true))⟩, ⟨(some 38), .pick, [(.t 31), (.t 37), (.c (.rv (.bool false)))], none⟩, ⟨(some 39), .mv, [(.t 38)], none⟩, ⟨(some 40), .mv, [(.t 7)], (some (39, true))⟩, ⟨(some 41), (.ibin .eql), [(.t 40), (.c (.rv (.int .i64 (-1))))], (some (39, true))⟩, ⟨(some 42), .mv, [(.t 10)], (some (39, true))⟩, ⟨(some 43), (.eqb false), [(.t 41), (.t 42)], (some (39, true))⟩, ⟨(some 44), .pick, [(.t 39), (.t 43), (.c (.rv (.bool false)))], none⟩, ⟨(some 45), .mv, [(.t 44)], none⟩, ⟨(some 46), .mv, [(.t 7)], (some (45, true))⟩, ⟨(some 47), (.ibin .gtr), [(.t 46), (.c (.rv (.int .i64 0)))], (some (45, true))⟩, ⟨(some 48), .mv, [(.t 47)], (some (45, true))⟩, ⟨(some 49), .mv, [(.t 8)], (some (48, false))⟩, ⟨(some 50), (.ibin .gtr), [(.t 49), (.c (.rv (.int .i64 0)))], (some (48, false))⟩, ⟨(some 51), .pick, [(.t 48), (.c (.rv (.bool true))), (.t 50)], (some (45, true))⟩, ⟨(some 52), .mv, [(.t 51)], (some (45, true))⟩, ⟨(some 53), .mv, [(.t 9)], (some (52, false))⟩, ⟨(some 54), (.ibin .leq), [(.t 53), (.c (.rv (.int .i64 0)))], (some (52, false))⟩, ⟨(some 55), .pick, [(.t 52), (.c (.rv (.bool true))), (.t 54)], (some (45, true))⟩, ⟨(some 56), .pick, [(.t 45), (.t 55), (.c (.rv (.bool false)))], none⟩, ⟨(some 57), .mv, [(.t 56)], none⟩, ⟨(some 58), .mv, [(.t 7)], (some (57, true))⟩, ⟨(some 59), (.ibin .geq), [(.t 58), (.c (.rv (.int .i64 (-1))))], (some (57, true))⟩, ⟨(some 60), .pick, [(.t 57), (.t 59), (.c (.rv (.bool false)))], none⟩, ⟨(some 61), .mv, [(.t 60)], none⟩, ⟨(some 62), .mv, [(.t 7)], (some (61, true))⟩, ⟨(some 63), (.ibin .leq), [(.t 62), (.c (.rv (.int .i64 1)))], (some (61, true))⟩, ⟨(some 64), .pick, [(.t 61), (.t 63), (.c (.rv (.bool false)))], none⟩, ⟨(some 6), .mv, [(.t 64)], none⟩]) .ret)))))
theorem k3 : FnOK Go.Proofs.Try.prog 3 65 c3 [(.t 6)] := fnOK_of (by kernel_rfl)


def lessB (a b : Ent3) : Bool := if a.key = b.key then (if a.tie = b.tie then decide (a.n < b.n) else decide (a.tie < b.tie)) else decide (a.key < b.key)

theorem sp9 (a b : Ent3) : CallR Go.Proofs.Try.prog 9 [a.sv, b.sv] [] [] (.rv (.bool (lessB a b))) := by
  refine callR_M k9 [] [] [] [a.sv, b.sv] [a.sv, b.sv] [] _ (by simp) (by simp [BkAll, bk_ptr, bk_row, bk_rv, bk_agg, bk_ifc, bk_fn, bk_tup, bk_dead, BkHs, rvs_inj, nodupL, Ent3.sv]) rfl (by simp [nodupL]) (by simp [BkHs]) (fun K hK => ?_)
  have e0 : ∀ x y : Int, ((x != y) = true) = ¬ (x = y) := fun x y => by simp
  simp -implicitDefEqProofs only [c9, Ent3.sv, e0, g_nil, g_skip, g_reg, g_regd, g_seq, g_block, g_end, g_cond, g_ret, g_exit, gx_nil, gx_c, gx_o, gx_d, gx_b, g_onil, g_dnil, g_op, g_opg, g_opd, g_opdg, condI, callvI, invI, plainI, opI, guardI, callvdI, invdI, plaindI, opdI, guarddI, opE, o1, o2, ix2, loadE, storeE, boxE, allLen, bslE, buildE, fits, fldE, ixsE, ixaE, ixvE, fldvE, lenE, lensE, srcE, appE, bnd2, bndL, bndH, bnd0, bndE, slcE, slcC, pickE, allocE, nilchkE, isNilSV, ibinE, ibin, ishfE, ishf, eqnilE, eqbE, notE, negE, cviE, mkslE, mxE, mnE, extE, isNilSl, isNilFn, isNilIf, isNilO, eqniloE, eqsF, eqsE, cellsEq, cellEq, sbinE, sbin, ifcOf, tasF, tasE, cellsSV, cellsAll, layO, mkEnv, lk, hget_zero, hget_succ, putE, uphO, uph, uphL, evX, rdsX, uIds, List.map_cons, List.map_nil, List.length_cons, List.length_nil, List.length_append, List.length_map, List.length_set, List.set_cons_zero, List.set_cons_succ, List.cons_append, List.nil_append, List.append_nil, List.getElem?_cons_zero, List.getElem?_cons_succ, List.getElem?_nil, List.take_succ_cons, List.take_zero, List.drop_succ_cons, List.drop_zero, List.drop_nil, List.take_nil, Option.getD_some, Option.getD_none, Option.map_some, Option.map_none, true_and, and_true, ↓reduceIte, Nat.reduceEqDiff, Nat.reduceAdd, Nat.reduceSub, Nat.reduceMul, Nat.reduceLeDiff, Nat.reduceLT, Nat.zero_add, Nat.add_zero, decide_eq_true_eq, Bool.false_eq_true, reduceCtorEq, rvs_len, rvs_get, rvs_fold, rvs_take, rvs_append, Int.toNat_natCast, bneTT, bneTF, bneFT, bneFF, Bool.not_true, Bool.not_false, splice0, slcaE, clrE, chunks]
  by_cases h1 : a.key = b.key
  · by_cases h2 : a.tie = b.tie
    · simp -implicitDefEqProofs only [h1, h2, not_true_eq_false, g_nil, g_skip, g_reg, g_regd, g_seq, g_block, g_end, g_cond, g_ret, g_exit, gx_nil, gx_c, gx_o, gx_d, gx_b, g_onil, g_dnil, g_op, g_opg, g_opd, g_opdg, condI, callvI, invI, plainI, opI, guardI, callvdI, invdI, plaindI, opdI, guarddI, opE, o1, o2, ix2, loadE, storeE, boxE, allLen, bslE, buildE, fits, fldE, ixsE, ixaE, ixvE, fldvE, lenE, lensE, srcE, appE, bnd2, bndL, bndH, bnd0, bndE, slcE, slcC, pickE, allocE, nilchkE, isNilSV, ibinE, ibin, ishfE, ishf, eqnilE, eqbE, notE, negE, cviE, mkslE, mxE, mnE, extE, isNilSl, isNilFn, isNilIf, isNilO, eqniloE, eqsF, eqsE, cellsEq, cellEq, sbinE, sbin, ifcOf, tasF, tasE, cellsSV, cellsAll, layO, mkEnv, lk, hget_zero, hget_succ, putE, uphO, uph, uphL, evX, rdsX, uIds, List.map_cons, List.map_nil, List.length_cons, List.length_nil, List.length_append, List.length_map, List.length_set, List.set_cons_zero, List.set_cons_succ, List.cons_append, List.nil_append, List.append_nil, List.getElem?_cons_zero, List.getElem?_cons_succ, List.getElem?_nil, List.take_succ_cons, List.take_zero, List.drop_succ_cons, List.drop_zero, List.drop_nil, List.take_nil, Option.getD_some, Option.getD_none, Option.map_some, Option.map_none, true_and, and_true, ↓reduceIte, Nat.reduceEqDiff, Nat.reduceAdd, Nat.reduceSub, Nat.reduceMul, Nat.reduceLeDiff, Nat.reduceLT, Nat.zero_add, Nat.add_zero, decide_eq_true_eq, Bool.false_eq_true, reduceCtorEq, rvs_len, rvs_get, rvs_fold, rvs_take, rvs_append, Int.toNat_natCast, bneTT, bneTF, bneFT, bneFF, Bool.not_true, Bool.not_false, splice0, slcaE, clrE, chunks]
      refine (hK _ _ _ _ [] (ent_refl _ _) ?_).2
      simp [retM, nodupL, newL, allU, keptL, retP, resL, lk, resT, RnHo, lkp, finU, hget_zero, hget_succ, hget, rnRows_rvs, rn_tup, rn_rv, rn_row, rn_ptr, rn_ifc, rn_agg, rn_dead, RnAll, ofL, rnAll_map, lessB, h1, h2]
    · simp -implicitDefEqProofs only [h1, h2, not_true_eq_false, not_false_eq_true, g_nil, g_skip, g_reg, g_regd, g_seq, g_block, g_end, g_cond, g_ret, g_exit, gx_nil, gx_c, gx_o, gx_d, gx_b, g_onil, g_dnil, g_op, g_opg, g_opd, g_opdg, condI, callvI, invI, plainI, opI, guardI, callvdI, invdI, plaindI, opdI, guarddI, opE, o1, o2, ix2, loadE, storeE, boxE, allLen, bslE, buildE, fits, fldE, ixsE, ixaE, ixvE, fldvE, lenE, lensE, srcE, appE, bnd2, bndL, bndH, bnd0, bndE, slcE, slcC, pickE, allocE, nilchkE, isNilSV, ibinE, ibin, ishfE, ishf, eqnilE, eqbE, notE, negE, cviE, mkslE, mxE, mnE, extE, isNilSl, isNilFn, isNilIf, isNilO, eqniloE, eqsF, eqsE, cellsEq, cellEq, sbinE, sbin, ifcOf, tasF, tasE, cellsSV, cellsAll, layO, mkEnv, lk, hget_zero, hget_succ, putE, uphO, uph, uphL, evX, rdsX, uIds, List.map_cons, List.map_nil, List.length_cons, List.length_nil, List.length_append, List.length_map, List.length_set, List.set_cons_zero, List.set_cons_succ, List.cons_append, List.nil_append, List.append_nil, List.getElem?_cons_zero, List.getElem?_cons_succ, List.getElem?_nil, List.take_succ_cons, List.take_zero, List.drop_succ_cons, List.drop_zero, List.drop_nil, List.take_nil, Option.getD_some, Option.getD_none, Option.map_some, Option.map_none, true_and, and_true, ↓reduceIte, Nat.reduceEqDiff, Nat.reduceAdd, Nat.reduceSub, Nat.reduceMul, Nat.reduceLeDiff, Nat.reduceLT, Nat.zero_add, Nat.add_zero, decide_eq_true_eq, Bool.false_eq_true, reduceCtorEq, rvs_len, rvs_get, rvs_fold, rvs_take, rvs_append, Int.toNat_natCast, bneTT, bneTF, bneFT, bneFF, Bool.not_true, Bool.not_false, splice0, slcaE, clrE, chunks]
      refine (hK _ _ _ _ [] (ent_refl _ _) ?_).2
      simp [retM, nodupL, newL, allU, keptL, retP, resL, lk, resT, RnHo, lkp, finU, hget_zero, hget_succ, hget, rnRows_rvs, rn_tup, rn_rv, rn_row, rn_ptr, rn_ifc, rn_agg, rn_dead, RnAll, ofL, rnAll_map, lessB, h1, h2]
  · simp -implicitDefEqProofs only [h1, not_true_eq_false, not_false_eq_true, g_nil, g_skip, g_reg, g_regd, g_seq, g_block, g_end, g_cond, g_ret, g_exit, gx_nil, gx_c, gx_o, gx_d, gx_b, g_onil, g_dnil, g_op, g_opg, g_opd, g_opdg, condI, callvI, invI, plainI, opI, guardI, callvdI, invdI, plaindI, opdI, guarddI, opE, o1, o2, ix2, loadE, storeE, boxE, allLen, bslE, buildE, fits, fldE, ixsE, ixaE, ixvE, fldvE, lenE, lensE, srcE, appE, bnd2, bndL, bndH, bnd0, bndE, slcE, slcC, pickE, allocE, nilchkE, isNilSV, ibinE, ibin, ishfE, ishf, eqnilE, eqbE, notE, negE, cviE, mkslE, mxE, mnE, extE, isNilSl, isNilFn, isNilIf, isNilO, eqniloE, eqsF, eqsE, cellsEq, cellEq, sbinE, sbin, ifcOf, tasF, tasE, cellsSV, cellsAll, layO, mkEnv, lk, hget_zero, hget_succ, putE, uphO, uph, uphL, evX, rdsX, uIds, List.map_cons, List.map_nil, List.length_cons, List.length_nil, List.length_append, List.length_map, List.length_set, List.set_cons_zero, List.set_cons_succ, List.cons_append, List.nil_append, List.append_nil, List.getElem?_cons_zero, List.getElem?_cons_succ, List.getElem?_nil, List.take_succ_cons, List.take_zero, List.drop_succ_cons, List.drop_zero, List.drop_nil, List.take_nil, Option.getD_some, Option.getD_none, Option.map_some, Option.map_none, true_and, and_true, ↓reduceIte, Nat.reduceEqDiff, Nat.reduceAdd, Nat.reduceSub, Nat.reduceMul, Nat.reduceLeDiff, Nat.reduceLT, Nat.zero_add, Nat.add_zero, decide_eq_true_eq, Bool.false_eq_true, reduceCtorEq, rvs_len, rvs_get, rvs_fold, rvs_take, rvs_append, Int.toNat_natCast, bneTT, bneTF, bneFT, bneFF, Bool.not_true, Bool.not_false, splice0, slcaE, clrE, chunks]
    refine (hK _ _ _ _ [] (ent_refl _ _) ?_).2
    simp [retM, nodupL, newL, allU, keptL, retP, resL, lk, resT, RnHo, lkp, finU, hget_zero, hget_succ, hget, rnRows_rvs, rn_tup, rn_rv, rn_row, rn_ptr, rn_ifc, rn_agg, rn_dead, RnAll, ofL, rnAll_map, lessB, h1]

theorem orF3 (x y z : Int) : orF [x, y, z] = if x = 0 then (if y = 0 then z else y) else x := by
  unfold orF orF orF orF
  by_cases h1 : x = 0 <;> by_cases h2 : y = 0 <;> by_cases h3 : z = 0 <;> simp [h1, h2, h3]

theorem cmpE_val (a b : Ent3) : cmpE a b = if a.key < b.key then -1 else if b.key < a.key then 1 else if a.tie < b.tie then -1 else if b.tie < a.tie then 1 else if a.n < b.n then -1 else if b.n < a.n then 1 else 0 := by
  unfold cmpE cmpI
  rw [orF3]
  by_cases h1 : a.key < b.key
  · simp [h1]
  · by_cases h2 : b.key < a.key
    · simp [h1, h2]
    · by_cases h3 : a.tie < b.tie
      · simp [h1, h2, h3]
      · by_cases h4 : b.tie < a.tie
        · simp [h1, h2, h3, h4]
        · simp [h1, h2, h3, h4]

theorem cmpE_le (a b : Ent3) : cmpE a b ≤ 0 ↔ a.key < b.key ∨ (a.key = b.key ∧ (a.tie < b.tie ∨ (a.tie = b.tie ∧ a.n ≤ b.n))) := by
  rw [cmpE_val]
  repeat' split
  all_goals omega

theorem dif_ (p : Prop) [Decidable p] : decide p = if p then true else false := by by_cases h : p <;> simp [h]
theorem beqI_ (x y : Int) : (x == y) = if x = y then true else false := by by_cases h : x = y <;> simp [h]
theorem cmp_f1 (a b : Ent3) : (cmpE a b == - cmpE b a) = true := by
  rw [beqI_, cmpE_val a b, cmpE_val b a]; repeat' split
  all_goals first | rfl | (exfalso; omega)
theorem cmp_f3 (a b : Ent3) : ((cmpE a b == -1) == lessB a b) = true := by
  unfold lessB
  rw [beqI_, dif_, dif_, dif_, cmpE_val a b]; repeat' split
  all_goals first | rfl | (exfalso; omega)
theorem cmp_rg (a b : Ent3) : -1 ≤ cmpE a b ∧ cmpE a b ≤ 1 := by
  rw [cmpE_val]; repeat' split
  all_goals omega
theorem cmp_tr (a b c : Ent3) (h : ¬ cmpE a b > 0) (h' : ¬ cmpE b c > 0) : cmpE a c ≤ 0 := by
  have l1 := (cmpE_le a b).1 (by omega)
  have l2 := (cmpE_le b c).1 (by omega)
  rw [cmpE_le a c]
  omega
end Go.Eng


/- agenda: a nil agenda. -/
namespace Go.Eng
open Go

end Go.Eng


/- agenda: the document's least. -/
namespace Go.Eng
open Go
/- decoupage/decoupageref04.Least -/
def c10 : AC := (.seq (.reg [⟨(some 2), .mv, [(.c (.rv (.int .i64 0)))], none⟩]) (.seq (.reg [⟨(some 3), .mv, [(.c (.rv (.int .i64 (-1))))], none⟩]) (.seq (.seq (.reg [⟨(some 5), .mv, [(.t 0)], none⟩, ⟨(some 6), .len, [(.t 5)], none⟩, ⟨(some 7), .mv, [(.c (.rv (.int .i64 0)))], none⟩]) (.seq (.block 0 (.loop (.seq (.reg [⟨(some 8), (.ibin .lss), [(.t 7), (.t 6)], none⟩]) (.seq (.cond (.t 8) .skip (.exit 0)) (.seq (.seq (.block 1 (.seq (.reg [⟨(some 9), .mv, [(.t 7)], none⟩, ⟨(some 4), .mv, [(.t 9)], none⟩]) (.seq (.regd [0, 1, 3, 7, 7, 31, 63, 7, 7, 391, 903, 2047, 4095] [⟨(some 10), .mv, [(.t 3)], none⟩, ⟨(some 11), (.ibin .lss), [(.t 10), (.c (.rv (.int .i64 0)))], none⟩, ⟨(some 12), .mv, [(.t 11)], none⟩, ⟨(some 13), .mv, [(.t 0)], (some (12, false))⟩, ⟨(some 14), .mv, [(.t 4)], (some (12, false))⟩, ⟨(some 15), (.ixs 3), [(.t 13), (.t 14)], (some (12, false))⟩, ⟨(some 16), (.load 3 true), [(.t 15)], (some (12, false))⟩, ⟨(some 17), .mv, [(.t 0)], (some (12, false))⟩, ⟨(some 18), .mv, [(.t 3)], (some (12, false))⟩, ⟨(some 19), (.ixs 3), [(.t 17), (.t 18)], (some (12, false))⟩, ⟨(some 20), (.load 3 true), [(.t 19)], (some (12, false))⟩, ⟨(some 21), (.call 9), [(.t 16), (.t 20)], (some (12, false))⟩, ⟨(some 22), .pick, [(.t 12), (.c (.rv (.bool true))), (.t 21)], none⟩]) (.seq (.cond (.t 22) (.reg [⟨(some 23), .mv, [(.t 4)], none⟩, ⟨(some 3), .mv, [(.t 23)], none⟩]) .skip) .ent)))) .ent) (.reg [⟨(some 24), (.ibin .add), [(.t 7), (.c (.rv (.int .i64 1)))], none⟩, ⟨(some 7), .mv, [(.t 24)], none⟩])))))) .ent)) (.seq (.reg [⟨(some 25), .mv, [(.t 3)], none⟩, ⟨(some 2), .mv, [(.t 25)], none⟩]) .ret))))
theorem k10 : FnOK Go.Proofs.Try.prog 10 26 c10 [(.t 2)] := fnOK_of (by kernel_rfl)


/-- Where the least of the first k is; -1: there is none. -/
def leastUp (es : List Ent3) : Nat → Int
  | 0 => -1
  | k + 1 => if leastUp es k < 0 ∨ lessB (ga es k) (ga es (leastUp es k).toNat) = true then k else leastUp es k

theorem leastUp_lt (es : List Ent3) : ∀ k, -1 ≤ leastUp es k ∧ leastUp es k < k
  | 0 => by simp [leastUp]
  | k + 1 => by
    have := leastUp_lt es k
    unfold leastUp
    split <;> omega

theorem sp10 (es : List Ent3) (hb : es.length < 100000) : CallR Go.Proofs.Try.prog 10 [.rv (.sl 3 (cellsL es))] [] [] (.rv (.int .i64 (leastUp es es.length))) := by
  have hlen : (cellsL es).length = es.length := by simp
  refine callR_F k10 [.sl 3 (cellsL es)] _ (by simp) (fun K hK => ?_)
  simp -implicitDefEqProofs only [c10, g_nil, g_skip, g_reg, g_regd, g_seq, g_block, g_end, g_cond, g_ret, g_exit, gx_nil, gx_c, gx_o, gx_d, gx_b, g_onil, g_dnil, g_op, g_opg, g_opd, g_opdg, condI, callvI, invI, plainI, opI, guardI, callvdI, invdI, plaindI, opdI, guarddI, opE, o1, o2, ix2, loadE, storeE, boxE, allLen, bslE, buildE, fits, fldE, ixsE, ixaE, ixvE, fldvE, lenE, lensE, srcE, appE, bnd2, bndL, bndH, bnd0, bndE, slcE, slcC, pickE, allocE, nilchkE, isNilSV, ibinE, ibin, ishfE, ishf, eqnilE, eqbE, notE, negE, cviE, mkslE, mxE, mnE, extE, isNilSl, isNilFn, isNilIf, isNilO, eqniloE, eqsF, eqsE, cellsEq, cellEq, sbinE, sbin, ifcOf, tasF, tasE, cellsSV, cellsAll, layO, mkEnv, lk, hget_zero, hget_succ, putE, uphO, uph, uphL, evX, rdsX, uIds, List.map_cons, List.map_nil, List.length_cons, List.length_nil, List.length_append, List.length_map, List.length_set, List.set_cons_zero, List.set_cons_succ, List.cons_append, List.nil_append, List.append_nil, List.getElem?_cons_zero, List.getElem?_cons_succ, List.getElem?_nil, List.take_succ_cons, List.take_zero, List.drop_succ_cons, List.drop_zero, List.drop_nil, List.take_nil, Option.getD_some, Option.getD_none, Option.map_some, Option.map_none, true_and, and_true, ↓reduceIte, Nat.reduceEqDiff, Nat.reduceAdd, Nat.reduceSub, Nat.reduceMul, Nat.reduceLeDiff, Nat.reduceLT, Nat.zero_add, Nat.add_zero, decide_eq_true_eq, Bool.false_eq_true, reduceCtorEq, rvs_len, rvs_get, rvs_fold, rvs_take, rvs_append, Int.toNat_natCast, bneTT, bneTF, bneFT, bneFF, Bool.not_true, Bool.not_false, splice0, slcaE, clrE, chunks]
  refine g_loop (ι := Nat) (fun k => [(7, .rv (.int .i64 k)), (6, .rv (.int .i64 es.length)), (0, .rv (.sl 3 (cellsL es))), (3, .rv (.int .i64 (leastUp es k)))]) (fun _ => []) (fun k => k ≤ es.length) (fun k => es.length - k) 0 (by simp) (ent_env (by simp [lk, leastUp])) (fun k hk K' hN hX hR => ?_)
  have hr := leastUp_lt es k
  by_cases hlt : k < es.length
  · have e0 : decide ((k : Int) < (es.length : Int)) = true := decide_eq_true (by omega)
    have hxk := cellsL_get hlt
    rw [ga_eq] at hxk
    have hcs : (leastUp es k < 0 ∧ leastUp es (k + 1) = k) ∨ (¬ leastUp es k < 0 ∧ lessB (ga es k) (ga es (leastUp es k).toNat) = true ∧ leastUp es (k + 1) = k) ∨ (¬ leastUp es k < 0 ∧ lessB (ga es k) (ga es (leastUp es k).toNat) = false ∧ leastUp es (k + 1) = leastUp es k) := by
      by_cases h1 : leastUp es k < 0
      · exact .inl ⟨h1, by simp [leastUp, h1]⟩
      · by_cases h2 : lessB (ga es k) (ga es (leastUp es k).toNat) = true
        · exact .inr (.inl ⟨h1, h2, by simp [leastUp, h2]⟩)
        · exact .inr (.inr ⟨h1, by simpa using h2, by simp [leastUp, h1, h2]⟩)
    rcases hcs with ⟨h1, h2⟩ | ⟨h1, h2, h3⟩ | ⟨h1, h2, h3⟩
    case' inl =>
      have e1 : decide (leastUp es k < 0) = true := decide_eq_true h1
      simp -implicitDefEqProofs only [e0, e1, g_nil, g_skip, g_reg, g_regd, g_seq, g_block, g_end, g_cond, g_ret, g_exit, gx_nil, gx_c, gx_o, gx_d, gx_b, g_onil, g_dnil, g_op, g_opg, g_opd, g_opdg, condI, callvI, invI, plainI, opI, guardI, callvdI, invdI, plaindI, opdI, guarddI, opE, o1, o2, ix2, loadE, storeE, boxE, allLen, bslE, buildE, fits, fldE, ixsE, ixaE, ixvE, fldvE, lenE, lensE, srcE, appE, bnd2, bndL, bndH, bnd0, bndE, slcE, slcC, pickE, allocE, nilchkE, isNilSV, ibinE, ibin, ishfE, ishf, eqnilE, eqbE, notE, negE, cviE, mkslE, mxE, mnE, extE, isNilSl, isNilFn, isNilIf, isNilO, eqniloE, eqsF, eqsE, cellsEq, cellEq, sbinE, sbin, ifcOf, tasF, tasE, cellsSV, cellsAll, layO, mkEnv, lk, hget_zero, hget_succ, putE, uphO, uph, uphL, evX, rdsX, uIds, List.map_cons, List.map_nil, List.length_cons, List.length_nil, List.length_append, List.length_map, List.length_set, List.set_cons_zero, List.set_cons_succ, List.cons_append, List.nil_append, List.append_nil, List.getElem?_cons_zero, List.getElem?_cons_succ, List.getElem?_nil, List.take_succ_cons, List.take_zero, List.drop_succ_cons, List.drop_zero, List.drop_nil, List.take_nil, Option.getD_some, Option.getD_none, Option.map_some, Option.map_none, true_and, and_true, ↓reduceIte, Nat.reduceEqDiff, Nat.reduceAdd, Nat.reduceSub, Nat.reduceMul, Nat.reduceLeDiff, Nat.reduceLT, Nat.zero_add, Nat.add_zero, decide_eq_true_eq, Bool.false_eq_true, reduceCtorEq, rvs_len, rvs_get, rvs_fold, rvs_take, rvs_append, Int.toNat_natCast, bneTT, bneTF, bneFT, bneFF, Bool.not_true, Bool.not_false, splice0, slcaE, clrE, chunks]
      refine ⟨by decide, ?_⟩
      have h3 := h2
    case' inr.inl =>
      have e1 : decide (leastUp es k < 0) = false := decide_eq_false h1
      have hxa := cellsL_get (es := es) (i := (leastUp es k).toNat) (by omega)
      rw [ga_eq] at hxa
      simp -implicitDefEqProofs only [e0, e1, hxk, hxa, hlen, g_nil, g_skip, g_reg, g_regd, g_seq, g_block, g_end, g_cond, g_ret, g_exit, gx_nil, gx_c, gx_o, gx_d, gx_b, g_onil, g_dnil, g_op, g_opg, g_opd, g_opdg, condI, callvI, invI, plainI, opI, guardI, callvdI, invdI, plaindI, opdI, guarddI, opE, o1, o2, ix2, loadE, storeE, boxE, allLen, bslE, buildE, fits, fldE, ixsE, ixaE, ixvE, fldvE, lenE, lensE, srcE, appE, bnd2, bndL, bndH, bnd0, bndE, slcE, slcC, pickE, allocE, nilchkE, isNilSV, ibinE, ibin, ishfE, ishf, eqnilE, eqbE, notE, negE, cviE, mkslE, mxE, mnE, extE, isNilSl, isNilFn, isNilIf, isNilO, eqniloE, eqsF, eqsE, cellsEq, cellEq, sbinE, sbin, ifcOf, tasF, tasE, cellsSV, cellsAll, layO, mkEnv, lk, hget_zero, hget_succ, putE, uphO, uph, uphL, evX, rdsX, uIds, List.map_cons, List.map_nil, List.length_cons, List.length_nil, List.length_append, List.length_map, List.length_set, List.set_cons_zero, List.set_cons_succ, List.cons_append, List.nil_append, List.append_nil, List.getElem?_cons_zero, List.getElem?_cons_succ, List.getElem?_nil, List.take_succ_cons, List.take_zero, List.drop_succ_cons, List.drop_zero, List.drop_nil, List.take_nil, Option.getD_some, Option.getD_none, Option.map_some, Option.map_none, true_and, and_true, ↓reduceIte, Nat.reduceEqDiff, Nat.reduceAdd, Nat.reduceSub, Nat.reduceMul, Nat.reduceLeDiff, Nat.reduceLT, Nat.zero_add, Nat.add_zero, decide_eq_true_eq, Bool.false_eq_true, reduceCtorEq, rvs_len, rvs_get, rvs_fold, rvs_take, rvs_append, Int.toNat_natCast, bneTT, bneTF, bneFT, bneFF, Bool.not_true, Bool.not_false, splice0, slcaE, clrE, chunks]
      refine ⟨by omega, by omega, ?_⟩
      refine g_calld0 (sp9 (ga es k) (ga es (leastUp es k).toNat)) ?_
      simp -implicitDefEqProofs only [h2, g_nil, g_skip, g_reg, g_regd, g_seq, g_block, g_end, g_cond, g_ret, g_exit, gx_nil, gx_c, gx_o, gx_d, gx_b, g_onil, g_dnil, g_op, g_opg, g_opd, g_opdg, condI, callvI, invI, plainI, opI, guardI, callvdI, invdI, plaindI, opdI, guarddI, opE, o1, o2, ix2, loadE, storeE, boxE, allLen, bslE, buildE, fits, fldE, ixsE, ixaE, ixvE, fldvE, lenE, lensE, srcE, appE, bnd2, bndL, bndH, bnd0, bndE, slcE, slcC, pickE, allocE, nilchkE, isNilSV, ibinE, ibin, ishfE, ishf, eqnilE, eqbE, notE, negE, cviE, mkslE, mxE, mnE, extE, isNilSl, isNilFn, isNilIf, isNilO, eqniloE, eqsF, eqsE, cellsEq, cellEq, sbinE, sbin, ifcOf, tasF, tasE, cellsSV, cellsAll, layO, mkEnv, lk, hget_zero, hget_succ, putE, uphO, uph, uphL, evX, rdsX, uIds, List.map_cons, List.map_nil, List.length_cons, List.length_nil, List.length_append, List.length_map, List.length_set, List.set_cons_zero, List.set_cons_succ, List.cons_append, List.nil_append, List.append_nil, List.getElem?_cons_zero, List.getElem?_cons_succ, List.getElem?_nil, List.take_succ_cons, List.take_zero, List.drop_succ_cons, List.drop_zero, List.drop_nil, List.take_nil, Option.getD_some, Option.getD_none, Option.map_some, Option.map_none, true_and, and_true, ↓reduceIte, Nat.reduceEqDiff, Nat.reduceAdd, Nat.reduceSub, Nat.reduceMul, Nat.reduceLeDiff, Nat.reduceLT, Nat.zero_add, Nat.add_zero, decide_eq_true_eq, Bool.false_eq_true, reduceCtorEq, rvs_len, rvs_get, rvs_fold, rvs_take, rvs_append, Int.toNat_natCast, bneTT, bneTF, bneFT, bneFF, Bool.not_true, Bool.not_false, splice0, slcaE, clrE, chunks]
      refine ⟨by decide, ?_⟩
    case' inr.inr =>
      have e1 : decide (leastUp es k < 0) = false := decide_eq_false h1
      have hxa := cellsL_get (es := es) (i := (leastUp es k).toNat) (by omega)
      rw [ga_eq] at hxa
      simp -implicitDefEqProofs only [e0, e1, hxk, hxa, hlen, g_nil, g_skip, g_reg, g_regd, g_seq, g_block, g_end, g_cond, g_ret, g_exit, gx_nil, gx_c, gx_o, gx_d, gx_b, g_onil, g_dnil, g_op, g_opg, g_opd, g_opdg, condI, callvI, invI, plainI, opI, guardI, callvdI, invdI, plaindI, opdI, guarddI, opE, o1, o2, ix2, loadE, storeE, boxE, allLen, bslE, buildE, fits, fldE, ixsE, ixaE, ixvE, fldvE, lenE, lensE, srcE, appE, bnd2, bndL, bndH, bnd0, bndE, slcE, slcC, pickE, allocE, nilchkE, isNilSV, ibinE, ibin, ishfE, ishf, eqnilE, eqbE, notE, negE, cviE, mkslE, mxE, mnE, extE, isNilSl, isNilFn, isNilIf, isNilO, eqniloE, eqsF, eqsE, cellsEq, cellEq, sbinE, sbin, ifcOf, tasF, tasE, cellsSV, cellsAll, layO, mkEnv, lk, hget_zero, hget_succ, putE, uphO, uph, uphL, evX, rdsX, uIds, List.map_cons, List.map_nil, List.length_cons, List.length_nil, List.length_append, List.length_map, List.length_set, List.set_cons_zero, List.set_cons_succ, List.cons_append, List.nil_append, List.append_nil, List.getElem?_cons_zero, List.getElem?_cons_succ, List.getElem?_nil, List.take_succ_cons, List.take_zero, List.drop_succ_cons, List.drop_zero, List.drop_nil, List.take_nil, Option.getD_some, Option.getD_none, Option.map_some, Option.map_none, true_and, and_true, ↓reduceIte, Nat.reduceEqDiff, Nat.reduceAdd, Nat.reduceSub, Nat.reduceMul, Nat.reduceLeDiff, Nat.reduceLT, Nat.zero_add, Nat.add_zero, decide_eq_true_eq, Bool.false_eq_true, reduceCtorEq, rvs_len, rvs_get, rvs_fold, rvs_take, rvs_append, Int.toNat_natCast, bneTT, bneTF, bneFT, bneFF, Bool.not_true, Bool.not_false, splice0, slcaE, clrE, chunks]
      refine ⟨by omega, by omega, ?_⟩
      refine g_calld0 (sp9 (ga es k) (ga es (leastUp es k).toNat)) ?_
      simp -implicitDefEqProofs only [h2, g_nil, g_skip, g_reg, g_regd, g_seq, g_block, g_end, g_cond, g_ret, g_exit, gx_nil, gx_c, gx_o, gx_d, gx_b, g_onil, g_dnil, g_op, g_opg, g_opd, g_opdg, condI, callvI, invI, plainI, opI, guardI, callvdI, invdI, plaindI, opdI, guarddI, opE, o1, o2, ix2, loadE, storeE, boxE, allLen, bslE, buildE, fits, fldE, ixsE, ixaE, ixvE, fldvE, lenE, lensE, srcE, appE, bnd2, bndL, bndH, bnd0, bndE, slcE, slcC, pickE, allocE, nilchkE, isNilSV, ibinE, ibin, ishfE, ishf, eqnilE, eqbE, notE, negE, cviE, mkslE, mxE, mnE, extE, isNilSl, isNilFn, isNilIf, isNilO, eqniloE, eqsF, eqsE, cellsEq, cellEq, sbinE, sbin, ifcOf, tasF, tasE, cellsSV, cellsAll, layO, mkEnv, lk, hget_zero, hget_succ, putE, uphO, uph, uphL, evX, rdsX, uIds, List.map_cons, List.map_nil, List.length_cons, List.length_nil, List.length_append, List.length_map, List.length_set, List.set_cons_zero, List.set_cons_succ, List.cons_append, List.nil_append, List.append_nil, List.getElem?_cons_zero, List.getElem?_cons_succ, List.getElem?_nil, List.take_succ_cons, List.take_zero, List.drop_succ_cons, List.drop_zero, List.drop_nil, List.take_nil, Option.getD_some, Option.getD_none, Option.map_some, Option.map_none, true_and, and_true, ↓reduceIte, Nat.reduceEqDiff, Nat.reduceAdd, Nat.reduceSub, Nat.reduceMul, Nat.reduceLeDiff, Nat.reduceLT, Nat.zero_add, Nat.add_zero, decide_eq_true_eq, Bool.false_eq_true, reduceCtorEq, rvs_len, rvs_get, rvs_fold, rvs_take, rvs_append, Int.toNat_natCast, bneTT, bneTF, bneFT, bneFF, Bool.not_true, Bool.not_false, splice0, slcaE, clrE, chunks]
      refine ⟨by decide, ?_⟩
    all_goals
      refine g_noent ?_
      simp -implicitDefEqProofs only [g_nil, g_skip, g_reg, g_regd, g_seq, g_block, g_end, g_cond, g_ret, g_exit, gx_nil, gx_c, gx_o, gx_d, gx_b, g_onil, g_dnil, g_op, g_opg, g_opd, g_opdg, condI, callvI, invI, plainI, opI, guardI, callvdI, invdI, plaindI, opdI, guarddI, opE, o1, o2, ix2, loadE, storeE, boxE, allLen, bslE, buildE, fits, fldE, ixsE, ixaE, ixvE, fldvE, lenE, lensE, srcE, appE, bnd2, bndL, bndH, bnd0, bndE, slcE, slcC, pickE, allocE, nilchkE, isNilSV, ibinE, ibin, ishfE, ishf, eqnilE, eqbE, notE, negE, cviE, mkslE, mxE, mnE, extE, isNilSl, isNilFn, isNilIf, isNilO, eqniloE, eqsF, eqsE, cellsEq, cellEq, sbinE, sbin, ifcOf, tasF, tasE, cellsSV, cellsAll, layO, mkEnv, lk, hget_zero, hget_succ, putE, uphO, uph, uphL, evX, rdsX, uIds, List.map_cons, List.map_nil, List.length_cons, List.length_nil, List.length_append, List.length_map, List.length_set, List.set_cons_zero, List.set_cons_succ, List.cons_append, List.nil_append, List.append_nil, List.getElem?_cons_zero, List.getElem?_cons_succ, List.getElem?_nil, List.take_succ_cons, List.take_zero, List.drop_succ_cons, List.drop_zero, List.drop_nil, List.take_nil, Option.getD_some, Option.getD_none, Option.map_some, Option.map_none, true_and, and_true, ↓reduceIte, Nat.reduceEqDiff, Nat.reduceAdd, Nat.reduceSub, Nat.reduceMul, Nat.reduceLeDiff, Nat.reduceLT, Nat.zero_add, Nat.add_zero, decide_eq_true_eq, Bool.false_eq_true, reduceCtorEq, rvs_len, rvs_get, rvs_fold, rvs_take, rvs_append, Int.toNat_natCast, bneTT, bneTF, bneFT, bneFF, Bool.not_true, Bool.not_false, splice0, slcaE, clrE, chunks]
      refine g_noent ?_
      simp -implicitDefEqProofs only [g_nil, g_skip, g_reg, g_regd, g_seq, g_block, g_end, g_cond, g_ret, g_exit, gx_nil, gx_c, gx_o, gx_d, gx_b, g_onil, g_dnil, g_op, g_opg, g_opd, g_opdg, condI, callvI, invI, plainI, opI, guardI, callvdI, invdI, plaindI, opdI, guarddI, opE, o1, o2, ix2, loadE, storeE, boxE, allLen, bslE, buildE, fits, fldE, ixsE, ixaE, ixvE, fldvE, lenE, lensE, srcE, appE, bnd2, bndL, bndH, bnd0, bndE, slcE, slcC, pickE, allocE, nilchkE, isNilSV, ibinE, ibin, ishfE, ishf, eqnilE, eqbE, notE, negE, cviE, mkslE, mxE, mnE, extE, isNilSl, isNilFn, isNilIf, isNilO, eqniloE, eqsF, eqsE, cellsEq, cellEq, sbinE, sbin, ifcOf, tasF, tasE, cellsSV, cellsAll, layO, mkEnv, lk, hget_zero, hget_succ, putE, uphO, uph, uphL, evX, rdsX, uIds, List.map_cons, List.map_nil, List.length_cons, List.length_nil, List.length_append, List.length_map, List.length_set, List.set_cons_zero, List.set_cons_succ, List.cons_append, List.nil_append, List.append_nil, List.getElem?_cons_zero, List.getElem?_cons_succ, List.getElem?_nil, List.take_succ_cons, List.take_zero, List.drop_succ_cons, List.drop_zero, List.drop_nil, List.take_nil, Option.getD_some, Option.getD_none, Option.map_some, Option.map_none, true_and, and_true, ↓reduceIte, Nat.reduceEqDiff, Nat.reduceAdd, Nat.reduceSub, Nat.reduceMul, Nat.reduceLeDiff, Nat.reduceLT, Nat.zero_add, Nat.add_zero, decide_eq_true_eq, Bool.false_eq_true, reduceCtorEq, rvs_len, rvs_get, rvs_fold, rvs_take, rvs_append, Int.toNat_natCast, bneTT, bneTF, bneFT, bneFF, Bool.not_true, Bool.not_false, splice0, slcaE, clrE, chunks]
      rw [wrap_i64 (by omega) (by omega)]
      exact hN (k + 1) _ _ (by omega) (by omega) (ent_env (by simp [lk, h3]))
  · have e0 : decide ((k : Int) < (es.length : Int)) = false := decide_eq_false (by omega)
    simp -implicitDefEqProofs only [e0, g_nil, g_skip, g_reg, g_regd, g_seq, g_block, g_end, g_cond, g_ret, g_exit, gx_nil, gx_c, gx_o, gx_d, gx_b, g_onil, g_dnil, g_op, g_opg, g_opd, g_opdg, condI, callvI, invI, plainI, opI, guardI, callvdI, invdI, plaindI, opdI, guarddI, opE, o1, o2, ix2, loadE, storeE, boxE, allLen, bslE, buildE, fits, fldE, ixsE, ixaE, ixvE, fldvE, lenE, lensE, srcE, appE, bnd2, bndL, bndH, bnd0, bndE, slcE, slcC, pickE, allocE, nilchkE, isNilSV, ibinE, ibin, ishfE, ishf, eqnilE, eqbE, notE, negE, cviE, mkslE, mxE, mnE, extE, isNilSl, isNilFn, isNilIf, isNilO, eqniloE, eqsF, eqsE, cellsEq, cellEq, sbinE, sbin, ifcOf, tasF, tasE, cellsSV, cellsAll, layO, mkEnv, lk, hget_zero, hget_succ, putE, uphO, uph, uphL, evX, rdsX, uIds, List.map_cons, List.map_nil, List.length_cons, List.length_nil, List.length_append, List.length_map, List.length_set, List.set_cons_zero, List.set_cons_succ, List.cons_append, List.nil_append, List.append_nil, List.getElem?_cons_zero, List.getElem?_cons_succ, List.getElem?_nil, List.take_succ_cons, List.take_zero, List.drop_succ_cons, List.drop_zero, List.drop_nil, List.take_nil, Option.getD_some, Option.getD_none, Option.map_some, Option.map_none, true_and, and_true, ↓reduceIte, Nat.reduceEqDiff, Nat.reduceAdd, Nat.reduceSub, Nat.reduceMul, Nat.reduceLeDiff, Nat.reduceLT, Nat.zero_add, Nat.add_zero, decide_eq_true_eq, Bool.false_eq_true, reduceCtorEq, rvs_len, rvs_get, rvs_fold, rvs_take, rvs_append, Int.toNat_natCast, bneTT, bneTF, bneFT, bneFF, Bool.not_true, Bool.not_false, splice0, slcaE, clrE, chunks]
    refine hX _ _ _ ?_
    simp -implicitDefEqProofs only [g_nil, g_skip, g_reg, g_regd, g_seq, g_block, g_end, g_cond, g_ret, g_exit, gx_nil, gx_c, gx_o, gx_d, gx_b, g_onil, g_dnil, g_op, g_opg, g_opd, g_opdg, condI, callvI, invI, plainI, opI, guardI, callvdI, invdI, plaindI, opdI, guarddI, opE, o1, o2, ix2, loadE, storeE, boxE, allLen, bslE, buildE, fits, fldE, ixsE, ixaE, ixvE, fldvE, lenE, lensE, srcE, appE, bnd2, bndL, bndH, bnd0, bndE, slcE, slcC, pickE, allocE, nilchkE, isNilSV, ibinE, ibin, ishfE, ishf, eqnilE, eqbE, notE, negE, cviE, mkslE, mxE, mnE, extE, isNilSl, isNilFn, isNilIf, isNilO, eqniloE, eqsF, eqsE, cellsEq, cellEq, sbinE, sbin, ifcOf, tasF, tasE, cellsSV, cellsAll, layO, mkEnv, lk, hget_zero, hget_succ, putE, uphO, uph, uphL, evX, rdsX, uIds, List.map_cons, List.map_nil, List.length_cons, List.length_nil, List.length_append, List.length_map, List.length_set, List.set_cons_zero, List.set_cons_succ, List.cons_append, List.nil_append, List.append_nil, List.getElem?_cons_zero, List.getElem?_cons_succ, List.getElem?_nil, List.take_succ_cons, List.take_zero, List.drop_succ_cons, List.drop_zero, List.drop_nil, List.take_nil, Option.getD_some, Option.getD_none, Option.map_some, Option.map_none, true_and, and_true, ↓reduceIte, Nat.reduceEqDiff, Nat.reduceAdd, Nat.reduceSub, Nat.reduceMul, Nat.reduceLeDiff, Nat.reduceLT, Nat.zero_add, Nat.add_zero, decide_eq_true_eq, Bool.false_eq_true, reduceCtorEq, rvs_len, rvs_get, rvs_fold, rvs_take, rvs_append, Int.toNat_natCast, bneTT, bneTF, bneFT, bneFF, Bool.not_true, Bool.not_false, splice0, slcaE, clrE, chunks]
    refine g_noent ?_
    simp -implicitDefEqProofs only [g_nil, g_skip, g_reg, g_regd, g_seq, g_block, g_end, g_cond, g_ret, g_exit, gx_nil, gx_c, gx_o, gx_d, gx_b, g_onil, g_dnil, g_op, g_opg, g_opd, g_opdg, condI, callvI, invI, plainI, opI, guardI, callvdI, invdI, plaindI, opdI, guarddI, opE, o1, o2, ix2, loadE, storeE, boxE, allLen, bslE, buildE, fits, fldE, ixsE, ixaE, ixvE, fldvE, lenE, lensE, srcE, appE, bnd2, bndL, bndH, bnd0, bndE, slcE, slcC, pickE, allocE, nilchkE, isNilSV, ibinE, ibin, ishfE, ishf, eqnilE, eqbE, notE, negE, cviE, mkslE, mxE, mnE, extE, isNilSl, isNilFn, isNilIf, isNilO, eqniloE, eqsF, eqsE, cellsEq, cellEq, sbinE, sbin, ifcOf, tasF, tasE, cellsSV, cellsAll, layO, mkEnv, lk, hget_zero, hget_succ, putE, uphO, uph, uphL, evX, rdsX, uIds, List.map_cons, List.map_nil, List.length_cons, List.length_nil, List.length_append, List.length_map, List.length_set, List.set_cons_zero, List.set_cons_succ, List.cons_append, List.nil_append, List.append_nil, List.getElem?_cons_zero, List.getElem?_cons_succ, List.getElem?_nil, List.take_succ_cons, List.take_zero, List.drop_succ_cons, List.drop_zero, List.drop_nil, List.take_nil, Option.getD_some, Option.getD_none, Option.map_some, Option.map_none, true_and, and_true, ↓reduceIte, Nat.reduceEqDiff, Nat.reduceAdd, Nat.reduceSub, Nat.reduceMul, Nat.reduceLeDiff, Nat.reduceLT, Nat.zero_add, Nat.add_zero, decide_eq_true_eq, Bool.false_eq_true, reduceCtorEq, rvs_len, rvs_get, rvs_fold, rvs_take, rvs_append, Int.toNat_natCast, bneTT, bneTF, bneFT, bneFF, Bool.not_true, Bool.not_false, splice0, slcaE, clrE, chunks]
    refine (hK _ _ ?_).2
    obtain rfl : k = es.length := by omega
    simp [retM, nodupL, newL, allU, keptL, retP, resL, lk, resT, RnHo, lkp, finU, hget_zero, hget_succ, hget, rnRows_rvs, rn_tup, rn_rv, rn_row, rn_ptr, rn_ifc, rn_agg, rn_dead, RnAll, ofL, rnAll_map]
end Go.Eng


/- agenda: the document's list without one. -/
namespace Go.Eng
open Go
/- decoupage/decoupageref04.Without -/
def c13 : AC := (.seq (.reg [⟨(some 4), .mv, [(.c (.rv .nilsl))], none⟩]) (.seq (.regd [0, 0, 0, 6, 15, 0, 0, 64, 224, 511, 1023] [⟨(some 5), (.bsl 3), [], none⟩, ⟨(some 6), .mv, [(.t 0)], none⟩, ⟨(some 7), .mv, [(.t 1)], none⟩, ⟨(some 8), (.slc 3 false true), [(.t 6), (.t 7)], none⟩, ⟨(some 9), (.app 3 24), [(.t 5), (.t 8)], none⟩, ⟨(some 10), .mv, [(.t 0)], none⟩, ⟨(some 11), .mv, [(.t 1)], none⟩, ⟨(some 12), (.ibin .add), [(.t 11), (.c (.rv (.int .i64 1)))], none⟩, ⟨(some 13), (.slc 3 true false), [(.t 10), (.t 12)], none⟩, ⟨(some 14), (.app 3 24), [(.t 9), (.t 13)], none⟩, ⟨(some 4), .mv, [(.t 14)], none⟩]) .ret))
theorem k13 : FnOK Go.Proofs.Try.prog 13 15 c13 [(.t 4)] := fnOK_of (by kernel_rfl)


def without (es : List Ent3) (i : Nat) : List Ent3 := es.take i ++ es.drop (i + 1)

theorem sp13 (es : List Ent3) (i m : Nat) (hi : i < es.length) (hb : es.length < 100000) :
    CallR Go.Proofs.Try.prog 13 [.rv (.sl 3 (cellsL es)), .rv (.int .i64 i)] [] [(m, .row 3 2 (rvs (cellsL (without es i))))] (.row m 2 (es.length - 1)) := by
  refine callR_M k13 [] [] [] [.rv (.sl 3 (cellsL es)), .rv (.int .i64 i)] [.rv (.sl 3 (cellsL es)), .rv (.int .i64 i)] _ _ (by simp) (by simp [BkAll, bk_ptr, bk_row, bk_rv, bk_agg, bk_ifc, bk_fn, bk_tup, bk_dead, BkHs, rvs_inj, nodupL]) rfl (by simp [nodupL]) (by simp [BkHs]) (fun K hK => ?_)
  have hw : IntKind.i64.wrap ((i : Int) + 1) = ((i + 1 : Nat) : Int) := by rw [wrap_i64 (by omega) (by omega)]; omega
  have d1 : List.drop (Int.toNat 0) (List.take i (cellsL es)) = cellsL (es.take i) := by simp [cellsL, List.map_take]
  have d2 : List.drop (i + 1) (List.take es.length (cellsL es)) = cellsL (es.drop (i + 1)) := by
    rw [List.take_of_length_le (by simp)]; simp [cellsL, List.map_drop]
  have l1 : (es.take i).length = i := by simp; omega
  have l2 : (es.drop (i + 1)).length = es.length - (i + 1) := by simp
  have d3 : rvs (List.take i (cellsL (es.take i)) ++ cellsL (es.drop (i + 1))) = rvs (cellsL (without es i)) := by
    rw [List.take_of_length_le (by simp; omega)]; simp [cellsL, without]
  simp -implicitDefEqProofs only [c13, hw, d1, d2, l1, l2, g_nil, g_skip, g_reg, g_regd, g_seq, g_block, g_end, g_cond, g_ret, g_exit, gx_nil, gx_c, gx_o, gx_d, gx_b, g_onil, g_dnil, g_op, g_opg, g_opd, g_opdg, condI, callvI, invI, plainI, opI, guardI, callvdI, invdI, plaindI, opdI, guarddI, opE, o1, o2, ix2, loadE, storeE, boxE, allLen, bslE, buildE, fits, fldE, ixsE, ixaE, ixvE, fldvE, lenE, lensE, srcE, appE, bnd2, bndL, bndH, bnd0, bndE, slcE, slcC, pickE, allocE, nilchkE, isNilSV, ibinE, ibin, ishfE, ishf, eqnilE, eqbE, notE, negE, cviE, mkslE, mxE, mnE, extE, isNilSl, isNilFn, isNilIf, isNilO, eqniloE, eqsF, eqsE, cellsEq, cellEq, sbinE, sbin, ifcOf, tasF, tasE, cellsSV, cellsAll, layO, mkEnv, lk, hget_zero, hget_succ, putE, uphO, uph, uphL, evX, rdsX, uIds, List.map_cons, List.map_nil, List.length_cons, List.length_nil, List.length_append, List.length_map, List.length_set, List.set_cons_zero, List.set_cons_succ, List.cons_append, List.nil_append, List.append_nil, List.getElem?_cons_zero, List.getElem?_cons_succ, List.getElem?_nil, List.take_succ_cons, List.take_zero, List.drop_succ_cons, List.drop_zero, List.drop_nil, List.take_nil, Option.getD_some, Option.getD_none, Option.map_some, Option.map_none, true_and, and_true, ↓reduceIte, Nat.reduceEqDiff, Nat.reduceAdd, Nat.reduceSub, Nat.reduceMul, Nat.reduceLeDiff, Nat.reduceLT, Nat.zero_add, Nat.add_zero, decide_eq_true_eq, Bool.false_eq_true, reduceCtorEq, rvs_len, rvs_get, rvs_fold, rvs_take, rvs_append, Int.toNat_natCast, bneTT, bneTF, bneFT, bneFF, Bool.not_true, Bool.not_false, splice0, slcaE, clrE, chunks]
  simp -implicitDefEqProofs only [d3, show i + (es.length - (i + 1)) = es.length - 1 by omega]
  refine ⟨by omega, ⟨by simp -implicitDefEqProofs only [maxLen]; omega, by omega⟩, by omega, ⟨by omega, by simp -implicitDefEqProofs only [maxLen]; omega, by omega⟩, by decide, ?_⟩
  refine (hK _ _ _ _ [some m] (ent_refl _ _) ?_).2
  simp [retM, nodupL, newL, allU, keptL, retP, resL, lk, resT, RnHo, lkp, finU, hget_zero, hget_succ, hget, rnRows_rvs, rn_tup, rn_rv, rn_row, rn_ptr, rn_ifc, rn_agg, rn_dead, RnAll, ofL, rnAll_map]
end Go.Eng


/- Trimming: the things behind the first few are given up. -/
namespace Go.Eng
open Go

def τk (k j : Nat) : Option Nat := if j < k then some j else none

def keepL (τ : Nat → Option Nat) (h : Hp) : Nat → List (Option HB) → Prop
  | _, [] => True
  | _, none :: _ => False
  | j, some hb :: r => RnHo τ h (h j) (some hb) ∧ keepL τ h (j + 1) r

end Go.Eng

/- agenda: the document's order. -/
namespace Go.Eng
open Go
/- decoupage/decoupageref04.Sorted -/
def c17 : AC := (.seq (.reg [⟨(some 2), .mv, [(.c (.rv .nilsl))], none⟩]) (.seq (.reg [⟨(some 3), .mv, [(.c (.rv .nilsl))], none⟩]) (.seq (.seq (.block 0 (.loop (.seq (.seq (.reg [⟨(some 5), .mv, [(.t 0)], none⟩, ⟨(some 6), .len, [(.t 5)], none⟩, ⟨(some 7), (.ibin .gtr), [(.t 6), (.c (.rv (.int .i64 0)))], none⟩]) (.cond (.t 7) .skip (.exit 0))) (.seq (.block 1 (.seq (.reg [⟨(some 8), .mv, [(.t 0)], none⟩, ⟨(some 9), (.call 10), [(.t 8)], none⟩, ⟨(some 4), .mv, [(.t 9)], none⟩]) (.seq (.reg [⟨(some 10), .mv, [(.t 3)], none⟩, ⟨(some 11), .mv, [(.t 0)], none⟩, ⟨(some 12), .mv, [(.t 4)], none⟩, ⟨(some 13), (.ixs 3), [(.t 11), (.t 12)], none⟩, ⟨(some 14), (.load 3 true), [(.t 13)], none⟩, ⟨(some 15), (.bsl 3), [(.t 14)], none⟩, ⟨(some 16), (.app 3 24), [(.t 10), (.t 15)], none⟩, ⟨(some 3), .mv, [(.t 16)], none⟩]) (.reg [⟨(some 17), .mv, [(.t 0)], none⟩, ⟨(some 18), .mv, [(.t 4)], none⟩, ⟨(some 19), (.call 13), [(.t 17), (.t 18)], none⟩, ⟨(some 0), .mv, [(.t 19)], none⟩])))) .ent)))) .ent) (.seq (.reg [⟨(some 20), .mv, [(.t 3)], none⟩, ⟨(some 2), .mv, [(.t 20)], none⟩]) .ret))))
theorem cells_one {es : List Ent3} : ∀ x ∈ cellsL es, ∀ r ∈ x, r.one = true := by
  intro x hx r hr
  obtain ⟨e, _, rfl⟩ := List.mem_map.1 hx
  simp [Ent3.cells] at hr
  rcases hr with rfl | rfl | rfl <;> rfl

def leastN (es : List Ent3) : Nat := (leastUp es es.length).toNat
theorem leastUp_pos (es : List Ent3) (h : 0 < es.length) : 0 ≤ leastUp es es.length := by
  obtain ⟨k, hk⟩ : ∃ k, es.length = k + 1 := ⟨es.length - 1, by omega⟩
  rw [hk]
  have := leastUp_lt es k
  unfold leastUp
  split <;> omega
theorem leastN_lt (es : List Ent3) (h : 0 < es.length) : leastN es < es.length := by
  have := leastUp_lt es es.length
  unfold leastN; omega
theorem leastN_eq (es : List Ent3) (h : 0 < es.length) : leastUp es es.length = (leastN es : Nat) := by
  have := leastUp_pos es h
  unfold leastN; omega

theorem without_len {es : List Ent3} {i : Nat} (h : i < es.length) : (without es i).length = es.length - 1 := by
  simp [without]; omega

def sortRef (es : List Ent3) : List Ent3 :=
  if h : 0 < es.length then ga es (leastN es) :: sortRef (without es (leastN es)) else []
termination_by es.length
decreasing_by rw [without_len (leastN_lt es h)]; omega

end Go.Eng


/- agenda: heaps of entries, as plain lists. -/
namespace Go.Eng
open Go
def leE (a b : Ent3) : Prop := cmpE a b ≤ 0
theorem cmpE_flip (a b : Ent3) : cmpE a b = -cmpE b a := by have := cmp_f1 a b; simpa using this
theorem leE_refl (a : Ent3) : leE a a := by unfold leE; rw [cmpE_le]; omega
theorem leE_trans {a b c : Ent3} (h : leE a b) (h' : leE b c) : leE a c := cmp_tr a b c (by unfold leE at h; omega) (by unfold leE at h'; omega)
theorem leE_lt {a b : Ent3} (h : cmpE a b < 0) : leE a b := by unfold leE; omega
theorem leE_ge {a b : Ent3} (h : ¬ cmpE a b < 0) : leE b a := by unfold leE; have := cmpE_flip b a; omega
theorem leE_anti {a b : Ent3} (h : leE a b) (h' : leE b a) : a = b := by
  unfold leE at h h'
  rw [cmpE_le] at h h'
  obtain ⟨a1, a2, a3⟩ := a
  obtain ⟨b1, b2, b3⟩ := b
  simp only at h h'
  simp -implicitDefEqProofs only [Ent3.mk.injEq]
  omega
theorem less_cmp {a b : Ent3} : lessB a b = true ↔ cmpE a b < 0 := by
  have h := cmp_f3 a b
  have hr := cmp_rg a b
  have h : (cmpE a b == -1) = lessB a b := by simpa using h
  rw [← h]; simp; omega

theorem ga_mem {es : List Ent3} {i : Nat} (h : i < es.length) : ga es i ∈ es := by rw [← ga_eq h]; exact List.getElem_mem h
theorem ga_sw {es : List Ent3} {i j : Nat} (hi : i < es.length) (hj : j < es.length) (k : Nat) : ga (sw es i j) k = if k = j then ga es i else if k = i then ga es j else ga es k := by
  unfold sw
  by_cases h1 : k = j
  · subst h1; rw [if_pos rfl]
    show ((es.set i (ga es k)).set k (ga es i)).getD k _ = _
    rw [List.getD_eq_getElem?_getD, List.getElem?_set_self (by simpa using hj)]; rfl
  · rw [if_neg h1]
    show ((es.set i (ga es j)).set j (ga es i)).getD k _ = _
    rw [List.getD_eq_getElem?_getD, List.getElem?_set_ne (by omega)]
    by_cases h2 : k = i
    · subst h2; rw [if_pos rfl, List.getElem?_set_self hi]; rfl
    · rw [if_neg h2, List.getElem?_set_ne (by omega)]
      show _ = es.getD k _
      rw [List.getD_eq_getElem?_getD]
theorem sw_perm {es : List Ent3} {i j : Nat} (hi : i < es.length) (hj : j < es.length) : (sw es i j).Perm es := by
  have h := Array.swap_perm (xs := es.toArray) (i := i) (j := j) (by simpa using hi) (by simpa using hj)
  rw [Array.perm_iff_toList_perm, Array.toList_swap] at h
  simp -implicitDefEqProofs only [List.getElem_toArray, ga_eq hi, ga_eq hj] at h
  exact h
theorem take_ga {es : List Ent3} {n k : Nat} (h : k < n) : ga (es.take n) k = ga es k := by
  show (es.take n).getD k _ = es.getD k _
  rw [List.getD_eq_getElem?_getD, List.getD_eq_getElem?_getD, List.getElem?_take_of_lt h]
theorem sw_take {es : List Ent3} {i j m : Nat} (hi : i < m) (hj : j < m) (hm : m ≤ es.length) : (sw es i j).take m = sw (es.take m) i j := by
  have e1 : ga (es.take m) i = ga es i := take_ga hi
  have e2 : ga (es.take m) j = ga es j := take_ga hj
  simp -implicitDefEqProofs only [sw, e1, e2, List.take_set]

/-- No child is ahead of its parent. -/
def HeapP (es : List Ent3) (n : Nat) : Prop := ∀ k, 0 < k → k < n → leE (ga es ((k - 1) / 2)) (ga es k)
theorem heap_min {es : List Ent3} {n : Nat} (h : HeapP es n) : ∀ m k, k ≤ m → k < n → leE (ga es 0) (ga es k)
  | m, k, hm, hk => by
    by_cases h0 : k = 0
    · subst h0; exact leE_refl _
    · match m, hm with
      | 0, hm => omega
      | m + 1, hm => exact leE_trans (heap_min h m ((k - 1) / 2) (by omega) (by omega)) (h k (by omega) hk)

def UpP (es : List Ent3) (n j : Nat) : Prop := (∀ k, 0 < k → k < n → k ≠ j → leE (ga es ((k - 1) / 2)) (ga es k)) ∧ (∀ k, 0 < k → k < n → (k - 1) / 2 = j → 0 < j → leE (ga es ((j - 1) / 2)) (ga es k))
theorem up_ok (n : Nat) : ∀ (m j : Nat) (es : List Ent3), j ≤ m → j < n → n ≤ es.length → UpP es n j → HeapP (upF es j) n ∧ ((upF es j).take n).Perm (es.take n)
  | m, j, es, hm, hj, hl, ⟨h1, h2⟩ => by
    unfold upF
    by_cases h0 : j = 0
    · rw [dif_pos h0]
      exact ⟨fun k a b => h1 k a b (by omega), List.Perm.refl _⟩
    · rw [dif_neg h0]
      by_cases hc : cmpE (ga es j) (ga es ((j - 1) / 2)) < 0
      · rw [if_pos hc]
        have hp : (j - 1) / 2 < j := by omega
        generalize hq : (j - 1) / 2 = p at *
        have g := fun k => ga_sw (es := es) (i := p) (j := j) (by omega) (by omega) k
        have hU : UpP (sw es p j) n p := by
          refine ⟨fun k a b c => ?_, fun k a b c d => ?_⟩
          · rw [g k, g ((k - 1) / 2)]
            by_cases e1 : k = j
            · subst e1
              rw [if_pos rfl, hq, if_neg (by omega), if_pos rfl]
              exact leE_lt hc
            · rw [if_neg e1, if_neg c]
              by_cases e2 : (k - 1) / 2 = j
              · rw [if_pos e2]; exact h2 k a b e2 (by omega)
              · rw [if_neg e2]
                by_cases e3 : (k - 1) / 2 = p
                · rw [if_pos e3]
                  have := h1 k a b e1
                  rw [e3] at this
                  exact leE_trans (leE_lt hc) this
                · rw [if_neg e3]; exact h1 k a b e1
          · rw [g k, g ((p - 1) / 2), if_neg (by omega), if_neg (by omega)]
            have hpp := h1 p d (by omega) (by omega)
            by_cases e1 : k = j
            · rw [if_pos e1]; exact hpp
            · rw [if_neg e1, if_neg (by omega)]
              have := h1 k a b e1
              rw [c] at this
              exact leE_trans hpp this
        match m, hm with
        | 0, hm => omega
        | m + 1, hm =>
          obtain ⟨r1, r2⟩ := up_ok n m p (sw es p j) (by omega) (by omega) (by rw [sw_len]; exact hl) hU
          refine ⟨r1, r2.trans ?_⟩
          rw [sw_take (by omega) hj hl]
          exact sw_perm (by simp; omega) (by simp; omega)
      · rw [if_neg hc]
        refine ⟨fun k a b => ?_, List.Perm.refl _⟩
        by_cases e1 : k = j
        · subst e1; exact leE_ge hc
        · exact h1 k a b e1

def DownP (es : List Ent3) (m i : Nat) : Prop := (∀ k, 0 < k → k < m → (k - 1) / 2 ≠ i → leE (ga es ((k - 1) / 2)) (ga es k)) ∧ (∀ k, 0 < k → k < m → (k - 1) / 2 = i → 0 < i → leE (ga es ((i - 1) / 2)) (ga es k))
theorem pick_min {es : List Ent3} {i m : Nat} (h : 2 * i + 1 < m) : (pickJ es i m - 1) / 2 = i ∧ ∀ k, 0 < k → k < m → (k - 1) / 2 = i → leE (ga es (pickJ es i m)) (ga es k) := by
  unfold pickJ
  by_cases hc : 2 * i + 2 < m ∧ cmpE (ga es (2 * i + 2)) (ga es (2 * i + 1)) < 0
  · rw [if_pos hc]
    refine ⟨by omega, fun k a b c => ?_⟩
    have : k = 2 * i + 1 ∨ k = 2 * i + 2 := by omega
    rcases this with rfl | rfl
    · exact leE_lt hc.2
    · exact leE_refl _
  · rw [if_neg hc]
    refine ⟨by omega, fun k a b c => ?_⟩
    have : k = 2 * i + 1 ∨ k = 2 * i + 2 := by omega
    rcases this with rfl | rfl
    · exact leE_refl _
    · exact leE_ge fun h' => hc ⟨b, h'⟩
theorem down_ok (m : Nat) : ∀ (d i : Nat) (es : List Ent3), m - i ≤ d → m ≤ es.length → i ≤ m → DownP es m i → HeapP (downF es i m) m ∧ ((downF es i m).take m).Perm (es.take m) ∧ ∀ k, m ≤ k → ga (downF es i m) k = ga es k
  | d, i, es, hd, hl, him, ⟨h1, h2⟩ => by
    unfold downF
    by_cases h0 : 2 * i + 1 < m
    · rw [dif_pos h0]
      obtain ⟨p1, p2⟩ := pick_min (es := es) h0
      have p3 := pickJ_gt es i m
      have p4 := pickJ_lt es i m h0
      generalize pickJ es i m = j at *
      by_cases hc : cmpE (ga es j) (ga es i) < 0
      · rw [if_pos hc]
        have g := fun k => ga_sw (es := es) (i := i) (j := j) (by omega) (by omega) k
        have hD : DownP (sw es i j) m j := by
          refine ⟨fun k a b c => ?_, fun k a b c e => ?_⟩
          · rw [g k, g ((k - 1) / 2), if_neg c]
            by_cases e1 : (k - 1) / 2 = i
            · rw [if_pos e1]
              by_cases e2 : k = j
              · rw [if_pos e2]; exact leE_lt hc
              · rw [if_neg e2, if_neg (by omega)]; exact p2 k a b e1
            · rw [if_neg e1, if_neg (by intro h; subst h; exact e1 p1)]
              by_cases e2 : k = i
              · rw [if_pos e2]
                subst e2
                exact h2 j (by omega) p4 p1 a
              · rw [if_neg e2]; exact h1 k a b e1
          · rw [g k, g ((j - 1) / 2), p1, if_neg (by omega), if_pos rfl, if_neg (by omega), if_neg (by omega)]
            have := h1 k a b (by omega)
            rw [c] at this
            exact this
        match d, hd with
        | 0, hd => omega
        | d + 1, hd =>
          obtain ⟨r1, r2, r3⟩ := down_ok m d j (sw es i j) (by omega) (by rw [sw_len]; exact hl) (by omega) hD
          refine ⟨r1, r2.trans ?_, fun k hk => ?_⟩
          · rw [sw_take (by omega) p4 hl]
            exact sw_perm (by simp; omega) (by simp; omega)
          · rw [r3 k hk, g k, if_neg (by omega), if_neg (by omega)]
      · rw [if_neg hc]
        refine ⟨fun k a b => ?_, List.Perm.refl _, fun _ _ => rfl⟩
        by_cases e1 : (k - 1) / 2 = i
        · rw [e1]; exact leE_trans (leE_ge hc) (p2 k a b e1)
        · exact h1 k a b e1
    · rw [dif_neg h0]
      exact ⟨fun k a b => h1 k a b (by omega), List.Perm.refl _, fun _ _ => rfl⟩

theorem push_ok {es : List Ent3} {n : Nat} {e : Ent3} (hl : n ≤ es.length) (h : HeapP es n) : HeapP (pushF es n e) (n + 1) ∧ (pushF es n e).Perm (e :: es.take n) ∧ (pushF es n e).length = n + 1 := by
  have hlen : (es.take n ++ [e]).length = n + 1 := by simp; omega
  have g : ∀ k, k < n → ga (es.take n ++ [e]) k = ga es k := fun k hk => by
    rw [← ga_eq (by omega), ← ga_eq (by omega), List.getElem_append_left (by simp; omega)]; simp
  have hU : UpP (es.take n ++ [e]) (n + 1) n := by
    refine ⟨fun k a b c => ?_, fun k a b c d => by omega⟩
    rw [g k (by omega), g _ (by omega)]
    exact h k a (by omega)
  obtain ⟨r1, r2⟩ := up_ok (n + 1) n n _ (Nat.le_refl _) (by omega) (by omega) hU
  have hll : (pushF es n e).length = n + 1 := by unfold pushF; rw [upF_len, hlen]
  refine ⟨r1, ?_, hll⟩
  unfold pushF at hll ⊢
  rw [List.take_of_length_le (Nat.le_of_eq hll), List.take_of_length_le (Nat.le_of_eq hlen)] at r2
  exact r2.trans (List.perm_append_comm.trans (by simp))
theorem pop_ok {es : List Ent3} {n : Nat} (hl : n ≤ es.length) (h0 : 0 < n) (h : HeapP es n) : HeapP (popF es n) (n - 1) ∧ ga (popF es n) (n - 1) = ga es 0 ∧ (es.take n).Perm (ga es 0 :: (popF es n).take (n - 1)) ∧ (popF es n).length = es.length := by
  have g := fun k => ga_sw (es := es) (i := 0) (j := n - 1) (by omega) (by omega) k
  have hD : DownP (sw es 0 (n - 1)) (n - 1) 0 := by
    refine ⟨fun k a b c => ?_, fun k a b c d => by omega⟩
    rw [g k, g ((k - 1) / 2), if_neg (by omega), if_neg c, if_neg (by omega), if_neg (by omega)]
    exact h k a (by omega)
  obtain ⟨r1, r2, r3⟩ := down_ok (n - 1) (n - 1) 0 (sw es 0 (n - 1)) (by omega) (by rw [sw_len]; omega) (by omega) hD
  have e0 : ga (sw es 0 (n - 1)) (n - 1) = ga es 0 := by rw [g, if_pos rfl]
  refine ⟨r1, by unfold popF; rw [r3 _ (Nat.le_refl _), e0], ?_, by unfold popF; rw [downF_len _ _ _ _ rfl, sw_len]⟩
  have h1 : ((sw es 0 (n - 1)).take n).Perm (es.take n) := by
    rw [sw_take (by omega) (by omega) hl]
    exact sw_perm (by simp; omega) (by simp; omega)
  have h2 : (sw es 0 (n - 1)).take n = (sw es 0 (n - 1)).take (n - 1) ++ [ga es 0] := by
    have hlt : n - 1 < (sw es 0 (n - 1)).length := by rw [sw_len]; omega
    have h3 := List.take_succ_eq_append_getElem hlt
    rw [ga_eq hlt, e0, show n - 1 + 1 = n by omega] at h3
    exact h3
  rw [h2] at h1
  refine h1.symm.trans (List.perm_append_comm.trans ?_)
  simp -implicitDefEqProofs only [List.singleton_append]
  exact List.Perm.cons _ r2.symm
end Go.Eng

/- agenda: the least, and what is in order, as plain lists. -/
namespace Go.Eng
open Go
theorem least_min (es : List Ent3) : ∀ k, k ≤ es.length → ∀ j, j < k → leE (ga es (leastUp es k).toNat) (ga es j)
  | 0, _, j, hj => by omega
  | k + 1, hk, j, hj => by
    have ih := least_min es k (by omega)
    unfold leastUp
    by_cases hc : leastUp es k < 0 ∨ lessB (ga es k) (ga es (leastUp es k).toNat) = true
    · rw [if_pos hc, Int.toNat_natCast]
      by_cases e : j = k
      · subst e; exact leE_refl _
      · have hj2 : j < k := by omega
        rcases hc with hc | hc
        · exfalso
          have : ∃ q, k = q + 1 := ⟨k - 1, by omega⟩
          obtain ⟨q, rfl⟩ := this
          have := leastUp_lt es q
          unfold leastUp at hc
          split at hc <;> omega
        · exact leE_trans (leE_lt (less_cmp.1 hc)) (ih j hj2)
    · rw [if_neg hc]
      have hc2 : ¬ lessB (ga es k) (ga es (leastUp es k).toNat) = true := fun h => hc (.inr h)
      rw [less_cmp] at hc2
      by_cases e : j = k
      · subst e; exact leE_ge hc2
      · exact ih j (by omega)
theorem least_le {es : List Ent3} {x : Ent3} (h : x ∈ es) : leE (ga es (leastN es)) x := by
  obtain ⟨j, hj, rfl⟩ := List.getElem_of_mem h
  rw [ga_eq hj]
  exact least_min es es.length (Nat.le_refl _) j hj
theorem without_perm {es : List Ent3} {i : Nat} (h : i < es.length) : es.Perm (ga es i :: without es i) := by
  unfold without
  rw [← ga_eq h]
  have : es = es.take i ++ (es[i] :: es.drop (i + 1)) := by rw [← List.drop_eq_getElem_cons h, List.take_append_drop]
  conv => lhs; rw [this]
  exact List.perm_middle
def sortedTo (es : List Ent3) : Nat → Bool
  | 0 => true
  | k + 1 => if cmpE (ga es (k + 1)) (ga es k) < 0 then false else sortedTo es k
end Go.Eng

/- Splitting on conditions: with a hypothesis for each way. -/
namespace Go.Eng
open Go

section
variable {P : Program} {n0 : Nat} {k : List It} {K : Ex → St → Prop} {env : List (Nat × SV)} {h : List (Option HB)}

theorem cdT {a b : AC} : condI P n0 a b k K env h (.rv (.bool true)) = G P n0 (.c a :: k) K env h := rfl
theorem cdF {a b : AC} : condI P n0 a b k K env h (.rv (.bool false)) = G P n0 (.c b :: k) K env h := rfl
theorem cdS {a b : AC} {t : Bool} (h1 : t = true → G P n0 (.c a :: k) K env h) (h2 : t = false → G P n0 (.c b :: k) K env h) : condI P n0 a b k K env h (.rv (.bool t)) := by
  cases t
  · exact h2 rfl
  · exact h1 rfl

section
variable {ao : AO} {xs : List XO} {dst : Option Nat} {r : List AOp} {bef : List Nat} {acc : List TE} {rds : List Nat}
theorem gdTT : guardI P n0 true ao xs dst r k K env h (.rv (.bool true)) = opI P n0 ao (xs.map (evX (lk env))) dst r k K env h := rfl
theorem gdTF : guardI P n0 true ao xs dst r k K env h (.rv (.bool false)) = G P n0 (.o r :: k) K (putE dst (.tup []) env) h := rfl
theorem gdFT : guardI P n0 false ao xs dst r k K env h (.rv (.bool true)) = G P n0 (.o r :: k) K (putE dst (.tup []) env) h := rfl
theorem gdFF : guardI P n0 false ao xs dst r k K env h (.rv (.bool false)) = opI P n0 ao (xs.map (evX (lk env))) dst r k K env h := rfl
theorem gdU {b : Bool} : guardI P n0 b ao xs dst r k K env h (.tup []) = G P n0 (.o r :: k) K (putE dst (.tup []) env) h := rfl
theorem gddU {b : Bool} : guarddI P n0 bef acc rds b ao xs dst r k K env h (.tup []) = G P n0 (.d bef (acc ++ [⟨rds, dst, [], []⟩]) r :: k) K (putE dst (.tup []) env) h := rfl
theorem gdS {b t : Bool} (h1 : t = b → opI P n0 ao (xs.map (evX (lk env))) dst r k K env h) (h2 : t = !b → G P n0 (.o r :: k) K (putE dst (.tup []) env) h) : guardI P n0 b ao xs dst r k K env h (.rv (.bool t)) := by
  cases t <;> cases b <;> first | exact h1 rfl | exact h2 rfl
theorem gddTT : guarddI P n0 bef acc rds true ao xs dst r k K env h (.rv (.bool true)) = opdI P n0 bef acc rds ao (xs.map (evX (lk env))) dst r k K env h := rfl
theorem gddTF : guarddI P n0 bef acc rds true ao xs dst r k K env h (.rv (.bool false)) = G P n0 (.d bef (acc ++ [⟨rds, dst, [], []⟩]) r :: k) K (putE dst (.tup []) env) h := rfl
theorem gddFT : guarddI P n0 bef acc rds false ao xs dst r k K env h (.rv (.bool true)) = G P n0 (.d bef (acc ++ [⟨rds, dst, [], []⟩]) r :: k) K (putE dst (.tup []) env) h := rfl
theorem gddFF : guarddI P n0 bef acc rds false ao xs dst r k K env h (.rv (.bool false)) = opdI P n0 bef acc rds ao (xs.map (evX (lk env))) dst r k K env h := rfl
theorem gddS {b t : Bool} (h1 : t = b → opdI P n0 bef acc rds ao (xs.map (evX (lk env))) dst r k K env h) (h2 : t = !b → G P n0 (.d bef (acc ++ [⟨rds, dst, [], []⟩]) r :: k) K (putE dst (.tup []) env) h) : guarddI P n0 bef acc rds b ao xs dst r k K env h (.rv (.bool t)) := by
  cases t <;> cases b <;> first | exact h1 rfl | exact h2 rfl
end
end
theorem pkT {x y : SV} : pickE [.rv (.bool true), x, y] = some (True, x, none, []) := rfl
theorem pkF {x y : SV} : pickE [.rv (.bool false), x, y] = some (True, y, none, []) := rfl
/-- A row of pointers into one thing. -/
def ptrs (i : Nat) (os : List Nat) : List (List SV) := os.map fun o => [.ptr i o]
/-- Calls that take pure values, of any shape, and give pure values: all that is new is given up. -/
theorem callR_G {P : Program} {f : FuncId} {N : Nat} {ac : AC} {rs : List RR} (H : FnOK P f N ac rs) (args : List SV) (sv : SV) (hN : args.length ≤ N) (hA : BkAll (fun j => ([] : List Nat)[j]?) args args)
    (hrun : ∀ K : Ex → St → Prop, (∀ env h, retP (fun _ => none) (hget h) sv (resL (lk env) (hget h) rs) → K .normal ⟨env, h⟩ ∧ K .ret ⟨env, h⟩) → G P 0 [.c ac] K (mkEnv 0 args) []) : CallR P f args [] [] sv := by
  refine callR_of H [] [] args hN (bkAll_iff.1 hA) rfl (by simp) (by simp) (fun K hK => hrun K (fun env h hr => ?_))
  unfold retP at hr
  split at hr
  · rename_i p xs hres
    exact hK env h env h (fun _ => none) (ent_refl _ _) ⟨by simp, by simp, by simp, by simp, by simp, p, xs, hres, hr.1, hr.2⟩
  · exact hr.elim

theorem ret_t {τ : Nat → Option Nat} {h : Hp} {env : List (Nat × SV)} {n : Nat} {r : RV} (hl : lk env n = .rv r) : retP τ h (.rv r) (resL (lk env) h [.t n]) := by
  simp [resL, retP, resT, hl, rn_rv]
theorem fzAll_map {τ : Nat → Option Nat} {h : Hp} : ∀ (bs : List RV), FzAll τ h (bs.map .rv) bs
  | [] => trivial
  | b :: bs => ⟨.rv b, fzAll_map bs⟩

/-- A row of the caller's own, lent to a call that only reads it. -/
theorem lend1 {P : Program} {f : FuncId} {e id v n : Nat} {xs : List (List RV)} {bs : List RV} {r : RV} (H : CallR P f (.rv (.sl e xs) :: bs.map .rv) [] [] (.rv r)) (hf : FlatR r) (hn : n = xs.length) (h1 : ∀ x ∈ xs, ∀ r ∈ x, r.one = true) :
    CallR P f (.row id v n :: bs.map .rv) [(id, .row e v (rvs xs))] [] (.rv r) := by
  refine callR_lend (rs := .sl e xs :: bs) H (fun hp hpre => ⟨?_, ?_⟩) (by simp) (.rv _ hf) (by simp)
  · have := fz_row (h := hp) (τ := fun _ => none) (j := id) (e := e) (ver := v) (len := n) (xs := xs) (hpre _ (.head _)) rfl (by omega) h1
    rwa [hn, List.take_length, ← hn] at this
  · exact fzAll_map bs
end Go.Eng

/- Nil slices within rows as rows without elements; giving up what a call leaves. -/
namespace Go.Eng
open Go

theorem ent_ghostv {n0 : Nat} {env : List (Nat × SV)} {h : List (Option HB)} (n e v : Nat) (hn : lk env n = .rv .nilsl) : Ent n0 ⟨env, h⟩ ⟨(n, .row h.length v 0) :: env, h ++ [some (.row e v [])]⟩ := by
  intro C a w R
  obtain ⟨⟨rho, RF⟩, h1, h0⟩ := R
  have hnone : hget h h.length = none := by unfold hget; rw [List.getElem?_eq_none (Nat.le_refl _)]
  have hC0 : C.h0 h.length = none := h0 _ h1
  have S := RF.mem.ghost h.length e v (.inl ⟨hnone, hC0⟩)
  have RF' := RF.step S
  have hh : hget (h ++ [some (.row e v [])]) = up (hget h) h.length (some (.row e v [])) := by
    have := hget_uph (h := h) (q := (h.length, .row e v [])) (Nat.le_refl _)
    rw [← this]
    unfold uph; rw [if_pos rfl]
  have hv := RF.env n
  rw [hn] at hv
  refine ⟨⟨up rho h.length none, ?_, fun m => ?_, RF'.size, RF'.defers⟩, ?_, h0⟩
  · show RepH C (hget (h ++ [some (.row e v [])])) w (up rho h.length none)
    rw [hh]; exact RF'.mem
  · show Rp w (okk C (up rho h.length none) (hget (h ++ [some (.row e v [])]))) (up rho h.length none) (hget (h ++ [some (.row e v [])])) (lk ((n, .row h.length v 0) :: env) m) _
    rw [hh, lk_put]
    by_cases hm : m = n
    · subst hm
      rw [up_same]
      cases hv with
      | rv _ _ hr =>
        generalize a.tmps.getD m undef = v at hr
        cases hr
        refine .row _ _ _ _ rfl (by rw [up_same]; rfl) (fun e ver0 xs hx => by rw [up_same] at hx; cases hx; exact Nat.le_refl _) (fun e xs hx => .inl ⟨up_same _ _ _, rfl, rfl⟩)
    · rw [up_other _ _ hm]; exact RF'.env m
  · show n0 ≤ (h ++ [some (HB.row e v [])]).length
    have h1' : n0 ≤ h.length := h1
    simp; omega

def ghRows (n : Nat) (e : Nat) : List (Option HB) := List.replicate n (some (.row e 0 []))
/-- A row of nil slices, k of them taken as rows. -/
def ghTab (b n k : Nat) : List (List SV) := (List.range n).map fun p => if p < k then [.row (b + p) 0 0] else [.rv .nilsl]

end Go.Eng

/- Things at the end given up. -/
namespace Go.Eng
open Go

/-- A value leads only to the first n things. -/
inductive ClS (n : Nat) : SV → Prop where
  | dead : ClS n .dead
  | rv (r : RV) : ClS n (.rv r)
  | ptr (id off : Nat) (h : id < n) : ClS n (.ptr id off)
  | ept (id ver i off : Nat) (h : id < n) : ClS n (.ept id ver i off)
  | row (id ver len : Nat) (h : id < n) : ClS n (.row id ver len)
  | win (id ver off len : Nat) (h : id < n) : ClS n (.win id ver off len)
  | agg (cs : List SV) (h : ∀ (j : Nat) (y : SV), cs[j]? = some y → ClS n y) : ClS n (.agg cs)
  | tup (cs : List SV) (h : ∀ (j : Nat) (y : SV), cs[j]? = some y → ClS n y) : ClS n (.tup cs)
  | fn (f : FuncId) (cs : List SV) (h : ∀ (j : Nat) (y : SV), cs[j]? = some y → ClS n y) : ClS n (.fn f cs)
  | ifc (t : TypeId) (x : SV) (h : ClS n x) : ClS n (.ifc t x)

theorem ClS.rn {n : Nat} {h : Hp} {x : SV} (hc : ClS n x) : Rn (τk n) h x x := by
  induction hc with
  | dead => exact .dead _
  | rv r => exact .fz _ _ (.rv r)
  | ptr id off h => exact .ptr _ _ _ (by simp [τk, h])
  | ept id ver i off h => exact .ept _ _ _ _ _ (by simp [τk, h])
  | row id ver len h => exact .row _ _ _ _ (by simp [τk, h])
  | win id ver off len h => exact .win _ _ _ _ _ (by simp [τk, h])
  | agg cs h ih => exact .agg _ _ rfl (fun i x y hx hy => by rw [hx] at hy; cases hy; exact ih i x hx)
  | tup cs h ih => exact .tup _ _ rfl (fun i x y hx hy => by rw [hx] at hy; cases hy; exact ih i x hx)
  | fn f cs h ih => exact .fn _ _ _ rfl (fun i x y hx hy => by rw [hx] at hy; cases hy; exact ih i x hx)
  | ifc t x h ih => exact .ifc _ _ _ ih

def ClA (n : Nat) : List SV → Prop
  | [] => True
  | x :: r => ClS n x ∧ ClA n r
theorem ClA.get {n : Nat} : ∀ {l : List SV}, ClA n l → ∀ (j : Nat) (y : SV), l[j]? = some y → ClS n y
  | [], _, j, y, h => by simp at h
  | x :: r, hc, j, y, h => by
    cases j with
    | zero => simp at h; subst h; exact hc.1
    | succ j => exact hc.2.get j y (by simpa using h)
theorem clS_rv {n : Nat} {r : RV} : ClS n (.rv r) ↔ True := ⟨fun _ => trivial, fun _ => .rv r⟩
theorem clS_ptr {n i o : Nat} : ClS n (.ptr i o) ↔ i < n := ⟨fun h => by cases h; assumption, fun h => .ptr _ _ h⟩
theorem clS_row {n i v l : Nat} : ClS n (.row i v l) ↔ i < n := ⟨fun h => by cases h; assumption, fun h => .row _ _ _ h⟩
theorem clA_map {n : Nat} {rs : List RV} : ClA n (rs.map .rv) := by
  induction rs with
  | nil => trivial
  | cons r rs ih => exact ⟨.rv r, ih⟩

def ClH (n : Nat) : HB → Prop
  | .var cs => ClA n cs
  | .row _ _ xs => ∀ (i : Nat) (x : List SV), xs[i]? = some x → ClA n x
theorem clH_rvs {n e v : Nat} {xs : List (List RV)} : ClH n (.row e v (rvs xs)) := fun i x hx => by
  unfold rvs at hx
  rw [List.getElem?_map] at hx
  cases hq : xs[i]? with
  | none => simp [hq] at hx
  | some z => simp [hq] at hx; subst hx; exact clA_map

theorem ClH.rn {n : Nat} {h : Hp} {hb : HB} (hc : ClH n hb) : RnH (τk n) h hb hb := by
  cases hb with
  | var cs => exact .var _ _ ⟨rfl, fun i x y hx hy => by rw [hx] at hy; cases hy; exact (ClA.get hc i x hx).rn⟩
  | row e v xs => exact .row _ _ _ _ rfl (fun i x y hx hy => by
      rw [hx] at hy; cases hy
      exact ⟨rfl, fun j a b ha hb => by rw [ha] at hb; cases hb; exact (ClA.get (hc i x hx) j a ha).rn⟩)

def ClEnv (n : Nat) (env : List (Nat × SV)) : List (Nat × SV) → Prop
  | [] => True
  | (m, v) :: r => (v = .dead ∨ lk env m = v ∧ ClS n v) ∧ ClEnv n env r
theorem ClEnv.get {n : Nat} {env : List (Nat × SV)} : ∀ {env' : List (Nat × SV)}, ClEnv n env env' → ∀ p ∈ env', p.2 = .dead ∨ lk env p.1 = p.2 ∧ ClS n p.2
  | [], _, p, hp => by simp at hp
  | (m, v) :: r, h, p, hp => by
    rcases List.mem_cons.1 hp with rfl | hp
    · exact h.1
    · exact h.2.get p hp

def AllSome (P : HB → Prop) : List (Option HB) → Prop
  | [] => True
  | some hb :: r => P hb ∧ AllSome P r
  | none :: _ => False
theorem AllSome.get {P : HB → Prop} : ∀ {l : List (Option HB)}, AllSome P l → ∀ j, j < l.length → ∃ hb, l[j]? = some (some hb) ∧ P hb
  | [], _, j, hj => by simp at hj
  | some hb :: r, h, j, hj => by
    cases j with
    | zero => exact ⟨hb, rfl, h.1⟩
    | succ j => obtain ⟨x, a, b⟩ := h.2.get j (by simpa using hj); exact ⟨x, by simpa using a, b⟩
  | none :: r, h, _, _ => h.elim
theorem AllSome.of {P : HB → Prop} : ∀ {l : List (Option HB)}, (∀ (j : Nat) (x : Option HB), l[j]? = some x → ∃ hb, x = some hb ∧ P hb) → AllSome P l
  | [], _ => trivial
  | x :: r, h => by
    obtain ⟨hb, rfl, hp⟩ := h 0 x rfl
    exact ⟨hp, AllSome.of fun j y hy => h (j + 1) y (by simpa using hy)⟩

/-- What stands behind the first things is given up; none of the first leads there. -/
theorem ent_tail {n0 : Nat} {env env' : List (Nat × SV)} {h' C : List (Option HB)} (hn : n0 ≤ h'.length) (hC : AllSome (ClH h'.length) h') (he : ClEnv h'.length env env') : Ent n0 ⟨env, h' ++ C⟩ ⟨env', h'⟩ := by
  refine ent_gen (τk h'.length) hn (fun j i hj => ?_) (fun j hj => ?_) (fun j => ?_) (lk_dead_of (fun x => .dead x) (fun p hp => ?_))
  · unfold τk at hj; split at hj <;> cases hj; rfl
  · unfold τk at hj; split at hj
    · cases hj
    · omega
  · by_cases hj : j < h'.length
    · obtain ⟨hb, g1, g2⟩ := hC.get j hj
      exact .inl ⟨hb, hb, by simp [τk, hj], hget_some.2 (by rw [List.getElem?_append_left hj]; exact g1), hget_some.2 g1, g2.rn⟩
    · refine .inr ⟨?_, .inl (by simp [τk, hj])⟩
      unfold hget
      rw [List.getElem?_eq_none (by omega)]
  · rcases he.get p hp with h | ⟨h1, h2⟩
    · rw [h]; exact .dead _
    · rw [h1]; exact h2.rn
/-- Cells of a type, not to be unfolded. -/
structure TyC (P : Program) (n : Nat) (t : TypeId) (rs : List RV) : Prop where
  ty : tyC P n t rs
theorem tyFs_mono {P : Program} {f g : TypeId → List RV → Prop} (h : ∀ t rs, f t rs → g t rs) : ∀ {fs : List Field} {rs : List RV}, tyFs P f fs rs → tyFs P g fs rs
  | [], _, hf => hf
  | _ :: _, _, ⟨a, b, e, h1, h2⟩ => ⟨a, b, e, h _ _ h1, tyFs_mono h h2⟩
theorem tyC_int {P : Program} {n : Nat} {t : TypeId} {k : IntKind} {rs : List RV} (hu : P.underlying t = some (.int k)) (h : TyC P (n + 1) t rs) : ∃ i, rs = [.int k i] ∧ (Lit.int k i).wf = true := by
  have h := h.ty; unfold tyC at h; simp only [hu] at h; exact h
theorem tyC_slice {P : Program} {n : Nat} {t e : TypeId} {rs : List RV} (hu : P.underlying t = some (.slice e)) (h : TyC P (n + 1) t rs) : ∃ xs, rs = [.sl (P.cellsOf e) xs] ∧ xs.length ≤ maxLen ∧ ∀ x ∈ xs, TyC P n e x := by
  have h := h.ty; unfold tyC at h; simp only [hu] at h
  obtain ⟨xs, h1, h2, h3⟩ := h
  exact ⟨xs, h1, h2, fun x hx => ⟨h3 x hx⟩⟩
theorem tyC_struct {P : Program} {n : Nat} {t : TypeId} {fs : Array Field} {rs : List RV} (hu : P.underlying t = some (.struct fs)) (h : TyC P (n + 1) t rs) : tyFs P (TyC P n) fs.toList rs := by
  have h := h.ty; unfold tyC at h; simp only [hu] at h
  exact tyFs_mono (fun _ _ h => ⟨h⟩) h
theorem open_arg2 {P : Program} {H : Type} {enc : TypeId × Value → H} {w : World} {r : Reach} {b0 n : Nat} {t : TypeId} {v : Value} {d : DataW H} {ps : List MemPlace} (hf : flatT P n t = true) (hval : Value.okWide P w r b0 t v) (hd : DataW.Trod enc P w 0 (fun _ => true) true t v d ps) :
    ∃ rs, TyC P n t rs ∧ ∀ (ok : Nat → Prop) (rho : Nat → Option Nat) (hp : Hp), (∀ b, b < w.heap.size → ok b) → Rp w ok rho hp (argS P t rs) v := by
  obtain ⟨rs, h1, h2⟩ := open_arg hf hval hd ⟨w, fun _ => True, fun _ => True, 0, fun _ => .none, fun _ => .none⟩ (fun _ => .none)
  exact ⟨rs, ⟨h1⟩, h2⟩
theorem argS_one {P : Program} {t : TypeId} {r : RV} (h : aggT P t = some false) : argS P t [r] = .rv r := by
  unfold argS; rw [h]; rfl
end Go.Eng

/- The rules of the evaluation, under one name. -/
namespace Go.Eng
open Go
attribute [go_sem] g_nil g_skip g_reg g_regd g_seq g_block g_end g_cond g_ret g_exit gx_nil gx_c gx_o gx_d gx_b g_onil g_dnil g_op g_opg g_opd g_opdg callvI invI plainI opI callvdI invdI plaindI opdI opE o1 o2 ix2 loadE storeE boxE allLen bslE buildE fits fldE ixsE ixaE ixvE fldvE lenE lensE srcE appE bnd2 bndL bndH bnd0 bndE slcE slcC allocE nilchkE isNilSV ibinE ibin ishfE ishf eqnilE eqbE notE negE cviE mkslE mxE mnE extE isNilSl isNilFn isNilIf isNilO eqniloE eqsF eqsE cellsEq cellEq sbinE sbin ifcOf tasF tasE cellsSV cellsAll layO mkEnv lk hget_zero hget_succ putE uphO uph uphL evX rdsX uIds List.map_cons List.map_nil List.length_cons List.length_nil List.length_append List.length_map List.length_set List.set_cons_zero List.set_cons_succ List.cons_append List.nil_append List.append_nil List.getElem?_cons_zero List.getElem?_cons_succ List.getElem?_nil List.take_succ_cons List.take_zero List.drop_succ_cons List.drop_zero List.drop_nil List.take_nil Option.getD_some Option.getD_none Option.map_some Option.map_none true_and and_true Nat.zero_add Nat.add_zero decide_eq_true_eq Bool.false_eq_true rvs_len rvs_get rvs_fold rvs_take rvs_append Int.toNat_natCast bneTT bneTF bneFT bneFF Bool.not_true Bool.not_false splice0 slcaE clrE chunks cdT cdF gdTT gdTF gdFT gdFF gddTT gddTF gddFT gddFF gdU gddU pkT pkF
end Go.Eng

/- agenda: nothing in order; the statement on a nil one. -/
namespace Go.Eng
open Go
end Go.Eng
