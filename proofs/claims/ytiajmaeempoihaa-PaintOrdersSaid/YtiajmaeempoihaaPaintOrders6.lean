/- Part 6 of the proof: Q3, Q4, Q6, Q9, Q10, Q11, QT, QS, V6, V7, V8, V9, V10, V11, V12, V13, V14, V15. -/
import Derived.Test.YtiajmaeempoihaaPaintOrders5
set_option linter.unusedSimpArgs false
set_option linter.unusedVariables false

/- agenda: the heap. -/
namespace Go.Eng
open Go
/- container/heap.up -/
def c_container_heap_up : AC := (.seq (.block 0 (.loop (.seq (.block 1 (.seq (.reg [⟨(some 5), .mv, [(.t 1)], none⟩, ⟨(some 6), (.ibin .sub), [(.t 5), (.c (.rv (.int .i64 1)))], none⟩, ⟨(some 7), (.ibin .quo), [(.t 6), (.c (.rv (.int .i64 2)))], none⟩, ⟨(some 4), .mv, [(.t 7)], none⟩]) (.seq (.seq (.reg [⟨(some 8), .mv, [(.t 4)], none⟩, ⟨(some 9), .mv, [(.t 1)], none⟩, ⟨(some 10), (.ibin .eql), [(.t 8), (.t 9)], none⟩, ⟨(some 11), .mv, [(.t 10)], none⟩, ⟨(some 12), .mv, [(.t 0)], (some (11, false))⟩, ⟨(some 13), .mv, [(.t 1)], (some (11, false))⟩, ⟨(some 14), .mv, [(.t 4)], (some (11, false))⟩, ⟨(some 15), (.inv "Less"), [(.t 12), (.t 13), (.t 14)], (some (11, false))⟩, ⟨(some 16), .not, [(.t 15)], (some (11, false))⟩, ⟨(some 17), .pick, [(.t 11), (.c (.rv (.bool true))), (.t 16)], none⟩]) (.cond (.t 17) (.exit 0) .skip)) (.seq (.reg [⟨(some 18), .mv, [(.t 0)], none⟩, ⟨(some 19), .mv, [(.t 4)], none⟩, ⟨(some 20), .mv, [(.t 1)], none⟩, ⟨(some 21), (.inv "Swap"), [(.t 18), (.t 19), (.t 20)], none⟩]) (.reg [⟨(some 22), .mv, [(.t 4)], none⟩, ⟨(some 1), .mv, [(.t 22)], none⟩]))))) .ent))) .ent)
theorem k_container_heap_up : FnOK Go.Proofs.Try.prog 118 23 c_container_heap_up [] := fnOK_of (by kernel_rfl)

/- container/heap.down -/
def c_container_heap_down : AC := (.seq (.reg [⟨(some 6), .mv, [(.c (.rv (.bool false)))], none⟩]) (.seq (.reg [⟨(some 11), .mv, [(.t 1)], none⟩, ⟨(some 7), .mv, [(.t 11)], none⟩]) (.seq (.seq (.block 0 (.loop (.seq (.block 1 (.seq (.reg [⟨(some 12), .mv, [(.t 7)], none⟩, ⟨(some 13), (.ibin .mul), [(.c (.rv (.int .i64 2))), (.t 12)], none⟩, ⟨(some 14), (.ibin .add), [(.t 13), (.c (.rv (.int .i64 1)))], none⟩, ⟨(some 8), .mv, [(.t 14)], none⟩]) (.seq (.seq (.reg [⟨(some 15), .mv, [(.t 8)], none⟩, ⟨(some 16), .mv, [(.t 2)], none⟩, ⟨(some 17), (.ibin .geq), [(.t 15), (.t 16)], none⟩, ⟨(some 18), .mv, [(.t 17)], none⟩, ⟨(some 19), .mv, [(.t 8)], (some (18, false))⟩, ⟨(some 20), (.ibin .lss), [(.t 19), (.c (.rv (.int .i64 0)))], (some (18, false))⟩, ⟨(some 21), .pick, [(.t 18), (.c (.rv (.bool true))), (.t 20)], none⟩]) (.cond (.t 21) (.exit 0) .skip)) (.seq (.reg [⟨(some 22), .mv, [(.t 8)], none⟩, ⟨(some 9), .mv, [(.t 22)], none⟩]) (.seq (.seq (.reg [⟨(some 23), .mv, [(.t 8)], none⟩, ⟨(some 24), (.ibin .add), [(.t 23), (.c (.rv (.int .i64 1)))], none⟩, ⟨(some 10), .mv, [(.t 24)], none⟩]) (.seq (.reg [⟨(some 25), .mv, [(.t 10)], none⟩, ⟨(some 26), .mv, [(.t 2)], none⟩, ⟨(some 27), (.ibin .lss), [(.t 25), (.t 26)], none⟩, ⟨(some 28), .mv, [(.t 27)], none⟩, ⟨(some 29), .mv, [(.t 0)], (some (28, true))⟩, ⟨(some 30), .mv, [(.t 10)], (some (28, true))⟩, ⟨(some 31), .mv, [(.t 8)], (some (28, true))⟩, ⟨(some 32), (.inv "Less"), [(.t 29), (.t 30), (.t 31)], (some (28, true))⟩, ⟨(some 33), .pick, [(.t 28), (.t 32), (.c (.rv (.bool false)))], none⟩]) (.seq (.cond (.t 33) (.reg [⟨(some 34), .mv, [(.t 10)], none⟩, ⟨(some 9), .mv, [(.t 34)], none⟩]) .skip) .ent))) (.seq (.seq (.reg [⟨(some 35), .mv, [(.t 0)], none⟩, ⟨(some 36), .mv, [(.t 9)], none⟩, ⟨(some 37), .mv, [(.t 7)], none⟩, ⟨(some 38), (.inv "Less"), [(.t 35), (.t 36), (.t 37)], none⟩, ⟨(some 39), .not, [(.t 38)], none⟩]) (.cond (.t 39) (.exit 0) .skip)) (.seq (.reg [⟨(some 40), .mv, [(.t 0)], none⟩, ⟨(some 41), .mv, [(.t 7)], none⟩, ⟨(some 42), .mv, [(.t 9)], none⟩, ⟨(some 43), (.inv "Swap"), [(.t 40), (.t 41), (.t 42)], none⟩]) (.reg [⟨(some 44), .mv, [(.t 9)], none⟩, ⟨(some 7), .mv, [(.t 44)], none⟩])))))))) .ent))) .ent) (.seq (.reg [⟨(some 45), .mv, [(.t 7)], none⟩, ⟨(some 46), .mv, [(.t 1)], none⟩, ⟨(some 47), (.ibin .gtr), [(.t 45), (.t 46)], none⟩, ⟨(some 6), .mv, [(.t 47)], none⟩]) .ret))))
theorem k_container_heap_down : FnOK Go.Proofs.Try.prog 119 48 c_container_heap_down [(.t 6)] := fnOK_of (by kernel_rfl)

/- container/heap.Push -/
def c_container_heap_Push : AC := (.seq (.reg [⟨(some 4), .mv, [(.t 0)], none⟩, ⟨(some 5), .mv, [(.t 1)], none⟩, ⟨(some 6), (.inv "Push"), [(.t 4), (.t 5)], none⟩]) (.reg [⟨(some 7), .mv, [(.t 0)], none⟩, ⟨(some 8), .mv, [(.t 0)], none⟩, ⟨(some 9), (.inv "Len"), [(.t 8)], none⟩, ⟨(some 10), (.ibin .sub), [(.t 9), (.c (.rv (.int .i64 1)))], none⟩, ⟨(some 11), (.call 118), [(.t 7), (.t 10)], none⟩]))
theorem k_container_heap_Push : FnOK Go.Proofs.Try.prog 111 12 c_container_heap_Push [] := fnOK_of (by kernel_rfl)

/- container/heap.Pop -/
def c_container_heap_Pop : AC := (.seq (.reg [⟨(some 2), .mv, [(.c (.rv .nili))], none⟩]) (.seq (.reg [⟨(some 4), .mv, [(.t 0)], none⟩, ⟨(some 5), (.inv "Len"), [(.t 4)], none⟩, ⟨(some 6), (.ibin .sub), [(.t 5), (.c (.rv (.int .i64 1)))], none⟩, ⟨(some 3), .mv, [(.t 6)], none⟩]) (.seq (.reg [⟨(some 7), .mv, [(.t 0)], none⟩, ⟨(some 8), .mv, [(.t 3)], none⟩, ⟨(some 9), (.inv "Swap"), [(.t 7), (.c (.rv (.int .i64 0))), (.t 8)], none⟩]) (.seq (.reg [⟨(some 10), .mv, [(.t 0)], none⟩, ⟨(some 11), .mv, [(.t 3)], none⟩, ⟨(some 12), (.call 119), [(.t 10), (.c (.rv (.int .i64 0))), (.t 11)], none⟩]) (.seq (.reg [⟨(some 13), .mv, [(.t 0)], none⟩, ⟨(some 14), (.inv "Pop"), [(.t 13)], none⟩, ⟨(some 2), .mv, [(.t 14)], none⟩]) .ret)))))
theorem k_container_heap_Pop : FnOK Go.Proofs.Try.prog 113 15 c_container_heap_Pop [(.t 2)] := fnOK_of (by kernel_rfl)


instance : Inhabited Ent3 := ⟨⟨0, 0, 0⟩⟩
def ga (es : List Ent3) (i : Nat) : Ent3 := es.getD i ⟨0, 0, 0⟩
theorem ga_eq {es : List Ent3} {i : Nat} (h : i < es.length) : es[i] = ga es i := by simp [ga, h]
def sw (es : List Ent3) (i j : Nat) : List Ent3 := (es.set i (ga es j)).set j (ga es i)
theorem sw_len {es : List Ent3} {i j : Nat} : (sw es i j).length = es.length := by simp [sw]

theorem inv53Less : invF Go.Proofs.Try.prog 154 "Less" = some (138, some (1, false)) := by kernel_rfl
theorem inv53Swap : invF Go.Proofs.Try.prog 154 "Swap" = some (139, some (1, false)) := by kernel_rfl
theorem inv53Len : invF Go.Proofs.Try.prog 154 "Len" = some (137, some (1, false)) := by kernel_rfl
theorem inv53Push : invF Go.Proofs.Try.prog 154 "Push" = some (148, none) := by kernel_rfl
theorem inv53Pop : invF Go.Proofs.Try.prog 154 "Pop" = some (147, none) := by kernel_rfl

theorem spLess (i1 v n : Nat) (es : List Ent3) (i j : Nat) (hn : n ≤ es.length) (hi : i < n) (hj : j < n) :
    CallR Go.Proofs.Try.prog 138 [.row i1 v n, .rv (.int .i64 i), .rv (.int .i64 j)] [(i1, .row 3 v (rvs (cellsL es)))] [] (.rv (.bool (decide (cmpE (ga es i) (ga es j) < 0)))) := by
  have := sp_agenda_pile_Less i1 v n es i j hn hi hj
  rwa [ga_eq, ga_eq] at this

theorem spSwap (i1 v n : Nat) (es : List Ent3) (i j : Nat) (hn : n ≤ es.length) (hi : i < n) (hj : j < n) :
    CallR Go.Proofs.Try.prog 139 [.row i1 v n, .rv (.int .i64 i), .rv (.int .i64 j)] [(i1, .row 3 v (rvs (cellsL es)))] [(i1, .row 3 v (rvs (cellsL (sw es i j))))] (.tup []) := by
  have := sp_agenda_pile_Swap i1 v n es i j hn hi hj
  unfold swapL at this
  rwa [ga_eq, ga_eq] at this

theorem pre1 {hp : Hp} {a : Nat} {hb : HB} (h : hp a = some hb) : PreOK hp [(a, hb)] := fun q hq => by simp at hq; subst hq; exact h
theorem pre2 {hp : Hp} {a b : Nat} {x y : HB} (h : hp a = some x) (k : hp b = some y) : PreOK hp [(a, x), (b, y)] := fun q hq => by
  simp at hq
  rcases hq with rfl | rfl
  · exact h
  · exact k
theorem okU1 {h : List (Option HB)} {a : Nat} {x y : HB} {pre : List (Nat × HB)} (hg : hget h a = some y) (hm : (a, y) ∈ pre := by simp) : okU pre h [(a, x)] := by
  refine ⟨.inr ⟨?_, y, hm⟩, trivial⟩
  unfold hget at hg
  cases hl : h[a]? with
  | none => simp [hl] at hg
  | some z => exact (List.getElem?_eq_some_iff.1 hl).1

/-- up of the library's heap. -/
def upF (es : List Ent3) (j : Nat) : List Ent3 :=
  if h : j = 0 then es else if cmpE (ga es j) (ga es ((j - 1) / 2)) < 0 then upF (sw es ((j - 1) / 2) j) ((j - 1) / 2) else es
termination_by j
decreasing_by omega

theorem upF_len (es : List Ent3) (j : Nat) : (upF es j).length = es.length := by
  induction j using Nat.strongRecOn generalizing es with
  | _ j ih =>
    unfold upF
    split
    · rfl
    · split
      · rw [ih _ (by omega), sw_len]
      · rfl

theorem sp_container_heap_up (i0 i1 v n : Nat) (es : List Ent3) (j : Nat) (hi : i0 ≠ i1) (hn : n ≤ es.length) (hj : j < n) (hb : n < 1000000) :
    CallR Go.Proofs.Try.prog 118 [.ifc 154 (.ptr i0 0), .rv (.int .i64 j)] [(i0, .var [.row i1 v n]), (i1, .row 3 v (rvs (cellsL es)))] [(i1, .row 3 v (rvs (cellsL (upF es j))))] (.tup []) := by
  refine callR_M k_container_heap_up [i0, i1] [.var [.row 1 v n], .row 3 v (rvs (cellsL es))] [.var [.row i1 v n], .row 3 v (rvs (cellsL es))] [.ifc 154 (.ptr 0 0), .rv (.int .i64 j)] [.ifc 154 (.ptr i0 0), .rv (.int .i64 j)] _ _ (by simp) (by simp [BkAll, bk_ptr, bk_row, bk_rv, bk_agg, bk_ifc, bk_fn, bk_tup, bk_dead, BkHs, rvs_inj, nodupL]) rfl (by simp [nodupL, hi]) (by simp [BkAll, bk_ptr, bk_row, bk_rv, bk_agg, bk_ifc, bk_fn, bk_tup, bk_dead, BkHs, rvs_inj, nodupL]) (fun K hK => ?_)
  simp -implicitDefEqProofs only [c_container_heap_up, g_nil, g_skip, g_reg, g_regd, g_seq, g_block, g_end, g_cond, g_ret, g_exit, gx_nil, gx_c, gx_o, gx_d, gx_b, g_onil, g_dnil, g_op, g_opg, g_opd, g_opdg, condI, callvI, invI, plainI, opI, guardI, callvdI, invdI, plaindI, opdI, guarddI, opE, o1, o2, ix2, loadE, storeE, boxE, allLen, bslE, buildE, fits, fldE, ixsE, ixaE, ixvE, fldvE, lenE, lensE, srcE, appE, bnd2, bndL, bndH, bnd0, bndE, slcE, slcC, pickE, allocE, nilchkE, isNilSV, ibinE, ibin, ishfE, ishf, eqnilE, eqbE, notE, negE, cviE, mkslE, mxE, mnE, extE, isNilSl, isNilFn, isNilIf, isNilO, eqniloE, eqsF, eqsE, cellsEq, cellEq, sbinE, sbin, ifcOf, tasF, tasE, cellsSV, cellsAll, layO, mkEnv, lk, hget_zero, hget_succ, putE, uphO, uph, uphL, evX, rdsX, uIds, List.map_cons, List.map_nil, List.length_cons, List.length_nil, List.length_append, List.length_map, List.length_set, List.set_cons_zero, List.set_cons_succ, List.cons_append, List.nil_append, List.append_nil, List.getElem?_cons_zero, List.getElem?_cons_succ, List.getElem?_nil, List.take_succ_cons, List.take_zero, List.drop_succ_cons, List.drop_zero, List.drop_nil, List.take_nil, Option.getD_some, Option.getD_none, Option.map_some, Option.map_none, true_and, and_true, ↓reduceIte, Nat.reduceEqDiff, Nat.reduceAdd, Nat.reduceSub, Nat.reduceMul, Nat.reduceLeDiff, Nat.reduceLT, Nat.zero_add, Nat.add_zero, decide_eq_true_eq, Bool.false_eq_true, reduceCtorEq, rvs_len, rvs_get, rvs_fold, rvs_take, rvs_append, Int.toNat_natCast, bneTT, bneTF, bneFT, bneFF, Bool.not_true, Bool.not_false, splice0, slcaE, clrE, chunks]
  refine g_loop (ι := List Ent3 × Nat) (fun x => [(1, .rv (.int .i64 x.2)), (0, .ifc 154 (.ptr 0 0))]) (fun x => [some (.var [.row 1 v n]), some (.row 3 v (rvs (cellsL x.1)))]) (fun x => n ≤ x.1.length ∧ x.2 < n ∧ upF x.1 x.2 = upF es j) (fun x => x.2) (es, j) ⟨hn, hj, rfl⟩ (ent_env (by simp [lk])) (fun x hx K' hN hX hR => ?_)
  obtain ⟨fs, i⟩ := x
  obtain ⟨hn', hi', hu⟩ := hx
  dsimp only at hn' hi' hu ⊢
  have hq : IntKind.i64.wrap ((IntKind.i64.wrap ((i : Int) - 1)).tdiv 2) = (((i - 1) / 2 : Nat) : Int) := by
    rw [wrap_i64 (n := (i : Int) - 1) (by omega) (by omega)]
    by_cases h0 : i = 0
    · subst h0; decide
    · rw [show ((i : Int) - 1) = ((i - 1 : Nat) : Int) by omega, show ((2 : Int)) = ((2 : Nat) : Int) from rfl, ← Int.ofNat_tdiv, wrap_i64 (by omega) (by omega)]
  have fin : ∀ (e : List (Nat × SV)), upF fs i = fs → K' (.exit 0) ⟨e, [some (.var [.row 1 v n]), some (.row 3 v (rvs (cellsL fs)))]⟩ := fun e hf => by
    refine hX 0 _ _ ?_
    simp -implicitDefEqProofs only [g_nil, g_skip, g_reg, g_regd, g_seq, g_block, g_end, g_cond, g_ret, g_exit, gx_nil, gx_c, gx_o, gx_d, gx_b, g_onil, g_dnil, g_op, g_opg, g_opd, g_opdg, condI, callvI, invI, plainI, opI, guardI, callvdI, invdI, plaindI, opdI, guarddI, opE, o1, o2, ix2, loadE, storeE, boxE, allLen, bslE, buildE, fits, fldE, ixsE, ixaE, ixvE, fldvE, lenE, lensE, srcE, appE, bnd2, bndL, bndH, bnd0, bndE, slcE, slcC, pickE, allocE, nilchkE, isNilSV, ibinE, ibin, ishfE, ishf, eqnilE, eqbE, notE, negE, cviE, mkslE, mxE, mnE, extE, isNilSl, isNilFn, isNilIf, isNilO, eqniloE, eqsF, eqsE, cellsEq, cellEq, sbinE, sbin, ifcOf, tasF, tasE, cellsSV, cellsAll, layO, mkEnv, lk, hget_zero, hget_succ, putE, uphO, uph, uphL, evX, rdsX, uIds, List.map_cons, List.map_nil, List.length_cons, List.length_nil, List.length_append, List.length_map, List.length_set, List.set_cons_zero, List.set_cons_succ, List.cons_append, List.nil_append, List.append_nil, List.getElem?_cons_zero, List.getElem?_cons_succ, List.getElem?_nil, List.take_succ_cons, List.take_zero, List.drop_succ_cons, List.drop_zero, List.drop_nil, List.take_nil, Option.getD_some, Option.getD_none, Option.map_some, Option.map_none, true_and, and_true, ↓reduceIte, Nat.reduceEqDiff, Nat.reduceAdd, Nat.reduceSub, Nat.reduceMul, Nat.reduceLeDiff, Nat.reduceLT, Nat.zero_add, Nat.add_zero, decide_eq_true_eq, Bool.false_eq_true, reduceCtorEq, rvs_len, rvs_get, rvs_fold, rvs_take, rvs_append, Int.toNat_natCast, bneTT, bneTF, bneFT, bneFF, Bool.not_true, Bool.not_false, splice0, slcaE, clrE, chunks]
    refine g_noent ?_
    simp -implicitDefEqProofs only [g_nil, g_skip, g_reg, g_regd, g_seq, g_block, g_end, g_cond, g_ret, g_exit, gx_nil, gx_c, gx_o, gx_d, gx_b, g_onil, g_dnil, g_op, g_opg, g_opd, g_opdg, condI, callvI, invI, plainI, opI, guardI, callvdI, invdI, plaindI, opdI, guarddI, opE, o1, o2, ix2, loadE, storeE, boxE, allLen, bslE, buildE, fits, fldE, ixsE, ixaE, ixvE, fldvE, lenE, lensE, srcE, appE, bnd2, bndL, bndH, bnd0, bndE, slcE, slcC, pickE, allocE, nilchkE, isNilSV, ibinE, ibin, ishfE, ishf, eqnilE, eqbE, notE, negE, cviE, mkslE, mxE, mnE, extE, isNilSl, isNilFn, isNilIf, isNilO, eqniloE, eqsF, eqsE, cellsEq, cellEq, sbinE, sbin, ifcOf, tasF, tasE, cellsSV, cellsAll, layO, mkEnv, lk, hget_zero, hget_succ, putE, uphO, uph, uphL, evX, rdsX, uIds, List.map_cons, List.map_nil, List.length_cons, List.length_nil, List.length_append, List.length_map, List.length_set, List.set_cons_zero, List.set_cons_succ, List.cons_append, List.nil_append, List.append_nil, List.getElem?_cons_zero, List.getElem?_cons_succ, List.getElem?_nil, List.take_succ_cons, List.take_zero, List.drop_succ_cons, List.drop_zero, List.drop_nil, List.take_nil, Option.getD_some, Option.getD_none, Option.map_some, Option.map_none, true_and, and_true, ↓reduceIte, Nat.reduceEqDiff, Nat.reduceAdd, Nat.reduceSub, Nat.reduceMul, Nat.reduceLeDiff, Nat.reduceLT, Nat.zero_add, Nat.add_zero, decide_eq_true_eq, Bool.false_eq_true, reduceCtorEq, rvs_len, rvs_get, rvs_fold, rvs_take, rvs_append, Int.toNat_natCast, bneTT, bneTF, bneFT, bneFF, Bool.not_true, Bool.not_false, splice0, slcaE, clrE, chunks]
    refine (hK _ _ _ _ [] (ent_refl _ _) ?_).1
    rw [← hu, hf]
    simp [retM, nodupL, newL, allU, keptL, retP, resL, lk, resT, RnHo, lkp, finU, hget_zero, hget_succ, hget, rnRows_rvs, rn_tup, rn_rv, rn_row, rn_ptr, rn_ifc, rn_agg, rn_dead, RnAll, ofL, rnAll_map, hi, Ne.symm hi]
  by_cases h0 : i = 0
  · subst h0
    have he : ((((0 - 1) / 2 : Nat) : Int) == ((0 : Nat) : Int)) = true := by decide
    simp -implicitDefEqProofs only [hq, he, g_nil, g_skip, g_reg, g_regd, g_seq, g_block, g_end, g_cond, g_ret, g_exit, gx_nil, gx_c, gx_o, gx_d, gx_b, g_onil, g_dnil, g_op, g_opg, g_opd, g_opdg, condI, callvI, invI, plainI, opI, guardI, callvdI, invdI, plaindI, opdI, guarddI, opE, o1, o2, ix2, loadE, storeE, boxE, allLen, bslE, buildE, fits, fldE, ixsE, ixaE, ixvE, fldvE, lenE, lensE, srcE, appE, bnd2, bndL, bndH, bnd0, bndE, slcE, slcC, pickE, allocE, nilchkE, isNilSV, ibinE, ibin, ishfE, ishf, eqnilE, eqbE, notE, negE, cviE, mkslE, mxE, mnE, extE, isNilSl, isNilFn, isNilIf, isNilO, eqniloE, eqsF, eqsE, cellsEq, cellEq, sbinE, sbin, ifcOf, tasF, tasE, cellsSV, cellsAll, layO, mkEnv, lk, hget_zero, hget_succ, putE, uphO, uph, uphL, evX, rdsX, uIds, List.map_cons, List.map_nil, List.length_cons, List.length_nil, List.length_append, List.length_map, List.length_set, List.set_cons_zero, List.set_cons_succ, List.cons_append, List.nil_append, List.append_nil, List.getElem?_cons_zero, List.getElem?_cons_succ, List.getElem?_nil, List.take_succ_cons, List.take_zero, List.drop_succ_cons, List.drop_zero, List.drop_nil, List.take_nil, Option.getD_some, Option.getD_none, Option.map_some, Option.map_none, true_and, and_true, ↓reduceIte, Nat.reduceEqDiff, Nat.reduceAdd, Nat.reduceSub, Nat.reduceMul, Nat.reduceLeDiff, Nat.reduceLT, Nat.zero_add, Nat.add_zero, decide_eq_true_eq, Bool.false_eq_true, reduceCtorEq, rvs_len, rvs_get, rvs_fold, rvs_take, rvs_append, Int.toNat_natCast, bneTT, bneTF, bneFT, bneFF, Bool.not_true, Bool.not_false, splice0, slcaE, clrE, chunks]
    exact ⟨by decide, fin _ (by unfold upF; simp)⟩
  · have he : ((((i - 1) / 2 : Nat) : Int) == (i : Int)) = false := by simp; omega
    simp -implicitDefEqProofs only [hq, he, inv53Less, g_nil, g_skip, g_reg, g_regd, g_seq, g_block, g_end, g_cond, g_ret, g_exit, gx_nil, gx_c, gx_o, gx_d, gx_b, g_onil, g_dnil, g_op, g_opg, g_opd, g_opdg, condI, callvI, invI, plainI, opI, guardI, callvdI, invdI, plaindI, opdI, guarddI, opE, o1, o2, ix2, loadE, storeE, boxE, allLen, bslE, buildE, fits, fldE, ixsE, ixaE, ixvE, fldvE, lenE, lensE, srcE, appE, bnd2, bndL, bndH, bnd0, bndE, slcE, slcC, pickE, allocE, nilchkE, isNilSV, ibinE, ibin, ishfE, ishf, eqnilE, eqbE, notE, negE, cviE, mkslE, mxE, mnE, extE, isNilSl, isNilFn, isNilIf, isNilO, eqniloE, eqsF, eqsE, cellsEq, cellEq, sbinE, sbin, ifcOf, tasF, tasE, cellsSV, cellsAll, layO, mkEnv, lk, hget_zero, hget_succ, putE, uphO, uph, uphL, evX, rdsX, uIds, List.map_cons, List.map_nil, List.length_cons, List.length_nil, List.length_append, List.length_map, List.length_set, List.set_cons_zero, List.set_cons_succ, List.cons_append, List.nil_append, List.append_nil, List.getElem?_cons_zero, List.getElem?_cons_succ, List.getElem?_nil, List.take_succ_cons, List.take_zero, List.drop_succ_cons, List.drop_zero, List.drop_nil, List.take_nil, Option.getD_some, Option.getD_none, Option.map_some, Option.map_none, true_and, and_true, ↓reduceIte, Nat.reduceEqDiff, Nat.reduceAdd, Nat.reduceSub, Nat.reduceMul, Nat.reduceLeDiff, Nat.reduceLT, Nat.zero_add, Nat.add_zero, decide_eq_true_eq, Bool.false_eq_true, reduceCtorEq, rvs_len, rvs_get, rvs_fold, rvs_take, rvs_append, Int.toNat_natCast, bneTT, bneTF, bneFT, bneFF, Bool.not_true, Bool.not_false, splice0, slcaE, clrE, chunks]
    refine ⟨by decide, g_call (spLess 1 v n fs i ((i - 1) / 2) hn' hi' (by omega)) (pre1 rfl) trivial ?_⟩
    by_cases hc : cmpE (ga fs i) (ga fs ((i - 1) / 2)) < 0
    · simp -implicitDefEqProofs only [hc, decide_true, Bool.not_true, inv53Swap, g_nil, g_skip, g_reg, g_regd, g_seq, g_block, g_end, g_cond, g_ret, g_exit, gx_nil, gx_c, gx_o, gx_d, gx_b, g_onil, g_dnil, g_op, g_opg, g_opd, g_opdg, condI, callvI, invI, plainI, opI, guardI, callvdI, invdI, plaindI, opdI, guarddI, opE, o1, o2, ix2, loadE, storeE, boxE, allLen, bslE, buildE, fits, fldE, ixsE, ixaE, ixvE, fldvE, lenE, lensE, srcE, appE, bnd2, bndL, bndH, bnd0, bndE, slcE, slcC, pickE, allocE, nilchkE, isNilSV, ibinE, ibin, ishfE, ishf, eqnilE, eqbE, notE, negE, cviE, mkslE, mxE, mnE, extE, isNilSl, isNilFn, isNilIf, isNilO, eqniloE, eqsF, eqsE, cellsEq, cellEq, sbinE, sbin, ifcOf, tasF, tasE, cellsSV, cellsAll, layO, mkEnv, lk, hget_zero, hget_succ, putE, uphO, uph, uphL, evX, rdsX, uIds, List.map_cons, List.map_nil, List.length_cons, List.length_nil, List.length_append, List.length_map, List.length_set, List.set_cons_zero, List.set_cons_succ, List.cons_append, List.nil_append, List.append_nil, List.getElem?_cons_zero, List.getElem?_cons_succ, List.getElem?_nil, List.take_succ_cons, List.take_zero, List.drop_succ_cons, List.drop_zero, List.drop_nil, List.take_nil, Option.getD_some, Option.getD_none, Option.map_some, Option.map_none, true_and, and_true, ↓reduceIte, Nat.reduceEqDiff, Nat.reduceAdd, Nat.reduceSub, Nat.reduceMul, Nat.reduceLeDiff, Nat.reduceLT, Nat.zero_add, Nat.add_zero, decide_eq_true_eq, Bool.false_eq_true, reduceCtorEq, rvs_len, rvs_get, rvs_fold, rvs_take, rvs_append, Int.toNat_natCast, bneTT, bneTF, bneFT, bneFF, Bool.not_true, Bool.not_false, splice0, slcaE, clrE, chunks]
      refine g_call (spSwap 1 v n fs ((i - 1) / 2) i hn' (by omega) hi') (pre1 rfl) (okU1 rfl) ?_
      simp -implicitDefEqProofs only [g_nil, g_skip, g_reg, g_regd, g_seq, g_block, g_end, g_cond, g_ret, g_exit, gx_nil, gx_c, gx_o, gx_d, gx_b, g_onil, g_dnil, g_op, g_opg, g_opd, g_opdg, condI, callvI, invI, plainI, opI, guardI, callvdI, invdI, plaindI, opdI, guarddI, opE, o1, o2, ix2, loadE, storeE, boxE, allLen, bslE, buildE, fits, fldE, ixsE, ixaE, ixvE, fldvE, lenE, lensE, srcE, appE, bnd2, bndL, bndH, bnd0, bndE, slcE, slcC, pickE, allocE, nilchkE, isNilSV, ibinE, ibin, ishfE, ishf, eqnilE, eqbE, notE, negE, cviE, mkslE, mxE, mnE, extE, isNilSl, isNilFn, isNilIf, isNilO, eqniloE, eqsF, eqsE, cellsEq, cellEq, sbinE, sbin, ifcOf, tasF, tasE, cellsSV, cellsAll, layO, mkEnv, lk, hget_zero, hget_succ, putE, uphO, uph, uphL, evX, rdsX, uIds, List.map_cons, List.map_nil, List.length_cons, List.length_nil, List.length_append, List.length_map, List.length_set, List.set_cons_zero, List.set_cons_succ, List.cons_append, List.nil_append, List.append_nil, List.getElem?_cons_zero, List.getElem?_cons_succ, List.getElem?_nil, List.take_succ_cons, List.take_zero, List.drop_succ_cons, List.drop_zero, List.drop_nil, List.take_nil, Option.getD_some, Option.getD_none, Option.map_some, Option.map_none, true_and, and_true, ↓reduceIte, Nat.reduceEqDiff, Nat.reduceAdd, Nat.reduceSub, Nat.reduceMul, Nat.reduceLeDiff, Nat.reduceLT, Nat.zero_add, Nat.add_zero, decide_eq_true_eq, Bool.false_eq_true, reduceCtorEq, rvs_len, rvs_get, rvs_fold, rvs_take, rvs_append, Int.toNat_natCast, bneTT, bneTF, bneFT, bneFF, Bool.not_true, Bool.not_false, splice0, slcaE, clrE, chunks]
      refine g_noent ?_
      simp -implicitDefEqProofs only [g_nil, g_skip, g_reg, g_regd, g_seq, g_block, g_end, g_cond, g_ret, g_exit, gx_nil, gx_c, gx_o, gx_d, gx_b, g_onil, g_dnil, g_op, g_opg, g_opd, g_opdg, condI, callvI, invI, plainI, opI, guardI, callvdI, invdI, plaindI, opdI, guarddI, opE, o1, o2, ix2, loadE, storeE, boxE, allLen, bslE, buildE, fits, fldE, ixsE, ixaE, ixvE, fldvE, lenE, lensE, srcE, appE, bnd2, bndL, bndH, bnd0, bndE, slcE, slcC, pickE, allocE, nilchkE, isNilSV, ibinE, ibin, ishfE, ishf, eqnilE, eqbE, notE, negE, cviE, mkslE, mxE, mnE, extE, isNilSl, isNilFn, isNilIf, isNilO, eqniloE, eqsF, eqsE, cellsEq, cellEq, sbinE, sbin, ifcOf, tasF, tasE, cellsSV, cellsAll, layO, mkEnv, lk, hget_zero, hget_succ, putE, uphO, uph, uphL, evX, rdsX, uIds, List.map_cons, List.map_nil, List.length_cons, List.length_nil, List.length_append, List.length_map, List.length_set, List.set_cons_zero, List.set_cons_succ, List.cons_append, List.nil_append, List.append_nil, List.getElem?_cons_zero, List.getElem?_cons_succ, List.getElem?_nil, List.take_succ_cons, List.take_zero, List.drop_succ_cons, List.drop_zero, List.drop_nil, List.take_nil, Option.getD_some, Option.getD_none, Option.map_some, Option.map_none, true_and, and_true, ↓reduceIte, Nat.reduceEqDiff, Nat.reduceAdd, Nat.reduceSub, Nat.reduceMul, Nat.reduceLeDiff, Nat.reduceLT, Nat.zero_add, Nat.add_zero, decide_eq_true_eq, Bool.false_eq_true, reduceCtorEq, rvs_len, rvs_get, rvs_fold, rvs_take, rvs_append, Int.toNat_natCast, bneTT, bneTF, bneFT, bneFF, Bool.not_true, Bool.not_false, splice0, slcaE, clrE, chunks]
      refine hN (sw fs ((i - 1) / 2) i, (i - 1) / 2) _ _ ⟨by rw [sw_len]; exact hn', by dsimp only; omega, ?_⟩ (by dsimp only; omega) (ent_env (by simp [lk]))
      rw [← hu]
      conv => rhs; unfold upF
      simp [h0, hc]
    · simp -implicitDefEqProofs only [hc, decide_false, Bool.not_false, g_nil, g_skip, g_reg, g_regd, g_seq, g_block, g_end, g_cond, g_ret, g_exit, gx_nil, gx_c, gx_o, gx_d, gx_b, g_onil, g_dnil, g_op, g_opg, g_opd, g_opdg, condI, callvI, invI, plainI, opI, guardI, callvdI, invdI, plaindI, opdI, guarddI, opE, o1, o2, ix2, loadE, storeE, boxE, allLen, bslE, buildE, fits, fldE, ixsE, ixaE, ixvE, fldvE, lenE, lensE, srcE, appE, bnd2, bndL, bndH, bnd0, bndE, slcE, slcC, pickE, allocE, nilchkE, isNilSV, ibinE, ibin, ishfE, ishf, eqnilE, eqbE, notE, negE, cviE, mkslE, mxE, mnE, extE, isNilSl, isNilFn, isNilIf, isNilO, eqniloE, eqsF, eqsE, cellsEq, cellEq, sbinE, sbin, ifcOf, tasF, tasE, cellsSV, cellsAll, layO, mkEnv, lk, hget_zero, hget_succ, putE, uphO, uph, uphL, evX, rdsX, uIds, List.map_cons, List.map_nil, List.length_cons, List.length_nil, List.length_append, List.length_map, List.length_set, List.set_cons_zero, List.set_cons_succ, List.cons_append, List.nil_append, List.append_nil, List.getElem?_cons_zero, List.getElem?_cons_succ, List.getElem?_nil, List.take_succ_cons, List.take_zero, List.drop_succ_cons, List.drop_zero, List.drop_nil, List.take_nil, Option.getD_some, Option.getD_none, Option.map_some, Option.map_none, true_and, and_true, ↓reduceIte, Nat.reduceEqDiff, Nat.reduceAdd, Nat.reduceSub, Nat.reduceMul, Nat.reduceLeDiff, Nat.reduceLT, Nat.zero_add, Nat.add_zero, decide_eq_true_eq, Bool.false_eq_true, reduceCtorEq, rvs_len, rvs_get, rvs_fold, rvs_take, rvs_append, Int.toNat_natCast, bneTT, bneTF, bneFT, bneFF, Bool.not_true, Bool.not_false, splice0, slcaE, clrE, chunks]
      exact fin _ (by unfold upF; simp [h0, hc])

def pickJ (es : List Ent3) (i m : Nat) : Nat := if 2 * i + 2 < m ∧ cmpE (ga es (2 * i + 2)) (ga es (2 * i + 1)) < 0 then 2 * i + 2 else 2 * i + 1

theorem pickJ_gt (es : List Ent3) (i m : Nat) : i < pickJ es i m := by unfold pickJ; split <;> omega
theorem pickJ_lt (es : List Ent3) (i m : Nat) (h : 2 * i + 1 < m) : pickJ es i m < m := by unfold pickJ; split <;> omega

/-- down of the library's heap. -/
def downF (es : List Ent3) (i m : Nat) : List Ent3 :=
  if h : 2 * i + 1 < m then if cmpE (ga es (pickJ es i m)) (ga es i) < 0 then downF (sw es i (pickJ es i m)) (pickJ es i m) m else es else es
termination_by m - i
decreasing_by have := pickJ_gt es i m; omega

theorem downF_len (m : Nat) : ∀ (k i : Nat) (es : List Ent3), m - i = k → (downF es i m).length = es.length := by
  intro k
  induction k using Nat.strongRecOn with
  | _ k ih =>
    intro i es hk
    unfold downF
    split
    · split
      · have := pickJ_gt es i m
        rw [ih _ (by omega) _ _ rfl, sw_len]
      · rfl
    · rfl

theorem sp_container_heap_down (i0 i1 v n : Nat) (es : List Ent3) (s m : Nat) (hi : i0 ≠ i1) (hn : n ≤ es.length) (hm : m ≤ n) (hs : s ≤ m) (hb : n < 1000000) :
    CallR Go.Proofs.Try.prog 119 [.ifc 154 (.ptr i0 0), .rv (.int .i64 s), .rv (.int .i64 m)] [(i0, .var [.row i1 v n]), (i1, .row 3 v (rvs (cellsL es)))] [(i1, .row 3 v (rvs (cellsL (downF es s m))))] .dead := by
  refine callR_M k_container_heap_down [i0, i1] [.var [.row 1 v n], .row 3 v (rvs (cellsL es))] [.var [.row i1 v n], .row 3 v (rvs (cellsL es))] [.ifc 154 (.ptr 0 0), .rv (.int .i64 s), .rv (.int .i64 m)] [.ifc 154 (.ptr i0 0), .rv (.int .i64 s), .rv (.int .i64 m)] _ _ (by simp) (by simp [BkAll, bk_ptr, bk_row, bk_rv, bk_agg, bk_ifc, bk_fn, bk_tup, bk_dead, BkHs, rvs_inj, nodupL]) rfl (by simp [nodupL, hi]) (by simp [BkAll, bk_ptr, bk_row, bk_rv, bk_agg, bk_ifc, bk_fn, bk_tup, bk_dead, BkHs, rvs_inj, nodupL]) (fun K hK => ?_)
  simp -implicitDefEqProofs only [c_container_heap_down, g_nil, g_skip, g_reg, g_regd, g_seq, g_block, g_end, g_cond, g_ret, g_exit, gx_nil, gx_c, gx_o, gx_d, gx_b, g_onil, g_dnil, g_op, g_opg, g_opd, g_opdg, condI, callvI, invI, plainI, opI, guardI, callvdI, invdI, plaindI, opdI, guarddI, opE, o1, o2, ix2, loadE, storeE, boxE, allLen, bslE, buildE, fits, fldE, ixsE, ixaE, ixvE, fldvE, lenE, lensE, srcE, appE, bnd2, bndL, bndH, bnd0, bndE, slcE, slcC, pickE, allocE, nilchkE, isNilSV, ibinE, ibin, ishfE, ishf, eqnilE, eqbE, notE, negE, cviE, mkslE, mxE, mnE, extE, isNilSl, isNilFn, isNilIf, isNilO, eqniloE, eqsF, eqsE, cellsEq, cellEq, sbinE, sbin, ifcOf, tasF, tasE, cellsSV, cellsAll, layO, mkEnv, lk, hget_zero, hget_succ, putE, uphO, uph, uphL, evX, rdsX, uIds, List.map_cons, List.map_nil, List.length_cons, List.length_nil, List.length_append, List.length_map, List.length_set, List.set_cons_zero, List.set_cons_succ, List.cons_append, List.nil_append, List.append_nil, List.getElem?_cons_zero, List.getElem?_cons_succ, List.getElem?_nil, List.take_succ_cons, List.take_zero, List.drop_succ_cons, List.drop_zero, List.drop_nil, List.take_nil, Option.getD_some, Option.getD_none, Option.map_some, Option.map_none, true_and, and_true, ↓reduceIte, Nat.reduceEqDiff, Nat.reduceAdd, Nat.reduceSub, Nat.reduceMul, Nat.reduceLeDiff, Nat.reduceLT, Nat.zero_add, Nat.add_zero, decide_eq_true_eq, Bool.false_eq_true, reduceCtorEq, rvs_len, rvs_get, rvs_fold, rvs_take, rvs_append, Int.toNat_natCast, bneTT, bneTF, bneFT, bneFF, Bool.not_true, Bool.not_false, splice0, slcaE, clrE, chunks]
  refine g_loop (ι := List Ent3 × Nat) (fun x => [(7, .rv (.int .i64 x.2)), (0, .ifc 154 (.ptr 0 0)), (1, .rv (.int .i64 s)), (2, .rv (.int .i64 m))]) (fun x => [some (.var [.row 1 v n]), some (.row 3 v (rvs (cellsL x.1)))]) (fun x => n ≤ x.1.length ∧ x.2 ≤ m ∧ downF x.1 x.2 m = downF es s m) (fun x => m - x.2) (es, s) ⟨hn, hs, rfl⟩ (ent_env (by simp [lk])) (fun x hx K' hN hX hR => ?_)
  obtain ⟨fs, i⟩ := x
  obtain ⟨hn', hi', hu⟩ := hx
  dsimp only at hn' hi' hu ⊢
  have h1 : IntKind.i64.wrap (IntKind.i64.wrap (2 * (i : Int)) + 1) = ((2 * i + 1 : Nat) : Int) := by
    rw [wrap_i64 (n := 2 * (i : Int)) (by omega) (by omega), wrap_i64 (by omega) (by omega)]; omega
  have h2 : IntKind.i64.wrap (((2 * i + 1 : Nat) : Int) + 1) = ((2 * i + 2 : Nat) : Int) := by
    rw [wrap_i64 (by omega) (by omega)]; omega
  have fin : ∀ (e : List (Nat × SV)), downF fs i m = fs → lk e 7 = .rv (.int .i64 i) → lk e 1 = .rv (.int .i64 s) → K' (.exit 0) ⟨e, [some (.var [.row 1 v n]), some (.row 3 v (rvs (cellsL fs)))]⟩ := fun e hf l7 l1 => by
    refine hX 0 _ _ ?_
    simp -implicitDefEqProofs only [g_nil, g_skip, g_reg, g_regd, g_seq, g_block, g_end, g_cond, g_ret, g_exit, gx_nil, gx_c, gx_o, gx_d, gx_b, g_onil, g_dnil, g_op, g_opg, g_opd, g_opdg, condI, callvI, invI, plainI, opI, guardI, callvdI, invdI, plaindI, opdI, guarddI, opE, o1, o2, ix2, loadE, storeE, boxE, allLen, bslE, buildE, fits, fldE, ixsE, ixaE, ixvE, fldvE, lenE, lensE, srcE, appE, bnd2, bndL, bndH, bnd0, bndE, slcE, slcC, pickE, allocE, nilchkE, isNilSV, ibinE, ibin, ishfE, ishf, eqnilE, eqbE, notE, negE, cviE, mkslE, mxE, mnE, extE, isNilSl, isNilFn, isNilIf, isNilO, eqniloE, eqsF, eqsE, cellsEq, cellEq, sbinE, sbin, ifcOf, tasF, tasE, cellsSV, cellsAll, layO, mkEnv, lk, hget_zero, hget_succ, putE, uphO, uph, uphL, evX, rdsX, uIds, List.map_cons, List.map_nil, List.length_cons, List.length_nil, List.length_append, List.length_map, List.length_set, List.set_cons_zero, List.set_cons_succ, List.cons_append, List.nil_append, List.append_nil, List.getElem?_cons_zero, List.getElem?_cons_succ, List.getElem?_nil, List.take_succ_cons, List.take_zero, List.drop_succ_cons, List.drop_zero, List.drop_nil, List.take_nil, Option.getD_some, Option.getD_none, Option.map_some, Option.map_none, true_and, and_true, ↓reduceIte, Nat.reduceEqDiff, Nat.reduceAdd, Nat.reduceSub, Nat.reduceMul, Nat.reduceLeDiff, Nat.reduceLT, Nat.zero_add, Nat.add_zero, decide_eq_true_eq, Bool.false_eq_true, reduceCtorEq, rvs_len, rvs_get, rvs_fold, rvs_take, rvs_append, Int.toNat_natCast, bneTT, bneTF, bneFT, bneFF, Bool.not_true, Bool.not_false, splice0, slcaE, clrE, chunks]
    refine g_noent ?_
    simp -implicitDefEqProofs only [l7, l1, g_nil, g_skip, g_reg, g_regd, g_seq, g_block, g_end, g_cond, g_ret, g_exit, gx_nil, gx_c, gx_o, gx_d, gx_b, g_onil, g_dnil, g_op, g_opg, g_opd, g_opdg, condI, callvI, invI, plainI, opI, guardI, callvdI, invdI, plaindI, opdI, guarddI, opE, o1, o2, ix2, loadE, storeE, boxE, allLen, bslE, buildE, fits, fldE, ixsE, ixaE, ixvE, fldvE, lenE, lensE, srcE, appE, bnd2, bndL, bndH, bnd0, bndE, slcE, slcC, pickE, allocE, nilchkE, isNilSV, ibinE, ibin, ishfE, ishf, eqnilE, eqbE, notE, negE, cviE, mkslE, mxE, mnE, extE, isNilSl, isNilFn, isNilIf, isNilO, eqniloE, eqsF, eqsE, cellsEq, cellEq, sbinE, sbin, ifcOf, tasF, tasE, cellsSV, cellsAll, layO, mkEnv, lk, hget_zero, hget_succ, putE, uphO, uph, uphL, evX, rdsX, uIds, List.map_cons, List.map_nil, List.length_cons, List.length_nil, List.length_append, List.length_map, List.length_set, List.set_cons_zero, List.set_cons_succ, List.cons_append, List.nil_append, List.append_nil, List.getElem?_cons_zero, List.getElem?_cons_succ, List.getElem?_nil, List.take_succ_cons, List.take_zero, List.drop_succ_cons, List.drop_zero, List.drop_nil, List.take_nil, Option.getD_some, Option.getD_none, Option.map_some, Option.map_none, true_and, and_true, ↓reduceIte, Nat.reduceEqDiff, Nat.reduceAdd, Nat.reduceSub, Nat.reduceMul, Nat.reduceLeDiff, Nat.reduceLT, Nat.zero_add, Nat.add_zero, decide_eq_true_eq, Bool.false_eq_true, reduceCtorEq, rvs_len, rvs_get, rvs_fold, rvs_take, rvs_append, Int.toNat_natCast, bneTT, bneTF, bneFT, bneFF, Bool.not_true, Bool.not_false, splice0, slcaE, clrE, chunks]
    refine (hK _ _ _ _ [] (ent_refl _ _) ?_).2
    rw [← hu, hf]
    simp [retM, nodupL, newL, allU, keptL, retP, resL, lk, resT, RnHo, lkp, finU, hget_zero, hget_succ, hget, rnRows_rvs, rn_tup, rn_rv, rn_row, rn_ptr, rn_ifc, rn_agg, rn_dead, RnAll, ofL, rnAll_map, hi, Ne.symm hi]
  by_cases hc : 2 * i + 1 < m
  · have e1 : decide (((2 * i + 1 : Nat) : Int) ≥ (m : Int)) = false := by simp; omega
    have e2 : decide (((2 * i + 1 : Nat) : Int) < 0) = false := by simp; omega
    have hcs : (2 * i + 2 < m ∧ cmpE (ga fs (2 * i + 2)) (ga fs (2 * i + 1)) < 0 ∧ pickJ fs i m = 2 * i + 2) ∨ (2 * i + 2 < m ∧ ¬ cmpE (ga fs (2 * i + 2)) (ga fs (2 * i + 1)) < 0 ∧ pickJ fs i m = 2 * i + 1) ∨ (¬ 2 * i + 2 < m ∧ pickJ fs i m = 2 * i + 1) := by
      unfold pickJ
      by_cases ha : 2 * i + 2 < m <;> by_cases hb : cmpE (ga fs (2 * i + 2)) (ga fs (2 * i + 1)) < 0 <;> simp [ha, hb]
    have hj1 := pickJ_gt fs i m
    have hj2 := pickJ_lt fs i m hc
    rcases hcs with ⟨a, b, p⟩ | ⟨a, b, p⟩ | ⟨a, p⟩
    case' pos.inl =>
      have e3 : decide (((2 * i + 2 : Nat) : Int) < (m : Int)) = true := by simp; omega
      simp -implicitDefEqProofs only [h1, h2, e1, e2, e3, inv53Less, g_nil, g_skip, g_reg, g_regd, g_seq, g_block, g_end, g_cond, g_ret, g_exit, gx_nil, gx_c, gx_o, gx_d, gx_b, g_onil, g_dnil, g_op, g_opg, g_opd, g_opdg, condI, callvI, invI, plainI, opI, guardI, callvdI, invdI, plaindI, opdI, guarddI, opE, o1, o2, ix2, loadE, storeE, boxE, allLen, bslE, buildE, fits, fldE, ixsE, ixaE, ixvE, fldvE, lenE, lensE, srcE, appE, bnd2, bndL, bndH, bnd0, bndE, slcE, slcC, pickE, allocE, nilchkE, isNilSV, ibinE, ibin, ishfE, ishf, eqnilE, eqbE, notE, negE, cviE, mkslE, mxE, mnE, extE, isNilSl, isNilFn, isNilIf, isNilO, eqniloE, eqsF, eqsE, cellsEq, cellEq, sbinE, sbin, ifcOf, tasF, tasE, cellsSV, cellsAll, layO, mkEnv, lk, hget_zero, hget_succ, putE, uphO, uph, uphL, evX, rdsX, uIds, List.map_cons, List.map_nil, List.length_cons, List.length_nil, List.length_append, List.length_map, List.length_set, List.set_cons_zero, List.set_cons_succ, List.cons_append, List.nil_append, List.append_nil, List.getElem?_cons_zero, List.getElem?_cons_succ, List.getElem?_nil, List.take_succ_cons, List.take_zero, List.drop_succ_cons, List.drop_zero, List.drop_nil, List.take_nil, Option.getD_some, Option.getD_none, Option.map_some, Option.map_none, true_and, and_true, ↓reduceIte, Nat.reduceEqDiff, Nat.reduceAdd, Nat.reduceSub, Nat.reduceMul, Nat.reduceLeDiff, Nat.reduceLT, Nat.zero_add, Nat.add_zero, decide_eq_true_eq, Bool.false_eq_true, reduceCtorEq, rvs_len, rvs_get, rvs_fold, rvs_take, rvs_append, Int.toNat_natCast, bneTT, bneTF, bneFT, bneFF, Bool.not_true, Bool.not_false, splice0, slcaE, clrE, chunks]
      refine g_call (spLess 1 v n fs (2 * i + 2) (2 * i + 1) hn' (by omega) (by omega)) (pre1 rfl) trivial ?_
      simp -implicitDefEqProofs only [b, decide_true, g_nil, g_skip, g_reg, g_regd, g_seq, g_block, g_end, g_cond, g_ret, g_exit, gx_nil, gx_c, gx_o, gx_d, gx_b, g_onil, g_dnil, g_op, g_opg, g_opd, g_opdg, condI, callvI, invI, plainI, opI, guardI, callvdI, invdI, plaindI, opdI, guarddI, opE, o1, o2, ix2, loadE, storeE, boxE, allLen, bslE, buildE, fits, fldE, ixsE, ixaE, ixvE, fldvE, lenE, lensE, srcE, appE, bnd2, bndL, bndH, bnd0, bndE, slcE, slcC, pickE, allocE, nilchkE, isNilSV, ibinE, ibin, ishfE, ishf, eqnilE, eqbE, notE, negE, cviE, mkslE, mxE, mnE, extE, isNilSl, isNilFn, isNilIf, isNilO, eqniloE, eqsF, eqsE, cellsEq, cellEq, sbinE, sbin, ifcOf, tasF, tasE, cellsSV, cellsAll, layO, mkEnv, lk, hget_zero, hget_succ, putE, uphO, uph, uphL, evX, rdsX, uIds, List.map_cons, List.map_nil, List.length_cons, List.length_nil, List.length_append, List.length_map, List.length_set, List.set_cons_zero, List.set_cons_succ, List.cons_append, List.nil_append, List.append_nil, List.getElem?_cons_zero, List.getElem?_cons_succ, List.getElem?_nil, List.take_succ_cons, List.take_zero, List.drop_succ_cons, List.drop_zero, List.drop_nil, List.take_nil, Option.getD_some, Option.getD_none, Option.map_some, Option.map_none, true_and, and_true, ↓reduceIte, Nat.reduceEqDiff, Nat.reduceAdd, Nat.reduceSub, Nat.reduceMul, Nat.reduceLeDiff, Nat.reduceLT, Nat.zero_add, Nat.add_zero, decide_eq_true_eq, Bool.false_eq_true, reduceCtorEq, rvs_len, rvs_get, rvs_fold, rvs_take, rvs_append, Int.toNat_natCast, bneTT, bneTF, bneFT, bneFF, Bool.not_true, Bool.not_false, splice0, slcaE, clrE, chunks]
    case' pos.inr.inl =>
      have e3 : decide (((2 * i + 2 : Nat) : Int) < (m : Int)) = true := by simp; omega
      simp -implicitDefEqProofs only [h1, h2, e1, e2, e3, inv53Less, g_nil, g_skip, g_reg, g_regd, g_seq, g_block, g_end, g_cond, g_ret, g_exit, gx_nil, gx_c, gx_o, gx_d, gx_b, g_onil, g_dnil, g_op, g_opg, g_opd, g_opdg, condI, callvI, invI, plainI, opI, guardI, callvdI, invdI, plaindI, opdI, guarddI, opE, o1, o2, ix2, loadE, storeE, boxE, allLen, bslE, buildE, fits, fldE, ixsE, ixaE, ixvE, fldvE, lenE, lensE, srcE, appE, bnd2, bndL, bndH, bnd0, bndE, slcE, slcC, pickE, allocE, nilchkE, isNilSV, ibinE, ibin, ishfE, ishf, eqnilE, eqbE, notE, negE, cviE, mkslE, mxE, mnE, extE, isNilSl, isNilFn, isNilIf, isNilO, eqniloE, eqsF, eqsE, cellsEq, cellEq, sbinE, sbin, ifcOf, tasF, tasE, cellsSV, cellsAll, layO, mkEnv, lk, hget_zero, hget_succ, putE, uphO, uph, uphL, evX, rdsX, uIds, List.map_cons, List.map_nil, List.length_cons, List.length_nil, List.length_append, List.length_map, List.length_set, List.set_cons_zero, List.set_cons_succ, List.cons_append, List.nil_append, List.append_nil, List.getElem?_cons_zero, List.getElem?_cons_succ, List.getElem?_nil, List.take_succ_cons, List.take_zero, List.drop_succ_cons, List.drop_zero, List.drop_nil, List.take_nil, Option.getD_some, Option.getD_none, Option.map_some, Option.map_none, true_and, and_true, ↓reduceIte, Nat.reduceEqDiff, Nat.reduceAdd, Nat.reduceSub, Nat.reduceMul, Nat.reduceLeDiff, Nat.reduceLT, Nat.zero_add, Nat.add_zero, decide_eq_true_eq, Bool.false_eq_true, reduceCtorEq, rvs_len, rvs_get, rvs_fold, rvs_take, rvs_append, Int.toNat_natCast, bneTT, bneTF, bneFT, bneFF, Bool.not_true, Bool.not_false, splice0, slcaE, clrE, chunks]
      refine g_call (spLess 1 v n fs (2 * i + 2) (2 * i + 1) hn' (by omega) (by omega)) (pre1 rfl) trivial ?_
      simp -implicitDefEqProofs only [b, decide_false, g_nil, g_skip, g_reg, g_regd, g_seq, g_block, g_end, g_cond, g_ret, g_exit, gx_nil, gx_c, gx_o, gx_d, gx_b, g_onil, g_dnil, g_op, g_opg, g_opd, g_opdg, condI, callvI, invI, plainI, opI, guardI, callvdI, invdI, plaindI, opdI, guarddI, opE, o1, o2, ix2, loadE, storeE, boxE, allLen, bslE, buildE, fits, fldE, ixsE, ixaE, ixvE, fldvE, lenE, lensE, srcE, appE, bnd2, bndL, bndH, bnd0, bndE, slcE, slcC, pickE, allocE, nilchkE, isNilSV, ibinE, ibin, ishfE, ishf, eqnilE, eqbE, notE, negE, cviE, mkslE, mxE, mnE, extE, isNilSl, isNilFn, isNilIf, isNilO, eqniloE, eqsF, eqsE, cellsEq, cellEq, sbinE, sbin, ifcOf, tasF, tasE, cellsSV, cellsAll, layO, mkEnv, lk, hget_zero, hget_succ, putE, uphO, uph, uphL, evX, rdsX, uIds, List.map_cons, List.map_nil, List.length_cons, List.length_nil, List.length_append, List.length_map, List.length_set, List.set_cons_zero, List.set_cons_succ, List.cons_append, List.nil_append, List.append_nil, List.getElem?_cons_zero, List.getElem?_cons_succ, List.getElem?_nil, List.take_succ_cons, List.take_zero, List.drop_succ_cons, List.drop_zero, List.drop_nil, List.take_nil, Option.getD_some, Option.getD_none, Option.map_some, Option.map_none, true_and, and_true, ↓reduceIte, Nat.reduceEqDiff, Nat.reduceAdd, Nat.reduceSub, Nat.reduceMul, Nat.reduceLeDiff, Nat.reduceLT, Nat.zero_add, Nat.add_zero, decide_eq_true_eq, Bool.false_eq_true, reduceCtorEq, rvs_len, rvs_get, rvs_fold, rvs_take, rvs_append, Int.toNat_natCast, bneTT, bneTF, bneFT, bneFF, Bool.not_true, Bool.not_false, splice0, slcaE, clrE, chunks]
    case' pos.inr.inr =>
      have e3 : decide (((2 * i + 2 : Nat) : Int) < (m : Int)) = false := by simp; omega
      simp -implicitDefEqProofs only [h1, h2, e1, e2, e3, inv53Less, g_nil, g_skip, g_reg, g_regd, g_seq, g_block, g_end, g_cond, g_ret, g_exit, gx_nil, gx_c, gx_o, gx_d, gx_b, g_onil, g_dnil, g_op, g_opg, g_opd, g_opdg, condI, callvI, invI, plainI, opI, guardI, callvdI, invdI, plaindI, opdI, guarddI, opE, o1, o2, ix2, loadE, storeE, boxE, allLen, bslE, buildE, fits, fldE, ixsE, ixaE, ixvE, fldvE, lenE, lensE, srcE, appE, bnd2, bndL, bndH, bnd0, bndE, slcE, slcC, pickE, allocE, nilchkE, isNilSV, ibinE, ibin, ishfE, ishf, eqnilE, eqbE, notE, negE, cviE, mkslE, mxE, mnE, extE, isNilSl, isNilFn, isNilIf, isNilO, eqniloE, eqsF, eqsE, cellsEq, cellEq, sbinE, sbin, ifcOf, tasF, tasE, cellsSV, cellsAll, layO, mkEnv, lk, hget_zero, hget_succ, putE, uphO, uph, uphL, evX, rdsX, uIds, List.map_cons, List.map_nil, List.length_cons, List.length_nil, List.length_append, List.length_map, List.length_set, List.set_cons_zero, List.set_cons_succ, List.cons_append, List.nil_append, List.append_nil, List.getElem?_cons_zero, List.getElem?_cons_succ, List.getElem?_nil, List.take_succ_cons, List.take_zero, List.drop_succ_cons, List.drop_zero, List.drop_nil, List.take_nil, Option.getD_some, Option.getD_none, Option.map_some, Option.map_none, true_and, and_true, ↓reduceIte, Nat.reduceEqDiff, Nat.reduceAdd, Nat.reduceSub, Nat.reduceMul, Nat.reduceLeDiff, Nat.reduceLT, Nat.zero_add, Nat.add_zero, decide_eq_true_eq, Bool.false_eq_true, reduceCtorEq, rvs_len, rvs_get, rvs_fold, rvs_take, rvs_append, Int.toNat_natCast, bneTT, bneTF, bneFT, bneFF, Bool.not_true, Bool.not_false, splice0, slcaE, clrE, chunks]
    all_goals
      refine g_ent [(9, .rv (.int .i64 (pickJ fs i m : Nat))), (7, .rv (.int .i64 i)), (0, .ifc 154 (.ptr 0 0)), (1, .rv (.int .i64 s)), (2, .rv (.int .i64 m))] _ (ent_env (by simp [lk, p])) ?_
      simp -implicitDefEqProofs only [inv53Less, g_nil, g_skip, g_reg, g_regd, g_seq, g_block, g_end, g_cond, g_ret, g_exit, gx_nil, gx_c, gx_o, gx_d, gx_b, g_onil, g_dnil, g_op, g_opg, g_opd, g_opdg, condI, callvI, invI, plainI, opI, guardI, callvdI, invdI, plaindI, opdI, guarddI, opE, o1, o2, ix2, loadE, storeE, boxE, allLen, bslE, buildE, fits, fldE, ixsE, ixaE, ixvE, fldvE, lenE, lensE, srcE, appE, bnd2, bndL, bndH, bnd0, bndE, slcE, slcC, pickE, allocE, nilchkE, isNilSV, ibinE, ibin, ishfE, ishf, eqnilE, eqbE, notE, negE, cviE, mkslE, mxE, mnE, extE, isNilSl, isNilFn, isNilIf, isNilO, eqniloE, eqsF, eqsE, cellsEq, cellEq, sbinE, sbin, ifcOf, tasF, tasE, cellsSV, cellsAll, layO, mkEnv, lk, hget_zero, hget_succ, putE, uphO, uph, uphL, evX, rdsX, uIds, List.map_cons, List.map_nil, List.length_cons, List.length_nil, List.length_append, List.length_map, List.length_set, List.set_cons_zero, List.set_cons_succ, List.cons_append, List.nil_append, List.append_nil, List.getElem?_cons_zero, List.getElem?_cons_succ, List.getElem?_nil, List.take_succ_cons, List.take_zero, List.drop_succ_cons, List.drop_zero, List.drop_nil, List.take_nil, Option.getD_some, Option.getD_none, Option.map_some, Option.map_none, true_and, and_true, ↓reduceIte, Nat.reduceEqDiff, Nat.reduceAdd, Nat.reduceSub, Nat.reduceMul, Nat.reduceLeDiff, Nat.reduceLT, Nat.zero_add, Nat.add_zero, decide_eq_true_eq, Bool.false_eq_true, reduceCtorEq, rvs_len, rvs_get, rvs_fold, rvs_take, rvs_append, Int.toNat_natCast, bneTT, bneTF, bneFT, bneFF, Bool.not_true, Bool.not_false, splice0, slcaE, clrE, chunks]
      refine g_call (spLess 1 v n fs (pickJ fs i m) i hn' (by omega) (by omega)) (pre1 rfl) trivial ?_
      by_cases hd : cmpE (ga fs (pickJ fs i m)) (ga fs i) < 0
      · simp -implicitDefEqProofs only [hd, decide_true, Bool.not_true, inv53Swap, g_nil, g_skip, g_reg, g_regd, g_seq, g_block, g_end, g_cond, g_ret, g_exit, gx_nil, gx_c, gx_o, gx_d, gx_b, g_onil, g_dnil, g_op, g_opg, g_opd, g_opdg, condI, callvI, invI, plainI, opI, guardI, callvdI, invdI, plaindI, opdI, guarddI, opE, o1, o2, ix2, loadE, storeE, boxE, allLen, bslE, buildE, fits, fldE, ixsE, ixaE, ixvE, fldvE, lenE, lensE, srcE, appE, bnd2, bndL, bndH, bnd0, bndE, slcE, slcC, pickE, allocE, nilchkE, isNilSV, ibinE, ibin, ishfE, ishf, eqnilE, eqbE, notE, negE, cviE, mkslE, mxE, mnE, extE, isNilSl, isNilFn, isNilIf, isNilO, eqniloE, eqsF, eqsE, cellsEq, cellEq, sbinE, sbin, ifcOf, tasF, tasE, cellsSV, cellsAll, layO, mkEnv, lk, hget_zero, hget_succ, putE, uphO, uph, uphL, evX, rdsX, uIds, List.map_cons, List.map_nil, List.length_cons, List.length_nil, List.length_append, List.length_map, List.length_set, List.set_cons_zero, List.set_cons_succ, List.cons_append, List.nil_append, List.append_nil, List.getElem?_cons_zero, List.getElem?_cons_succ, List.getElem?_nil, List.take_succ_cons, List.take_zero, List.drop_succ_cons, List.drop_zero, List.drop_nil, List.take_nil, Option.getD_some, Option.getD_none, Option.map_some, Option.map_none, true_and, and_true, ↓reduceIte, Nat.reduceEqDiff, Nat.reduceAdd, Nat.reduceSub, Nat.reduceMul, Nat.reduceLeDiff, Nat.reduceLT, Nat.zero_add, Nat.add_zero, decide_eq_true_eq, Bool.false_eq_true, reduceCtorEq, rvs_len, rvs_get, rvs_fold, rvs_take, rvs_append, Int.toNat_natCast, bneTT, bneTF, bneFT, bneFF, Bool.not_true, Bool.not_false, splice0, slcaE, clrE, chunks]
        refine g_call (spSwap 1 v n fs i (pickJ fs i m) hn' (by omega) (by omega)) (pre1 rfl) (okU1 rfl) ?_
        simp -implicitDefEqProofs only [g_nil, g_skip, g_reg, g_regd, g_seq, g_block, g_end, g_cond, g_ret, g_exit, gx_nil, gx_c, gx_o, gx_d, gx_b, g_onil, g_dnil, g_op, g_opg, g_opd, g_opdg, condI, callvI, invI, plainI, opI, guardI, callvdI, invdI, plaindI, opdI, guarddI, opE, o1, o2, ix2, loadE, storeE, boxE, allLen, bslE, buildE, fits, fldE, ixsE, ixaE, ixvE, fldvE, lenE, lensE, srcE, appE, bnd2, bndL, bndH, bnd0, bndE, slcE, slcC, pickE, allocE, nilchkE, isNilSV, ibinE, ibin, ishfE, ishf, eqnilE, eqbE, notE, negE, cviE, mkslE, mxE, mnE, extE, isNilSl, isNilFn, isNilIf, isNilO, eqniloE, eqsF, eqsE, cellsEq, cellEq, sbinE, sbin, ifcOf, tasF, tasE, cellsSV, cellsAll, layO, mkEnv, lk, hget_zero, hget_succ, putE, uphO, uph, uphL, evX, rdsX, uIds, List.map_cons, List.map_nil, List.length_cons, List.length_nil, List.length_append, List.length_map, List.length_set, List.set_cons_zero, List.set_cons_succ, List.cons_append, List.nil_append, List.append_nil, List.getElem?_cons_zero, List.getElem?_cons_succ, List.getElem?_nil, List.take_succ_cons, List.take_zero, List.drop_succ_cons, List.drop_zero, List.drop_nil, List.take_nil, Option.getD_some, Option.getD_none, Option.map_some, Option.map_none, true_and, and_true, ↓reduceIte, Nat.reduceEqDiff, Nat.reduceAdd, Nat.reduceSub, Nat.reduceMul, Nat.reduceLeDiff, Nat.reduceLT, Nat.zero_add, Nat.add_zero, decide_eq_true_eq, Bool.false_eq_true, reduceCtorEq, rvs_len, rvs_get, rvs_fold, rvs_take, rvs_append, Int.toNat_natCast, bneTT, bneTF, bneFT, bneFF, Bool.not_true, Bool.not_false, splice0, slcaE, clrE, chunks]
        refine g_noent ?_
        simp -implicitDefEqProofs only [g_nil, g_skip, g_reg, g_regd, g_seq, g_block, g_end, g_cond, g_ret, g_exit, gx_nil, gx_c, gx_o, gx_d, gx_b, g_onil, g_dnil, g_op, g_opg, g_opd, g_opdg, condI, callvI, invI, plainI, opI, guardI, callvdI, invdI, plaindI, opdI, guarddI, opE, o1, o2, ix2, loadE, storeE, boxE, allLen, bslE, buildE, fits, fldE, ixsE, ixaE, ixvE, fldvE, lenE, lensE, srcE, appE, bnd2, bndL, bndH, bnd0, bndE, slcE, slcC, pickE, allocE, nilchkE, isNilSV, ibinE, ibin, ishfE, ishf, eqnilE, eqbE, notE, negE, cviE, mkslE, mxE, mnE, extE, isNilSl, isNilFn, isNilIf, isNilO, eqniloE, eqsF, eqsE, cellsEq, cellEq, sbinE, sbin, ifcOf, tasF, tasE, cellsSV, cellsAll, layO, mkEnv, lk, hget_zero, hget_succ, putE, uphO, uph, uphL, evX, rdsX, uIds, List.map_cons, List.map_nil, List.length_cons, List.length_nil, List.length_append, List.length_map, List.length_set, List.set_cons_zero, List.set_cons_succ, List.cons_append, List.nil_append, List.append_nil, List.getElem?_cons_zero, List.getElem?_cons_succ, List.getElem?_nil, List.take_succ_cons, List.take_zero, List.drop_succ_cons, List.drop_zero, List.drop_nil, List.take_nil, Option.getD_some, Option.getD_none, Option.map_some, Option.map_none, true_and, and_true, ↓reduceIte, Nat.reduceEqDiff, Nat.reduceAdd, Nat.reduceSub, Nat.reduceMul, Nat.reduceLeDiff, Nat.reduceLT, Nat.zero_add, Nat.add_zero, decide_eq_true_eq, Bool.false_eq_true, reduceCtorEq, rvs_len, rvs_get, rvs_fold, rvs_take, rvs_append, Int.toNat_natCast, bneTT, bneTF, bneFT, bneFF, Bool.not_true, Bool.not_false, splice0, slcaE, clrE, chunks]
        refine hN (sw fs i (pickJ fs i m), pickJ fs i m) _ _ ⟨by rw [sw_len]; exact hn', by dsimp only; omega, ?_⟩ (by dsimp only; omega) (ent_env (by simp [lk]))
        rw [← hu]
        conv => rhs; unfold downF
        simp [hc, hd]
      · simp -implicitDefEqProofs only [hd, decide_false, Bool.not_false, g_nil, g_skip, g_reg, g_regd, g_seq, g_block, g_end, g_cond, g_ret, g_exit, gx_nil, gx_c, gx_o, gx_d, gx_b, g_onil, g_dnil, g_op, g_opg, g_opd, g_opdg, condI, callvI, invI, plainI, opI, guardI, callvdI, invdI, plaindI, opdI, guarddI, opE, o1, o2, ix2, loadE, storeE, boxE, allLen, bslE, buildE, fits, fldE, ixsE, ixaE, ixvE, fldvE, lenE, lensE, srcE, appE, bnd2, bndL, bndH, bnd0, bndE, slcE, slcC, pickE, allocE, nilchkE, isNilSV, ibinE, ibin, ishfE, ishf, eqnilE, eqbE, notE, negE, cviE, mkslE, mxE, mnE, extE, isNilSl, isNilFn, isNilIf, isNilO, eqniloE, eqsF, eqsE, cellsEq, cellEq, sbinE, sbin, ifcOf, tasF, tasE, cellsSV, cellsAll, layO, mkEnv, lk, hget_zero, hget_succ, putE, uphO, uph, uphL, evX, rdsX, uIds, List.map_cons, List.map_nil, List.length_cons, List.length_nil, List.length_append, List.length_map, List.length_set, List.set_cons_zero, List.set_cons_succ, List.cons_append, List.nil_append, List.append_nil, List.getElem?_cons_zero, List.getElem?_cons_succ, List.getElem?_nil, List.take_succ_cons, List.take_zero, List.drop_succ_cons, List.drop_zero, List.drop_nil, List.take_nil, Option.getD_some, Option.getD_none, Option.map_some, Option.map_none, true_and, and_true, ↓reduceIte, Nat.reduceEqDiff, Nat.reduceAdd, Nat.reduceSub, Nat.reduceMul, Nat.reduceLeDiff, Nat.reduceLT, Nat.zero_add, Nat.add_zero, decide_eq_true_eq, Bool.false_eq_true, reduceCtorEq, rvs_len, rvs_get, rvs_fold, rvs_take, rvs_append, Int.toNat_natCast, bneTT, bneTF, bneFT, bneFF, Bool.not_true, Bool.not_false, splice0, slcaE, clrE, chunks]
        exact fin _ (by unfold downF; simp [hc, hd]) (by simp [lk]) (by simp [lk])
  · have e1 : decide (((2 * i + 1 : Nat) : Int) ≥ (m : Int)) = true := by simp; omega
    simp -implicitDefEqProofs only [h1, e1, g_nil, g_skip, g_reg, g_regd, g_seq, g_block, g_end, g_cond, g_ret, g_exit, gx_nil, gx_c, gx_o, gx_d, gx_b, g_onil, g_dnil, g_op, g_opg, g_opd, g_opdg, condI, callvI, invI, plainI, opI, guardI, callvdI, invdI, plaindI, opdI, guarddI, opE, o1, o2, ix2, loadE, storeE, boxE, allLen, bslE, buildE, fits, fldE, ixsE, ixaE, ixvE, fldvE, lenE, lensE, srcE, appE, bnd2, bndL, bndH, bnd0, bndE, slcE, slcC, pickE, allocE, nilchkE, isNilSV, ibinE, ibin, ishfE, ishf, eqnilE, eqbE, notE, negE, cviE, mkslE, mxE, mnE, extE, isNilSl, isNilFn, isNilIf, isNilO, eqniloE, eqsF, eqsE, cellsEq, cellEq, sbinE, sbin, ifcOf, tasF, tasE, cellsSV, cellsAll, layO, mkEnv, lk, hget_zero, hget_succ, putE, uphO, uph, uphL, evX, rdsX, uIds, List.map_cons, List.map_nil, List.length_cons, List.length_nil, List.length_append, List.length_map, List.length_set, List.set_cons_zero, List.set_cons_succ, List.cons_append, List.nil_append, List.append_nil, List.getElem?_cons_zero, List.getElem?_cons_succ, List.getElem?_nil, List.take_succ_cons, List.take_zero, List.drop_succ_cons, List.drop_zero, List.drop_nil, List.take_nil, Option.getD_some, Option.getD_none, Option.map_some, Option.map_none, true_and, and_true, ↓reduceIte, Nat.reduceEqDiff, Nat.reduceAdd, Nat.reduceSub, Nat.reduceMul, Nat.reduceLeDiff, Nat.reduceLT, Nat.zero_add, Nat.add_zero, decide_eq_true_eq, Bool.false_eq_true, reduceCtorEq, rvs_len, rvs_get, rvs_fold, rvs_take, rvs_append, Int.toNat_natCast, bneTT, bneTF, bneFT, bneFF, Bool.not_true, Bool.not_false, splice0, slcaE, clrE, chunks]
    exact fin _ (by unfold downF; simp [hc]) (by simp [lk]) (by simp [lk])
end Go.Eng


/- agenda: what is added and taken. -/
namespace Go.Eng
open Go
/- (*decoupage/agenda.Agenda).Add -/
def c_agenda_Agenda_Add : AC := (.seq (.reg [⟨(some 3), .box, [(.t 1)], none⟩]) (.seq (.reg [⟨(some 4), .mv, [(.t 0)], none⟩, ⟨(some 5), (.eqnil true), [(.t 4)], none⟩]) (.seq (.cond (.t 5) (.regd [0, 1, 3, 7, 0, 16, 63] [⟨(some 6), .mv, [(.t 0)], none⟩, ⟨(some 7), .nilchk, [(.t 6)], none⟩, ⟨(some 8), (.fld 0), [(.t 7)], none⟩, ⟨(some 9), (.mkif 154), [(.t 8)], none⟩, ⟨(some 10), (.load 3 true), [(.t 3)], none⟩, ⟨(some 11), (.mkif 138), [(.t 10)], none⟩, ⟨(some 12), (.call 111), [(.t 9), (.t 11)], none⟩]) .skip) .ent)))
theorem k_agenda_Agenda_Add : FnOK Go.Proofs.Try.prog 93 13 c_agenda_Agenda_Add [] := fnOK_of (by kernel_rfl)

/- (*decoupage/agenda.Agenda).Next -/
def c_agenda_Agenda_Next : AC := (.seq (.reg [⟨(some 2), (.alloc [(.int .i64 0), (.int .i64 0), (.int .i64 0)]), [], none⟩, ⟨(some 3), .mv, [(.c (.rv (.bool false)))], none⟩]) (.seq (.seq (.reg [⟨(some 6), .mv, [(.t 0)], none⟩, ⟨(some 7), (.eqnil false), [(.t 6)], none⟩, ⟨(some 8), .mv, [(.t 7)], none⟩, ⟨(some 9), .mv, [(.t 0)], (some (8, false))⟩, ⟨(some 10), .nilchk, [(.t 9)], (some (8, false))⟩, ⟨(some 11), (.fld 0), [(.t 10)], (some (8, false))⟩, ⟨(some 12), (.load 1 false), [(.t 11)], (some (8, false))⟩, ⟨(some 13), .len, [(.t 12)], (some (8, false))⟩, ⟨(some 14), (.ibin .eql), [(.t 13), (.c (.rv (.int .i64 0)))], (some (8, false))⟩, ⟨(some 15), .pick, [(.t 8), (.c (.rv (.bool true))), (.t 14)], none⟩]) (.cond (.t 15) (.seq (.reg [⟨(some 16), (.build [(.int .i64 0), (.int .i64 0), (.int .i64 0)] []), [], none⟩, ⟨none, (.store 3), [(.t 2), (.t 16)], none⟩, ⟨(some 3), .mv, [(.c (.rv (.bool false)))], none⟩]) .ret) .skip)) (.seq (.reg [⟨(some 18), .mv, [(.t 0)], none⟩, ⟨(some 19), .nilchk, [(.t 18)], none⟩, ⟨(some 20), (.fld 0), [(.t 19)], none⟩, ⟨(some 21), (.mkif 154), [(.t 20)], none⟩, ⟨(some 22), (.call 113), [(.t 21)], none⟩, ⟨(some 23), (.tas 138 true), [(.t 22)], none⟩, ⟨(some 17), .mv, [(.t 23)], none⟩, ⟨(some 24), (.ext 0), [(.t 17)], none⟩, ⟨(some 25), (.ext 1), [(.t 17)], none⟩, ⟨(some 4), (.alloc [(.int .i64 0), (.int .i64 0), (.int .i64 0)]), [], none⟩, ⟨none, (.store 3), [(.t 4), (.t 24)], none⟩, ⟨(some 5), .mv, [(.t 25)], none⟩]) (.seq (.reg [⟨(some 26), (.load 3 true), [(.t 4)], none⟩, ⟨(some 27), .mv, [(.t 5)], none⟩, ⟨none, (.store 3), [(.t 2), (.t 26)], none⟩, ⟨(some 3), .mv, [(.t 27)], none⟩]) .ret))))
theorem k_agenda_Agenda_Next : FnOK Go.Proofs.Try.prog 96 28 c_agenda_Agenda_Next [(.c 2 3 true), (.t 3)] := fnOK_of (by kernel_rfl)

/- (*decoupage/agenda.Agenda).Peek -/
def c_agenda_Agenda_Peek : AC := (.seq (.reg [⟨(some 2), (.alloc [(.int .i64 0), (.int .i64 0), (.int .i64 0)]), [], none⟩, ⟨(some 3), .mv, [(.c (.rv (.bool false)))], none⟩]) (.seq (.seq (.reg [⟨(some 4), .mv, [(.t 0)], none⟩, ⟨(some 5), (.eqnil false), [(.t 4)], none⟩, ⟨(some 6), .mv, [(.t 5)], none⟩, ⟨(some 7), .mv, [(.t 0)], (some (6, false))⟩, ⟨(some 8), .nilchk, [(.t 7)], (some (6, false))⟩, ⟨(some 9), (.fld 0), [(.t 8)], (some (6, false))⟩, ⟨(some 10), (.load 1 false), [(.t 9)], (some (6, false))⟩, ⟨(some 11), .len, [(.t 10)], (some (6, false))⟩, ⟨(some 12), (.ibin .eql), [(.t 11), (.c (.rv (.int .i64 0)))], (some (6, false))⟩, ⟨(some 13), .pick, [(.t 6), (.c (.rv (.bool true))), (.t 12)], none⟩]) (.cond (.t 13) (.seq (.reg [⟨(some 14), (.build [(.int .i64 0), (.int .i64 0), (.int .i64 0)] []), [], none⟩, ⟨none, (.store 3), [(.t 2), (.t 14)], none⟩, ⟨(some 3), .mv, [(.c (.rv (.bool false)))], none⟩]) .ret) .skip)) (.seq (.reg [⟨(some 15), .mv, [(.t 0)], none⟩, ⟨(some 16), .nilchk, [(.t 15)], none⟩, ⟨(some 17), (.fld 0), [(.t 16)], none⟩, ⟨(some 18), (.load 1 false), [(.t 17)], none⟩, ⟨(some 19), (.ixs 3), [(.t 18), (.c (.rv (.int .i64 0)))], none⟩, ⟨(some 20), (.load 3 true), [(.t 19)], none⟩, ⟨none, (.store 3), [(.t 2), (.t 20)], none⟩, ⟨(some 3), .mv, [(.c (.rv (.bool true)))], none⟩]) .ret)))
theorem k_agenda_Agenda_Peek : FnOK Go.Proofs.Try.prog 95 21 c_agenda_Agenda_Peek [(.c 2 3 true), (.t 3)] := fnOK_of (by kernel_rfl)

theorem okU2 {h : List (Option HB)} {a b : Nat} {x y x' y' : HB} {pre : List (Nat × HB)} (ha : hget h a = some x) (hb : hget h b = some y) (hm : (a, x) ∈ pre := by simp) (hm' : (b, y) ∈ pre := by simp) : okU pre h [(a, x'), (b, y')] := by
  have lt : ∀ {i : Nat} {z : HB}, hget h i = some z → i < h.length := fun {i z} hg => by
    unfold hget at hg
    cases hl : h[i]? with
    | none => simp [hl] at hg
    | some z => exact (List.getElem?_eq_some_iff.1 hl).1
  refine ⟨.inr ⟨lt ha, x, hm⟩, .inr ⟨?_, y, hm'⟩, trivial⟩
  have := uph_length h (a, x')
  have := lt hb
  omega

def pushF (es : List Ent3) (n : Nat) (e : Ent3) : List Ent3 := upF (es.take n ++ [e]) n
def popF (es : List Ent3) (n : Nat) : List Ent3 := downF (sw es 0 (n - 1)) 0 (n - 1)

theorem sp_container_heap_Push (i0 i1 v n : Nat) (es : List Ent3) (e : Ent3) (hi : i0 ≠ i1) (hn : n ≤ es.length) (hb : n < 100000) :
    CallR Go.Proofs.Try.prog 111 [.ifc 154 (.ptr i0 0), .ifc 138 e.sv] [(i0, .var [.row i1 v n]), (i1, .row 3 v (rvs (cellsL es)))] [(i0, .var [.row i1 (v + 1) (n + 1)]), (i1, .row 3 (v + 1) (rvs (cellsL (pushF es n e))))] (.tup []) := by
  refine callR_M k_container_heap_Push [i0, i1] [.var [.row 1 v n], .row 3 v (rvs (cellsL es))] [.var [.row i1 v n], .row 3 v (rvs (cellsL es))] [.ifc 154 (.ptr 0 0), .ifc 138 e.sv] [.ifc 154 (.ptr i0 0), .ifc 138 e.sv] _ _ (by simp) (by simp [BkAll, bk_ptr, bk_row, bk_rv, bk_agg, bk_ifc, bk_fn, bk_tup, bk_dead, BkHs, rvs_inj, nodupL, Ent3.sv]) rfl (by simp [nodupL, hi]) (by simp [BkAll, bk_ptr, bk_row, bk_rv, bk_agg, bk_ifc, bk_fn, bk_tup, bk_dead, BkHs, rvs_inj, nodupL]) (fun K hK => ?_)
  simp -implicitDefEqProofs only [c_container_heap_Push, inv53Push, g_nil, g_skip, g_reg, g_regd, g_seq, g_block, g_end, g_cond, g_ret, g_exit, gx_nil, gx_c, gx_o, gx_d, gx_b, g_onil, g_dnil, g_op, g_opg, g_opd, g_opdg, condI, callvI, invI, plainI, opI, guardI, callvdI, invdI, plaindI, opdI, guarddI, opE, o1, o2, ix2, loadE, storeE, boxE, allLen, bslE, buildE, fits, fldE, ixsE, ixaE, ixvE, fldvE, lenE, lensE, srcE, appE, bnd2, bndL, bndH, bnd0, bndE, slcE, slcC, pickE, allocE, nilchkE, isNilSV, ibinE, ibin, ishfE, ishf, eqnilE, eqbE, notE, negE, cviE, mkslE, mxE, mnE, extE, isNilSl, isNilFn, isNilIf, isNilO, eqniloE, eqsF, eqsE, cellsEq, cellEq, sbinE, sbin, ifcOf, tasF, tasE, cellsSV, cellsAll, layO, mkEnv, lk, hget_zero, hget_succ, putE, uphO, uph, uphL, evX, rdsX, uIds, List.map_cons, List.map_nil, List.length_cons, List.length_nil, List.length_append, List.length_map, List.length_set, List.set_cons_zero, List.set_cons_succ, List.cons_append, List.nil_append, List.append_nil, List.getElem?_cons_zero, List.getElem?_cons_succ, List.getElem?_nil, List.take_succ_cons, List.take_zero, List.drop_succ_cons, List.drop_zero, List.drop_nil, List.take_nil, Option.getD_some, Option.getD_none, Option.map_some, Option.map_none, true_and, and_true, ↓reduceIte, Nat.reduceEqDiff, Nat.reduceAdd, Nat.reduceSub, Nat.reduceMul, Nat.reduceLeDiff, Nat.reduceLT, Nat.zero_add, Nat.add_zero, decide_eq_true_eq, Bool.false_eq_true, reduceCtorEq, rvs_len, rvs_get, rvs_fold, rvs_take, rvs_append, Int.toNat_natCast, bneTT, bneTF, bneFT, bneFF, Bool.not_true, Bool.not_false, splice0, slcaE, clrE, chunks]
  refine g_call (sp_agenda_pile_Push 0 1 v n es e (by decide) hn (by omega)) (pre2 rfl rfl) (okU2 rfl rfl) ?_
  simp -implicitDefEqProofs only [inv53Len, g_nil, g_skip, g_reg, g_regd, g_seq, g_block, g_end, g_cond, g_ret, g_exit, gx_nil, gx_c, gx_o, gx_d, gx_b, g_onil, g_dnil, g_op, g_opg, g_opd, g_opdg, condI, callvI, invI, plainI, opI, guardI, callvdI, invdI, plaindI, opdI, guarddI, opE, o1, o2, ix2, loadE, storeE, boxE, allLen, bslE, buildE, fits, fldE, ixsE, ixaE, ixvE, fldvE, lenE, lensE, srcE, appE, bnd2, bndL, bndH, bnd0, bndE, slcE, slcC, pickE, allocE, nilchkE, isNilSV, ibinE, ibin, ishfE, ishf, eqnilE, eqbE, notE, negE, cviE, mkslE, mxE, mnE, extE, isNilSl, isNilFn, isNilIf, isNilO, eqniloE, eqsF, eqsE, cellsEq, cellEq, sbinE, sbin, ifcOf, tasF, tasE, cellsSV, cellsAll, layO, mkEnv, lk, hget_zero, hget_succ, putE, uphO, uph, uphL, evX, rdsX, uIds, List.map_cons, List.map_nil, List.length_cons, List.length_nil, List.length_append, List.length_map, List.length_set, List.set_cons_zero, List.set_cons_succ, List.cons_append, List.nil_append, List.append_nil, List.getElem?_cons_zero, List.getElem?_cons_succ, List.getElem?_nil, List.take_succ_cons, List.take_zero, List.drop_succ_cons, List.drop_zero, List.drop_nil, List.take_nil, Option.getD_some, Option.getD_none, Option.map_some, Option.map_none, true_and, and_true, ↓reduceIte, Nat.reduceEqDiff, Nat.reduceAdd, Nat.reduceSub, Nat.reduceMul, Nat.reduceLeDiff, Nat.reduceLT, Nat.zero_add, Nat.add_zero, decide_eq_true_eq, Bool.false_eq_true, reduceCtorEq, rvs_len, rvs_get, rvs_fold, rvs_take, rvs_append, Int.toNat_natCast, bneTT, bneTF, bneFT, bneFF, Bool.not_true, Bool.not_false, splice0, slcaE, clrE, chunks]
  refine g_call (sp_agenda_pile_Len 1 (v + 1) (n + 1) _) (pre1 rfl) trivial ?_
  have hw : IntKind.i64.wrap (((n + 1 : Nat) : Int) - 1) = ((n : Nat) : Int) := by rw [wrap_i64 (by omega) (by omega)]; omega
  simp -implicitDefEqProofs only [hw, g_nil, g_skip, g_reg, g_regd, g_seq, g_block, g_end, g_cond, g_ret, g_exit, gx_nil, gx_c, gx_o, gx_d, gx_b, g_onil, g_dnil, g_op, g_opg, g_opd, g_opdg, condI, callvI, invI, plainI, opI, guardI, callvdI, invdI, plaindI, opdI, guarddI, opE, o1, o2, ix2, loadE, storeE, boxE, allLen, bslE, buildE, fits, fldE, ixsE, ixaE, ixvE, fldvE, lenE, lensE, srcE, appE, bnd2, bndL, bndH, bnd0, bndE, slcE, slcC, pickE, allocE, nilchkE, isNilSV, ibinE, ibin, ishfE, ishf, eqnilE, eqbE, notE, negE, cviE, mkslE, mxE, mnE, extE, isNilSl, isNilFn, isNilIf, isNilO, eqniloE, eqsF, eqsE, cellsEq, cellEq, sbinE, sbin, ifcOf, tasF, tasE, cellsSV, cellsAll, layO, mkEnv, lk, hget_zero, hget_succ, putE, uphO, uph, uphL, evX, rdsX, uIds, List.map_cons, List.map_nil, List.length_cons, List.length_nil, List.length_append, List.length_map, List.length_set, List.set_cons_zero, List.set_cons_succ, List.cons_append, List.nil_append, List.append_nil, List.getElem?_cons_zero, List.getElem?_cons_succ, List.getElem?_nil, List.take_succ_cons, List.take_zero, List.drop_succ_cons, List.drop_zero, List.drop_nil, List.take_nil, Option.getD_some, Option.getD_none, Option.map_some, Option.map_none, true_and, and_true, ↓reduceIte, Nat.reduceEqDiff, Nat.reduceAdd, Nat.reduceSub, Nat.reduceMul, Nat.reduceLeDiff, Nat.reduceLT, Nat.zero_add, Nat.add_zero, decide_eq_true_eq, Bool.false_eq_true, reduceCtorEq, rvs_len, rvs_get, rvs_fold, rvs_take, rvs_append, Int.toNat_natCast, bneTT, bneTF, bneFT, bneFF, Bool.not_true, Bool.not_false, splice0, slcaE, clrE, chunks]
  refine g_call (sp_container_heap_up 0 1 (v + 1) (n + 1) (es.take n ++ [e]) n (by decide) (by simp; omega) (by omega) (by omega)) (pre2 rfl rfl) (okU1 rfl) ?_
  simp -implicitDefEqProofs only [g_nil, g_skip, g_reg, g_regd, g_seq, g_block, g_end, g_cond, g_ret, g_exit, gx_nil, gx_c, gx_o, gx_d, gx_b, g_onil, g_dnil, g_op, g_opg, g_opd, g_opdg, condI, callvI, invI, plainI, opI, guardI, callvdI, invdI, plaindI, opdI, guarddI, opE, o1, o2, ix2, loadE, storeE, boxE, allLen, bslE, buildE, fits, fldE, ixsE, ixaE, ixvE, fldvE, lenE, lensE, srcE, appE, bnd2, bndL, bndH, bnd0, bndE, slcE, slcC, pickE, allocE, nilchkE, isNilSV, ibinE, ibin, ishfE, ishf, eqnilE, eqbE, notE, negE, cviE, mkslE, mxE, mnE, extE, isNilSl, isNilFn, isNilIf, isNilO, eqniloE, eqsF, eqsE, cellsEq, cellEq, sbinE, sbin, ifcOf, tasF, tasE, cellsSV, cellsAll, layO, mkEnv, lk, hget_zero, hget_succ, putE, uphO, uph, uphL, evX, rdsX, uIds, List.map_cons, List.map_nil, List.length_cons, List.length_nil, List.length_append, List.length_map, List.length_set, List.set_cons_zero, List.set_cons_succ, List.cons_append, List.nil_append, List.append_nil, List.getElem?_cons_zero, List.getElem?_cons_succ, List.getElem?_nil, List.take_succ_cons, List.take_zero, List.drop_succ_cons, List.drop_zero, List.drop_nil, List.take_nil, Option.getD_some, Option.getD_none, Option.map_some, Option.map_none, true_and, and_true, ↓reduceIte, Nat.reduceEqDiff, Nat.reduceAdd, Nat.reduceSub, Nat.reduceMul, Nat.reduceLeDiff, Nat.reduceLT, Nat.zero_add, Nat.add_zero, decide_eq_true_eq, Bool.false_eq_true, reduceCtorEq, rvs_len, rvs_get, rvs_fold, rvs_take, rvs_append, Int.toNat_natCast, bneTT, bneTF, bneFT, bneFF, Bool.not_true, Bool.not_false, splice0, slcaE, clrE, chunks]
  refine (hK _ _ _ _ [] (ent_refl _ _) ?_).1
  simp [retM, nodupL, newL, allU, keptL, retP, resL, lk, resT, RnHo, lkp, finU, hget_zero, hget_succ, hget, rnRows_rvs, rn_tup, rn_rv, rn_row, rn_ptr, rn_ifc, rn_agg, rn_dead, RnAll, ofL, rnAll_map, hi, Ne.symm hi, pushF]

theorem sp_container_heap_Pop (i0 i1 v n : Nat) (es : List Ent3) (hi : i0 ≠ i1) (hn : n ≤ es.length) (h0 : 0 < n) (hb : n < 100000) :
    CallR Go.Proofs.Try.prog 113 [.ifc 154 (.ptr i0 0)] [(i0, .var [.row i1 v n]), (i1, .row 3 v (rvs (cellsL es)))] [(i0, .var [.row i1 v (n - 1)]), (i1, .row 3 v (rvs (cellsL (popF es n))))] (.ifc 138 (ga (popF es n) (n - 1)).sv) := by
  refine callR_M k_container_heap_Pop [i0, i1] [.var [.row 1 v n], .row 3 v (rvs (cellsL es))] [.var [.row i1 v n], .row 3 v (rvs (cellsL es))] [.ifc 154 (.ptr 0 0)] [.ifc 154 (.ptr i0 0)] _ _ (by simp) (by simp [BkAll, bk_ptr, bk_row, bk_rv, bk_agg, bk_ifc, bk_fn, bk_tup, bk_dead, BkHs, rvs_inj, nodupL]) rfl (by simp [nodupL, hi]) (by simp [BkAll, bk_ptr, bk_row, bk_rv, bk_agg, bk_ifc, bk_fn, bk_tup, bk_dead, BkHs, rvs_inj, nodupL]) (fun K hK => ?_)
  have hw : IntKind.i64.wrap ((n : Int) - 1) = ((n - 1 : Nat) : Int) := by rw [wrap_i64 (by omega) (by omega)]; omega
  simp -implicitDefEqProofs only [c_container_heap_Pop, inv53Len, g_nil, g_skip, g_reg, g_regd, g_seq, g_block, g_end, g_cond, g_ret, g_exit, gx_nil, gx_c, gx_o, gx_d, gx_b, g_onil, g_dnil, g_op, g_opg, g_opd, g_opdg, condI, callvI, invI, plainI, opI, guardI, callvdI, invdI, plaindI, opdI, guarddI, opE, o1, o2, ix2, loadE, storeE, boxE, allLen, bslE, buildE, fits, fldE, ixsE, ixaE, ixvE, fldvE, lenE, lensE, srcE, appE, bnd2, bndL, bndH, bnd0, bndE, slcE, slcC, pickE, allocE, nilchkE, isNilSV, ibinE, ibin, ishfE, ishf, eqnilE, eqbE, notE, negE, cviE, mkslE, mxE, mnE, extE, isNilSl, isNilFn, isNilIf, isNilO, eqniloE, eqsF, eqsE, cellsEq, cellEq, sbinE, sbin, ifcOf, tasF, tasE, cellsSV, cellsAll, layO, mkEnv, lk, hget_zero, hget_succ, putE, uphO, uph, uphL, evX, rdsX, uIds, List.map_cons, List.map_nil, List.length_cons, List.length_nil, List.length_append, List.length_map, List.length_set, List.set_cons_zero, List.set_cons_succ, List.cons_append, List.nil_append, List.append_nil, List.getElem?_cons_zero, List.getElem?_cons_succ, List.getElem?_nil, List.take_succ_cons, List.take_zero, List.drop_succ_cons, List.drop_zero, List.drop_nil, List.take_nil, Option.getD_some, Option.getD_none, Option.map_some, Option.map_none, true_and, and_true, ↓reduceIte, Nat.reduceEqDiff, Nat.reduceAdd, Nat.reduceSub, Nat.reduceMul, Nat.reduceLeDiff, Nat.reduceLT, Nat.zero_add, Nat.add_zero, decide_eq_true_eq, Bool.false_eq_true, reduceCtorEq, rvs_len, rvs_get, rvs_fold, rvs_take, rvs_append, Int.toNat_natCast, bneTT, bneTF, bneFT, bneFF, Bool.not_true, Bool.not_false, splice0, slcaE, clrE, chunks]
  refine g_call (sp_agenda_pile_Len 1 v n es) (pre1 rfl) trivial ?_
  simp -implicitDefEqProofs only [hw, inv53Swap, g_nil, g_skip, g_reg, g_regd, g_seq, g_block, g_end, g_cond, g_ret, g_exit, gx_nil, gx_c, gx_o, gx_d, gx_b, g_onil, g_dnil, g_op, g_opg, g_opd, g_opdg, condI, callvI, invI, plainI, opI, guardI, callvdI, invdI, plaindI, opdI, guarddI, opE, o1, o2, ix2, loadE, storeE, boxE, allLen, bslE, buildE, fits, fldE, ixsE, ixaE, ixvE, fldvE, lenE, lensE, srcE, appE, bnd2, bndL, bndH, bnd0, bndE, slcE, slcC, pickE, allocE, nilchkE, isNilSV, ibinE, ibin, ishfE, ishf, eqnilE, eqbE, notE, negE, cviE, mkslE, mxE, mnE, extE, isNilSl, isNilFn, isNilIf, isNilO, eqniloE, eqsF, eqsE, cellsEq, cellEq, sbinE, sbin, ifcOf, tasF, tasE, cellsSV, cellsAll, layO, mkEnv, lk, hget_zero, hget_succ, putE, uphO, uph, uphL, evX, rdsX, uIds, List.map_cons, List.map_nil, List.length_cons, List.length_nil, List.length_append, List.length_map, List.length_set, List.set_cons_zero, List.set_cons_succ, List.cons_append, List.nil_append, List.append_nil, List.getElem?_cons_zero, List.getElem?_cons_succ, List.getElem?_nil, List.take_succ_cons, List.take_zero, List.drop_succ_cons, List.drop_zero, List.drop_nil, List.take_nil, Option.getD_some, Option.getD_none, Option.map_some, Option.map_none, true_and, and_true, ↓reduceIte, Nat.reduceEqDiff, Nat.reduceAdd, Nat.reduceSub, Nat.reduceMul, Nat.reduceLeDiff, Nat.reduceLT, Nat.zero_add, Nat.add_zero, decide_eq_true_eq, Bool.false_eq_true, reduceCtorEq, rvs_len, rvs_get, rvs_fold, rvs_take, rvs_append, Int.toNat_natCast, bneTT, bneTF, bneFT, bneFF, Bool.not_true, Bool.not_false, splice0, slcaE, clrE, chunks]
  refine g_call (spSwap 1 v n es 0 (n - 1) hn h0 (by omega)) (pre1 rfl) (okU1 rfl) ?_
  simp -implicitDefEqProofs only [g_nil, g_skip, g_reg, g_regd, g_seq, g_block, g_end, g_cond, g_ret, g_exit, gx_nil, gx_c, gx_o, gx_d, gx_b, g_onil, g_dnil, g_op, g_opg, g_opd, g_opdg, condI, callvI, invI, plainI, opI, guardI, callvdI, invdI, plaindI, opdI, guarddI, opE, o1, o2, ix2, loadE, storeE, boxE, allLen, bslE, buildE, fits, fldE, ixsE, ixaE, ixvE, fldvE, lenE, lensE, srcE, appE, bnd2, bndL, bndH, bnd0, bndE, slcE, slcC, pickE, allocE, nilchkE, isNilSV, ibinE, ibin, ishfE, ishf, eqnilE, eqbE, notE, negE, cviE, mkslE, mxE, mnE, extE, isNilSl, isNilFn, isNilIf, isNilO, eqniloE, eqsF, eqsE, cellsEq, cellEq, sbinE, sbin, ifcOf, tasF, tasE, cellsSV, cellsAll, layO, mkEnv, lk, hget_zero, hget_succ, putE, uphO, uph, uphL, evX, rdsX, uIds, List.map_cons, List.map_nil, List.length_cons, List.length_nil, List.length_append, List.length_map, List.length_set, List.set_cons_zero, List.set_cons_succ, List.cons_append, List.nil_append, List.append_nil, List.getElem?_cons_zero, List.getElem?_cons_succ, List.getElem?_nil, List.take_succ_cons, List.take_zero, List.drop_succ_cons, List.drop_zero, List.drop_nil, List.take_nil, Option.getD_some, Option.getD_none, Option.map_some, Option.map_none, true_and, and_true, ↓reduceIte, Nat.reduceEqDiff, Nat.reduceAdd, Nat.reduceSub, Nat.reduceMul, Nat.reduceLeDiff, Nat.reduceLT, Nat.zero_add, Nat.add_zero, decide_eq_true_eq, Bool.false_eq_true, reduceCtorEq, rvs_len, rvs_get, rvs_fold, rvs_take, rvs_append, Int.toNat_natCast, bneTT, bneTF, bneFT, bneFF, Bool.not_true, Bool.not_false, splice0, slcaE, clrE, chunks]
  refine g_call (sp_container_heap_down 0 1 v n (sw es 0 (n - 1)) 0 (n - 1) (by decide) (by rw [sw_len]; exact hn) (by omega) (by omega) (by omega)) (pre2 rfl rfl) (okU1 rfl) ?_
  simp -implicitDefEqProofs only [inv53Pop, g_nil, g_skip, g_reg, g_regd, g_seq, g_block, g_end, g_cond, g_ret, g_exit, gx_nil, gx_c, gx_o, gx_d, gx_b, g_onil, g_dnil, g_op, g_opg, g_opd, g_opdg, condI, callvI, invI, plainI, opI, guardI, callvdI, invdI, plaindI, opdI, guarddI, opE, o1, o2, ix2, loadE, storeE, boxE, allLen, bslE, buildE, fits, fldE, ixsE, ixaE, ixvE, fldvE, lenE, lensE, srcE, appE, bnd2, bndL, bndH, bnd0, bndE, slcE, slcC, pickE, allocE, nilchkE, isNilSV, ibinE, ibin, ishfE, ishf, eqnilE, eqbE, notE, negE, cviE, mkslE, mxE, mnE, extE, isNilSl, isNilFn, isNilIf, isNilO, eqniloE, eqsF, eqsE, cellsEq, cellEq, sbinE, sbin, ifcOf, tasF, tasE, cellsSV, cellsAll, layO, mkEnv, lk, hget_zero, hget_succ, putE, uphO, uph, uphL, evX, rdsX, uIds, List.map_cons, List.map_nil, List.length_cons, List.length_nil, List.length_append, List.length_map, List.length_set, List.set_cons_zero, List.set_cons_succ, List.cons_append, List.nil_append, List.append_nil, List.getElem?_cons_zero, List.getElem?_cons_succ, List.getElem?_nil, List.take_succ_cons, List.take_zero, List.drop_succ_cons, List.drop_zero, List.drop_nil, List.take_nil, Option.getD_some, Option.getD_none, Option.map_some, Option.map_none, true_and, and_true, ↓reduceIte, Nat.reduceEqDiff, Nat.reduceAdd, Nat.reduceSub, Nat.reduceMul, Nat.reduceLeDiff, Nat.reduceLT, Nat.zero_add, Nat.add_zero, decide_eq_true_eq, Bool.false_eq_true, reduceCtorEq, rvs_len, rvs_get, rvs_fold, rvs_take, rvs_append, Int.toNat_natCast, bneTT, bneTF, bneFT, bneFF, Bool.not_true, Bool.not_false, splice0, slcaE, clrE, chunks]
  have hlen : n ≤ (downF (sw es 0 (n - 1)) 0 (n - 1)).length := by rw [downF_len _ _ _ _ rfl, sw_len]; exact hn
  have hp := sp_agenda_pile_Pop 0 1 v n (downF (sw es 0 (n - 1)) 0 (n - 1)) (by decide) hlen h0 (by omega)
  rw [ga_eq] at hp
  refine g_call hp (pre2 rfl rfl) (okU1 rfl) ?_
  simp -implicitDefEqProofs only [g_nil, g_skip, g_reg, g_regd, g_seq, g_block, g_end, g_cond, g_ret, g_exit, gx_nil, gx_c, gx_o, gx_d, gx_b, g_onil, g_dnil, g_op, g_opg, g_opd, g_opdg, condI, callvI, invI, plainI, opI, guardI, callvdI, invdI, plaindI, opdI, guarddI, opE, o1, o2, ix2, loadE, storeE, boxE, allLen, bslE, buildE, fits, fldE, ixsE, ixaE, ixvE, fldvE, lenE, lensE, srcE, appE, bnd2, bndL, bndH, bnd0, bndE, slcE, slcC, pickE, allocE, nilchkE, isNilSV, ibinE, ibin, ishfE, ishf, eqnilE, eqbE, notE, negE, cviE, mkslE, mxE, mnE, extE, isNilSl, isNilFn, isNilIf, isNilO, eqniloE, eqsF, eqsE, cellsEq, cellEq, sbinE, sbin, ifcOf, tasF, tasE, cellsSV, cellsAll, layO, mkEnv, lk, hget_zero, hget_succ, putE, uphO, uph, uphL, evX, rdsX, uIds, List.map_cons, List.map_nil, List.length_cons, List.length_nil, List.length_append, List.length_map, List.length_set, List.set_cons_zero, List.set_cons_succ, List.cons_append, List.nil_append, List.append_nil, List.getElem?_cons_zero, List.getElem?_cons_succ, List.getElem?_nil, List.take_succ_cons, List.take_zero, List.drop_succ_cons, List.drop_zero, List.drop_nil, List.take_nil, Option.getD_some, Option.getD_none, Option.map_some, Option.map_none, true_and, and_true, ↓reduceIte, Nat.reduceEqDiff, Nat.reduceAdd, Nat.reduceSub, Nat.reduceMul, Nat.reduceLeDiff, Nat.reduceLT, Nat.zero_add, Nat.add_zero, decide_eq_true_eq, Bool.false_eq_true, reduceCtorEq, rvs_len, rvs_get, rvs_fold, rvs_take, rvs_append, Int.toNat_natCast, bneTT, bneTF, bneFT, bneFF, Bool.not_true, Bool.not_false, splice0, slcaE, clrE, chunks]
  refine (hK _ _ _ _ [] (ent_refl _ _) ?_).2
  simp [retM, nodupL, newL, allU, keptL, retP, resL, lk, resT, RnHo, lkp, finU, hget_zero, hget_succ, hget, rnRows_rvs, rn_tup, rn_rv, rn_row, rn_ptr, rn_ifc, rn_agg, rn_dead, RnAll, ofL, rnAll_map, hi, Ne.symm hi, popF, Ent3.sv]

theorem sp_agenda_Agenda_Add (i0 i1 v n : Nat) (es : List Ent3) (e : Ent3) (hi : i0 ≠ i1) (hn : n ≤ es.length) (hb : n < 100000) :
    CallR Go.Proofs.Try.prog 93 [.ptr i0 0, e.sv] [(i0, .var [.row i1 v n]), (i1, .row 3 v (rvs (cellsL es)))] [(i0, .var [.row i1 (v + 1) (n + 1)]), (i1, .row 3 (v + 1) (rvs (cellsL (pushF es n e))))] (.tup []) := by
  refine callR_M k_agenda_Agenda_Add [i0, i1] [.var [.row 1 v n], .row 3 v (rvs (cellsL es))] [.var [.row i1 v n], .row 3 v (rvs (cellsL es))] [.ptr 0 0, e.sv] [.ptr i0 0, e.sv] _ _ (by simp) (by simp [BkAll, bk_ptr, bk_row, bk_rv, bk_agg, bk_ifc, bk_fn, bk_tup, bk_dead, BkHs, rvs_inj, nodupL, Ent3.sv]) rfl (by simp [nodupL, hi]) (by simp [BkAll, bk_ptr, bk_row, bk_rv, bk_agg, bk_ifc, bk_fn, bk_tup, bk_dead, BkHs, rvs_inj, nodupL]) (fun K hK => ?_)
  simp -implicitDefEqProofs only [c_agenda_Agenda_Add, Ent3.sv, g_nil, g_skip, g_reg, g_regd, g_seq, g_block, g_end, g_cond, g_ret, g_exit, gx_nil, gx_c, gx_o, gx_d, gx_b, g_onil, g_dnil, g_op, g_opg, g_opd, g_opdg, condI, callvI, invI, plainI, opI, guardI, callvdI, invdI, plaindI, opdI, guarddI, opE, o1, o2, ix2, loadE, storeE, boxE, allLen, bslE, buildE, fits, fldE, ixsE, ixaE, ixvE, fldvE, lenE, lensE, srcE, appE, bnd2, bndL, bndH, bnd0, bndE, slcE, slcC, pickE, allocE, nilchkE, isNilSV, ibinE, ibin, ishfE, ishf, eqnilE, eqbE, notE, negE, cviE, mkslE, mxE, mnE, extE, isNilSl, isNilFn, isNilIf, isNilO, eqniloE, eqsF, eqsE, cellsEq, cellEq, sbinE, sbin, ifcOf, tasF, tasE, cellsSV, cellsAll, layO, mkEnv, lk, hget_zero, hget_succ, putE, uphO, uph, uphL, evX, rdsX, uIds, List.map_cons, List.map_nil, List.length_cons, List.length_nil, List.length_append, List.length_map, List.length_set, List.set_cons_zero, List.set_cons_succ, List.cons_append, List.nil_append, List.append_nil, List.getElem?_cons_zero, List.getElem?_cons_succ, List.getElem?_nil, List.take_succ_cons, List.take_zero, List.drop_succ_cons, List.drop_zero, List.drop_nil, List.take_nil, Option.getD_some, Option.getD_none, Option.map_some, Option.map_none, true_and, and_true, ↓reduceIte, Nat.reduceEqDiff, Nat.reduceAdd, Nat.reduceSub, Nat.reduceMul, Nat.reduceLeDiff, Nat.reduceLT, Nat.zero_add, Nat.add_zero, decide_eq_true_eq, Bool.false_eq_true, reduceCtorEq, rvs_len, rvs_get, rvs_fold, rvs_take, rvs_append, Int.toNat_natCast, bneTT, bneTF, bneFT, bneFF, Bool.not_true, Bool.not_false, splice0, slcaE, clrE, chunks]
  refine g_calld (sp_container_heap_Push 0 1 v n es e (by decide) hn hb) (pre2 rfl rfl) (okU2 rfl rfl) ?_
  simp -implicitDefEqProofs only [g_nil, g_skip, g_reg, g_regd, g_seq, g_block, g_end, g_cond, g_ret, g_exit, gx_nil, gx_c, gx_o, gx_d, gx_b, g_onil, g_dnil, g_op, g_opg, g_opd, g_opdg, condI, callvI, invI, plainI, opI, guardI, callvdI, invdI, plaindI, opdI, guarddI, opE, o1, o2, ix2, loadE, storeE, boxE, allLen, bslE, buildE, fits, fldE, ixsE, ixaE, ixvE, fldvE, lenE, lensE, srcE, appE, bnd2, bndL, bndH, bnd0, bndE, slcE, slcC, pickE, allocE, nilchkE, isNilSV, ibinE, ibin, ishfE, ishf, eqnilE, eqbE, notE, negE, cviE, mkslE, mxE, mnE, extE, isNilSl, isNilFn, isNilIf, isNilO, eqniloE, eqsF, eqsE, cellsEq, cellEq, sbinE, sbin, ifcOf, tasF, tasE, cellsSV, cellsAll, layO, mkEnv, lk, hget_zero, hget_succ, putE, uphO, uph, uphL, evX, rdsX, uIds, List.map_cons, List.map_nil, List.length_cons, List.length_nil, List.length_append, List.length_map, List.length_set, List.set_cons_zero, List.set_cons_succ, List.cons_append, List.nil_append, List.append_nil, List.getElem?_cons_zero, List.getElem?_cons_succ, List.getElem?_nil, List.take_succ_cons, List.take_zero, List.drop_succ_cons, List.drop_zero, List.drop_nil, List.take_nil, Option.getD_some, Option.getD_none, Option.map_some, Option.map_none, true_and, and_true, ↓reduceIte, Nat.reduceEqDiff, Nat.reduceAdd, Nat.reduceSub, Nat.reduceMul, Nat.reduceLeDiff, Nat.reduceLT, Nat.zero_add, Nat.add_zero, decide_eq_true_eq, Bool.false_eq_true, reduceCtorEq, rvs_len, rvs_get, rvs_fold, rvs_take, rvs_append, Int.toNat_natCast, bneTT, bneTF, bneFT, bneFF, Bool.not_true, Bool.not_false, splice0, slcaE, clrE, chunks]
  refine ⟨by decide, g_noent ?_⟩
  simp -implicitDefEqProofs only [g_nil, g_skip, g_reg, g_regd, g_seq, g_block, g_end, g_cond, g_ret, g_exit, gx_nil, gx_c, gx_o, gx_d, gx_b, g_onil, g_dnil, g_op, g_opg, g_opd, g_opdg, condI, callvI, invI, plainI, opI, guardI, callvdI, invdI, plaindI, opdI, guarddI, opE, o1, o2, ix2, loadE, storeE, boxE, allLen, bslE, buildE, fits, fldE, ixsE, ixaE, ixvE, fldvE, lenE, lensE, srcE, appE, bnd2, bndL, bndH, bnd0, bndE, slcE, slcC, pickE, allocE, nilchkE, isNilSV, ibinE, ibin, ishfE, ishf, eqnilE, eqbE, notE, negE, cviE, mkslE, mxE, mnE, extE, isNilSl, isNilFn, isNilIf, isNilO, eqniloE, eqsF, eqsE, cellsEq, cellEq, sbinE, sbin, ifcOf, tasF, tasE, cellsSV, cellsAll, layO, mkEnv, lk, hget_zero, hget_succ, putE, uphO, uph, uphL, evX, rdsX, uIds, List.map_cons, List.map_nil, List.length_cons, List.length_nil, List.length_append, List.length_map, List.length_set, List.set_cons_zero, List.set_cons_succ, List.cons_append, List.nil_append, List.append_nil, List.getElem?_cons_zero, List.getElem?_cons_succ, List.getElem?_nil, List.take_succ_cons, List.take_zero, List.drop_succ_cons, List.drop_zero, List.drop_nil, List.take_nil, Option.getD_some, Option.getD_none, Option.map_some, Option.map_none, true_and, and_true, ↓reduceIte, Nat.reduceEqDiff, Nat.reduceAdd, Nat.reduceSub, Nat.reduceMul, Nat.reduceLeDiff, Nat.reduceLT, Nat.zero_add, Nat.add_zero, decide_eq_true_eq, Bool.false_eq_true, reduceCtorEq, rvs_len, rvs_get, rvs_fold, rvs_take, rvs_append, Int.toNat_natCast, bneTT, bneTF, bneFT, bneFF, Bool.not_true, Bool.not_false, splice0, slcaE, clrE, chunks]
  refine (hK _ _ _ _ [] (ent_refl _ _) ?_).1
  simp [retM, nodupL, newL, allU, keptL, retP, resL, lk, resT, RnHo, lkp, finU, hget_zero, hget_succ, hget, rnRows_rvs, rn_tup, rn_rv, rn_row, rn_ptr, rn_ifc, rn_agg, rn_dead, RnAll, ofL, rnAll_map, hi, Ne.symm hi]

theorem sp_agenda_Agenda_Peek (i0 i1 v n : Nat) (es : List Ent3) (hi : i0 ≠ i1) (hn : n ≤ es.length) :
    CallR Go.Proofs.Try.prog 95 [.ptr i0 0] [(i0, .var [.row i1 v n]), (i1, .row 3 v (rvs (cellsL es)))] [] (.tup [if n = 0 then (⟨0, 0, 0⟩ : Ent3).sv else (ga es 0).sv, .rv (.bool (decide (n ≠ 0)))]) := by
  refine callR_M k_agenda_Agenda_Peek [i0, i1] [.var [.row 1 v n], .row 3 v (rvs (cellsL es))] [.var [.row i1 v n], .row 3 v (rvs (cellsL es))] [.ptr 0 0] [.ptr i0 0] _ _ (by simp) (by simp [BkAll, bk_ptr, bk_row, bk_rv, bk_agg, bk_ifc, bk_fn, bk_tup, bk_dead, BkHs, rvs_inj, nodupL]) rfl (by simp [nodupL, hi]) (by simp [BkAll, bk_ptr, bk_row, bk_rv, bk_agg, bk_ifc, bk_fn, bk_tup, bk_dead, BkHs, rvs_inj, nodupL]) (fun K hK => ?_)
  by_cases h0 : n = 0
  · subst h0
    have he : (((0 : Nat) : Int) == 0) = true := by decide
    simp -implicitDefEqProofs only [c_agenda_Agenda_Peek, he, g_nil, g_skip, g_reg, g_regd, g_seq, g_block, g_end, g_cond, g_ret, g_exit, gx_nil, gx_c, gx_o, gx_d, gx_b, g_onil, g_dnil, g_op, g_opg, g_opd, g_opdg, condI, callvI, invI, plainI, opI, guardI, callvdI, invdI, plaindI, opdI, guarddI, opE, o1, o2, ix2, loadE, storeE, boxE, allLen, bslE, buildE, fits, fldE, ixsE, ixaE, ixvE, fldvE, lenE, lensE, srcE, appE, bnd2, bndL, bndH, bnd0, bndE, slcE, slcC, pickE, allocE, nilchkE, isNilSV, ibinE, ibin, ishfE, ishf, eqnilE, eqbE, notE, negE, cviE, mkslE, mxE, mnE, extE, isNilSl, isNilFn, isNilIf, isNilO, eqniloE, eqsF, eqsE, cellsEq, cellEq, sbinE, sbin, ifcOf, tasF, tasE, cellsSV, cellsAll, layO, mkEnv, lk, hget_zero, hget_succ, putE, uphO, uph, uphL, evX, rdsX, uIds, List.map_cons, List.map_nil, List.length_cons, List.length_nil, List.length_append, List.length_map, List.length_set, List.set_cons_zero, List.set_cons_succ, List.cons_append, List.nil_append, List.append_nil, List.getElem?_cons_zero, List.getElem?_cons_succ, List.getElem?_nil, List.take_succ_cons, List.take_zero, List.drop_succ_cons, List.drop_zero, List.drop_nil, List.take_nil, Option.getD_some, Option.getD_none, Option.map_some, Option.map_none, true_and, and_true, ↓reduceIte, Nat.reduceEqDiff, Nat.reduceAdd, Nat.reduceSub, Nat.reduceMul, Nat.reduceLeDiff, Nat.reduceLT, Nat.zero_add, Nat.add_zero, decide_eq_true_eq, Bool.false_eq_true, reduceCtorEq, rvs_len, rvs_get, rvs_fold, rvs_take, rvs_append, Int.toNat_natCast, bneTT, bneTF, bneFT, bneFF, Bool.not_true, Bool.not_false, splice0, slcaE, clrE, chunks]
    refine (hK _ _ _ _ [] (ent_refl _ _) ?_).2
    simp [retM, nodupL, newL, allU, keptL, retP, resL, lk, resT, RnHo, lkp, finU, hget_zero, hget_succ, hget, rnRows_rvs, rn_tup, rn_rv, rn_row, rn_ptr, rn_ifc, rn_agg, rn_dead, RnAll, ofL, rnAll_map, hi, Ne.symm hi, loadE, Ent3.sv]
  · have he : ((n : Int) == 0) = false := by simp; omega
    have hx := cellsL_get (show 0 < es.length by omega)
    rw [ga_eq] at hx
    have h00 : (0 : Int).toNat = 0 := rfl
    simp -implicitDefEqProofs only [c_agenda_Agenda_Peek, he, hx, h00, g_nil, g_skip, g_reg, g_regd, g_seq, g_block, g_end, g_cond, g_ret, g_exit, gx_nil, gx_c, gx_o, gx_d, gx_b, g_onil, g_dnil, g_op, g_opg, g_opd, g_opdg, condI, callvI, invI, plainI, opI, guardI, callvdI, invdI, plaindI, opdI, guarddI, opE, o1, o2, ix2, loadE, storeE, boxE, allLen, bslE, buildE, fits, fldE, ixsE, ixaE, ixvE, fldvE, lenE, lensE, srcE, appE, bnd2, bndL, bndH, bnd0, bndE, slcE, slcC, pickE, allocE, nilchkE, isNilSV, ibinE, ibin, ishfE, ishf, eqnilE, eqbE, notE, negE, cviE, mkslE, mxE, mnE, extE, isNilSl, isNilFn, isNilIf, isNilO, eqniloE, eqsF, eqsE, cellsEq, cellEq, sbinE, sbin, ifcOf, tasF, tasE, cellsSV, cellsAll, layO, mkEnv, lk, hget_zero, hget_succ, putE, uphO, uph, uphL, evX, rdsX, uIds, List.map_cons, List.map_nil, List.length_cons, List.length_nil, List.length_append, List.length_map, List.length_set, List.set_cons_zero, List.set_cons_succ, List.cons_append, List.nil_append, List.append_nil, List.getElem?_cons_zero, List.getElem?_cons_succ, List.getElem?_nil, List.take_succ_cons, List.take_zero, List.drop_succ_cons, List.drop_zero, List.drop_nil, List.take_nil, Option.getD_some, Option.getD_none, Option.map_some, Option.map_none, true_and, and_true, ↓reduceIte, Nat.reduceEqDiff, Nat.reduceAdd, Nat.reduceSub, Nat.reduceMul, Nat.reduceLeDiff, Nat.reduceLT, Nat.zero_add, Nat.add_zero, decide_eq_true_eq, Bool.false_eq_true, reduceCtorEq, rvs_len, rvs_get, rvs_fold, rvs_take, rvs_append, Int.toNat_natCast, bneTT, bneTF, bneFT, bneFF, Bool.not_true, Bool.not_false, splice0, slcaE, clrE, chunks]
    refine ⟨by omega, by omega, ?_⟩
    refine (hK _ _ _ _ [] (ent_refl _ _) ?_).2
    simp [retM, nodupL, newL, allU, keptL, retP, resL, lk, resT, RnHo, lkp, finU, hget_zero, hget_succ, hget, rnRows_rvs, rn_tup, rn_rv, rn_row, rn_ptr, rn_ifc, rn_agg, rn_dead, RnAll, ofL, rnAll_map, hi, Ne.symm hi, loadE, Ent3.sv, h0]

theorem sp_agenda_Agenda_Next (i0 i1 v n : Nat) (es : List Ent3) (hi : i0 ≠ i1) (hn : n ≤ es.length) (h0 : n ≠ 0) (hb : n < 100000) :
    CallR Go.Proofs.Try.prog 96 [.ptr i0 0] [(i0, .var [.row i1 v n]), (i1, .row 3 v (rvs (cellsL es)))] [(i0, .var [.row i1 v (n - 1)]), (i1, .row 3 v (rvs (cellsL (popF es n))))] (.tup [(ga (popF es n) (n - 1)).sv, .rv (.bool true)]) := by
  refine callR_M k_agenda_Agenda_Next [i0, i1] [.var [.row 1 v n], .row 3 v (rvs (cellsL es))] [.var [.row i1 v n], .row 3 v (rvs (cellsL es))] [.ptr 0 0] [.ptr i0 0] _ _ (by simp) (by simp [BkAll, bk_ptr, bk_row, bk_rv, bk_agg, bk_ifc, bk_fn, bk_tup, bk_dead, BkHs, rvs_inj, nodupL]) rfl (by simp [nodupL, hi]) (by simp [BkAll, bk_ptr, bk_row, bk_rv, bk_agg, bk_ifc, bk_fn, bk_tup, bk_dead, BkHs, rvs_inj, nodupL]) (fun K hK => ?_)
  have he : ((n : Int) == 0) = false := by simp; omega
  simp -implicitDefEqProofs only [c_agenda_Agenda_Next, he, g_nil, g_skip, g_reg, g_regd, g_seq, g_block, g_end, g_cond, g_ret, g_exit, gx_nil, gx_c, gx_o, gx_d, gx_b, g_onil, g_dnil, g_op, g_opg, g_opd, g_opdg, condI, callvI, invI, plainI, opI, guardI, callvdI, invdI, plaindI, opdI, guarddI, opE, o1, o2, ix2, loadE, storeE, boxE, allLen, bslE, buildE, fits, fldE, ixsE, ixaE, ixvE, fldvE, lenE, lensE, srcE, appE, bnd2, bndL, bndH, bnd0, bndE, slcE, slcC, pickE, allocE, nilchkE, isNilSV, ibinE, ibin, ishfE, ishf, eqnilE, eqbE, notE, negE, cviE, mkslE, mxE, mnE, extE, isNilSl, isNilFn, isNilIf, isNilO, eqniloE, eqsF, eqsE, cellsEq, cellEq, sbinE, sbin, ifcOf, tasF, tasE, cellsSV, cellsAll, layO, mkEnv, lk, hget_zero, hget_succ, putE, uphO, uph, uphL, evX, rdsX, uIds, List.map_cons, List.map_nil, List.length_cons, List.length_nil, List.length_append, List.length_map, List.length_set, List.set_cons_zero, List.set_cons_succ, List.cons_append, List.nil_append, List.append_nil, List.getElem?_cons_zero, List.getElem?_cons_succ, List.getElem?_nil, List.take_succ_cons, List.take_zero, List.drop_succ_cons, List.drop_zero, List.drop_nil, List.take_nil, Option.getD_some, Option.getD_none, Option.map_some, Option.map_none, true_and, and_true, ↓reduceIte, Nat.reduceEqDiff, Nat.reduceAdd, Nat.reduceSub, Nat.reduceMul, Nat.reduceLeDiff, Nat.reduceLT, Nat.zero_add, Nat.add_zero, decide_eq_true_eq, Bool.false_eq_true, reduceCtorEq, rvs_len, rvs_get, rvs_fold, rvs_take, rvs_append, Int.toNat_natCast, bneTT, bneTF, bneFT, bneFF, Bool.not_true, Bool.not_false, splice0, slcaE, clrE, chunks]
  refine g_call (sp_container_heap_Pop 0 1 v n es (by decide) hn (by omega) hb) (pre2 rfl rfl) (okU2 rfl rfl) ?_
  simp -implicitDefEqProofs only [Ent3.sv, g_nil, g_skip, g_reg, g_regd, g_seq, g_block, g_end, g_cond, g_ret, g_exit, gx_nil, gx_c, gx_o, gx_d, gx_b, g_onil, g_dnil, g_op, g_opg, g_opd, g_opdg, condI, callvI, invI, plainI, opI, guardI, callvdI, invdI, plaindI, opdI, guarddI, opE, o1, o2, ix2, loadE, storeE, boxE, allLen, bslE, buildE, fits, fldE, ixsE, ixaE, ixvE, fldvE, lenE, lensE, srcE, appE, bnd2, bndL, bndH, bnd0, bndE, slcE, slcC, pickE, allocE, nilchkE, isNilSV, ibinE, ibin, ishfE, ishf, eqnilE, eqbE, notE, negE, cviE, mkslE, mxE, mnE, extE, isNilSl, isNilFn, isNilIf, isNilO, eqniloE, eqsF, eqsE, cellsEq, cellEq, sbinE, sbin, ifcOf, tasF, tasE, cellsSV, cellsAll, layO, mkEnv, lk, hget_zero, hget_succ, putE, uphO, uph, uphL, evX, rdsX, uIds, List.map_cons, List.map_nil, List.length_cons, List.length_nil, List.length_append, List.length_map, List.length_set, List.set_cons_zero, List.set_cons_succ, List.cons_append, List.nil_append, List.append_nil, List.getElem?_cons_zero, List.getElem?_cons_succ, List.getElem?_nil, List.take_succ_cons, List.take_zero, List.drop_succ_cons, List.drop_zero, List.drop_nil, List.take_nil, Option.getD_some, Option.getD_none, Option.map_some, Option.map_none, true_and, and_true, ↓reduceIte, Nat.reduceEqDiff, Nat.reduceAdd, Nat.reduceSub, Nat.reduceMul, Nat.reduceLeDiff, Nat.reduceLT, Nat.zero_add, Nat.add_zero, decide_eq_true_eq, Bool.false_eq_true, reduceCtorEq, rvs_len, rvs_get, rvs_fold, rvs_take, rvs_append, Int.toNat_natCast, bneTT, bneTF, bneFT, bneFF, Bool.not_true, Bool.not_false, splice0, slcaE, clrE, chunks]
  refine (hK _ _ _ _ [] (ent_refl _ _) ?_).2
  simp [retM, nodupL, newL, allU, keptL, retP, resL, lk, resT, RnHo, lkp, finU, hget_zero, hget_succ, hget, rnRows_rvs, rn_tup, rn_rv, rn_row, rn_ptr, rn_ifc, rn_agg, rn_dead, RnAll, ofL, rnAll_map, hi, Ne.symm hi, loadE, Ent3.sv]

theorem sp12e (i0 i1 v : Nat) (es : List Ent3) (hi : i0 ≠ i1) :
    CallR Go.Proofs.Try.prog 96 [.ptr i0 0] [(i0, .var [.row i1 v 0]), (i1, .row 3 v (rvs (cellsL es)))] [] (.tup [(⟨0, 0, 0⟩ : Ent3).sv, .rv (.bool false)]) := by
  refine callR_M k_agenda_Agenda_Next [i0, i1] [.var [.row 1 v 0], .row 3 v (rvs (cellsL es))] [.var [.row i1 v 0], .row 3 v (rvs (cellsL es))] [.ptr 0 0] [.ptr i0 0] _ _ (by simp) (by simp [BkAll, bk_ptr, bk_row, bk_rv, bk_agg, bk_ifc, bk_fn, bk_tup, bk_dead, BkHs, rvs_inj, nodupL]) rfl (by simp [nodupL, hi]) (by simp [BkAll, bk_ptr, bk_row, bk_rv, bk_agg, bk_ifc, bk_fn, bk_tup, bk_dead, BkHs, rvs_inj, nodupL]) (fun K hK => ?_)
  have he : (((0 : Nat) : Int) == 0) = true := by decide
  simp -implicitDefEqProofs only [c_agenda_Agenda_Next, he, g_nil, g_skip, g_reg, g_regd, g_seq, g_block, g_end, g_cond, g_ret, g_exit, gx_nil, gx_c, gx_o, gx_d, gx_b, g_onil, g_dnil, g_op, g_opg, g_opd, g_opdg, condI, callvI, invI, plainI, opI, guardI, callvdI, invdI, plaindI, opdI, guarddI, opE, o1, o2, ix2, loadE, storeE, boxE, allLen, bslE, buildE, fits, fldE, ixsE, ixaE, ixvE, fldvE, lenE, lensE, srcE, appE, bnd2, bndL, bndH, bnd0, bndE, slcE, slcC, pickE, allocE, nilchkE, isNilSV, ibinE, ibin, ishfE, ishf, eqnilE, eqbE, notE, negE, cviE, mkslE, mxE, mnE, extE, isNilSl, isNilFn, isNilIf, isNilO, eqniloE, eqsF, eqsE, cellsEq, cellEq, sbinE, sbin, ifcOf, tasF, tasE, cellsSV, cellsAll, layO, mkEnv, lk, hget_zero, hget_succ, putE, uphO, uph, uphL, evX, rdsX, uIds, List.map_cons, List.map_nil, List.length_cons, List.length_nil, List.length_append, List.length_map, List.length_set, List.set_cons_zero, List.set_cons_succ, List.cons_append, List.nil_append, List.append_nil, List.getElem?_cons_zero, List.getElem?_cons_succ, List.getElem?_nil, List.take_succ_cons, List.take_zero, List.drop_succ_cons, List.drop_zero, List.drop_nil, List.take_nil, Option.getD_some, Option.getD_none, Option.map_some, Option.map_none, true_and, and_true, ↓reduceIte, Nat.reduceEqDiff, Nat.reduceAdd, Nat.reduceSub, Nat.reduceMul, Nat.reduceLeDiff, Nat.reduceLT, Nat.zero_add, Nat.add_zero, decide_eq_true_eq, Bool.false_eq_true, reduceCtorEq, rvs_len, rvs_get, rvs_fold, rvs_take, rvs_append, Int.toNat_natCast, bneTT, bneTF, bneFT, bneFF, Bool.not_true, Bool.not_false, splice0, slcaE, clrE, chunks]
  refine (hK _ _ _ _ [] (ent_refl _ _) ?_).2
  simp [retM, nodupL, newL, allU, keptL, retP, resL, lk, resT, RnHo, lkp, finU, hget_zero, hget_succ, hget, rnRows_rvs, rn_tup, rn_rv, rn_row, rn_ptr, rn_ifc, rn_agg, rn_dead, RnAll, ofL, rnAll_map, hi, Ne.symm hi, loadE, Ent3.sv]

end Go.Eng


/- agenda: entries have one order. -/
namespace Go.Eng
open Go
def lessB (a b : Ent3) : Bool := if a.key = b.key then (if a.tie = b.tie then decide (a.n < b.n) else decide (a.tie < b.tie)) else decide (a.key < b.key)

theorem orF3 (x y z : Int) : orF [x, y, z] = if x = 0 then (if y = 0 then z else y) else x := by
  unfold orF orF orF orF
  by_cases h1 : x = 0 <;> by_cases h2 : y = 0 <;> by_cases h3 : z = 0 <;> simp [h1, h2, h3]

theorem cmpE_val (a b : Ent3) : cmpE a b = if a.key < b.key then -1 else if b.key < a.key then 1 else if a.tie < b.tie then -1 else if b.tie < a.tie then 1 else if a.n < b.n then -1 else if b.n < a.n then 1 else 0 := by
  unfold cmpE cmpIA
  rw [orF3]
  by_cases h1 : a.key < b.key
  · simp [h1]
  · by_cases h2 : b.key < a.key
    · simp [h1, h2]
    · by_cases h3 : a.tie < b.tie
      · simp [h1, h2, h3]
      · by_cases h4 : b.tie < a.tie
        · simp [h1, h2, h3, h4]
        · simp [h1, h2, h3, h4]

theorem cmpE_le (a b : Ent3) : cmpE a b ≤ 0 ↔ a.key < b.key ∨ (a.key = b.key ∧ (a.tie < b.tie ∨ (a.tie = b.tie ∧ a.n ≤ b.n))) := by
  rw [cmpE_val]
  repeat' split
  all_goals omega

theorem dif_ (p : Prop) [Decidable p] : decide p = if p then true else false := by by_cases h : p <;> simp [h]
theorem beqI_ (x y : Int) : (x == y) = if x = y then true else false := by by_cases h : x = y <;> simp [h]
theorem cmp_f1 (a b : Ent3) : (cmpE a b == - cmpE b a) = true := by
  rw [beqI_, cmpE_val a b, cmpE_val b a]; repeat' split
  all_goals first | rfl | (exfalso; omega)
theorem cmp_f3 (a b : Ent3) : ((cmpE a b == -1) == lessB a b) = true := by
  unfold lessB
  rw [beqI_, dif_, dif_, dif_, cmpE_val a b]; repeat' split
  all_goals first | rfl | (exfalso; omega)
theorem cmp_rg (a b : Ent3) : -1 ≤ cmpE a b ∧ cmpE a b ≤ 1 := by
  rw [cmpE_val]; repeat' split
  all_goals omega
theorem cmp_tr (a b c : Ent3) (h : ¬ cmpE a b > 0) (h' : ¬ cmpE b c > 0) : cmpE a c ≤ 0 := by
  have l1 := (cmpE_le a b).1 (by omega)
  have l2 := (cmpE_le b c).1 (by omega)
  rw [cmpE_le a c]
  omega
end Go.Eng


/- agenda: the document's least. -/
namespace Go.Eng
open Go
/-- Where the least of the first k is; -1: there is none. -/
def leastUp (es : List Ent3) : Nat → Int
  | 0 => -1
  | k + 1 => if leastUp es k < 0 ∨ lessB (ga es k) (ga es (leastUp es k).toNat) = true then k else leastUp es k

theorem leastUp_lt (es : List Ent3) : ∀ k, -1 ≤ leastUp es k ∧ leastUp es k < k
  | 0 => by simp [leastUp]
  | k + 1 => by
    have := leastUp_lt es k
    unfold leastUp
    split <;> omega

end Go.Eng


/- agenda: the document's list without one. -/
namespace Go.Eng
open Go
def without (es : List Ent3) (i : Nat) : List Ent3 := es.take i ++ es.drop (i + 1)

end Go.Eng


/- agenda: the document's order. -/
namespace Go.Eng
open Go
theorem cells_one {es : List Ent3} : ∀ x ∈ cellsL es, ∀ r ∈ x, r.one = true := by
  intro x hx r hr
  obtain ⟨e, _, rfl⟩ := List.mem_map.1 hx
  simp [Ent3.cells] at hr
  rcases hr with rfl | rfl | rfl <;> rfl

def leastN (es : List Ent3) : Nat := (leastUp es es.length).toNat
theorem leastN_lt (es : List Ent3) (h : 0 < es.length) : leastN es < es.length := by
  have := leastUp_lt es es.length
  unfold leastN; omega
theorem without_len {es : List Ent3} {i : Nat} (h : i < es.length) : (without es i).length = es.length - 1 := by
  simp [without]; omega

def sortRef (es : List Ent3) : List Ent3 :=
  if h : 0 < es.length then ga es (leastN es) :: sortRef (without es (leastN es)) else []
termination_by es.length
decreasing_by rw [without_len (leastN_lt es h)]; omega

end Go.Eng


/- agenda: heaps of entries, as plain lists. -/
namespace Go.Eng
open Go
def leE (a b : Ent3) : Prop := cmpE a b ≤ 0
theorem cmpE_flip (a b : Ent3) : cmpE a b = -cmpE b a := by have := cmp_f1 a b; simpa using this
theorem leE_refl (a : Ent3) : leE a a := by unfold leE; rw [cmpE_le]; omega
theorem leE_trans {a b c : Ent3} (h : leE a b) (h' : leE b c) : leE a c := cmp_tr a b c (by unfold leE at h; omega) (by unfold leE at h'; omega)
theorem leE_lt {a b : Ent3} (h : cmpE a b < 0) : leE a b := by unfold leE; omega
theorem leE_ge {a b : Ent3} (h : ¬ cmpE a b < 0) : leE b a := by unfold leE; have := cmpE_flip b a; omega
theorem leE_anti {a b : Ent3} (h : leE a b) (h' : leE b a) : a = b := by
  unfold leE at h h'
  rw [cmpE_le] at h h'
  obtain ⟨a1, a2, a3⟩ := a
  obtain ⟨b1, b2, b3⟩ := b
  simp only at h h'
  simp -implicitDefEqProofs only [Ent3.mk.injEq]
  omega
theorem less_cmp {a b : Ent3} : lessB a b = true ↔ cmpE a b < 0 := by
  have h := cmp_f3 a b
  have hr := cmp_rg a b
  have h : (cmpE a b == -1) = lessB a b := by simpa using h
  rw [← h]; simp; omega

theorem ga_mem {es : List Ent3} {i : Nat} (h : i < es.length) : ga es i ∈ es := by rw [← ga_eq h]; exact List.getElem_mem h
theorem ga_sw {es : List Ent3} {i j : Nat} (hi : i < es.length) (hj : j < es.length) (k : Nat) : ga (sw es i j) k = if k = j then ga es i else if k = i then ga es j else ga es k := by
  unfold sw
  by_cases h1 : k = j
  · subst h1; rw [if_pos rfl]
    show ((es.set i (ga es k)).set k (ga es i)).getD k _ = _
    rw [List.getD_eq_getElem?_getD, List.getElem?_set_self (by simpa using hj)]; rfl
  · rw [if_neg h1]
    show ((es.set i (ga es j)).set j (ga es i)).getD k _ = _
    rw [List.getD_eq_getElem?_getD, List.getElem?_set_ne (by omega)]
    by_cases h2 : k = i
    · subst h2; rw [if_pos rfl, List.getElem?_set_self hi]; rfl
    · rw [if_neg h2, List.getElem?_set_ne (by omega)]
      show _ = es.getD k _
      rw [List.getD_eq_getElem?_getD]
theorem sw_perm {es : List Ent3} {i j : Nat} (hi : i < es.length) (hj : j < es.length) : (sw es i j).Perm es := by
  have h := Array.swap_perm (xs := es.toArray) (i := i) (j := j) (by simpa using hi) (by simpa using hj)
  rw [Array.perm_iff_toList_perm, Array.toList_swap] at h
  simp -implicitDefEqProofs only [List.getElem_toArray, ga_eq hi, ga_eq hj] at h
  exact h
theorem take_ga {es : List Ent3} {n k : Nat} (h : k < n) : ga (es.take n) k = ga es k := by
  show (es.take n).getD k _ = es.getD k _
  rw [List.getD_eq_getElem?_getD, List.getD_eq_getElem?_getD, List.getElem?_take_of_lt h]
theorem sw_take {es : List Ent3} {i j m : Nat} (hi : i < m) (hj : j < m) (hm : m ≤ es.length) : (sw es i j).take m = sw (es.take m) i j := by
  have e1 : ga (es.take m) i = ga es i := take_ga hi
  have e2 : ga (es.take m) j = ga es j := take_ga hj
  simp -implicitDefEqProofs only [sw, e1, e2, List.take_set]

/-- No child is ahead of its parent. -/
def HeapP (es : List Ent3) (n : Nat) : Prop := ∀ k, 0 < k → k < n → leE (ga es ((k - 1) / 2)) (ga es k)
theorem heap_min {es : List Ent3} {n : Nat} (h : HeapP es n) : ∀ m k, k ≤ m → k < n → leE (ga es 0) (ga es k)
  | m, k, hm, hk => by
    by_cases h0 : k = 0
    · subst h0; exact leE_refl _
    · match m, hm with
      | 0, hm => omega
      | m + 1, hm => exact leE_trans (heap_min h m ((k - 1) / 2) (by omega) (by omega)) (h k (by omega) hk)

def UpP (es : List Ent3) (n j : Nat) : Prop := (∀ k, 0 < k → k < n → k ≠ j → leE (ga es ((k - 1) / 2)) (ga es k)) ∧ (∀ k, 0 < k → k < n → (k - 1) / 2 = j → 0 < j → leE (ga es ((j - 1) / 2)) (ga es k))
theorem up_ok (n : Nat) : ∀ (m j : Nat) (es : List Ent3), j ≤ m → j < n → n ≤ es.length → UpP es n j → HeapP (upF es j) n ∧ ((upF es j).take n).Perm (es.take n)
  | m, j, es, hm, hj, hl, ⟨h1, h2⟩ => by
    unfold upF
    by_cases h0 : j = 0
    · rw [dif_pos h0]
      exact ⟨fun k a b => h1 k a b (by omega), List.Perm.refl _⟩
    · rw [dif_neg h0]
      by_cases hc : cmpE (ga es j) (ga es ((j - 1) / 2)) < 0
      · rw [if_pos hc]
        have hp : (j - 1) / 2 < j := by omega
        generalize hq : (j - 1) / 2 = p at *
        have g := fun k => ga_sw (es := es) (i := p) (j := j) (by omega) (by omega) k
        have hU : UpP (sw es p j) n p := by
          refine ⟨fun k a b c => ?_, fun k a b c d => ?_⟩
          · rw [g k, g ((k - 1) / 2)]
            by_cases e1 : k = j
            · subst e1
              rw [if_pos rfl, hq, if_neg (by omega), if_pos rfl]
              exact leE_lt hc
            · rw [if_neg e1, if_neg c]
              by_cases e2 : (k - 1) / 2 = j
              · rw [if_pos e2]; exact h2 k a b e2 (by omega)
              · rw [if_neg e2]
                by_cases e3 : (k - 1) / 2 = p
                · rw [if_pos e3]
                  have := h1 k a b e1
                  rw [e3] at this
                  exact leE_trans (leE_lt hc) this
                · rw [if_neg e3]; exact h1 k a b e1
          · rw [g k, g ((p - 1) / 2), if_neg (by omega), if_neg (by omega)]
            have hpp := h1 p d (by omega) (by omega)
            by_cases e1 : k = j
            · rw [if_pos e1]; exact hpp
            · rw [if_neg e1, if_neg (by omega)]
              have := h1 k a b e1
              rw [c] at this
              exact leE_trans hpp this
        match m, hm with
        | 0, hm => omega
        | m + 1, hm =>
          obtain ⟨r1, r2⟩ := up_ok n m p (sw es p j) (by omega) (by omega) (by rw [sw_len]; exact hl) hU
          refine ⟨r1, r2.trans ?_⟩
          rw [sw_take (by omega) hj hl]
          exact sw_perm (by simp; omega) (by simp; omega)
      · rw [if_neg hc]
        refine ⟨fun k a b => ?_, List.Perm.refl _⟩
        by_cases e1 : k = j
        · subst e1; exact leE_ge hc
        · exact h1 k a b e1

def DownP (es : List Ent3) (m i : Nat) : Prop := (∀ k, 0 < k → k < m → (k - 1) / 2 ≠ i → leE (ga es ((k - 1) / 2)) (ga es k)) ∧ (∀ k, 0 < k → k < m → (k - 1) / 2 = i → 0 < i → leE (ga es ((i - 1) / 2)) (ga es k))
theorem pick_min {es : List Ent3} {i m : Nat} (h : 2 * i + 1 < m) : (pickJ es i m - 1) / 2 = i ∧ ∀ k, 0 < k → k < m → (k - 1) / 2 = i → leE (ga es (pickJ es i m)) (ga es k) := by
  unfold pickJ
  by_cases hc : 2 * i + 2 < m ∧ cmpE (ga es (2 * i + 2)) (ga es (2 * i + 1)) < 0
  · rw [if_pos hc]
    refine ⟨by omega, fun k a b c => ?_⟩
    have : k = 2 * i + 1 ∨ k = 2 * i + 2 := by omega
    rcases this with rfl | rfl
    · exact leE_lt hc.2
    · exact leE_refl _
  · rw [if_neg hc]
    refine ⟨by omega, fun k a b c => ?_⟩
    have : k = 2 * i + 1 ∨ k = 2 * i + 2 := by omega
    rcases this with rfl | rfl
    · exact leE_refl _
    · exact leE_ge fun h' => hc ⟨b, h'⟩
theorem down_ok (m : Nat) : ∀ (d i : Nat) (es : List Ent3), m - i ≤ d → m ≤ es.length → i ≤ m → DownP es m i → HeapP (downF es i m) m ∧ ((downF es i m).take m).Perm (es.take m) ∧ ∀ k, m ≤ k → ga (downF es i m) k = ga es k
  | d, i, es, hd, hl, him, ⟨h1, h2⟩ => by
    unfold downF
    by_cases h0 : 2 * i + 1 < m
    · rw [dif_pos h0]
      obtain ⟨p1, p2⟩ := pick_min (es := es) h0
      have p3 := pickJ_gt es i m
      have p4 := pickJ_lt es i m h0
      generalize pickJ es i m = j at *
      by_cases hc : cmpE (ga es j) (ga es i) < 0
      · rw [if_pos hc]
        have g := fun k => ga_sw (es := es) (i := i) (j := j) (by omega) (by omega) k
        have hD : DownP (sw es i j) m j := by
          refine ⟨fun k a b c => ?_, fun k a b c e => ?_⟩
          · rw [g k, g ((k - 1) / 2), if_neg c]
            by_cases e1 : (k - 1) / 2 = i
            · rw [if_pos e1]
              by_cases e2 : k = j
              · rw [if_pos e2]; exact leE_lt hc
              · rw [if_neg e2, if_neg (by omega)]; exact p2 k a b e1
            · rw [if_neg e1, if_neg (by intro h; subst h; exact e1 p1)]
              by_cases e2 : k = i
              · rw [if_pos e2]
                subst e2
                exact h2 j (by omega) p4 p1 a
              · rw [if_neg e2]; exact h1 k a b e1
          · rw [g k, g ((j - 1) / 2), p1, if_neg (by omega), if_pos rfl, if_neg (by omega), if_neg (by omega)]
            have := h1 k a b (by omega)
            rw [c] at this
            exact this
        match d, hd with
        | 0, hd => omega
        | d + 1, hd =>
          obtain ⟨r1, r2, r3⟩ := down_ok m d j (sw es i j) (by omega) (by rw [sw_len]; exact hl) (by omega) hD
          refine ⟨r1, r2.trans ?_, fun k hk => ?_⟩
          · rw [sw_take (by omega) p4 hl]
            exact sw_perm (by simp; omega) (by simp; omega)
          · rw [r3 k hk, g k, if_neg (by omega), if_neg (by omega)]
      · rw [if_neg hc]
        refine ⟨fun k a b => ?_, List.Perm.refl _, fun _ _ => rfl⟩
        by_cases e1 : (k - 1) / 2 = i
        · rw [e1]; exact leE_trans (leE_ge hc) (p2 k a b e1)
        · exact h1 k a b e1
    · rw [dif_neg h0]
      exact ⟨fun k a b => h1 k a b (by omega), List.Perm.refl _, fun _ _ => rfl⟩

theorem push_ok {es : List Ent3} {n : Nat} {e : Ent3} (hl : n ≤ es.length) (h : HeapP es n) : HeapP (pushF es n e) (n + 1) ∧ (pushF es n e).Perm (e :: es.take n) ∧ (pushF es n e).length = n + 1 := by
  have hlen : (es.take n ++ [e]).length = n + 1 := by simp; omega
  have g : ∀ k, k < n → ga (es.take n ++ [e]) k = ga es k := fun k hk => by
    rw [← ga_eq (by omega), ← ga_eq (by omega), List.getElem_append_left (by simp; omega)]; simp
  have hU : UpP (es.take n ++ [e]) (n + 1) n := by
    refine ⟨fun k a b c => ?_, fun k a b c d => by omega⟩
    rw [g k (by omega), g _ (by omega)]
    exact h k a (by omega)
  obtain ⟨r1, r2⟩ := up_ok (n + 1) n n _ (Nat.le_refl _) (by omega) (by omega) hU
  have hll : (pushF es n e).length = n + 1 := by unfold pushF; rw [upF_len, hlen]
  refine ⟨r1, ?_, hll⟩
  unfold pushF at hll ⊢
  rw [List.take_of_length_le (Nat.le_of_eq hll), List.take_of_length_le (Nat.le_of_eq hlen)] at r2
  exact r2.trans (List.perm_append_comm.trans (by simp))
theorem pop_ok {es : List Ent3} {n : Nat} (hl : n ≤ es.length) (h0 : 0 < n) (h : HeapP es n) : HeapP (popF es n) (n - 1) ∧ ga (popF es n) (n - 1) = ga es 0 ∧ (es.take n).Perm (ga es 0 :: (popF es n).take (n - 1)) ∧ (popF es n).length = es.length := by
  have g := fun k => ga_sw (es := es) (i := 0) (j := n - 1) (by omega) (by omega) k
  have hD : DownP (sw es 0 (n - 1)) (n - 1) 0 := by
    refine ⟨fun k a b c => ?_, fun k a b c d => by omega⟩
    rw [g k, g ((k - 1) / 2), if_neg (by omega), if_neg c, if_neg (by omega), if_neg (by omega)]
    exact h k a (by omega)
  obtain ⟨r1, r2, r3⟩ := down_ok (n - 1) (n - 1) 0 (sw es 0 (n - 1)) (by omega) (by rw [sw_len]; omega) (by omega) hD
  have e0 : ga (sw es 0 (n - 1)) (n - 1) = ga es 0 := by rw [g, if_pos rfl]
  refine ⟨r1, by unfold popF; rw [r3 _ (Nat.le_refl _), e0], ?_, by unfold popF; rw [downF_len _ _ _ _ rfl, sw_len]⟩
  have h1 : ((sw es 0 (n - 1)).take n).Perm (es.take n) := by
    rw [sw_take (by omega) (by omega) hl]
    exact sw_perm (by simp; omega) (by simp; omega)
  have h2 : (sw es 0 (n - 1)).take n = (sw es 0 (n - 1)).take (n - 1) ++ [ga es 0] := by
    have hlt : n - 1 < (sw es 0 (n - 1)).length := by rw [sw_len]; omega
    have h3 := List.take_succ_eq_append_getElem hlt
    rw [ga_eq hlt, e0, show n - 1 + 1 = n by omega] at h3
    exact h3
  rw [h2] at h1
  refine h1.symm.trans (List.perm_append_comm.trans ?_)
  simp -implicitDefEqProofs only [List.singleton_append]
  exact List.Perm.cons _ r2.symm
end Go.Eng


/- agenda: the least, and what is in order, as plain lists. -/
namespace Go.Eng
open Go
theorem least_min (es : List Ent3) : ∀ k, k ≤ es.length → ∀ j, j < k → leE (ga es (leastUp es k).toNat) (ga es j)
  | 0, _, j, hj => by omega
  | k + 1, hk, j, hj => by
    have ih := least_min es k (by omega)
    unfold leastUp
    by_cases hc : leastUp es k < 0 ∨ lessB (ga es k) (ga es (leastUp es k).toNat) = true
    · rw [if_pos hc, Int.toNat_natCast]
      by_cases e : j = k
      · subst e; exact leE_refl _
      · have hj2 : j < k := by omega
        rcases hc with hc | hc
        · exfalso
          have : ∃ q, k = q + 1 := ⟨k - 1, by omega⟩
          obtain ⟨q, rfl⟩ := this
          have := leastUp_lt es q
          unfold leastUp at hc
          split at hc <;> omega
        · exact leE_trans (leE_lt (less_cmp.1 hc)) (ih j hj2)
    · rw [if_neg hc]
      have hc2 : ¬ lessB (ga es k) (ga es (leastUp es k).toNat) = true := fun h => hc (.inr h)
      rw [less_cmp] at hc2
      by_cases e : j = k
      · subst e; exact leE_ge hc2
      · exact ih j (by omega)
theorem least_le {es : List Ent3} {x : Ent3} (h : x ∈ es) : leE (ga es (leastN es)) x := by
  obtain ⟨j, hj, rfl⟩ := List.getElem_of_mem h
  rw [ga_eq hj]
  exact least_min es es.length (Nat.le_refl _) j hj
theorem without_perm {es : List Ent3} {i : Nat} (h : i < es.length) : es.Perm (ga es i :: without es i) := by
  unfold without
  rw [← ga_eq h]
  have : es = es.take i ++ (es[i] :: es.drop (i + 1)) := by rw [← List.drop_eq_getElem_cons h, List.take_append_drop]
  conv => lhs; rw [this]
  exact List.perm_middle
theorem least_perm {a b : List Ent3} (h : a.Perm b) (h0 : 0 < a.length) : ga a (leastN a) = ga b (leastN b) := by
  have hb : 0 < b.length := by rw [← h.length_eq]; exact h0
  exact leE_anti (least_le (h.symm.subset (ga_mem (leastN_lt b hb)))) (least_le (h.subset (ga_mem (leastN_lt a h0))))
theorem sortRef_nil : sortRef [] = [] := by unfold sortRef; rfl
theorem sortRef_cons {es : List Ent3} (h : 0 < es.length) : sortRef es = ga es (leastN es) :: sortRef (without es (leastN es)) := by
  rw [sortRef, dif_pos h]
theorem sortRef_perm : ∀ (m : Nat) (a b : List Ent3), a.length ≤ m → a.Perm b → sortRef a = sortRef b
  | m, a, b, hm, h => by
    by_cases h0 : 0 < a.length
    · have hb : 0 < b.length := by rw [← h.length_eq]; exact h0
      have e := least_perm h h0
      rw [sortRef_cons h0, sortRef_cons hb, e]
      congr 1
      match m, hm with
      | 0, hm => omega
      | m + 1, hm =>
        refine sortRef_perm m _ _ (by rw [without_len (leastN_lt a h0)]; omega) ?_
        have h1 := (without_perm (leastN_lt a h0)).symm.trans (h.trans (without_perm (leastN_lt b hb)))
        rw [e] at h1
        exact h1.cons_inv
    · have ha : a = [] := List.eq_nil_of_length_eq_zero (by omega)
      subst ha
      have hb : b = [] := h.symm.eq_nil
      rw [hb]
/-- The first in order, and the rest. -/
theorem sortRef_min {es r : List Ent3} {x : Ent3} (h : es.Perm (x :: r)) (hx : ∀ y ∈ es, leE x y) : sortRef es = x :: sortRef r := by
  have h0 : 0 < es.length := by rw [h.length_eq]; simp
  have e : ga es (leastN es) = x := leE_anti (least_le (h.symm.subset (by simp))) (hx _ (ga_mem (leastN_lt es h0)))
  rw [sortRef_cons h0, e]
  congr 1
  refine sortRef_perm _ _ _ (Nat.le_refl _) ?_
  have h1 := (without_perm (leastN_lt es h0)).symm.trans h
  rw [e] at h1
  exact h1.cons_inv

def sortedTo (es : List Ent3) : Nat → Bool
  | 0 => true
  | k + 1 => if cmpE (ga es (k + 1)) (ga es k) < 0 then false else sortedTo es k
/-- What a heap gives next. -/
theorem heap_next {es : List Ent3} {n : Nat} (hl : n ≤ es.length) (h0 : 0 < n) (h : HeapP es n) : sortRef (es.take n) = ga (popF es n) (n - 1) :: sortRef ((popF es n).take (n - 1)) := by
  obtain ⟨r1, r2, r3, r4⟩ := pop_ok hl h0 h
  rw [r2]
  refine sortRef_min r3 fun y hy => ?_
  obtain ⟨j, hj, rfl⟩ := List.getElem_of_mem hy
  rw [ga_eq hj, take_ga (by simp at hj; omega)]
  exact heap_min h j j (Nat.le_refl _) (by simp at hj; omega)
end Go.Eng


/- paint: in which order, as plain lists. -/
namespace Go.Eng
open Go

theorem sort_perm : ∀ (m : Nat) (es : List Ent3), es.length ≤ m → (sortRef es).Perm es
  | m, es, hm => by
    by_cases h0 : 0 < es.length
    · rw [sortRef_cons h0]
      match m, hm with
      | 0, hm => omega
      | m + 1, hm => exact ((sort_perm m _ (by rw [without_len (leastN_lt es h0)]; omega)).cons _).trans (without_perm (leastN_lt es h0)).symm
    · obtain rfl : es = [] := List.eq_nil_of_length_eq_zero (by omega)
      rw [sortRef_nil]
theorem sort_pair : ∀ (m : Nat) (es : List Ent3), es.length ≤ m → (sortRef es).Pairwise leE
  | m, es, hm => by
    by_cases h0 : 0 < es.length
    · rw [sortRef_cons h0]
      match m, hm with
      | 0, hm => omega
      | m + 1, hm =>
        have hl : (without es (leastN es)).length ≤ m := by rw [without_len (leastN_lt es h0)]; omega
        refine List.pairwise_cons.2 ⟨fun y hy => least_le ?_, sort_pair m _ hl⟩
        exact (without_perm (leastN_lt es h0)).symm.subset (.tail _ ((sort_perm m _ hl).subset hy))
    · obtain rfl : es = [] := List.eq_nil_of_length_eq_zero (by omega)
      rw [sortRef_nil]; exact .nil

def memsN (l : List Nd) (n : Nat) : List Nat := selTo (memQ l n) l.length
def partsN (l : List Nd) (n : Nat) : List Nat := selTo (partQ l n) l.length
def entN (l : List Nd) (m : Nat) : Ent3 := ⟨(styAt l m).z, m, 0⟩
def srtE (l : List Nd) (n : Nat) : List Ent3 := sortRef ((partsN l n).map (entN l))
def lowE (l : List Nd) (n : Nat) : List Ent3 := (srtE l n).takeWhile fun e => decide (e.key < 0)
def highE (l : List Nd) (n : Nat) : List Ent3 := (srtE l n).dropWhile fun e => decide (e.key < 0)
def partN (l : List Nd) (f : Nat → List Nat) (m : Nat) : List Nat := if formAt l m = true then f m else m :: memsN l m
def ctxN (l : List Nd) : Nat → Nat → List Nat
  | 0, _ => []
  | d + 1, n => [n] ++ ((lowE l n).flatMap fun e => partN l (ctxN l d) e.tie.toNat) ++ memsN l n ++ ((highE l n).flatMap fun e => partN l (ctxN l d) e.tie.toNat)
theorem mem_sel {q : Nat → Bool} {k x : Nat} : x ∈ selTo q k ↔ x < k ∧ q x = true := by simp [selTo]
theorem low_high (l : List Nd) (n : Nat) : lowE l n ++ highE l n = srtE l n := List.takeWhile_append_dropWhile
theorem srt_mem {l : List Nd} {n : Nat} {e : Ent3} : e ∈ srtE l n ↔ ∃ m ∈ partsN l n, e = entN l m := by
  unfold srtE
  rw [(sort_perm _ _ (Nat.le_refl _)).mem_iff, List.mem_map]
  exact ⟨fun ⟨m, h1, h2⟩ => ⟨m, h1, h2.symm⟩, fun ⟨m, h1, h2⟩ => ⟨m, h1, h2.symm⟩⟩
theorem tw_mem {α : Type} {p : α → Bool} : ∀ {xs : List α} {x : α}, x ∈ xs.takeWhile p → p x = true
  | [], x, h => by simp at h
  | y :: ys, x, h => by
    rw [List.takeWhile_cons] at h
    split at h
    · rename_i hp
      rcases List.mem_cons.1 h with rfl | h
      · exact hp
      · exact tw_mem h
    · simp at h
theorem dw_mem : ∀ {xs : List Ent3} {x : Ent3}, xs.Pairwise leE → x ∈ xs.dropWhile (fun e => decide (e.key < 0)) → 0 ≤ x.key
  | [], x, _, h => by simp at h
  | y :: ys, x, hp, h => by
    rw [List.dropWhile_cons] at h
    rw [List.pairwise_cons] at hp
    split at h
    · exact dw_mem hp.2 h
    · rename_i hk
      have hk : 0 ≤ y.key := by simpa using hk
      rcases List.mem_cons.1 h with rfl | h
      · exact hk
      · have := hp.1 x h
        unfold leE at this
        rw [cmpE_le] at this; omega
theorem low_key {l : List Nd} {n : Nat} {e : Ent3} (h : e ∈ lowE l n) : e.key < 0 := by simpa using tw_mem h
theorem high_key {l : List Nd} {n : Nat} {e : Ent3} (h : e ∈ highE l n) : 0 ≤ e.key := dw_mem (sort_pair _ _ (Nat.le_refl _)) h
theorem low_mem {l : List Nd} {n : Nat} {e : Ent3} (h : e ∈ lowE l n) : ∃ m ∈ partsN l n, e = entN l m := srt_mem.1 (by rw [← low_high]; exact List.mem_append_left _ h)
theorem high_mem {l : List Nd} {n : Nat} {e : Ent3} (h : e ∈ highE l n) : ∃ m ∈ partsN l n, e = entN l m := srt_mem.1 (by rw [← low_high]; exact List.mem_append_right _ h)
theorem sel_nodup (q : Nat → Bool) (k : Nat) : (selTo q k).Nodup := by unfold selTo; exact List.Pairwise.filter _ List.nodup_range
theorem ent_ne {l : List Nd} {a b : Nat} (h : a ≠ b) : entN l a ≠ entN l b := fun e => h (by have := congrArg Ent3.tie e; simp [entN] at this; omega)
theorem srt_pair (l : List Nd) (n : Nat) : (srtE l n).Pairwise fun a b => leE a b ∧ a ≠ b := by
  have h1 := sort_pair _ ((partsN l n).map (entN l)) (Nat.le_refl _)
  have h2 : (srtE l n).Nodup := by
    refine (sort_perm _ ((partsN l n).map (entN l)) (Nat.le_refl _)).symm.nodup ?_
    exact List.Pairwise.map _ (fun a b hab => ent_ne hab) (sel_nodup _ _)
  exact h1.and h2

/-- One spot's way. -/
def ltN (l : List Nd) (a b : Nat) : Prop := cmpW (wayAt l a) (wayAt l b) < 0
theorem cmpW_pre (h x y : List Stp) : cmpW (h ++ x) (h ++ y) = cmpW x y := by
  induction h with
  | nil => rfl
  | cons a h ih => rw [List.cons_append, List.cons_append, cmpW, if_neg (by simp [cmpT_zero]), ih]
def Under (l : List Nd) (n : Nat) (s : Stp) (x : Nat) : Prop := ∃ w, wayAt l x = headW l n ++ s :: w
theorem under_lt {l : List Nd} {n x y : Nat} {s t : Stp} (hx : Under l n s x) (hy : Under l n t y) (h : cmpT s t < 0) : ltN l x y := by
  obtain ⟨u, hu⟩ := hx
  obtain ⟨v, hv⟩ := hy
  unfold ltN
  rw [hu, hv, cmpW_pre, cmpW, if_pos (by omega)]; exact h
theorem self_under {l : List Nd} {n : Nat} (h : leadAt l n = true) : Under l n ⟨0, 0, 0⟩ n := by
  refine ⟨[], ?_⟩
  have hg := group_lead h
  simp -implicitDefEqProofs only [wayAt, lead_made h, if_true, wayRev, hg, lastAt, headW, List.reverse_cons]
theorem mems_in {l : List Nd} {n m : Nat} (h : m ∈ memsN l n) : m < l.length ∧ madeAt l m = true ∧ groupAt l m = n ∧ m ≠ n := by
  obtain ⟨h1, h2⟩ := mem_sel.1 h
  simp -implicitDefEqProofs only [memQ, Bool.and_eq_true, decide_eq_true_eq, beq_iff_eq] at h2
  refine ⟨h1, ?_, h2.2, h2.1⟩
  cases hm : madeAt l m with
  | true => rfl
  | false => have := h2.2; simp [groupAt, hm] at this
theorem mems_under {l : List Nd} {n m : Nat} (h : m ∈ memsN l n) : Under l n ⟨2, 0, m⟩ m := by
  obtain ⟨_, hm, hg, hne⟩ := mems_in h
  refine ⟨[], ?_⟩
  simp -implicitDefEqProofs only [wayAt, hm, if_true, wayRev, hg, lastAt, headW, List.reverse_cons]
  rw [if_neg (by omega)]
theorem parts_in {l : List Nd} {n p : Nat} (h : p ∈ partsN l n) : p < l.length ∧ leadAt l p = true ∧ ctxAt l p = n ∧ p ≠ n ∧ 0 < p := by
  obtain ⟨h1, h2⟩ := mem_sel.1 h
  have h3 := h2
  simp -implicitDefEqProofs only [partQ, Bool.and_eq_true, decide_eq_true_eq, beq_iff_eq] at h2
  refine ⟨h1, h2.1.2, h2.2, h2.1.1, ?_⟩
  apply Nat.pos_of_ne_zero
  rintro rfl
  rw [part_none (.inr rfl)] at h3; cases h3
theorem parts_head {l : List Nd} {n p : Nat} (h : p ∈ partsN l n) : headW l p = headW l n ++ [stepAt l p] := by
  obtain ⟨_, _, hc, _, h0⟩ := parts_in h
  unfold headW
  rw [chain_cons (by omega), hc, List.map_cons, List.reverse_cons]
theorem under_part {l : List Nd} {n p x : Nat} {s : Stp} (h : p ∈ partsN l n) (hx : Under l p s x) : Under l n (stepAt l p) x := by
  obtain ⟨w, hw⟩ := hx
  exact ⟨s :: w, by rw [hw, parts_head h]; simp⟩
theorem parts_lt {l : List Nd} (hs : Shp l) {n p : Nat} (h : p ∈ partsN l n) : n < p := by
  obtain ⟨h1, h2, h3, h4, h5⟩ := parts_in h
  have := ctx_lt (l := l) (n := (p : Int)) (by omega)
  omega
/-- All that is painted for one. -/
theorem ctx_under {l : List Nd} : ∀ (d n x : Nat), formAt l n = true → x ∈ ctxN l d n → (x < l.length ∧ madeAt l x = true) ∧ ∃ s, Under l n s x
  | 0, n, x, _, h => by simp [ctxN] at h
  | d + 1, n, x, hf, h => by
    have hP : ∀ e, (∃ m ∈ partsN l n, e = entN l m) → x ∈ partN l (ctxN l d) e.tie.toNat → (x < l.length ∧ madeAt l x = true) ∧ ∃ s, Under l n s x := fun e he hx => by
      obtain ⟨m, hm, rfl⟩ := he
      obtain ⟨h1, h2, h3, h4, h5⟩ := parts_in hm
      have ht : (entN l m).tie.toNat = m := by simp [entN]
      rw [ht] at hx
      unfold partN at hx
      split at hx
      · rename_i hfm
        obtain ⟨a, s, hu⟩ := ctx_under d m x hfm hx
        exact ⟨a, _, under_part hm hu⟩
      · rcases List.mem_cons.1 hx with rfl | hx
        · exact ⟨⟨h1, lead_made h2⟩, _, under_part hm (self_under h2)⟩
        · obtain ⟨a, b, _, _⟩ := mems_in hx
          exact ⟨⟨a, b⟩, _, under_part hm (mems_under hx)⟩
    rw [ctxN] at h
    simp -implicitDefEqProofs only [List.mem_append, List.mem_flatMap, List.mem_singleton] at h
    rcases h with ((rfl | ⟨e, he, hx⟩) | hx) | ⟨e, he, hx⟩
    · have := form_lead hf
      have hm := lead_made this
      exact ⟨⟨by simp [madeAt, inL] at hm; exact hm.1, hm⟩, _, self_under this⟩
    · exact hP e (low_mem he) hx
    · obtain ⟨a, b, _, _⟩ := mems_in hx
      exact ⟨⟨a, b⟩, _, mems_under hx⟩
    · exact hP e (high_mem he) hx
end Go.Eng


/- paint: all is painted, once, in order. -/
namespace Go.Eng
open Go

theorem step_lt {l : List Nd} {a b : Nat} (h : (styAt l a).z < (styAt l b).z ∨ ((styAt l a).z = (styAt l b).z ∧ a < b)) : cmpT (stepAt l a) (stepAt l b) < 0 := by
  rw [cmpT_neg]
  unfold stepAt
  split <;> split <;> (try split) <;> (try split) <;> simp <;> omega
theorem step_low {l : List Nd} {a : Nat} (h : (styAt l a).z < 0) : (stepAt l a).layer = 1 := by unfold stepAt; rw [if_pos h]
theorem step_high {l : List Nd} {a : Nat} (h : 0 ≤ (styAt l a).z) : 3 ≤ (stepAt l a).layer := by
  unfold stepAt
  rw [if_neg (by omega)]
  split <;> simp
theorem layer_lt {a b : Stp} (h : a.layer < b.layer) : cmpT a b < 0 := cmpT_neg.2 (.inl h)
theorem mems_pair {l : List Nd} {n : Nat} : (memsN l n).Pairwise (ltN l) := by
  have h : (memsN l n).Pairwise (· < ·) := by unfold memsN selTo; exact List.Pairwise.filter _ List.pairwise_lt_range
  refine List.Pairwise.imp_of_mem (fun {a b} ha hb hab => ?_) h
  exact under_lt (mems_under ha) (mems_under hb) (cmpT_neg.2 (.inr ⟨rfl, .inr ⟨rfl, by simpa using hab⟩⟩))
theorem part_under {l : List Nd} {d n p x : Nat} (hp : p ∈ partsN l n) (hx : x ∈ partN l (ctxN l d) p) : Under l n (stepAt l p) x := by
  unfold partN at hx
  split at hx
  · rename_i hfm
    obtain ⟨a, s, hu⟩ := ctx_under d p x hfm hx
    exact under_part hp hu
  · rcases List.mem_cons.1 hx with rfl | hx
    · exact under_part hp (self_under (parts_in hp).2.1)
    · exact under_part hp (mems_under hx)
theorem ctx_pair {l : List Nd} : ∀ (d n : Nat), formAt l n = true → (ctxN l d n).Pairwise (ltN l)
  | 0, n, _ => .nil
  | d + 1, n, hf => by
    have hpp : ∀ p, p ∈ partsN l n → (partN l (ctxN l d) p).Pairwise (ltN l) := fun p hp => by
      unfold partN
      split
      · rename_i h; exact ctx_pair d p h
      · refine List.pairwise_cons.2 ⟨fun y hy => ?_, mems_pair⟩
        exact under_lt (self_under (parts_in hp).2.1) (mems_under hy) (layer_lt (by simp))
    have hE : ∀ (E : List Ent3), (∀ e ∈ E, ∃ m ∈ partsN l n, e = entN l m) → E.Pairwise (fun a b => leE a b ∧ a ≠ b) → (E.flatMap fun e => partN l (ctxN l d) e.tie.toNat).Pairwise (ltN l) := fun E hm hpw => by
      rw [List.pairwise_flatMap]
      refine ⟨fun e he => ?_, List.Pairwise.imp_of_mem (fun {a b} ha hb hab x hx y hy => ?_) hpw⟩
      · obtain ⟨m, h1, rfl⟩ := hm e he
        have ht : (entN l m).tie.toNat = m := by simp [entN]
        rw [ht]; exact hpp m h1
      · obtain ⟨m, h1, rfl⟩ := hm a ha
        obtain ⟨k, h2, rfl⟩ := hm b hb
        have t1 : (entN l m).tie.toNat = m := by simp [entN]
        have t2 : (entN l k).tie.toNat = k := by simp [entN]
        rw [t1] at hx
        rw [t2] at hy
        refine under_lt (part_under h1 hx) (part_under h2 hy) (step_lt ?_)
        obtain ⟨q1, q2⟩ := hab
        unfold leE at q1
        rw [cmpE_le] at q1
        have hmk : m ≠ k := fun e => q2 (by rw [e])
        simp -implicitDefEqProofs only [entN] at q1
        omega
    have hsp := srt_pair l n
    rw [← low_high, List.pairwise_append] at hsp
    have eL : ∀ e ∈ lowE l n, ∃ m ∈ partsN l n, e = entN l m := fun e he => low_mem he
    have eH : ∀ e ∈ highE l n, ∃ m ∈ partsN l n, e = entN l m := fun e he => high_mem he
    have uL : ∀ x, x ∈ ((lowE l n).flatMap fun e => partN l (ctxN l d) e.tie.toNat) → ∃ p ∈ partsN l n, (styAt l p).z < 0 ∧ Under l n (stepAt l p) x := fun x hx => by
      obtain ⟨e, he, hx⟩ := List.mem_flatMap.1 hx
      have hk := low_key he
      obtain ⟨m, h1, rfl⟩ := eL e he
      have ht : (entN l m).tie.toNat = m := by simp [entN]
      rw [ht] at hx
      exact ⟨m, h1, hk, part_under h1 hx⟩
    have uH : ∀ x, x ∈ ((highE l n).flatMap fun e => partN l (ctxN l d) e.tie.toNat) → ∃ p ∈ partsN l n, 0 ≤ (styAt l p).z ∧ Under l n (stepAt l p) x := fun x hx => by
      obtain ⟨e, he, hx⟩ := List.mem_flatMap.1 hx
      have hk := high_key he
      obtain ⟨m, h1, rfl⟩ := eH e he
      have ht : (entN l m).tie.toNat = m := by simp [entN]
      rw [ht] at hx
      exact ⟨m, h1, hk, part_under h1 hx⟩
    have u0 := self_under (form_lead hf)
    rw [ctxN, List.pairwise_append, List.pairwise_append, List.pairwise_append]
    refine ⟨⟨⟨List.pairwise_singleton _ _, hE _ eL hsp.1, fun a ha b hb => ?_⟩, mems_pair, fun a ha b hb => ?_⟩, hE _ eH hsp.2.1, fun a ha b hb => ?_⟩
    · obtain ⟨p, h1, h2, h3⟩ := uL b hb
      rw [List.mem_singleton] at ha
      subst ha
      exact under_lt u0 h3 (layer_lt (by rw [step_low h2]; simp))
    · rcases List.mem_append.1 ha with ha | ha
      · rw [List.mem_singleton] at ha
        subst ha
        exact under_lt u0 (mems_under hb) (layer_lt (by simp))
      · obtain ⟨p, h1, h2, h3⟩ := uL a ha
        exact under_lt h3 (mems_under hb) (layer_lt (by rw [step_low h2]; simp))
    · obtain ⟨p, h1, h2, h3⟩ := uH b hb
      have h4 := step_high h2
      rcases List.mem_append.1 ha with ha | ha
      · rcases List.mem_append.1 ha with ha | ha
        · rw [List.mem_singleton] at ha
          subst ha
          exact under_lt u0 h3 (layer_lt (by simp; omega))
        · obtain ⟨p', g1, g2, g3⟩ := uL a ha
          exact under_lt g3 h3 (layer_lt (by rw [step_low g2]; omega))
      · exact under_lt (mems_under ha) h3 (layer_lt (by simp; omega))

theorem mem_srt {l : List Nd} {d n p x : Nat} (hp : p ∈ partsN l n) (hx : x ∈ partN l (ctxN l d) p) : x ∈ ctxN l (d + 1) n := by
  have h1 : entN l p ∈ srtE l n := srt_mem.2 ⟨p, hp, rfl⟩
  have ht : (entN l p).tie.toNat = p := by simp [entN]
  rw [← low_high] at h1
  rw [ctxN]
  rcases List.mem_append.1 h1 with h1 | h1
  · exact List.mem_append_left _ (List.mem_append_left _ (List.mem_append_right _ (List.mem_flatMap.2 ⟨_, h1, by rw [ht]; exact hx⟩)))
  · exact List.mem_append_right _ (List.mem_flatMap.2 ⟨_, h1, by rw [ht]; exact hx⟩)
theorem chain_split {l : List Nd} : ∀ (m : Nat) (g : Int) (u : List Int) (p : Int) (r : List Int), g.toNat ≤ m → chain l g = u ++ p :: r → 0 < p ∧ r = chain l (ctxAt l p)
  | m, g, u, p, r, hm, h => by
    by_cases h0 : 0 < g
    · rw [chain_cons h0] at h
      match u with
      | [] =>
        rw [List.nil_append, List.cons.injEq] at h
        obtain ⟨rfl, rfl⟩ := h
        exact ⟨h0, rfl⟩
      | a :: u =>
        rw [List.cons_append, List.cons.injEq] at h
        have hlt := ctx_lt (l := l) h0
        match m, hm with
        | 0, hm => omega
        | m + 1, hm => exact chain_split m _ u p r (by omega) h.2
    · rw [chain_nil h0] at h; simp at h
theorem chain_form {l : List Nd} (hs : Shp l) : ∀ (m : Nat) (g : Int) (c : Int), g.toNat ≤ m → madeAt l g = true → c ∈ chain l g → c = g ∨ formAt l c = true
  | m, g, c, hm, hg, h => by
    by_cases h0 : 0 < g
    · rw [chain_cons h0] at h
      rcases List.mem_cons.1 h with rfl | h
      · exact .inl rfl
      · have hlt := ctx_lt (l := l) h0
        obtain ⟨k, hk⟩ : ∃ k : Nat, g = k := ⟨g.toNat, by omega⟩
        subst hk
        obtain ⟨u, a, b, e, f⟩ := ctx_foundM hs (by omega) hg
        match m, hm with
        | 0, hm => omega
        | m + 1, hm =>
          rcases chain_form hs m _ c (by omega) (by rw [b]; exact lead_made (form_lead e)) h with h | h
          · rw [b] at h
            rw [h]; exact .inr e
          · exact .inr h
    · rw [chain_nil h0] at h; simp at h
theorem ctx_all {l : List Nd} (hs : Shp l) : ∀ (d n x : Nat), formAt l n = true → l.length < n + d → x < l.length → madeAt l x = true → n ∈ pth l x → x ∈ ctxN l d n
  | 0, n, x, hf, hd, hx, hm, hn => by have := pth_le x n hn; omega
  | d + 1, n, x, hf, hd, hx, hm, hn => by
    obtain ⟨i, hi, h1, h2, h3⟩ := fst_pass hn (form_lead hf)
    have hg : groupAt l x = (pth l x)[i] := by simp [groupAt, hm, h1]
    rw [pth_drop x i hi] at h3
    have hgx := List.getElem_mem hi
    have hgl := pth_lt hx hi
    generalize (pth l x)[i] = g at *
    obtain ⟨u, hu⟩ := chain_pass hf _ _ (Nat.le_refl _) hgl (lead_made h2) h3
    have hxg : x = g ∨ x ∈ memsN l g := by
      by_cases e : x = g
      · exact .inl e
      · exact .inr (mem_sel.2 ⟨hx, by simp [memQ, hg, e]⟩)
    rcases List.eq_nil_or_concat u with rfl | ⟨u', p, rfl⟩
    · have hgn : g = n := by
        rw [List.nil_append] at hu
        by_cases g0 : 0 < g
        · by_cases n0 : 0 < n
          · rw [chain_cons (by omega), chain_cons (n := (n : Int)) (by omega), List.cons.injEq] at hu; omega
          · rw [chain_cons (by omega), chain_nil (n := (n : Int)) (by omega)] at hu; simp at hu
        · by_cases n0 : 0 < n
          · rw [chain_nil (by omega), chain_cons (n := (n : Int)) (by omega)] at hu; simp at hu
          · omega
      subst hgn
      rw [ctxN]
      refine List.mem_append_left _ ?_
      rcases hxg with rfl | hxg
      · exact List.mem_append_left _ (List.mem_append_left _ (by simp))
      · exact List.mem_append_right _ hxg
    · rw [List.concat_eq_append, List.append_assoc, List.singleton_append] at hu
      obtain ⟨hp0, hr⟩ := chain_split _ _ _ _ _ (Nat.le_refl _) hu
      have hpm : p ∈ chain l g := by rw [hu]; simp
      obtain ⟨k, rfl, hk0, hkg⟩ := chain_mem _ _ (Nat.le_refl _) hgl (lead_made h2) p hpm
      have hkm : madeAt l k = true := by
        rcases chain_form hs _ _ _ (Nat.le_refl _) (lead_made h2) hpm with e | e
        · rw [e]; exact lead_made h2
        · exact lead_made (form_lead e)
      have hkl : leadAt l k = true := by
        rcases chain_form hs _ _ _ (Nat.le_refl _) (lead_made h2) hpm with e | e
        · rw [e]; exact h2
        · exact form_lead e
      have hkL : k < l.length := by simp [madeAt, inL] at hkm; exact hkm.1
      obtain ⟨c, c1, c2, c3, c4⟩ := ctx_foundM hs hk0 hkm
      have hcn : c = n := by
        rw [c2] at hr
        by_cases n0 : 0 < n
        · rw [chain_cons (n := (n : Int)) (by omega)] at hr
          by_cases c0 : 0 < c
          · rw [chain_cons (n := (c : Int)) (by omega), List.cons.injEq] at hr; omega
          · rw [chain_nil (n := (c : Int)) (by omega)] at hr; simp at hr
        · rw [chain_nil (n := (n : Int)) (by omega)] at hr
          by_cases c0 : 0 < c
          · rw [chain_cons (n := (c : Int)) (by omega)] at hr; simp at hr
          · omega
      subst hcn
      have hpp : k ∈ partsN l c := mem_sel.2 ⟨hkL, by simp [partQ, hkl, c2]; omega⟩
      have hlt := parts_lt hs hpp
      refine mem_srt hpp ?_
      unfold partN
      split
      · rename_i hfk
        exact ctx_all hs d k x hfk (by omega) hx hm (pth_sub hgx _ hkg)
      · rename_i hfk
        rcases chain_form hs _ _ _ (Nat.le_refl _) (lead_made h2) hpm with e | e
        · have e : k = g := by omega
          subst e
          rcases hxg with rfl | hxg
          · exact .head _
          · exact .tail _ hxg
        · exact absurd e hfk
end Go.Eng


/- paint: items in order; the document's list. -/
namespace Go.Eng
open Go

def spotI (x : Itm) : Spt := ⟨x.node, x.kind⟩
def itLt (l : List Nd) (a b : Itm) : Prop := lessAt l (spotI a) (spotI b) = true
def paintI (l : List Nd) (bx : List Bx) (cl : List Rc) : List Itm := (ctxN l (l.length + 1) 0).flatMap (ownI l bx cl)
section
variable {l : List Nd} {bx : List Bx} {cl : List Rc}
theorem own_mem {n : Nat} {x : Itm} (h : x ∈ ownI l bx cl n) : x.node = n ∧ (x.kind = 0 ∨ x.kind = 1) := by
  unfold ownI ownS backI lineI at h
  rcases List.mem_append.1 h with h | h
  · split at h
    · simp at h
    · simp at h; subst h; exact ⟨rfl, .inl rfl⟩
  · split at h
    · simp at h
    · simp at h; subst h; exact ⟨rfl, .inr rfl⟩
theorem own_len {n : Nat} : (ownI l bx cl n).length ≤ 2 := by
  unfold ownI ownS backI lineI
  split <;> split <;> simp
theorem own_pair {n : Nat} (hm : madeAt l n = true) : (ownI l bx cl n).Pairwise (itLt l) := by
  unfold ownI ownS backI lineI
  split <;> split <;> simp
  unfold itLt lessAt spotI
  simp [hm]
theorem paint_mem (hs : Shp l) (h0 : madeAt l 0 = true) {x : Itm} : x ∈ paintI l bx cl ↔ ∃ n, n < l.length ∧ madeAt l n = true ∧ x ∈ ownI l bx cl n := by
  have hf := form_zero h0
  unfold paintI
  rw [List.mem_flatMap]
  constructor
  · rintro ⟨n, hn, hx⟩
    obtain ⟨⟨a, b⟩, _⟩ := ctx_under _ 0 n hf hn
    exact ⟨n, a, b, hx⟩
  · rintro ⟨n, hn, hm, hx⟩
    exact ⟨n, ctx_all hs _ 0 n hf (by omega) hn hm (zero_mem hs n n (by omega) hn), hx⟩
theorem paint_pair (h0 : madeAt l 0 = true) : (paintI l bx cl).Pairwise (itLt l) := by
  have hf := form_zero h0
  unfold paintI
  rw [List.pairwise_flatMap]
  refine ⟨fun n hn => own_pair (ctx_under _ 0 n hf hn).1.2, List.Pairwise.imp_of_mem (fun {a b} ha hb hab x hx y hy => ?_) (ctx_pair _ 0 hf)⟩
  obtain ⟨⟨a1, a2⟩, _⟩ := ctx_under _ 0 a hf ha
  obtain ⟨⟨b1, b2⟩, _⟩ := ctx_under _ 0 b hf hb
  obtain ⟨x1, _⟩ := own_mem hx
  obtain ⟨y1, _⟩ := own_mem hy
  unfold itLt
  rw [less_iff]
  have hne : a ≠ b := fun e => by
    subst e
    unfold ltN at hab
    rw [cmpW_zero.2 rfl] at hab; omega
  simp -implicitDefEqProofs only [spotI, x1, y1]
  exact ⟨a2, b2, .inr ⟨by omega, hab⟩⟩
theorem itLt_irr {a : Itm} : ¬ itLt l a a := fun h => less_asym h h
theorem sorted_ext : ∀ {xs ys : List Itm}, xs.Pairwise (itLt l) → ys.Pairwise (itLt l) → (∀ a, a ∈ xs ↔ a ∈ ys) → xs = ys
  | [], [], _, _, _ => rfl
  | [], y :: ys, _, _, h => by have := (h y).2 (.head _); simp at this
  | x :: xs, [], _, _, h => by have := (h x).1 (.head _); simp at this
  | x :: xs, y :: ys, hx, hy, h => by
    rw [List.pairwise_cons] at hx hy
    have e : x = y := by
      rcases List.mem_cons.1 ((h x).1 (.head _)) with e | h1
      · exact e
      · rcases List.mem_cons.1 ((h y).2 (.head _)) with e | h2
        · exact e.symm
        · exact absurd (hx.1 y h2) (fun q => less_asym q (hy.1 x h1))
    subst e
    congr 1
    refine sorted_ext hx.2 hy.2 (fun a => ⟨fun ha => ?_, fun ha => ?_⟩)
    · rcases List.mem_cons.1 ((h a).1 (.tail _ ha)) with e | h1
      · subst e; exact absurd (hx.1 a ha) itLt_irr
      · exact h1
    · rcases List.mem_cons.1 ((h a).2 (.tail _ ha)) with e | h1
      · subst e; exact absurd (hy.1 a ha) itLt_irr
      · exact h1

/-- Where one is put in the document. -/
def insAt (l : List Nd) (x : Itm) (out : List Itm) : Nat := (out.takeWhile fun y => lessAt l (spotI y) (spotI x)).length
def insI (l : List Nd) (x : Itm) (out : List Itm) : List Itm := out.take (insAt l x out) ++ [x] ++ out.drop (insAt l x out)
theorem tw_take {α : Type} {p : α → Bool} : ∀ {xs : List α}, xs.take (xs.takeWhile p).length = xs.takeWhile p ∧ xs.drop (xs.takeWhile p).length = xs.dropWhile p
  | [] => ⟨rfl, rfl⟩
  | x :: xs => by
    rw [List.takeWhile_cons, List.dropWhile_cons]
    split
    · obtain ⟨a, b⟩ := tw_take (p := p) (xs := xs)
      exact ⟨by rw [List.length_cons, List.take_succ_cons, a], by rw [List.length_cons, List.drop_succ_cons, b]⟩
    · exact ⟨rfl, rfl⟩
theorem ins_eq {x : Itm} {out : List Itm} : insI l x out = (out.takeWhile fun y => lessAt l (spotI y) (spotI x)) ++ x :: (out.dropWhile fun y => lessAt l (spotI y) (spotI x)) := by
  unfold insI insAt
  rw [tw_take.1, tw_take.2]; simp
theorem ins_mem {x a : Itm} {out : List Itm} : a ∈ insI l x out ↔ a = x ∨ a ∈ out := by
  rw [ins_eq, List.mem_append, List.mem_cons]
  constructor
  · rintro (h | h | h)
    · exact .inr ((List.takeWhile_sublist _).subset h)
    · exact .inl h
    · exact .inr ((List.dropWhile_sublist _).subset h)
  · rintro (h | h)
    · exact .inr (.inl h)
    · rw [← List.takeWhile_append_dropWhile (p := fun y => lessAt l (spotI y) (spotI x)) (l := out), List.mem_append] at h
      exact h.elim .inl (fun h => .inr (.inr h))
theorem dw_head {x : Itm} : ∀ {out : List Itm} {y : Itm} {r : List Itm}, (out.dropWhile fun y => lessAt l (spotI y) (spotI x)) = y :: r → lessAt l (spotI y) (spotI x) = false
  | [], y, r, h => by simp at h
  | z :: zs, y, r, h => by
    rw [List.dropWhile_cons] at h
    split at h
    · exact dw_head h
    · rename_i hz; cases h; simpa using hz
theorem ins_pair {x : Itm} {out : List Itm} (hp : out.Pairwise (itLt l)) (hx : madeAt l x.node = true) (ho : ∀ y ∈ out, madeAt l y.node = true ∧ spotI y ≠ spotI x) : (insI l x out).Pairwise (itLt l) := by
  have hsplit := List.takeWhile_append_dropWhile (p := fun y => lessAt l (spotI y) (spotI x)) (l := out)
  rw [ins_eq]
  have h2 := hp
  rw [← hsplit, List.pairwise_append] at h2
  obtain ⟨p1, p2, p3⟩ := h2
  have hgt : ∀ y ∈ (out.dropWhile fun y => lessAt l (spotI y) (spotI x)), itLt l x y := by
    cases hd : (out.dropWhile fun y => lessAt l (spotI y) (spotI x)) with
    | nil => intro y hy; simp at hy
    | cons z r =>
      have hz := dw_head hd
      have hzm : z ∈ out := (List.dropWhile_sublist _).subset (by rw [hd]; exact .head _)
      have hxz : itLt l x z := by
        rcases less_total hx (ho z hzm).1 (Ne.symm (ho z hzm).2) with h | h
        · exact h
        · rw [hz] at h; cases h
      rw [hd, List.pairwise_cons] at p2
      intro y hy
      rcases List.mem_cons.1 hy with rfl | hy
      · exact hxz
      · exact less_trans hxz (p2.1 y hy)
  rw [List.pairwise_append, List.pairwise_cons]
  refine ⟨p1, ⟨hgt, p2⟩, fun a ha b hb => ?_⟩
  rcases List.mem_cons.1 hb with rfl | hb
  · exact tw_mem (p := fun y => lessAt l (spotI y) (spotI b)) ha
  · exact p3 a ha b hb
theorem insF_ok : ∀ (xs out : List Itm), out.Pairwise (itLt l) → (∀ x ∈ xs, madeAt l x.node = true) → xs.Pairwise (fun a b => spotI a ≠ spotI b) → (∀ y ∈ out, madeAt l y.node = true ∧ ∀ x ∈ xs, spotI y ≠ spotI x) →
    (xs.foldl (fun o x => insI l x o) out).Pairwise (itLt l) ∧ ∀ a, a ∈ xs.foldl (fun o x => insI l x o) out ↔ a ∈ out ∨ a ∈ xs
  | [], out, hp, _, _, _ => ⟨hp, fun a => by simp⟩
  | x :: xs, out, hp, hm, hd, ho => by
    rw [List.pairwise_cons] at hd
    rw [List.foldl_cons]
    obtain ⟨h1, h2⟩ := insF_ok xs (insI l x out) (ins_pair hp (hm x (.head _)) (fun y hy => ⟨(ho y hy).1, (ho y hy).2 x (.head _)⟩)) (fun y hy => hm y (.tail _ hy)) hd.2 (fun y hy => by
      rcases ins_mem.1 hy with rfl | hy
      · exact ⟨hm y (.head _), fun z hz => hd.1 z hz⟩
      · exact ⟨(ho y hy).1, fun z hz => (ho y hy).2 z (.tail _ hz)⟩)
    refine ⟨h1, fun a => ?_⟩
    rw [h2, ins_mem, List.mem_cons]
    constructor
    · rintro ((h | h) | h)
      · exact .inr (.inl h)
      · exact .inl h
      · exact .inr (.inr h)
    · rintro (h | h | h)
      · exact .inl (.inr h)
      · exact .inl (.inl h)
      · exact .inr h
end
def refTo (l : List Nd) (bx : List Bx) (cl : List Rc) : Nat → List Itm
  | 0 => []
  | k + 1 => if madeAt l k = true then (ownI l bx cl k).foldl (fun o x => insI l x o) (refTo l bx cl k) else refTo l bx cl k
section
variable {l : List Nd} {bx : List Bx} {cl : List Rc}
theorem ref_ok : ∀ k : Nat, (refTo l bx cl k).Pairwise (itLt l) ∧ ∀ a, a ∈ refTo l bx cl k ↔ ∃ n, n < k ∧ madeAt l n = true ∧ a ∈ ownI l bx cl n
  | 0 => ⟨.nil, fun a => by simp [refTo]⟩
  | k + 1 => by
    obtain ⟨h1, h2⟩ := ref_ok k
    rw [refTo]
    split
    · rename_i hm
      have hmem := fun x (hx : x ∈ ownI l bx cl k) => own_mem hx
      obtain ⟨g1, g2⟩ := insF_ok (ownI l bx cl k) (refTo l bx cl k) h1 (fun x hx => by rw [(hmem x hx).1]; exact hm)
        (List.Pairwise.imp (fun {a b} hab e => by unfold itLt at hab; rw [e] at hab; exact less_asym hab hab) (own_pair hm))
        (fun y hy => by
          obtain ⟨n, hn, hnm, hny⟩ := (h2 y).1 hy
          obtain ⟨y1, _⟩ := own_mem hny
          refine ⟨by rw [y1]; exact hnm, fun x hx e => ?_⟩
          have := congrArg Spt.n e
          simp -implicitDefEqProofs only [spotI, y1, (hmem x hx).1] at this
          omega)
      refine ⟨g1, fun a => ?_⟩
      rw [g2, h2]
      constructor
      · rintro (⟨n, a1, a2, a3⟩ | h)
        · exact ⟨n, by omega, a2, a3⟩
        · exact ⟨k, by omega, hm, h⟩
      · rintro ⟨n, a1, a2, a3⟩
        by_cases e : n = k
        · subst e; exact .inr a3
        · exact .inl ⟨n, by omega, a2, a3⟩
    · rename_i hm
      refine ⟨h1, fun a => ?_⟩
      rw [h2]
      constructor
      · rintro ⟨n, a1, a2, a3⟩; exact ⟨n, by omega, a2, a3⟩
      · rintro ⟨n, a1, a2, a3⟩
        by_cases e : n = k
        · subst e; exact absurd a2 hm
        · exact ⟨n, by omega, a2, a3⟩
theorem ref_paint (hs : Shp l) (h0 : madeAt l 0 = true) : refTo l bx cl l.length = paintI l bx cl := by
  obtain ⟨h1, h2⟩ := ref_ok (l := l) (bx := bx) (cl := cl) l.length
  exact sorted_ext h1 (paint_pair h0) fun a => by rw [h2, paint_mem hs h0]
theorem nodup_len : ∀ (L : Nat) (xs : List Nat), xs.Nodup → (∀ x ∈ xs, x < L) → xs.length ≤ L
  | 0, xs, _, h => by
    cases xs with
    | nil => exact Nat.le_refl _
    | cons x xs => have := h x (.head _); omega
  | L + 1, xs, hn, h => by
    by_cases hL : L ∈ xs
    · have h1 := nodup_len L (xs.erase L) (hn.erase L) (fun x hx => by
        have h2 := h x (List.mem_of_mem_erase hx)
        have h3 : x ≠ L := fun e => by subst e; exact (List.Nodup.mem_erase_iff hn).1 hx |>.1 rfl
        omega)
      rw [List.length_erase_of_mem hL] at h1; omega
    · have := nodup_len L xs hn (fun x hx => by
        have h2 := h x hx
        have h3 : x ≠ L := fun e => hL (e ▸ hx)
        omega)
      omega
theorem ctx_len {d n : Nat} (hf : formAt l n = true) : (ctxN l d n).length ≤ l.length := by
  refine nodup_len _ _ ?_ (fun x hx => (ctx_under d n x hf hx).1.1)
  exact List.Pairwise.imp (fun {a b} h e => by
    subst e
    unfold ltN at h
    rw [cmpW_zero.2 rfl] at h; omega) (ctx_pair d n hf)
theorem flat_len : ∀ (ns : List Nat), (ns.flatMap (ownI l bx cl)).length ≤ 2 * ns.length
  | [] => by simp
  | n :: ns => by
    have h1 := flat_len ns
    have h2 := own_len (l := l) (bx := bx) (cl := cl) (n := n)
    rw [List.flatMap_cons, List.length_append, List.length_cons]; omega
end
end Go.Eng


/- paint: a group. -/
namespace Go.Eng
open Go
/- (*decoupage/paint.painter).group -/
def c_paint_painter_group : AC := (.seq (.reg [⟨(some 6), .mv, [(.t 0)], none⟩, ⟨(some 7), .nilchk, [(.t 6)], none⟩, ⟨(some 8), (.fld 3), [(.t 7)], none⟩, ⟨(some 9), (.load 1 false), [(.t 8)], none⟩, ⟨(some 10), .mv, [(.t 1)], none⟩, ⟨(some 11), (.ixs 1), [(.t 9), (.t 10)], none⟩, ⟨(some 12), (.load 1 false), [(.t 11)], none⟩, ⟨(some 13), .len, [(.t 12)], none⟩, ⟨(some 14), .mv, [(.c (.rv (.int .i64 0)))], none⟩]) (.seq (.block 0 (.loop (.seq (.reg [⟨(some 15), (.ibin .lss), [(.t 14), (.t 13)], none⟩]) (.seq (.cond (.t 15) .skip (.exit 0)) (.seq (.seq (.block 1 (.seq (.reg [⟨(some 16), (.ixs 1), [(.t 12), (.t 14)], none⟩, ⟨(some 17), (.load 1 false), [(.t 16)], none⟩, ⟨(some 5), .mv, [(.t 17)], none⟩]) (.reg [⟨(some 18), .mv, [(.t 0)], none⟩, ⟨(some 19), .mv, [(.t 5)], none⟩, ⟨(some 20), (.call 94), [(.t 18), (.t 19)], none⟩]))) .ent) (.reg [⟨(some 21), (.ibin .add), [(.t 14), (.c (.rv (.int .i64 1)))], none⟩, ⟨(some 14), .mv, [(.t 21)], none⟩])))))) .ent))
theorem k_paint_painter_group : FnOK Go.Proofs.Try.prog 98 22 c_paint_painter_group [] := fnOK_of (by kernel_rfl)


def pM (l : List Nd) : RV := .sl 1 (memV (memQ l) l.length)
def pP (l : List Nd) : RV := .sl 1 (memV (partQ l) l.length)
/-- A call that paints. -/
def Pnt (f : Nat) (l : List Nd) (bx : List Bx) (cl : List Rc) (n : Nat) (ys : List Itm) : Prop :=
  ∀ i q : Nat, i ≠ q → ∀ xs : List Itm, (xs ++ ys).length ≤ 100000000 →
    CallR Go.Proofs.Try.prog f [.ptr i 0, .rv (.int .i64 n)] [(i, ptH l bx cl (pM l) (pP l) q xs), (q, .row 15 xs.length (rvs (itL xs)))] [(i, ptH l bx cl (pM l) (pP l) q (xs ++ ys)), (q, .row 15 (xs ++ ys).length (rvs (itL (xs ++ ys))))] (.tup [])
theorem pnt_own (l : List Nd) (hb : l.length ≤ 1000) (bx : List Bx) (cl : List Rc) (hbl : bx.length = l.length) (hcl : cl.length = l.length) (hf : bx.all fewB = true) (n : Nat) (hn : n < l.length) : Pnt 94 l bx cl n (ownI l bx cl n) :=
  fun i q hiq xs hx => sp_painter_own l hb bx cl hbl hcl hf (pM l) (pP l) rfl rfl i q hiq xs (by rw [List.length_append] at hx; omega) n hn
theorem memV_len (q : Nat → Nat → Bool) (L : Nat) : (memV q L).length = L := by simp [memV]
theorem memV_get {q : Nat → Nat → Bool} {L n : Nat} (h : n < L) : (memV q L)[n]?.getD [] = [.sl 1 (intsL (natsI (selTo (q n) L)))] := by simp [memV, h]
theorem natsI_getD {xs : List Nat} {i : Nat} (h : i < xs.length) : (intsL (natsI xs))[i]?.getD [] = [.int .i64 ((xs[i]'h : Nat) : Int)] := by simp [intsL, natsI, h]
theorem flat_take {ms : List Nat} {g : Nat → List Itm} {k : Nat} (h : k < ms.length) : (ms.take (k + 1)).flatMap g = (ms.take k).flatMap g ++ g (ms[k]'h) := by
  rw [List.take_succ_eq_append_getElem h, List.flatMap_append]; simp
theorem flat_pre {ms : List Nat} {g : Nat → List Itm} {k : Nat} : ((ms.take k).flatMap g).length ≤ (ms.flatMap g).length := by
  conv => rhs; rw [← List.take_append_drop k ms, List.flatMap_append, List.length_append]
  omega

set_option maxRecDepth 20000 in
set_option maxHeartbeats 4000000 in
theorem pnt_group (l : List Nd) (hb : l.length ≤ 1000) (bx : List Bx) (cl : List Rc) (hbl : bx.length = l.length) (hcl : cl.length = l.length) (hf : bx.all fewB = true) (n : Nat) (hn : n < l.length) : Pnt 98 l bx cl n ((memsN l n).flatMap (ownI l bx cl)) := by
  intro i q hiq xs hx
  refine callR_M k_paint_painter_group [i, q] [ptH l bx cl (pM l) (pP l) 1 xs, .row 15 xs.length (rvs (itL xs))] [ptH l bx cl (pM l) (pP l) q xs, .row 15 xs.length (rvs (itL xs))] [.ptr 0 0, .rv (.int .i64 n)] [.ptr i 0, .rv (.int .i64 n)] _ _ (by simp) (by simp [BkAll, bk_ptr, bk_rv]) rfl (by simp [nodupL, hiq]) (by simp [BkHs, ptH, rvs_inj, BkAll, bk_rv, bk_row]) (fun K hK => ?_)
  have hml := memV_len (memQ l) l.length
  have hmg := memV_get (q := memQ l) hn
  have hmL : ∀ m ∈ memsN l n, m < l.length := fun m hm => (mems_in hm).1
  have hlen : (memsN l n).length ≤ l.length := selTo_len
  have hln : (intsL (natsI (memsN l n))).length = (memsN l n).length := by simp [intsL, natsI]
  change _ = [RV.sl 1 (intsL (natsI (memsN l n)))] at hmg
  simp -implicitDefEqProofs only [c_paint_painter_group, ptH, pM, pP, go_sem]
  generalize memsN l n = ms at *
  repeat' (first | (simp -implicitDefEqProofs only [go_sem, hml, hmg, hln]) | (with_reducible refine g_noent ?_) | ((first | refine cdS (fun hg => ?_) (fun hg => ?_) | refine gdS (fun hg => ?_) (fun hg => ?_) | refine gddS (fun hg => ?_) (fun hg => ?_)) <;> try simp -implicitDefEqProofs only [hg, Bool.not_true, Bool.not_false]) | ((with_reducible apply And.intro); focus (first | trivial | omega | decide | (simp -implicitDefEqProofs only [maxLen]; omega) | (simp [maxLen, sty_len, nd_len, ndL_len, lnL_len, intsL_len, rvs_len, lensS_len] <;> omega))) | fail)
  refine g_loop (ι := Nat) (fun k => [(14, .rv (.int .i64 k)), (13, .rv (.int .i64 ms.length)), (12, .rv (.sl 1 (intsL (natsI ms)))), (0, .ptr 0 0)]) (fun k => [some (.var [.rv (kinV l), .rv (.sl 21 (bxL bx)), .rv (.sl 4 (rcL cl)), .rv (.sl 1 (memV (memQ l) l.length)), .rv (.sl 1 (memV (partQ l) l.length)), .row 1 (xs ++ (ms.take k).flatMap (ownI l bx cl)).length (xs ++ (ms.take k).flatMap (ownI l bx cl)).length]), some (.row 15 (xs ++ (ms.take k).flatMap (ownI l bx cl)).length (rvs (itL (xs ++ (ms.take k).flatMap (ownI l bx cl)))))]) (fun k => k ≤ ms.length) (fun k => ms.length - k) 0 (by simp) (by rw [List.take_zero, List.flatMap_nil, List.append_nil]; exact ent_env (by simp [lk])) (fun k hk K' hN hX hR => ?_)
  obtain ⟨X, hXe⟩ : ∃ X, X = xs ++ (ms.take k).flatMap (ownI l bx cl) := ⟨_, rfl⟩
  rw [← hXe]
  simp -implicitDefEqProofs only [go_sem]
  refine cdS (fun hg => ?_) (fun hg => ?_)
  · have hk4 : k < ms.length := by simp at hg; omega
    have wu := wrap_up (k := k) (by omega)
    have hmk := natsI_getD hk4
    have hfp := flat_pre (ms := ms) (g := ownI l bx cl) (k := k + 1)
    have hft := flat_take (g := ownI l bx cl) hk4
    have ho := pnt_own l hb bx cl hbl hcl hf (ms[k]'hk4) (hmL _ (List.getElem_mem hk4)) 0 1 (by decide) (xs ++ (ms.take k).flatMap (ownI l bx cl)) (by rw [List.append_assoc, ← hft]; rw [List.length_append] at hx ⊢; omega)
    rw [List.append_assoc xs, ← hft, ← hXe] at ho
    simp -implicitDefEqProofs only [ptH, pM, pP] at ho
    obtain ⟨Y, hYe⟩ : ∃ Y, Y = xs ++ (ms.take (k + 1)).flatMap (ownI l bx cl) := ⟨_, rfl⟩
    rw [← hYe] at ho
    generalize ms[k]'hk4 = m at *
    have y_1 := ho; repeat' (first | (simp -implicitDefEqProofs only [go_sem, hln, hmk, wu]) | (with_reducible refine g_noent ?_) | (refine g_call y_1 (by simp [PreOK, hget]; done) (by simp [okU, uph]; done) ?_) | (refine g_calld y_1 (by simp [PreOK, hget]; done) (by simp [okU, uph]; done) ?_) | ((first | refine cdS (fun hg => ?_) (fun hg => ?_) | refine gdS (fun hg => ?_) (fun hg => ?_) | refine gddS (fun hg => ?_) (fun hg => ?_)) <;> try simp -implicitDefEqProofs only [hg, Bool.not_true, Bool.not_false]) | ((with_reducible apply And.intro); focus (first | trivial | omega | decide | (simp -implicitDefEqProofs only [maxLen]; omega) | (simp [maxLen, sty_len, nd_len, ndL_len, lnL_len, intsL_len, rvs_len, lensS_len] <;> omega))) | fail)
    subst hYe
    exact hN (k + 1) _ _ (by omega) (by omega) (ent_env (by simp [lk]))
  · have hk4 : k = ms.length := by simp at hg; omega
    subst hk4
    simp -implicitDefEqProofs only [go_sem]
    refine hX _ _ _ ?_
    repeat' (first | (simp -implicitDefEqProofs only [go_sem]) | (with_reducible refine g_noent ?_) | ((first | refine cdS (fun hg => ?_) (fun hg => ?_) | refine gdS (fun hg => ?_) (fun hg => ?_) | refine gddS (fun hg => ?_) (fun hg => ?_)) <;> try simp -implicitDefEqProofs only [hg, Bool.not_true, Bool.not_false]) | ((with_reducible apply And.intro); focus (first | trivial | omega | decide | (simp -implicitDefEqProofs only [maxLen]; omega) | (simp [maxLen, sty_len, nd_len, ndL_len, lnL_len, intsL_len, rvs_len, lensS_len] <;> omega))) | fail)
    rw [List.take_length] at hXe
    subst hXe
    refine (hK _ _ _ _ [] (ent_refl _ _) ?_).1
    simp [retM, nodupL, newL, allU, keptL, retP, resL, lk, resT, RnHo, lkp, finU, hget_zero, hget_succ, hget, rnRows_rvs, rn_tup, rn_rv, rn_row, rn_ptr, rn_ifc, rn_agg, rn_dead, RnAll, ofL, rnAll_map, hiq, Ne.symm hiq, ptH, pM, pP]
end Go.Eng


/- paint: a context and its parts. -/
namespace Go.Eng
open Go
/- (*decoupage/paint.painter).part -/
def c_paint_painter_part : AC := (.seq (.seq (.reg [⟨(some 4), .mv, [(.t 0)], none⟩, ⟨(some 5), .nilchk, [(.t 4)], none⟩, ⟨(some 6), (.fld 0), [(.t 5)], none⟩, ⟨(some 7), (.load 1 false), [(.t 6)], none⟩, ⟨(some 8), .mv, [(.t 1)], none⟩, ⟨(some 9), (.call 91), [(.t 7), (.t 8)], none⟩]) (.cond (.t 9) (.seq (.reg [⟨(some 10), .mv, [(.t 0)], none⟩, ⟨(some 11), .mv, [(.t 1)], none⟩, ⟨(some 12), (.call 71), [(.t 10), (.t 11)], none⟩]) .ret) .skip)) (.seq (.reg [⟨(some 13), .mv, [(.t 0)], none⟩, ⟨(some 14), .mv, [(.t 1)], none⟩, ⟨(some 15), (.call 94), [(.t 13), (.t 14)], none⟩]) (.reg [⟨(some 16), .mv, [(.t 0)], none⟩, ⟨(some 17), .mv, [(.t 1)], none⟩, ⟨(some 18), (.call 98), [(.t 16), (.t 17)], none⟩])))
theorem k_paint_painter_part : FnOK Go.Proofs.Try.prog 97 19 c_paint_painter_part [] := fnOK_of (by kernel_rfl)

/- (*decoupage/paint.painter).context -/
def c_paint_painter_context : AC := (.seq (.reg [⟨(some 4), (.alloc [.nilsl]), [], none⟩]) (.seq (.seq (.reg [⟨(some 11), .mv, [(.t 0)], none⟩, ⟨(some 12), .nilchk, [(.t 11)], none⟩, ⟨(some 13), (.fld 4), [(.t 12)], none⟩, ⟨(some 14), (.load 1 false), [(.t 13)], none⟩, ⟨(some 15), .mv, [(.t 1)], none⟩, ⟨(some 16), (.ixs 1), [(.t 14), (.t 15)], none⟩, ⟨(some 17), (.load 1 false), [(.t 16)], none⟩, ⟨(some 18), .len, [(.t 17)], none⟩, ⟨(some 19), .mv, [(.c (.rv (.int .i64 0)))], none⟩]) (.seq (.block 0 (.loop (.seq (.reg [⟨(some 20), (.ibin .lss), [(.t 19), (.t 18)], none⟩]) (.seq (.cond (.t 20) .skip (.exit 0)) (.seq (.seq (.block 1 (.seq (.reg [⟨(some 21), (.ixs 1), [(.t 17), (.t 19)], none⟩, ⟨(some 22), (.load 1 false), [(.t 21)], none⟩, ⟨(some 6), .mv, [(.t 22)], none⟩]) (.reg [⟨(some 23), .mv, [(.t 0)], none⟩, ⟨(some 24), .nilchk, [(.t 23)], none⟩, ⟨(some 25), (.fld 0), [(.t 24)], none⟩, ⟨(some 26), (.load 1 false), [(.t 25)], none⟩, ⟨(some 27), .mv, [(.t 6)], none⟩, ⟨(some 28), (.call 51), [(.t 26), (.t 27)], none⟩, ⟨(some 29), (.fldv 44 1 false), [(.t 28)], none⟩, ⟨(some 30), .mv, [(.t 6)], none⟩, ⟨(some 31), (.build [(.int .i64 0), (.int .i64 0), (.int .i64 0)] [(0, 1), (1, 1)]), [(.t 29), (.t 30)], none⟩, ⟨(some 32), (.call 93), [(.t 4), (.t 31)], none⟩]))) .ent) (.reg [⟨(some 33), (.ibin .add), [(.t 19), (.c (.rv (.int .i64 1)))], none⟩, ⟨(some 19), .mv, [(.t 33)], none⟩])))))) .ent)) (.seq (.reg [⟨(some 34), .mv, [(.t 0)], none⟩, ⟨(some 35), .mv, [(.t 1)], none⟩, ⟨(some 36), (.call 94), [(.t 34), (.t 35)], none⟩]) (.seq (.seq (.reg [⟨(some 38), (.call 95), [(.t 4)], none⟩, ⟨(some 37), .mv, [(.t 38)], none⟩, ⟨(some 39), (.ext 0), [(.t 37)], none⟩, ⟨(some 40), (.ext 1), [(.t 37)], none⟩, ⟨(some 7), (.alloc [(.int .i64 0), (.int .i64 0), (.int .i64 0)]), [], none⟩, ⟨none, (.store 3), [(.t 7), (.t 39)], none⟩, ⟨(some 8), .mv, [(.t 40)], none⟩]) (.seq (.block 2 (.loop (.seq (.seq (.reg [⟨(some 41), .mv, [(.t 8)], none⟩, ⟨(some 42), .mv, [(.t 41)], none⟩, ⟨(some 43), (.fld 0), [(.t 7)], (some (42, true))⟩, ⟨(some 44), (.load 1 false), [(.t 43)], (some (42, true))⟩, ⟨(some 45), (.ibin .lss), [(.t 44), (.c (.rv (.int .i64 0)))], (some (42, true))⟩, ⟨(some 46), .pick, [(.t 42), (.t 45), (.c (.rv (.bool false)))], none⟩]) (.cond (.t 46) .skip (.exit 2))) (.seq (.seq (.block 3 (.seq (.reg [⟨(some 51), (.call 96), [(.t 4)], none⟩]) (.reg [⟨(some 52), .mv, [(.t 0)], none⟩, ⟨(some 53), (.fld 1), [(.t 7)], none⟩, ⟨(some 54), (.load 1 false), [(.t 53)], none⟩, ⟨(some 55), (.call 97), [(.t 52), (.t 54)], none⟩]))) .ent) (.seq (.seq (.reg [⟨(some 56), (.load 3 true), [(.t 7)], none⟩]) (.reg [⟨(some 7), (.alloc [(.int .i64 0), (.int .i64 0), (.int .i64 0)]), [], none⟩, ⟨none, (.store 3), [(.t 7), (.t 56)], none⟩])) (.reg [⟨(some 48), (.call 95), [(.t 4)], none⟩, ⟨(some 47), .mv, [(.t 48)], none⟩, ⟨(some 49), (.ext 0), [(.t 47)], none⟩, ⟨(some 50), (.ext 1), [(.t 47)], none⟩, ⟨none, (.store 3), [(.t 7), (.t 49)], none⟩, ⟨(some 8), .mv, [(.t 50)], none⟩])))))) .ent)) (.seq (.reg [⟨(some 57), .mv, [(.t 0)], none⟩, ⟨(some 58), .mv, [(.t 1)], none⟩, ⟨(some 59), (.call 98), [(.t 57), (.t 58)], none⟩]) (.seq (.reg [⟨(some 61), (.call 96), [(.t 4)], none⟩, ⟨(some 60), .mv, [(.t 61)], none⟩, ⟨(some 62), (.ext 0), [(.t 60)], none⟩, ⟨(some 63), (.ext 1), [(.t 60)], none⟩, ⟨(some 9), (.alloc [(.int .i64 0), (.int .i64 0), (.int .i64 0)]), [], none⟩, ⟨none, (.store 3), [(.t 9), (.t 62)], none⟩, ⟨(some 10), .mv, [(.t 63)], none⟩]) (.seq (.block 4 (.loop (.seq (.seq (.reg [⟨(some 64), .mv, [(.t 10)], none⟩]) (.cond (.t 64) .skip (.exit 4))) (.seq (.seq (.block 5 (.reg [⟨(some 69), .mv, [(.t 0)], none⟩, ⟨(some 70), (.fld 1), [(.t 9)], none⟩, ⟨(some 71), (.load 1 false), [(.t 70)], none⟩, ⟨(some 72), (.call 97), [(.t 69), (.t 71)], none⟩])) .ent) (.seq (.seq (.reg [⟨(some 73), (.load 3 true), [(.t 9)], none⟩]) (.reg [⟨(some 9), (.alloc [(.int .i64 0), (.int .i64 0), (.int .i64 0)]), [], none⟩, ⟨none, (.store 3), [(.t 9), (.t 73)], none⟩])) (.reg [⟨(some 66), (.call 96), [(.t 4)], none⟩, ⟨(some 65), .mv, [(.t 66)], none⟩, ⟨(some 67), (.ext 0), [(.t 65)], none⟩, ⟨(some 68), (.ext 1), [(.t 65)], none⟩, ⟨none, (.store 3), [(.t 9), (.t 67)], none⟩, ⟨(some 10), .mv, [(.t 68)], none⟩])))))) .ent)))))))
theorem k_paint_painter_context : FnOK Go.Proofs.Try.prog 71 74 c_paint_painter_context [] := fnOK_of (by kernel_rfl)


theorem ent_ghostVarP {n0 : Nat} {env : List (Nat × SV)} {h : List (Option HB)} (i0 e o : Nat) {cs : List SV} (hi : hget h i0 = some (.var cs)) (ho : cs[o]? = some (.rv .nilsl)) : Ent n0 ⟨env, h⟩ ⟨env, uph (uph h (h.length, .row e 0 [])) (i0, .var (cs.set o (.row h.length 0 0)))⟩ := by
  intro C a w R
  obtain ⟨⟨rho, RF⟩, h1, h0⟩ := R
  have hnone : hget h h.length = none := by unfold hget; rw [List.getElem?_eq_none (Nat.le_refl _)]
  have hC0 : C.h0 h.length = none := h0 _ h1
  obtain ⟨rho', S⟩ := RF.mem.ghostVar e hi ho hnone hC0
  have RF' := RF.step S
  have hlt : i0 < h.length := by
    apply Classical.byContradiction
    intro hc
    unfold hget at hi
    rw [List.getElem?_eq_none (by omega)] at hi; cases hi
  have e1 := hget_uph (h := h) (q := (h.length, .row e 0 [])) (Nat.le_refl _)
  have l1 := uph_length h (h.length, .row e 0 [])
  have e2 := hget_uph (h := uph h (h.length, .row e 0 [])) (q := (i0, .var (cs.set o (.row h.length 0 0)))) (by show i0 ≤ _; omega)
  have l2 := uph_length (uph h (h.length, .row e 0 [])) (i0, .var (cs.set o (.row h.length 0 0)))
  refine ⟨⟨rho', ?_⟩, ?_, h0⟩
  · show RepF C (lk env) (hget (uph (uph h (h.length, .row e 0 [])) (i0, .var (cs.set o (.row h.length 0 0))))) a w rho'
    rw [e2, e1]; exact RF'
  · have h1' : n0 ≤ h.length := h1
    show n0 ≤ (uph (uph h (h.length, .row e 0 [])) (i0, .var (cs.set o (.row h.length 0 0)))).length
    omega
theorem rhP_var {τ : Nat → Option Nat} {h : Hp} {rs : List RV} : RnH τ h (.var (rs.map .rv)) (.var (rs.map .rv)) := .var _ _ (rnAll_iff.1 (rnAll_map.2 rfl))
theorem rhP_rvs {τ : Nat → Option Nat} {h : Hp} {e v : Nat} {xs : List (List RV)} : RnH τ h (.row e v (rvs xs)) (.row e v (rvs xs)) := by
  obtain ⟨a, b⟩ := rnRows_rvs (τ := τ) (h := h) (xs := xs) (ys := xs) |>.2 rfl
  exact .row _ _ _ _ a b
theorem rhP_vrow {τ : Nat → Option Nat} {h : Hp} {i j v n : Nat} (hτ : τ i = some j) : RnH τ h (.var [.row i v n]) (.var [.row j v n]) := .var _ _ (rnAll_iff.1 ⟨rn_row.2 ⟨hτ, rfl, rfl⟩, trivial⟩)
theorem rhP_pt {τ : Nat → Option Nat} {h : Hp} {a b c d e : RV} {i j v n : Nat} (hτ : τ i = some j) : RnH τ h (.var [.rv a, .rv b, .rv c, .rv d, .rv e, .row i v n]) (.var [.rv a, .rv b, .rv c, .rv d, .rv e, .row j v n]) :=
  .var _ _ (rnAll_iff.1 ⟨rn_rv.2 rfl, rn_rv.2 rfl, rn_rv.2 rfl, rn_rv.2 rfl, rn_rv.2 rfl, rn_row.2 ⟨hτ, rfl, rfl⟩, trivial⟩)

section
variable (l : List Nd) (hb : l.length ≤ 1000) (bx : List Bx) (cl : List Rc) (hbl : bx.length = l.length) (hcl : cl.length = l.length) (hf : bx.all fewB = true)
include hb hbl hcl hf

set_option maxRecDepth 20000 in
set_option maxHeartbeats 4000000 in
theorem pnt_part (f : Nat → List Nat) (n : Nat) (hn : n < l.length) (hC : formAt l n = true → Pnt 71 l bx cl n ((f n).flatMap (ownI l bx cl))) : Pnt 97 l bx cl n ((partN l f n).flatMap (ownI l bx cl)) := by
  intro i q hiq xs hx
  refine callR_M k_paint_painter_part [i, q] [ptH l bx cl (pM l) (pP l) 1 xs, .row 15 xs.length (rvs (itL xs))] [ptH l bx cl (pM l) (pP l) q xs, .row 15 xs.length (rvs (itL xs))] [.ptr 0 0, .rv (.int .i64 n)] [.ptr i 0, .rv (.int .i64 n)] _ _ (by simp) (by simp [BkAll, bk_ptr, bk_rv]) rfl (by simp [nodupL, hiq]) (by simp [BkHs, ptH, rvs_inj, BkAll, bk_rv, bk_row]) (fun K hK => ?_)
  have hfr := sp_Forms l n
  simp -implicitDefEqProofs only [c_paint_painter_part, ptH, pM, pP, go_sem]
  cases hfm : formAt l n with
  | true =>
    rw [hfm] at hfr
    have he : partN l f n = f n := by unfold partN; rw [if_pos hfm]
    rw [he] at hx hK
    have hc := hC hfm 0 1 (by decide) xs hx
    simp -implicitDefEqProofs only [ptH, pM, pP] at hc
    obtain ⟨Y, hY⟩ : ∃ Y, Y = xs ++ (f n).flatMap (ownI l bx cl) := ⟨_, rfl⟩
    rw [← hY] at hc hK
    have y_1 := hfr; have y_2 := hc; repeat' (first | (simp -implicitDefEqProofs only [go_sem]) | (with_reducible refine g_noent ?_) | (with_reducible first | refine g_call0 y_1 ?_ | refine g_calld0 y_1 ?_) | (refine g_call y_2 (by simp [PreOK, hget]; done) (by simp [okU, uph]; done) ?_) | (refine g_calld y_2 (by simp [PreOK, hget]; done) (by simp [okU, uph]; done) ?_) | ((first | refine cdS (fun hg => ?_) (fun hg => ?_) | refine gdS (fun hg => ?_) (fun hg => ?_) | refine gddS (fun hg => ?_) (fun hg => ?_)) <;> try simp -implicitDefEqProofs only [hg, Bool.not_true, Bool.not_false]) | ((with_reducible apply And.intro); focus (first | trivial | omega | decide | (simp -implicitDefEqProofs only [maxLen]; omega) | (simp [maxLen, sty_len, nd_len, ndL_len, lnL_len, intsL_len, rvs_len, lensS_len] <;> omega))) | fail)
    refine (hK _ _ _ _ [] (ent_refl _ _) ?_).2
    simp [retM, nodupL, newL, allU, keptL, retP, resL, lk, resT, RnHo, lkp, finU, hget_zero, hget_succ, hget, rnRows_rvs, rn_tup, rn_rv, rn_row, rn_ptr, rn_ifc, rn_agg, rn_dead, RnAll, ofL, rnAll_map, hiq, Ne.symm hiq, ptH, pM, pP]
  | false =>
    rw [hfm] at hfr
    have he : (partN l f n).flatMap (ownI l bx cl) = ownI l bx cl n ++ (memsN l n).flatMap (ownI l bx cl) := by unfold partN; rw [if_neg (by rw [hfm]; simp), List.flatMap_cons]
    rw [he] at hx hK
    have ho := pnt_own l hb bx cl hbl hcl hf n hn 0 1 (by decide) xs (by simp -implicitDefEqProofs only [List.length_append] at hx ⊢; omega)
    have hg := pnt_group l hb bx cl hbl hcl hf n hn 0 1 (by decide) (xs ++ ownI l bx cl n) (by rw [List.append_assoc]; exact hx)
    rw [List.append_assoc] at hg
    simp -implicitDefEqProofs only [ptH, pM, pP] at ho hg
    obtain ⟨Z, hZ⟩ : ∃ Z, Z = xs ++ ownI l bx cl n := ⟨_, rfl⟩
    obtain ⟨Y, hY⟩ : ∃ Y, Y = xs ++ (ownI l bx cl n ++ (memsN l n).flatMap (ownI l bx cl)) := ⟨_, rfl⟩
    rw [← hZ] at ho hg
    rw [← hY] at hg hK
    have y_3 := hfr; have y_4 := ho; have y_5 := hg; repeat' (first | (simp -implicitDefEqProofs only [go_sem]) | (with_reducible refine g_noent ?_) | (with_reducible first | refine g_call0 y_3 ?_ | refine g_calld0 y_3 ?_) | (refine g_call y_4 (by simp [PreOK, hget]; done) (by simp [okU, uph]; done) ?_) | (refine g_calld y_4 (by simp [PreOK, hget]; done) (by simp [okU, uph]; done) ?_) | (refine g_call y_5 (by simp [PreOK, hget]; done) (by simp [okU, uph]; done) ?_) | (refine g_calld y_5 (by simp [PreOK, hget]; done) (by simp [okU, uph]; done) ?_) | ((first | refine cdS (fun hg => ?_) (fun hg => ?_) | refine gdS (fun hg => ?_) (fun hg => ?_) | refine gddS (fun hg => ?_) (fun hg => ?_)) <;> try simp -implicitDefEqProofs only [hg, Bool.not_true, Bool.not_false]) | ((with_reducible apply And.intro); focus (first | trivial | omega | decide | (simp -implicitDefEqProofs only [maxLen]; omega) | (simp [maxLen, sty_len, nd_len, ndL_len, lnL_len, intsL_len, rvs_len, lensS_len] <;> omega))) | fail)
    refine (hK _ _ _ _ [] (ent_refl _ _) ?_).1
    simp [retM, nodupL, newL, allU, keptL, retP, resL, lk, resT, RnHo, lkp, finU, hget_zero, hget_succ, hget, rnRows_rvs, rn_tup, rn_rv, rn_row, rn_ptr, rn_ifc, rn_agg, rn_dead, RnAll, ofL, rnAll_map, hiq, Ne.symm hiq, ptH, pM, pP]
end
end Go.Eng


/- paint: a context. -/
namespace Go.Eng
open Go

def pkE (es : List Ent3) (n : Nat) : Ent3 := if n = 0 then ⟨0, 0, 0⟩ else ga es 0
theorem pk_eq (es : List Ent3) (n : Nat) : (if n = 0 then (⟨0, 0, 0⟩ : Ent3).sv else (ga es 0).sv) = (pkE es n).sv := by unfold pkE; split <;> rfl
theorem ent_at0 (x : Ent3) : (x.cells.map SV.rv)[0]? = some (.rv (.int .i64 x.key)) := rfl
theorem ent_at1 (x : Ent3) : (x.cells.map SV.rv)[1]? = some (.rv (.int .i64 x.tie)) := rfl
theorem ent_len3 (x : Ent3) : x.cells.length = 3 := rfl
theorem ent_mlen3 (x : Ent3) : (x.cells.map SV.rv).length = 3 := rfl
theorem ent_tk3 (x : Ent3) : (x.cells.map SV.rv).take 3 = x.cells.map SV.rv := rfl
theorem ent_dr3 (x : Ent3) : (x.cells.map SV.rv).drop 3 = [] := rfl
theorem ent_svm (x : Ent3) : x.sv = .agg (x.cells.map SV.rv) := rfl
/-- What is painted of the first parts. -/
def parI (l : List Nd) (bx : List Bx) (cl : List Rc) (d : Nat) (es : List Ent3) : List Itm := es.flatMap fun e => (partN l (ctxN l d) e.tie.toNat).flatMap (ownI l bx cl)
section
variable {l : List Nd} {bx : List Bx} {cl : List Rc} {d n : Nat}
theorem ctx_items : (ctxN l (d + 1) n).flatMap (ownI l bx cl) = ownI l bx cl n ++ (parI l bx cl d (lowE l n) ++ ((memsN l n).flatMap (ownI l bx cl) ++ parI l bx cl d (highE l n))) := by
  rw [ctxN, List.flatMap_append, List.flatMap_append, List.flatMap_append, List.flatMap_assoc, List.flatMap_assoc]
  simp [parI]
theorem par_take {es : List Ent3} {j : Nat} (h : j < es.length) : parI l bx cl d (es.take (j + 1)) = parI l bx cl d (es.take j) ++ (partN l (ctxN l d) (es[j]'h).tie.toNat).flatMap (ownI l bx cl) := by
  unfold parI
  rw [List.take_succ_eq_append_getElem h, List.flatMap_append]; simp
theorem par_pre {es : List Ent3} {j : Nat} : (parI l bx cl d (es.take j)).length ≤ (parI l bx cl d es).length := by
  unfold parI
  conv => rhs; rw [← List.take_append_drop j es, List.flatMap_append, List.length_append]
  omega
/-- The next of those with a lesser key. -/
theorem low_next {j : Nat} {x : Ent3} {r : List Ent3} (hj : j ≤ (lowE l n).length) (hd : (srtE l n).drop j = x :: r) (hx : x.key < 0) : ∃ h : j < (lowE l n).length, (lowE l n)[j]'h = x ∧ (srtE l n).drop (j + 1) = r := by
  have hdr : (srtE l n).drop (j + 1) = r := by
    rw [← List.drop_drop, hd]; rfl
  rw [← low_high] at hd
  by_cases h : j < (lowE l n).length
  · refine ⟨h, ?_, hdr⟩
    rw [List.drop_append_of_le_length hj, List.drop_eq_getElem_cons h] at hd
    exact (List.cons.inj hd).1
  · have : j = (lowE l n).length := by omega
    subst this
    rw [List.drop_left] at hd
    have := high_key (l := l) (n := n) (e := x) (by rw [hd]; exact .head _)
    omega
theorem low_done {j : Nat} (hj : j ≤ (lowE l n).length) (hd : (srtE l n).drop j = [] ∨ ∃ x r, (srtE l n).drop j = x :: r ∧ ¬ x.key < 0) : j = (lowE l n).length := by
  apply Classical.byContradiction
  intro hne
  have h : j < (lowE l n).length := by omega
  rw [← low_high, List.drop_append_of_le_length hj, List.drop_eq_getElem_cons h] at hd
  rcases hd with hd | ⟨x, r, hd, hx⟩
  · cases hd
  · rw [List.cons_append] at hd
    rw [← (List.cons.inj hd).1] at hx
    exact hx (low_key (List.getElem_mem h))
end
section
variable (l : List Nd) (hs : Shp l) (hb : l.length ≤ 1000) (bx : List Bx) (cl : List Rc) (hbl : bx.length = l.length) (hcl : cl.length = l.length) (hf : bx.all fewB = true)
include hs hb hbl hcl hf

set_option maxRecDepth 20000 in
set_option maxHeartbeats 16000000 in
theorem pnt_context : ∀ (d n : Nat), formAt l n = true → l.length < n + d → Pnt 71 l bx cl n ((ctxN l d n).flatMap (ownI l bx cl))
  | 0, n, hfm, hd => by
    have := lead_made (form_lead hfm)
    simp [madeAt, inL] at this
    omega
  | d + 1, n, hfm, hd => by
    have hn : n < l.length := by
      have := lead_made (form_lead hfm)
      simp [madeAt, inL] at this
      exact this.1
    have hpart : ∀ m, m ∈ partsN l n → Pnt 97 l bx cl m ((partN l (ctxN l d) m).flatMap (ownI l bx cl)) := fun m hm => by
      refine pnt_part l hb bx cl hbl hcl hf (ctxN l d) m (parts_in hm).1 (fun hk => pnt_context d m hk ?_)
      have := parts_lt hs hm
      omega
    intro i q hiq xs hx
    rw [ctx_items] at hx ⊢
    refine callR_M k_paint_painter_context [i, q] [ptH l bx cl (pM l) (pP l) 1 xs, .row 15 xs.length (rvs (itL xs))] [ptH l bx cl (pM l) (pP l) q xs, .row 15 xs.length (rvs (itL xs))] [.ptr 0 0, .rv (.int .i64 n)] [.ptr i 0, .rv (.int .i64 n)] _ _ (by simp) (by simp [BkAll, bk_ptr, bk_rv]) rfl (by simp [nodupL, hiq]) (by simp [BkHs, ptH, rvs_inj, BkAll, bk_rv, bk_row]) (fun K hK => ?_)
    have hml := memV_len (partQ l) l.length
    have hmg := memV_get (q := partQ l) hn
    have hpl : (partsN l n).length ≤ l.length := selTo_len
    have hln : (intsL (natsI (partsN l n))).length = (partsN l n).length := by simp [intsL, natsI]
    change _ = [RV.sl 1 (intsL (natsI (partsN l n)))] at hmg
    simp -implicitDefEqProofs only [c_paint_painter_context, ptH, pM, pP, go_sem]
    obtain ⟨ps, hps⟩ : ∃ ps, ps = partsN l n := ⟨_, rfl⟩
    rw [← hps] at hln hmg hpl
    repeat' (first | (simp -implicitDefEqProofs only [go_sem, hml, hmg, hln]) | (with_reducible refine g_noent ?_) | ((first | refine cdS (fun hg => ?_) (fun hg => ?_) | refine gdS (fun hg => ?_) (fun hg => ?_) | refine gddS (fun hg => ?_) (fun hg => ?_)) <;> try simp -implicitDefEqProofs only [hg, Bool.not_true, Bool.not_false]) | ((with_reducible apply And.intro); focus (first | trivial | omega | decide | (simp -implicitDefEqProofs only [maxLen]; omega) | (simp [maxLen, sty_len, nd_len, ndL_len, lnL_len, intsL_len, rvs_len, lensS_len] <;> omega))) | fail)
    refine g_loop (ι := Nat × List Ent3) (fun q => [(19, .rv (.int .i64 q.1)), (18, .rv (.int .i64 ps.length)), (17, .rv (.sl 1 (intsL (natsI ps)))), (4, .ptr 2 0), (0, .ptr 0 0), (1, .rv (.int .i64 n))]) (fun q => [some (.var [.rv (kinV l), .rv (.sl 21 (bxL bx)), .rv (.sl 4 (rcL cl)), .rv (.sl 1 (memV (memQ l) l.length)), .rv (.sl 1 (memV (partQ l) l.length)), .row 1 xs.length xs.length]), some (.row 15 xs.length (rvs (itL xs))), some (.var [.row 3 q.1 q.1]), some (.row 3 q.1 (rvs (cellsL q.2)))]) (fun q => q.1 ≤ ps.length ∧ q.2.length = q.1 ∧ HeapP q.2 q.1 ∧ q.2.Perm ((ps.take q.1).map (entN l))) (fun q => ps.length - q.1) (0, []) ⟨Nat.zero_le _, rfl, fun k a b => absurd b (by simp), by simp⟩ ((ent_ghostVarP 2 3 0 rfl rfl).trans (ent_env (by simp [lk, uph]))) (fun q hq K' hN hX hR => ?_)
    obtain ⟨k, es⟩ := q
    obtain ⟨hk1, hk2, hk3, hk4⟩ := hq
    dsimp only at hk1 hk2 hk3 hk4 ⊢
    simp -implicitDefEqProofs only [go_sem]
    refine cdS (fun hg => ?_) (fun hg => ?_)
    · have hkl : k < ps.length := by simp at hg; omega
      have wu := wrap_up (k := k) (by omega)
      have hmk := natsI_getD hkl
      have hst := sp_Style l ((ps[k]'hkl : Nat) : Int)
      have e44 := sty_at44 (styAt l ((ps[k]'hkl : Nat) : Int))
      have ha := sp_agenda_Agenda_Add 2 3 k k es (entN l (ps[k]'hkl)) (by decide) (by omega) (by omega)
      simp -implicitDefEqProofs only [Ent3.sv, entN] at ha
      obtain ⟨r1, r2, r3⟩ := push_ok (es := es) (n := k) (e := entN l (ps[k]'hkl)) (by omega) hk3
      have hnx : (pushF es k (entN l (ps[k]'hkl))).Perm ((ps.take (k + 1)).map (entN l)) := by
        refine r2.trans ?_
        rw [List.take_of_length_le (by omega), List.take_succ_eq_append_getElem hkl, List.map_append]
        exact (List.Perm.cons _ hk4).trans (List.perm_append_comm (l₁ := [entN l (ps[k]'hkl)]))
      simp -implicitDefEqProofs only [entN] at r1 r3 hnx
      generalize ps[k]'hkl = m at *
      have y_1 := hst; have y_2 := ha; repeat' (first | (simp -implicitDefEqProofs only [go_sem, hln, hmk, e44, sty_len, wu]) | (with_reducible refine g_noent ?_) | (with_reducible first | refine g_call0 y_1 ?_ | refine g_calld0 y_1 ?_) | (refine g_call y_2 (by simp [PreOK, hget]; done) (by simp [okU, uph]; done) ?_) | (refine g_calld y_2 (by simp [PreOK, hget]; done) (by simp [okU, uph]; done) ?_) | ((first | refine cdS (fun hg => ?_) (fun hg => ?_) | refine gdS (fun hg => ?_) (fun hg => ?_) | refine gddS (fun hg => ?_) (fun hg => ?_)) <;> try simp -implicitDefEqProofs only [hg, Bool.not_true, Bool.not_false]) | ((with_reducible apply And.intro); focus (first | trivial | omega | decide | (simp -implicitDefEqProofs only [maxLen]; omega) | (simp [maxLen, sty_len, nd_len, ndL_len, lnL_len, intsL_len, rvs_len, lensS_len] <;> omega))) | fail)
      exact hN (k + 1, _) _ _ ⟨by dsimp only; omega, r3, r1, hnx⟩ (by dsimp only; omega) (ent_env (by simp [lk]))
    · have hkl : k = ps.length := by simp at hg; omega
      subst hkl
      simp -implicitDefEqProofs only [go_sem]
      refine hX _ _ _ ?_
      clear hN hX hR
      rw [List.take_length] at hk4
      have hsr : sortRef (es.take ps.length) = srtE l n := by
        rw [List.take_of_length_le (by omega)]
        unfold srtE
        rw [← hps]
        exact sortRef_perm _ _ _ (Nat.le_refl _) hk4
      have ho := pnt_own l hb bx cl hbl hcl hf n hn 0 1 (by decide) xs (by simp -implicitDefEqProofs only [List.length_append] at hx ⊢; omega)
      simp -implicitDefEqProofs only [ptH, pM, pP] at ho
      obtain ⟨X0, hX0⟩ : ∃ X0, X0 = xs ++ ownI l bx cl n := ⟨_, rfl⟩
      rw [← hX0] at ho
      have hpk := sp_agenda_Agenda_Peek 2 3 ps.length ps.length es (by decide) (by omega)
      rw [pk_eq, ent_svm] at hpk
      have y_3 := ho; have y_4 := hpk; repeat' (first | (simp -implicitDefEqProofs only [go_sem, ent_len3, ent_mlen3, ent_tk3, ent_dr3, ent_at0, ent_at1]) | (with_reducible refine g_noent ?_) | (refine g_call y_3 (by simp [PreOK, hget]; done) (by simp [okU, uph]; done) ?_) | (refine g_calld y_3 (by simp [PreOK, hget]; done) (by simp [okU, uph]; done) ?_) | (refine g_call y_4 (by simp [PreOK, hget]; done) (by simp [okU, uph]; done) ?_) | (refine g_calld y_4 (by simp [PreOK, hget]; done) (by simp [okU, uph]; done) ?_) | ((first | refine cdS (fun hg => ?_) (fun hg => ?_) | refine gdS (fun hg => ?_) (fun hg => ?_) | refine gddS (fun hg => ?_) (fun hg => ?_)) <;> try simp -implicitDefEqProofs only [hg, Bool.not_true, Bool.not_false]) | ((with_reducible apply And.intro); focus (first | trivial | omega | decide | (simp -implicitDefEqProofs only [maxLen]; omega) | (simp [maxLen, sty_len, nd_len, ndL_len, lnL_len, intsL_len, rvs_len, lensS_len] <;> omega))) | fail)
      refine g_loop (ι := List Ent3 × Nat × Nat) (fun q => [(8, .rv (.bool (decide (q.2.1 ≠ 0)))), (7, .ptr 4 0), (4, .ptr 2 0), (0, .ptr 0 0), (1, .rv (.int .i64 n))]) (fun q => [some (.var [.rv (kinV l), .rv (.sl 21 (bxL bx)), .rv (.sl 4 (rcL cl)), .rv (.sl 1 (memV (memQ l) l.length)), .rv (.sl 1 (memV (partQ l) l.length)), .row 1 (X0 ++ parI l bx cl d ((lowE l n).take q.2.2)).length (X0 ++ parI l bx cl d ((lowE l n).take q.2.2)).length]), some (.row 15 (X0 ++ parI l bx cl d ((lowE l n).take q.2.2)).length (rvs (itL (X0 ++ parI l bx cl d ((lowE l n).take q.2.2))))), some (.var [.row 3 ps.length q.2.1]), some (.row 3 ps.length (rvs (cellsL q.1))), some (.var ((pkE q.1 q.2.1).cells.map .rv))]) (fun q => q.2.1 ≤ q.1.length ∧ q.2.1 ≤ ps.length ∧ HeapP q.1 q.2.1 ∧ sortRef (q.1.take q.2.1) = (srtE l n).drop q.2.2 ∧ q.2.2 ≤ (lowE l n).length) (fun q => q.2.1) (es, ps.length, 0) ⟨by dsimp only; omega, Nat.le_refl _, hk3, hsr, Nat.zero_le _⟩ (by rw [List.take_zero]; unfold parI; rw [List.flatMap_nil, List.append_nil]; exact ent_env (by simp [lk])) (fun q hq K' hN hX hR => ?_)
      obtain ⟨zs, v, j⟩ := q
      obtain ⟨p1, p2, p3, p4, p5⟩ := hq
      dsimp only at p1 p2 p3 p4 p5 ⊢
      obtain ⟨X, hXe⟩ : ∃ X, X = X0 ++ parI l bx cl d ((lowE l n).take j) := ⟨_, rfl⟩
      rw [← hXe]
      simp -implicitDefEqProofs only [go_sem]
      by_cases h0 : v = 0
      · subst h0
        have d0 : decide ((0 : Nat) ≠ 0) = false := rfl
        have hjd := low_done (l := l) (n := n) p5 (.inl (by rw [← p4, List.take_zero, sortRef_nil]))
        repeat' (first | (simp -implicitDefEqProofs only [go_sem, d0]) | (with_reducible refine g_noent ?_) | ((first | refine cdS (fun hg => ?_) (fun hg => ?_) | refine gdS (fun hg => ?_) (fun hg => ?_) | refine gddS (fun hg => ?_) (fun hg => ?_)) <;> try simp -implicitDefEqProofs only [hg, Bool.not_true, Bool.not_false]) | ((with_reducible apply And.intro); focus (first | trivial | omega | decide | (simp -implicitDefEqProofs only [maxLen]; omega) | (simp [maxLen, sty_len, nd_len, ndL_len, lnL_len, intsL_len, rvs_len, lensS_len] <;> omega))) | fail)
        refine hX _ _ _ ?_
        clear hN hX hR
        have hj : (lowE l n).take j = lowE l n := List.take_of_length_le (by omega)
        rw [hj] at hXe
        obtain ⟨X1, hX1⟩ : ∃ X1, X1 = X0 ++ parI l bx cl d (lowE l n) := ⟨_, rfl⟩
        rw [← hX1] at hXe
        subst hXe
        have hgr := pnt_group l hb bx cl hbl hcl hf n hn 0 1 (by decide) X (by rw [hX1, hX0]; simp -implicitDefEqProofs only [List.length_append] at hx ⊢; omega)
        simp -implicitDefEqProofs only [ptH, pM, pP] at hgr
        obtain ⟨X2, hX2⟩ : ∃ X2, X2 = X ++ (memsN l n).flatMap (ownI l bx cl) := ⟨_, rfl⟩
        rw [← hX2] at hgr
        have hn2 := sp12e 2 3 ps.length zs (by decide)
        rw [ent_svm] at hn2
        have y_5 := hgr; have y_6 := hn2; repeat' (first | (simp -implicitDefEqProofs only [go_sem, ent_len3, ent_mlen3, ent_tk3, ent_dr3, ent_at0, ent_at1]) | (with_reducible refine g_noent ?_) | (refine g_call y_5 (by simp [PreOK, hget]; done) (by simp [okU, uph]; done) ?_) | (refine g_calld y_5 (by simp [PreOK, hget]; done) (by simp [okU, uph]; done) ?_) | (refine g_call y_6 (by simp [PreOK, hget]; done) (by simp [okU, uph]; done) ?_) | (refine g_calld y_6 (by simp [PreOK, hget]; done) (by simp [okU, uph]; done) ?_) | ((first | refine cdS (fun hg => ?_) (fun hg => ?_) | refine gdS (fun hg => ?_) (fun hg => ?_) | refine gddS (fun hg => ?_) (fun hg => ?_)) <;> try simp -implicitDefEqProofs only [hg, Bool.not_true, Bool.not_false]) | ((with_reducible apply And.intro); focus (first | trivial | omega | decide | (simp -implicitDefEqProofs only [maxLen]; omega) | (simp [maxLen, sty_len, nd_len, ndL_len, lnL_len, intsL_len, rvs_len, lensS_len] <;> omega))) | fail)
        refine g_loop (ι := List Ent3 × Nat × Nat × Ent3 × Bool) (fun q => [(10, .rv (.bool q.2.2.2.2)), (9, .ptr 4 0), (4, .ptr 2 0), (0, .ptr 0 0)]) (fun q => [some (.var [.rv (kinV l), .rv (.sl 21 (bxL bx)), .rv (.sl 4 (rcL cl)), .rv (.sl 1 (memV (memQ l) l.length)), .rv (.sl 1 (memV (partQ l) l.length)), .row 1 (X2 ++ parI l bx cl d ((highE l n).take q.2.2.1)).length (X2 ++ parI l bx cl d ((highE l n).take q.2.2.1)).length]), some (.row 15 (X2 ++ parI l bx cl d ((highE l n).take q.2.2.1)).length (rvs (itL (X2 ++ parI l bx cl d ((highE l n).take q.2.2.1))))), some (.var [.row 3 ps.length q.2.1]), some (.row 3 ps.length (rvs (cellsL q.1))), some (.var (q.2.2.2.1.cells.map .rv))]) (fun q => q.2.1 ≤ q.1.length ∧ q.2.1 ≤ ps.length ∧ HeapP q.1 q.2.1 ∧ q.2.2.1 ≤ (highE l n).length ∧ (highE l n).drop q.2.2.1 = if q.2.2.2.2 = true then q.2.2.2.1 :: sortRef (q.1.take q.2.1) else []) (fun q => q.2.1 + if q.2.2.2.2 = true then 1 else 0) (zs, 0, 0, ⟨0, 0, 0⟩, false) ⟨by dsimp only; omega, by dsimp only; omega, p3, Nat.zero_le _, by
            have h1 := p4
            rw [List.take_zero, sortRef_nil, hjd, ← low_high, List.drop_left] at h1
            simp [← h1]⟩ ?_ (fun q hq K' hN hX hR => ?_)
        · rw [List.take_zero, show parI l bx cl d [] = [] from rfl, List.append_nil]
          refine (ent_move 4 5 (by decide) (by simp) (by simp) (fun k hk => ?_) (by simp [lk, rn_rv, rn_ptr, rn_row, τm]))
          simp -implicitDefEqProofs only [List.length_cons, List.length_nil] at hk
          match k, hk with
          | 0, _ => exact ⟨_, _, rfl, rfl, rhP_pt rfl⟩
          | 1, _ => exact ⟨_, _, rfl, rfl, rhP_rvs⟩
          | 2, _ => exact ⟨_, _, rfl, rfl, rhP_vrow rfl⟩
          | 3, _ => exact ⟨_, _, rfl, rfl, rhP_rvs⟩
          | 4, _ => exact ⟨_, _, rfl, rfl, rhP_var (rs := (⟨0, 0, 0⟩ : Ent3).cells)⟩
        obtain ⟨ys, w, j, x, ok⟩ := q
        obtain ⟨q1, q2, q3, q5, q4⟩ := hq
        dsimp only at q1 q2 q3 q4 q5 ⊢
        obtain ⟨X, hXe⟩ : ∃ X, X = X2 ++ parI l bx cl d ((highE l n).take j) := ⟨_, rfl⟩
        rw [← hXe]
        simp -implicitDefEqProofs only [go_sem]
        cases ok with
        | false =>
          simp -implicitDefEqProofs only [Bool.false_eq_true, if_false] at q4
          have hj : (highE l n).take j = highE l n := List.take_of_length_le (List.drop_eq_nil_iff.1 q4)
          rw [hj] at hXe
          have hXf : X = xs ++ (ownI l bx cl n ++ (parI l bx cl d (lowE l n) ++ ((memsN l n).flatMap (ownI l bx cl) ++ parI l bx cl d (highE l n)))) := by rw [hXe, hX2, hX1, hX0]; simp -implicitDefEqProofs only [List.append_assoc]
          rw [← hXf] at hK
          repeat' (first | (simp -implicitDefEqProofs only [go_sem]) | (with_reducible refine g_noent ?_) | ((first | refine cdS (fun hg => ?_) (fun hg => ?_) | refine gdS (fun hg => ?_) (fun hg => ?_) | refine gddS (fun hg => ?_) (fun hg => ?_)) <;> try simp -implicitDefEqProofs only [hg, Bool.not_true, Bool.not_false]) | ((with_reducible apply And.intro); focus (first | trivial | omega | decide | (simp -implicitDefEqProofs only [maxLen]; omega) | (simp [maxLen, sty_len, nd_len, ndL_len, lnL_len, intsL_len, rvs_len, lensS_len] <;> omega))) | fail)
          refine hX _ _ _ ?_
          repeat' (first | (simp -implicitDefEqProofs only [go_sem]) | (with_reducible refine g_noent ?_) | ((first | refine cdS (fun hg => ?_) (fun hg => ?_) | refine gdS (fun hg => ?_) (fun hg => ?_) | refine gddS (fun hg => ?_) (fun hg => ?_)) <;> try simp -implicitDefEqProofs only [hg, Bool.not_true, Bool.not_false]) | ((with_reducible apply And.intro); focus (first | trivial | omega | decide | (simp -implicitDefEqProofs only [maxLen]; omega) | (simp [maxLen, sty_len, nd_len, ndL_len, lnL_len, intsL_len, rvs_len, lensS_len] <;> omega))) | fail)
          refine (hK _ _ _ _ [] (ent_refl _ _) ?_).1
          simp [retM, nodupL, newL, allU, keptL, retP, resL, lk, resT, RnHo, lkp, finU, hget_zero, hget_succ, hget, rnRows_rvs, rn_tup, rn_rv, rn_row, rn_ptr, rn_ifc, rn_agg, rn_dead, RnAll, ofL, rnAll_map, hiq, Ne.symm hiq, ptH, pM, pP]
        | true =>
          simp -implicitDefEqProofs only [if_true] at q4
          have hjl : j < (highE l n).length := by
            apply Classical.byContradiction
            intro h
            rw [List.drop_of_length_le (by omega)] at q4; cases q4
          have hxj : (highE l n)[j]'hjl = x ∧ (highE l n).drop (j + 1) = sortRef (ys.take w) := by
            rw [List.drop_eq_getElem_cons hjl] at q4
            exact List.cons.inj q4
          obtain ⟨m, hmp, hxm⟩ := high_mem (l := l) (n := n) (e := x) (by rw [← hxj.1]; exact List.getElem_mem hjl)
          have hxt : x.tie = (m : Int) := by rw [hxm]; rfl
          have hpt := par_take (l := l) (bx := bx) (cl := cl) (d := d) hjl
          rw [hxj.1, hxt, Int.toNat_natCast] at hpt
          have hpp := par_pre (l := l) (bx := bx) (cl := cl) (d := d) (es := highE l n) (j := j + 1)
          have hpc := hpart m hmp 0 1 (by decide) X (by rw [hXe, List.append_assoc, ← hpt, hX2, hX1, hX0]; simp -implicitDefEqProofs only [List.length_append] at hx ⊢; omega)
          obtain ⟨Y, hYe⟩ : ∃ Y, Y = X2 ++ parI l bx cl d ((highE l n).take (j + 1)) := ⟨_, rfl⟩
          have hXY : X ++ (partN l (ctxN l d) m).flatMap (ownI l bx cl) = Y := by rw [hYe, hXe, hpt, List.append_assoc]
          rw [hXY] at hpc
          simp -implicitDefEqProofs only [ptH, pM, pP] at hpc
          rw [← hxt] at hpc
          by_cases h0 : w = 0
          · subst h0
            have hn := sp12e 2 3 ps.length ys (by decide)
            rw [ent_svm] at hn
            have y_7 := hpc; have y_8 := hn; repeat' (first | (simp -implicitDefEqProofs only [go_sem, ent_len3, ent_mlen3, ent_tk3, ent_dr3, ent_at0, ent_at1]) | (with_reducible refine g_noent ?_) | (refine g_call y_7 (by simp [PreOK, hget]; done) (by simp [okU, uph]; done) ?_) | (refine g_calld y_7 (by simp [PreOK, hget]; done) (by simp [okU, uph]; done) ?_) | (refine g_call y_8 (by simp [PreOK, hget]; done) (by simp [okU, uph]; done) ?_) | (refine g_calld y_8 (by simp [PreOK, hget]; done) (by simp [okU, uph]; done) ?_) | ((first | refine cdS (fun hg => ?_) (fun hg => ?_) | refine gdS (fun hg => ?_) (fun hg => ?_) | refine gddS (fun hg => ?_) (fun hg => ?_)) <;> try simp -implicitDefEqProofs only [hg, Bool.not_true, Bool.not_false]) | ((with_reducible apply And.intro); focus (first | trivial | omega | decide | (simp -implicitDefEqProofs only [maxLen]; omega) | (simp [maxLen, sty_len, nd_len, ndL_len, lnL_len, intsL_len, rvs_len, lensS_len] <;> omega) | (exact ⟨rfl, by decide⟩; done))) | fail)
            rw [List.take_zero, sortRef_nil] at hxj
            subst hYe
            refine hN (ys, 0, j + 1, ⟨0, 0, 0⟩, false) _ _ ⟨by dsimp only; omega, by dsimp only; omega, q3, by dsimp only; omega, by simp [hxj.2]⟩ (by dsimp only; simp; try omega) (ent_move 4 5 (by decide) (by simp) (by simp) (fun k hk => ?_) (by simp [lk, rn_rv, rn_ptr, rn_row, τm]))
            simp -implicitDefEqProofs only [List.length_cons, List.length_nil] at hk
            match k, hk with
            | 0, _ => exact ⟨_, _, rfl, rfl, rhP_pt rfl⟩
            | 1, _ => exact ⟨_, _, rfl, rfl, rhP_rvs⟩
            | 2, _ => exact ⟨_, _, rfl, rfl, rhP_vrow rfl⟩
            | 3, _ => exact ⟨_, _, rfl, rfl, rhP_rvs⟩
            | 4, _ => exact ⟨_, _, rfl, rfl, rhP_var (rs := (⟨0, 0, 0⟩ : Ent3).cells)⟩
          · have hn := sp_agenda_Agenda_Next 2 3 ps.length w ys (by decide) q1 h0 (by omega)
            rw [ent_svm] at hn
            obtain ⟨m1, m2, m3, m4⟩ := pop_ok (es := ys) (n := w) q1 (by omega) q3
            have hnx2 := heap_next (es := ys) (n := w) q1 (by omega) q3
            rw [hnx2] at hxj
            have y_9 := hpc; have y_10 := hn; repeat' (first | (simp -implicitDefEqProofs only [go_sem, ent_len3, ent_mlen3, ent_tk3, ent_dr3, ent_at0, ent_at1]) | (with_reducible refine g_noent ?_) | (refine g_call y_9 (by simp [PreOK, hget]; done) (by simp [okU, uph]; done) ?_) | (refine g_calld y_9 (by simp [PreOK, hget]; done) (by simp [okU, uph]; done) ?_) | (refine g_call y_10 (by simp [PreOK, hget]; done) (by simp [okU, uph]; done) ?_) | (refine g_calld y_10 (by simp [PreOK, hget]; done) (by simp [okU, uph]; done) ?_) | ((first | refine cdS (fun hg => ?_) (fun hg => ?_) | refine gdS (fun hg => ?_) (fun hg => ?_) | refine gddS (fun hg => ?_) (fun hg => ?_)) <;> try simp -implicitDefEqProofs only [hg, Bool.not_true, Bool.not_false]) | ((with_reducible apply And.intro); focus (first | trivial | omega | decide | (simp -implicitDefEqProofs only [maxLen]; omega) | (simp [maxLen, sty_len, nd_len, ndL_len, lnL_len, intsL_len, rvs_len, lensS_len] <;> omega) | (exact ⟨rfl, by decide⟩; done))) | fail)
            subst hYe
            refine hN (popF ys w, w - 1, j + 1, ga (popF ys w) (w - 1), true) _ _ ⟨by dsimp only; omega, by dsimp only; omega, m1, by dsimp only; omega, by simp [hxj.2]⟩ (by dsimp only; simp; try omega) (ent_move 4 5 (by decide) (by simp) (by simp) (fun k hk => ?_) (by simp [lk, rn_rv, rn_ptr, rn_row, τm]))
            simp -implicitDefEqProofs only [List.length_cons, List.length_nil] at hk
            match k, hk with
            | 0, _ => exact ⟨_, _, rfl, rfl, rhP_pt rfl⟩
            | 1, _ => exact ⟨_, _, rfl, rfl, rhP_rvs⟩
            | 2, _ => exact ⟨_, _, rfl, rfl, rhP_vrow rfl⟩
            | 3, _ => exact ⟨_, _, rfl, rfl, rhP_rvs⟩
            | 4, _ => exact ⟨_, _, rfl, rfl, rhP_var (rs := (ga (popF ys w) (w - 1)).cells)⟩
      · have d0 : decide (v ≠ 0) = true := decide_eq_true h0
        have hpx : pkE zs v = ga zs 0 := by unfold pkE; rw [if_neg h0]
        obtain ⟨m1, m2, m3, m4⟩ := pop_ok (es := zs) (n := v) p1 (by omega) p3
        have hnx2 := heap_next (es := zs) (n := v) p1 (by omega) p3
        have hn2 := sp_agenda_Agenda_Next 2 3 ps.length v zs (by decide) p1 h0 (by omega)
        rw [ent_svm] at hn2
        rw [hpx]
        rw [m2] at hnx2 hn2
        rw [hnx2] at p4
        generalize hxg : ga zs 0 = x at *
        by_cases hk : x.key < 0
        · have hkd : decide (x.key < 0) = true := decide_eq_true hk
          obtain ⟨hjl, hxj, hdr⟩ := low_next p5 p4.symm hk
          obtain ⟨m, hmp, hxm⟩ := low_mem (l := l) (n := n) (e := x) (by rw [← hxj]; exact List.getElem_mem hjl)
          have hxt : x.tie = (m : Int) := by rw [hxm]; rfl
          have hpt := par_take (l := l) (bx := bx) (cl := cl) (d := d) hjl
          rw [hxj, hxt, Int.toNat_natCast] at hpt
          have hpp := par_pre (l := l) (bx := bx) (cl := cl) (d := d) (es := lowE l n) (j := j + 1)
          have hpc := hpart m hmp 0 1 (by decide) X (by rw [hXe, List.append_assoc, ← hpt, hX0]; simp -implicitDefEqProofs only [List.length_append] at hx ⊢; omega)
          obtain ⟨Y, hYe⟩ : ∃ Y, Y = X0 ++ parI l bx cl d ((lowE l n).take (j + 1)) := ⟨_, rfl⟩
          have hXY : X ++ (partN l (ctxN l d) m).flatMap (ownI l bx cl) = Y := by rw [hYe, hXe, hpt, List.append_assoc]
          rw [hXY] at hpc
          simp -implicitDefEqProofs only [ptH, pM, pP] at hpc
          rw [← hxt] at hpc
          have hpk2 := sp_agenda_Agenda_Peek 2 3 ps.length (v - 1) (popF zs v) (by decide) (by omega)
          rw [pk_eq, ent_svm] at hpk2
          have y_11 := hn2; have y_12 := hpc; have y_13 := hpk2; repeat' (first | (simp -implicitDefEqProofs only [go_sem, d0, hkd, ent_len3, ent_mlen3, ent_tk3, ent_dr3, ent_at0, ent_at1]) | (with_reducible refine g_noent ?_) | (refine g_call y_11 (by simp [PreOK, hget]; done) (by simp [okU, uph]; done) ?_) | (refine g_calld y_11 (by simp [PreOK, hget]; done) (by simp [okU, uph]; done) ?_) | (refine g_call y_12 (by simp [PreOK, hget]; done) (by simp [okU, uph]; done) ?_) | (refine g_calld y_12 (by simp [PreOK, hget]; done) (by simp [okU, uph]; done) ?_) | (refine g_call y_13 (by simp [PreOK, hget]; done) (by simp [okU, uph]; done) ?_) | (refine g_calld y_13 (by simp [PreOK, hget]; done) (by simp [okU, uph]; done) ?_) | ((first | refine cdS (fun hg => ?_) (fun hg => ?_) | refine gdS (fun hg => ?_) (fun hg => ?_) | refine gddS (fun hg => ?_) (fun hg => ?_)) <;> try simp -implicitDefEqProofs only [hg, Bool.not_true, Bool.not_false]) | ((with_reducible apply And.intro); focus (first | trivial | omega | decide | (simp -implicitDefEqProofs only [maxLen]; omega) | (simp [maxLen, sty_len, nd_len, ndL_len, lnL_len, intsL_len, rvs_len, lensS_len] <;> omega))) | fail)
          subst hYe
          refine hN (popF zs v, v - 1, j + 1) _ _ ⟨by dsimp only; omega, by dsimp only; omega, m1, hdr.symm, hjl⟩ (by dsimp only; omega) (ent_move 4 5 (by decide) (by simp) (by simp) (fun k hk => ?_) (by simp [lk, rn_rv, rn_ptr, rn_row, τm]))
          simp -implicitDefEqProofs only [List.length_cons, List.length_nil] at hk
          match k, hk with
          | 0, _ => exact ⟨_, _, rfl, rfl, rhP_pt rfl⟩
          | 1, _ => exact ⟨_, _, rfl, rfl, rhP_rvs⟩
          | 2, _ => exact ⟨_, _, rfl, rfl, rhP_vrow rfl⟩
          | 3, _ => exact ⟨_, _, rfl, rfl, rhP_rvs⟩
          | 4, _ => exact ⟨_, _, rfl, rfl, rhP_var (rs := (pkE (popF zs v) (v - 1)).cells)⟩
        · have hkd : decide (x.key < 0) = false := decide_eq_false hk
          have hjd := low_done (l := l) (n := n) p5 (.inr ⟨x, _, p4.symm, hk⟩)
          repeat' (first | (simp -implicitDefEqProofs only [go_sem, d0, hkd, ent_len3, ent_mlen3, ent_tk3, ent_dr3, ent_at0, ent_at1]) | (with_reducible refine g_noent ?_) | ((first | refine cdS (fun hg => ?_) (fun hg => ?_) | refine gdS (fun hg => ?_) (fun hg => ?_) | refine gddS (fun hg => ?_) (fun hg => ?_)) <;> try simp -implicitDefEqProofs only [hg, Bool.not_true, Bool.not_false]) | ((with_reducible apply And.intro); focus (first | trivial | omega | decide | (simp -implicitDefEqProofs only [maxLen]; omega) | (simp [maxLen, sty_len, nd_len, ndL_len, lnL_len, intsL_len, rvs_len, lensS_len] <;> omega))) | fail)
          refine hX _ _ _ ?_
          clear hN hX hR
          have hj : (lowE l n).take j = lowE l n := List.take_of_length_le (by omega)
          rw [hj] at hXe
          obtain ⟨X1, hX1⟩ : ∃ X1, X1 = X0 ++ parI l bx cl d (lowE l n) := ⟨_, rfl⟩
          rw [← hX1] at hXe
          subst hXe
          have hgr := pnt_group l hb bx cl hbl hcl hf n hn 0 1 (by decide) X (by rw [hX1, hX0]; simp -implicitDefEqProofs only [List.length_append] at hx ⊢; omega)
          simp -implicitDefEqProofs only [ptH, pM, pP] at hgr
          obtain ⟨X2, hX2⟩ : ∃ X2, X2 = X ++ (memsN l n).flatMap (ownI l bx cl) := ⟨_, rfl⟩
          rw [← hX2] at hgr
          have hhd : (highE l n) = x :: sortRef ((popF zs v).take (v - 1)) := by
            have h1 := p4.symm
            rw [hjd, ← low_high, List.drop_left] at h1
            exact h1
          have y_14 := hgr; have y_15 := hn2; repeat' (first | (simp -implicitDefEqProofs only [go_sem, ent_len3, ent_mlen3, ent_tk3, ent_dr3, ent_at0, ent_at1]) | (with_reducible refine g_noent ?_) | (refine g_call y_14 (by simp [PreOK, hget]; done) (by simp [okU, uph]; done) ?_) | (refine g_calld y_14 (by simp [PreOK, hget]; done) (by simp [okU, uph]; done) ?_) | (refine g_call y_15 (by simp [PreOK, hget]; done) (by simp [okU, uph]; done) ?_) | (refine g_calld y_15 (by simp [PreOK, hget]; done) (by simp [okU, uph]; done) ?_) | ((first | refine cdS (fun hg => ?_) (fun hg => ?_) | refine gdS (fun hg => ?_) (fun hg => ?_) | refine gddS (fun hg => ?_) (fun hg => ?_)) <;> try simp -implicitDefEqProofs only [hg, Bool.not_true, Bool.not_false]) | ((with_reducible apply And.intro); focus (first | trivial | omega | decide | (simp -implicitDefEqProofs only [maxLen]; omega) | (simp [maxLen, sty_len, nd_len, ndL_len, lnL_len, intsL_len, rvs_len, lensS_len] <;> omega))) | fail)
          refine g_loop (ι := List Ent3 × Nat × Nat × Ent3 × Bool) (fun q => [(10, .rv (.bool q.2.2.2.2)), (9, .ptr 4 0), (4, .ptr 2 0), (0, .ptr 0 0)]) (fun q => [some (.var [.rv (kinV l), .rv (.sl 21 (bxL bx)), .rv (.sl 4 (rcL cl)), .rv (.sl 1 (memV (memQ l) l.length)), .rv (.sl 1 (memV (partQ l) l.length)), .row 1 (X2 ++ parI l bx cl d ((highE l n).take q.2.2.1)).length (X2 ++ parI l bx cl d ((highE l n).take q.2.2.1)).length]), some (.row 15 (X2 ++ parI l bx cl d ((highE l n).take q.2.2.1)).length (rvs (itL (X2 ++ parI l bx cl d ((highE l n).take q.2.2.1))))), some (.var [.row 3 ps.length q.2.1]), some (.row 3 ps.length (rvs (cellsL q.1))), some (.var (q.2.2.2.1.cells.map .rv))]) (fun q => q.2.1 ≤ q.1.length ∧ q.2.1 ≤ ps.length ∧ HeapP q.1 q.2.1 ∧ q.2.2.1 ≤ (highE l n).length ∧ (highE l n).drop q.2.2.1 = if q.2.2.2.2 = true then q.2.2.2.1 :: sortRef (q.1.take q.2.1) else []) (fun q => q.2.1 + if q.2.2.2.2 = true then 1 else 0) (popF zs v, v - 1, 0, x, true) ⟨by dsimp only; omega, by dsimp only; omega, m1, Nat.zero_le _, by simp [hhd]⟩ ?_ (fun q hq K' hN hX hR => ?_)
          · rw [List.take_zero, show parI l bx cl d [] = [] from rfl, List.append_nil]
            refine (ent_move 4 5 (by decide) (by simp) (by simp) (fun k hk => ?_) (by simp [lk, rn_rv, rn_ptr, rn_row, τm]))
            simp -implicitDefEqProofs only [List.length_cons, List.length_nil] at hk
            match k, hk with
            | 0, _ => exact ⟨_, _, rfl, rfl, rhP_pt rfl⟩
            | 1, _ => exact ⟨_, _, rfl, rfl, rhP_rvs⟩
            | 2, _ => exact ⟨_, _, rfl, rfl, rhP_vrow rfl⟩
            | 3, _ => exact ⟨_, _, rfl, rfl, rhP_rvs⟩
            | 4, _ => exact ⟨_, _, rfl, rfl, rhP_var (rs := x.cells)⟩
          obtain ⟨ys, w, j, x, ok⟩ := q
          obtain ⟨q1, q2, q3, q5, q4⟩ := hq
          dsimp only at q1 q2 q3 q4 q5 ⊢
          obtain ⟨X, hXe⟩ : ∃ X, X = X2 ++ parI l bx cl d ((highE l n).take j) := ⟨_, rfl⟩
          rw [← hXe]
          simp -implicitDefEqProofs only [go_sem]
          cases ok with
          | false =>
            simp -implicitDefEqProofs only [Bool.false_eq_true, if_false] at q4
            have hj : (highE l n).take j = highE l n := List.take_of_length_le (List.drop_eq_nil_iff.1 q4)
            rw [hj] at hXe
            have hXf : X = xs ++ (ownI l bx cl n ++ (parI l bx cl d (lowE l n) ++ ((memsN l n).flatMap (ownI l bx cl) ++ parI l bx cl d (highE l n)))) := by rw [hXe, hX2, hX1, hX0]; simp -implicitDefEqProofs only [List.append_assoc]
            rw [← hXf] at hK
            repeat' (first | (simp -implicitDefEqProofs only [go_sem]) | (with_reducible refine g_noent ?_) | ((first | refine cdS (fun hg => ?_) (fun hg => ?_) | refine gdS (fun hg => ?_) (fun hg => ?_) | refine gddS (fun hg => ?_) (fun hg => ?_)) <;> try simp -implicitDefEqProofs only [hg, Bool.not_true, Bool.not_false]) | ((with_reducible apply And.intro); focus (first | trivial | omega | decide | (simp -implicitDefEqProofs only [maxLen]; omega) | (simp [maxLen, sty_len, nd_len, ndL_len, lnL_len, intsL_len, rvs_len, lensS_len] <;> omega))) | fail)
            refine hX _ _ _ ?_
            repeat' (first | (simp -implicitDefEqProofs only [go_sem]) | (with_reducible refine g_noent ?_) | ((first | refine cdS (fun hg => ?_) (fun hg => ?_) | refine gdS (fun hg => ?_) (fun hg => ?_) | refine gddS (fun hg => ?_) (fun hg => ?_)) <;> try simp -implicitDefEqProofs only [hg, Bool.not_true, Bool.not_false]) | ((with_reducible apply And.intro); focus (first | trivial | omega | decide | (simp -implicitDefEqProofs only [maxLen]; omega) | (simp [maxLen, sty_len, nd_len, ndL_len, lnL_len, intsL_len, rvs_len, lensS_len] <;> omega))) | fail)
            refine (hK _ _ _ _ [] (ent_refl _ _) ?_).1
            simp [retM, nodupL, newL, allU, keptL, retP, resL, lk, resT, RnHo, lkp, finU, hget_zero, hget_succ, hget, rnRows_rvs, rn_tup, rn_rv, rn_row, rn_ptr, rn_ifc, rn_agg, rn_dead, RnAll, ofL, rnAll_map, hiq, Ne.symm hiq, ptH, pM, pP]
          | true =>
            simp -implicitDefEqProofs only [if_true] at q4
            have hjl : j < (highE l n).length := by
              apply Classical.byContradiction
              intro h
              rw [List.drop_of_length_le (by omega)] at q4; cases q4
            have hxj : (highE l n)[j]'hjl = x ∧ (highE l n).drop (j + 1) = sortRef (ys.take w) := by
              rw [List.drop_eq_getElem_cons hjl] at q4
              exact List.cons.inj q4
            obtain ⟨m, hmp, hxm⟩ := high_mem (l := l) (n := n) (e := x) (by rw [← hxj.1]; exact List.getElem_mem hjl)
            have hxt : x.tie = (m : Int) := by rw [hxm]; rfl
            have hpt := par_take (l := l) (bx := bx) (cl := cl) (d := d) hjl
            rw [hxj.1, hxt, Int.toNat_natCast] at hpt
            have hpp := par_pre (l := l) (bx := bx) (cl := cl) (d := d) (es := highE l n) (j := j + 1)
            have hpc := hpart m hmp 0 1 (by decide) X (by rw [hXe, List.append_assoc, ← hpt, hX2, hX1, hX0]; simp -implicitDefEqProofs only [List.length_append] at hx ⊢; omega)
            obtain ⟨Y, hYe⟩ : ∃ Y, Y = X2 ++ parI l bx cl d ((highE l n).take (j + 1)) := ⟨_, rfl⟩
            have hXY : X ++ (partN l (ctxN l d) m).flatMap (ownI l bx cl) = Y := by rw [hYe, hXe, hpt, List.append_assoc]
            rw [hXY] at hpc
            simp -implicitDefEqProofs only [ptH, pM, pP] at hpc
            rw [← hxt] at hpc
            by_cases h0 : w = 0
            · subst h0
              have hn := sp12e 2 3 ps.length ys (by decide)
              rw [ent_svm] at hn
              have y_16 := hpc; have y_17 := hn; repeat' (first | (simp -implicitDefEqProofs only [go_sem, ent_len3, ent_mlen3, ent_tk3, ent_dr3, ent_at0, ent_at1]) | (with_reducible refine g_noent ?_) | (refine g_call y_16 (by simp [PreOK, hget]; done) (by simp [okU, uph]; done) ?_) | (refine g_calld y_16 (by simp [PreOK, hget]; done) (by simp [okU, uph]; done) ?_) | (refine g_call y_17 (by simp [PreOK, hget]; done) (by simp [okU, uph]; done) ?_) | (refine g_calld y_17 (by simp [PreOK, hget]; done) (by simp [okU, uph]; done) ?_) | ((first | refine cdS (fun hg => ?_) (fun hg => ?_) | refine gdS (fun hg => ?_) (fun hg => ?_) | refine gddS (fun hg => ?_) (fun hg => ?_)) <;> try simp -implicitDefEqProofs only [hg, Bool.not_true, Bool.not_false]) | ((with_reducible apply And.intro); focus (first | trivial | omega | decide | (simp -implicitDefEqProofs only [maxLen]; omega) | (simp [maxLen, sty_len, nd_len, ndL_len, lnL_len, intsL_len, rvs_len, lensS_len] <;> omega) | (exact ⟨rfl, by decide⟩; done))) | fail)
              rw [List.take_zero, sortRef_nil] at hxj
              subst hYe
              refine hN (ys, 0, j + 1, ⟨0, 0, 0⟩, false) _ _ ⟨by dsimp only; omega, by dsimp only; omega, q3, by dsimp only; omega, by simp [hxj.2]⟩ (by dsimp only; simp; try omega) (ent_move 4 5 (by decide) (by simp) (by simp) (fun k hk => ?_) (by simp [lk, rn_rv, rn_ptr, rn_row, τm]))
              simp -implicitDefEqProofs only [List.length_cons, List.length_nil] at hk
              match k, hk with
              | 0, _ => exact ⟨_, _, rfl, rfl, rhP_pt rfl⟩
              | 1, _ => exact ⟨_, _, rfl, rfl, rhP_rvs⟩
              | 2, _ => exact ⟨_, _, rfl, rfl, rhP_vrow rfl⟩
              | 3, _ => exact ⟨_, _, rfl, rfl, rhP_rvs⟩
              | 4, _ => exact ⟨_, _, rfl, rfl, rhP_var (rs := (⟨0, 0, 0⟩ : Ent3).cells)⟩
            · have hn := sp_agenda_Agenda_Next 2 3 ps.length w ys (by decide) q1 h0 (by omega)
              rw [ent_svm] at hn
              obtain ⟨m1, m2, m3, m4⟩ := pop_ok (es := ys) (n := w) q1 (by omega) q3
              have hnx2 := heap_next (es := ys) (n := w) q1 (by omega) q3
              rw [hnx2] at hxj
              have y_18 := hpc; have y_19 := hn; repeat' (first | (simp -implicitDefEqProofs only [go_sem, ent_len3, ent_mlen3, ent_tk3, ent_dr3, ent_at0, ent_at1]) | (with_reducible refine g_noent ?_) | (refine g_call y_18 (by simp [PreOK, hget]; done) (by simp [okU, uph]; done) ?_) | (refine g_calld y_18 (by simp [PreOK, hget]; done) (by simp [okU, uph]; done) ?_) | (refine g_call y_19 (by simp [PreOK, hget]; done) (by simp [okU, uph]; done) ?_) | (refine g_calld y_19 (by simp [PreOK, hget]; done) (by simp [okU, uph]; done) ?_) | ((first | refine cdS (fun hg => ?_) (fun hg => ?_) | refine gdS (fun hg => ?_) (fun hg => ?_) | refine gddS (fun hg => ?_) (fun hg => ?_)) <;> try simp -implicitDefEqProofs only [hg, Bool.not_true, Bool.not_false]) | ((with_reducible apply And.intro); focus (first | trivial | omega | decide | (simp -implicitDefEqProofs only [maxLen]; omega) | (simp [maxLen, sty_len, nd_len, ndL_len, lnL_len, intsL_len, rvs_len, lensS_len] <;> omega) | (exact ⟨rfl, by decide⟩; done))) | fail)
              subst hYe
              refine hN (popF ys w, w - 1, j + 1, ga (popF ys w) (w - 1), true) _ _ ⟨by dsimp only; omega, by dsimp only; omega, m1, by dsimp only; omega, by simp [hxj.2]⟩ (by dsimp only; simp; try omega) (ent_move 4 5 (by decide) (by simp) (by simp) (fun k hk => ?_) (by simp [lk, rn_rv, rn_ptr, rn_row, τm]))
              simp -implicitDefEqProofs only [List.length_cons, List.length_nil] at hk
              match k, hk with
              | 0, _ => exact ⟨_, _, rfl, rfl, rhP_pt rfl⟩
              | 1, _ => exact ⟨_, _, rfl, rfl, rhP_rvs⟩
              | 2, _ => exact ⟨_, _, rfl, rfl, rhP_vrow rfl⟩
              | 3, _ => exact ⟨_, _, rfl, rfl, rhP_rvs⟩
              | 4, _ => exact ⟨_, _, rfl, rfl, rhP_var (rs := (ga (popF ys w) (w - 1)).cells)⟩
end
end Go.Eng


/- paint: all items. -/
namespace Go.Eng
open Go
/- decoupage/paint.Items -/
def c_paint_Items : AC := (.seq (.reg [⟨(some 6), .mv, [(.c (.rv .nilsl))], none⟩]) (.seq (.seq (.reg [⟨(some 8), .mv, [(.t 1)], none⟩, ⟨(some 9), .len, [(.t 8)], none⟩, ⟨(some 10), .mv, [(.t 0)], none⟩, ⟨(some 11), (.call 48), [(.t 10)], none⟩, ⟨(some 12), (.ibin .neq), [(.t 9), (.t 11)], none⟩, ⟨(some 13), .mv, [(.t 12)], none⟩, ⟨(some 14), .mv, [(.t 2)], (some (13, false))⟩, ⟨(some 15), .len, [(.t 14)], (some (13, false))⟩, ⟨(some 16), .mv, [(.t 0)], (some (13, false))⟩, ⟨(some 17), (.call 48), [(.t 16)], (some (13, false))⟩, ⟨(some 18), (.ibin .neq), [(.t 15), (.t 17)], (some (13, false))⟩, ⟨(some 19), .pick, [(.t 13), (.c (.rv (.bool true))), (.t 18)], none⟩, ⟨(some 20), .mv, [(.t 19)], none⟩, ⟨(some 21), .mv, [(.t 0)], (some (20, false))⟩, ⟨(some 22), (.call 21), [(.t 21), (.c (.rv (.int .i64 0)))], (some (20, false))⟩, ⟨(some 23), .not, [(.t 22)], (some (20, false))⟩, ⟨(some 24), .pick, [(.t 20), (.c (.rv (.bool true))), (.t 23)], none⟩]) (.cond (.t 24) (.seq (.reg [⟨(some 6), .mv, [(.c (.rv .nilsl))], none⟩]) .ret) .skip)) (.seq (.reg [⟨(some 25), .mv, [(.t 0)], none⟩, ⟨(some 26), .mv, [(.t 1)], none⟩, ⟨(some 27), .mv, [(.t 2)], none⟩, ⟨(some 28), (.build [.nilp, .nilsl, .nilsl, .nilsl, .nilsl, .nilsl] [(0, 1), (1, 1), (2, 1)]), [(.t 25), (.t 26), (.t 27)], none⟩, ⟨(some 29), .box, [(.t 28)], none⟩, ⟨(some 7), .mv, [(.t 29)], none⟩]) (.seq (.reg [⟨(some 30), .mv, [(.t 7)], none⟩, ⟨(some 31), (.call 70), [(.t 30)], none⟩]) (.seq (.reg [⟨(some 32), .mv, [(.t 7)], none⟩, ⟨(some 33), (.call 71), [(.t 32), (.c (.rv (.int .i64 0)))], none⟩]) (.seq (.reg [⟨(some 34), .mv, [(.t 7)], none⟩, ⟨(some 35), .nilchk, [(.t 34)], none⟩, ⟨(some 36), (.fld 5), [(.t 35)], none⟩, ⟨(some 37), (.load 1 false), [(.t 36)], none⟩, ⟨(some 6), .mv, [(.t 37)], none⟩]) .ret))))))
theorem k_paint_Items : FnOK Go.Proofs.Try.prog 40 38 c_paint_Items [(.t 6)] := fnOK_of (by kernel_rfl)


def itemsI (l : List Nd) (bx : List Bx) (cl : List Rc) : List Itm := if bx.length = l.length ∧ cl.length = l.length ∧ madeAt l 0 = true then paintI l bx cl else []
theorem sp_context0 (l : List Nd) (hs : Shp l) (hb : l.length ≤ 1000) (bx : List Bx) (cl : List Rc) (hbl : bx.length = l.length) (hcl : cl.length = l.length) (hf : bx.all fewB = true) (h0 : madeAt l 0 = true) :
    CallR Go.Proofs.Try.prog 71 [.ptr 0 0, .rv (.int .i64 0)] [(0, .var [.rv (kinV l), .rv (.sl 21 (bxL bx)), .rv (.sl 4 (rcL cl)), .rv (.sl 1 (memV (memQ l) l.length)), .rv (.sl 1 (memV (partQ l) l.length)), .rv .nilsl])]
      [(0, .var [.rv (kinV l), .rv (.sl 21 (bxL bx)), .rv (.sl 4 (rcL cl)), .rv (.sl 1 (memV (memQ l) l.length)), .rv (.sl 1 (memV (partQ l) l.length)), .row 1 (paintI l bx cl).length (paintI l bx cl).length]), (1, .row 15 (paintI l bx cl).length (rvs (itL (paintI l bx cl))))] (.tup []) := by
  have hfm := form_zero h0
  have hlen : (paintI l bx cl).length ≤ 100000000 := by
    have h1 := flat_len (l := l) (bx := bx) (cl := cl) (ctxN l (l.length + 1) 0)
    have h2 := ctx_len (l := l) (d := l.length + 1) (n := 0) hfm
    unfold paintI; omega
  have h := pnt_context l hs hb bx cl hbl hcl hf (l.length + 1) 0 hfm (by omega) 0 1 (by decide) [] (by rw [List.nil_append]; exact hlen)
  rw [List.nil_append] at h
  exact callR_ghost (i0 := 0) (m := 1) (e := 15) (o := 5) (cs := [.rv (kinV l), .rv (.sl 21 (bxL bx)), .rv (.sl 4 (rcL cl)), .rv (.sl 1 (memV (memQ l) l.length)), .rv (.sl 1 (memV (partQ l) l.length)), .rv .nilsl]) rfl (by simp) (by decide) (by simp) (by simp) h

end Go.Eng


/- paint: all items, in the document. -/
namespace Go.Eng
open Go
end Go.Eng


/- paint: the statements as functions: parts of them. -/
namespace Go.Eng
open Go
/- decoupage/decoupagelaw25.awake -/
def c_decoupagelaw25_awake : AC := (.seq (.reg [⟨(some 0), .mv, [(.c (.rv (.bool false)))], none⟩]) (.seq (.reg [⟨(some 5), (.call 44), [], none⟩, ⟨(some 1), (.alloc [(.bool false), (.int .i64 0), (.int .i64 0), (.int .i64 0), (.int .i64 0), (.int .i64 0), (.int .i64 0), (.int .i64 0), (.int .i64 0), (.int .i64 0), (.int .i64 0), (.int .i64 0), (.int .i64 0), (.int .i64 0), (.int .i64 0), (.int .i64 0), (.int .i64 0), (.int .i64 0), (.int .i64 0), (.int .i64 0), (.int .i64 0), (.int .i64 0), (.int .i64 0), (.int .i64 0), (.int .i64 0), (.int .i64 0), (.int .i64 0), (.int .i64 0), (.int .i64 0), (.int .i64 0), (.int .i64 0), (.int .i64 0), (.int .i64 0), (.int .i64 0), (.int .i64 0), (.int .i64 0), (.int .i64 0), (.int .i64 0), (.int .i64 0), (.int .i64 0), (.int .i64 0), (.int .i64 0), (.bool false), (.bool false), (.int .i64 0), (.bool false), (.int .i64 0), (.int .i64 0)]), [], none⟩, ⟨none, (.store 48), [(.t 1), (.t 5)], none⟩]) (.seq (.reg [⟨(some 6), (.fld 46), [(.t 1)], none⟩, ⟨none, (.store 1), [(.t 6), (.c (.rv (.int .i64 5)))], none⟩]) (.seq (.reg [⟨(some 8), (.load 48 true), [(.t 1)], none⟩, ⟨(some 9), (.build [(.bool false), (.int .i64 0), (.int .i64 0), (.int .i64 0), (.int .i64 0), (.int .i64 0), (.int .i64 0), (.int .i64 0), (.int .i64 0), (.int .i64 0), (.int .i64 0), (.int .i64 0), (.int .i64 0), (.int .i64 0), (.int .i64 0), (.int .i64 0), (.int .i64 0), (.int .i64 0), (.int .i64 0), (.int .i64 0), (.int .i64 0), (.int .i64 0), (.int .i64 0), (.int .i64 0), (.int .i64 0), (.int .i64 0), (.int .i64 0), (.int .i64 0), (.int .i64 0), (.int .i64 0), (.int .i64 0), (.int .i64 0), (.int .i64 0), (.int .i64 0), (.int .i64 0), (.int .i64 0), (.int .i64 0), (.int .i64 0), (.int .i64 0), (.int .i64 0), (.int .i64 0), (.int .i64 0), (.bool false), (.bool false), (.int .i64 0), (.bool false), (.int .i64 0), (.int .i64 0), (.int .i64 0)] [(0, 48), (48, 1)]), [(.t 8), (.c (.rv (.int .i64 (-1))))], none⟩, ⟨(some 10), (.bsl 49), [(.t 9)], none⟩, ⟨(some 11), (.call 17), [(.t 10)], none⟩, ⟨(some 7), .mv, [(.t 11)], none⟩, ⟨(some 12), (.ext 0), [(.t 7)], none⟩, ⟨(some 13), (.ext 1), [(.t 7)], none⟩, ⟨(some 2), .mv, [(.t 12)], none⟩, ⟨(some 3), .mv, [(.t 13)], none⟩]) (.seq (.reg [⟨(some 14), .mv, [(.t 2)], none⟩, ⟨(some 15), (.build [(.bool false), (.int .i64 0), (.int .i64 0), (.int .i64 0), (.int .i64 0), (.int .i64 0), (.int .i64 0), (.int .i64 0), (.int .i64 0), (.int .i64 0), (.int .i64 0), (.int .i64 0), (.int .i64 0), (.int .i64 0), (.int .i64 0), (.int .i64 0), (.int .i64 0), (.int .i64 0), (.int .i64 0), (.int .i64 0), (.int .i64 0)] [(0, 1), (3, 1), (4, 1)]), [(.c (.rv (.bool true))), (.c (.rv (.int .i64 3))), (.c (.rv (.int .i64 4)))], none⟩, ⟨(some 16), (.bsl 21), [(.t 15)], none⟩, ⟨(some 17), (.build [(.int .i64 0), (.int .i64 0), (.int .i64 0), (.int .i64 0)] [(2, 1), (3, 1)]), [(.c (.rv (.int .i64 9))), (.c (.rv (.int .i64 9)))], none⟩, ⟨(some 18), (.bsl 4), [(.t 17)], none⟩, ⟨(some 19), (.call 40), [(.t 14), (.t 16), (.t 18)], none⟩, ⟨(some 4), .mv, [(.t 19)], none⟩]) (.seq (.reg [⟨(some 20), .mv, [(.t 3)], none⟩, ⟨(some 21), (.ibin .eql), [(.t 20), (.c (.rv (.int .i64 0)))], none⟩, ⟨(some 22), .mv, [(.t 21)], none⟩, ⟨(some 23), .mv, [(.t 4)], (some (22, true))⟩, ⟨(some 24), .len, [(.t 23)], (some (22, true))⟩, ⟨(some 25), (.ibin .eql), [(.t 24), (.c (.rv (.int .i64 1)))], (some (22, true))⟩, ⟨(some 26), .pick, [(.t 22), (.t 25), (.c (.rv (.bool false)))], none⟩, ⟨(some 27), .mv, [(.t 26)], none⟩, ⟨(some 28), .mv, [(.t 4)], (some (27, true))⟩, ⟨(some 29), (.ixs 15), [(.t 28), (.c (.rv (.int .i64 0)))], (some (27, true))⟩, ⟨(some 30), (.fld 2), [(.t 29)], (some (27, true))⟩, ⟨(some 31), (.load 4 true), [(.t 30)], (some (27, true))⟩, ⟨(some 32), (.build [(.int .i64 0), (.int .i64 0), (.int .i64 0), (.int .i64 0)] [(2, 1), (3, 1)]), [(.c (.rv (.int .i64 3))), (.c (.rv (.int .i64 4)))], (some (27, true))⟩, ⟨(some 33), (.eqs false true [.i, .i, .i, .i]), [(.t 31), (.t 32)], (some (27, true))⟩, ⟨(some 34), .pick, [(.t 27), (.t 33), (.c (.rv (.bool false)))], none⟩, ⟨(some 35), .mv, [(.t 34)], none⟩, ⟨(some 36), .mv, [(.t 4)], (some (35, true))⟩, ⟨(some 37), (.ixs 15), [(.t 36), (.c (.rv (.int .i64 0)))], (some (35, true))⟩, ⟨(some 38), (.fld 14), [(.t 37)], (some (35, true))⟩, ⟨(some 39), (.load 1 false), [(.t 38)], (some (35, true))⟩, ⟨(some 40), (.ibin .eql), [(.t 39), (.c (.rv (.int .i64 5)))], (some (35, true))⟩, ⟨(some 41), .pick, [(.t 35), (.t 40), (.c (.rv (.bool false)))], none⟩, ⟨(some 0), .mv, [(.t 41)], none⟩]) .ret))))))
theorem k_decoupagelaw25_awake : FnOK Go.Proofs.Try.prog 37 42 c_decoupagelaw25_awake [(.t 0)] := fnOK_of (by kernel_rfl)


set_option maxRecDepth 20000 in
set_option maxHeartbeats 4000000 in
theorem sp_paint_ItemsN (m : Nat) (l : List Nd) (hs : Shp l) (hb : l.length ≤ 1000) (bx : List Bx) (cl : List Rc) (hf : bx.all fewB = true) : CallR Go.Proofs.Try.prog 40 [.rv (kinV l), .rv (.sl 21 (bxL bx)), .rv (.sl 4 (rcL cl))] [] [(m, .row 15 (itemsI l bx cl).length (rvs (itL (itemsI l bx cl))))] (.row m (itemsI l bx cl).length (itemsI l bx cl).length) := by
  refine callR_M k_paint_Items [] [] [] [.rv (kinV l), .rv (.sl 21 (bxL bx)), .rv (.sl 4 (rcL cl))] [.rv (kinV l), .rv (.sl 21 (bxL bx)), .rv (.sl 4 (rcL cl))] _ _ (by simp) (by simp [BkAll, bk_rv]) rfl (by simp [nodupL]) (by simp [BkHs]) (fun K hK => ?_)
  have hbn := bxL_len bx
  have hcn := rcL_len cl
  have hmd := sp_Made l 0
  simp -implicitDefEqProofs only [c_paint_Items, go_sem]
  by_cases h1 : bx.length = l.length
  · have e1 : ((bx.length : Int) != (l.length : Int)) = false := by simp [h1]
    by_cases h2 : cl.length = l.length
    · have e2 : ((cl.length : Int) != (l.length : Int)) = false := by simp [h2]
      cases h0 : madeAt l 0 with
      | true =>
        rw [h0] at hmd
        have hI : itemsI l bx cl = paintI l bx cl := if_pos ⟨h1, h2, h0⟩
        rw [hI] at hK
        have hst := sp_painter_sort l hs hb bx cl 0
        have hcx := sp_context0 l hs hb bx cl h1 h2 hf h0
        generalize paintI l bx cl = X at *
        have y_1 := sp_Len l; have y_2 := hmd; have y_3 := hst; have y_4 := hcx; repeat' (first | (simp -implicitDefEqProofs only [go_sem, hbn, hcn, e1, e2]) | (with_reducible refine g_noent ?_) | (with_reducible first | refine g_call0 y_1 ?_ | refine g_calld0 y_1 ?_) | (with_reducible first | refine g_call0 y_2 ?_ | refine g_calld0 y_2 ?_) | (refine g_call y_3 (by simp [PreOK, hget]; done) (by simp [okU, uph]; done) ?_) | (refine g_calld y_3 (by simp [PreOK, hget]; done) (by simp [okU, uph]; done) ?_) | (refine g_call y_4 (by simp [PreOK, hget]; done) (by simp [okU, uph]; done) ?_) | (refine g_calld y_4 (by simp [PreOK, hget]; done) (by simp [okU, uph]; done) ?_) | ((first | refine cdS (fun hg => ?_) (fun hg => ?_) | refine gdS (fun hg => ?_) (fun hg => ?_) | refine gddS (fun hg => ?_) (fun hg => ?_)) <;> try simp -implicitDefEqProofs only [hg, Bool.not_true, Bool.not_false]) | ((with_reducible apply And.intro); focus (first | trivial | omega | decide | (simp -implicitDefEqProofs only [maxLen]; omega) | (simp [maxLen, sty_len, nd_len, ndL_len, lnL_len, intsL_len, rvs_len, lensS_len] <;> omega))) | fail)
        refine (hK _ _ _ _ [none, some m] (ent_refl _ _) ?_).2
        simp [retM, nodupL, newL, allU, keptL, retP, resL, lk, resT, RnHo, lkp, finU, hget_zero, hget_succ, hget, rnRows_rvs, rn_tup, rn_rv, rn_row, rn_ptr, rn_ifc, rn_agg, rn_dead, RnAll, ofL, rnAll_map]
      | false =>
        rw [h0] at hmd
        have hI : itemsI l bx cl = [] := if_neg (by rw [h0]; simp)
        rw [hI] at hK
        have y_5 := sp_Len l; have y_6 := hmd; repeat' (first | (simp -implicitDefEqProofs only [go_sem, hbn, hcn, e1, e2]) | (with_reducible refine g_noent ?_) | (with_reducible first | refine g_call0 y_5 ?_ | refine g_calld0 y_5 ?_) | (with_reducible first | refine g_call0 y_6 ?_ | refine g_calld0 y_6 ?_) | ((first | refine cdS (fun hg => ?_) (fun hg => ?_) | refine gdS (fun hg => ?_) (fun hg => ?_) | refine gddS (fun hg => ?_) (fun hg => ?_)) <;> try simp -implicitDefEqProofs only [hg, Bool.not_true, Bool.not_false]) | ((with_reducible apply And.intro); focus (first | trivial | omega | decide | (simp -implicitDefEqProofs only [maxLen]; omega) | (simp [maxLen, sty_len, nd_len, ndL_len, lnL_len, intsL_len, rvs_len, lensS_len] <;> omega))) | fail)
        refine (hK _ _ _ _ [some m] (ent_ghostv 6 15 0 rfl) ?_).2
        simp [retM, nodupL, newL, allU, keptL, retP, resL, lk, resT, RnHo, lkp, finU, hget_zero, hget_succ, hget, rnRows_rvs, rn_tup, rn_rv, rn_row, rn_ptr, rn_ifc, rn_agg, rn_dead, RnAll, ofL, rnAll_map]
        exact ⟨by simp [rvs, itL], fun i x y hx => by simp at hx⟩
    · have e2 : ((cl.length : Int) != (l.length : Int)) = true := by simp; omega
      have hI : itemsI l bx cl = [] := if_neg (fun h => h2 h.2.1)
      rw [hI] at hK
      have y_7 := sp_Len l; repeat' (first | (simp -implicitDefEqProofs only [go_sem, hbn, hcn, e1, e2]) | (with_reducible refine g_noent ?_) | (with_reducible first | refine g_call0 y_7 ?_ | refine g_calld0 y_7 ?_) | ((first | refine cdS (fun hg => ?_) (fun hg => ?_) | refine gdS (fun hg => ?_) (fun hg => ?_) | refine gddS (fun hg => ?_) (fun hg => ?_)) <;> try simp -implicitDefEqProofs only [hg, Bool.not_true, Bool.not_false]) | ((with_reducible apply And.intro); focus (first | trivial | omega | decide | (simp -implicitDefEqProofs only [maxLen]; omega) | (simp [maxLen, sty_len, nd_len, ndL_len, lnL_len, intsL_len, rvs_len, lensS_len] <;> omega))) | fail)
      refine (hK _ _ _ _ [some m] (ent_ghostv 6 15 0 rfl) ?_).2
      simp [retM, nodupL, newL, allU, keptL, retP, resL, lk, resT, RnHo, lkp, finU, hget_zero, hget_succ, hget, rnRows_rvs, rn_tup, rn_rv, rn_row, rn_ptr, rn_ifc, rn_agg, rn_dead, RnAll, ofL, rnAll_map]
      exact ⟨by simp [rvs, itL], fun i x y hx => by simp at hx⟩
  · have e1 : ((bx.length : Int) != (l.length : Int)) = true := by simp; omega
    have hI : itemsI l bx cl = [] := if_neg (fun h => h1 h.1)
    rw [hI] at hK
    have y_8 := sp_Len l; repeat' (first | (simp -implicitDefEqProofs only [go_sem, hbn, hcn, e1]) | (with_reducible refine g_noent ?_) | (with_reducible first | refine g_call0 y_8 ?_ | refine g_calld0 y_8 ?_) | ((first | refine cdS (fun hg => ?_) (fun hg => ?_) | refine gdS (fun hg => ?_) (fun hg => ?_) | refine gddS (fun hg => ?_) (fun hg => ?_)) <;> try simp -implicitDefEqProofs only [hg, Bool.not_true, Bool.not_false]) | ((with_reducible apply And.intro); focus (first | trivial | omega | decide | (simp -implicitDefEqProofs only [maxLen]; omega) | (simp [maxLen, sty_len, nd_len, ndL_len, lnL_len, intsL_len, rvs_len, lensS_len] <;> omega))) | fail)
    refine (hK _ _ _ _ [some m] (ent_ghostv 6 15 0 rfl) ?_).2
    simp [retM, nodupL, newL, allU, keptL, retP, resL, lk, resT, RnHo, lkp, finU, hget_zero, hget_succ, hget, rnRows_rvs, rn_tup, rn_rv, rn_row, rn_ptr, rn_ifc, rn_agg, rn_dead, RnAll, ofL, rnAll_map]
    exact ⟨by simp [rvs, itL], fun i x y hx => by simp at hx⟩

theorem flat_it (x : Itm) : ∀ r ∈ x.cells, FlatR r := by
  intro r hr
  simp -implicitDefEqProofs only [Itm.cells, List.mem_cons, List.not_mem_nil, or_false] at hr
  repeat' rcases hr with rfl | hr
  all_goals first | exact .int _ _ | (subst hr; exact .int _ _)
theorem sp_paint_ItemsO (m : Nat) (l : List Nd) (hs : Shp l) (hb : l.length ≤ 1000) (bx : List Bx) (cl : List Rc) (hf : bx.all fewB = true) (i u j v : Nat) (hi : i ≠ m) (hj : j ≠ m) : CallR Go.Proofs.Try.prog 40 [.rv (kinV l), .row i u bx.length, .row j v cl.length] [(i, .row 21 u (rvs (bxL bx))), (j, .row 4 v (rvs (rcL cl)))] [(m, .row 15 (itemsI l bx cl).length (rvs (itL (itemsI l bx cl))))] (.row m (itemsI l bx cl).length (itemsI l bx cl).length) := by
  refine callR_borrowN (args0 := [.rv (kinV l), .rv (.sl 21 (bxL bx)), .rv (.sl 4 (rcL cl))]) (sp_paint_ItemsN m l hs hb bx cl hf) rfl (fun hp' hpre k y r hy hr => ?_) (.row _ _ _) (fun q hq => ?_)
  · match k, hy, hr with
    | 0, hy, hr => cases hy; cases hr; exact rn_rv.2 rfl
    | 1, hy, hr => cases hy; cases hr; exact rn_frz (xs := bxL bx) (hpre _ (.head _)) rfl (by rw [bxL_len]) (bxL_one _)
    | 2, hy, hr => cases hy; cases hr; exact rn_frz (xs := rcL cl) (hpre _ (.tail _ (.head _))) rfl (by rw [rcL_len]) (rcL_one _)
    | k + 3, hy, hr => simp at hy
  · simp at hq; subst hq
    refine ⟨flatH_rvs fun x hx => ?_, fun p hp => ?_⟩
    · obtain ⟨n, _, rfl⟩ := List.mem_map.1 hx
      exact flat_it n
    · simp -implicitDefEqProofs only [List.mem_cons, List.not_mem_nil, or_false] at hp
      rcases hp with rfl | rfl
      · exact hi
      · exact hj

abbrev bkS : Sty := { plainS with back := 5 }
abbrev bkN : List Nd := [⟨bkS, -1⟩]
theorem bk_chk : chk bkN = 0 := by decide +kernel
theorem bk_made : madeAt bkN 0 = true := by decide +kernel
def bkB : List Bx := [⟨true, 0, 0, 3, 4, ⟨0, 0, 0, 0⟩, ⟨0, 0, 0, 0⟩, ⟨0, 0, 0, 0⟩, ⟨0, 0, 0, 0⟩⟩]
def bkI : Itm := ⟨0, 0, ⟨0, 0, 3, 4⟩, ⟨0, 0, 0, 0⟩, ⟨0, 0, 9, 9⟩, 5⟩
theorem bk_own : ownI bkN bkB [⟨0, 0, 9, 9⟩] 0 = [bkI] := by decide +kernel
theorem bk_items : itemsI bkN bkB [⟨0, 0, 9, 9⟩] = [bkI] := by
  have h : itemsI bkN bkB [⟨0, 0, 9, 9⟩] = paintI bkN bkB [⟨0, 0, 9, 9⟩] := if_pos ⟨rfl, rfl, bk_made⟩
  rw [h, ← ref_paint (tree_shp (chk_tree bk_chk)) bk_made]
  show refTo bkN bkB [⟨0, 0, 9, 9⟩] 1 = [bkI]
  have hm : madeAt bkN ((0 : Nat) : Int) = true := bk_made
  rw [refTo, if_pos hm, bk_own]; rfl
set_option maxRecDepth 20000 in
theorem sp_awake25 : CallR Go.Proofs.Try.prog 37 [] [] [] (.rv (.bool true)) := by
  refine callR_G k_decoupagelaw25_awake [] _ (by simp) (by simp [BkAll, bk_agg, bkAll_map, bk_rv, bk_fn, Sty.sv, Ln.sv, Nd.sv]) (fun K hK => ?_)
  have hk := sp_kin_OfR bkN (by decide) bk_chk 1 0
  have hc := sp_paint_ItemsO 4 bkN (tree_shp (chk_tree bk_chk)) (by decide) bkB [⟨0, 0, 9, 9⟩] (by decide) 2 0 3 0 (by decide) (by decide)
  rw [bk_items] at hc
  have e1 : ((0 : Int) == 0) = true := rfl
  have e2 : ((((1 : Nat) : Int)) == 1) = true := rfl
  have e3 : ((3 : Int) == 3) = true := rfl
  have e4 : ((4 : Int) == 4) = true := rfl
  have e5 : ((5 : Int) == 5) = true := rfl
  simp -implicitDefEqProofs only [c_decoupagelaw25_awake, go_sem]
  have y_9 := sp_Plain; repeat' (first | (simp -implicitDefEqProofs only [go_sem, sty_len]) | (with_reducible refine g_noent ?_) | (with_reducible first | refine g_call0 y_9 ?_ | refine g_calld0 y_9 ?_) | ((first | refine cdS (fun hg => ?_) (fun hg => ?_) | refine gdS (fun hg => ?_) (fun hg => ?_) | refine gddS (fun hg => ?_) (fun hg => ?_)) <;> try simp -implicitDefEqProofs only [hg, Bool.not_true, Bool.not_false]) | ((with_reducible apply And.intro); focus (first | trivial | omega | decide | (simp -implicitDefEqProofs only [maxLen]; omega) | (simp [maxLen, sty_len, nd_len, ndL_len, lnL_len, intsL_len, rvs_len, lensS_len] <;> omega) | (rfl; done) | (exact ⟨rfl, by decide⟩; done))) | fail)
  refine g_call hk (pre_one rfl) trivial ?_
  repeat' (first | (simp -implicitDefEqProofs only [go_sem]) | (with_reducible refine g_noent ?_) | ((first | refine cdS (fun hg => ?_) (fun hg => ?_) | refine gdS (fun hg => ?_) (fun hg => ?_) | refine gddS (fun hg => ?_) (fun hg => ?_)) <;> try simp -implicitDefEqProofs only [hg, Bool.not_true, Bool.not_false]) | ((with_reducible apply And.intro); focus (first | trivial | omega | decide | (simp -implicitDefEqProofs only [maxLen]; omega) | (simp [maxLen, sty_len, nd_len, ndL_len, lnL_len, intsL_len, rvs_len, lensS_len] <;> omega))) | fail)
  have hc2 : CallR Go.Proofs.Try.prog 40 [.rv (kinV bkN), .row 2 0 1, .row 3 0 1] [(2, .row 21 0 (rvs (bxL bkB))), (3, .row 4 0 (rvs (rcL [⟨0, 0, 9, 9⟩])))] [(4, .row 15 1 [bkI.cells.map SV.rv])] (.row 4 1 1) := hc
  refine g_call hc2 ?_ (by simp [okU, uph]) ?_
  · intro q hq
    simp -implicitDefEqProofs only [List.mem_cons, List.not_mem_nil, or_false] at hq
    rcases hq with rfl | rfl <;> rfl
  repeat' (first | (simp -implicitDefEqProofs only [go_sem, e1, e2, e3, e4, e5, it_len, bkI, Itm.cells, Bool.and_true, Bool.and_self]) | (with_reducible refine g_noent ?_) | ((first | refine cdS (fun hg => ?_) (fun hg => ?_) | refine gdS (fun hg => ?_) (fun hg => ?_) | refine gddS (fun hg => ?_) (fun hg => ?_)) <;> try simp -implicitDefEqProofs only [hg, Bool.not_true, Bool.not_false]) | ((with_reducible apply And.intro); focus (first | trivial | omega | decide | (simp -implicitDefEqProofs only [maxLen]; omega) | (simp [maxLen, sty_len, nd_len, ndL_len, lnL_len, intsL_len, rvs_len, lensS_len] <;> omega))) | fail)
  exact (hK _ _ (ret_t rfl)).2
end Go.Eng


/- paint: the statement on what is painted. -/
namespace Go.Eng
open Go
/- decoupage/decoupagelaw25.PaintOrders -/
def c_decoupagelaw25_PaintOrders : AC := (.seq (.reg [⟨(some 2), .mv, [(.c (.rv (.bool false)))], none⟩]) (.seq (.seq (.reg [⟨(some 10), (.call 37), [], none⟩, ⟨(some 11), .not, [(.t 10)], none⟩, ⟨(some 12), .mv, [(.t 11)], none⟩, ⟨(some 13), .mv, [(.t 0)], (some (12, false))⟩, ⟨(some 14), .len, [(.t 13)], (some (12, false))⟩, ⟨(some 15), (.ibin .gtr), [(.t 14), (.c (.rv (.int .i64 20)))], (some (12, false))⟩, ⟨(some 16), .pick, [(.t 12), (.c (.rv (.bool true))), (.t 15)], none⟩, ⟨(some 17), .mv, [(.t 16)], none⟩, ⟨(some 18), .mv, [(.t 0)], (some (17, false))⟩, ⟨(some 19), (.call 16), [(.t 18)], (some (17, false))⟩, ⟨(some 20), (.ibin .neq), [(.t 19), (.c (.rv (.int .i64 0)))], (some (17, false))⟩, ⟨(some 21), .pick, [(.t 17), (.c (.rv (.bool true))), (.t 20)], none⟩]) (.cond (.t 21) (.seq (.reg [⟨(some 22), (.call 37), [], none⟩, ⟨(some 2), .mv, [(.t 22)], none⟩]) .ret) .skip)) (.seq (.reg [⟨(some 24), .mv, [(.t 0)], none⟩, ⟨(some 25), (.call 17), [(.t 24)], none⟩, ⟨(some 23), .mv, [(.t 25)], none⟩, ⟨(some 26), (.ext 0), [(.t 23)], none⟩, ⟨(some 27), (.ext 1), [(.t 23)], none⟩, ⟨(some 3), .mv, [(.t 26)], none⟩, ⟨(some 4), .mv, [(.t 27)], none⟩]) (.seq (.regd [0, 0, 2, 6, 0, 16, 48, 127, 255] [⟨(some 28), .mv, [(.t 3)], none⟩, ⟨(some 29), .mv, [(.t 0)], none⟩, ⟨(some 30), .len, [(.t 29)], none⟩, ⟨(some 31), (.mksl 21 168 [(.bool false), (.int .i64 0), (.int .i64 0), (.int .i64 0), (.int .i64 0), (.int .i64 0), (.int .i64 0), (.int .i64 0), (.int .i64 0), (.int .i64 0), (.int .i64 0), (.int .i64 0), (.int .i64 0), (.int .i64 0), (.int .i64 0), (.int .i64 0), (.int .i64 0), (.int .i64 0), (.int .i64 0), (.int .i64 0), (.int .i64 0)]), [(.t 30), (.t 30)], none⟩, ⟨(some 32), .mv, [(.t 0)], none⟩, ⟨(some 33), .len, [(.t 32)], none⟩, ⟨(some 34), (.mksl 4 32 [(.int .i64 0), (.int .i64 0), (.int .i64 0), (.int .i64 0)]), [(.t 33), (.t 33)], none⟩, ⟨(some 35), (.call 40), [(.t 28), (.t 31), (.t 34)], none⟩, ⟨(some 5), .mv, [(.t 35)], none⟩]) (.seq (.seq (.reg [⟨(some 36), .mv, [(.t 5)], none⟩, ⟨(some 37), .len, [(.t 36)], none⟩, ⟨(some 38), .mv, [(.c (.rv (.int .i64 0)))], none⟩]) (.seq (.block 0 (.loop (.seq (.reg [⟨(some 39), (.ibin .lss), [(.t 38), (.t 37)], none⟩]) (.seq (.cond (.t 39) .skip (.exit 0)) (.seq (.seq (.block 1 (.seq (.reg [⟨(some 40), .mv, [(.t 38)], none⟩, ⟨(some 6), .mv, [(.t 40)], none⟩]) (.seq (.reg [⟨(some 41), .mv, [(.t 6)], none⟩, ⟨(some 42), .mv, [(.c (.rv (.int .i64 0)))], none⟩]) (.seq (.block 2 (.loop (.seq (.reg [⟨(some 43), (.ibin .lss), [(.t 42), (.t 41)], none⟩]) (.seq (.cond (.t 43) .skip (.exit 2)) (.seq (.seq (.block 3 (.seq (.reg [⟨(some 44), .mv, [(.t 42)], none⟩, ⟨(some 7), .mv, [(.t 44)], none⟩]) (.seq (.regd [0, 0, 3, 7, 0, 0, 48, 112, 0, 0, 783, 2047] [⟨(some 45), .mv, [(.t 5)], none⟩, ⟨(some 46), .mv, [(.t 7)], none⟩, ⟨(some 47), (.ixs 15), [(.t 45), (.t 46)], none⟩, ⟨(some 48), (.load 15 true), [(.t 47)], none⟩, ⟨(some 49), .mv, [(.t 5)], none⟩, ⟨(some 50), .mv, [(.t 6)], none⟩, ⟨(some 51), (.ixs 15), [(.t 49), (.t 50)], none⟩, ⟨(some 52), (.load 15 true), [(.t 51)], none⟩, ⟨(some 8), (.alloc [(.int .i64 0), (.int .i64 0), (.int .i64 0), (.int .i64 0), (.int .i64 0), (.int .i64 0), (.int .i64 0), (.int .i64 0), (.int .i64 0), (.int .i64 0), (.int .i64 0), (.int .i64 0), (.int .i64 0), (.int .i64 0), (.int .i64 0)]), [], none⟩, ⟨(some 9), (.alloc [(.int .i64 0), (.int .i64 0), (.int .i64 0), (.int .i64 0), (.int .i64 0), (.int .i64 0), (.int .i64 0), (.int .i64 0), (.int .i64 0), (.int .i64 0), (.int .i64 0), (.int .i64 0), (.int .i64 0), (.int .i64 0), (.int .i64 0)]), [], none⟩, ⟨none, (.store 15), [(.t 8), (.t 48)], none⟩, ⟨none, (.store 15), [(.t 9), (.t 52)], none⟩]) (.seq (.reg [⟨(some 53), .mv, [(.t 0)], none⟩, ⟨(some 54), (.fld 0), [(.t 8)], none⟩, ⟨(some 55), (.load 1 false), [(.t 54)], none⟩, ⟨(some 56), (.fld 1), [(.t 8)], none⟩, ⟨(some 57), (.load 1 false), [(.t 56)], none⟩, ⟨(some 58), (.build [(.int .i64 0), (.int .i64 0)] [(0, 1), (1, 1)]), [(.t 55), (.t 57)], none⟩, ⟨(some 59), (.fld 0), [(.t 9)], none⟩, ⟨(some 60), (.load 1 false), [(.t 59)], none⟩, ⟨(some 61), (.fld 1), [(.t 9)], none⟩, ⟨(some 62), (.load 1 false), [(.t 61)], none⟩, ⟨(some 63), (.build [(.int .i64 0), (.int .i64 0)] [(0, 1), (1, 1)]), [(.t 60), (.t 62)], none⟩, ⟨(some 64), (.call 43), [(.t 53), (.t 58), (.t 63)], none⟩, ⟨(some 65), .not, [(.t 64)], none⟩]) (.cond (.t 65) (.seq (.reg [⟨(some 2), .mv, [(.c (.rv (.bool false)))], none⟩]) .ret) .skip))))) .ent) (.reg [⟨(some 66), (.ibin .add), [(.t 42), (.c (.rv (.int .i64 1)))], none⟩, ⟨(some 42), .mv, [(.t 66)], none⟩])))))) .ent)))) .ent) (.reg [⟨(some 67), (.ibin .add), [(.t 38), (.c (.rv (.int .i64 1)))], none⟩, ⟨(some 38), .mv, [(.t 67)], none⟩])))))) .ent)) (.seq (.reg [⟨(some 68), .mv, [(.t 4)], none⟩, ⟨(some 69), (.ibin .eql), [(.t 68), (.c (.rv (.int .i64 0)))], none⟩, ⟨(some 2), .mv, [(.t 69)], none⟩]) .ret))))))
theorem k_decoupagelaw25_PaintOrders : FnOK Go.Proofs.Try.prog 13 70 c_decoupagelaw25_PaintOrders [(.t 2)] := fnOK_of (by kernel_rfl)


theorem bx_rep0 (n : Nat) : List.replicate n [SV.rv (.bool false), .rv (.int .i64 0), .rv (.int .i64 0), .rv (.int .i64 0), .rv (.int .i64 0), .rv (.int .i64 0), .rv (.int .i64 0), .rv (.int .i64 0), .rv (.int .i64 0), .rv (.int .i64 0), .rv (.int .i64 0), .rv (.int .i64 0), .rv (.int .i64 0), .rv (.int .i64 0), .rv (.int .i64 0), .rv (.int .i64 0), .rv (.int .i64 0), .rv (.int .i64 0), .rv (.int .i64 0), .rv (.int .i64 0), .rv (.int .i64 0)] = rvs (bxL (List.replicate n default)) := by
  simp -implicitDefEqProofs only [rvs, bxL, List.map_replicate]; rfl
theorem rc_rep0 (n : Nat) : List.replicate n [SV.rv (.int .i64 0), .rv (.int .i64 0), .rv (.int .i64 0), .rv (.int .i64 0)] = rvs (rcL (List.replicate n zeroR)) := by
  simp -implicitDefEqProofs only [rvs, rcL, List.map_replicate]; rfl
theorem few_rep (n : Nat) : (List.replicate n (default : Bx)).all fewB = true := by
  rw [List.all_eq_true]
  intro b hb
  rw [List.eq_of_mem_replicate hb]; rfl

set_option maxRecDepth 20000 in
set_option maxHeartbeats 4000000 in
theorem sp_PaintOrders (l : List Nd) : CallR Go.Proofs.Try.prog 13 [.rv (.sl 49 (ndL l))] [] [] (.rv (.bool true)) := by
  refine callR_G k_decoupagelaw25_PaintOrders [.rv (.sl 49 (ndL l))] _ (by simp) (by simp [BkAll, bk_agg, bkAll_map, bk_rv, bk_fn, Sty.sv, Ln.sv, Nd.sv]) (fun K hK => ?_)
  have hlen := ndL_len l
  simp -implicitDefEqProofs only [c_decoupagelaw25_PaintOrders, go_sem]
  by_cases hl : l.length > 20
  · have e1 : decide ((l.length : Int) > 20) = true := decide_eq_true (by omega)
    have y_16 := sp_awake25; repeat' (first | (simp -implicitDefEqProofs only [go_sem, hlen, e1]) | (with_reducible refine g_noent ?_) | (with_reducible first | refine g_call0 y_16 ?_ | refine g_calld0 y_16 ?_) | ((first | refine cdS (fun hg => ?_) (fun hg => ?_) | refine gdS (fun hg => ?_) (fun hg => ?_) | refine gddS (fun hg => ?_) (fun hg => ?_)) <;> try simp -implicitDefEqProofs only [hg, Bool.not_true, Bool.not_false]) | ((with_reducible apply And.intro); focus (first | trivial | omega | decide | (simp -implicitDefEqProofs only [maxLen]; omega) | (simp [maxLen, sty_len, nd_len, ndL_len, lnL_len, intsL_len, rvs_len, lensS_len] <;> omega))) | fail)
    exact (hK _ _ (ret_t rfl)).2
  · have e1 : decide ((l.length : Int) > 20) = false := decide_eq_false (by omega)
    have hck := sp_ref07_Check l (by omega)
    by_cases hc : chk l = 0
    · rw [hc] at hck
      have e00 : ((0 : Int) != 0) = false := rfl
      have e01 : ((0 : Int) == 0) = true := rfl
      have hko := sp_kin_Of l (by omega) hc
      have ht := chk_tree hc
      have hs := tree_shp ht
      have hit := sp_paint_ItemsO 2 l hs (by omega) (List.replicate l.length default) (List.replicate l.length zeroR) (few_rep _) 0 0 1 0 (by decide) (by decide)
      simp -implicitDefEqProofs only [List.length_replicate] at hit
      have hpw : (itemsI l (List.replicate l.length default) (List.replicate l.length zeroR)).Pairwise (itLt l) := by
        unfold itemsI
        split
        · rename_i h; exact paint_pair h.2.2
        · exact .nil
      have hXb : (itemsI l (List.replicate l.length default) (List.replicate l.length zeroR)).length ≤ 1000 := by
        unfold itemsI
        split
        · rename_i h
          have h1 := flat_len (l := l) (bx := List.replicate l.length default) (cl := List.replicate l.length zeroR) (ctxN l (l.length + 1) 0)
          have h2 := ctx_len (l := l) (d := l.length + 1) (n := 0) (form_zero h.2.2)
          unfold paintI; omega
        · simp
      generalize itemsI l (List.replicate l.length default) (List.replicate l.length zeroR) = X at *
      have hXl := itL_len X
      have y_17 := sp_awake25; have y_18 := hck; have y_19 := hko; have y_20 := hit; repeat' (first | (simp -implicitDefEqProofs only [go_sem, hlen, e1, e00, bx_rep0, rc_rep0]) | (with_reducible refine g_noent ?_) | (with_reducible first | refine g_call0 y_17 ?_ | refine g_calld0 y_17 ?_) | (with_reducible first | refine g_call0 y_18 ?_ | refine g_calld0 y_18 ?_) | (with_reducible first | refine g_call0 y_19 ?_ | refine g_calld0 y_19 ?_) | (refine g_call y_20 (by simp [PreOK, hget]; done) (by simp [okU, uph]; done) ?_) | (refine g_calld y_20 (by simp [PreOK, hget]; done) (by simp [okU, uph]; done) ?_) | ((first | refine cdS (fun hg => ?_) (fun hg => ?_) | refine gdS (fun hg => ?_) (fun hg => ?_) | refine gddS (fun hg => ?_) (fun hg => ?_)) <;> try simp -implicitDefEqProofs only [hg, Bool.not_true, Bool.not_false]) | ((with_reducible apply And.intro); focus (first | trivial | omega | decide | (simp -implicitDefEqProofs only [maxLen]; omega) | (simp [maxLen, sty_len, nd_len, ndL_len, lnL_len, intsL_len, rvs_len, lensS_len] <;> omega))) | fail)
      refine g_loop (ι := Nat) (fun b => [(38, .rv (.int .i64 b)), (37, .rv (.int .i64 X.length)), (5, .row 2 X.length X.length), (4, .rv (.int .i64 0)), (0, .rv (.sl 49 (ndL l)))]) (fun _ => [some (.row 21 0 (rvs (bxL (List.replicate l.length default)))), some (.row 4 0 (rvs (rcL (List.replicate l.length zeroR)))), some (.row 15 X.length (rvs (itL X)))]) (fun b => b ≤ X.length) (fun b => X.length - b) 0 (by simp) (ent_env (by simp [lk])) (fun b hb K' hN hX hR => ?_)
      simp -implicitDefEqProofs only [go_sem]
      refine cdS (fun hg => ?_) (fun hg => ?_)
      · have hb4 : b < X.length := by simp at hg; omega
        have wb := wrap_up (k := b) (by omega)
        have hyb := itL_get (l := X) hb4
        repeat' (first | (simp -implicitDefEqProofs only [go_sem]) | (with_reducible refine g_noent ?_) | ((first | refine cdS (fun hg => ?_) (fun hg => ?_) | refine gdS (fun hg => ?_) (fun hg => ?_) | refine gddS (fun hg => ?_) (fun hg => ?_)) <;> try simp -implicitDefEqProofs only [hg, Bool.not_true, Bool.not_false]) | ((with_reducible apply And.intro); focus (first | trivial | omega | decide | (simp -implicitDefEqProofs only [maxLen]; omega) | (simp [maxLen, sty_len, nd_len, ndL_len, lnL_len, intsL_len, rvs_len, lensS_len] <;> omega))) | fail)
        refine g_loop (ι := Nat) (fun a => [(42, .rv (.int .i64 a)), (41, .rv (.int .i64 b)), (6, .rv (.int .i64 b)), (38, .rv (.int .i64 b)), (37, .rv (.int .i64 X.length)), (5, .row 2 X.length X.length), (4, .rv (.int .i64 0)), (0, .rv (.sl 49 (ndL l)))]) (fun _ => [some (.row 21 0 (rvs (bxL (List.replicate l.length default)))), some (.row 4 0 (rvs (rcL (List.replicate l.length zeroR)))), some (.row 15 X.length (rvs (itL X)))]) (fun a => a ≤ b) (fun a => b - a) 0 (Nat.zero_le _) (ent_env (by simp [lk])) (fun a ha K2 hN2 hX2 hR2 => ?_)
        simp -implicitDefEqProofs only [go_sem]
        refine cdS (fun hg2 => ?_) (fun hg2 => ?_)
        · have ha4 : a < b := by simp at hg2; omega
          have ha5 : a < X.length := by omega
          have wa := wrap_up (k := a) (by omega)
          have hya := itL_get (l := X) ha5
          have hls := sp_ref24_Less l ht (by omega) ⟨(X[a]'ha5).node, (X[a]'ha5).kind⟩ ⟨(X[b]'hb4).node, (X[b]'hb4).kind⟩
          have hlt : lessAt l ⟨(X[a]'ha5).node, (X[a]'ha5).kind⟩ ⟨(X[b]'hb4).node, (X[b]'hb4).kind⟩ = true := List.pairwise_iff_getElem.1 hpw a b ha5 hb4 ha4
          rw [hlt] at hls
          simp -implicitDefEqProofs only [Spt.sv, Spt.cells, List.map] at hls
          have m0 : ∀ x : Itm, (x.cells.map SV.rv)[0]? = some (.rv (.int .i64 x.node)) := fun _ => rfl
          have m1 : ∀ x : Itm, (x.cells.map SV.rv)[1]? = some (.rv (.int .i64 x.kind)) := fun _ => rfl
          generalize X[a]'ha5 = p at *
          generalize X[b]'hb4 = q at *
          have y_21 := hls; repeat' (first | (simp -implicitDefEqProofs only [go_sem, hXl, hya, hyb, it_tk, it_tkm, it_len, it_mlen, m0, m1, wa]) | (with_reducible refine g_noent ?_) | (with_reducible first | refine g_call0 y_21 ?_ | refine g_calld0 y_21 ?_) | ((first | refine cdS (fun hg => ?_) (fun hg => ?_) | refine gdS (fun hg => ?_) (fun hg => ?_) | refine gddS (fun hg => ?_) (fun hg => ?_)) <;> try simp -implicitDefEqProofs only [hg, Bool.not_true, Bool.not_false]) | ((with_reducible apply And.intro); focus (first | trivial | omega | decide | (simp -implicitDefEqProofs only [maxLen]; omega) | (simp [maxLen, sty_len, nd_len, ndL_len, lnL_len, intsL_len, rvs_len, lensS_len] <;> omega))) | fail)
          refine hN2 (a + 1) _ _ (by omega) (by omega) ?_
          exact ent_tail (h' := [some (.row 21 0 (rvs (bxL (List.replicate l.length default)))), some (.row 4 0 (rvs (rcL (List.replicate l.length zeroR)))), some (.row 15 X.length (rvs (itL X)))]) (Nat.zero_le _) ⟨clH_rvs, clH_rvs, clH_rvs, trivial⟩ (by simp [ClEnv, lk, clS_rv, clS_row])
        · simp -implicitDefEqProofs only [go_sem]
          refine hX2 _ _ _ ?_
          repeat' (first | (simp -implicitDefEqProofs only [go_sem, wb]) | (with_reducible refine g_noent ?_) | ((first | refine cdS (fun hg => ?_) (fun hg => ?_) | refine gdS (fun hg => ?_) (fun hg => ?_) | refine gddS (fun hg => ?_) (fun hg => ?_)) <;> try simp -implicitDefEqProofs only [hg, Bool.not_true, Bool.not_false]) | ((with_reducible apply And.intro); focus (first | trivial | omega | decide | (simp -implicitDefEqProofs only [maxLen]; omega) | (simp [maxLen, sty_len, nd_len, ndL_len, lnL_len, intsL_len, rvs_len, lensS_len] <;> omega))) | fail)
          exact hN (b + 1) _ _ (by omega) (by omega) (ent_env (by simp [lk]))
      · simp -implicitDefEqProofs only [go_sem]
        refine hX _ _ _ ?_
        repeat' (first | (simp -implicitDefEqProofs only [go_sem, e01]) | (with_reducible refine g_noent ?_) | ((first | refine cdS (fun hg => ?_) (fun hg => ?_) | refine gdS (fun hg => ?_) (fun hg => ?_) | refine gddS (fun hg => ?_) (fun hg => ?_)) <;> try simp -implicitDefEqProofs only [hg, Bool.not_true, Bool.not_false]) | ((with_reducible apply And.intro); focus (first | trivial | omega | decide | (simp -implicitDefEqProofs only [maxLen]; omega) | (simp [maxLen, sty_len, nd_len, ndL_len, lnL_len, intsL_len, rvs_len, lensS_len] <;> omega))) | fail)
        exact (hK _ _ (ret_t rfl)).2
    · have e00 : (chk l != 0) = true := by simpa using hc
      have y_22 := sp_awake25; have y_23 := hck; repeat' (first | (simp -implicitDefEqProofs only [go_sem, hlen, e1, e00]) | (with_reducible refine g_noent ?_) | (with_reducible first | refine g_call0 y_22 ?_ | refine g_calld0 y_22 ?_) | (with_reducible first | refine g_call0 y_23 ?_ | refine g_calld0 y_23 ?_) | ((first | refine cdS (fun hg => ?_) (fun hg => ?_) | refine gdS (fun hg => ?_) (fun hg => ?_) | refine gddS (fun hg => ?_) (fun hg => ?_)) <;> try simp -implicitDefEqProofs only [hg, Bool.not_true, Bool.not_false]) | ((with_reducible apply And.intro); focus (first | trivial | omega | decide | (simp -implicitDefEqProofs only [maxLen]; omega) | (simp [maxLen, sty_len, nd_len, ndL_len, lnL_len, intsL_len, rvs_len, lensS_len] <;> omega))) | fail)
      exact (hK _ _ (ret_t rfl)).2
end Go.Eng
