/- Part 5 of the proof: E7, KF. -/
import Derived.Test.YtiajmaeempoihaaEditSpans4
import Derived.Test.YtiajmaeempoihaaProg
import Derived.KernelRfl
set_option linter.unusedSimpArgs false
set_option linter.unusedVariables false

/- edit: the first check of the statements; the statement on how many nodes one is. -/
namespace Go.Eng
open Go
/- decoupage/decoupagelaw32.awake -/
def c_decoupagelaw32_awake : AC := (.seq (.reg [⟨(some 0), .mv, [(.c (.rv (.bool false)))], none⟩]) (.seq (.reg [⟨(some 4), (.call 44), [], none⟩, ⟨(some 5), (.build [(.bool false), (.int .i64 0), (.int .i64 0), (.int .i64 0), (.int .i64 0), (.int .i64 0), (.int .i64 0), (.int .i64 0), (.int .i64 0), (.int .i64 0), (.int .i64 0), (.int .i64 0), (.int .i64 0), (.int .i64 0), (.int .i64 0), (.int .i64 0), (.int .i64 0), (.int .i64 0), (.int .i64 0), (.int .i64 0), (.int .i64 0), (.int .i64 0), (.int .i64 0), (.int .i64 0), (.int .i64 0), (.int .i64 0), (.int .i64 0), (.int .i64 0), (.int .i64 0), (.int .i64 0), (.int .i64 0), (.int .i64 0), (.int .i64 0), (.int .i64 0), (.int .i64 0), (.int .i64 0), (.int .i64 0), (.int .i64 0), (.int .i64 0), (.int .i64 0), (.int .i64 0), (.int .i64 0), (.bool false), (.bool false), (.int .i64 0), (.bool false), (.int .i64 0), (.int .i64 0), (.int .i64 0)] [(0, 48), (48, 1)]), [(.t 4), (.c (.rv (.int .i64 (-1))))], none⟩, ⟨(some 6), (.bsl 49), [(.t 5)], none⟩, ⟨(some 7), (.call 44), [], none⟩, ⟨(some 8), (.build [(.int .i64 0), (.int .i64 0), (.int .i64 0), (.int .i64 0), (.bool false), (.int .i64 0), (.int .i64 0), (.int .i64 0), (.int .i64 0), (.int .i64 0), (.int .i64 0), (.int .i64 0), (.int .i64 0), (.int .i64 0), (.int .i64 0), (.int .i64 0), (.int .i64 0), (.int .i64 0), (.int .i64 0), (.int .i64 0), (.int .i64 0), (.int .i64 0), (.int .i64 0), (.int .i64 0), (.int .i64 0), (.int .i64 0), (.int .i64 0), (.int .i64 0), (.int .i64 0), (.int .i64 0), (.int .i64 0), (.int .i64 0), (.int .i64 0), (.int .i64 0), (.int .i64 0), (.int .i64 0), (.int .i64 0), (.int .i64 0), (.int .i64 0), (.int .i64 0), (.int .i64 0), (.int .i64 0), (.int .i64 0), (.int .i64 0), (.int .i64 0), (.int .i64 0), (.bool false), (.bool false), (.int .i64 0), (.bool false), (.int .i64 0), (.int .i64 0)] [(0, 1), (4, 48)]), [(.c (.rv (.int .i64 3))), (.t 7)], none⟩, ⟨(some 9), (.call 26), [(.t 6), (.t 8)], none⟩, ⟨(some 3), .mv, [(.t 9)], none⟩, ⟨(some 10), (.ext 0), [(.t 3)], none⟩, ⟨(some 11), (.ext 1), [(.t 3)], none⟩, ⟨(some 1), .mv, [(.t 10)], none⟩, ⟨(some 2), .mv, [(.t 11)], none⟩]) (.seq (.reg [⟨(some 12), .mv, [(.t 2)], none⟩, ⟨(some 13), (.ibin .eql), [(.t 12), (.c (.rv (.int .i64 0)))], none⟩, ⟨(some 14), .mv, [(.t 13)], none⟩, ⟨(some 15), .mv, [(.t 1)], (some (14, true))⟩, ⟨(some 16), .len, [(.t 15)], (some (14, true))⟩, ⟨(some 17), (.ibin .eql), [(.t 16), (.c (.rv (.int .i64 2)))], (some (14, true))⟩, ⟨(some 18), .pick, [(.t 14), (.t 17), (.c (.rv (.bool false)))], none⟩, ⟨(some 19), .mv, [(.t 18)], none⟩, ⟨(some 20), .mv, [(.t 1)], (some (19, true))⟩, ⟨(some 21), (.call 31), [(.t 20), (.c (.rv (.int .i64 0)))], (some (19, true))⟩, ⟨(some 22), (.ibin .eql), [(.t 21), (.c (.rv (.int .i64 2)))], (some (19, true))⟩, ⟨(some 23), .pick, [(.t 19), (.t 22), (.c (.rv (.bool false)))], none⟩, ⟨(some 0), .mv, [(.t 23)], none⟩]) .ret)))
theorem k_decoupagelaw32_awake : FnOK Go.Proofs.Try.prog 25 24 c_decoupagelaw32_awake [(.t 0)] := fnOK_of (by kernel_rfl)

/- decoupage/decoupagelaw32.EditSpans -/
def c_decoupagelaw32_EditSpans : AC := (.seq (.reg [⟨(some 4), .mv, [(.c (.rv (.bool false)))], none⟩]) (.seq (.seq (.reg [⟨(some 6), (.call 25), [], none⟩, ⟨(some 7), .not, [(.t 6)], none⟩, ⟨(some 8), .mv, [(.t 7)], none⟩, ⟨(some 9), .mv, [(.t 0)], (some (8, false))⟩, ⟨(some 10), .len, [(.t 9)], (some (8, false))⟩, ⟨(some 11), (.ibin .gtr), [(.t 10), (.c (.rv (.int .i64 60)))], (some (8, false))⟩, ⟨(some 12), .pick, [(.t 8), (.c (.rv (.bool true))), (.t 11)], none⟩]) (.cond (.t 12) (.seq (.reg [⟨(some 13), (.call 25), [], none⟩, ⟨(some 4), .mv, [(.t 13)], none⟩]) .ret) .skip)) (.seq (.reg [⟨(some 5), .mv, [(.c (.rv (.int .i64 0)))], none⟩]) (.seq (.seq (.reg [⟨(some 14), .mv, [(.t 0)], none⟩, ⟨(some 15), (.call 29), [(.t 14)], none⟩, ⟨(some 16), .mv, [(.t 15)], none⟩, ⟨(some 17), .mv, [(.t 1)], (some (16, true))⟩, ⟨(some 18), (.ibin .geq), [(.t 17), (.c (.rv (.int .i64 0)))], (some (16, true))⟩, ⟨(some 19), .pick, [(.t 16), (.t 18), (.c (.rv (.bool false)))], none⟩, ⟨(some 20), .mv, [(.t 19)], none⟩, ⟨(some 21), .mv, [(.t 1)], (some (20, true))⟩, ⟨(some 22), .mv, [(.t 0)], (some (20, true))⟩, ⟨(some 23), .len, [(.t 22)], (some (20, true))⟩, ⟨(some 24), (.ibin .lss), [(.t 21), (.t 23)], (some (20, true))⟩, ⟨(some 25), .pick, [(.t 20), (.t 24), (.c (.rv (.bool false)))], none⟩]) (.seq (.cond (.t 25) (.reg [⟨(some 26), .mv, [(.t 0)], none⟩, ⟨(some 27), .mv, [(.t 1)], none⟩, ⟨(some 28), (.call 30), [(.t 26), (.t 27)], none⟩, ⟨(some 29), .mv, [(.t 1)], none⟩, ⟨(some 30), (.ibin .sub), [(.t 28), (.t 29)], none⟩, ⟨(some 5), .mv, [(.t 30)], none⟩]) .skip) .ent)) (.seq (.reg [⟨(some 31), .mv, [(.t 0)], none⟩, ⟨(some 32), .mv, [(.t 1)], none⟩, ⟨(some 33), (.call 31), [(.t 31), (.t 32)], none⟩, ⟨(some 34), .mv, [(.t 5)], none⟩, ⟨(some 35), (.ibin .eql), [(.t 33), (.t 34)], none⟩, ⟨(some 4), .mv, [(.t 35)], none⟩]) .ret)))))
theorem k_decoupagelaw32_EditSpans : FnOK Go.Proofs.Try.prog 7 36 c_decoupagelaw32_EditSpans [(.t 4)] := fnOK_of (by kernel_rfl)


theorem fz_nd {hp : Hp} {j v : Nat} {l : List Nd} (h : hp j = some (.row 49 v (rvs (ndL l)))) : Fz (fun _ => none) hp (.row j v l.length) (.sl 49 (ndL l)) := by
  have := fz_row (h := hp) (τ := fun _ => none) (j := j) (e := 49) (ver := v) (len := l.length) (xs := ndL l) h rfl (by simp [ndL]) (ndL_one l)
  rwa [List.take_of_length_le (by simp [ndL])] at this

theorem sp_mayO (l : List Nd) (hb : l.length ≤ 8589934592) (o : Opv) (j v : Nat) : CallR Go.Proofs.Try.prog 59 [.row j v l.length, .agg (o.cells.map .rv)] [(j, .row 49 v (rvs (ndL l)))] [] (.rv (.int .i64 (mayF l o))) := by
  refine callR_borrowN (args0 := [.rv (.sl 49 (ndL l)), .agg (o.cells.map .rv)]) (sp_may l hb o) rfl (fun hp' hpre k y r hy hr => ?_) (.rv _ (.int _ _)) (by simp)
  match k, hy, hr with
  | 0, hy, hr => cases hy; cases hr; exact .fz _ _ (fz_nd (hpre _ (.head _)))
  | 1, hy, hr => cases hy; cases hr; exact rn_agg.2 (rnAll_map.2 rfl)
  | k + 2, hy, hr => simp at hy
theorem sp_childrenO (l : List Nd) (hb : l.length ≤ 8589934592) (n : Int) (j v : Nat) : CallR Go.Proofs.Try.prog 87 [.row j v l.length, .rv (.int .i64 n)] [(j, .row 49 v (rvs (ndL l)))] [] (.rv (.int .i64 (kidTo l n l.length))) := by
  refine callR_borrowN (args0 := [.rv (.sl 49 (ndL l)), .rv (.int .i64 n)]) (sp_children l hb n) rfl (fun hp' hpre k y r hy hr => ?_) (.rv _ (.int _ _)) (by simp)
  match k, hy, hr with
  | 0, hy, hr => cases hy; cases hr; exact .fz _ _ (fz_nd (hpre _ (.head _)))
  | 1, hy, hr => cases hy; cases hr; exact rn_rv.2 rfl
  | k + 2, hy, hr => simp at hy
theorem sp_pasteOO (l part : List Nd) (hb : l.length ≤ 1073741824) (hpb : part.length ≤ 1073741824) (h0 : 0 < part.length) (hl : ParM l) (hp : ParM part) (n : Nat) (hn : n ≤ 1073741824) (at' : Nat) (ha : at' ≤ 8589934592) (hto : placeF l n at' ≤ l.length) (i u j v m : Nat) (him : i ≠ m) (hjm : j ≠ m) :
    CallR Go.Proofs.Try.prog 88 [.row i u l.length, .row j v part.length, .rv (.int .i64 n), .rv (.int .i64 at')] [(i, .row 49 u (rvs (ndL l))), (j, .row 49 v (rvs (ndL part)))] [(m, .row 49 3 (rvs (ndL (pasteF l part n (placeF l n at')))))] (.row m 3 (l.length + part.length)) := by
  refine callR_borrowN (args0 := [.rv (.sl 49 (ndL l)), .rv (.sl 49 (ndL part)), .rv (.int .i64 n), .rv (.int .i64 at')]) (sp_paste l part hb hpb h0 hl hp n hn at' ha hto m) rfl (fun hp' hpre k y r hy hr => ?_) (.row _ _ _) (fun q hq => ?_)
  · match k, hy, hr with
    | 0, hy, hr => cases hy; cases hr; exact .fz _ _ (fz_nd (hpre _ (.head _)))
    | 1, hy, hr => cases hy; cases hr; exact .fz _ _ (fz_nd (hpre _ (.tail _ (.head _))))
    | 2, hy, hr => cases hy; cases hr; exact rn_rv.2 rfl
    | 3, hy, hr => cases hy; cases hr; exact rn_rv.2 rfl
    | k + 4, hy, hr => simp at hy
  · simp -implicitDefEqProofs only [List.mem_singleton] at hq
    subst hq
    refine ⟨flatH_nd, fun p hp => ?_⟩
    simp -implicitDefEqProofs only [List.mem_cons, List.not_mem_nil, or_false] at hp
    rcases hp with rfl | rfl
    · exact him
    · exact hjm

abbrev oneP : List Nd := [⟨plainS, -1⟩]
abbrev twoP : List Nd := [⟨plainS, -1⟩, ⟨plainS, 0⟩]
def putO : Opv := ⟨3, 0, 0, 0, plainS⟩
theorem oneP_may : mayF oneP putO = 0 := by
  have h1 : chk oneP = 0 := one_chk
  have h2 : styOK plainS = true := by decide +kernel
  have h3 : inL oneP 0 = true := by decide
  simp -implicitDefEqProofs only [mayF, h1, putO, h2, h3]; decide
theorem oneP_kid : kidTo oneP 0 1 = 0 := by decide
theorem oneP_paste : pasteF oneP [⟨plainS, 0⟩] ((0 : Nat) : Int) (placeF oneP 0 0) = twoP := by
  simp [pasteF, placeF, partP, addN]
theorem twoP_chk : chk twoP = 0 := by decide +kernel
theorem twoP_tree : treeOK twoP = true := by decide +kernel
theorem twoP_span : spanF twoP 0 = 2 := by
  have h1 : endR twoP 0 = 2 := by
    unfold endR
    rw [endFrom_miss (by decide) (by decide), endFrom_end (by decide)]; rfl
  have h3 : inL twoP 0 = true := by decide
  simp -implicitDefEqProofs only [spanF, h3, twoP_tree, and_self, if_true]
  rw [show (0 : Int).toNat = 0 from rfl, h1]; rfl

set_option maxRecDepth 20000 in
set_option maxHeartbeats 1000000 in
theorem sp_changeO (i0 v : Nat) : CallR Go.Proofs.Try.prog 60 [.row i0 v 1, .agg (putO.cells.map .rv)] [(i0, .row 49 v (rvs (ndL oneP)))] [] (.tup [.rv (.sl 49 (ndL twoP)), .rv (.int .i64 0)]) := by
  refine callR_M k_edit_change [i0] [.row 49 v (rvs (ndL oneP))] [.row 49 v (rvs (ndL oneP))] [.row 0 v 1, .agg (putO.cells.map .rv)] [.row i0 v 1, .agg (putO.cells.map .rv)] _ _ (by simp) (by simp [BkAll, bk_row, bk_rv, bk_agg, bkAll_map]) rfl (by simp [nodupL]) ⟨rfl, rfl, ⟨rfl, _, rfl⟩, trivial⟩ (fun K hK => ?_)
  have hch := sp_childrenO oneP (by decide) 0 0 v
  rw [show kidTo oneP 0 oneP.length = 0 from oneP_kid, show oneP.length = 1 from rfl] at hch
  have hpm : ParM oneP := fun x hx => by simp at hx; subst hx; simp
  have hpo := sp_pasteOO oneP [⟨plainS, 0⟩] (by decide) (by decide) (by decide) hpm (fun x hx => by simp at hx; subst hx; simp) 0 (by decide) 0 (by decide) (by simp [placeF]) 0 v 2 0 3 (by decide) (by decide)
  rw [oneP_paste] at hpo
  have e0 : ((3 : Int) == 1) = false := rfl
  have e1 : ((3 : Int) == 2) = false := rfl
  have e2 : ((3 : Int) == 3) = true := rfl
  have e3 : decide ((0 : Int) < 0) = false := rfl
  have e4 : decide ((0 : Int) > ((0 : Nat) : Int)) = false := rfl
  have k0 : (putO.cells.map SV.rv)[0]? = some (.rv (.int .i64 3)) := rfl
  have k1 : (putO.cells.map SV.rv)[1]? = some (.rv (.int .i64 0)) := rfl
  have k3 : (putO.cells.map SV.rv)[3]? = some (.rv (.int .i64 0)) := rfl
  have ks : ((putO.cells.map SV.rv).drop 4).take 48 = plainS.cells.map SV.rv := rfl
  simp -implicitDefEqProofs only [c_edit_change, go_sem, ↓reduceIte, Nat.reduceEqDiff, Nat.reduceAdd, Nat.reduceSub, Nat.reduceMul, Nat.reduceLeDiff, Nat.reduceLT, reduceCtorEq, Int.reduceToNat]
  have hcall1 := hch; repeat' (first | (simp -implicitDefEqProofs only [go_sem, ↓reduceIte, Nat.reduceEqDiff, Nat.reduceAdd, Nat.reduceSub, Nat.reduceMul, Nat.reduceLeDiff, Nat.reduceLT, reduceCtorEq, Int.reduceToNat, opv_len, k0, e0, e1, e2, k1, k3, e3, e4, ks, sty_len]) | (with_reducible refine g_noent ?_) | (refine g_call hcall1 (by simp [PreOK, hget]; done) (by simp [okU, uph]; done) ?_) | (refine g_calld hcall1 (by simp [PreOK, hget]; done) (by simp [okU, uph]; done) ?_) | (refine cdS (fun hg => ?_) (fun hg => ?_) <;> try simp -implicitDefEqProofs only [hg, Bool.not_true, Bool.not_false]) | (refine gdS (fun hg => ?_) (fun hg => ?_) <;> try simp -implicitDefEqProofs only [hg, Bool.not_true, Bool.not_false]) | (refine gddS (fun hg => ?_) (fun hg => ?_) <;> try simp -implicitDefEqProofs only [hg, Bool.not_true, Bool.not_false]) | ((with_reducible apply And.intro); focus (first | trivial | omega | decide | (simp -implicitDefEqProofs only [maxLen]; omega) | (simp [maxLen, sty_len, nd_len, ndL_len, lnL_len, intsL_len, rvs_len, lensS_len]; done) | (simp [maxLen, sty_len, nd_len, ndL_len, lnL_len, intsL_len, rvs_len, lensS_len]; omega))) | fail)
  refine g_call hpo ?_ (by simp [okU, uph]) ?_
  · intro q hq
    simp -implicitDefEqProofs only [List.mem_cons, List.not_mem_nil, or_false] at hq
    rcases hq with rfl | rfl <;> rfl
  repeat' (first | (simp -implicitDefEqProofs only [go_sem, ↓reduceIte, Nat.reduceEqDiff, Nat.reduceAdd, Nat.reduceSub, Nat.reduceMul, Nat.reduceLeDiff, Nat.reduceLT, reduceCtorEq, Int.reduceToNat]) | (with_reducible refine g_noent ?_) | (refine cdS (fun hg => ?_) (fun hg => ?_) <;> try simp -implicitDefEqProofs only [hg, Bool.not_true, Bool.not_false]) | (refine gdS (fun hg => ?_) (fun hg => ?_) <;> try simp -implicitDefEqProofs only [hg, Bool.not_true, Bool.not_false]) | (refine gddS (fun hg => ?_) (fun hg => ?_) <;> try simp -implicitDefEqProofs only [hg, Bool.not_true, Bool.not_false]) | ((with_reducible apply And.intro); focus (first | trivial | omega | decide | (simp -implicitDefEqProofs only [maxLen]; omega) | (simp [maxLen, sty_len, nd_len, ndL_len, lnL_len, intsL_len, rvs_len, lensS_len]; done) | (simp [maxLen, sty_len, nd_len, ndL_len, lnL_len, intsL_len, rvs_len, lensS_len]; omega))) | fail)
  refine (hK _ _ _ _ [] (ent_refl _ _) ?_).2
  simp -implicitDefEqProofs only [retM, List.map_cons, List.map_nil, List.append_nil]
  refine ⟨by simp [nodupL], trivial, trivial, ⟨?_, trivial⟩, trivial, rn_tup.2 ⟨rn_frz (xs := ndL twoP) rfl rfl rfl (ndL_one _), rn_rv.2 rfl, trivial⟩⟩
  rw [show finU (lkp ([i0].zip [HB.row 49 v (rvs (ndL oneP))]) i0) [] i0 = some (HB.row 49 v (rvs (ndL oneP))) from by simp [finU, lkp]]
  exact ⟨rfl, rfl, rnRows_rvs.2 rfl⟩

set_option maxRecDepth 20000 in
theorem sp_ApplyO (i0 v : Nat) : CallR Go.Proofs.Try.prog 26 [.row i0 v 1, .agg (putO.cells.map .rv)] [(i0, .row 49 v (rvs (ndL oneP)))] [] (.tup [.rv (.sl 49 (ndL twoP)), .rv (.int .i64 0)]) := by
  refine callR_M k_edit_Apply [i0] [.row 49 v (rvs (ndL oneP))] [.row 49 v (rvs (ndL oneP))] [.row 0 v 1, .agg (putO.cells.map .rv)] [.row i0 v 1, .agg (putO.cells.map .rv)] _ _ (by simp) (by simp [BkAll, bk_row, bk_rv, bk_agg, bkAll_map]) rfl (by simp [nodupL]) ⟨rfl, rfl, ⟨rfl, _, rfl⟩, trivial⟩ (fun K hK => ?_)
  have hmy := sp_mayO oneP (by decide) putO 0 v
  rw [oneP_may, show oneP.length = 1 from rfl] at hmy
  have hch := sp_changeO 0 v
  have htc := sp_tree_Check twoP (by decide)
  rw [twoP_chk] at htc
  have e00 : ((0 : Int) != 0) = false := rfl
  simp -implicitDefEqProofs only [c_edit_Apply, go_sem, ↓reduceIte, Nat.reduceEqDiff, Nat.reduceAdd, Nat.reduceSub, Nat.reduceMul, Nat.reduceLeDiff, Nat.reduceLT, reduceCtorEq, Int.reduceToNat]
  have hcall2 := hmy; have hcall3 := hch; have hcall4 := htc; repeat' (first | (simp -implicitDefEqProofs only [go_sem, ↓reduceIte, Nat.reduceEqDiff, Nat.reduceAdd, Nat.reduceSub, Nat.reduceMul, Nat.reduceLeDiff, Nat.reduceLT, reduceCtorEq, Int.reduceToNat, opv_len, opv_all, opv_all0, e00]) | (with_reducible refine g_noent ?_) | (refine g_call hcall2 (by simp [PreOK, hget]; done) (by simp [okU, uph]; done) ?_) | (refine g_calld hcall2 (by simp [PreOK, hget]; done) (by simp [okU, uph]; done) ?_) | (refine g_call hcall3 (by simp [PreOK, hget]; done) (by simp [okU, uph]; done) ?_) | (refine g_calld hcall3 (by simp [PreOK, hget]; done) (by simp [okU, uph]; done) ?_) | (with_reducible refine g_call0 hcall4 ?_) | (with_reducible refine g_calld0 hcall4 ?_) | (refine cdS (fun hg => ?_) (fun hg => ?_) <;> try simp -implicitDefEqProofs only [hg, Bool.not_true, Bool.not_false]) | (refine gdS (fun hg => ?_) (fun hg => ?_) <;> try simp -implicitDefEqProofs only [hg, Bool.not_true, Bool.not_false]) | (refine gddS (fun hg => ?_) (fun hg => ?_) <;> try simp -implicitDefEqProofs only [hg, Bool.not_true, Bool.not_false]) | ((with_reducible apply And.intro); focus (first | trivial | omega | decide | (simp -implicitDefEqProofs only [maxLen]; omega) | (simp [maxLen, sty_len, nd_len, ndL_len, lnL_len, intsL_len, rvs_len, lensS_len]; done) | (simp [maxLen, sty_len, nd_len, ndL_len, lnL_len, intsL_len, rvs_len, lensS_len]; omega))) | fail)
  refine (hK _ _ _ _ [] (ent_refl _ _) ?_).2
  simp -implicitDefEqProofs only [retM, List.map_cons, List.map_nil, List.append_nil]
  refine ⟨by simp [nodupL], trivial, trivial, ⟨?_, trivial⟩, trivial, rn_tup.2 ⟨rn_rv.2 rfl, rn_rv.2 rfl, trivial⟩⟩
  rw [show finU (lkp ([i0].zip [HB.row 49 v (rvs (ndL oneP))]) i0) [] i0 = some (HB.row 49 v (rvs (ndL oneP))) from by simp [finU, lkp]]
  exact ⟨rfl, rfl, rnRows_rvs.2 rfl⟩

set_option maxRecDepth 20000 in
theorem sp_awake32 : CallR Go.Proofs.Try.prog 25 [] [] [] (.rv (.bool true)) := by
  refine callR_G k_decoupagelaw32_awake [] _ (by simp) (by simp [BkAll, bk_agg, bkAll_map, bk_rv, bk_fn, Sty.sv, Ln.sv, Nd.sv]) (fun K hK => ?_)
  have hap := sp_ApplyO 0 0
  have hsp := sp_Span twoP (by decide) 0
  rw [twoP_span] at hsp
  have e1 : ((0 : Int) == 0) = true := rfl
  have e2 : ((2 : Int) == 2) = true := rfl
  have e3 : (ndL twoP).length = 2 := rfl
  have e4 : (((2 : Nat) : Int) == 2) = true := rfl
  simp -implicitDefEqProofs only [c_decoupagelaw32_awake, go_sem, ↓reduceIte, Nat.reduceEqDiff, Nat.reduceAdd, Nat.reduceSub, Nat.reduceMul, Nat.reduceLeDiff, Nat.reduceLT, reduceCtorEq, Int.reduceToNat]
  have hcall5 := sp_Plain; repeat' (first | (simp -implicitDefEqProofs only [go_sem, ↓reduceIte, Nat.reduceEqDiff, Nat.reduceAdd, Nat.reduceSub, Nat.reduceMul, Nat.reduceLeDiff, Nat.reduceLT, reduceCtorEq, Int.reduceToNat, sty_len]) | (with_reducible refine g_noent ?_) | (with_reducible refine g_call0 hcall5 ?_) | (with_reducible refine g_calld0 hcall5 ?_) | (refine cdS (fun hg => ?_) (fun hg => ?_) <;> try simp -implicitDefEqProofs only [hg, Bool.not_true, Bool.not_false]) | (refine gdS (fun hg => ?_) (fun hg => ?_) <;> try simp -implicitDefEqProofs only [hg, Bool.not_true, Bool.not_false]) | (refine gddS (fun hg => ?_) (fun hg => ?_) <;> try simp -implicitDefEqProofs only [hg, Bool.not_true, Bool.not_false]) | ((with_reducible apply And.intro); focus (first | trivial | omega | decide | (simp -implicitDefEqProofs only [maxLen]; omega) | (simp [maxLen, sty_len, nd_len, ndL_len, lnL_len, intsL_len, rvs_len, lensS_len]; done) | (simp [maxLen, sty_len, nd_len, ndL_len, lnL_len, intsL_len, rvs_len, lensS_len]; omega) | (rfl; done) | (exact ⟨rfl, by decide⟩; done))) | fail)
  refine g_call hap (pre_one rfl) trivial ?_
  have hcall6 := hsp; repeat' (first | (simp -implicitDefEqProofs only [go_sem, ↓reduceIte, Nat.reduceEqDiff, Nat.reduceAdd, Nat.reduceSub, Nat.reduceMul, Nat.reduceLeDiff, Nat.reduceLT, reduceCtorEq, Int.reduceToNat, e1, e3, e4, e2]) | (with_reducible refine g_noent ?_) | (with_reducible refine g_call0 hcall6 ?_) | (with_reducible refine g_calld0 hcall6 ?_) | (refine cdS (fun hg => ?_) (fun hg => ?_) <;> try simp -implicitDefEqProofs only [hg, Bool.not_true, Bool.not_false]) | (refine gdS (fun hg => ?_) (fun hg => ?_) <;> try simp -implicitDefEqProofs only [hg, Bool.not_true, Bool.not_false]) | (refine gddS (fun hg => ?_) (fun hg => ?_) <;> try simp -implicitDefEqProofs only [hg, Bool.not_true, Bool.not_false]) | ((with_reducible apply And.intro); focus (first | trivial | omega | decide | (simp -implicitDefEqProofs only [maxLen]; omega) | (simp [maxLen, sty_len, nd_len, ndL_len, lnL_len, intsL_len, rvs_len, lensS_len]; done) | (simp [maxLen, sty_len, nd_len, ndL_len, lnL_len, intsL_len, rvs_len, lensS_len]; omega))) | fail)
  exact (hK _ _ (ret_t rfl)).2

theorem sp_EditSpans (l : List Nd) (n : Int) : CallR Go.Proofs.Try.prog 7 [.rv (.sl 49 (ndL l)), .rv (.int .i64 n)] [] [] (.rv (.bool true)) := by
  refine callR_G k_decoupagelaw32_EditSpans [.rv (.sl 49 (ndL l)), .rv (.int .i64 n)] _ (by simp) (by simp [BkAll, bk_agg, bkAll_map, bk_rv, bk_fn, Sty.sv, Ln.sv, Nd.sv]) (fun K hK => ?_)
  have hlen := ndL_len l
  simp -implicitDefEqProofs only [c_decoupagelaw32_EditSpans, go_sem, ↓reduceIte, Nat.reduceEqDiff, Nat.reduceAdd, Nat.reduceSub, Nat.reduceMul, Nat.reduceLeDiff, Nat.reduceLT, reduceCtorEq, Int.reduceToNat]
  by_cases hl : l.length > 60
  · have e1 : decide ((l.length : Int) > 60) = true := decide_eq_true (by omega)
    have hcall7 := sp_awake32; repeat' (first | (simp -implicitDefEqProofs only [go_sem, ↓reduceIte, Nat.reduceEqDiff, Nat.reduceAdd, Nat.reduceSub, Nat.reduceMul, Nat.reduceLeDiff, Nat.reduceLT, reduceCtorEq, Int.reduceToNat, hlen, e1]) | (with_reducible refine g_noent ?_) | (with_reducible refine g_call0 hcall7 ?_) | (with_reducible refine g_calld0 hcall7 ?_) | (refine cdS (fun hg => ?_) (fun hg => ?_) <;> try simp -implicitDefEqProofs only [hg, Bool.not_true, Bool.not_false]) | (refine gdS (fun hg => ?_) (fun hg => ?_) <;> try simp -implicitDefEqProofs only [hg, Bool.not_true, Bool.not_false]) | (refine gddS (fun hg => ?_) (fun hg => ?_) <;> try simp -implicitDefEqProofs only [hg, Bool.not_true, Bool.not_false]) | ((with_reducible apply And.intro); focus (first | trivial | omega | decide | (simp -implicitDefEqProofs only [maxLen]; omega) | (simp [maxLen, sty_len, nd_len, ndL_len, lnL_len, intsL_len, rvs_len, lensS_len]; done) | (simp [maxLen, sty_len, nd_len, ndL_len, lnL_len, intsL_len, rvs_len, lensS_len]; omega))) | fail)
    exact (hK _ _ (ret_t rfl)).2
  · have e1 : decide ((l.length : Int) > 60) = false := decide_eq_false (by omega)
    have hb : l.length ≤ 8589934592 := by omega
    have hsp := sp_Span l hb n
    have hf := sp_ref07_Formed l hb
    cases ht : treeOK l with
    | false =>
      rw [ht] at hf
      rw [show spanF l n = 0 by simp [spanF, ht]] at hsp
      have hcall8 := sp_awake32; have hcall9 := hf; have hcall10 := hsp; repeat' (first | (simp -implicitDefEqProofs only [go_sem, ↓reduceIte, Nat.reduceEqDiff, Nat.reduceAdd, Nat.reduceSub, Nat.reduceMul, Nat.reduceLeDiff, Nat.reduceLT, reduceCtorEq, Int.reduceToNat, hlen, e1, beq_self_eq_true]) | (with_reducible refine g_noent ?_) | (with_reducible refine g_call0 hcall8 ?_) | (with_reducible refine g_calld0 hcall8 ?_) | (with_reducible refine g_call0 hcall9 ?_) | (with_reducible refine g_calld0 hcall9 ?_) | (with_reducible refine g_call0 hcall10 ?_) | (with_reducible refine g_calld0 hcall10 ?_) | (refine cdS (fun hg => ?_) (fun hg => ?_) <;> try simp -implicitDefEqProofs only [hg, Bool.not_true, Bool.not_false]) | (refine gdS (fun hg => ?_) (fun hg => ?_) <;> try simp -implicitDefEqProofs only [hg, Bool.not_true, Bool.not_false]) | (refine gddS (fun hg => ?_) (fun hg => ?_) <;> try simp -implicitDefEqProofs only [hg, Bool.not_true, Bool.not_false]) | ((with_reducible apply And.intro); focus (first | trivial | omega | decide | (simp -implicitDefEqProofs only [maxLen]; omega) | (simp [maxLen, sty_len, nd_len, ndL_len, lnL_len, intsL_len, rvs_len, lensS_len]; done) | (simp [maxLen, sty_len, nd_len, ndL_len, lnL_len, intsL_len, rvs_len, lensS_len]; omega))) | fail)
      exact (hK _ _ (ret_t rfl)).2
    | true =>
      rw [ht] at hf
      have hs := tree_shp ht
      rcases inL_cases l n with ⟨h1, hi⟩ | ⟨h1, h0, hi⟩ | ⟨k, rfl, hk, hi⟩
      · have e2 : decide (n ≥ 0) = false := decide_eq_false (by omega)
        rw [show spanF l n = 0 by simp [spanF, hi]] at hsp
        have hcall11 := sp_awake32; have hcall12 := hf; have hcall13 := hsp; repeat' (first | (simp -implicitDefEqProofs only [go_sem, ↓reduceIte, Nat.reduceEqDiff, Nat.reduceAdd, Nat.reduceSub, Nat.reduceMul, Nat.reduceLeDiff, Nat.reduceLT, reduceCtorEq, Int.reduceToNat, hlen, e1, e2, beq_self_eq_true]) | (with_reducible refine g_noent ?_) | (with_reducible refine g_call0 hcall11 ?_) | (with_reducible refine g_calld0 hcall11 ?_) | (with_reducible refine g_call0 hcall12 ?_) | (with_reducible refine g_calld0 hcall12 ?_) | (with_reducible refine g_call0 hcall13 ?_) | (with_reducible refine g_calld0 hcall13 ?_) | (refine cdS (fun hg => ?_) (fun hg => ?_) <;> try simp -implicitDefEqProofs only [hg, Bool.not_true, Bool.not_false]) | (refine gdS (fun hg => ?_) (fun hg => ?_) <;> try simp -implicitDefEqProofs only [hg, Bool.not_true, Bool.not_false]) | (refine gddS (fun hg => ?_) (fun hg => ?_) <;> try simp -implicitDefEqProofs only [hg, Bool.not_true, Bool.not_false]) | ((with_reducible apply And.intro); focus (first | trivial | omega | decide | (simp -implicitDefEqProofs only [maxLen]; omega) | (simp [maxLen, sty_len, nd_len, ndL_len, lnL_len, intsL_len, rvs_len, lensS_len]; done) | (simp [maxLen, sty_len, nd_len, ndL_len, lnL_len, intsL_len, rvs_len, lensS_len]; omega))) | fail)
        exact (hK _ _ (ret_t rfl)).2
      · have e2 : decide (n ≥ 0) = true := decide_eq_true (by omega)
        have e3 : decide (n < (l.length : Int)) = false := decide_eq_false (by omega)
        rw [show spanF l n = 0 by simp [spanF, hi]] at hsp
        have hcall14 := sp_awake32; have hcall15 := hf; have hcall16 := hsp; repeat' (first | (simp -implicitDefEqProofs only [go_sem, ↓reduceIte, Nat.reduceEqDiff, Nat.reduceAdd, Nat.reduceSub, Nat.reduceMul, Nat.reduceLeDiff, Nat.reduceLT, reduceCtorEq, Int.reduceToNat, hlen, e1, e2, e3, beq_self_eq_true]) | (with_reducible refine g_noent ?_) | (with_reducible refine g_call0 hcall14 ?_) | (with_reducible refine g_calld0 hcall14 ?_) | (with_reducible refine g_call0 hcall15 ?_) | (with_reducible refine g_calld0 hcall15 ?_) | (with_reducible refine g_call0 hcall16 ?_) | (with_reducible refine g_calld0 hcall16 ?_) | (refine cdS (fun hg => ?_) (fun hg => ?_) <;> try simp -implicitDefEqProofs only [hg, Bool.not_true, Bool.not_false]) | (refine gdS (fun hg => ?_) (fun hg => ?_) <;> try simp -implicitDefEqProofs only [hg, Bool.not_true, Bool.not_false]) | (refine gddS (fun hg => ?_) (fun hg => ?_) <;> try simp -implicitDefEqProofs only [hg, Bool.not_true, Bool.not_false]) | ((with_reducible apply And.intro); focus (first | trivial | omega | decide | (simp -implicitDefEqProofs only [maxLen]; omega) | (simp [maxLen, sty_len, nd_len, ndL_len, lnL_len, intsL_len, rvs_len, lensS_len]; done) | (simp [maxLen, sty_len, nd_len, ndL_len, lnL_len, intsL_len, rvs_len, lensS_len]; omega))) | fail)
        exact (hK _ _ (ret_t rfl)).2
      · have e2 : decide ((k : Int) ≥ 0) = true := decide_eq_true (by omega)
        have e3 : decide ((k : Int) < (l.length : Int)) = true := decide_eq_true (by omega)
        have hen := sp_ref08_End l hs hb k
        have g1 := endR_gt hk
        have g2 := endR_le l k
        rw [show endAt l k = (endR l k : Nat) by simp [endAt, hi, endR_eq hs hk]] at hen
        have wv : IntKind.i64.wrap (((endR l k : Nat) : Int) - (k : Int)) = ((endR l k : Nat) : Int) - (k : Int) := wrap_i64 (by omega) (by omega)
        rw [show spanF l k = ((endR l k : Nat) : Int) - (k : Int) by simp [spanF, hi, ht]] at hsp
        have hcall17 := sp_awake32; have hcall18 := hf; have hcall19 := hen; have hcall20 := hsp; repeat' (first | (simp -implicitDefEqProofs only [go_sem, ↓reduceIte, Nat.reduceEqDiff, Nat.reduceAdd, Nat.reduceSub, Nat.reduceMul, Nat.reduceLeDiff, Nat.reduceLT, reduceCtorEq, Int.reduceToNat, hlen, e1, e2, e3, wv, beq_self_eq_true]) | (with_reducible refine g_noent ?_) | (with_reducible refine g_call0 hcall17 ?_) | (with_reducible refine g_calld0 hcall17 ?_) | (with_reducible refine g_call0 hcall18 ?_) | (with_reducible refine g_calld0 hcall18 ?_) | (with_reducible refine g_call0 hcall19 ?_) | (with_reducible refine g_calld0 hcall19 ?_) | (with_reducible refine g_call0 hcall20 ?_) | (with_reducible refine g_calld0 hcall20 ?_) | (refine cdS (fun hg => ?_) (fun hg => ?_) <;> try simp -implicitDefEqProofs only [hg, Bool.not_true, Bool.not_false]) | (refine gdS (fun hg => ?_) (fun hg => ?_) <;> try simp -implicitDefEqProofs only [hg, Bool.not_true, Bool.not_false]) | (refine gddS (fun hg => ?_) (fun hg => ?_) <;> try simp -implicitDefEqProofs only [hg, Bool.not_true, Bool.not_false]) | ((with_reducible apply And.intro); focus (first | trivial | omega | decide | (simp -implicitDefEqProofs only [maxLen]; omega) | (simp [maxLen, sty_len, nd_len, ndL_len, lnL_len, intsL_len, rvs_len, lensS_len]; done) | (simp [maxLen, sty_len, nd_len, ndL_len, lnL_len, intsL_len, rvs_len, lensS_len]; omega))) | fail)
        exact (hK _ _ (ret_t rfl)).2
end Go.Eng


/- What comes in, as nodes and numbers. -/
namespace Go.Eng
open Go Go.Proofs

theorem tyInt {n : Nat} {rs : List RV} (h : TyC Go.Proofs.Try.prog (n + 1) 3 rs) : ∃ i, rs = [.int .i64 i] := by
  obtain ⟨i, h, _⟩ := tyC_int Try.underlying3 h
  exact ⟨i, h⟩
theorem tyInt64 {n : Nat} {rs : List RV} (h : TyC Go.Proofs.Try.prog (n + 1) 2 rs) : ∃ i, rs = [.int .i64 i] := by
  obtain ⟨i, h, _⟩ := tyC_int Try.underlying2 h
  exact ⟨i, h⟩
theorem tyBool {n : Nat} {rs : List RV} (h : TyC Go.Proofs.Try.prog (n + 1) 4 rs) : ∃ b, rs = [.bool b] := by
  exact tyC_bool Try.underlying4 h
theorem tyLen {n : Nat} {rs : List RV} (h : TyC Go.Proofs.Try.prog (n + 2) 39 rs) : ∃ x : Ln, rs = x.cells := by
  have h := tyC_struct Try.underlying39 h
  obtain ⟨_, _, rfl, h1, _, _, rfl, h2, rfl⟩ := h
  obtain ⟨i, rfl⟩ := tyInt h1
  obtain ⟨j, rfl⟩ := tyInt64 h2
  exact ⟨⟨i, j⟩, rfl⟩
theorem list4 {α : Type} {xs : List α} (h : xs.length = 4) : ∃ a b c d, xs = [a, b, c, d] := by
  match xs, h with
  | [a, b, c, d], _ => exact ⟨a, b, c, d, rfl⟩
theorem tyQ {n : Nat} {rs : List RV} (h : TyC Go.Proofs.Try.prog (n + 3) 40 rs) : ∃ q : Q4 Ln, rs = q.lns := by
  obtain ⟨xs, rfl, hl, hx⟩ := tyC_array Try.underlying40 h
  obtain ⟨a, b, c, d, rfl⟩ := list4 hl
  obtain ⟨a, rfl⟩ := tyLen (hx a (by simp))
  obtain ⟨b, rfl⟩ := tyLen (hx b (by simp))
  obtain ⟨c, rfl⟩ := tyLen (hx c (by simp))
  obtain ⟨d, rfl⟩ := tyLen (hx d (by simp))
  exact ⟨⟨a, b, c, d⟩, rfl⟩
theorem tyB {n : Nat} {rs : List RV} (h : TyC Go.Proofs.Try.prog (n + 2) 41 rs) : ∃ q : Q4 Int, rs = q.ints := by
  obtain ⟨xs, rfl, hl, hx⟩ := tyC_array Try.underlying41 h
  obtain ⟨a, b, c, d, rfl⟩ := list4 hl
  obtain ⟨a, rfl⟩ := tyInt64 (hx a (by simp))
  obtain ⟨b, rfl⟩ := tyInt64 (hx b (by simp))
  obtain ⟨c, rfl⟩ := tyInt64 (hx c (by simp))
  obtain ⟨d, rfl⟩ := tyInt64 (hx d (by simp))
  exact ⟨⟨a, b, c, d⟩, rfl⟩
theorem tySty {n : Nat} {rs : List RV} (h : TyC Go.Proofs.Try.prog (n + 4) 43 rs) : ∃ s : Sty, rs = s.cells := by
  have h := tyC_struct Try.underlying43 h
  obtain ⟨_, _, rfl, h1, _, _, rfl, h2, _, _, rfl, h3, _, _, rfl, h4, _, _, rfl, h5, _, _, rfl, h6, _, _, rfl, h7, _, _, rfl, h8, _, _, rfl, h9, _, _, rfl, h10, _, _, rfl, h11, _, _, rfl, h12, _, _, rfl, h13, _, _, rfl, h14, _, _, rfl, h15, _, _, rfl, h16, _, _, rfl, h17, _, _, rfl, h18, rfl⟩ := h
  obtain ⟨b1, rfl⟩ := tyBool h1
  obtain ⟨i2, rfl⟩ := tyInt h2
  obtain ⟨q3, rfl⟩ := tyQ h3
  obtain ⟨x4, rfl⟩ := tyLen h4
  obtain ⟨x5, rfl⟩ := tyLen h5
  obtain ⟨x6, rfl⟩ := tyLen h6
  obtain ⟨x7, rfl⟩ := tyLen h7
  obtain ⟨x8, rfl⟩ := tyLen h8
  obtain ⟨x9, rfl⟩ := tyLen h9
  obtain ⟨q10, rfl⟩ := tyQ h10
  obtain ⟨q11, rfl⟩ := tyQ h11
  obtain ⟨q12, rfl⟩ := tyB h12
  obtain ⟨b13, rfl⟩ := tyBool h13
  obtain ⟨b14, rfl⟩ := tyBool h14
  obtain ⟨i15, rfl⟩ := tyInt64 h15
  obtain ⟨b16, rfl⟩ := tyBool h16
  obtain ⟨i17, rfl⟩ := tyInt64 h17
  obtain ⟨i18, rfl⟩ := tyInt64 h18
  exact ⟨⟨b1, i2, q3, x4, x5, x6, x7, x8, x9, q10, q11, q12, b13, b14, i15, b16, i17, i18⟩, rfl⟩
theorem tyNode {n : Nat} {rs : List RV} (h : TyC Go.Proofs.Try.prog (n + 5) 45 rs) : ∃ x : Nd, rs = x.cells := by
  have h := tyC_struct Try.underlying45 h
  obtain ⟨_, _, rfl, h1, _, _, rfl, h2, rfl⟩ := h
  obtain ⟨s, rfl⟩ := tySty h1
  obtain ⟨i, rfl⟩ := tyInt h2
  exact ⟨⟨s, i⟩, rfl⟩
theorem list_of {α : Type} {f : α → List RV} : ∀ {xs : List (List RV)}, (∀ x ∈ xs, ∃ a, x = f a) → ∃ l : List α, xs = l.map f
  | [], _ => ⟨[], rfl⟩
  | x :: xs, h => by
    obtain ⟨a, rfl⟩ := h x (by simp)
    obtain ⟨l, rfl⟩ := list_of (xs := xs) fun y hy => h y (by simp [hy])
    exact ⟨a :: l, rfl⟩

theorem cells49 : Program.cellsOf Go.Proofs.Try.prog 45 = 49 := by kernel_rfl
theorem aggN : aggT Go.Proofs.Try.prog 22 = some false := by kernel_rfl
theorem aggI : aggT Go.Proofs.Try.prog 3 = some false := by kernel_rfl

theorem openNodes {rs : List RV} (h : TyC Go.Proofs.Try.prog 6 22 rs) : ∃ l : List Nd, argS Go.Proofs.Try.prog 22 rs = .rv (.sl 49 (ndL l)) := by
  obtain ⟨xs, rfl, _, hx⟩ := tyC_slice Try.underlying22 h
  obtain ⟨l, rfl⟩ := list_of fun x hx' => tyNode (hx x hx')
  refine ⟨l, ?_⟩
  rw [argS_one aggN, cells49]; rfl
theorem openInt {rs : List RV} (h : TyC Go.Proofs.Try.prog 1 3 rs) : ∃ i : Int, argS Go.Proofs.Try.prog 3 rs = .rv (.int .i64 i) := by
  obtain ⟨i, rfl⟩ := tyInt h
  exact ⟨i, argS_one aggI⟩
end Go.Eng
