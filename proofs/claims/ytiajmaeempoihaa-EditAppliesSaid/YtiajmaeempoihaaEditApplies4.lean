/- Part 4 of the proof: K6, K7, K8, K9, K10, K11, K12, K9R, K13, E1, E2, E3. -/
import Derived.Test.YtiajmaeempoihaaEditApplies3
set_option linter.unusedSimpArgs false
set_option linter.unusedVariables false

/- trees: how deep; what is wrong: the program's. -/
namespace Go.Eng
open Go
/- slices.Max[[]int,int] -/
def c_slices_Max_int : AC := (.seq (.reg [⟨(some 2), .mv, [(.c (.rv (.int .i64 0)))], none⟩]) (.seq (.seq (.reg [⟨(some 5), .mv, [(.t 0)], none⟩, ⟨(some 6), .len, [(.t 5)], none⟩, ⟨(some 7), (.ibin .lss), [(.t 6), (.c (.rv (.int .i64 1)))], none⟩]) (.seq (.cond (.t 7) (.reg [⟨(some 8), (.mkif 9), [(.c (.rv (.str (.mk (.mk [115, 108, 105, 99, 101, 115, 46, 77, 97, 120, 58, 32, 101, 109, 112, 116, 121, 32, 108, 105, 115, 116])))))], none⟩, ⟨none, .die, [(.t 8)], none⟩]) .skip) .ent)) (.seq (.reg [⟨(some 9), .mv, [(.t 0)], none⟩, ⟨(some 10), (.ixs 1), [(.t 9), (.c (.rv (.int .i64 0)))], none⟩, ⟨(some 11), (.load 1 false), [(.t 10)], none⟩, ⟨(some 3), .mv, [(.t 11)], none⟩]) (.seq (.seq (.reg [⟨(some 4), .mv, [(.c (.rv (.int .i64 1)))], none⟩]) (.seq (.block 0 (.loop (.seq (.seq (.reg [⟨(some 12), .mv, [(.t 4)], none⟩, ⟨(some 13), .mv, [(.t 0)], none⟩, ⟨(some 14), .len, [(.t 13)], none⟩, ⟨(some 15), (.ibin .lss), [(.t 12), (.t 14)], none⟩]) (.cond (.t 15) .skip (.exit 0))) (.seq (.seq (.block 1 (.reg [⟨(some 18), .mv, [(.t 3)], none⟩, ⟨(some 19), .mv, [(.t 0)], none⟩, ⟨(some 20), .mv, [(.t 4)], none⟩, ⟨(some 21), (.ixs 1), [(.t 19), (.t 20)], none⟩, ⟨(some 22), (.load 1 false), [(.t 21)], none⟩, ⟨(some 23), .mx, [(.t 18), (.t 22)], none⟩, ⟨(some 3), .mv, [(.t 23)], none⟩])) .ent) (.reg [⟨(some 16), .mv, [(.t 4)], none⟩, ⟨(some 17), (.ibin .add), [(.t 16), (.c (.rv (.int .i64 1)))], none⟩, ⟨(some 4), .mv, [(.t 17)], none⟩]))))) .ent)) (.seq (.reg [⟨(some 24), .mv, [(.t 3)], none⟩, ⟨(some 2), .mv, [(.t 24)], none⟩]) .ret)))))
theorem k_slices_Max_int : FnOK Go.Proofs.Try.prog 104 25 c_slices_Max_int [(.t 2)] := fnOK_of (by kernel_rfl)

/- decoupage/tree.deepest -/
def c_tree_deepest : AC := (.seq (.reg [⟨(some 2), .mv, [(.c (.rv (.int .i64 0)))], none⟩]) (.seq (.reg [⟨(some 6), .mv, [(.t 0)], none⟩, ⟨(some 7), .len, [(.t 6)], none⟩, ⟨(some 8), (.mksl 1 8 [(.int .i64 0)]), [(.t 7), (.t 7)], none⟩, ⟨(some 3), .mv, [(.t 8)], none⟩]) (.seq (.seq (.reg [⟨(some 9), .mv, [(.t 0)], none⟩, ⟨(some 10), .len, [(.t 9)], none⟩, ⟨(some 11), .mv, [(.c (.rv (.int .i64 0)))], none⟩]) (.seq (.block 0 (.loop (.seq (.reg [⟨(some 12), (.ibin .lss), [(.t 11), (.t 10)], none⟩]) (.seq (.cond (.t 12) .skip (.exit 0)) (.seq (.seq (.block 1 (.seq (.reg [⟨(some 13), .mv, [(.t 11)], none⟩, ⟨(some 14), (.ixs 49), [(.t 9), (.t 11)], none⟩, ⟨(some 15), (.load 49 true), [(.t 14)], none⟩, ⟨(some 5), (.alloc [(.bool false), (.int .i64 0), (.int .i64 0), (.int .i64 0), (.int .i64 0), (.int .i64 0), (.int .i64 0), (.int .i64 0), (.int .i64 0), (.int .i64 0), (.int .i64 0), (.int .i64 0), (.int .i64 0), (.int .i64 0), (.int .i64 0), (.int .i64 0), (.int .i64 0), (.int .i64 0), (.int .i64 0), (.int .i64 0), (.int .i64 0), (.int .i64 0), (.int .i64 0), (.int .i64 0), (.int .i64 0), (.int .i64 0), (.int .i64 0), (.int .i64 0), (.int .i64 0), (.int .i64 0), (.int .i64 0), (.int .i64 0), (.int .i64 0), (.int .i64 0), (.int .i64 0), (.int .i64 0), (.int .i64 0), (.int .i64 0), (.int .i64 0), (.int .i64 0), (.int .i64 0), (.int .i64 0), (.bool false), (.bool false), (.int .i64 0), (.bool false), (.int .i64 0), (.int .i64 0), (.int .i64 0)]), [], none⟩, ⟨(some 4), .mv, [(.t 13)], none⟩, ⟨none, (.store 49), [(.t 5), (.t 15)], none⟩]) (.seq (.reg [⟨(some 16), .mv, [(.t 3)], none⟩, ⟨(some 17), .mv, [(.t 4)], none⟩, ⟨(some 18), (.ixs 1), [(.t 16), (.t 17)], none⟩, ⟨none, (.store 1), [(.t 18), (.c (.rv (.int .i64 1)))], none⟩]) (.seq (.reg [⟨(some 19), .mv, [(.t 4)], none⟩, ⟨(some 20), (.ibin .gtr), [(.t 19), (.c (.rv (.int .i64 0)))], none⟩]) (.seq (.cond (.t 20) (.reg [⟨(some 21), .mv, [(.t 3)], none⟩, ⟨(some 22), .mv, [(.t 4)], none⟩, ⟨(some 23), .mv, [(.t 3)], none⟩, ⟨(some 24), (.fld 48), [(.t 5)], none⟩, ⟨(some 25), (.load 1 false), [(.t 24)], none⟩, ⟨(some 26), (.ixs 1), [(.t 23), (.t 25)], none⟩, ⟨(some 27), (.load 1 false), [(.t 26)], none⟩, ⟨(some 28), (.ibin .add), [(.t 27), (.c (.rv (.int .i64 1)))], none⟩, ⟨(some 29), (.ixs 1), [(.t 21), (.t 22)], none⟩, ⟨none, (.store 1), [(.t 29), (.t 28)], none⟩]) .skip) .ent))))) .ent) (.reg [⟨(some 30), (.ibin .add), [(.t 11), (.c (.rv (.int .i64 1)))], none⟩, ⟨(some 11), .mv, [(.t 30)], none⟩])))))) .ent)) (.seq (.reg [⟨(some 31), .mv, [(.t 3)], none⟩, ⟨(some 32), (.call 104), [(.t 31)], none⟩, ⟨(some 2), .mv, [(.t 32)], none⟩]) .ret))))
theorem k_tree_deepest : FnOK Go.Proofs.Try.prog 75 33 c_tree_deepest [(.t 2)] := fnOK_of (by kernel_rfl)

/- decoupage/tree.Check$1 -/
def c_tree_Check_1 : AC := (.seq (.reg [⟨(some 1), .box, [(.t 0)], none⟩, ⟨(some 2), .mv, [(.c (.rv (.bool false)))], none⟩]) (.seq (.reg [⟨(some 3), (.fld 0), [(.t 1)], none⟩, ⟨(some 4), (.load 48 true), [(.t 3)], none⟩, ⟨(some 5), (.call 78), [(.t 4)], none⟩, ⟨(some 6), .not, [(.t 5)], none⟩, ⟨(some 2), .mv, [(.t 6)], none⟩]) .ret))
theorem k_tree_Check_1 : FnOK Go.Proofs.Try.prog 77 7 c_tree_Check_1 [(.t 2)] := fnOK_of (by kernel_rfl)

/- slices.IndexFunc[[]decoupage/api.Node,decoupage/api.Node] -/
def c_slices_IndexFunc_Node : AC := (.seq (.reg [⟨(some 4), .mv, [(.c (.rv (.int .i64 0)))], none⟩]) (.seq (.seq (.reg [⟨(some 6), .mv, [(.t 0)], none⟩, ⟨(some 7), .len, [(.t 6)], none⟩, ⟨(some 8), .mv, [(.c (.rv (.int .i64 0)))], none⟩]) (.seq (.block 0 (.loop (.seq (.reg [⟨(some 9), (.ibin .lss), [(.t 8), (.t 7)], none⟩]) (.seq (.cond (.t 9) .skip (.exit 0)) (.seq (.seq (.block 1 (.seq (.reg [⟨(some 10), .mv, [(.t 8)], none⟩, ⟨(some 5), .mv, [(.t 10)], none⟩]) (.seq (.reg [⟨(some 11), .mv, [(.t 1)], none⟩, ⟨(some 12), .mv, [(.t 0)], none⟩, ⟨(some 13), .mv, [(.t 5)], none⟩, ⟨(some 14), (.ixs 49), [(.t 12), (.t 13)], none⟩, ⟨(some 15), (.load 49 true), [(.t 14)], none⟩, ⟨(some 16), .callv, [(.t 11), (.t 15)], none⟩]) (.cond (.t 16) (.seq (.reg [⟨(some 17), .mv, [(.t 5)], none⟩, ⟨(some 4), .mv, [(.t 17)], none⟩]) .ret) .skip)))) .ent) (.reg [⟨(some 18), (.ibin .add), [(.t 8), (.c (.rv (.int .i64 1)))], none⟩, ⟨(some 8), .mv, [(.t 18)], none⟩])))))) .ent)) (.seq (.reg [⟨(some 4), .mv, [(.c (.rv (.int .i64 (-1))))], none⟩]) .ret)))
theorem k_slices_IndexFunc_Node : FnOK Go.Proofs.Try.prog 105 19 c_slices_IndexFunc_Node [(.t 4)] := fnOK_of (by kernel_rfl)

/- slices.ContainsFunc[[]decoupage/api.Node,decoupage/api.Node] -/
def c_slices_ContainsFunc_Node : AC := (.seq (.reg [⟨(some 4), .mv, [(.c (.rv (.bool false)))], none⟩]) (.seq (.reg [⟨(some 5), .mv, [(.t 0)], none⟩, ⟨(some 6), .mv, [(.t 1)], none⟩, ⟨(some 7), (.call 105), [(.t 5), (.t 6)], none⟩, ⟨(some 8), (.ibin .geq), [(.t 7), (.c (.rv (.int .i64 0)))], none⟩, ⟨(some 4), .mv, [(.t 8)], none⟩]) .ret))
theorem k_slices_ContainsFunc_Node : FnOK Go.Proofs.Try.prog 76 9 c_slices_ContainsFunc_Node [(.t 4)] := fnOK_of (by kernel_rfl)

/- decoupage/tree.Check -/
def c_tree_Check : AC := (.seq (.reg [⟨(some 2), .mv, [(.c (.rv (.int .i64 0)))], none⟩]) (.seq (.seq (.reg [⟨(some 3), .mv, [(.t 0)], none⟩, ⟨(some 4), (.call 67), [(.t 3)], none⟩, ⟨(some 5), .not, [(.t 4)], none⟩]) (.cond (.t 5) (.seq (.reg [⟨(some 2), .mv, [(.c (.rv (.int .i64 2)))], none⟩]) .ret) .skip)) (.seq (.seq (.reg [⟨(some 6), .mv, [(.t 0)], none⟩, ⟨(some 7), .len, [(.t 6)], none⟩, ⟨(some 8), (.ibin .gtr), [(.t 7), (.c (.rv (.int .i64 65535)))], none⟩, ⟨(some 9), .mv, [(.t 8)], none⟩, ⟨(some 10), .mv, [(.t 0)], (some (9, false))⟩, ⟨(some 11), (.call 75), [(.t 10)], (some (9, false))⟩, ⟨(some 12), (.ibin .gtr), [(.t 11), (.c (.rv (.int .i64 256)))], (some (9, false))⟩, ⟨(some 13), .pick, [(.t 9), (.c (.rv (.bool true))), (.t 12)], none⟩, ⟨(some 14), .mv, [(.t 13)], none⟩, ⟨(some 15), .mv, [(.t 0)], (some (14, false))⟩, ⟨(some 16), (.call 76), [(.t 15), (.c (.fn 77 []))], (some (14, false))⟩, ⟨(some 17), .pick, [(.t 14), (.c (.rv (.bool true))), (.t 16)], none⟩]) (.cond (.t 17) (.seq (.reg [⟨(some 2), .mv, [(.c (.rv (.int .i64 3)))], none⟩]) .ret) .skip)) (.seq (.reg [⟨(some 2), .mv, [(.c (.rv (.int .i64 0)))], none⟩]) .ret))))
theorem k_tree_Check : FnOK Go.Proofs.Try.prog 46 18 c_tree_Check [(.t 2)] := fnOK_of (by kernel_rfl)


def maxFrom (ys : List Int) (m : Int) (k : Nat) : Int := (ys.drop k).foldl (fun a b => if b > a then b else a) m
theorem maxFrom_next {ys : List Int} {m : Int} {k : Nat} (h : k < ys.length) : maxFrom ys m k = maxFrom ys (if ys[k]'h > m then ys[k]'h else m) (k + 1) := by
  unfold maxFrom; rw [List.drop_eq_getElem_cons h]; rfl
theorem maxFrom_end {ys : List Int} {m : Int} {k : Nat} (h : ys.length ≤ k) : maxFrom ys m k = m := by
  unfold maxFrom; rw [List.drop_of_length_le h]; rfl

theorem sp_Max_int (ys : List Int) (h0 : 0 < ys.length) (hb : ys.length ≤ 8589934592) : CallR Go.Proofs.Try.prog 104 [.rv (.sl 1 (intsL ys))] [] [] (.rv (.int .i64 (maxFrom ys (ys[0]'h0) 1))) := by
  refine callR_G k_slices_Max_int [.rv (.sl 1 (intsL ys))] _ (by simp) (by simp [BkAll, bk_agg, bkAll_map, bk_rv, bk_fn, Sty.sv, Ln.sv, Nd.sv]) (fun K hK => ?_)
  have hlen := intsL_len ys
  have e0 : decide (((ys.length : Nat) : Int) < 1) = false := decide_eq_false (by omega)
  have hx0 := intsL_get h0
  simp -implicitDefEqProofs only [c_slices_Max_int, go_sem, ↓reduceIte, Nat.reduceEqDiff, Nat.reduceAdd, Nat.reduceSub, Nat.reduceMul, Nat.reduceLeDiff, Nat.reduceLT, reduceCtorEq, Int.reduceToNat]
  repeat' (first | (simp -implicitDefEqProofs only [go_sem, ↓reduceIte, Nat.reduceEqDiff, Nat.reduceAdd, Nat.reduceSub, Nat.reduceMul, Nat.reduceLeDiff, Nat.reduceLT, reduceCtorEq, Int.reduceToNat, hlen, e0, hx0]) | (with_reducible refine g_noent ?_) | (refine cdS (fun hg => ?_) (fun hg => ?_) <;> try simp -implicitDefEqProofs only [hg, Bool.not_true, Bool.not_false]) | (refine gdS (fun hg => ?_) (fun hg => ?_) <;> try simp -implicitDefEqProofs only [hg, Bool.not_true, Bool.not_false]) | (refine gddS (fun hg => ?_) (fun hg => ?_) <;> try simp -implicitDefEqProofs only [hg, Bool.not_true, Bool.not_false]) | ((with_reducible apply And.intro); focus (first | trivial | omega | decide | (simp -implicitDefEqProofs only [maxLen]; omega) | (simp [maxLen, sty_len, nd_len, ndL_len, lnL_len, intsL_len, rvs_len, lensS_len]; done) | (simp [maxLen, sty_len, nd_len, ndL_len, lnL_len, intsL_len, rvs_len, lensS_len]; omega))) | fail)
  refine g_loop (ι := Nat × Int) (fun i => [(4, .rv (.int .i64 i.1)), (3, .rv (.int .i64 i.2)), (0, .rv (.sl 1 (intsL ys)))]) (fun _ => []) (fun i => i.1 ≤ ys.length ∧ maxFrom ys i.2 i.1 = maxFrom ys (ys[0]'h0) 1) (fun i => ys.length - i.1) (1, ys[0]'h0) ⟨by dsimp only; omega, rfl⟩ (ent_env (by simp [lk])) (fun i hi K' hN hX hR => ?_)
  obtain ⟨k, m⟩ := i
  obtain ⟨hk1, hk2⟩ := hi
  dsimp only at hk1 hk2 ⊢
  simp -implicitDefEqProofs only [hlen, go_sem, ↓reduceIte, Nat.reduceEqDiff, Nat.reduceAdd, Nat.reduceSub, Nat.reduceMul, Nat.reduceLeDiff, Nat.reduceLT, reduceCtorEq, Int.reduceToNat]
  refine cdS (fun hg => ?_) (fun hg => ?_)
  · have hk4 : k < ys.length := by simp at hg; omega
    have hx := intsL_get hk4
    repeat' (first | (simp -implicitDefEqProofs only [go_sem, ↓reduceIte, Nat.reduceEqDiff, Nat.reduceAdd, Nat.reduceSub, Nat.reduceMul, Nat.reduceLeDiff, Nat.reduceLT, reduceCtorEq, Int.reduceToNat, hlen, hx]) | (with_reducible refine g_noent ?_) | (refine cdS (fun hg => ?_) (fun hg => ?_) <;> try simp -implicitDefEqProofs only [hg, Bool.not_true, Bool.not_false]) | (refine gdS (fun hg => ?_) (fun hg => ?_) <;> try simp -implicitDefEqProofs only [hg, Bool.not_true, Bool.not_false]) | (refine gddS (fun hg => ?_) (fun hg => ?_) <;> try simp -implicitDefEqProofs only [hg, Bool.not_true, Bool.not_false]) | ((with_reducible apply And.intro); focus (first | trivial | omega | decide | (simp -implicitDefEqProofs only [maxLen]; omega) | (simp [maxLen, sty_len, nd_len, ndL_len, lnL_len, intsL_len, rvs_len, lensS_len]; done) | (simp [maxLen, sty_len, nd_len, ndL_len, lnL_len, intsL_len, rvs_len, lensS_len]; omega))) | fail)
    rw [wrap_up (by omega)]
    exact hN (k + 1, if ys[k]'hk4 > m then ys[k]'hk4 else m) _ _ ⟨by dsimp only; omega, by rw [← hk2]; exact (maxFrom_next hk4).symm⟩ (by dsimp only; omega) (ent_env (by simp [lk]))
  · simp -implicitDefEqProofs only [go_sem, ↓reduceIte, Nat.reduceEqDiff, Nat.reduceAdd, Nat.reduceSub, Nat.reduceMul, Nat.reduceLeDiff, Nat.reduceLT, reduceCtorEq, Int.reduceToNat]
    refine hX _ _ _ ?_
    repeat' (first | (simp -implicitDefEqProofs only [go_sem, ↓reduceIte, Nat.reduceEqDiff, Nat.reduceAdd, Nat.reduceSub, Nat.reduceMul, Nat.reduceLeDiff, Nat.reduceLT, reduceCtorEq, Int.reduceToNat]) | (with_reducible refine g_noent ?_) | (refine cdS (fun hg => ?_) (fun hg => ?_) <;> try simp -implicitDefEqProofs only [hg, Bool.not_true, Bool.not_false]) | (refine gdS (fun hg => ?_) (fun hg => ?_) <;> try simp -implicitDefEqProofs only [hg, Bool.not_true, Bool.not_false]) | (refine gddS (fun hg => ?_) (fun hg => ?_) <;> try simp -implicitDefEqProofs only [hg, Bool.not_true, Bool.not_false]) | ((with_reducible apply And.intro); focus (first | trivial | omega | decide | (simp -implicitDefEqProofs only [maxLen]; omega) | (simp [maxLen, sty_len, nd_len, ndL_len, lnL_len, intsL_len, rvs_len, lensS_len]; done) | (simp [maxLen, sty_len, nd_len, ndL_len, lnL_len, intsL_len, rvs_len, lensS_len]; omega))) | fail)
    refine (hK _ _ (ret_t ?_)).2
    rw [← hk2, maxFrom_end (by simp at hg; omega)]; rfl

def depTo (l : List Nd) (k : Nat) : List Int := (List.range l.length).map fun j => if j < k then (depth l j : Int) else 0
theorem depTo_len (l : List Nd) (k : Nat) : (depTo l k).length = l.length := by simp [depTo]
theorem depTo_set {l : List Nd} {k : Nat} (hk : k < l.length) : (depTo l k).set k (depth l k) = depTo l (k + 1) := by
  refine List.ext_getElem (by simp [depTo]) (fun i h1 h2 => ?_)
  simp -implicitDefEqProofs only [List.getElem_set, depTo, List.getElem_map, List.getElem_range]
  by_cases h : k = i
  · subst h; simp
  · rw [if_neg h]
    by_cases hi : i < k
    · rw [if_pos hi, if_pos (by omega)]
    · rw [if_neg hi, if_neg (by omega)]
theorem depTo_zero (l : List Nd) : depTo l 0 = List.replicate l.length 0 := by
  refine List.ext_getElem (by simp [depTo]) (fun i h1 h2 => ?_)
  simp [depTo]
theorem depTo_get {l : List Nd} {k j : Nat} (hj : j < k) (hl : j < l.length) : ((depTo l k).set k 1).getD j 0 = depth l j := by
  rw [List.getD_eq_getElem?_getD, List.getElem?_set_ne (by omega)]
  simp [depTo, hl, hj]
theorem depTo_set2 {l : List Nd} {k : Nat} (hk : k < l.length) : ((depTo l k).set k 1).set k (depth l k) = depTo l (k + 1) := by
  rw [List.set_set, depTo_set hk]
def deepS (l : List Nd) : Int := maxFrom (depTo l l.length) ((depTo l l.length).getD 0 0) 1

theorem sp_tree_deepest (l : List Nd) (h0 : 0 < l.length) (hw : WF l l.length) (hb : l.length ≤ 8589934592) : CallR Go.Proofs.Try.prog 75 [.rv (.sl 49 (ndL l))] [] [] (.rv (.int .i64 (deepS l))) := by
  refine callR_G k_tree_deepest [.rv (.sl 49 (ndL l))] _ (by simp) (by simp [BkAll, bk_agg, bkAll_map, bk_rv, bk_fn, Sty.sv, Ln.sv, Nd.sv]) (fun K hK => ?_)
  have hlen := ndL_len l
  simp -implicitDefEqProofs only [c_tree_deepest, go_sem, ↓reduceIte, Nat.reduceEqDiff, Nat.reduceAdd, Nat.reduceSub, Nat.reduceMul, Nat.reduceLeDiff, Nat.reduceLT, reduceCtorEq, Int.reduceToNat]
  repeat' (first | (simp -implicitDefEqProofs only [go_sem, ↓reduceIte, Nat.reduceEqDiff, Nat.reduceAdd, Nat.reduceSub, Nat.reduceMul, Nat.reduceLeDiff, Nat.reduceLT, reduceCtorEq, Int.reduceToNat, hlen, rvs_rep1]) | (with_reducible refine g_noent ?_) | (refine cdS (fun hg => ?_) (fun hg => ?_) <;> try simp -implicitDefEqProofs only [hg, Bool.not_true, Bool.not_false]) | (refine gdS (fun hg => ?_) (fun hg => ?_) <;> try simp -implicitDefEqProofs only [hg, Bool.not_true, Bool.not_false]) | (refine gddS (fun hg => ?_) (fun hg => ?_) <;> try simp -implicitDefEqProofs only [hg, Bool.not_true, Bool.not_false]) | ((with_reducible apply And.intro); focus (first | trivial | omega | decide | (simp -implicitDefEqProofs only [maxLen]; omega) | (simp [maxLen, sty_len, nd_len, ndL_len, lnL_len, intsL_len, rvs_len, lensS_len]; done) | (simp [maxLen, sty_len, nd_len, ndL_len, lnL_len, intsL_len, rvs_len, lensS_len]; omega))) | fail)
  refine g_loop (ι := Nat) (fun k => [(11, .rv (.int .i64 k)), (10, .rv (.int .i64 l.length)), (9, .rv (.sl 49 (ndL l))), (3, .row 0 0 l.length)]) (fun k => [some (.row 1 0 (rvs (intsL (depTo l k))))]) (fun k => k ≤ l.length) (fun k => l.length - k) 0 (by simp) (by rw [depTo_zero]; exact ent_env (by simp [lk])) (fun k hk K' hN hX hR => ?_)
  simp -implicitDefEqProofs only [go_sem, ↓reduceIte, Nat.reduceEqDiff, Nat.reduceAdd, Nat.reduceSub, Nat.reduceMul, Nat.reduceLeDiff, Nat.reduceLT, reduceCtorEq, Int.reduceToNat]
  refine cdS (fun hg => ?_) (fun hg => ?_)
  · have hk4 : k < l.length := by simp at hg; omega
    have hx := ndL_get hk4
    have hdl := depTo_len l k
    have hd1 := intsL_getD (l := depTo l k) (i := k) (by omega)
    have hdd := intsL_len (depTo l k)
    have hsl : ((depTo l k).set k 1).length = l.length := by simp [hdl]
    have hpk := parL_eq hk4
    have wu := wrap_up (k := k) (by omega)
    have nx : ∀ e, Ent 0 ⟨e, [some (.row 1 0 (rvs (intsL (depTo l (k + 1))))), some (.var ((l[k]'hk4).cells.map .rv))]⟩ ⟨[(11, .rv (.int .i64 (k + 1 : Nat))), (10, .rv (.int .i64 l.length)), (9, .rv (.sl 49 (ndL l))), (3, .row 0 0 l.length)], [some (.row 1 0 (rvs (intsL (depTo l (k + 1)))))]⟩ → K' .normal ⟨e, _⟩ := fun e he => hN (k + 1) _ _ (by omega) (by omega) he
    have hds := depTo_set hk4
    have hds2 := depTo_set2 hk4
    by_cases hk0 : 0 < k
    · have hgt : decide ((k : Int) > 0) = true := decide_eq_true (by omega)
      obtain ⟨p1, p2⟩ := hw.2 k hk0 hk4
      obtain ⟨p, hp⟩ : ∃ p : Nat, parL l k = p := ⟨(parL l k).toNat, by omega⟩
      have hdp := intsL_getD (l := (depTo l k).set k 1) (i := p) (by omega)
      have hdk := intsL_getD (l := (depTo l k).set k 1) (i := k) (by omega)
      rw [depTo_get (by omega) (by omega)] at hdp
      have hdsl := intsL_len ((depTo l k).set k 1)
      have hdep := depth_par hw hk0 hk4
      rw [hp, Int.toNat_natCast] at hdep
      have wd := wrap_up (k := depth l p) (by have := pth_len (l := l) p; unfold depth; omega)
      rw [← hdep] at wd
      repeat' (first | (simp -implicitDefEqProofs only [go_sem, ↓reduceIte, Nat.reduceEqDiff, Nat.reduceAdd, Nat.reduceSub, Nat.reduceMul, Nat.reduceLeDiff, Nat.reduceLT, reduceCtorEq, Int.reduceToNat, hgt, hlen, hx, nd_len, nd_atp, nd_sv48, wu, hd1, hdl, hdd, rvs_set1, hpk, hp, hdp, hdk, hsl, hdsl, wd, hds2]) | (with_reducible refine g_noent ?_) | (refine cdS (fun hg => ?_) (fun hg => ?_) <;> try simp -implicitDefEqProofs only [hg, Bool.not_true, Bool.not_false]) | (refine gdS (fun hg => ?_) (fun hg => ?_) <;> try simp -implicitDefEqProofs only [hg, Bool.not_true, Bool.not_false]) | (refine gddS (fun hg => ?_) (fun hg => ?_) <;> try simp -implicitDefEqProofs only [hg, Bool.not_true, Bool.not_false]) | ((with_reducible apply And.intro); focus (first | trivial | omega | decide | (simp -implicitDefEqProofs only [maxLen]; omega) | (simp [maxLen, sty_len, nd_len, ndL_len, lnL_len, intsL_len, rvs_len, lensS_len]; done) | (simp [maxLen, sty_len, nd_len, ndL_len, lnL_len, intsL_len, rvs_len, lensS_len]; omega))) | fail)
      exact nx _ (ent_trim _ (by simp) (by simp [keepL, hget, RnHo, rnRows_rvs]) (by simp [lk, rn_rv, rn_row, τk]))
    · obtain rfl : k = 0 := by omega
      have hgt : decide (((0 : Nat) : Int) > 0) = false := rfl
      rw [depth_zero] at hds
      repeat' (first | (simp -implicitDefEqProofs only [go_sem, ↓reduceIte, Nat.reduceEqDiff, Nat.reduceAdd, Nat.reduceSub, Nat.reduceMul, Nat.reduceLeDiff, Nat.reduceLT, reduceCtorEq, Int.reduceToNat, hgt, hlen, hx, nd_len, nd_atp, nd_sv48, wu, hd1, hdl, hdd, rvs_set1]) | (with_reducible refine g_noent ?_) | (refine cdS (fun hg => ?_) (fun hg => ?_) <;> try simp -implicitDefEqProofs only [hg, Bool.not_true, Bool.not_false]) | (refine gdS (fun hg => ?_) (fun hg => ?_) <;> try simp -implicitDefEqProofs only [hg, Bool.not_true, Bool.not_false]) | (refine gddS (fun hg => ?_) (fun hg => ?_) <;> try simp -implicitDefEqProofs only [hg, Bool.not_true, Bool.not_false]) | ((with_reducible apply And.intro); focus (first | trivial | omega | decide | (simp -implicitDefEqProofs only [maxLen]; omega) | (simp [maxLen, sty_len, nd_len, ndL_len, lnL_len, intsL_len, rvs_len, lensS_len]; done) | (simp [maxLen, sty_len, nd_len, ndL_len, lnL_len, intsL_len, rvs_len, lensS_len]; omega))) | fail)
      rw [show (1 : Int) = ((1 : Nat) : Int) from rfl, hds]
      exact nx _ (ent_trim _ (by simp) (by simp [keepL, hget, RnHo, rnRows_rvs]) (by simp [lk, rn_rv, rn_row, τk]))
  · have hk4 : k = l.length := by simp at hg; omega
    subst hk4
    have hpos : 0 < (depTo l l.length).length := by rw [depTo_len]; exact h0
    have hm := sp_Max_int (depTo l l.length) hpos (by rw [depTo_len]; exact hb)
    have hml := lend1 (id := 0) (v := 0) (n := l.length) (bs := []) hm (.int _ _) (by simp [intsL, depTo]) (intsL_one _)
    simp -implicitDefEqProofs only [go_sem, ↓reduceIte, Nat.reduceEqDiff, Nat.reduceAdd, Nat.reduceSub, Nat.reduceMul, Nat.reduceLeDiff, Nat.reduceLT, reduceCtorEq, Int.reduceToNat]
    refine hX _ _ _ ?_
    have hcall1 := hml; repeat' (first | (simp -implicitDefEqProofs only [go_sem, ↓reduceIte, Nat.reduceEqDiff, Nat.reduceAdd, Nat.reduceSub, Nat.reduceMul, Nat.reduceLeDiff, Nat.reduceLT, reduceCtorEq, Int.reduceToNat]) | (with_reducible refine g_noent ?_) | (refine g_call hcall1 (by simp [PreOK, hget]; done) (by simp [okU, uph]; done) ?_) | (refine g_calld hcall1 (by simp [PreOK, hget]; done) (by simp [okU, uph]; done) ?_) | (refine cdS (fun hg => ?_) (fun hg => ?_) <;> try simp -implicitDefEqProofs only [hg, Bool.not_true, Bool.not_false]) | (refine gdS (fun hg => ?_) (fun hg => ?_) <;> try simp -implicitDefEqProofs only [hg, Bool.not_true, Bool.not_false]) | (refine gddS (fun hg => ?_) (fun hg => ?_) <;> try simp -implicitDefEqProofs only [hg, Bool.not_true, Bool.not_false]) | ((with_reducible apply And.intro); focus (first | trivial | omega | decide | (simp -implicitDefEqProofs only [maxLen]; omega) | (simp [maxLen, sty_len, nd_len, ndL_len, lnL_len, intsL_len, rvs_len, lensS_len]; done) | (simp [maxLen, sty_len, nd_len, ndL_len, lnL_len, intsL_len, rvs_len, lensS_len]; omega))) | fail)
    refine (hK _ _ (ret_t ?_)).2
    rw [deepS, List.getD_eq_getElem?_getD, List.getElem?_eq_getElem hpos]; rfl

theorem maxFrom_le {ys : List Int} {m b : Int} {k : Nat} : maxFrom ys m k ≤ b ↔ m ≤ b ∧ ∀ x ∈ ys.drop k, x ≤ b := by
  unfold maxFrom
  induction ys.drop k generalizing m with
  | nil => simp
  | cons a r ih =>
    rw [List.foldl_cons, ih]
    by_cases h : a > m
    · rw [if_pos h]; simp; intro _; omega
    · rw [if_neg h]; simp; intro _ _; omega
theorem deepS_le (l : List Nd) (h0 : 0 < l.length) : decide (deepS l > 256) = (List.range l.length).any (fun k => decide (depth l k > 256)) := by
  have hg : ∀ k, k < l.length → (depTo l l.length)[k]? = some (depth l k : Int) := fun k hk => by simp [depTo, hk]
  have : deepS l ≤ 256 ↔ ∀ k, k < l.length → depth l k ≤ 256 := by
    rw [deepS, maxFrom_le]
    constructor
    · rintro ⟨h1, h2⟩ k hk
      rcases Nat.eq_zero_or_pos k with rfl | hk0
      · rw [List.getD_eq_getElem?_getD, hg 0 hk] at h1; simp at h1; omega
      · have := h2 (depth l k) (List.mem_iff_getElem?.2 ⟨k - 1, by rw [List.getElem?_drop, show 1 + (k - 1) = k by omega, hg k hk]⟩)
        omega
    · intro h
      refine ⟨by rw [List.getD_eq_getElem?_getD, hg 0 h0]; have := h 0 h0; simp; omega, fun x hx => ?_⟩
      obtain ⟨i, hi⟩ := List.mem_iff_getElem?.1 hx
      rw [List.getElem?_drop] at hi
      have hlt : 1 + i < l.length := by have := (List.getElem?_eq_some_iff.1 hi).1; rwa [depTo_len] at this
      rw [hg _ hlt] at hi
      have := h _ hlt
      simp at hi; omega
  rw [Bool.eq_iff_iff]
  simp -implicitDefEqProofs only [decide_eq_true_eq, List.any_eq_true, List.mem_range]
  constructor
  · intro h
    apply Classical.byContradiction
    intro hn
    have := this.2 (fun k hk => by apply Classical.byContradiction; intro h2; exact hn ⟨k, hk, by omega⟩)
    omega
  · rintro ⟨k, hk, h⟩
    apply Classical.byContradiction
    intro hn
    have := this.1 (by omega) k hk
    omega

theorem sp_tree_Check_1 (x : Nd) : CallR Go.Proofs.Try.prog 77 [x.sv] [] [] (.rv (.bool (!styIn x.s))) := by
  refine callR_G k_tree_Check_1 [x.sv] _ (by simp) (by simp [BkAll, bk_agg, bkAll_map, bk_rv, bk_fn, Sty.sv, Ln.sv, Nd.sv]) (fun K hK => ?_)
  simp -implicitDefEqProofs only [c_tree_Check_1, go_sem, ↓reduceIte, Nat.reduceEqDiff, Nat.reduceAdd, Nat.reduceSub, Nat.reduceMul, Nat.reduceLeDiff, Nat.reduceLT, reduceCtorEq, Int.reduceToNat]
  have h48 : (x.cells.map SV.rv).take 48 = x.s.cells.map SV.rv := rfl
  have hcall2 := sp_style_Within x.s; repeat' (first | (simp -implicitDefEqProofs only [go_sem, ↓reduceIte, Nat.reduceEqDiff, Nat.reduceAdd, Nat.reduceSub, Nat.reduceMul, Nat.reduceLeDiff, Nat.reduceLT, reduceCtorEq, Int.reduceToNat, nd_len, h48]) | (with_reducible refine g_noent ?_) | (with_reducible refine g_call0 hcall2 ?_) | (with_reducible refine g_calld0 hcall2 ?_) | (refine cdS (fun hg => ?_) (fun hg => ?_) <;> try simp -implicitDefEqProofs only [hg, Bool.not_true, Bool.not_false]) | (refine gdS (fun hg => ?_) (fun hg => ?_) <;> try simp -implicitDefEqProofs only [hg, Bool.not_true, Bool.not_false]) | (refine gddS (fun hg => ?_) (fun hg => ?_) <;> try simp -implicitDefEqProofs only [hg, Bool.not_true, Bool.not_false]) | ((with_reducible apply And.intro); focus (first | trivial | omega | decide | (simp -implicitDefEqProofs only [maxLen]; omega) | (simp [maxLen, sty_len, nd_len, ndL_len, lnL_len, intsL_len, rvs_len, lensS_len]; done) | (simp [maxLen, sty_len, nd_len, ndL_len, lnL_len, intsL_len, rvs_len, lensS_len]; omega))) | fail)
  exact (hK _ _ (ret_t rfl)).2

theorem sp_IndexFunc_Node (l : List Nd) (f : Nat) (p : Nd → Bool) (hf : ∀ x : Nd, CallR Go.Proofs.Try.prog f [x.sv] [] [] (.rv (.bool (p x)))) (hb : l.length ≤ 8589934592) :
    CallR Go.Proofs.Try.prog 105 [.rv (.sl 49 (ndL l)), .fn f []] [] [] (.rv (.int .i64 (match l.findIdx? p with | some i => ((i : Nat) : Int) | none => -1))) := by
  refine callR_G k_slices_IndexFunc_Node [.rv (.sl 49 (ndL l)), .fn f []] _ (by simp) (by simp [BkAll, bk_agg, bkAll_map, bk_rv, bk_fn, Sty.sv, Ln.sv, Nd.sv]) (fun K hK => ?_)
  have hlen := ndL_len l
  simp -implicitDefEqProofs only [c_slices_IndexFunc_Node, hlen, go_sem, ↓reduceIte, Nat.reduceEqDiff, Nat.reduceAdd, Nat.reduceSub, Nat.reduceMul, Nat.reduceLeDiff, Nat.reduceLT, reduceCtorEq, Int.reduceToNat]
  refine g_loop (ι := Nat) (fun k => [(8, .rv (.int .i64 k)), (7, .rv (.int .i64 l.length)), (0, .rv (.sl 49 (ndL l))), (1, .fn f [])]) (fun _ => []) (fun k => k ≤ l.length ∧ ∀ j, (h : j < l.length) → j < k → p (l[j]'h) = false) (fun k => l.length - k) 0 (by simp) (ent_env (by simp [lk])) (fun k hk K' hN hX hR => ?_)
  obtain ⟨hk1, hk2⟩ := hk
  simp -implicitDefEqProofs only [go_sem, ↓reduceIte, Nat.reduceEqDiff, Nat.reduceAdd, Nat.reduceSub, Nat.reduceMul, Nat.reduceLeDiff, Nat.reduceLT, reduceCtorEq, Int.reduceToNat]
  refine cdS (fun hg => ?_) (fun hg => ?_)
  · have hk4 : k < l.length := by simp at hg; omega
    have hx := ndL_get hk4
    have hcall3 := hf (l[k]'hk4); repeat' (first | (simp -implicitDefEqProofs only [go_sem, ↓reduceIte, Nat.reduceEqDiff, Nat.reduceAdd, Nat.reduceSub, Nat.reduceMul, Nat.reduceLeDiff, Nat.reduceLT, reduceCtorEq, Int.reduceToNat, hlen, hx, nd_len, nd_sv48]) | (with_reducible refine g_noent ?_) | (with_reducible refine g_call0 hcall3 ?_) | (with_reducible refine g_calld0 hcall3 ?_) | (refine cdS (fun hg => ?_) (fun hg => ?_) <;> try simp -implicitDefEqProofs only [hg, Bool.not_true, Bool.not_false]) | (refine gdS (fun hg => ?_) (fun hg => ?_) <;> try simp -implicitDefEqProofs only [hg, Bool.not_true, Bool.not_false]) | (refine gddS (fun hg => ?_) (fun hg => ?_) <;> try simp -implicitDefEqProofs only [hg, Bool.not_true, Bool.not_false]) | ((with_reducible apply And.intro); focus (first | trivial | omega | decide | (simp -implicitDefEqProofs only [maxLen]; omega) | (simp [maxLen, sty_len, nd_len, ndL_len, lnL_len, intsL_len, rvs_len, lensS_len]; done) | (simp [maxLen, sty_len, nd_len, ndL_len, lnL_len, intsL_len, rvs_len, lensS_len]; omega))) | fail)
    · refine hR _ _ (hK _ _ (ret_t ?_)).2
      have : l.findIdx? p = some k := by
        rw [List.findIdx?_eq_some_iff_getElem]
        exact ⟨hk4, by simpa using hg, fun j hj => by rw [hk2 j (by omega) hj]; simp⟩
      rw [this]; rfl
    · rw [wrap_up (by omega)]
      refine hN (k + 1) _ _ ⟨by omega, fun j hj hji => ?_⟩ (by omega) (ent_env (by simp [lk]))
      rcases Nat.lt_or_ge j k with h | h
      · exact hk2 j hj h
      · obtain rfl : j = k := by omega
        simpa using hg
  · have hk4 : k = l.length := by simp at hg; omega
    subst hk4
    simp -implicitDefEqProofs only [go_sem, ↓reduceIte, Nat.reduceEqDiff, Nat.reduceAdd, Nat.reduceSub, Nat.reduceMul, Nat.reduceLeDiff, Nat.reduceLT, reduceCtorEq, Int.reduceToNat]
    refine hX _ _ _ ?_
    repeat' (first | (simp -implicitDefEqProofs only [go_sem, ↓reduceIte, Nat.reduceEqDiff, Nat.reduceAdd, Nat.reduceSub, Nat.reduceMul, Nat.reduceLeDiff, Nat.reduceLT, reduceCtorEq, Int.reduceToNat]) | (with_reducible refine g_noent ?_) | (refine cdS (fun hg => ?_) (fun hg => ?_) <;> try simp -implicitDefEqProofs only [hg, Bool.not_true, Bool.not_false]) | (refine gdS (fun hg => ?_) (fun hg => ?_) <;> try simp -implicitDefEqProofs only [hg, Bool.not_true, Bool.not_false]) | (refine gddS (fun hg => ?_) (fun hg => ?_) <;> try simp -implicitDefEqProofs only [hg, Bool.not_true, Bool.not_false]) | ((with_reducible apply And.intro); focus (first | trivial | omega | decide | (simp -implicitDefEqProofs only [maxLen]; omega) | (simp [maxLen, sty_len, nd_len, ndL_len, lnL_len, intsL_len, rvs_len, lensS_len]; done) | (simp [maxLen, sty_len, nd_len, ndL_len, lnL_len, intsL_len, rvs_len, lensS_len]; omega))) | fail)
    refine (hK _ _ (ret_t ?_)).2
    have : l.findIdx? p = none := by
      rw [List.findIdx?_eq_none_iff]
      intro x hx
      obtain ⟨j, hj, rfl⟩ := List.getElem_of_mem hx
      exact hk2 j hj hj
    rw [this]; rfl

theorem sp_ContainsFunc_Node (l : List Nd) (f : Nat) (p : Nd → Bool) (hf : ∀ x : Nd, CallR Go.Proofs.Try.prog f [x.sv] [] [] (.rv (.bool (p x)))) (hb : l.length ≤ 8589934592) :
    CallR Go.Proofs.Try.prog 76 [.rv (.sl 49 (ndL l)), .fn f []] [] [] (.rv (.bool (l.any p))) := by
  refine callR_G k_slices_ContainsFunc_Node [.rv (.sl 49 (ndL l)), .fn f []] _ (by simp) (by simp [BkAll, bk_agg, bkAll_map, bk_rv, bk_fn, Sty.sv, Ln.sv, Nd.sv]) (fun K hK => ?_)
  simp -implicitDefEqProofs only [c_slices_ContainsFunc_Node, go_sem, ↓reduceIte, Nat.reduceEqDiff, Nat.reduceAdd, Nat.reduceSub, Nat.reduceMul, Nat.reduceLeDiff, Nat.reduceLT, reduceCtorEq, Int.reduceToNat]
  have hcall4 := sp_IndexFunc_Node l f p hf hb; repeat' (first | (simp -implicitDefEqProofs only [go_sem, ↓reduceIte, Nat.reduceEqDiff, Nat.reduceAdd, Nat.reduceSub, Nat.reduceMul, Nat.reduceLeDiff, Nat.reduceLT, reduceCtorEq, Int.reduceToNat]) | (with_reducible refine g_noent ?_) | (with_reducible refine g_call0 hcall4 ?_) | (with_reducible refine g_calld0 hcall4 ?_) | (refine cdS (fun hg => ?_) (fun hg => ?_) <;> try simp -implicitDefEqProofs only [hg, Bool.not_true, Bool.not_false]) | (refine gdS (fun hg => ?_) (fun hg => ?_) <;> try simp -implicitDefEqProofs only [hg, Bool.not_true, Bool.not_false]) | (refine gddS (fun hg => ?_) (fun hg => ?_) <;> try simp -implicitDefEqProofs only [hg, Bool.not_true, Bool.not_false]) | ((with_reducible apply And.intro); focus (first | trivial | omega | decide | (simp -implicitDefEqProofs only [maxLen]; omega) | (simp [maxLen, sty_len, nd_len, ndL_len, lnL_len, intsL_len, rvs_len, lensS_len]; done) | (simp [maxLen, sty_len, nd_len, ndL_len, lnL_len, intsL_len, rvs_len, lensS_len]; omega))) | fail)
  refine (hK _ _ (ret_t ?_)).2
  have : (l.findIdx? p).isSome = l.any p := List.findIdx?_isSome
  rw [← this]
  cases l.findIdx? p <;> simp [lk]

theorem sp_tree_Check (l : List Nd) (hb : l.length ≤ 8589934592) : CallR Go.Proofs.Try.prog 46 [.rv (.sl 49 (ndL l))] [] [] (.rv (.int .i64 (chk l))) := by
  refine callR_G k_tree_Check [.rv (.sl 49 (ndL l))] _ (by simp) (by simp [BkAll, bk_agg, bkAll_map, bk_rv, bk_fn, Sty.sv, Ln.sv, Nd.sv]) (fun K hK => ?_)
  have hlen := ndL_len l
  simp -implicitDefEqProofs only [c_tree_Check, go_sem, ↓reduceIte, Nat.reduceEqDiff, Nat.reduceAdd, Nat.reduceSub, Nat.reduceMul, Nat.reduceLeDiff, Nat.reduceLT, reduceCtorEq, Int.reduceToNat]
  cases ht : treeOK l with
  | false =>
    have hc := sp_tree_Formed l hb
    rw [ht] at hc
    have hcall5 := hc; repeat' (first | (simp -implicitDefEqProofs only [go_sem, ↓reduceIte, Nat.reduceEqDiff, Nat.reduceAdd, Nat.reduceSub, Nat.reduceMul, Nat.reduceLeDiff, Nat.reduceLT, reduceCtorEq, Int.reduceToNat]) | (with_reducible refine g_noent ?_) | (with_reducible refine g_call0 hcall5 ?_) | (with_reducible refine g_calld0 hcall5 ?_) | (refine cdS (fun hg => ?_) (fun hg => ?_) <;> try simp -implicitDefEqProofs only [hg, Bool.not_true, Bool.not_false]) | (refine gdS (fun hg => ?_) (fun hg => ?_) <;> try simp -implicitDefEqProofs only [hg, Bool.not_true, Bool.not_false]) | (refine gddS (fun hg => ?_) (fun hg => ?_) <;> try simp -implicitDefEqProofs only [hg, Bool.not_true, Bool.not_false]) | ((with_reducible apply And.intro); focus (first | trivial | omega | decide | (simp -implicitDefEqProofs only [maxLen]; omega) | (simp [maxLen, sty_len, nd_len, ndL_len, lnL_len, intsL_len, rvs_len, lensS_len]; done) | (simp [maxLen, sty_len, nd_len, ndL_len, lnL_len, intsL_len, rvs_len, lensS_len]; omega))) | fail)
    exact (hK _ _ (ret_t (by simp [chk, ht, lk]))).2
  | true =>
    have hc := sp_tree_Formed l hb
    rw [ht] at hc
    have hs : Shp l := shape_iff.1 (by unfold treeOK at ht; simp -implicitDefEqProofs only [Bool.and_eq_true] at ht; exact ht.1)
    have hd := deepS_le l hs.pos
    have hcall6 := hc; have hcall7 := sp_tree_deepest l hs.pos hs.wf hb; have hcall8 := sp_ContainsFunc_Node l 77 (fun x => !styIn x.s) sp_tree_Check_1 hb; repeat' (first | (simp -implicitDefEqProofs only [go_sem, ↓reduceIte, Nat.reduceEqDiff, Nat.reduceAdd, Nat.reduceSub, Nat.reduceMul, Nat.reduceLeDiff, Nat.reduceLT, reduceCtorEq, Int.reduceToNat, hlen]) | (with_reducible refine g_noent ?_) | (with_reducible refine g_call0 hcall6 ?_) | (with_reducible refine g_calld0 hcall6 ?_) | (with_reducible refine g_call0 hcall7 ?_) | (with_reducible refine g_calld0 hcall7 ?_) | (with_reducible refine g_call0 hcall8 ?_) | (with_reducible refine g_calld0 hcall8 ?_) | (refine cdS (fun hg => ?_) (fun hg => ?_) <;> try simp -implicitDefEqProofs only [hg, Bool.not_true, Bool.not_false]) | (refine gdS (fun hg => ?_) (fun hg => ?_) <;> try simp -implicitDefEqProofs only [hg, Bool.not_true, Bool.not_false]) | (refine gddS (fun hg => ?_) (fun hg => ?_) <;> try simp -implicitDefEqProofs only [hg, Bool.not_true, Bool.not_false]) | ((with_reducible apply And.intro); focus (first | trivial | omega | decide | (simp -implicitDefEqProofs only [maxLen]; omega) | (simp [maxLen, sty_len, nd_len, ndL_len, lnL_len, intsL_len, rvs_len, lensS_len]; done) | (simp [maxLen, sty_len, nd_len, ndL_len, lnL_len, intsL_len, rvs_len, lensS_len]; omega))) | fail)
    all_goals (refine (hK _ _ (ret_t ?_)).2; clear hK; (simp_all [chk, lk]) <;> (try (intros; omega)))
end Go.Eng


/- trees: the document's functions. -/
namespace Go.Eng
open Go
/- decoupage/decoupageref07.Above -/
def c_decoupageref07_Above : AC := (.seq (.reg [⟨(some 6), .mv, [(.c (.rv (.bool false)))], none⟩]) (.seq (.seq (.block 0 (.loop (.seq (.seq (.reg [⟨(some 7), .mv, [(.t 2)], none⟩, ⟨(some 8), (.ibin .geq), [(.t 7), (.c (.rv (.int .i64 0)))], none⟩]) (.cond (.t 8) .skip (.exit 0))) (.seq (.block 1 (.seq (.seq (.reg [⟨(some 9), .mv, [(.t 2)], none⟩, ⟨(some 10), .mv, [(.t 1)], none⟩, ⟨(some 11), (.ibin .eql), [(.t 9), (.t 10)], none⟩]) (.cond (.t 11) (.seq (.reg [⟨(some 6), .mv, [(.c (.rv (.bool true)))], none⟩]) .ret) .skip)) (.reg [⟨(some 12), .mv, [(.t 0)], none⟩, ⟨(some 13), .mv, [(.t 2)], none⟩, ⟨(some 14), (.ixs 49), [(.t 12), (.t 13)], none⟩, ⟨(some 15), (.fld 48), [(.t 14)], none⟩, ⟨(some 16), (.load 1 false), [(.t 15)], none⟩, ⟨(some 2), .mv, [(.t 16)], none⟩]))) .ent)))) .ent) (.seq (.reg [⟨(some 6), .mv, [(.c (.rv (.bool false)))], none⟩]) .ret)))
theorem k_decoupageref07_Above : FnOK Go.Proofs.Try.prog 89 17 c_decoupageref07_Above [(.t 6)] := fnOK_of (by kernel_rfl)

/- decoupage/decoupageref07.Shaped -/
def c_decoupageref07_Shaped : AC := (.seq (.reg [⟨(some 2), .mv, [(.c (.rv (.bool false)))], none⟩]) (.seq (.seq (.reg [⟨(some 5), .mv, [(.t 0)], none⟩, ⟨(some 6), .len, [(.t 5)], none⟩, ⟨(some 7), (.ibin .eql), [(.t 6), (.c (.rv (.int .i64 0)))], none⟩, ⟨(some 8), .mv, [(.t 7)], none⟩, ⟨(some 9), .mv, [(.t 0)], (some (8, false))⟩, ⟨(some 10), (.ixs 49), [(.t 9), (.c (.rv (.int .i64 0)))], (some (8, false))⟩, ⟨(some 11), (.fld 48), [(.t 10)], (some (8, false))⟩, ⟨(some 12), (.load 1 false), [(.t 11)], (some (8, false))⟩, ⟨(some 13), (.ibin .neq), [(.t 12), (.c (.rv (.int .i64 (-1))))], (some (8, false))⟩, ⟨(some 14), .pick, [(.t 8), (.c (.rv (.bool true))), (.t 13)], none⟩]) (.cond (.t 14) (.seq (.reg [⟨(some 2), .mv, [(.c (.rv (.bool false)))], none⟩]) .ret) .skip)) (.seq (.seq (.reg [⟨(some 3), .mv, [(.c (.rv (.int .i64 1)))], none⟩]) (.seq (.block 0 (.loop (.seq (.seq (.reg [⟨(some 15), .mv, [(.t 3)], none⟩, ⟨(some 16), .mv, [(.t 0)], none⟩, ⟨(some 17), .len, [(.t 16)], none⟩, ⟨(some 18), (.ibin .lss), [(.t 15), (.t 17)], none⟩]) (.cond (.t 18) .skip (.exit 0))) (.seq (.seq (.block 1 (.seq (.reg [⟨(some 21), .mv, [(.t 0)], none⟩, ⟨(some 22), .mv, [(.t 3)], none⟩, ⟨(some 23), (.ixs 49), [(.t 21), (.t 22)], none⟩, ⟨(some 24), (.fld 48), [(.t 23)], none⟩, ⟨(some 25), (.load 1 false), [(.t 24)], none⟩, ⟨(some 4), .mv, [(.t 25)], none⟩]) (.seq (.reg [⟨(some 26), .mv, [(.t 4)], none⟩, ⟨(some 27), (.ibin .lss), [(.t 26), (.c (.rv (.int .i64 0)))], none⟩, ⟨(some 28), .mv, [(.t 27)], none⟩, ⟨(some 29), .mv, [(.t 4)], (some (28, false))⟩, ⟨(some 30), .mv, [(.t 3)], (some (28, false))⟩, ⟨(some 31), (.ibin .geq), [(.t 29), (.t 30)], (some (28, false))⟩, ⟨(some 32), .pick, [(.t 28), (.c (.rv (.bool true))), (.t 31)], none⟩, ⟨(some 33), .mv, [(.t 32)], none⟩, ⟨(some 34), .mv, [(.t 0)], (some (33, false))⟩, ⟨(some 35), .mv, [(.t 4)], (some (33, false))⟩, ⟨(some 36), .mv, [(.t 3)], (some (33, false))⟩, ⟨(some 37), (.ibin .sub), [(.t 36), (.c (.rv (.int .i64 1)))], (some (33, false))⟩, ⟨(some 38), (.call 89), [(.t 34), (.t 35), (.t 37)], (some (33, false))⟩, ⟨(some 39), .not, [(.t 38)], (some (33, false))⟩, ⟨(some 40), .pick, [(.t 33), (.c (.rv (.bool true))), (.t 39)], none⟩]) (.cond (.t 40) (.seq (.reg [⟨(some 2), .mv, [(.c (.rv (.bool false)))], none⟩]) .ret) .skip)))) .ent) (.reg [⟨(some 19), .mv, [(.t 3)], none⟩, ⟨(some 20), (.ibin .add), [(.t 19), (.c (.rv (.int .i64 1)))], none⟩, ⟨(some 3), .mv, [(.t 20)], none⟩]))))) .ent)) (.seq (.reg [⟨(some 2), .mv, [(.c (.rv (.bool true)))], none⟩]) .ret))))
theorem k_decoupageref07_Shaped : FnOK Go.Proofs.Try.prog 66 41 c_decoupageref07_Shaped [(.t 2)] := fnOK_of (by kernel_rfl)

/- decoupage/decoupageref07.Formed -/
def c_decoupageref07_Formed : AC := (.seq (.reg [⟨(some 2), .mv, [(.c (.rv (.bool false)))], none⟩]) (.seq (.seq (.reg [⟨(some 4), .mv, [(.t 0)], none⟩, ⟨(some 5), (.call 66), [(.t 4)], none⟩, ⟨(some 6), .not, [(.t 5)], none⟩]) (.cond (.t 6) (.seq (.reg [⟨(some 2), .mv, [(.c (.rv (.bool false)))], none⟩]) .ret) .skip)) (.seq (.seq (.reg [⟨(some 7), .mv, [(.t 0)], none⟩, ⟨(some 8), .len, [(.t 7)], none⟩, ⟨(some 9), .mv, [(.c (.rv (.int .i64 0)))], none⟩]) (.seq (.block 0 (.loop (.seq (.reg [⟨(some 10), (.ibin .lss), [(.t 9), (.t 8)], none⟩]) (.seq (.cond (.t 10) .skip (.exit 0)) (.seq (.seq (.block 1 (.seq (.reg [⟨(some 11), .mv, [(.t 9)], none⟩, ⟨(some 3), .mv, [(.t 11)], none⟩]) (.seq (.reg [⟨(some 12), .mv, [(.t 0)], none⟩, ⟨(some 13), .mv, [(.t 3)], none⟩, ⟨(some 14), (.ixs 49), [(.t 12), (.t 13)], none⟩, ⟨(some 15), (.fld 0), [(.t 14)], none⟩, ⟨(some 16), (.load 48 true), [(.t 15)], none⟩, ⟨(some 17), (.call 32), [(.t 16)], none⟩, ⟨(some 18), .not, [(.t 17)], none⟩]) (.cond (.t 18) (.seq (.reg [⟨(some 2), .mv, [(.c (.rv (.bool false)))], none⟩]) .ret) .skip)))) .ent) (.reg [⟨(some 19), (.ibin .add), [(.t 9), (.c (.rv (.int .i64 1)))], none⟩, ⟨(some 9), .mv, [(.t 19)], none⟩])))))) .ent)) (.seq (.reg [⟨(some 2), .mv, [(.c (.rv (.bool true)))], none⟩]) .ret))))
theorem k_decoupageref07_Formed : FnOK Go.Proofs.Try.prog 29 20 c_decoupageref07_Formed [(.t 2)] := fnOK_of (by kernel_rfl)

/- decoupage/decoupageref07.Deep -/
def c_decoupageref07_Deep : AC := (.seq (.reg [⟨(some 4), .mv, [(.c (.rv (.int .i64 0)))], none⟩]) (.seq (.reg [⟨(some 5), .mv, [(.c (.rv (.int .i64 0)))], none⟩]) (.seq (.seq (.block 0 (.loop (.seq (.seq (.reg [⟨(some 6), .mv, [(.t 1)], none⟩, ⟨(some 7), (.ibin .geq), [(.t 6), (.c (.rv (.int .i64 0)))], none⟩]) (.cond (.t 7) .skip (.exit 0))) (.seq (.block 1 (.seq (.reg [⟨(some 8), .mv, [(.t 5)], none⟩, ⟨(some 9), (.ibin .add), [(.t 8), (.c (.rv (.int .i64 1)))], none⟩, ⟨(some 5), .mv, [(.t 9)], none⟩]) (.reg [⟨(some 10), .mv, [(.t 0)], none⟩, ⟨(some 11), .mv, [(.t 1)], none⟩, ⟨(some 12), (.ixs 49), [(.t 10), (.t 11)], none⟩, ⟨(some 13), (.fld 48), [(.t 12)], none⟩, ⟨(some 14), (.load 1 false), [(.t 13)], none⟩, ⟨(some 1), .mv, [(.t 14)], none⟩]))) .ent)))) .ent) (.seq (.reg [⟨(some 15), .mv, [(.t 5)], none⟩, ⟨(some 4), .mv, [(.t 15)], none⟩]) .ret))))
theorem k_decoupageref07_Deep : FnOK Go.Proofs.Try.prog 45 16 c_decoupageref07_Deep [(.t 4)] := fnOK_of (by kernel_rfl)

/- decoupage/decoupageref07.Check -/
def c_decoupageref07_Check : AC := (.seq (.reg [⟨(some 2), .mv, [(.c (.rv (.int .i64 0)))], none⟩]) (.seq (.seq (.reg [⟨(some 4), .mv, [(.t 0)], none⟩, ⟨(some 5), (.call 29), [(.t 4)], none⟩, ⟨(some 6), .not, [(.t 5)], none⟩]) (.cond (.t 6) (.seq (.reg [⟨(some 2), .mv, [(.c (.rv (.int .i64 2)))], none⟩]) .ret) .skip)) (.seq (.seq (.reg [⟨(some 7), .mv, [(.t 0)], none⟩, ⟨(some 8), .len, [(.t 7)], none⟩, ⟨(some 9), .mv, [(.c (.rv (.int .i64 0)))], none⟩]) (.seq (.block 0 (.loop (.seq (.reg [⟨(some 10), (.ibin .lss), [(.t 9), (.t 8)], none⟩]) (.seq (.cond (.t 10) .skip (.exit 0)) (.seq (.seq (.block 1 (.seq (.reg [⟨(some 11), .mv, [(.t 9)], none⟩, ⟨(some 3), .mv, [(.t 11)], none⟩]) (.seq (.reg [⟨(some 12), .mv, [(.t 0)], none⟩, ⟨(some 13), .mv, [(.t 3)], none⟩, ⟨(some 14), (.ixs 49), [(.t 12), (.t 13)], none⟩, ⟨(some 15), (.fld 0), [(.t 14)], none⟩, ⟨(some 16), (.load 48 true), [(.t 15)], none⟩, ⟨(some 17), (.call 33), [(.t 16)], none⟩, ⟨(some 18), .not, [(.t 17)], none⟩, ⟨(some 19), .mv, [(.t 18)], none⟩, ⟨(some 20), .mv, [(.t 0)], (some (19, false))⟩, ⟨(some 21), .mv, [(.t 3)], (some (19, false))⟩, ⟨(some 22), (.call 45), [(.t 20), (.t 21)], (some (19, false))⟩, ⟨(some 23), (.ibin .gtr), [(.t 22), (.c (.rv (.int .i64 256)))], (some (19, false))⟩, ⟨(some 24), .pick, [(.t 19), (.c (.rv (.bool true))), (.t 23)], none⟩]) (.cond (.t 24) (.seq (.reg [⟨(some 2), .mv, [(.c (.rv (.int .i64 3)))], none⟩]) .ret) .skip)))) .ent) (.reg [⟨(some 25), (.ibin .add), [(.t 9), (.c (.rv (.int .i64 1)))], none⟩, ⟨(some 9), .mv, [(.t 25)], none⟩])))))) .ent)) (.seq (.seq (.reg [⟨(some 26), .mv, [(.t 0)], none⟩, ⟨(some 27), .len, [(.t 26)], none⟩, ⟨(some 28), (.ibin .gtr), [(.t 27), (.c (.rv (.int .i64 65535)))], none⟩]) (.cond (.t 28) (.seq (.reg [⟨(some 2), .mv, [(.c (.rv (.int .i64 3)))], none⟩]) .ret) .skip)) (.seq (.reg [⟨(some 2), .mv, [(.c (.rv (.int .i64 0)))], none⟩]) .ret)))))
theorem k_decoupageref07_Check : FnOK Go.Proofs.Try.prog 16 29 c_decoupageref07_Check [(.t 2)] := fnOK_of (by kernel_rfl)


/-- Is a on the way up from n? -/
def aboveS (l : List Nd) (a : Int) (n : Nat) : Bool := (pth l n).any fun (j : Nat) => decide ((j : Int) = a)
theorem above_at {l : List Nd} {a : Int} {n i : Nat} (h : i < (pth l n).length) (hp : (((pth l n)[i]'h : Nat) : Int) = a) : aboveS l a n = true := by
  unfold aboveS; rw [List.any_eq_true]; exact ⟨_, List.getElem_mem h, by simpa using hp⟩
theorem above_no {l : List Nd} {a : Int} {n : Nat} (hn : ∀ j, (h : j < (pth l n).length) → (((pth l n)[j]'h : Nat) : Int) ≠ a) : aboveS l a n = false := by
  unfold aboveS; rw [List.any_eq_false]
  intro x hx
  obtain ⟨j, hj, rfl⟩ := List.getElem_of_mem hx
  simpa using hn j hj

theorem sp_ref07_Above (l : List Nd) (a : Int) (n : Nat) (hw : WF l (n + 1)) (hn : n < l.length) (hb : l.length ≤ 8589934592) :
    CallR Go.Proofs.Try.prog 89 [.rv (.sl 49 (ndL l)), .rv (.int .i64 a), .rv (.int .i64 n)] [] [] (.rv (.bool (aboveS l a n))) := by
  refine callR_G k_decoupageref07_Above [.rv (.sl 49 (ndL l)), .rv (.int .i64 a), .rv (.int .i64 n)] _ (by simp) (by simp [BkAll, bk_agg, bkAll_map, bk_rv, bk_fn, Sty.sv, Ln.sv, Nd.sv]) (fun K hK => ?_)
  have hlen := ndL_len l
  simp -implicitDefEqProofs only [c_decoupageref07_Above, go_sem, ↓reduceIte, Nat.reduceEqDiff, Nat.reduceAdd, Nat.reduceSub, Nat.reduceMul, Nat.reduceLeDiff, Nat.reduceLT, reduceCtorEq, Int.reduceToNat]
  refine g_loop (ι := Nat) (fun i => [(2, .rv (.int .i64 (atI (pth l n) i))), (0, .rv (.sl 49 (ndL l))), (1, .rv (.int .i64 a))]) (fun _ => []) (fun i => i ≤ (pth l n).length ∧ ∀ j, (h : j < (pth l n).length) → j < i → (((pth l n)[j]'h : Nat) : Int) ≠ a) (fun i => (pth l n).length - i) 0 (by simp) (by rw [atI_zero]; exact ent_env (by simp [lk])) (fun i hi K' hN hX hR => ?_)
  obtain ⟨hi1, hi2⟩ := hi
  have hpl := pth_len (l := l) n
  simp -implicitDefEqProofs only [go_sem, ↓reduceIte, Nat.reduceEqDiff, Nat.reduceAdd, Nat.reduceSub, Nat.reduceMul, Nat.reduceLeDiff, Nat.reduceLT, reduceCtorEq, Int.reduceToNat]
  refine cdS (fun hg => ?_) (fun hg => ?_)
  · have hil : i < (pth l n).length := atI_iff.1 (by simpa using hg)
    have hat := atI_lt hil
    have hlt : (pth l n)[i] < n + 1 := pth_lt (by omega) hil
    have hx := ndL_get (l := l) (i := (pth l n)[i]) (by omega)
    have hpar := parL_eq (l := l) (n := (pth l n)[i]) (by omega)
    have hnx := par_at hw n (by omega) i hil
    repeat' (first | (simp -implicitDefEqProofs only [go_sem, ↓reduceIte, Nat.reduceEqDiff, Nat.reduceAdd, Nat.reduceSub, Nat.reduceMul, Nat.reduceLeDiff, Nat.reduceLT, reduceCtorEq, Int.reduceToNat, hlen, nd_len, nd_drop0, hat, hx, hpar, hnx]) | (with_reducible refine g_noent ?_) | (refine cdS (fun hg => ?_) (fun hg => ?_) <;> try simp -implicitDefEqProofs only [hg, Bool.not_true, Bool.not_false]) | (refine gdS (fun hg => ?_) (fun hg => ?_) <;> try simp -implicitDefEqProofs only [hg, Bool.not_true, Bool.not_false]) | (refine gddS (fun hg => ?_) (fun hg => ?_) <;> try simp -implicitDefEqProofs only [hg, Bool.not_true, Bool.not_false]) | ((with_reducible apply And.intro); focus (first | trivial | omega | decide | (simp -implicitDefEqProofs only [maxLen]; omega) | (simp [maxLen, sty_len, nd_len, ndL_len, lnL_len, intsL_len, rvs_len, lensS_len]; done) | (simp [maxLen, sty_len, nd_len, ndL_len, lnL_len, intsL_len, rvs_len, lensS_len]; omega))) | fail)
    · exact hR _ _ (hK _ _ (ret_t (by rw [above_at hil (by simpa using hg)]; rfl))).2
    · refine hN (i + 1) _ _ ⟨by omega, fun j hj hji => ?_⟩ (by omega) (ent_env (by simp [lk]))
      rcases Nat.lt_or_ge j i with h | h
      · exact hi2 j hj h
      · obtain rfl : j = i := by omega
        simpa using hg
  · have hil : ¬ i < (pth l n).length := fun h => by have := atI_iff.2 h; simp at hg; omega
    simp -implicitDefEqProofs only [go_sem, ↓reduceIte, Nat.reduceEqDiff, Nat.reduceAdd, Nat.reduceSub, Nat.reduceMul, Nat.reduceLeDiff, Nat.reduceLT, reduceCtorEq, Int.reduceToNat]
    refine hX _ _ _ ?_
    repeat' (first | (simp -implicitDefEqProofs only [go_sem, ↓reduceIte, Nat.reduceEqDiff, Nat.reduceAdd, Nat.reduceSub, Nat.reduceMul, Nat.reduceLeDiff, Nat.reduceLT, reduceCtorEq, Int.reduceToNat]) | (with_reducible refine g_noent ?_) | (refine cdS (fun hg => ?_) (fun hg => ?_) <;> try simp -implicitDefEqProofs only [hg, Bool.not_true, Bool.not_false]) | (refine gdS (fun hg => ?_) (fun hg => ?_) <;> try simp -implicitDefEqProofs only [hg, Bool.not_true, Bool.not_false]) | (refine gddS (fun hg => ?_) (fun hg => ?_) <;> try simp -implicitDefEqProofs only [hg, Bool.not_true, Bool.not_false]) | ((with_reducible apply And.intro); focus (first | trivial | omega | decide | (simp -implicitDefEqProofs only [maxLen]; omega) | (simp [maxLen, sty_len, nd_len, ndL_len, lnL_len, intsL_len, rvs_len, lensS_len]; done) | (simp [maxLen, sty_len, nd_len, ndL_len, lnL_len, intsL_len, rvs_len, lensS_len]; omega))) | fail)
    exact (hK _ _ (ret_t (by rw [above_no fun j hj => hi2 j hj (by omega)]; rfl))).2

theorem nodeOK_above {l : List Nd} {k : Nat} (hk : 0 < k) : nodeOK l k = (!(decide (parL l k < 0) || decide (parL l k ≥ k) || !aboveS l (parL l k) (k - 1))) := by
  have h1 : nodeOK l k = aboveS l (parL l k) (k - 1) := by
    have : decide (k = 0) = false := decide_eq_false (by omega)
    simp -implicitDefEqProofs only [nodeOK, this, Bool.false_or, upIx, aboveS, List.findIdx?_isSome]
  rw [h1]
  cases h : aboveS l (parL l k) (k - 1) with
  | false => simp
  | true =>
    rw [← h1] at h
    have hk0 : ¬ k = 0 := by omega
    simp [nodeOK, hk0] at h
    obtain ⟨a, b, _⟩ := upIx_some h
    simp; omega

theorem sp_ref07_Shaped (l : List Nd) (hb : l.length ≤ 8589934592) : CallR Go.Proofs.Try.prog 66 [.rv (.sl 49 (ndL l))] [] [] (.rv (.bool (shapeOK l))) := by
  refine callR_G k_decoupageref07_Shaped [.rv (.sl 49 (ndL l))] _ (by simp) (by simp [BkAll, bk_agg, bkAll_map, bk_rv, bk_fn, Sty.sv, Ln.sv, Nd.sv]) (fun K hK => ?_)
  have bad : ∀ e h, lk e 2 = .rv (.bool false) → shapeOK l = false → K .ret ⟨e, h⟩ := fun e h l2 hf => (hK _ _ (ret_t (by rw [l2, hf]))).2
  have hlen := ndL_len l
  simp -implicitDefEqProofs only [c_decoupageref07_Shaped, hlen, go_sem, ↓reduceIte, Nat.reduceEqDiff, Nat.reduceAdd, Nat.reduceSub, Nat.reduceMul, Nat.reduceLeDiff, Nat.reduceLT, reduceCtorEq, Int.reduceToNat]
  by_cases hl0 : l.length = 0
  · have e0 : (((l.length : Nat) : Int) == 0) = true := by simp [hl0]
    repeat' (first | (simp -implicitDefEqProofs only [go_sem, ↓reduceIte, Nat.reduceEqDiff, Nat.reduceAdd, Nat.reduceSub, Nat.reduceMul, Nat.reduceLeDiff, Nat.reduceLT, reduceCtorEq, Int.reduceToNat, e0, hlen]) | (with_reducible refine g_noent ?_) | (refine cdS (fun hg => ?_) (fun hg => ?_) <;> try simp -implicitDefEqProofs only [hg, Bool.not_true, Bool.not_false]) | (refine gdS (fun hg => ?_) (fun hg => ?_) <;> try simp -implicitDefEqProofs only [hg, Bool.not_true, Bool.not_false]) | (refine gddS (fun hg => ?_) (fun hg => ?_) <;> try simp -implicitDefEqProofs only [hg, Bool.not_true, Bool.not_false]) | ((with_reducible apply And.intro); focus (first | trivial | omega | decide | (simp -implicitDefEqProofs only [maxLen]; omega) | (simp [maxLen, sty_len, nd_len, ndL_len, lnL_len, intsL_len, rvs_len, lensS_len]; done) | (simp [maxLen, sty_len, nd_len, ndL_len, lnL_len, intsL_len, rvs_len, lensS_len]; omega))) | fail)
    exact bad _ _ rfl (by simp [shapeOK, hl0])
  · have e0 : (((l.length : Nat) : Int) == 0) = false := by simp [hl0]
    have hx0 := ndL_get (l := l) (i := 0) (by omega)
    have hp0 := parL_eq (l := l) (n := 0) (by omega)
    repeat' (first | (simp -implicitDefEqProofs only [go_sem, ↓reduceIte, Nat.reduceEqDiff, Nat.reduceAdd, Nat.reduceSub, Nat.reduceMul, Nat.reduceLeDiff, Nat.reduceLT, reduceCtorEq, Int.reduceToNat, e0, hlen, hx0, nd_len, nd_drop0, hp0]) | (with_reducible refine g_noent ?_) | (refine cdS (fun hg => ?_) (fun hg => ?_) <;> try simp -implicitDefEqProofs only [hg, Bool.not_true, Bool.not_false]) | (refine gdS (fun hg => ?_) (fun hg => ?_) <;> try simp -implicitDefEqProofs only [hg, Bool.not_true, Bool.not_false]) | (refine gddS (fun hg => ?_) (fun hg => ?_) <;> try simp -implicitDefEqProofs only [hg, Bool.not_true, Bool.not_false]) | ((with_reducible apply And.intro); focus (first | trivial | omega | decide | (simp -implicitDefEqProofs only [maxLen]; omega) | (simp [maxLen, sty_len, nd_len, ndL_len, lnL_len, intsL_len, rvs_len, lensS_len]; done) | (simp [maxLen, sty_len, nd_len, ndL_len, lnL_len, intsL_len, rvs_len, lensS_len]; omega))) | fail)
    · exact bad _ _ rfl (by simp [shapeOK]; intro _ h; simp at hg; exact absurd h hg)
    · have hroot : parL l 0 = -1 := by simpa using hg
      refine g_loop (ι := Nat) (fun k => [(3, .rv (.int .i64 k)), (0, .rv (.sl 49 (ndL l)))]) (fun _ => []) (fun k => 0 < k ∧ k ≤ l.length ∧ (∀ j, j < k → nodeOK l j = true)) (fun k => l.length - k) 1 ⟨by omega, by omega, fun j hj => by simp [nodeOK]; omega⟩ (ent_env (by simp [lk])) (fun k hk K' hN hX hR => ?_)
      obtain ⟨hk0, hk1, hk2⟩ := hk
      have hw := wf_of hroot hk2
      simp -implicitDefEqProofs only [hlen, go_sem, ↓reduceIte, Nat.reduceEqDiff, Nat.reduceAdd, Nat.reduceSub, Nat.reduceMul, Nat.reduceLeDiff, Nat.reduceLT, reduceCtorEq, Int.reduceToNat]
      refine cdS (fun hg => ?_) (fun hg => ?_)
      · have hk4 : k < l.length := by simp at hg; omega
        have hx := ndL_get hk4
        have hpk := parL_eq hk4
        have wd := wrap_dn hk0 (by omega)
        have wu := wrap_up (k := k) (by omega)
        have hnode := nodeOK_above (l := l) hk0
        have bad1 : nodeOK l k = false → shapeOK l = false := fun h => by
          rw [Bool.eq_false_iff]
          intro ht
          simp -implicitDefEqProofs only [shapeOK, Bool.and_eq_true, List.all_eq_true, List.mem_range] at ht
          have := ht.2 k hk4
          rw [h] at this; cases this
        have nx : ∀ e h, nodeOK l k = true → Ent 0 ⟨e, h⟩ ⟨[(3, .rv (.int .i64 (k + 1 : Nat))), (0, .rv (.sl 49 (ndL l)))], []⟩ → K' .normal ⟨e, h⟩ := fun e h h1 he => hN (k + 1) _ _ ⟨by omega, by omega, fun j hj => by
            rcases Nat.lt_or_ge j k with h | h
            · exact hk2 j h
            · obtain rfl : j = k := by omega
              exact h1⟩ (by omega) he
        have hwk : WF l (k - 1 + 1) := by rw [show k - 1 + 1 = k by omega]; exact hw
        have hcall1 := sp_ref07_Above l (parL l k) (k - 1) hwk (by omega) hb; repeat' (first | (simp -implicitDefEqProofs only [go_sem, ↓reduceIte, Nat.reduceEqDiff, Nat.reduceAdd, Nat.reduceSub, Nat.reduceMul, Nat.reduceLeDiff, Nat.reduceLT, reduceCtorEq, Int.reduceToNat, hlen, hx, hpk, nd_len, nd_drop0, wd, wu]) | (with_reducible refine g_noent ?_) | (with_reducible refine g_call0 hcall1 ?_) | (with_reducible refine g_calld0 hcall1 ?_) | (refine cdS (fun hg => ?_) (fun hg => ?_) <;> try simp -implicitDefEqProofs only [hg, Bool.not_true, Bool.not_false]) | (refine gdS (fun hg => ?_) (fun hg => ?_) <;> try simp -implicitDefEqProofs only [hg, Bool.not_true, Bool.not_false]) | (refine gddS (fun hg => ?_) (fun hg => ?_) <;> try simp -implicitDefEqProofs only [hg, Bool.not_true, Bool.not_false]) | ((with_reducible apply And.intro); focus (first | trivial | omega | decide | (simp -implicitDefEqProofs only [maxLen]; omega) | (simp [maxLen, sty_len, nd_len, ndL_len, lnL_len, intsL_len, rvs_len, lensS_len]; done) | (simp [maxLen, sty_len, nd_len, ndL_len, lnL_len, intsL_len, rvs_len, lensS_len]; omega))) | fail)
        all_goals first
          | (refine hR _ _ (bad _ _ rfl (bad1 ?_)); rw [hnode]; clear hnode bad1 nx hK hN hX hR bad; simp_all; done)
          | (refine nx _ _ ?_ (ent_env (by simp [lk])); rw [hnode]; clear hnode bad1 nx hK hN hX hR bad; (simp_all) <;> omega)
      · have hk4 : k = l.length := by simp at hg; omega
        subst hk4
        simp -implicitDefEqProofs only [go_sem, ↓reduceIte, Nat.reduceEqDiff, Nat.reduceAdd, Nat.reduceSub, Nat.reduceMul, Nat.reduceLeDiff, Nat.reduceLT, reduceCtorEq, Int.reduceToNat]
        refine hX _ _ _ ?_
        repeat' (first | (simp -implicitDefEqProofs only [go_sem, ↓reduceIte, Nat.reduceEqDiff, Nat.reduceAdd, Nat.reduceSub, Nat.reduceMul, Nat.reduceLeDiff, Nat.reduceLT, reduceCtorEq, Int.reduceToNat]) | (with_reducible refine g_noent ?_) | (refine cdS (fun hg => ?_) (fun hg => ?_) <;> try simp -implicitDefEqProofs only [hg, Bool.not_true, Bool.not_false]) | (refine gdS (fun hg => ?_) (fun hg => ?_) <;> try simp -implicitDefEqProofs only [hg, Bool.not_true, Bool.not_false]) | (refine gddS (fun hg => ?_) (fun hg => ?_) <;> try simp -implicitDefEqProofs only [hg, Bool.not_true, Bool.not_false]) | ((with_reducible apply And.intro); focus (first | trivial | omega | decide | (simp -implicitDefEqProofs only [maxLen]; omega) | (simp [maxLen, sty_len, nd_len, ndL_len, lnL_len, intsL_len, rvs_len, lensS_len]; done) | (simp [maxLen, sty_len, nd_len, ndL_len, lnL_len, intsL_len, rvs_len, lensS_len]; omega))) | fail)
        refine (hK _ _ (ret_t ?_)).2
        have hs : shapeOK l = true := by
          simp -implicitDefEqProofs only [shapeOK, Bool.and_eq_true, decide_eq_true_eq, List.all_eq_true, List.mem_range]
          exact ⟨⟨by omega, hroot⟩, hk2⟩
        rw [hs]; rfl

theorem sp_ref07_Formed (l : List Nd) (hb : l.length ≤ 8589934592) : CallR Go.Proofs.Try.prog 29 [.rv (.sl 49 (ndL l))] [] [] (.rv (.bool (treeOK l))) := by
  refine callR_G k_decoupageref07_Formed [.rv (.sl 49 (ndL l))] _ (by simp) (by simp [BkAll, bk_agg, bkAll_map, bk_rv, bk_fn, Sty.sv, Ln.sv, Nd.sv]) (fun K hK => ?_)
  have bad : ∀ e h, lk e 2 = .rv (.bool false) → treeOK l = false → K .ret ⟨e, h⟩ := fun e h l2 hf => (hK _ _ (ret_t (by rw [l2, hf]))).2
  have hlen := ndL_len l
  simp -implicitDefEqProofs only [c_decoupageref07_Formed, go_sem, ↓reduceIte, Nat.reduceEqDiff, Nat.reduceAdd, Nat.reduceSub, Nat.reduceMul, Nat.reduceLeDiff, Nat.reduceLT, reduceCtorEq, Int.reduceToNat]
  have hcall2 := sp_ref07_Shaped l hb; repeat' (first | (simp -implicitDefEqProofs only [go_sem, ↓reduceIte, Nat.reduceEqDiff, Nat.reduceAdd, Nat.reduceSub, Nat.reduceMul, Nat.reduceLeDiff, Nat.reduceLT, reduceCtorEq, Int.reduceToNat]) | (with_reducible refine g_noent ?_) | (with_reducible refine g_call0 hcall2 ?_) | (with_reducible refine g_calld0 hcall2 ?_) | (refine cdS (fun hg => ?_) (fun hg => ?_) <;> try simp -implicitDefEqProofs only [hg, Bool.not_true, Bool.not_false]) | (refine gdS (fun hg => ?_) (fun hg => ?_) <;> try simp -implicitDefEqProofs only [hg, Bool.not_true, Bool.not_false]) | (refine gddS (fun hg => ?_) (fun hg => ?_) <;> try simp -implicitDefEqProofs only [hg, Bool.not_true, Bool.not_false]) | ((with_reducible apply And.intro); focus (first | trivial | omega | decide | (simp -implicitDefEqProofs only [maxLen]; omega) | (simp [maxLen, sty_len, nd_len, ndL_len, lnL_len, intsL_len, rvs_len, lensS_len]; done) | (simp [maxLen, sty_len, nd_len, ndL_len, lnL_len, intsL_len, rvs_len, lensS_len]; omega))) | fail)
  · exact bad _ _ rfl (by simp at hg; simp [treeOK, hg])
  · have hs : shapeOK l = true := by simpa using hg
    simp -implicitDefEqProofs only [hlen, go_sem, ↓reduceIte, Nat.reduceEqDiff, Nat.reduceAdd, Nat.reduceSub, Nat.reduceMul, Nat.reduceLeDiff, Nat.reduceLT, reduceCtorEq, Int.reduceToNat]
    refine g_loop (ι := Nat) (fun k => [(9, .rv (.int .i64 k)), (8, .rv (.int .i64 l.length)), (0, .rv (.sl 49 (ndL l)))]) (fun _ => []) (fun k => k ≤ l.length ∧ ((l.drop k).all fun x => styOK x.s) = l.all fun x => styOK x.s) (fun k => l.length - k) 0 (by simp) (ent_env (by simp [lk])) (fun k hk K' hN hX hR => ?_)
    obtain ⟨hk1, hk3⟩ := hk
    simp -implicitDefEqProofs only [go_sem, ↓reduceIte, Nat.reduceEqDiff, Nat.reduceAdd, Nat.reduceSub, Nat.reduceMul, Nat.reduceLeDiff, Nat.reduceLT, reduceCtorEq, Int.reduceToNat]
    refine cdS (fun hg => ?_) (fun hg => ?_)
    · have hk4 : k < l.length := by simp at hg; omega
      have hx := ndL_get hk4
      have wu := wrap_up (k := k) (by omega)
      have hcall3 := sp_ref06_Formed (l[k]'hk4).s; repeat' (first | (simp -implicitDefEqProofs only [go_sem, ↓reduceIte, Nat.reduceEqDiff, Nat.reduceAdd, Nat.reduceSub, Nat.reduceMul, Nat.reduceLeDiff, Nat.reduceLT, reduceCtorEq, Int.reduceToNat, hlen, hx, nd_len, nd_drop0, nd_st, wu]) | (with_reducible refine g_noent ?_) | (with_reducible refine g_call0 hcall3 ?_) | (with_reducible refine g_calld0 hcall3 ?_) | (refine cdS (fun hg => ?_) (fun hg => ?_) <;> try simp -implicitDefEqProofs only [hg, Bool.not_true, Bool.not_false]) | (refine gdS (fun hg => ?_) (fun hg => ?_) <;> try simp -implicitDefEqProofs only [hg, Bool.not_true, Bool.not_false]) | (refine gddS (fun hg => ?_) (fun hg => ?_) <;> try simp -implicitDefEqProofs only [hg, Bool.not_true, Bool.not_false]) | ((with_reducible apply And.intro); focus (first | trivial | omega | decide | (simp -implicitDefEqProofs only [maxLen]; omega) | (simp [maxLen, sty_len, nd_len, ndL_len, lnL_len, intsL_len, rvs_len, lensS_len]; done) | (simp [maxLen, sty_len, nd_len, ndL_len, lnL_len, intsL_len, rvs_len, lensS_len]; omega))) | fail)
      · refine hR _ _ (bad _ _ rfl ?_)
        have : (l.all fun x => styOK x.s) = false := all_fail hk4 hk3 (by simpa using hg)
        simp -implicitDefEqProofs only [treeOK, this, Bool.and_false]
      · exact hN (k + 1) _ _ ⟨by omega, all_next hk4 hk3 (by simpa using hg)⟩ (by omega) (ent_env (by simp [lk]))
    · have hk4 : k = l.length := by simp at hg; omega
      subst hk4
      have hall := all_done (Nat.le_refl _) hk3
      simp -implicitDefEqProofs only [go_sem, ↓reduceIte, Nat.reduceEqDiff, Nat.reduceAdd, Nat.reduceSub, Nat.reduceMul, Nat.reduceLeDiff, Nat.reduceLT, reduceCtorEq, Int.reduceToNat]
      refine hX _ _ _ ?_
      repeat' (first | (simp -implicitDefEqProofs only [go_sem, ↓reduceIte, Nat.reduceEqDiff, Nat.reduceAdd, Nat.reduceSub, Nat.reduceMul, Nat.reduceLeDiff, Nat.reduceLT, reduceCtorEq, Int.reduceToNat]) | (with_reducible refine g_noent ?_) | (refine cdS (fun hg => ?_) (fun hg => ?_) <;> try simp -implicitDefEqProofs only [hg, Bool.not_true, Bool.not_false]) | (refine gdS (fun hg => ?_) (fun hg => ?_) <;> try simp -implicitDefEqProofs only [hg, Bool.not_true, Bool.not_false]) | (refine gddS (fun hg => ?_) (fun hg => ?_) <;> try simp -implicitDefEqProofs only [hg, Bool.not_true, Bool.not_false]) | ((with_reducible apply And.intro); focus (first | trivial | omega | decide | (simp -implicitDefEqProofs only [maxLen]; omega) | (simp [maxLen, sty_len, nd_len, ndL_len, lnL_len, intsL_len, rvs_len, lensS_len]; done) | (simp [maxLen, sty_len, nd_len, ndL_len, lnL_len, intsL_len, rvs_len, lensS_len]; omega))) | fail)
      exact (hK _ _ (ret_t (by rw [treeOK, hs, hall]; rfl))).2

theorem sp_ref07_Deep (l : List Nd) (n : Nat) (hw : WF l (n + 1)) (hn : n < l.length) (hb : l.length ≤ 8589934592) :
    CallR Go.Proofs.Try.prog 45 [.rv (.sl 49 (ndL l)), .rv (.int .i64 n)] [] [] (.rv (.int .i64 (depth l n))) := by
  refine callR_G k_decoupageref07_Deep [.rv (.sl 49 (ndL l)), .rv (.int .i64 n)] _ (by simp) (by simp [BkAll, bk_agg, bkAll_map, bk_rv, bk_fn, Sty.sv, Ln.sv, Nd.sv]) (fun K hK => ?_)
  have hlen := ndL_len l
  simp -implicitDefEqProofs only [c_decoupageref07_Deep, go_sem, ↓reduceIte, Nat.reduceEqDiff, Nat.reduceAdd, Nat.reduceSub, Nat.reduceMul, Nat.reduceLeDiff, Nat.reduceLT, reduceCtorEq, Int.reduceToNat]
  refine g_loop (ι := Nat) (fun i => [(1, .rv (.int .i64 (atI (pth l n) i))), (0, .rv (.sl 49 (ndL l))), (5, .rv (.int .i64 i))]) (fun _ => []) (fun i => i ≤ (pth l n).length) (fun i => (pth l n).length - i) 0 (by simp) (by rw [atI_zero]; exact ent_env (by simp [lk])) (fun i hi1 K' hN hX hR => ?_)
  have hpl := pth_len (l := l) n
  simp -implicitDefEqProofs only [go_sem, ↓reduceIte, Nat.reduceEqDiff, Nat.reduceAdd, Nat.reduceSub, Nat.reduceMul, Nat.reduceLeDiff, Nat.reduceLT, reduceCtorEq, Int.reduceToNat]
  refine cdS (fun hg => ?_) (fun hg => ?_)
  · have hil : i < (pth l n).length := atI_iff.1 (by simpa using hg)
    have hat := atI_lt hil
    have hlt : (pth l n)[i] < n + 1 := pth_lt (by omega) hil
    have hx := ndL_get (l := l) (i := (pth l n)[i]) (by omega)
    have hpar := parL_eq (l := l) (n := (pth l n)[i]) (by omega)
    have hnx := par_at hw n (by omega) i hil
    have wu := wrap_up (k := i) (by omega)
    repeat' (first | (simp -implicitDefEqProofs only [go_sem, ↓reduceIte, Nat.reduceEqDiff, Nat.reduceAdd, Nat.reduceSub, Nat.reduceMul, Nat.reduceLeDiff, Nat.reduceLT, reduceCtorEq, Int.reduceToNat, hlen, nd_len, nd_drop0, hat, hx, hpar, hnx, wu]) | (with_reducible refine g_noent ?_) | (refine cdS (fun hg => ?_) (fun hg => ?_) <;> try simp -implicitDefEqProofs only [hg, Bool.not_true, Bool.not_false]) | (refine gdS (fun hg => ?_) (fun hg => ?_) <;> try simp -implicitDefEqProofs only [hg, Bool.not_true, Bool.not_false]) | (refine gddS (fun hg => ?_) (fun hg => ?_) <;> try simp -implicitDefEqProofs only [hg, Bool.not_true, Bool.not_false]) | ((with_reducible apply And.intro); focus (first | trivial | omega | decide | (simp -implicitDefEqProofs only [maxLen]; omega) | (simp [maxLen, sty_len, nd_len, ndL_len, lnL_len, intsL_len, rvs_len, lensS_len]; done) | (simp [maxLen, sty_len, nd_len, ndL_len, lnL_len, intsL_len, rvs_len, lensS_len]; omega))) | fail)
    exact hN (i + 1) _ _ (by omega) (by omega) (ent_env (by simp [lk]))
  · have hil : ¬ i < (pth l n).length := fun h => by have := atI_iff.2 h; simp at hg; omega
    have : i = (pth l n).length := by omega
    subst this
    simp -implicitDefEqProofs only [go_sem, ↓reduceIte, Nat.reduceEqDiff, Nat.reduceAdd, Nat.reduceSub, Nat.reduceMul, Nat.reduceLeDiff, Nat.reduceLT, reduceCtorEq, Int.reduceToNat]
    refine hX _ _ _ ?_
    repeat' (first | (simp -implicitDefEqProofs only [go_sem, ↓reduceIte, Nat.reduceEqDiff, Nat.reduceAdd, Nat.reduceSub, Nat.reduceMul, Nat.reduceLeDiff, Nat.reduceLT, reduceCtorEq, Int.reduceToNat]) | (with_reducible refine g_noent ?_) | (refine cdS (fun hg => ?_) (fun hg => ?_) <;> try simp -implicitDefEqProofs only [hg, Bool.not_true, Bool.not_false]) | (refine gdS (fun hg => ?_) (fun hg => ?_) <;> try simp -implicitDefEqProofs only [hg, Bool.not_true, Bool.not_false]) | (refine gddS (fun hg => ?_) (fun hg => ?_) <;> try simp -implicitDefEqProofs only [hg, Bool.not_true, Bool.not_false]) | ((with_reducible apply And.intro); focus (first | trivial | omega | decide | (simp -implicitDefEqProofs only [maxLen]; omega) | (simp [maxLen, sty_len, nd_len, ndL_len, lnL_len, intsL_len, rvs_len, lensS_len]; done) | (simp [maxLen, sty_len, nd_len, ndL_len, lnL_len, intsL_len, rvs_len, lensS_len]; omega))) | fail)
    exact (hK _ _ (ret_t rfl)).2

theorem sp_ref07_Check (l : List Nd) (hb : l.length ≤ 8589934592) : CallR Go.Proofs.Try.prog 16 [.rv (.sl 49 (ndL l))] [] [] (.rv (.int .i64 (chk l))) := by
  refine callR_G k_decoupageref07_Check [.rv (.sl 49 (ndL l))] _ (by simp) (by simp [BkAll, bk_agg, bkAll_map, bk_rv, bk_fn, Sty.sv, Ln.sv, Nd.sv]) (fun K hK => ?_)
  have hlen := ndL_len l
  simp -implicitDefEqProofs only [c_decoupageref07_Check, go_sem, ↓reduceIte, Nat.reduceEqDiff, Nat.reduceAdd, Nat.reduceSub, Nat.reduceMul, Nat.reduceLeDiff, Nat.reduceLT, reduceCtorEq, Int.reduceToNat]
  have hcall4 := sp_ref07_Formed l hb; repeat' (first | (simp -implicitDefEqProofs only [go_sem, ↓reduceIte, Nat.reduceEqDiff, Nat.reduceAdd, Nat.reduceSub, Nat.reduceMul, Nat.reduceLeDiff, Nat.reduceLT, reduceCtorEq, Int.reduceToNat]) | (with_reducible refine g_noent ?_) | (with_reducible refine g_call0 hcall4 ?_) | (with_reducible refine g_calld0 hcall4 ?_) | (refine cdS (fun hg => ?_) (fun hg => ?_) <;> try simp -implicitDefEqProofs only [hg, Bool.not_true, Bool.not_false]) | (refine gdS (fun hg => ?_) (fun hg => ?_) <;> try simp -implicitDefEqProofs only [hg, Bool.not_true, Bool.not_false]) | (refine gddS (fun hg => ?_) (fun hg => ?_) <;> try simp -implicitDefEqProofs only [hg, Bool.not_true, Bool.not_false]) | ((with_reducible apply And.intro); focus (first | trivial | omega | decide | (simp -implicitDefEqProofs only [maxLen]; omega) | (simp [maxLen, sty_len, nd_len, ndL_len, lnL_len, intsL_len, rvs_len, lensS_len]; done) | (simp [maxLen, sty_len, nd_len, ndL_len, lnL_len, intsL_len, rvs_len, lensS_len]; omega))) | fail)
  · exact (hK _ _ (ret_t (by simp at hg; simp [chk, hg, lk]))).2
  · have ht : treeOK l = true := by simpa using hg
    have hs : Shp l := shape_iff.1 (by unfold treeOK at ht; simp -implicitDefEqProofs only [Bool.and_eq_true] at ht; exact ht.1)
    simp -implicitDefEqProofs only [hlen, go_sem, ↓reduceIte, Nat.reduceEqDiff, Nat.reduceAdd, Nat.reduceSub, Nat.reduceMul, Nat.reduceLeDiff, Nat.reduceLT, reduceCtorEq, Int.reduceToNat]
    refine g_loop (ι := Nat) (fun k => [(9, .rv (.int .i64 k)), (8, .rv (.int .i64 l.length)), (0, .rv (.sl 49 (ndL l)))]) (fun _ => []) (fun k => k ≤ l.length ∧ ∀ j, (h : j < l.length) → j < k → styIn (l[j]'h).s = true ∧ depth l j ≤ 256) (fun k => l.length - k) 0 (by simp) (ent_env (by simp [lk])) (fun k hk K' hN hX hR => ?_)
    obtain ⟨hk1, hk3⟩ := hk
    simp -implicitDefEqProofs only [go_sem, ↓reduceIte, Nat.reduceEqDiff, Nat.reduceAdd, Nat.reduceSub, Nat.reduceMul, Nat.reduceLeDiff, Nat.reduceLT, reduceCtorEq, Int.reduceToNat]
    refine cdS (fun hg => ?_) (fun hg => ?_)
    · have hk4 : k < l.length := by simp at hg; omega
      have hx := ndL_get hk4
      have wu := wrap_up (k := k) (by omega)
      have bad : ∀ e h, lk e 2 = .rv (.int .i64 3) → (styIn (l[k]'hk4).s = false ∨ depth l k > 256) → K' .ret ⟨e, h⟩ := fun e h l2 hf => hR _ _ (hK _ _ (ret_t (by
          rw [l2]; unfold chk
          rw [if_neg (by rw [ht]; simp), if_pos]
          simp -implicitDefEqProofs only [Bool.or_eq_true, List.any_eq_true, List.mem_range, decide_eq_true_eq, Bool.not_eq_true']
          rcases hf with h | h
          · exact .inr ⟨_, List.getElem_mem hk4, h⟩
          · exact .inl (.inr ⟨k, hk4, h⟩)))).2
      have nx : ∀ e h, styIn (l[k]'hk4).s = true → depth l k ≤ 256 → Ent 0 ⟨e, h⟩ ⟨[(9, .rv (.int .i64 (k + 1 : Nat))), (8, .rv (.int .i64 l.length)), (0, .rv (.sl 49 (ndL l)))], []⟩ → K' .normal ⟨e, h⟩ := fun e h h1 h2 he => hN (k + 1) _ _ ⟨by omega, fun j hj hji => by
          rcases Nat.lt_or_ge j k with h | h
          · exact hk3 j hj h
          · obtain rfl : j = k := by omega
            exact ⟨h1, h2⟩⟩ (by omega) he
      have hcall5 := sp_ref06_Within (l[k]'hk4).s; have hcall6 := sp_ref07_Deep l k (hs.wf.mono (by omega)) hk4 hb; repeat' (first | (simp -implicitDefEqProofs only [go_sem, ↓reduceIte, Nat.reduceEqDiff, Nat.reduceAdd, Nat.reduceSub, Nat.reduceMul, Nat.reduceLeDiff, Nat.reduceLT, reduceCtorEq, Int.reduceToNat, hlen, hx, nd_len, nd_drop0, nd_st, wu]) | (with_reducible refine g_noent ?_) | (with_reducible refine g_call0 hcall5 ?_) | (with_reducible refine g_calld0 hcall5 ?_) | (with_reducible refine g_call0 hcall6 ?_) | (with_reducible refine g_calld0 hcall6 ?_) | (refine cdS (fun hg => ?_) (fun hg => ?_) <;> try simp -implicitDefEqProofs only [hg, Bool.not_true, Bool.not_false]) | (refine gdS (fun hg => ?_) (fun hg => ?_) <;> try simp -implicitDefEqProofs only [hg, Bool.not_true, Bool.not_false]) | (refine gddS (fun hg => ?_) (fun hg => ?_) <;> try simp -implicitDefEqProofs only [hg, Bool.not_true, Bool.not_false]) | ((with_reducible apply And.intro); focus (first | trivial | omega | decide | (simp -implicitDefEqProofs only [maxLen]; omega) | (simp [maxLen, sty_len, nd_len, ndL_len, lnL_len, intsL_len, rvs_len, lensS_len]; done) | (simp [maxLen, sty_len, nd_len, ndL_len, lnL_len, intsL_len, rvs_len, lensS_len]; omega))) | fail)
      all_goals first
        | (refine bad _ _ rfl ?_; clear bad nx hK hN hX hR; (simp_all) <;> omega)
        | (refine nx _ _ ?_ ?_ (ent_env (by simp [lk])) <;> clear bad nx hK hN hX hR <;> (simp_all) <;> omega)
    · have hk4 : k = l.length := by simp at hg; omega
      subst hk4
      simp -implicitDefEqProofs only [go_sem, ↓reduceIte, Nat.reduceEqDiff, Nat.reduceAdd, Nat.reduceSub, Nat.reduceMul, Nat.reduceLeDiff, Nat.reduceLT, reduceCtorEq, Int.reduceToNat]
      refine hX _ _ _ ?_
      have hno : ((List.range l.length).any (fun k => decide (depth l k > 256)) || l.any fun x => !styIn x.s) = false := by
        rw [Bool.or_eq_false_iff, List.any_eq_false, List.any_eq_false]
        refine ⟨fun k hk => ?_, fun x hx => ?_⟩
        · have := (hk3 k (by simpa using hk) (by simpa using hk)).2; simp; omega
        · obtain ⟨j, hj, rfl⟩ := List.getElem_of_mem hx
          simp [(hk3 j hj hj).1]
      have fin : chk l = if (l.length : Int) > 65535 then 3 else 0 := by
        unfold chk
        rw [if_neg (by rw [ht]; simp), Bool.or_assoc, hno]
        by_cases h : l.length > 65535
        · have : (l.length : Int) > 65535 := by omega
          simp [h, this]
        · have : ¬ (l.length : Int) > 65535 := by omega
          simp [h, this]
      repeat' (first | (simp -implicitDefEqProofs only [go_sem, ↓reduceIte, Nat.reduceEqDiff, Nat.reduceAdd, Nat.reduceSub, Nat.reduceMul, Nat.reduceLeDiff, Nat.reduceLT, reduceCtorEq, Int.reduceToNat, hlen]) | (with_reducible refine g_noent ?_) | (refine cdS (fun hg => ?_) (fun hg => ?_) <;> try simp -implicitDefEqProofs only [hg, Bool.not_true, Bool.not_false]) | (refine gdS (fun hg => ?_) (fun hg => ?_) <;> try simp -implicitDefEqProofs only [hg, Bool.not_true, Bool.not_false]) | (refine gddS (fun hg => ?_) (fun hg => ?_) <;> try simp -implicitDefEqProofs only [hg, Bool.not_true, Bool.not_false]) | ((with_reducible apply And.intro); focus (first | trivial | omega | decide | (simp -implicitDefEqProofs only [maxLen]; omega) | (simp [maxLen, sty_len, nd_len, ndL_len, lnL_len, intsL_len, rvs_len, lensS_len]; done) | (simp [maxLen, sty_len, nd_len, ndL_len, lnL_len, intsL_len, rvs_len, lensS_len]; omega))) | fail)
      all_goals (refine (hK _ _ (ret_t ?_)).2; rw [fin]; clear fin hK hN hX hR; (simp_all [lk]) <;> omega)
end Go.Eng


/- Copies of slices. -/
namespace Go.Eng
open Go
/- slices.Clone[[]decoupage/api.Node,decoupage/api.Node] -/
def c_slices_Clone_Node : AC := (.seq (.reg [⟨(some 2), .mv, [(.c (.rv .nilsl))], none⟩]) (.seq (.seq (.reg [⟨(some 3), .mv, [(.t 0)], none⟩, ⟨(some 4), (.eqnilo false 0), [(.t 3)], none⟩]) (.cond (.t 4) (.seq (.reg [⟨(some 2), .mv, [(.c (.rv .nilsl))], none⟩]) .ret) .skip)) (.seq (.reg [⟨(some 5), (.bsl 49), [], none⟩, ⟨(some 6), .mv, [(.t 0)], none⟩, ⟨(some 7), (.app 49 384), [(.t 5), (.t 6)], none⟩, ⟨(some 2), .mv, [(.t 7)], none⟩]) .ret)))
theorem k_slices_Clone_Node : FnOK Go.Proofs.Try.prog 47 8 c_slices_Clone_Node [(.t 2)] := fnOK_of (by kernel_rfl)

theorem sp_Clone_Node (xs : List (List RV)) (m : Nat) (hb : xs.length ≤ 8589934592) : CallR Go.Proofs.Try.prog 47 [.rv (.sl 49 xs)] [] [(m, .row 49 1 (rvs xs))] (.row m 1 xs.length) := by
  have nz : ∀ r : RV, (r = .slz ∧ xs = []) ∨ (r = .sl 49 xs ∧ 0 < xs.length) → CallR Go.Proofs.Try.prog 47 [.rv r] [] [(m, .row 49 1 (rvs xs))] (.row m 1 xs.length) := fun r hr => by
    refine callR_M k_slices_Clone_Node [] [] [] [.rv r] [.rv r] _ _ (by simp) (by simp [BkAll, bk_ptr, bk_row, bk_rv, bk_agg, bk_ifc, bk_fn, bk_tup, bk_dead, BkHs, rvs_inj, nodupL]) rfl (by simp [nodupL]) (by simp [BkHs]) (fun K hK => ?_)
    simp -implicitDefEqProofs only [c_slices_Clone_Node, go_sem, ↓reduceIte, Nat.reduceEqDiff, Nat.reduceAdd, Nat.reduceSub, Nat.reduceMul, Nat.reduceLeDiff, Nat.reduceLT, reduceCtorEq, Int.reduceToNat]
    rcases hr with ⟨rfl, rfl⟩ | ⟨rfl, h0⟩
    · repeat' (first | (simp -implicitDefEqProofs only [go_sem, ↓reduceIte, Nat.reduceEqDiff, Nat.reduceAdd, Nat.reduceSub, Nat.reduceMul, Nat.reduceLeDiff, Nat.reduceLT, reduceCtorEq, Int.reduceToNat]) | (with_reducible refine g_noent ?_) | (refine cdS (fun hg => ?_) (fun hg => ?_) <;> try simp -implicitDefEqProofs only [hg, Bool.not_true, Bool.not_false]) | (refine gdS (fun hg => ?_) (fun hg => ?_) <;> try simp -implicitDefEqProofs only [hg, Bool.not_true, Bool.not_false]) | (refine gddS (fun hg => ?_) (fun hg => ?_) <;> try simp -implicitDefEqProofs only [hg, Bool.not_true, Bool.not_false]) | ((with_reducible apply And.intro); focus (first | trivial | omega | decide | (simp -implicitDefEqProofs only [maxLen]; omega) | (simp [maxLen, sty_len, nd_len, ndL_len, lnL_len, intsL_len, rvs_len, lensS_len]; done) | (simp [maxLen, sty_len, nd_len, ndL_len, lnL_len, intsL_len, rvs_len, lensS_len]; omega))) | fail)
      refine (hK _ _ _ _ [some m] (ent_refl _ _) ?_).2
      simp [retM, nodupL, newL, allU, keptL, retP, resL, lk, resT, RnHo, lkp, finU, hget_zero, hget_succ, hget, rnRows_rvs, rn_tup, rn_rv, rn_row, rn_ptr, rn_ifc, rn_agg, rn_dead, RnAll, ofL, rnAll_map]
      exact ⟨by simp [rvs], fun i x y hx => by simp at hx⟩
    · repeat' (first | (simp -implicitDefEqProofs only [go_sem, ↓reduceIte, Nat.reduceEqDiff, Nat.reduceAdd, Nat.reduceSub, Nat.reduceMul, Nat.reduceLeDiff, Nat.reduceLT, reduceCtorEq, Int.reduceToNat, rvs_fold]) | (with_reducible refine g_noent ?_) | (refine cdS (fun hg => ?_) (fun hg => ?_) <;> try simp -implicitDefEqProofs only [hg, Bool.not_true, Bool.not_false]) | (refine gdS (fun hg => ?_) (fun hg => ?_) <;> try simp -implicitDefEqProofs only [hg, Bool.not_true, Bool.not_false]) | (refine gddS (fun hg => ?_) (fun hg => ?_) <;> try simp -implicitDefEqProofs only [hg, Bool.not_true, Bool.not_false]) | ((with_reducible apply And.intro); focus (first | trivial | omega | decide | (simp -implicitDefEqProofs only [maxLen]; omega) | (simp [maxLen, sty_len, nd_len, ndL_len, lnL_len, intsL_len, rvs_len, lensS_len]; done) | (simp [maxLen, sty_len, nd_len, ndL_len, lnL_len, intsL_len, rvs_len, lensS_len]; omega))) | fail)
      refine (hK _ _ _ _ [some m] (ent_refl _ _) ?_).2
      simp [retM, nodupL, newL, allU, keptL, retP, resL, lk, resT, RnHo, lkp, finU, hget_zero, hget_succ, hget, rnRows_rvs, rn_tup, rn_rv, rn_row, rn_ptr, rn_ifc, rn_agg, rn_dead, RnAll, ofL, rnAll_map]
  by_cases h0 : xs = []
  · subst h0
    refine @callR_split _ _ _ [] [] _ _ _ ?_ (nz _ (.inl ⟨rfl, rfl⟩))
    show CallR _ _ [.rv .nilsl] _ _ _
    refine callR_M k_slices_Clone_Node [] [] [] [.rv .nilsl] [.rv .nilsl] _ _ (by simp) (by simp [BkAll, bk_ptr, bk_row, bk_rv, bk_agg, bk_ifc, bk_fn, bk_tup, bk_dead, BkHs, rvs_inj, nodupL]) rfl (by simp [nodupL]) (by simp [BkHs]) (fun K hK => ?_)
    simp -implicitDefEqProofs only [c_slices_Clone_Node, go_sem, ↓reduceIte, Nat.reduceEqDiff, Nat.reduceAdd, Nat.reduceSub, Nat.reduceMul, Nat.reduceLeDiff, Nat.reduceLT, reduceCtorEq, Int.reduceToNat]
    repeat' (first | (simp -implicitDefEqProofs only [go_sem, ↓reduceIte, Nat.reduceEqDiff, Nat.reduceAdd, Nat.reduceSub, Nat.reduceMul, Nat.reduceLeDiff, Nat.reduceLT, reduceCtorEq, Int.reduceToNat]) | (with_reducible refine g_noent ?_) | (refine cdS (fun hg => ?_) (fun hg => ?_) <;> try simp -implicitDefEqProofs only [hg, Bool.not_true, Bool.not_false]) | (refine gdS (fun hg => ?_) (fun hg => ?_) <;> try simp -implicitDefEqProofs only [hg, Bool.not_true, Bool.not_false]) | (refine gddS (fun hg => ?_) (fun hg => ?_) <;> try simp -implicitDefEqProofs only [hg, Bool.not_true, Bool.not_false]) | ((with_reducible apply And.intro); focus (first | trivial | omega | decide | (simp -implicitDefEqProofs only [maxLen]; omega) | (simp [maxLen, sty_len, nd_len, ndL_len, lnL_len, intsL_len, rvs_len, lensS_len]; done) | (simp [maxLen, sty_len, nd_len, ndL_len, lnL_len, intsL_len, rvs_len, lensS_len]; omega))) | fail)
    refine (hK _ _ _ _ [some m] (ent_ghostv 2 49 1 rfl) ?_).2
    simp [retM, nodupL, newL, allU, keptL, retP, resL, lk, resT, RnHo, lkp, finU, hget_zero, hget_succ, hget, rnRows_rvs, rn_tup, rn_rv, rn_row, rn_ptr, rn_ifc, rn_agg, rn_dead, RnAll, ofL, rnAll_map]
    exact ⟨by simp [rvs], fun i x y hx => by simp at hx⟩
  · exact nz _ (.inr ⟨rfl, List.length_pos_iff.2 h0⟩)

end Go.Eng


/- kin: of a list. -/
namespace Go.Eng
open Go
/- decoupage/kin.Of -/
def c_kin_Of : AC := (.seq (.reg [⟨(some 2), .mv, [(.c (.rv .nilp))], none⟩, ⟨(some 3), .mv, [(.c (.rv (.int .i64 0)))], none⟩]) (.seq (.seq (.reg [⟨(some 10), .mv, [(.t 0)], none⟩, ⟨(some 11), (.call 46), [(.t 10)], none⟩, ⟨(some 4), .mv, [(.t 11)], none⟩]) (.seq (.reg [⟨(some 12), .mv, [(.t 4)], none⟩, ⟨(some 13), (.ibin .neq), [(.t 12), (.c (.rv (.int .i64 0)))], none⟩]) (.cond (.t 13) (.seq (.reg [⟨(some 14), .mv, [(.t 4)], none⟩, ⟨(some 2), .mv, [(.c (.rv .nilp))], none⟩, ⟨(some 3), .mv, [(.t 14)], none⟩]) .ret) .skip))) (.seq (.regd [0, 1, 0, 4, 12, 0, 32, 96, 0, 256, 768, 0, 2048, 6144, 16383, 32767, 65535] [⟨(some 15), .mv, [(.t 0)], none⟩, ⟨(some 16), (.call 47), [(.t 15)], none⟩, ⟨(some 17), .mv, [(.t 0)], none⟩, ⟨(some 18), .len, [(.t 17)], none⟩, ⟨(some 19), (.mksl 1 24 [.nilsl]), [(.t 18), (.t 18)], none⟩, ⟨(some 20), .mv, [(.t 0)], none⟩, ⟨(some 21), .len, [(.t 20)], none⟩, ⟨(some 22), (.mksl 1 8 [(.int .i64 0)]), [(.t 21), (.t 21)], none⟩, ⟨(some 23), .mv, [(.t 0)], none⟩, ⟨(some 24), .len, [(.t 23)], none⟩, ⟨(some 25), (.mksl 1 8 [(.int .i64 0)]), [(.t 24), (.t 24)], none⟩, ⟨(some 26), .mv, [(.t 0)], none⟩, ⟨(some 27), .len, [(.t 26)], none⟩, ⟨(some 28), (.mksl 1 1 [(.bool false)]), [(.t 27), (.t 27)], none⟩, ⟨(some 29), (.build [.nilsl, .nilsl, .nilsl, .nilsl, .nilsl] [(0, 1), (1, 1), (2, 1), (3, 1), (4, 1)]), [(.t 16), (.t 19), (.t 22), (.t 25), (.t 28)], none⟩, ⟨(some 30), .box, [(.t 29)], none⟩, ⟨(some 5), .mv, [(.t 30)], none⟩]) (.seq (.seq (.reg [⟨(some 31), .mv, [(.t 0)], none⟩, ⟨(some 32), .len, [(.t 31)], none⟩, ⟨(some 33), .mv, [(.c (.rv (.int .i64 0)))], none⟩]) (.seq (.block 0 (.loop (.seq (.reg [⟨(some 34), (.ibin .lss), [(.t 33), (.t 32)], none⟩]) (.seq (.cond (.t 34) .skip (.exit 0)) (.seq (.seq (.block 1 (.seq (.reg [⟨(some 35), .mv, [(.t 33)], none⟩, ⟨(some 36), (.ixs 49), [(.t 31), (.t 33)], none⟩, ⟨(some 37), (.load 49 true), [(.t 36)], none⟩, ⟨(some 7), (.alloc [(.bool false), (.int .i64 0), (.int .i64 0), (.int .i64 0), (.int .i64 0), (.int .i64 0), (.int .i64 0), (.int .i64 0), (.int .i64 0), (.int .i64 0), (.int .i64 0), (.int .i64 0), (.int .i64 0), (.int .i64 0), (.int .i64 0), (.int .i64 0), (.int .i64 0), (.int .i64 0), (.int .i64 0), (.int .i64 0), (.int .i64 0), (.int .i64 0), (.int .i64 0), (.int .i64 0), (.int .i64 0), (.int .i64 0), (.int .i64 0), (.int .i64 0), (.int .i64 0), (.int .i64 0), (.int .i64 0), (.int .i64 0), (.int .i64 0), (.int .i64 0), (.int .i64 0), (.int .i64 0), (.int .i64 0), (.int .i64 0), (.int .i64 0), (.int .i64 0), (.int .i64 0), (.int .i64 0), (.bool false), (.bool false), (.int .i64 0), (.bool false), (.int .i64 0), (.int .i64 0), (.int .i64 0)]), [], none⟩, ⟨(some 6), .mv, [(.t 35)], none⟩, ⟨none, (.store 49), [(.t 7), (.t 37)], none⟩]) (.seq (.regd [0, 1, 3, 7, 0, 0, 32, 96, 224, 0, 0, 1024, 3072, 511, 8703, 32767, 65535] [⟨(some 38), .mv, [(.t 5)], none⟩, ⟨(some 39), .nilchk, [(.t 38)], none⟩, ⟨(some 40), (.fld 3), [(.t 39)], none⟩, ⟨(some 41), (.load 1 false), [(.t 40)], none⟩, ⟨(some 42), .mv, [(.t 6)], none⟩, ⟨(some 43), .mv, [(.t 5)], none⟩, ⟨(some 44), .nilchk, [(.t 43)], none⟩, ⟨(some 45), (.fld 4), [(.t 44)], none⟩, ⟨(some 46), (.load 1 false), [(.t 45)], none⟩, ⟨(some 47), .mv, [(.t 6)], none⟩, ⟨(some 48), (.fld 0), [(.t 7)], none⟩, ⟨(some 49), (.fld 0), [(.t 48)], none⟩, ⟨(some 50), (.load 1 false), [(.t 49)], none⟩, ⟨(some 51), (.ixs 1), [(.t 41), (.t 42)], none⟩, ⟨none, (.store 1), [(.t 51), (.c (.rv (.int .i64 1)))], none⟩, ⟨(some 52), (.ixs 1), [(.t 46), (.t 47)], none⟩, ⟨none, (.store 1), [(.t 52), (.t 50)], none⟩]) (.seq (.reg [⟨(some 53), .mv, [(.t 6)], none⟩, ⟨(some 54), (.ibin .gtr), [(.t 53), (.c (.rv (.int .i64 0)))], none⟩]) (.seq (.cond (.t 54) (.seq (.regd [0, 1, 3, 7, 0, 16, 0, 64, 192, 448, 0, 1024, 4032, 8128, 0, 16384, 65472, 131071, 262143] [⟨(some 55), .mv, [(.t 5)], none⟩, ⟨(some 56), .nilchk, [(.t 55)], none⟩, ⟨(some 57), (.fld 1), [(.t 56)], none⟩, ⟨(some 58), (.load 1 false), [(.t 57)], none⟩, ⟨(some 59), (.fld 48), [(.t 7)], none⟩, ⟨(some 60), (.load 1 false), [(.t 59)], none⟩, ⟨(some 61), .mv, [(.t 5)], none⟩, ⟨(some 62), .nilchk, [(.t 61)], none⟩, ⟨(some 63), (.fld 1), [(.t 62)], none⟩, ⟨(some 64), (.load 1 false), [(.t 63)], none⟩, ⟨(some 65), (.fld 48), [(.t 7)], none⟩, ⟨(some 66), (.load 1 false), [(.t 65)], none⟩, ⟨(some 67), (.ixs 1), [(.t 64), (.t 66)], none⟩, ⟨(some 68), (.load 1 false), [(.t 67)], none⟩, ⟨(some 69), .mv, [(.t 6)], none⟩, ⟨(some 70), (.bsl 1), [(.t 69)], none⟩, ⟨(some 71), (.app 1 8), [(.t 68), (.t 70)], none⟩, ⟨(some 72), (.ixs 1), [(.t 58), (.t 60)], none⟩, ⟨none, (.store 1), [(.t 72), (.t 71)], none⟩]) (.seq (.regd [0, 1, 3, 7, 0, 0, 32, 96, 224, 0, 512, 2016, 4064, 8160, 16383, 32767] [⟨(some 73), .mv, [(.t 5)], none⟩, ⟨(some 74), .nilchk, [(.t 73)], none⟩, ⟨(some 75), (.fld 3), [(.t 74)], none⟩, ⟨(some 76), (.load 1 false), [(.t 75)], none⟩, ⟨(some 77), .mv, [(.t 6)], none⟩, ⟨(some 78), .mv, [(.t 5)], none⟩, ⟨(some 79), .nilchk, [(.t 78)], none⟩, ⟨(some 80), (.fld 3), [(.t 79)], none⟩, ⟨(some 81), (.load 1 false), [(.t 80)], none⟩, ⟨(some 82), (.fld 48), [(.t 7)], none⟩, ⟨(some 83), (.load 1 false), [(.t 82)], none⟩, ⟨(some 84), (.ixs 1), [(.t 81), (.t 83)], none⟩, ⟨(some 85), (.load 1 false), [(.t 84)], none⟩, ⟨(some 86), (.ibin .add), [(.t 85), (.c (.rv (.int .i64 1)))], none⟩, ⟨(some 87), (.ixs 1), [(.t 76), (.t 77)], none⟩, ⟨none, (.store 1), [(.t 87), (.t 86)], none⟩]) (.regd [0, 1, 3, 7, 0, 0, 32, 96, 224, 480, 992, 2016, 4064, 480, 8672, 32736, 65504, 131040, 262143, 524287] [⟨(some 88), .mv, [(.t 5)], none⟩, ⟨(some 89), .nilchk, [(.t 88)], none⟩, ⟨(some 90), (.fld 4), [(.t 89)], none⟩, ⟨(some 91), (.load 1 false), [(.t 90)], none⟩, ⟨(some 92), .mv, [(.t 6)], none⟩, ⟨(some 93), (.fld 0), [(.t 7)], none⟩, ⟨(some 94), (.fld 0), [(.t 93)], none⟩, ⟨(some 95), (.load 1 false), [(.t 94)], none⟩, ⟨(some 96), .mv, [(.t 95)], none⟩, ⟨(some 97), .mv, [(.t 5)], (some (96, true))⟩, ⟨(some 98), .nilchk, [(.t 97)], (some (96, true))⟩, ⟨(some 99), (.fld 4), [(.t 98)], (some (96, true))⟩, ⟨(some 100), (.load 1 false), [(.t 99)], (some (96, true))⟩, ⟨(some 101), (.fld 48), [(.t 7)], (some (96, true))⟩, ⟨(some 102), (.load 1 false), [(.t 101)], (some (96, true))⟩, ⟨(some 103), (.ixs 1), [(.t 100), (.t 102)], (some (96, true))⟩, ⟨(some 104), (.load 1 false), [(.t 103)], (some (96, true))⟩, ⟨(some 105), .pick, [(.t 96), (.t 104), (.c (.rv (.bool false)))], none⟩, ⟨(some 106), (.ixs 1), [(.t 91), (.t 92)], none⟩, ⟨none, (.store 1), [(.t 106), (.t 105)], none⟩]))) .skip) .ent))))) .ent) (.reg [⟨(some 107), (.ibin .add), [(.t 33), (.c (.rv (.int .i64 1)))], none⟩, ⟨(some 33), .mv, [(.t 107)], none⟩])))))) .ent)) (.seq (.seq (.reg [⟨(some 108), .mv, [(.t 0)], none⟩, ⟨(some 109), .len, [(.t 108)], none⟩, ⟨(some 110), (.ibin .sub), [(.t 109), (.c (.rv (.int .i64 1)))], none⟩, ⟨(some 8), .mv, [(.t 110)], none⟩]) (.seq (.block 2 (.loop (.seq (.seq (.reg [⟨(some 111), .mv, [(.t 8)], none⟩, ⟨(some 112), (.ibin .geq), [(.t 111), (.c (.rv (.int .i64 0)))], none⟩]) (.cond (.t 112) .skip (.exit 2))) (.seq (.seq (.block 3 (.seq (.reg [⟨(some 115), .mv, [(.t 5)], none⟩, ⟨(some 116), .nilchk, [(.t 115)], none⟩, ⟨(some 117), (.fld 2), [(.t 116)], none⟩, ⟨(some 118), (.load 1 false), [(.t 117)], none⟩, ⟨(some 119), .mv, [(.t 8)], none⟩, ⟨(some 120), .mv, [(.t 8)], none⟩, ⟨(some 121), (.ibin .add), [(.t 120), (.c (.rv (.int .i64 1)))], none⟩, ⟨(some 122), (.ixs 1), [(.t 118), (.t 119)], none⟩, ⟨none, (.store 1), [(.t 122), (.t 121)], none⟩]) (.seq (.reg [⟨(some 123), .mv, [(.t 5)], none⟩, ⟨(some 124), .nilchk, [(.t 123)], none⟩, ⟨(some 125), (.fld 1), [(.t 124)], none⟩, ⟨(some 126), (.load 1 false), [(.t 125)], none⟩, ⟨(some 127), .mv, [(.t 8)], none⟩, ⟨(some 128), (.ixs 1), [(.t 126), (.t 127)], none⟩, ⟨(some 129), (.load 1 false), [(.t 128)], none⟩, ⟨(some 130), .len, [(.t 129)], none⟩, ⟨(some 9), .mv, [(.t 130)], none⟩]) (.seq (.reg [⟨(some 131), .mv, [(.t 9)], none⟩, ⟨(some 132), (.ibin .gtr), [(.t 131), (.c (.rv (.int .i64 0)))], none⟩]) (.seq (.cond (.t 132) (.regd [0, 1, 3, 7, 0, 0, 32, 96, 224, 0, 512, 1536, 3584, 0, 15872, 32256, 0, 65536, 261632, 523776, 1048544, 2097120, 4194303, 8388607] [⟨(some 133), .mv, [(.t 5)], none⟩, ⟨(some 134), .nilchk, [(.t 133)], none⟩, ⟨(some 135), (.fld 2), [(.t 134)], none⟩, ⟨(some 136), (.load 1 false), [(.t 135)], none⟩, ⟨(some 137), .mv, [(.t 8)], none⟩, ⟨(some 138), .mv, [(.t 5)], none⟩, ⟨(some 139), .nilchk, [(.t 138)], none⟩, ⟨(some 140), (.fld 2), [(.t 139)], none⟩, ⟨(some 141), (.load 1 false), [(.t 140)], none⟩, ⟨(some 142), .mv, [(.t 5)], none⟩, ⟨(some 143), .nilchk, [(.t 142)], none⟩, ⟨(some 144), (.fld 1), [(.t 143)], none⟩, ⟨(some 145), (.load 1 false), [(.t 144)], none⟩, ⟨(some 146), .mv, [(.t 8)], none⟩, ⟨(some 147), (.ixs 1), [(.t 145), (.t 146)], none⟩, ⟨(some 148), (.load 1 false), [(.t 147)], none⟩, ⟨(some 149), .mv, [(.t 9)], none⟩, ⟨(some 150), (.ibin .sub), [(.t 149), (.c (.rv (.int .i64 1)))], none⟩, ⟨(some 151), (.ixs 1), [(.t 148), (.t 150)], none⟩, ⟨(some 152), (.load 1 false), [(.t 151)], none⟩, ⟨(some 153), (.ixs 1), [(.t 141), (.t 152)], none⟩, ⟨(some 154), (.load 1 false), [(.t 153)], none⟩, ⟨(some 155), (.ixs 1), [(.t 136), (.t 137)], none⟩, ⟨none, (.store 1), [(.t 155), (.t 154)], none⟩]) .skip) .ent))))) .ent) (.reg [⟨(some 113), .mv, [(.t 8)], none⟩, ⟨(some 114), (.ibin .sub), [(.t 113), (.c (.rv (.int .i64 1)))], none⟩, ⟨(some 8), .mv, [(.t 114)], none⟩]))))) .ent)) (.seq (.reg [⟨(some 156), .mv, [(.t 5)], none⟩, ⟨(some 2), .mv, [(.t 156)], none⟩, ⟨(some 3), .mv, [(.c (.rv (.int .i64 0)))], none⟩]) .ret))))))
theorem k_kin_Of : FnOK Go.Proofs.Try.prog 17 157 c_kin_Of [(.t 2), (.t 3)] := fnOK_of (by kernel_rfl)


def natsI (l : List Nat) : List Int := l.map fun (n : Nat) => (n : Int)
def boolL (bs : List Bool) : List (List RV) := bs.map fun b => [.bool b]
theorem boolL_len (bs : List Bool) : (boolL bs).length = bs.length := by simp [boolL]
theorem boolL_getD {bs : List Bool} {i : Nat} (h : i < bs.length) : (boolL bs)[i]?.getD [] = [.bool (bs.getD i false)] := by simp [boolL, h]
theorem rvs_setB {ys : List Bool} {k : Nat} {v : Bool} : (rvs (boolL ys)).set k [.rv (.bool v)] = rvs (boolL (ys.set k v)) := by simp [rvs, boolL, List.map_set]
theorem rvs_repB {n : Nat} : List.replicate n [SV.rv (.bool false)] = rvs (boolL (List.replicate n false)) := by simp [rvs, boolL]
theorem boolL_one (l : List Bool) : ∀ x ∈ boolL l, ∀ r ∈ x, r.one = true := by
  intro x hx r hr
  obtain ⟨n, _, rfl⟩ := List.mem_map.1 hx
  simp at hr; rw [hr]; rfl

def madeTo (l : List Nd) (k : Nat) : List Bool := (List.range l.length).map fun j => if j < k then madeS l j else false
theorem madeTo_len (l : List Nd) (k : Nat) : (madeTo l k).length = l.length := by simp [madeTo]
theorem madeTo_zero (l : List Nd) : madeTo l 0 = List.replicate l.length false := by
  refine List.ext_getElem (by simp [madeTo]) (fun i h1 h2 => ?_)
  simp [madeTo]
theorem madeTo_set {l : List Nd} {k : Nat} (hk : k < l.length) : (madeTo l k).set k (madeS l k) = madeTo l (k + 1) := by
  refine List.ext_getElem (by simp [madeTo]) (fun i h1 h2 => ?_)
  simp -implicitDefEqProofs only [List.getElem_set, madeTo, List.getElem_map, List.getElem_range]
  by_cases h : k = i
  · subst h; simp
  · rw [if_neg h]
    by_cases hi : i < k
    · rw [if_pos hi, if_pos (by omega)]
    · rw [if_neg hi, if_neg (by omega)]
theorem madeTo_get {l : List Nd} {k j : Nat} {b : Bool} (hj : j < k) (hl : j < l.length) : ((madeTo l k).set k b).getD j false = madeS l j := by
  rw [List.getD_eq_getElem?_getD, List.getElem?_set_ne (by omega)]
  simp [madeTo, hl, hj]

def kTab (l : List Nd) (k : Nat) : List (List SV) := (List.range l.length).map fun p => [.row (p + 6) (kidsTo l k p).length (kidsTo l k p).length]
def kRows (l : List Nd) (k : Nat) : List (Option HB) := (List.range l.length).map fun p => some (.row 1 (kidsTo l k p).length (rvs (intsL (natsI (kidsTo l k p)))))
theorem kTab_len (l : List Nd) (k : Nat) : (kTab l k).length = l.length := by simp [kTab]
theorem kRows_len (l : List Nd) (k : Nat) : (kRows l k).length = l.length := by simp [kRows]
theorem kTab_get {l : List Nd} {k p : Nat} (hp : p < l.length) : (kTab l k)[p]?.getD [] = [.row (p + 6) (kidsTo l k p).length (kidsTo l k p).length] := by simp [kTab, hp]
theorem kRows_get {l : List Nd} {k p : Nat} {C : List (Option HB)} (hp : p < l.length) : hget (kRows l k ++ C) p = some (.row 1 (kidsTo l k p).length (rvs (intsL (natsI (kidsTo l k p))))) := by
  unfold hget
  rw [List.getElem?_append_left (by rw [kRows_len]; exact hp)]
  simp [kRows, hp]
theorem kRows_end {l : List Nd} {k : Nat} {x : Option HB} {C : List (Option HB)} : hget (kRows l k ++ x :: C) l.length = x := by
  unfold hget
  rw [List.getElem?_append_right (by rw [kRows_len]; exact Nat.le_refl _), kRows_len]
  simp
theorem kRows_end1 {l : List Nd} {k : Nat} {x y : Option HB} {C : List (Option HB)} : hget (kRows l k ++ x :: y :: C) (l.length + 1) = y := by
  unfold hget
  rw [List.getElem?_append_right (by rw [kRows_len]; omega), kRows_len, show l.length + 1 - l.length = 1 by omega]
  simp
theorem kRows_end2 {l : List Nd} {k p : Nat} {hb : Option HB} {x y : Option HB} {C : List (Option HB)} : hget ((kRows l k).set p hb ++ x :: C) l.length = x := by
  unfold hget
  rw [List.getElem?_append_right (by rw [List.length_set, kRows_len]; exact Nat.le_refl _), List.length_set, kRows_len]
  simp
theorem kRows_setE {l : List Nd} {k : Nat} {x y : Option HB} {C : List (Option HB)} : (kRows l k ++ x :: C).set l.length y = kRows l k ++ y :: C := by
  rw [List.set_append_right _ _ (by rw [kRows_len]; exact Nat.le_refl _), kRows_len, Nat.sub_self]; rfl
theorem kRows_setP {l : List Nd} {k p : Nat} {y : Option HB} {C : List (Option HB)} (hp : p < l.length) : (kRows l k ++ C).set p y = (kRows l k).set p y ++ C := by
  rw [List.set_append_left _ _ (by rw [kRows_len]; exact hp)]
theorem kRows_zero (l : List Nd) : kRows l 0 = ghRows l.length 1 := by
  refine List.ext_getElem (by simp [kRows, ghRows]) (fun i h1 h2 => ?_)
  simp [kRows, ghRows, kidsTo_zero, natsI, intsL, rvs]
theorem kTab_zero (l : List Nd) : kTab l 0 = ghTab 6 l.length l.length := by
  refine List.ext_getElem (by simp [kTab, ghTab]) (fun i h1 h2 => ?_)
  simp [kTab] at h1
  simp [kTab, ghTab, kidsTo_zero, h1]; omega
theorem kRows_next {l : List Nd} {k p : Nat} (h0 : 0 < k) (hp : parL l k = p) (hl : p < l.length) :
    (kRows l k).set p (some (.row 1 ((kidsTo l k p).length + 1) (rvs (intsL (natsI (kidsTo l k p) ++ [(k : Int)]))))) = kRows l (k + 1) := by
  refine List.ext_getElem (by simp [kRows]) (fun i h1 h2 => ?_)
  simp -implicitDefEqProofs only [List.getElem_set, kRows, List.getElem_map, List.getElem_range, kidsTo_succ]
  by_cases h : p = i
  · subst h; simp [h0, hp, natsI]
  · rw [if_neg h, if_neg (by rw [hp]; omega)]; simp
theorem kTab_next {l : List Nd} {k p : Nat} (h0 : 0 < k) (hp : parL l k = p) (hl : p < l.length) :
    (kTab l k).set p [.row (p + 6) ((kidsTo l k p).length + 1) ((kidsTo l k p).length + 1)] = kTab l (k + 1) := by
  refine List.ext_getElem (by simp [kTab]) (fun i h1 h2 => ?_)
  simp -implicitDefEqProofs only [List.getElem_set, kTab, List.getElem_map, List.getElem_range, kidsTo_succ]
  by_cases h : p = i
  · subst h; simp [h0, hp]
  · rw [if_neg h, if_neg (by rw [hp]; omega)]; simp
theorem kRows_first (l : List Nd) : kRows l 1 = kRows l 0 := by
  refine List.ext_getElem (by simp [kRows]) (fun i h1 h2 => ?_)
  simp [kRows, kidsTo, List.range_succ]
theorem kTab_first (l : List Nd) : kTab l 1 = kTab l 0 := by
  refine List.ext_getElem (by simp [kTab]) (fun i h1 h2 => ?_)
  simp [kTab, kidsTo, List.range_succ]

def kidsL (l : List Nd) : List (List RV) := (List.range l.length).map fun p => [.sl 1 (intsL (natsI (kidsOf l p)))]
def endsL (l : List Nd) : List Int := (List.range l.length).map fun n => (endS l n : Int)
/-- The Kin of a list that is a tree. -/
abbrev kinV (l : List Nd) : RV := .rop [.sl 49 (ndL l), .sl 1 (kidsL l), .sl 1 (intsL (endsL l)), .sl 1 (intsL (depTo l l.length)), .sl 1 (boolL (madeTo l l.length))]

def kHeap (l : List Nd) (k : Nat) (es ds : List Int) (bs : List Bool) : List (Option HB) := some (.row 49 1 (rvs (ndL l))) :: some (.row 1 0 (kTab l k)) :: some (.row 1 0 (rvs (intsL es))) :: some (.row 1 0 (rvs (intsL ds))) :: some (.row 1 0 (rvs (boolL bs))) :: some (.var [.row 0 1 l.length, .row 1 0 l.length, .row 2 0 l.length, .row 3 0 l.length, .row 4 0 l.length]) :: kRows l k
theorem kHeap_len {l : List Nd} {k : Nat} {es ds : List Int} {bs : List Bool} : (kHeap l k es ds bs).length = l.length + 6 := by simp [kHeap, kRows_len]
theorem kHeap_cl {l : List Nd} {k : Nat} {es ds : List Int} {bs : List Bool} : AllSome (ClH (l.length + 6)) (kHeap l k es ds bs) := by
  refine ⟨clH_rvs, fun i x hx => ?_, clH_rvs, clH_rvs, clH_rvs, by simp [ClH, ClA, clS_row], AllSome.of fun j x hx => ?_⟩
  · obtain ⟨hl, rfl⟩ := List.getElem?_eq_some_iff.1 hx
    simp [kTab_len] at hl
    simp [kTab, ClA, clS_row, hl]
  · obtain ⟨hl, rfl⟩ := List.getElem?_eq_some_iff.1 hx
    exact ⟨.row 1 (kidsTo l k j).length (rvs (intsL (natsI (kidsTo l k j)))), by simp [kRows], clH_rvs⟩
theorem kHeap_tail {l : List Nd} {k : Nat} {es ds : List Int} {bs : List Bool} {env env' : List (Nat × SV)} {C : List (Option HB)} (he : ClEnv (l.length + 6) env env') : Ent 0 ⟨env, kHeap l k es ds bs ++ C⟩ ⟨env', kHeap l k es ds bs⟩ :=
  ent_tail (Nat.zero_le _) (by rw [kHeap_len]; exact kHeap_cl) (by rw [kHeap_len]; exact he)

def endTo (l : List Nd) (k : Nat) : List Int := (List.range l.length).map fun j => if k ≤ j then (endS l j : Int) else 0
theorem endTo_len (l : List Nd) (k : Nat) : (endTo l k).length = l.length := by simp [endTo]
theorem endTo_top (l : List Nd) : endTo l l.length = List.replicate l.length 0 := by
  refine List.ext_getElem (by simp [endTo]) (fun i h1 h2 => ?_)
  simp [endTo] at h1
  simp [endTo]; omega
theorem endTo_zero (l : List Nd) : endTo l 0 = endsL l := by simp [endTo, endsL]
theorem endTo_set {l : List Nd} {k : Nat} (hk : 0 < k) (hl : k ≤ l.length) : (endTo l k).set (k - 1) (endS l (k - 1)) = endTo l (k - 1) := by
  refine List.ext_getElem (by simp [endTo]) (fun i h1 h2 => ?_)
  simp -implicitDefEqProofs only [List.getElem_set, endTo, List.getElem_map, List.getElem_range]
  by_cases h : k - 1 = i
  · subst h; simp
  · rw [if_neg h]
    by_cases hi : k ≤ i
    · rw [if_pos hi, if_pos (by omega)]
    · rw [if_neg hi, if_neg (by omega)]
theorem endTo_get {l : List Nd} {k j : Nat} {v : Int} (hj : k ≤ j) (hk : 0 < k) (hl : j < l.length) : ((endTo l k).set (k - 1) v).getD j 0 = endS l j := by
  rw [List.getD_eq_getElem?_getD, List.getElem?_set_ne (by omega)]
  simp [endTo, hl, hj]

theorem fz_rows {τ : Nat → Option Nat} {h : Hp} {j e ver len : Nat} {xs : List (List RV)} (hj : h j = some (.row e ver (rvs xs))) (hτ : τ j = none) (hl : len = xs.length) (h1 : ∀ x ∈ xs, ∀ r ∈ x, r.one = true) : Fz τ h (.row j ver len) (.sl e xs) := by
  have := fz_row (τ := τ) hj hτ (len := len) (by omega) h1
  rw [hl, List.take_length] at this
  rw [hl]; exact this
theorem kin_fz (l : List Nd) : Fz (fun _ => none) (hget (kHeap l l.length (endsL l) (depTo l l.length) (madeTo l l.length))) (.ptr 5 0) (kinV l) := by
  refine .ptr 5 [.row 0 1 l.length, .row 1 0 l.length, .row 2 0 l.length, .row 3 0 l.length, .row 4 0 l.length] _ rfl rfl rfl (fun i r hr => ?_) (fun i x r hx hr => ?_)
  · match i with
    | 0 => cases hr; rfl
    | 1 => cases hr; rfl
    | 2 => cases hr; rfl
    | 3 => cases hr; rfl
    | 4 => cases hr; rfl
    | i + 5 => simp at hr
  · match i with
    | 0 => cases hx; cases hr; exact fz_rows rfl rfl (by simp [ndL]) (ndL_one l)
    | 1 =>
      cases hx; cases hr
      refine .row 1 1 0 l.length (kTab l l.length) (kidsL l) rfl rfl (by simp [kidsL]) (by rw [kTab_len]; exact Nat.le_refl _) (fun i x r hx hr => ?_) (fun i r k q hr hq => ?_) (fun i x r k y q hx hr hy hq => ?_)
      · obtain ⟨_, rfl⟩ := List.getElem?_eq_some_iff.1 hx
        obtain ⟨_, rfl⟩ := List.getElem?_eq_some_iff.1 hr
        simp [kTab, kidsL]
      · obtain ⟨_, rfl⟩ := List.getElem?_eq_some_iff.1 hr
        have := List.mem_of_getElem? hq
        simp [kidsL] at this
        rw [this]; rfl
      · obtain ⟨hl, rfl⟩ := List.getElem?_eq_some_iff.1 hx
        obtain ⟨_, rfl⟩ := List.getElem?_eq_some_iff.1 hr
        rw [kTab_len] at hl
        cases k with
        | succ k => simp [kTab] at hy
        | zero =>
          simp [kTab] at hy
          simp [kidsL] at hq
          subst hy; subst hq
          refine fz_rows (xs := intsL (natsI (kidsOf l i))) ?_ rfl (by simp [intsL, natsI, kidsOf]) (intsL_one _)
          have := kRows_get (k := l.length) (C := []) hl
          rw [List.append_nil] at this
          exact this
    | 2 => cases hx; cases hr; exact fz_rows rfl rfl (by simp [intsL, endsL]) (intsL_one _)
    | 3 => cases hx; cases hr; exact fz_rows rfl rfl (by simp [intsL, depTo]) (intsL_one _)
    | 4 => cases hx; cases hr; exact fz_rows rfl rfl (by simp [boolL, madeTo]) (boolL_one _)
    | i + 5 => simp at hx

theorem nd_at0 (x : Nd) : (x.cells.map SV.rv)[0]? = some (.rv (.bool x.s.shown)) := rfl
set_option maxRecDepth 20000 in
set_option maxHeartbeats 8000000 in
theorem sp_kin_Of (l : List Nd) (hb : l.length ≤ 8589934592) (hc : chk l = 0) : CallR Go.Proofs.Try.prog 17 [.rv (.sl 49 (ndL l))] [] [] (.tup [.rv (kinV l), .rv (.int .i64 0)]) := by
  refine callR_G k_kin_Of [.rv (.sl 49 (ndL l))] _ (by simp) (by simp [BkAll, bk_agg, bkAll_map, bk_rv, bk_fn, Sty.sv, Ln.sv, Nd.sv]) (fun K hK => ?_)
  have hlen := ndL_len l
  have hck := sp_tree_Check l hb
  rw [hc] at hck
  have ht : treeOK l = true := by
    unfold chk at hc
    cases h : treeOK l with
    | true => rfl
    | false => rw [h] at hc; simp at hc
  have hs : Shp l := shape_iff.1 (by unfold treeOK at ht; simp -implicitDefEqProofs only [Bool.and_eq_true] at ht; exact ht.1)
  have e00 : (((0 : Int)) != 0) = false := rfl
  simp -implicitDefEqProofs only [c_kin_Of, go_sem, ↓reduceIte, Nat.reduceEqDiff, Nat.reduceAdd, Nat.reduceSub, Nat.reduceMul, Nat.reduceLeDiff, Nat.reduceLT, reduceCtorEq, Int.reduceToNat]
  have hb2 : (ndL l).length ≤ 8589934592 := by rw [hlen]; exact hb
  have hcall1 := hck; have hcall2 := sp_Clone_Node (ndL l) 0 hb2; repeat' (first | (simp -implicitDefEqProofs only [go_sem, ↓reduceIte, Nat.reduceEqDiff, Nat.reduceAdd, Nat.reduceSub, Nat.reduceMul, Nat.reduceLeDiff, Nat.reduceLT, reduceCtorEq, Int.reduceToNat, e00, hlen, rvs_rep1, rvs_repB]) | (with_reducible refine g_noent ?_) | (with_reducible refine g_call0 hcall1 ?_) | (with_reducible refine g_calld0 hcall1 ?_) | (refine g_call hcall2 (by simp [PreOK, hget]; done) (by simp [okU, uph]; done) ?_) | (refine g_calld hcall2 (by simp [PreOK, hget]; done) (by simp [okU, uph]; done) ?_) | (refine cdS (fun hg => ?_) (fun hg => ?_) <;> try simp -implicitDefEqProofs only [hg, Bool.not_true, Bool.not_false]) | (refine gdS (fun hg => ?_) (fun hg => ?_) <;> try simp -implicitDefEqProofs only [hg, Bool.not_true, Bool.not_false]) | (refine gddS (fun hg => ?_) (fun hg => ?_) <;> try simp -implicitDefEqProofs only [hg, Bool.not_true, Bool.not_false]) | ((with_reducible apply And.intro); focus (first | trivial | omega | decide | (simp -implicitDefEqProofs only [maxLen]; omega) | (simp [maxLen, sty_len, nd_len, ndL_len, lnL_len, intsL_len, rvs_len, lensS_len]; done) | (simp [maxLen, sty_len, nd_len, ndL_len, lnL_len, intsL_len, rvs_len, lensS_len]; omega))) | fail)
  have hkt : ∀ n : Nat, kTab l 0 = ghTab 6 l.length l.length := fun _ => kTab_zero l
  let ev : Nat → List (Nat × SV) := fun k => [(33, .rv (.int .i64 k)), (32, .rv (.int .i64 l.length)), (31, .rv (.sl 49 (ndL l))), (5, .ptr 5 0), (0, .rv (.sl 49 (ndL l)))]
  refine g_loop (ι := Nat) (fun k => [(33, .rv (.int .i64 k)), (32, .rv (.int .i64 l.length)), (31, .rv (.sl 49 (ndL l))), (5, .ptr 5 0), (0, .rv (.sl 49 (ndL l)))]) (fun k => some (.row 49 1 (rvs (ndL l))) :: some (.row 1 0 (kTab l k)) :: some (.row 1 0 (rvs (intsL (List.replicate l.length 0)))) :: some (.row 1 0 (rvs (intsL (depTo l k)))) :: some (.row 1 0 (rvs (boolL (madeTo l k)))) :: some (.var [.row 0 1 l.length, .row 1 0 l.length, .row 2 0 l.length, .row 3 0 l.length, .row 4 0 l.length]) :: kRows l k) (fun k => k ≤ l.length) (fun k => l.length - k) 0 (by simp) ?_ (fun k hk K' hN hX hR => ?_)
  · refine (ent_env (env' := [(33, .rv (.int .i64 0)), (32, .rv (.int .i64 l.length)), (31, .rv (.sl 49 (ndL l))), (5, .ptr 5 0), (0, .rv (.sl 49 (ndL l)))]) (by simp [lk])).trans ?_
    rw [kTab_zero, kRows_zero, depTo_zero, madeTo_zero]
    exact ent_ghosts (r := 1) (v := 0) (n := l.length) (e := 1) rfl
  simp -implicitDefEqProofs only [go_sem, ↓reduceIte, Nat.reduceEqDiff, Nat.reduceAdd, Nat.reduceSub, Nat.reduceMul, Nat.reduceLeDiff, Nat.reduceLT, reduceCtorEq, Int.reduceToNat]
  refine cdS (fun hg => ?_) (fun hg => ?_)
  · have hk4 : k < l.length := by simp at hg; omega
    have hx := ndL_get hk4
    have krl := kRows_len l k
    have hdl := depTo_len l k
    have hdd := intsL_len (depTo l k)
    have hd1 := intsL_getD (l := depTo l k) (i := k) (by omega)
    have hml := madeTo_len l k
    have hmm := boolL_len (madeTo l k)
    have hm1 := boolL_getD (bs := madeTo l k) (i := k) (by omega)
    have hsh := shownL_eq hk4
    have e1 : (l.length = l.length + 1) = False := eq_false (by omega)
    have e2 : (l.length = l.length + 2) = False := eq_false (by omega)
    have hds := depTo_set hk4
    have hds2 := depTo_set2 hk4
    have wu := wrap_up (k := k) (by omega)
    by_cases hk0 : 0 < k
    · have hgt : decide ((k : Int) > 0) = true := decide_eq_true (by omega)
      obtain ⟨p1, p2⟩ := hs.wf.2 k hk0 hk4
      obtain ⟨p, hp⟩ : ∃ p : Nat, parL l k = p := ⟨(parL l k).toNat, by omega⟩
      have hpl : p < l.length := by omega
      have q0 : (p = l.length) = False := eq_false (by omega)
      have q1 : (p = l.length + 1) = False := eq_false (by omega)
      have q2 : (p = l.length + 2) = False := eq_false (by omega)
      have hpk := parL_eq hk4
      have hds3 : (depTo l k).set k 1 = (depTo l k).set k 1 := rfl
      have hdsl : ((depTo l k).set k 1).length = l.length := by simp [hdl]
      have hdsl2 := intsL_len ((depTo l k).set k 1)
      have hdp := intsL_getD (l := (depTo l k).set k 1) (i := p) (by omega)
      have hdk := intsL_getD (l := (depTo l k).set k 1) (i := k) (by omega)
      rw [depTo_get (by omega) (by omega)] at hdp
      have hdep := depth_par hs.wf hk0 hk4
      rw [hp, Int.toNat_natCast] at hdep
      have wd := wrap_up (k := depth l p) (by have := pth_len (l := l) p; unfold depth; omega)
      rw [← hdep] at wd
      obtain ⟨b, hsv⟩ : ∃ b, shownL l k = b := ⟨_, rfl⟩
      have hmp := boolL_getD (bs := (madeTo l k).set k b) (i := p) (by simp [hml]; omega)
      have hmk := boolL_getD (bs := (madeTo l k).set k b) (i := k) (by simp [hml]; omega)
      rw [madeTo_get (by omega) (by omega)] at hmp
      have hmsl : ((madeTo l k).set k b).length = l.length := by simp [hml]
      have hmsl2 := boolL_len ((madeTo l k).set k b)
      have hms : ((madeTo l k).set k b).set k (b && madeS l p) = madeTo l (k + 1) := by
        have := madeS_par hs.wf hk0 hk4
        rw [hp, Int.toNat_natCast, hsv] at this
        rw [List.set_set, ← this, madeTo_set hk4]
      have hktl := kTab_len l k
      have hktg := kTab_get (k := k) hpl
      have hkrg := fun C => kRows_get (k := k) (C := C) hpl
      have hkn := kRows_next hk0 hp hpl
      have htn := kTab_next hk0 hp hpl
      have hsp := fun (y : Option HB) C => kRows_setP (k := k) (y := y) (C := C) hpl
      have hkl : (natsI (kidsTo l k p)).length = (kidsTo l k p).length := by simp [natsI]
      have hkl2 := intsL_len (natsI (kidsTo l k p))
      have htk : (intsL (natsI (kidsTo l k p))).take (kidsTo l k p).length = intsL (natsI (kidsTo l k p)) := List.take_of_length_le (by rw [hkl2, hkl]; exact Nat.le_refl _)
      have hkk := kidsTo_len (l := l) (k := k) (p := p)
      cases b
      all_goals simp -implicitDefEqProofs only [Bool.false_and, Bool.true_and] at hms
      · repeat' (first | (simp -implicitDefEqProofs only [go_sem, ↓reduceIte, Nat.reduceEqDiff, Nat.reduceAdd, Nat.reduceSub, Nat.reduceMul, Nat.reduceLeDiff, Nat.reduceLT, reduceCtorEq, Int.reduceToNat, hlen, hx, krl, nd_len, nd_sv48, Nat.add_assoc, kRows_end, List.append_assoc, hdl, hdd, hd1, hml, hmm, hm1, rvs_set1, rvs_setB, nd_at0, hsh, hsv, e1, e2, kRows_setE, hgt, hpk, hp, nd_atp, hktl, hktg, hkrg, q0, q1, q2, hsp, kRows_end1, kRows_end2, hkl, hkl2, htk, rvs_app1, hkn, htn, hdsl, hdsl2, hdp, hdk, wd, hds2, wu, hmp, hmk, hmsl, hmsl2]) | (with_reducible refine g_noent ?_) | (refine cdS (fun hg => ?_) (fun hg => ?_) <;> try simp -implicitDefEqProofs only [hg, Bool.not_true, Bool.not_false]) | (refine gdS (fun hg => ?_) (fun hg => ?_) <;> try simp -implicitDefEqProofs only [hg, Bool.not_true, Bool.not_false]) | (refine gddS (fun hg => ?_) (fun hg => ?_) <;> try simp -implicitDefEqProofs only [hg, Bool.not_true, Bool.not_false]) | ((with_reducible apply And.intro); focus (first | trivial | omega | decide | (simp -implicitDefEqProofs only [maxLen]; omega) | (simp [maxLen, sty_len, nd_len, ndL_len, lnL_len, intsL_len, rvs_len, lensS_len]; done) | (simp [maxLen, sty_len, nd_len, ndL_len, lnL_len, intsL_len, rvs_len, lensS_len]; omega) | (simp (decide := true) [compatB, compatB1, apartT, disj, Nat.testBit, q0, q1, q2]; done))) | fail)
        rw [hms]
        exact hN (k + 1) _ _ (by omega) (by omega) (kHeap_tail (l := l) (k := k + 1) (by simp [ClEnv, lk, clS_rv, clS_ptr]))
      · repeat' (first | (simp -implicitDefEqProofs only [go_sem, ↓reduceIte, Nat.reduceEqDiff, Nat.reduceAdd, Nat.reduceSub, Nat.reduceMul, Nat.reduceLeDiff, Nat.reduceLT, reduceCtorEq, Int.reduceToNat, hlen, hx, krl, nd_len, nd_sv48, Nat.add_assoc, kRows_end, List.append_assoc, hdl, hdd, hd1, hml, hmm, hm1, rvs_set1, rvs_setB, nd_at0, hsh, hsv, e1, e2, kRows_setE, hgt, hpk, hp, nd_atp, hktl, hktg, hkrg, q0, q1, q2, hsp, kRows_end1, kRows_end2, hkl, hkl2, htk, rvs_app1, hkn, htn, hdsl, hdsl2, hdp, hdk, wd, hds2, wu, hmp, hmk, hmsl, hmsl2]) | (with_reducible refine g_noent ?_) | (refine cdS (fun hg => ?_) (fun hg => ?_) <;> try simp -implicitDefEqProofs only [hg, Bool.not_true, Bool.not_false]) | (refine gdS (fun hg => ?_) (fun hg => ?_) <;> try simp -implicitDefEqProofs only [hg, Bool.not_true, Bool.not_false]) | (refine gddS (fun hg => ?_) (fun hg => ?_) <;> try simp -implicitDefEqProofs only [hg, Bool.not_true, Bool.not_false]) | ((with_reducible apply And.intro); focus (first | trivial | omega | decide | (simp -implicitDefEqProofs only [maxLen]; omega) | (simp [maxLen, sty_len, nd_len, ndL_len, lnL_len, intsL_len, rvs_len, lensS_len]; done) | (simp [maxLen, sty_len, nd_len, ndL_len, lnL_len, intsL_len, rvs_len, lensS_len]; omega) | (simp (decide := true) [compatB, compatB1, apartT, disj, Nat.testBit, q0, q1, q2]; done))) | fail)
        rw [hms]
        exact hN (k + 1) _ _ (by omega) (by omega) (kHeap_tail (l := l) (k := k + 1) (by simp [ClEnv, lk, clS_rv, clS_ptr]))
    · obtain rfl : k = 0 := by omega
      have hgt : decide (((0 : Nat) : Int) > 0) = false := rfl
      rw [depth_zero] at hds
      have hms := madeTo_set hk4
      rw [madeS_zero] at hms
      have hds1 : (depTo l 0).set 0 1 = depTo l (0 + 1) := hds
      repeat' (first | (simp -implicitDefEqProofs only [go_sem, ↓reduceIte, Nat.reduceEqDiff, Nat.reduceAdd, Nat.reduceSub, Nat.reduceMul, Nat.reduceLeDiff, Nat.reduceLT, reduceCtorEq, Int.reduceToNat, hlen, hx, krl, nd_len, nd_sv48, Nat.add_assoc, kRows_end, List.append_assoc, hdl, hdd, hd1, hml, hmm, hm1, rvs_set1, rvs_setB, nd_at0, hsh, e1, e2, kRows_setE, hgt, wu, hms, hds1]) | (with_reducible refine g_noent ?_) | (refine cdS (fun hg => ?_) (fun hg => ?_) <;> try simp -implicitDefEqProofs only [hg, Bool.not_true, Bool.not_false]) | (refine gdS (fun hg => ?_) (fun hg => ?_) <;> try simp -implicitDefEqProofs only [hg, Bool.not_true, Bool.not_false]) | (refine gddS (fun hg => ?_) (fun hg => ?_) <;> try simp -implicitDefEqProofs only [hg, Bool.not_true, Bool.not_false]) | ((with_reducible apply And.intro); focus (first | trivial | omega | decide | (simp -implicitDefEqProofs only [maxLen]; omega) | (simp [maxLen, sty_len, nd_len, ndL_len, lnL_len, intsL_len, rvs_len, lensS_len]; done) | (simp [maxLen, sty_len, nd_len, ndL_len, lnL_len, intsL_len, rvs_len, lensS_len]; omega))) | fail)
      refine hN 1 _ _ (by omega) (by omega) ?_
      rw [kTab_first, kRows_first]
      exact kHeap_tail (l := l) (k := 0) (es := List.replicate l.length 0) (ds := depTo l (0 + 1)) (bs := madeTo l (0 + 1)) (C := [some (.var ((l[0]'hk4).cells.map .rv))]) (by simp [ClEnv, lk, clS_rv, clS_ptr])
  · have hk4 : k = l.length := by simp at hg; omega
    subst hk4
    simp -implicitDefEqProofs only [go_sem, ↓reduceIte, Nat.reduceEqDiff, Nat.reduceAdd, Nat.reduceSub, Nat.reduceMul, Nat.reduceLeDiff, Nat.reduceLT, reduceCtorEq, Int.reduceToNat]
    refine hX _ _ _ ?_
    have wl := wrap_dn hs.pos (by omega)
    repeat' (first | (simp -implicitDefEqProofs only [go_sem, ↓reduceIte, Nat.reduceEqDiff, Nat.reduceAdd, Nat.reduceSub, Nat.reduceMul, Nat.reduceLeDiff, Nat.reduceLT, reduceCtorEq, Int.reduceToNat, hlen, wl]) | (with_reducible refine g_noent ?_) | (refine cdS (fun hg => ?_) (fun hg => ?_) <;> try simp -implicitDefEqProofs only [hg, Bool.not_true, Bool.not_false]) | (refine gdS (fun hg => ?_) (fun hg => ?_) <;> try simp -implicitDefEqProofs only [hg, Bool.not_true, Bool.not_false]) | (refine gddS (fun hg => ?_) (fun hg => ?_) <;> try simp -implicitDefEqProofs only [hg, Bool.not_true, Bool.not_false]) | ((with_reducible apply And.intro); focus (first | trivial | omega | decide | (simp -implicitDefEqProofs only [maxLen]; omega) | (simp [maxLen, sty_len, nd_len, ndL_len, lnL_len, intsL_len, rvs_len, lensS_len]; done) | (simp [maxLen, sty_len, nd_len, ndL_len, lnL_len, intsL_len, rvs_len, lensS_len]; omega))) | fail)
    clear hN hX hR
    refine g_loop (ι := Nat) (fun k => [(8, .rv (.int .i64 ((k : Int) - 1))), (5, .ptr 5 0)]) (fun k => kHeap l l.length (endTo l k) (depTo l l.length) (madeTo l l.length)) (fun k => k ≤ l.length) (fun k => k) l.length (Nat.le_refl _) (by rw [endTo_top]; exact ent_env (by simp [lk]; have := hs.pos; omega)) (fun k hk K' hN hX hR => ?_)
    simp -implicitDefEqProofs only [kHeap, go_sem, ↓reduceIte, Nat.reduceEqDiff, Nat.reduceAdd, Nat.reduceSub, Nat.reduceMul, Nat.reduceLeDiff, Nat.reduceLT, reduceCtorEq, Int.reduceToNat]
    refine cdS (fun hg => ?_) (fun hg => ?_)
    · have hk0 : 0 < k := by simp at hg; omega
      obtain ⟨j, rfl⟩ : ∃ j, k = j + 1 := ⟨k - 1, by omega⟩
      have ej : (((j + 1 : Nat) : Int) - 1) = (j : Int) := by omega
      have wj := wrap_up (k := j) (by omega)
      have hjl : j < l.length := by omega
      have hel := endTo_len l (j + 1)
      have hell := intsL_len (endTo l (j + 1))
      have he1 := intsL_getD (l := endTo l (j + 1)) (i := j) (by omega)
      have hktl := kTab_len l l.length
      have hktg := kTab_get (k := l.length) hjl
      have hkrg := kRows_get (k := l.length) (C := []) hjl
      simp -implicitDefEqProofs only [List.append_nil] at hkrg
      have hkl : (natsI (kidsTo l l.length j)).length = (kidsTo l l.length j).length := by simp [natsI]
      have hkl2 := intsL_len (natsI (kidsTo l l.length j))
      have hkk := kidsTo_len (l := l) (k := l.length) (p := j)
      have hsl : ((endTo l (j + 1)).set j ((j + 1 : Nat) : Int)).length = l.length := by simp [hel]
      have hsll := intsL_len ((endTo l (j + 1)).set j ((j + 1 : Nat) : Int))
      have hse := endTo_set (l := l) (k := j + 1) (by omega) (by omega)
      simp -implicitDefEqProofs only [Nat.add_sub_cancel] at hse
      have wd : IntKind.i64.wrap ((j : Int) - 1) = ((j : Int) - 1) := wrap_i64 (by omega) (by omega)
      by_cases hk1 : kidsTo l l.length j = []
      · have hm0 : decide ((((kidsTo l l.length j).length : Nat) : Int) > 0) = false := by rw [hk1]; rfl
        have he := endS_leaf hk1
        rw [he] at hse
        repeat' (first | (simp -implicitDefEqProofs only [go_sem, ↓reduceIte, Nat.reduceEqDiff, Nat.reduceAdd, Nat.reduceSub, Nat.reduceMul, Nat.reduceLeDiff, Nat.reduceLT, reduceCtorEq, Int.reduceToNat, hel, hell, he1, hktl, hktg, hkrg, ej, wj, hm0, rvs_set1, hse, wd]) | (with_reducible refine g_noent ?_) | (refine cdS (fun hg => ?_) (fun hg => ?_) <;> try simp -implicitDefEqProofs only [hg, Bool.not_true, Bool.not_false]) | (refine gdS (fun hg => ?_) (fun hg => ?_) <;> try simp -implicitDefEqProofs only [hg, Bool.not_true, Bool.not_false]) | (refine gddS (fun hg => ?_) (fun hg => ?_) <;> try simp -implicitDefEqProofs only [hg, Bool.not_true, Bool.not_false]) | ((with_reducible apply And.intro); focus (first | trivial | omega | decide | (simp -implicitDefEqProofs only [maxLen]; omega) | (simp [maxLen, sty_len, nd_len, ndL_len, lnL_len, intsL_len, rvs_len, lensS_len]; done) | (simp [maxLen, sty_len, nd_len, ndL_len, lnL_len, intsL_len, rvs_len, lensS_len]; omega))) | fail)
        refine hN j _ _ (by omega) (by omega) (ent_env (by simp [lk]))
      · obtain ⟨c, hc⟩ : ∃ c, (kidsTo l l.length j).getLast? = some c := by
          cases h : (kidsTo l l.length j).getLast? with
          | none => exact absurd (List.getLast?_eq_none_iff.1 h) hk1
          | some c => exact ⟨c, rfl⟩
        have hpos : 0 < (kidsTo l l.length j).length := List.length_pos_iff.2 hk1
        have hm0 : decide ((((kidsTo l l.length j).length : Nat) : Int) > 0) = true := decide_eq_true (by omega)
        have hcm : c ∈ kidsOf l j := List.mem_of_getLast? hc
        obtain ⟨c1, c2, c3⟩ := mem_kids.1 hcm
        have hcj : j < c := by have := (hs.wf.2 c c1 c2).2; omega
        have he := endS_last hc hcj c2
        rw [he] at hse
        have wm := wrap_dn hpos (by omega)
        have hcg : (natsI (kidsTo l l.length j)).getD ((kidsTo l l.length j).length - 1) 0 = (c : Int) := by
          rw [List.getLast?_eq_getElem?] at hc
          simp [natsI, List.getD_eq_getElem?_getD, hc]
        have hcx := intsL_getD (l := natsI (kidsTo l l.length j)) (i := (kidsTo l l.length j).length - 1) (by omega)
        rw [hcg] at hcx
        have hec := intsL_getD (l := (endTo l (j + 1)).set j ((j + 1 : Nat) : Int)) (i := c) (by omega)
        have hev := endTo_get (l := l) (k := j + 1) (j := c) (v := ((j + 1 : Nat) : Int)) (by omega) (by omega) c2
        simp -implicitDefEqProofs only [Nat.add_sub_cancel] at hev
        rw [hev] at hec
        have hej := intsL_getD (l := (endTo l (j + 1)).set j ((j + 1 : Nat) : Int)) (i := j) (by omega)
        have hset : ((endTo l (j + 1)).set j ((j + 1 : Nat) : Int)).set j (endS l c) = endTo l j := by rw [List.set_set, hse]
        repeat' (first | (simp -implicitDefEqProofs only [go_sem, ↓reduceIte, Nat.reduceEqDiff, Nat.reduceAdd, Nat.reduceSub, Nat.reduceMul, Nat.reduceLeDiff, Nat.reduceLT, reduceCtorEq, Int.reduceToNat, hel, hell, he1, hktl, hktg, hkrg, ej, wj, hm0, rvs_set1, wd, wm, hcx, hec, hej, hset, hsl, hsll, hkl, hkl2]) | (with_reducible refine g_noent ?_) | (refine cdS (fun hg => ?_) (fun hg => ?_) <;> try simp -implicitDefEqProofs only [hg, Bool.not_true, Bool.not_false]) | (refine gdS (fun hg => ?_) (fun hg => ?_) <;> try simp -implicitDefEqProofs only [hg, Bool.not_true, Bool.not_false]) | (refine gddS (fun hg => ?_) (fun hg => ?_) <;> try simp -implicitDefEqProofs only [hg, Bool.not_true, Bool.not_false]) | ((with_reducible apply And.intro); focus (first | trivial | omega | decide | (simp -implicitDefEqProofs only [maxLen]; omega) | (simp [maxLen, sty_len, nd_len, ndL_len, lnL_len, intsL_len, rvs_len, lensS_len]; done) | (simp [maxLen, sty_len, nd_len, ndL_len, lnL_len, intsL_len, rvs_len, lensS_len]; omega))) | fail)
        refine hN j _ _ (by omega) (by omega) (ent_env (by simp [lk]))
    · obtain rfl : k = 0 := by simp at hg; omega
      simp -implicitDefEqProofs only [go_sem, ↓reduceIte, Nat.reduceEqDiff, Nat.reduceAdd, Nat.reduceSub, Nat.reduceMul, Nat.reduceLeDiff, Nat.reduceLT, reduceCtorEq, Int.reduceToNat]
      refine hX _ _ _ ?_
      repeat' (first | (simp -implicitDefEqProofs only [go_sem, ↓reduceIte, Nat.reduceEqDiff, Nat.reduceAdd, Nat.reduceSub, Nat.reduceMul, Nat.reduceLeDiff, Nat.reduceLT, reduceCtorEq, Int.reduceToNat]) | (with_reducible refine g_noent ?_) | (refine cdS (fun hg => ?_) (fun hg => ?_) <;> try simp -implicitDefEqProofs only [hg, Bool.not_true, Bool.not_false]) | (refine gdS (fun hg => ?_) (fun hg => ?_) <;> try simp -implicitDefEqProofs only [hg, Bool.not_true, Bool.not_false]) | (refine gddS (fun hg => ?_) (fun hg => ?_) <;> try simp -implicitDefEqProofs only [hg, Bool.not_true, Bool.not_false]) | ((with_reducible apply And.intro); focus (first | trivial | omega | decide | (simp -implicitDefEqProofs only [maxLen]; omega) | (simp [maxLen, sty_len, nd_len, ndL_len, lnL_len, intsL_len, rvs_len, lensS_len]; done) | (simp [maxLen, sty_len, nd_len, ndL_len, lnL_len, intsL_len, rvs_len, lensS_len]; omega))) | fail)
      refine (hK _ _ ?_).2
      rw [endTo_zero]
      exact ⟨trivial, rn_tup.2 ⟨.fz _ _ (kin_fz l), rn_rv.2 rfl, trivial⟩⟩

theorem sp_kin_Of_bad (l : List Nd) (hb : l.length ≤ 8589934592) (hc : chk l ≠ 0) : CallR Go.Proofs.Try.prog 17 [.rv (.sl 49 (ndL l))] [] [] (.tup [.rv .nilp, .rv (.int .i64 (chk l))]) := by
  refine callR_G k_kin_Of [.rv (.sl 49 (ndL l))] _ (by simp) (by simp [BkAll, bk_agg, bkAll_map, bk_rv, bk_fn, Sty.sv, Ln.sv, Nd.sv]) (fun K hK => ?_)
  have e00 : ((chk l) != 0) = true := by simpa using hc
  simp -implicitDefEqProofs only [c_kin_Of, go_sem, ↓reduceIte, Nat.reduceEqDiff, Nat.reduceAdd, Nat.reduceSub, Nat.reduceMul, Nat.reduceLeDiff, Nat.reduceLT, reduceCtorEq, Int.reduceToNat]
  have hcall3 := sp_tree_Check l hb; repeat' (first | (simp -implicitDefEqProofs only [go_sem, ↓reduceIte, Nat.reduceEqDiff, Nat.reduceAdd, Nat.reduceSub, Nat.reduceMul, Nat.reduceLeDiff, Nat.reduceLT, reduceCtorEq, Int.reduceToNat, e00]) | (with_reducible refine g_noent ?_) | (with_reducible refine g_call0 hcall3 ?_) | (with_reducible refine g_calld0 hcall3 ?_) | (refine cdS (fun hg => ?_) (fun hg => ?_) <;> try simp -implicitDefEqProofs only [hg, Bool.not_true, Bool.not_false]) | (refine gdS (fun hg => ?_) (fun hg => ?_) <;> try simp -implicitDefEqProofs only [hg, Bool.not_true, Bool.not_false]) | (refine gddS (fun hg => ?_) (fun hg => ?_) <;> try simp -implicitDefEqProofs only [hg, Bool.not_true, Bool.not_false]) | ((with_reducible apply And.intro); focus (first | trivial | omega | decide | (simp -implicitDefEqProofs only [maxLen]; omega) | (simp [maxLen, sty_len, nd_len, ndL_len, lnL_len, intsL_len, rvs_len, lensS_len]; done) | (simp [maxLen, sty_len, nd_len, ndL_len, lnL_len, intsL_len, rvs_len, lensS_len]; omega))) | fail)
  exact (hK _ _ ⟨trivial, rn_tup.2 ⟨rn_rv.2 rfl, rn_rv.2 rfl, trivial⟩⟩).2
end Go.Eng


/- kin: what is told of a node. -/
namespace Go.Eng
open Go
/- (*decoupage/kin.Kin).Len -/
def c_kin_Kin_Len : AC := (.seq (.reg [⟨(some 2), .mv, [(.c (.rv (.int .i64 0)))], none⟩]) (.seq (.seq (.reg [⟨(some 3), .mv, [(.t 0)], none⟩, ⟨(some 4), (.eqnil false), [(.t 3)], none⟩]) (.cond (.t 4) (.seq (.reg [⟨(some 2), .mv, [(.c (.rv (.int .i64 0)))], none⟩]) .ret) .skip)) (.seq (.reg [⟨(some 5), .mv, [(.t 0)], none⟩, ⟨(some 6), .nilchk, [(.t 5)], none⟩, ⟨(some 7), (.fld 0), [(.t 6)], none⟩, ⟨(some 8), (.load 1 false), [(.t 7)], none⟩, ⟨(some 9), .len, [(.t 8)], none⟩, ⟨(some 2), .mv, [(.t 9)], none⟩]) .ret)))
theorem k_kin_Kin_Len : FnOK Go.Proofs.Try.prog 48 10 c_kin_Kin_Len [(.t 2)] := fnOK_of (by kernel_rfl)

/- (*decoupage/kin.Kin).has -/
def c_kin_Kin_has : AC := (.seq (.reg [⟨(some 4), .mv, [(.c (.rv (.bool false)))], none⟩]) (.seq (.reg [⟨(some 5), .mv, [(.t 1)], none⟩, ⟨(some 6), (.ibin .geq), [(.t 5), (.c (.rv (.int .i64 0)))], none⟩, ⟨(some 7), .mv, [(.t 6)], none⟩, ⟨(some 8), .mv, [(.t 1)], (some (7, true))⟩, ⟨(some 9), .mv, [(.t 0)], (some (7, true))⟩, ⟨(some 10), (.call 48), [(.t 9)], (some (7, true))⟩, ⟨(some 11), (.ibin .lss), [(.t 8), (.t 10)], (some (7, true))⟩, ⟨(some 12), .pick, [(.t 7), (.t 11), (.c (.rv (.bool false)))], none⟩, ⟨(some 4), .mv, [(.t 12)], none⟩]) .ret))
theorem k_kin_Kin_has : FnOK Go.Proofs.Try.prog 54 13 c_kin_Kin_has [(.t 4)] := fnOK_of (by kernel_rfl)

/- (*decoupage/kin.Kin).Below -/
def c_kin_Kin_Below : AC := (.seq (.reg [⟨(some 6), .mv, [(.c (.rv (.bool false)))], none⟩]) (.seq (.reg [⟨(some 7), .mv, [(.t 0)], none⟩, ⟨(some 8), .mv, [(.t 1)], none⟩, ⟨(some 9), (.call 54), [(.t 7), (.t 8)], none⟩, ⟨(some 10), .mv, [(.t 9)], none⟩, ⟨(some 11), .mv, [(.t 0)], (some (10, true))⟩, ⟨(some 12), .mv, [(.t 2)], (some (10, true))⟩, ⟨(some 13), (.call 54), [(.t 11), (.t 12)], (some (10, true))⟩, ⟨(some 14), .pick, [(.t 10), (.t 13), (.c (.rv (.bool false)))], none⟩, ⟨(some 15), .mv, [(.t 14)], none⟩, ⟨(some 16), .mv, [(.t 2)], (some (15, true))⟩, ⟨(some 17), .mv, [(.t 1)], (some (15, true))⟩, ⟨(some 18), (.ibin .geq), [(.t 16), (.t 17)], (some (15, true))⟩, ⟨(some 19), .pick, [(.t 15), (.t 18), (.c (.rv (.bool false)))], none⟩, ⟨(some 20), .mv, [(.t 19)], none⟩, ⟨(some 21), .mv, [(.t 2)], (some (20, true))⟩, ⟨(some 22), .mv, [(.t 0)], (some (20, true))⟩, ⟨(some 23), .nilchk, [(.t 22)], (some (20, true))⟩, ⟨(some 24), (.fld 2), [(.t 23)], (some (20, true))⟩, ⟨(some 25), (.load 1 false), [(.t 24)], (some (20, true))⟩, ⟨(some 26), .mv, [(.t 1)], (some (20, true))⟩, ⟨(some 27), (.ixs 1), [(.t 25), (.t 26)], (some (20, true))⟩, ⟨(some 28), (.load 1 false), [(.t 27)], (some (20, true))⟩, ⟨(some 29), (.ibin .lss), [(.t 21), (.t 28)], (some (20, true))⟩, ⟨(some 30), .pick, [(.t 20), (.t 29), (.c (.rv (.bool false)))], none⟩, ⟨(some 6), .mv, [(.t 30)], none⟩]) .ret))
theorem k_kin_Kin_Below : FnOK Go.Proofs.Try.prog 84 31 c_kin_Kin_Below [(.t 6)] := fnOK_of (by kernel_rfl)


def inL (l : List Nd) (n : Int) : Bool := decide (n ≥ 0) && decide (n < l.length)
theorem inL_nat {l : List Nd} {n : Int} (h : inL l n = true) : ∃ k : Nat, n = k ∧ k < l.length := by
  simp [inL] at h; exact ⟨n.toNat, by omega, by omega⟩
theorem inL_of {l : List Nd} {k : Nat} (h : k < l.length) : inL l k = true := by simp [inL, h]
def styAt (l : List Nd) (n : Int) : Sty := if inL l n = true then (l.getD n.toNat default).s else default
def parAt (l : List Nd) (n : Int) : Int := if inL l n = true then parL l n.toNat else -1
def endAt (l : List Nd) (n : Int) : Int := if inL l n = true then endS l n.toNat else 0
def deepAt (l : List Nd) (n : Int) : Int := if inL l n = true then depth l n.toNat else 0
def madeAt (l : List Nd) (n : Int) : Bool := inL l n && madeS l n.toNat
def outAt (l : List Nd) (n : Int) : Bool := madeAt l n && decide (n > 0) && (decide ((styAt l n).position = 2) || decide ((styAt l n).position = 3))
def belowAt (l : List Nd) (a n : Int) : Bool := inL l a && inL l n && decide (n ≥ a) && decide (n < endAt l a)

theorem ends_len (l : List Nd) : (intsL (endsL l)).length = l.length := by simp [intsL, endsL]
theorem ends_get {l : List Nd} {k : Nat} (h : k < l.length) : (intsL (endsL l))[k]?.getD [] = [.int .i64 (endS l k)] := by simp [intsL, endsL, h]
theorem ret_c {τ : Nat → Option Nat} {h : List (Option HB)} {env : List (Nat × SV)} {a n id : Nat} {rs : List RV} (hl : lk env a = .ptr id 0) (hh : hget h id = some (.var (rs.map .rv))) (hn : rs.length = n) : retP τ (hget h) (.agg (rs.map .rv)) (resL (lk env) (hget h) [.c a n true]) := by
  simp [resL, retP, resT, hl, loadE, hh, hn]
  rw [List.take_of_length_le (by simp [hn])]; exact rn_agg.2 (rnAll_map.2 rfl)

section
variable (l : List Nd) (hb : l.length ≤ 8589934592) (n : Int)

theorem sp_Len : CallR Go.Proofs.Try.prog 48 [.rv (kinV l)] [] [] (.rv (.int .i64 l.length)) := by
  refine callR_G k_kin_Kin_Len [.rv (kinV l)] _ (by simp) (by simp [BkAll, bk_agg, bkAll_map, bk_rv, bk_fn, Sty.sv, Ln.sv, Nd.sv]) (fun K hK => ?_)
  simp -implicitDefEqProofs only [c_kin_Kin_Len, go_sem, ↓reduceIte, Nat.reduceEqDiff, Nat.reduceAdd, Nat.reduceSub, Nat.reduceMul, Nat.reduceLeDiff, Nat.reduceLT, reduceCtorEq, Int.reduceToNat]
  repeat' (first | (simp -implicitDefEqProofs only [go_sem, ↓reduceIte, Nat.reduceEqDiff, Nat.reduceAdd, Nat.reduceSub, Nat.reduceMul, Nat.reduceLeDiff, Nat.reduceLT, reduceCtorEq, Int.reduceToNat, ndL_len, kinV]) | (with_reducible refine g_noent ?_) | (refine cdS (fun hg => ?_) (fun hg => ?_) <;> try simp -implicitDefEqProofs only [hg, Bool.not_true, Bool.not_false]) | (refine gdS (fun hg => ?_) (fun hg => ?_) <;> try simp -implicitDefEqProofs only [hg, Bool.not_true, Bool.not_false]) | (refine gddS (fun hg => ?_) (fun hg => ?_) <;> try simp -implicitDefEqProofs only [hg, Bool.not_true, Bool.not_false]) | ((with_reducible apply And.intro); focus (first | trivial | omega | decide | (simp -implicitDefEqProofs only [maxLen]; omega) | (simp [maxLen, sty_len, nd_len, ndL_len, lnL_len, intsL_len, rvs_len, lensS_len]; done) | (simp [maxLen, sty_len, nd_len, ndL_len, lnL_len, intsL_len, rvs_len, lensS_len]; omega))) | fail)
  exact (hK _ _ (ret_t rfl)).2

theorem sp_has : CallR Go.Proofs.Try.prog 54 [.rv (kinV l), .rv (.int .i64 n)] [] [] (.rv (.bool (inL l n))) := by
  refine callR_G k_kin_Kin_has [.rv (kinV l), .rv (.int .i64 n)] _ (by simp) (by simp [BkAll, bk_agg, bkAll_map, bk_rv, bk_fn, Sty.sv, Ln.sv, Nd.sv]) (fun K hK => ?_)
  simp -implicitDefEqProofs only [c_kin_Kin_has, go_sem, ↓reduceIte, Nat.reduceEqDiff, Nat.reduceAdd, Nat.reduceSub, Nat.reduceMul, Nat.reduceLeDiff, Nat.reduceLT, reduceCtorEq, Int.reduceToNat]
  have hcall1 := sp_Len l; repeat' (first | (simp -implicitDefEqProofs only [go_sem, ↓reduceIte, Nat.reduceEqDiff, Nat.reduceAdd, Nat.reduceSub, Nat.reduceMul, Nat.reduceLeDiff, Nat.reduceLT, reduceCtorEq, Int.reduceToNat]) | (with_reducible refine g_noent ?_) | (with_reducible refine g_call0 hcall1 ?_) | (with_reducible refine g_calld0 hcall1 ?_) | (refine cdS (fun hg => ?_) (fun hg => ?_) <;> try simp -implicitDefEqProofs only [hg, Bool.not_true, Bool.not_false]) | (refine gdS (fun hg => ?_) (fun hg => ?_) <;> try simp -implicitDefEqProofs only [hg, Bool.not_true, Bool.not_false]) | (refine gddS (fun hg => ?_) (fun hg => ?_) <;> try simp -implicitDefEqProofs only [hg, Bool.not_true, Bool.not_false]) | ((with_reducible apply And.intro); focus (first | trivial | omega | decide | (simp -implicitDefEqProofs only [maxLen]; omega) | (simp [maxLen, sty_len, nd_len, ndL_len, lnL_len, intsL_len, rvs_len, lensS_len]; done) | (simp [maxLen, sty_len, nd_len, ndL_len, lnL_len, intsL_len, rvs_len, lensS_len]; omega))) | fail)
  all_goals (try ((first | refine (hK _ _ _ _ [] (ent_refl _ _) ?_).2 | refine (hK _ _ ?_).2 | refine (hK _ _ _ _ [] (ent_refl _ _) ?_).1 | refine (hK _ _ ?_).1 | fail); clear hK; (simp_all [retM, nodupL, newL, allU, keptL, retP, resL, lk, resT, RnHo, lkp, finU, hget_zero, hget_succ, hget, rnRows_rvs, rn_tup, rn_rv, rn_row, rn_ptr, rn_ifc, rn_agg, rn_dead, RnAll, ofL, rnAll_map, beqD, inL]) <;> try omega))

theorem sp_Below (a : Int) : CallR Go.Proofs.Try.prog 84 [.rv (kinV l), .rv (.int .i64 a), .rv (.int .i64 n)] [] [] (.rv (.bool (belowAt l a n))) := by
  refine callR_G k_kin_Kin_Below [.rv (kinV l), .rv (.int .i64 a), .rv (.int .i64 n)] _ (by simp) (by simp [BkAll, bk_agg, bkAll_map, bk_rv, bk_fn, Sty.sv, Ln.sv, Nd.sv]) (fun K hK => ?_)
  have hh := sp_has l a
  simp -implicitDefEqProofs only [c_kin_Kin_Below, go_sem, ↓reduceIte, Nat.reduceEqDiff, Nat.reduceAdd, Nat.reduceSub, Nat.reduceMul, Nat.reduceLeDiff, Nat.reduceLT, reduceCtorEq, Int.reduceToNat]
  cases hi : inL l a with
  | false =>
    rw [hi] at hh
    have hcall10 := hh; repeat' (first | (simp -implicitDefEqProofs only [go_sem, ↓reduceIte, Nat.reduceEqDiff, Nat.reduceAdd, Nat.reduceSub, Nat.reduceMul, Nat.reduceLeDiff, Nat.reduceLT, reduceCtorEq, Int.reduceToNat]) | (with_reducible refine g_noent ?_) | (with_reducible refine g_call0 hcall10 ?_) | (with_reducible refine g_calld0 hcall10 ?_) | (refine cdS (fun hg => ?_) (fun hg => ?_) <;> try simp -implicitDefEqProofs only [hg, Bool.not_true, Bool.not_false]) | (refine gdS (fun hg => ?_) (fun hg => ?_) <;> try simp -implicitDefEqProofs only [hg, Bool.not_true, Bool.not_false]) | (refine gddS (fun hg => ?_) (fun hg => ?_) <;> try simp -implicitDefEqProofs only [hg, Bool.not_true, Bool.not_false]) | ((with_reducible apply And.intro); focus (first | trivial | omega | decide | (simp -implicitDefEqProofs only [maxLen]; omega) | (simp [maxLen, sty_len, nd_len, ndL_len, lnL_len, intsL_len, rvs_len, lensS_len]; done) | (simp [maxLen, sty_len, nd_len, ndL_len, lnL_len, intsL_len, rvs_len, lensS_len]; omega))) | fail)
    exact (hK _ _ (ret_t (by simp [belowAt, hi, lk]))).2
  | true =>
    rw [hi] at hh
    obtain ⟨k, rfl, hk⟩ := inL_nat hi
    have he : endAt l k = endS l k := by simp [endAt, hi]
    have hcall11 := hh; have hcall12 := sp_has l n; repeat' (first | (simp -implicitDefEqProofs only [go_sem, ↓reduceIte, Nat.reduceEqDiff, Nat.reduceAdd, Nat.reduceSub, Nat.reduceMul, Nat.reduceLeDiff, Nat.reduceLT, reduceCtorEq, Int.reduceToNat, ends_len, ends_get hk, kinV]) | (with_reducible refine g_noent ?_) | (with_reducible refine g_call0 hcall11 ?_) | (with_reducible refine g_calld0 hcall11 ?_) | (with_reducible refine g_call0 hcall12 ?_) | (with_reducible refine g_calld0 hcall12 ?_) | (refine cdS (fun hg => ?_) (fun hg => ?_) <;> try simp -implicitDefEqProofs only [hg, Bool.not_true, Bool.not_false]) | (refine gdS (fun hg => ?_) (fun hg => ?_) <;> try simp -implicitDefEqProofs only [hg, Bool.not_true, Bool.not_false]) | (refine gddS (fun hg => ?_) (fun hg => ?_) <;> try simp -implicitDefEqProofs only [hg, Bool.not_true, Bool.not_false]) | ((with_reducible apply And.intro); focus (first | trivial | omega | decide | (simp -implicitDefEqProofs only [maxLen]; omega) | (simp [maxLen, sty_len, nd_len, ndL_len, lnL_len, intsL_len, rvs_len, lensS_len]; done) | (simp [maxLen, sty_len, nd_len, ndL_len, lnL_len, intsL_len, rvs_len, lensS_len]; omega))) | fail)
    all_goals (refine (hK _ _ (ret_t ?_)).2; rw [belowAt, hi, he]; clear hK he; (simp_all [lk]) <;> (try (intros; omega)))
end
end Go.Eng


/- kin: children, and those above. -/
namespace Go.Eng
open Go
def kidsAt (l : List Nd) (n : Int) : List Nat := if inL l n = true then kidsOf l n.toNat else []
def upAt (l : List Nd) (n : Int) : List Nat := if inL l n = true then (pth l n.toNat).drop 1 else []
def stayAt (l : List Nd) (m : Int) : Bool := madeAt l m && !outAt l m
def flowAt (l : List Nd) (n : Int) : List Nat := (kidsAt l n).filter fun (m : Nat) => stayAt l m
theorem natsI_len (l : List Nat) : (natsI l).length = l.length := by simp [natsI]
section
variable (l : List Nd) (hb : l.length ≤ 8589934592) (n : Int)

end

section
variable (f : Nat) (i j v : Nat) (cap : RV) (p : Int → Bool) (hij : i ≠ j) (hf : ∀ (m : Int) (j : Nat), CallR Go.Proofs.Try.prog f [.rv (.int .i64 m), .ptr j 0] [(j, .var [.rv cap])] [] (.rv (.bool (p m))))
include hij hf

/-- What is left, and the rest cleared. -/
def leftL (ys : List Int) (p : Int → Bool) : List Int := ys.filter fun y => !p y
def clearedL (ys : List Int) (p : Int → Bool) : List Int := leftL ys p ++ List.replicate (ys.length - (leftL ys p).length) 0

end

section
variable (l : List Nd) (n : Int)

end
end Go.Eng


/- kin: the document's functions. -/
namespace Go.Eng
open Go
/- decoupage/decoupageref08.Kids -/
def c_decoupageref08_Kids : AC := (.seq (.reg [⟨(some 4), .mv, [(.c (.rv .nilsl))], none⟩]) (.seq (.reg [⟨(some 5), .mv, [(.c (.rv .nilsl))], none⟩]) (.seq (.seq (.reg [⟨(some 7), .mv, [(.t 0)], none⟩, ⟨(some 8), .len, [(.t 7)], none⟩, ⟨(some 9), .mv, [(.c (.rv (.int .i64 0)))], none⟩]) (.seq (.block 0 (.loop (.seq (.reg [⟨(some 10), (.ibin .lss), [(.t 9), (.t 8)], none⟩]) (.seq (.cond (.t 10) .skip (.exit 0)) (.seq (.seq (.block 1 (.seq (.reg [⟨(some 11), .mv, [(.t 9)], none⟩, ⟨(some 6), .mv, [(.t 11)], none⟩]) (.seq (.reg [⟨(some 12), .mv, [(.t 6)], none⟩, ⟨(some 13), (.ibin .gtr), [(.t 12), (.c (.rv (.int .i64 0)))], none⟩, ⟨(some 14), .mv, [(.t 13)], none⟩, ⟨(some 15), .mv, [(.t 0)], (some (14, true))⟩, ⟨(some 16), .mv, [(.t 6)], (some (14, true))⟩, ⟨(some 17), (.ixs 49), [(.t 15), (.t 16)], (some (14, true))⟩, ⟨(some 18), (.fld 48), [(.t 17)], (some (14, true))⟩, ⟨(some 19), (.load 1 false), [(.t 18)], (some (14, true))⟩, ⟨(some 20), .mv, [(.t 1)], (some (14, true))⟩, ⟨(some 21), (.ibin .eql), [(.t 19), (.t 20)], (some (14, true))⟩, ⟨(some 22), .pick, [(.t 14), (.t 21), (.c (.rv (.bool false)))], none⟩]) (.seq (.cond (.t 22) (.reg [⟨(some 23), .mv, [(.t 5)], none⟩, ⟨(some 24), .mv, [(.t 6)], none⟩, ⟨(some 25), (.bsl 1), [(.t 24)], none⟩, ⟨(some 26), (.app 1 8), [(.t 23), (.t 25)], none⟩, ⟨(some 5), .mv, [(.t 26)], none⟩]) .skip) .ent)))) .ent) (.reg [⟨(some 27), (.ibin .add), [(.t 9), (.c (.rv (.int .i64 1)))], none⟩, ⟨(some 9), .mv, [(.t 27)], none⟩])))))) .ent)) (.seq (.reg [⟨(some 28), .mv, [(.t 5)], none⟩, ⟨(some 4), .mv, [(.t 28)], none⟩]) .ret))))
theorem k_decoupageref08_Kids : FnOK Go.Proofs.Try.prog 34 29 c_decoupageref08_Kids [(.t 4)] := fnOK_of (by kernel_rfl)

/- decoupage/decoupageref08.Below -/
def c_decoupageref08_Below : AC := (.seq (.reg [⟨(some 6), .mv, [(.c (.rv (.bool false)))], none⟩]) (.seq (.reg [⟨(some 7), .mv, [(.t 1)], none⟩, ⟨(some 8), (.ibin .geq), [(.t 7), (.c (.rv (.int .i64 0)))], none⟩, ⟨(some 9), .mv, [(.t 8)], none⟩, ⟨(some 10), .mv, [(.t 1)], (some (9, true))⟩, ⟨(some 11), .mv, [(.t 0)], (some (9, true))⟩, ⟨(some 12), .len, [(.t 11)], (some (9, true))⟩, ⟨(some 13), (.ibin .lss), [(.t 10), (.t 12)], (some (9, true))⟩, ⟨(some 14), .pick, [(.t 9), (.t 13), (.c (.rv (.bool false)))], none⟩, ⟨(some 15), .mv, [(.t 14)], none⟩, ⟨(some 16), .mv, [(.t 2)], (some (15, true))⟩, ⟨(some 17), (.ibin .geq), [(.t 16), (.c (.rv (.int .i64 0)))], (some (15, true))⟩, ⟨(some 18), .pick, [(.t 15), (.t 17), (.c (.rv (.bool false)))], none⟩, ⟨(some 19), .mv, [(.t 18)], none⟩, ⟨(some 20), .mv, [(.t 2)], (some (19, true))⟩, ⟨(some 21), .mv, [(.t 0)], (some (19, true))⟩, ⟨(some 22), .len, [(.t 21)], (some (19, true))⟩, ⟨(some 23), (.ibin .lss), [(.t 20), (.t 22)], (some (19, true))⟩, ⟨(some 24), .pick, [(.t 19), (.t 23), (.c (.rv (.bool false)))], none⟩, ⟨(some 25), .mv, [(.t 24)], none⟩, ⟨(some 26), .mv, [(.t 0)], (some (25, true))⟩, ⟨(some 27), .mv, [(.t 1)], (some (25, true))⟩, ⟨(some 28), .mv, [(.t 2)], (some (25, true))⟩, ⟨(some 29), (.call 89), [(.t 26), (.t 27), (.t 28)], (some (25, true))⟩, ⟨(some 30), .pick, [(.t 25), (.t 29), (.c (.rv (.bool false)))], none⟩, ⟨(some 6), .mv, [(.t 30)], none⟩]) .ret))
theorem k_decoupageref08_Below : FnOK Go.Proofs.Try.prog 61 31 c_decoupageref08_Below [(.t 6)] := fnOK_of (by kernel_rfl)

theorem tree_shp {l : List Nd} (ht : treeOK l = true) : Shp l := shape_iff.1 (by unfold treeOK at ht; simp -implicitDefEqProofs only [Bool.and_eq_true] at ht; exact ht.1)
theorem chk_tree {l : List Nd} (h : chk l = 0) : treeOK l = true := by
  unfold chk at h
  cases ht : treeOK l with
  | true => rfl
  | false => rw [ht] at h; simp at h

theorem inL_cases (l : List Nd) (n : Int) : (n < 0 ∧ inL l n = false) ∨ ((l.length : Int) ≤ n ∧ 0 ≤ n ∧ inL l n = false) ∨ ∃ k : Nat, n = k ∧ k < l.length ∧ inL l n = true := by
  by_cases h0 : n < 0
  · exact .inl ⟨h0, by simp [inL]; omega⟩
  · by_cases h1 : n < l.length
    · exact .inr (.inr ⟨n.toNat, by omega, by omega, by simp [inL]; omega⟩)
    · exact .inr (.inl ⟨by omega, by omega, by simp [inL]; omega⟩)

theorem sp_ref08_Kids (l : List Nd) (hb : l.length ≤ 8589934592) (n : Nat) (hn : n < l.length) : CallR Go.Proofs.Try.prog 34 [.rv (.sl 49 (ndL l)), .rv (.int .i64 n)] [] [] (.rv (.sl 1 (intsL (natsI (kidsOf l n))))) := by
  refine callR_G k_decoupageref08_Kids [.rv (.sl 49 (ndL l)), .rv (.int .i64 n)] _ (by simp) (by simp [BkAll, bk_agg, bkAll_map, bk_rv, bk_fn, Sty.sv, Ln.sv, Nd.sv]) (fun K hK => ?_)
  have hlen := ndL_len l
  simp -implicitDefEqProofs only [c_decoupageref08_Kids, hlen, go_sem, ↓reduceIte, Nat.reduceEqDiff, Nat.reduceAdd, Nat.reduceSub, Nat.reduceMul, Nat.reduceLeDiff, Nat.reduceLT, reduceCtorEq, Int.reduceToNat]
  refine g_loop (ι := Nat) (fun k => [(9, .rv (.int .i64 k)), (8, .rv (.int .i64 l.length)), (5, .row 0 (kidsTo l k n).length (kidsTo l k n).length), (0, .rv (.sl 49 (ndL l))), (1, .rv (.int .i64 n))]) (fun k => [some (.row 1 (kidsTo l k n).length (rvs (intsL (natsI (kidsTo l k n)))))]) (fun k => k ≤ l.length) (fun k => l.length - k) 0 (by simp) ((ent_ghostv 5 1 0 rfl).trans (ent_env (by simp [lk, kidsTo_zero]))) (fun k hk K' hN hX hR => ?_)
  simp -implicitDefEqProofs only [go_sem, ↓reduceIte, Nat.reduceEqDiff, Nat.reduceAdd, Nat.reduceSub, Nat.reduceMul, Nat.reduceLeDiff, Nat.reduceLT, reduceCtorEq, Int.reduceToNat]
  refine cdS (fun hg => ?_) (fun hg => ?_)
  · have hk4 : k < l.length := by simp at hg; omega
    have hx := ndL_get hk4
    have hpk := parL_eq hk4
    have wu := wrap_up (k := k) (by omega)
    have hkl := kidsTo_len (l := l) (k := k) (p := n)
    have hs := kidsTo_succ (l := l) (k := k) (p := n)
    by_cases hc : 0 < k ∧ parL l k = n
    · rw [if_pos hc] at hs
      have e1 : decide ((k : Int) > 0) = true := decide_eq_true (by omega)
      have e2 : (parL l k == (n : Int)) = true := by simp [hc.2]
      have htl : (intsL (natsI (kidsTo l k n))).length = (kidsTo l k n).length := by simp [intsL, natsI]
      have htk : (intsL (natsI (kidsTo l k n))).take (kidsTo l k n).length = intsL (natsI (kidsTo l k n)) := List.take_of_length_le (by omega)
      have hap : natsI (kidsTo l k n) ++ [(k : Int)] = natsI (kidsTo l (k + 1) n) := by rw [hs]; simp [natsI]
      have hll : (kidsTo l (k + 1) n).length = (kidsTo l k n).length + 1 := by rw [hs]; simp
      repeat' (first | (simp -implicitDefEqProofs only [go_sem, ↓reduceIte, Nat.reduceEqDiff, Nat.reduceAdd, Nat.reduceSub, Nat.reduceMul, Nat.reduceLeDiff, Nat.reduceLT, reduceCtorEq, Int.reduceToNat, e1, e2, hlen, hx, nd_len, nd_drop0, hpk, wu, htl, htk, rvs_app1, hap]) | (with_reducible refine g_noent ?_) | (refine cdS (fun hg => ?_) (fun hg => ?_) <;> try simp -implicitDefEqProofs only [hg, Bool.not_true, Bool.not_false]) | (refine gdS (fun hg => ?_) (fun hg => ?_) <;> try simp -implicitDefEqProofs only [hg, Bool.not_true, Bool.not_false]) | (refine gddS (fun hg => ?_) (fun hg => ?_) <;> try simp -implicitDefEqProofs only [hg, Bool.not_true, Bool.not_false]) | ((with_reducible apply And.intro); focus (first | trivial | omega | decide | (simp -implicitDefEqProofs only [maxLen]; omega) | (simp [maxLen, sty_len, nd_len, ndL_len, lnL_len, intsL_len, rvs_len, lensS_len]; done) | (simp [maxLen, sty_len, nd_len, ndL_len, lnL_len, intsL_len, rvs_len, lensS_len]; omega))) | fail)
      refine hN (k + 1) _ _ (by omega) (by omega) ?_
      rw [hll]
      exact ent_tail (h' := [some (.row 1 ((kidsTo l k n).length + 1) (rvs (intsL (natsI (kidsTo l (k + 1) n)))))]) (C := [some (.row 1 0 [[.rv (.int .i64 k)]])]) (by simp) ⟨clH_rvs, trivial⟩ (by simp [ClEnv, lk, clS_rv, clS_row])
    · rw [if_neg hc, List.append_nil] at hs
      have nx : ∀ e, ClEnv 1 e [(9, .rv (.int .i64 (k + 1 : Nat))), (8, .rv (.int .i64 l.length)), (5, .row 0 (kidsTo l k n).length (kidsTo l k n).length), (0, .rv (.sl 49 (ndL l))), (1, .rv (.int .i64 n))] → K' .normal ⟨e, [some (.row 1 (kidsTo l k n).length (rvs (intsL (natsI (kidsTo l k n)))))]⟩ := fun e he => by
        refine hN (k + 1) _ _ (by omega) (by omega) ?_
        rw [hs]
        have := ent_tail (n0 := 0) (env := e) (h' := [some (.row 1 (kidsTo l k n).length (rvs (intsL (natsI (kidsTo l k n)))))]) (C := []) (by simp) ⟨clH_rvs, trivial⟩ he
        simpa using this
      by_cases h0 : 0 < k
      · have e1 : decide ((k : Int) > 0) = true := decide_eq_true (by omega)
        have e2 : (parL l k == (n : Int)) = false := by
          rw [Bool.eq_false_iff]; intro h; exact hc ⟨h0, by simpa using h⟩
        repeat' (first | (simp -implicitDefEqProofs only [go_sem, ↓reduceIte, Nat.reduceEqDiff, Nat.reduceAdd, Nat.reduceSub, Nat.reduceMul, Nat.reduceLeDiff, Nat.reduceLT, reduceCtorEq, Int.reduceToNat, e1, e2, hlen, hx, nd_len, nd_drop0, hpk, wu]) | (with_reducible refine g_noent ?_) | (refine cdS (fun hg => ?_) (fun hg => ?_) <;> try simp -implicitDefEqProofs only [hg, Bool.not_true, Bool.not_false]) | (refine gdS (fun hg => ?_) (fun hg => ?_) <;> try simp -implicitDefEqProofs only [hg, Bool.not_true, Bool.not_false]) | (refine gddS (fun hg => ?_) (fun hg => ?_) <;> try simp -implicitDefEqProofs only [hg, Bool.not_true, Bool.not_false]) | ((with_reducible apply And.intro); focus (first | trivial | omega | decide | (simp -implicitDefEqProofs only [maxLen]; omega) | (simp [maxLen, sty_len, nd_len, ndL_len, lnL_len, intsL_len, rvs_len, lensS_len]; done) | (simp [maxLen, sty_len, nd_len, ndL_len, lnL_len, intsL_len, rvs_len, lensS_len]; omega))) | fail)
        exact nx _ (by simp [ClEnv, lk, clS_rv, clS_row])
      · have e1 : decide ((k : Int) > 0) = false := decide_eq_false (by omega)
        repeat' (first | (simp -implicitDefEqProofs only [go_sem, ↓reduceIte, Nat.reduceEqDiff, Nat.reduceAdd, Nat.reduceSub, Nat.reduceMul, Nat.reduceLeDiff, Nat.reduceLT, reduceCtorEq, Int.reduceToNat, e1, wu]) | (with_reducible refine g_noent ?_) | (refine cdS (fun hg => ?_) (fun hg => ?_) <;> try simp -implicitDefEqProofs only [hg, Bool.not_true, Bool.not_false]) | (refine gdS (fun hg => ?_) (fun hg => ?_) <;> try simp -implicitDefEqProofs only [hg, Bool.not_true, Bool.not_false]) | (refine gddS (fun hg => ?_) (fun hg => ?_) <;> try simp -implicitDefEqProofs only [hg, Bool.not_true, Bool.not_false]) | ((with_reducible apply And.intro); focus (first | trivial | omega | decide | (simp -implicitDefEqProofs only [maxLen]; omega) | (simp [maxLen, sty_len, nd_len, ndL_len, lnL_len, intsL_len, rvs_len, lensS_len]; done) | (simp [maxLen, sty_len, nd_len, ndL_len, lnL_len, intsL_len, rvs_len, lensS_len]; omega))) | fail)
        exact nx _ (by simp [ClEnv, lk, clS_rv, clS_row])
  · have hk4 : k = l.length := by simp at hg; omega
    subst hk4
    simp -implicitDefEqProofs only [go_sem, ↓reduceIte, Nat.reduceEqDiff, Nat.reduceAdd, Nat.reduceSub, Nat.reduceMul, Nat.reduceLeDiff, Nat.reduceLT, reduceCtorEq, Int.reduceToNat]
    refine hX _ _ _ ?_
    repeat' (first | (simp -implicitDefEqProofs only [go_sem, ↓reduceIte, Nat.reduceEqDiff, Nat.reduceAdd, Nat.reduceSub, Nat.reduceMul, Nat.reduceLeDiff, Nat.reduceLT, reduceCtorEq, Int.reduceToNat]) | (with_reducible refine g_noent ?_) | (refine cdS (fun hg => ?_) (fun hg => ?_) <;> try simp -implicitDefEqProofs only [hg, Bool.not_true, Bool.not_false]) | (refine gdS (fun hg => ?_) (fun hg => ?_) <;> try simp -implicitDefEqProofs only [hg, Bool.not_true, Bool.not_false]) | (refine gddS (fun hg => ?_) (fun hg => ?_) <;> try simp -implicitDefEqProofs only [hg, Bool.not_true, Bool.not_false]) | ((with_reducible apply And.intro); focus (first | trivial | omega | decide | (simp -implicitDefEqProofs only [maxLen]; omega) | (simp [maxLen, sty_len, nd_len, ndL_len, lnL_len, intsL_len, rvs_len, lensS_len]; done) | (simp [maxLen, sty_len, nd_len, ndL_len, lnL_len, intsL_len, rvs_len, lensS_len]; omega))) | fail)
    exact (hK _ _ ⟨trivial, rn_frz (xs := intsL (natsI (kidsOf l n))) rfl rfl (by simp [intsL, natsI, kidsOf]) (intsL_one _)⟩).2

/-- The children in the flow among the first k nodes. -/
def flowTo (l : List Nd) (k p : Nat) : List Nat := (kidsTo l k p).filter fun (m : Nat) => stayAt l m
theorem aboveS_mem {l : List Nd} {a n : Nat} : aboveS l (a : Int) n = true ↔ a ∈ pth l n := by
  unfold aboveS
  rw [List.any_eq_true]
  constructor
  · rintro ⟨x, h1, h2⟩
    have h3 : x = a := by simp at h2; omega
    exact h3 ▸ h1
  · intro h; exact ⟨a, h, by simp⟩

theorem below_eq {l : List Nd} (hs : Shp l) {a n : Nat} (ha : a < l.length) (hn : n < l.length) : belowAt l a n = aboveS l a n := by
  have he := hs.below ha hn
  rw [Bool.eq_iff_iff, aboveS_mem, he]
  simp -implicitDefEqProofs only [belowAt, endAt, inL_of ha, inL_of hn, if_true, Int.toNat_natCast, Bool.and_eq_true, decide_eq_true_eq, true_and]
  omega

theorem sp_ref08_Below (l : List Nd) (hs : Shp l) (hb : l.length ≤ 8589934592) (a n : Int) : CallR Go.Proofs.Try.prog 61 [.rv (.sl 49 (ndL l)), .rv (.int .i64 a), .rv (.int .i64 n)] [] [] (.rv (.bool (belowAt l a n))) := by
  have hlen := ndL_len l
  refine callR_G k_decoupageref08_Below [.rv (.sl 49 (ndL l)), .rv (.int .i64 a), .rv (.int .i64 n)] _ (by simp) (by simp [BkAll, bk_agg, bkAll_map, bk_rv, bk_fn, Sty.sv, Ln.sv, Nd.sv]) (fun K hK => ?_)
  simp -implicitDefEqProofs only [c_decoupageref08_Below, go_sem, ↓reduceIte, Nat.reduceEqDiff, Nat.reduceAdd, Nat.reduceSub, Nat.reduceMul, Nat.reduceLeDiff, Nat.reduceLT, reduceCtorEq, Int.reduceToNat]
  rcases inL_cases l a with ⟨h1, hi⟩ | ⟨h1, h0, hi⟩ | ⟨k, rfl, hk, hi⟩
  · have e1 : decide (a ≥ 0) = false := decide_eq_false (by omega)
    repeat' (first | (simp -implicitDefEqProofs only [go_sem, ↓reduceIte, Nat.reduceEqDiff, Nat.reduceAdd, Nat.reduceSub, Nat.reduceMul, Nat.reduceLeDiff, Nat.reduceLT, reduceCtorEq, Int.reduceToNat, e1, hlen]) | (with_reducible refine g_noent ?_) | (refine cdS (fun hg => ?_) (fun hg => ?_) <;> try simp -implicitDefEqProofs only [hg, Bool.not_true, Bool.not_false]) | (refine gdS (fun hg => ?_) (fun hg => ?_) <;> try simp -implicitDefEqProofs only [hg, Bool.not_true, Bool.not_false]) | (refine gddS (fun hg => ?_) (fun hg => ?_) <;> try simp -implicitDefEqProofs only [hg, Bool.not_true, Bool.not_false]) | ((with_reducible apply And.intro); focus (first | trivial | omega | decide | (simp -implicitDefEqProofs only [maxLen]; omega) | (simp [maxLen, sty_len, nd_len, ndL_len, lnL_len, intsL_len, rvs_len, lensS_len]; done) | (simp [maxLen, sty_len, nd_len, ndL_len, lnL_len, intsL_len, rvs_len, lensS_len]; omega))) | fail)
    exact (hK _ _ (ret_t (by simp [belowAt, hi, lk]))).2
  · have e1 : decide (a ≥ 0) = true := decide_eq_true h0
    have e2 : decide (a < (l.length : Int)) = false := decide_eq_false (by omega)
    repeat' (first | (simp -implicitDefEqProofs only [go_sem, ↓reduceIte, Nat.reduceEqDiff, Nat.reduceAdd, Nat.reduceSub, Nat.reduceMul, Nat.reduceLeDiff, Nat.reduceLT, reduceCtorEq, Int.reduceToNat, e1, e2, hlen]) | (with_reducible refine g_noent ?_) | (refine cdS (fun hg => ?_) (fun hg => ?_) <;> try simp -implicitDefEqProofs only [hg, Bool.not_true, Bool.not_false]) | (refine gdS (fun hg => ?_) (fun hg => ?_) <;> try simp -implicitDefEqProofs only [hg, Bool.not_true, Bool.not_false]) | (refine gddS (fun hg => ?_) (fun hg => ?_) <;> try simp -implicitDefEqProofs only [hg, Bool.not_true, Bool.not_false]) | ((with_reducible apply And.intro); focus (first | trivial | omega | decide | (simp -implicitDefEqProofs only [maxLen]; omega) | (simp [maxLen, sty_len, nd_len, ndL_len, lnL_len, intsL_len, rvs_len, lensS_len]; done) | (simp [maxLen, sty_len, nd_len, ndL_len, lnL_len, intsL_len, rvs_len, lensS_len]; omega))) | fail)
    exact (hK _ _ (ret_t (by simp [belowAt, hi, lk]))).2
  · have e1 : decide ((k : Int) ≥ 0) = true := decide_eq_true (by omega)
    have e2 : decide ((k : Int) < (l.length : Int)) = true := decide_eq_true (by omega)
    rcases inL_cases l n with ⟨h1, hj⟩ | ⟨h1, h0, hj⟩ | ⟨m, rfl, hm, hj⟩
    · have e3 : decide (n ≥ 0) = false := decide_eq_false (by omega)
      repeat' (first | (simp -implicitDefEqProofs only [go_sem, ↓reduceIte, Nat.reduceEqDiff, Nat.reduceAdd, Nat.reduceSub, Nat.reduceMul, Nat.reduceLeDiff, Nat.reduceLT, reduceCtorEq, Int.reduceToNat, e1, e2, e3, hlen]) | (with_reducible refine g_noent ?_) | (refine cdS (fun hg => ?_) (fun hg => ?_) <;> try simp -implicitDefEqProofs only [hg, Bool.not_true, Bool.not_false]) | (refine gdS (fun hg => ?_) (fun hg => ?_) <;> try simp -implicitDefEqProofs only [hg, Bool.not_true, Bool.not_false]) | (refine gddS (fun hg => ?_) (fun hg => ?_) <;> try simp -implicitDefEqProofs only [hg, Bool.not_true, Bool.not_false]) | ((with_reducible apply And.intro); focus (first | trivial | omega | decide | (simp -implicitDefEqProofs only [maxLen]; omega) | (simp [maxLen, sty_len, nd_len, ndL_len, lnL_len, intsL_len, rvs_len, lensS_len]; done) | (simp [maxLen, sty_len, nd_len, ndL_len, lnL_len, intsL_len, rvs_len, lensS_len]; omega))) | fail)
      exact (hK _ _ (ret_t (by simp [belowAt, hj, lk]))).2
    · have e3 : decide (n ≥ 0) = true := decide_eq_true h0
      have e4 : decide (n < (l.length : Int)) = false := decide_eq_false (by omega)
      repeat' (first | (simp -implicitDefEqProofs only [go_sem, ↓reduceIte, Nat.reduceEqDiff, Nat.reduceAdd, Nat.reduceSub, Nat.reduceMul, Nat.reduceLeDiff, Nat.reduceLT, reduceCtorEq, Int.reduceToNat, e1, e2, e3, e4, hlen]) | (with_reducible refine g_noent ?_) | (refine cdS (fun hg => ?_) (fun hg => ?_) <;> try simp -implicitDefEqProofs only [hg, Bool.not_true, Bool.not_false]) | (refine gdS (fun hg => ?_) (fun hg => ?_) <;> try simp -implicitDefEqProofs only [hg, Bool.not_true, Bool.not_false]) | (refine gddS (fun hg => ?_) (fun hg => ?_) <;> try simp -implicitDefEqProofs only [hg, Bool.not_true, Bool.not_false]) | ((with_reducible apply And.intro); focus (first | trivial | omega | decide | (simp -implicitDefEqProofs only [maxLen]; omega) | (simp [maxLen, sty_len, nd_len, ndL_len, lnL_len, intsL_len, rvs_len, lensS_len]; done) | (simp [maxLen, sty_len, nd_len, ndL_len, lnL_len, intsL_len, rvs_len, lensS_len]; omega))) | fail)
      exact (hK _ _ (ret_t (by simp [belowAt, hj, lk]))).2
    · have e3 : decide ((m : Int) ≥ 0) = true := decide_eq_true (by omega)
      have e4 : decide ((m : Int) < (l.length : Int)) = true := decide_eq_true (by omega)
      have hcall1 := sp_ref07_Above l k m (hs.wf.mono (by omega)) hm hb; repeat' (first | (simp -implicitDefEqProofs only [go_sem, ↓reduceIte, Nat.reduceEqDiff, Nat.reduceAdd, Nat.reduceSub, Nat.reduceMul, Nat.reduceLeDiff, Nat.reduceLT, reduceCtorEq, Int.reduceToNat, e1, e2, e3, e4, hlen]) | (with_reducible refine g_noent ?_) | (with_reducible refine g_call0 hcall1 ?_) | (with_reducible refine g_calld0 hcall1 ?_) | (refine cdS (fun hg => ?_) (fun hg => ?_) <;> try simp -implicitDefEqProofs only [hg, Bool.not_true, Bool.not_false]) | (refine gdS (fun hg => ?_) (fun hg => ?_) <;> try simp -implicitDefEqProofs only [hg, Bool.not_true, Bool.not_false]) | (refine gddS (fun hg => ?_) (fun hg => ?_) <;> try simp -implicitDefEqProofs only [hg, Bool.not_true, Bool.not_false]) | ((with_reducible apply And.intro); focus (first | trivial | omega | decide | (simp -implicitDefEqProofs only [maxLen]; omega) | (simp [maxLen, sty_len, nd_len, ndL_len, lnL_len, intsL_len, rvs_len, lensS_len]; done) | (simp [maxLen, sty_len, nd_len, ndL_len, lnL_len, intsL_len, rvs_len, lensS_len]; omega))) | fail)
      exact (hK _ _ (ret_t (by rw [below_eq hs hk hm]; rfl))).2

/-- One past the last of the first i nodes that is below n; 0 if there is none. -/
def lastTo (l : List Nd) (n : Int) (i : Nat) : Int := if inL l n = true ∧ n < i then (if (i : Int) < endAt l n then (i : Int) else endAt l n) else 0

end Go.Eng


/- kin: of a list that is the caller's own. -/
namespace Go.Eng
open Go

def kTabR (l : List Nd) (k : Nat) : List (List SV) := (List.range l.length).map fun p => [.row (p + 7) (kidsTo l k p).length (kidsTo l k p).length]
def kRowsR (l : List Nd) (k : Nat) : List (Option HB) := (List.range l.length).map fun p => some (.row 1 (kidsTo l k p).length (rvs (intsL (natsI (kidsTo l k p)))))
def kHeapR (v : Nat) (l : List Nd) (k : Nat) (es ds : List Int) (bs : List Bool) : List (Option HB) := some (.row 49 v (rvs (ndL l))) :: some (.row 49 1 (rvs (ndL l))) :: some (.row 1 0 (kTabR l k)) :: some (.row 1 0 (rvs (intsL es))) :: some (.row 1 0 (rvs (intsL ds))) :: some (.row 1 0 (rvs (boolL bs))) :: some (.var [.row 1 1 l.length, .row 2 0 l.length, .row 3 0 l.length, .row 4 0 l.length, .row 5 0 l.length]) :: kRowsR l k
end Go.Eng


/- kin: what is told of a node is what the document says. -/
namespace Go.Eng
open Go
/- decoupage/decoupagelaw06.Plain -/
def c_decoupagelaw06_Plain : AC := (.seq (.reg [⟨(some 0), (.alloc [(.bool false), (.int .i64 0), (.int .i64 0), (.int .i64 0), (.int .i64 0), (.int .i64 0), (.int .i64 0), (.int .i64 0), (.int .i64 0), (.int .i64 0), (.int .i64 0), (.int .i64 0), (.int .i64 0), (.int .i64 0), (.int .i64 0), (.int .i64 0), (.int .i64 0), (.int .i64 0), (.int .i64 0), (.int .i64 0), (.int .i64 0), (.int .i64 0), (.int .i64 0), (.int .i64 0), (.int .i64 0), (.int .i64 0), (.int .i64 0), (.int .i64 0), (.int .i64 0), (.int .i64 0), (.int .i64 0), (.int .i64 0), (.int .i64 0), (.int .i64 0), (.int .i64 0), (.int .i64 0), (.int .i64 0), (.int .i64 0), (.int .i64 0), (.int .i64 0), (.int .i64 0), (.int .i64 0), (.bool false), (.bool false), (.int .i64 0), (.bool false), (.int .i64 0), (.int .i64 0)]), [], none⟩]) (.seq (.reg [⟨(some 3), (.build [(.bool false), (.int .i64 0), (.int .i64 0), (.int .i64 0), (.int .i64 0), (.int .i64 0), (.int .i64 0), (.int .i64 0), (.int .i64 0), (.int .i64 0), (.int .i64 0), (.int .i64 0), (.int .i64 0), (.int .i64 0), (.int .i64 0), (.int .i64 0), (.int .i64 0), (.int .i64 0), (.int .i64 0), (.int .i64 0), (.int .i64 0), (.int .i64 0), (.int .i64 0), (.int .i64 0), (.int .i64 0), (.int .i64 0), (.int .i64 0), (.int .i64 0), (.int .i64 0), (.int .i64 0), (.int .i64 0), (.int .i64 0), (.int .i64 0), (.int .i64 0), (.int .i64 0), (.int .i64 0), (.int .i64 0), (.int .i64 0), (.int .i64 0), (.int .i64 0), (.int .i64 0), (.int .i64 0), (.bool false), (.bool false), (.int .i64 0), (.bool false), (.int .i64 0), (.int .i64 0)] [(0, 1)]), [(.c (.rv (.bool true)))], none⟩, ⟨(some 1), (.alloc [(.bool false), (.int .i64 0), (.int .i64 0), (.int .i64 0), (.int .i64 0), (.int .i64 0), (.int .i64 0), (.int .i64 0), (.int .i64 0), (.int .i64 0), (.int .i64 0), (.int .i64 0), (.int .i64 0), (.int .i64 0), (.int .i64 0), (.int .i64 0), (.int .i64 0), (.int .i64 0), (.int .i64 0), (.int .i64 0), (.int .i64 0), (.int .i64 0), (.int .i64 0), (.int .i64 0), (.int .i64 0), (.int .i64 0), (.int .i64 0), (.int .i64 0), (.int .i64 0), (.int .i64 0), (.int .i64 0), (.int .i64 0), (.int .i64 0), (.int .i64 0), (.int .i64 0), (.int .i64 0), (.int .i64 0), (.int .i64 0), (.int .i64 0), (.int .i64 0), (.int .i64 0), (.int .i64 0), (.bool false), (.bool false), (.int .i64 0), (.bool false), (.int .i64 0), (.int .i64 0)]), [], none⟩, ⟨none, (.store 48), [(.t 1), (.t 3)], none⟩]) (.seq (.seq (.reg [⟨(some 4), .mv, [(.c (.rv (.int .i64 0)))], none⟩]) (.seq (.block 0 (.loop (.seq (.reg [⟨(some 5), (.ibin .lss), [(.t 4), (.c (.rv (.int .i64 4)))], none⟩]) (.seq (.cond (.t 5) .skip (.exit 0)) (.seq (.seq (.block 1 (.seq (.reg [⟨(some 6), .mv, [(.t 4)], none⟩, ⟨(some 2), .mv, [(.t 6)], none⟩]) (.reg [⟨(some 7), .mv, [(.t 2)], none⟩, ⟨(some 8), (.build [(.int .i64 0), (.int .i64 0)] [(0, 1)]), [(.c (.rv (.int .i64 1)))], none⟩, ⟨(some 9), (.fld 30), [(.t 1)], none⟩, ⟨(some 10), (.ixa 4 2), [(.t 9), (.t 7)], none⟩, ⟨none, (.store 2), [(.t 10), (.t 8)], none⟩]))) .ent) (.reg [⟨(some 11), (.ibin .add), [(.t 4), (.c (.rv (.int .i64 1)))], none⟩, ⟨(some 4), .mv, [(.t 11)], none⟩])))))) .ent)) (.seq (.reg [⟨(some 12), (.load 48 true), [(.t 1)], none⟩, ⟨none, (.store 48), [(.t 0), (.t 12)], none⟩]) .ret))))
theorem k_decoupagelaw06_Plain : FnOK Go.Proofs.Try.prog 44 13 c_decoupagelaw06_Plain [(.c 0 48 true)] := fnOK_of (by kernel_rfl)

def kindsB : List CK → List RV → Bool
  | [], [] => true
  | .b :: ks, .bool _ :: rs => kindsB ks rs
  | .i :: ks, .int _ _ :: rs => kindsB ks rs
  | .s :: ks, .str _ :: rs => kindsB ks rs
  | _, _ => false
/-- A style that says nothing. -/
def plainS : Sty := { (default : Sty) with shown := true, pad := ⟨⟨1, 0⟩, ⟨1, 0⟩, ⟨1, 0⟩, ⟨1, 0⟩⟩ }
def plainTo (k : Nat) : Sty := { (default : Sty) with shown := true, pad := ⟨if 0 < k then ⟨1, 0⟩ else default, if 1 < k then ⟨1, 0⟩ else default, if 2 < k then ⟨1, 0⟩ else default, if 3 < k then ⟨1, 0⟩ else default⟩ }

theorem sp_Plain : CallR Go.Proofs.Try.prog 44 [] [] [] plainS.sv := by
  refine callR_G k_decoupagelaw06_Plain [] _ (by simp) (by simp [BkAll, bk_agg, bkAll_map, bk_rv, bk_fn, Sty.sv, Ln.sv, Nd.sv]) (fun K hK => ?_)
  simp -implicitDefEqProofs only [c_decoupagelaw06_Plain, go_sem, ↓reduceIte, Nat.reduceEqDiff, Nat.reduceAdd, Nat.reduceSub, Nat.reduceMul, Nat.reduceLeDiff, Nat.reduceLT, reduceCtorEq, Int.reduceToNat]
  repeat' (first | (simp -implicitDefEqProofs only [go_sem, ↓reduceIte, Nat.reduceEqDiff, Nat.reduceAdd, Nat.reduceSub, Nat.reduceMul, Nat.reduceLeDiff, Nat.reduceLT, reduceCtorEq, Int.reduceToNat]) | (with_reducible refine g_noent ?_) | (refine cdS (fun hg => ?_) (fun hg => ?_) <;> try simp -implicitDefEqProofs only [hg, Bool.not_true, Bool.not_false]) | (refine gdS (fun hg => ?_) (fun hg => ?_) <;> try simp -implicitDefEqProofs only [hg, Bool.not_true, Bool.not_false]) | (refine gddS (fun hg => ?_) (fun hg => ?_) <;> try simp -implicitDefEqProofs only [hg, Bool.not_true, Bool.not_false]) | ((with_reducible apply And.intro); focus (first | trivial | omega | decide | (simp -implicitDefEqProofs only [maxLen]; omega) | (simp [maxLen, sty_len, nd_len, ndL_len, lnL_len, intsL_len, rvs_len, lensS_len]; done) | (simp [maxLen, sty_len, nd_len, ndL_len, lnL_len, intsL_len, rvs_len, lensS_len]; omega) | (exact ⟨rfl, by decide⟩; done))) | fail)
  refine g_loop (ι := Nat) (fun k => [(4, .rv (.int .i64 k)), (0, .ptr 0 0), (1, .ptr 1 0)]) (fun k => [some (.var ((default : Sty).cells.map .rv)), some (.var ((plainTo k).cells.map .rv))]) (fun k => k ≤ 4) (fun k => 4 - k) 0 (by simp) (ent_env (by simp [lk])) (fun k hk K' hN hX hR => ?_)
  simp -implicitDefEqProofs only [go_sem, ↓reduceIte, Nat.reduceEqDiff, Nat.reduceAdd, Nat.reduceSub, Nat.reduceMul, Nat.reduceLeDiff, Nat.reduceLT, reduceCtorEq, Int.reduceToNat]
  refine cdS (fun hg => ?_) (fun hg => ?_)
  · have : k = 0 ∨ k = 1 ∨ k = 2 ∨ k = 3 := by simp at hg; omega
    rcases this with rfl | rfl | rfl | rfl
    all_goals
      repeat' (first | (simp -implicitDefEqProofs only [go_sem, ↓reduceIte, Nat.reduceEqDiff, Nat.reduceAdd, Nat.reduceSub, Nat.reduceMul, Nat.reduceLeDiff, Nat.reduceLT, reduceCtorEq, Int.reduceToNat, sty_len, wrap_up (k := 0) (by decide), wrap_up (k := 1) (by decide), wrap_up (k := 2) (by decide), wrap_up (k := 3) (by decide)]) | (with_reducible refine g_noent ?_) | (refine cdS (fun hg => ?_) (fun hg => ?_) <;> try simp -implicitDefEqProofs only [hg, Bool.not_true, Bool.not_false]) | (refine gdS (fun hg => ?_) (fun hg => ?_) <;> try simp -implicitDefEqProofs only [hg, Bool.not_true, Bool.not_false]) | (refine gddS (fun hg => ?_) (fun hg => ?_) <;> try simp -implicitDefEqProofs only [hg, Bool.not_true, Bool.not_false]) | ((with_reducible apply And.intro); focus (first | trivial | omega | decide | (simp -implicitDefEqProofs only [maxLen]; omega) | (simp [maxLen, sty_len, nd_len, ndL_len, lnL_len, intsL_len, rvs_len, lensS_len]; done) | (simp [maxLen, sty_len, nd_len, ndL_len, lnL_len, intsL_len, rvs_len, lensS_len]; omega))) | fail)
    · exact hN 1 _ _ (by omega) (by omega) (ent_env (by simp [lk]))
    · exact hN 2 _ _ (by omega) (by omega) (ent_env (by simp [lk]))
    · exact hN 3 _ _ (by omega) (by omega) (ent_env (by simp [lk]))
    · exact hN 4 _ _ (by omega) (by omega) (ent_env (by simp [lk]))
  · have hk4 : k = 4 := by simp at hg; omega
    subst hk4
    simp -implicitDefEqProofs only [go_sem, ↓reduceIte, Nat.reduceEqDiff, Nat.reduceAdd, Nat.reduceSub, Nat.reduceMul, Nat.reduceLeDiff, Nat.reduceLT, reduceCtorEq, Int.reduceToNat]
    refine hX _ _ _ ?_
    repeat' (first | (simp -implicitDefEqProofs only [go_sem, ↓reduceIte, Nat.reduceEqDiff, Nat.reduceAdd, Nat.reduceSub, Nat.reduceMul, Nat.reduceLeDiff, Nat.reduceLT, reduceCtorEq, Int.reduceToNat, sty_len, sty_all2]) | (with_reducible refine g_noent ?_) | (refine cdS (fun hg => ?_) (fun hg => ?_) <;> try simp -implicitDefEqProofs only [hg, Bool.not_true, Bool.not_false]) | (refine gdS (fun hg => ?_) (fun hg => ?_) <;> try simp -implicitDefEqProofs only [hg, Bool.not_true, Bool.not_false]) | (refine gddS (fun hg => ?_) (fun hg => ?_) <;> try simp -implicitDefEqProofs only [hg, Bool.not_true, Bool.not_false]) | ((with_reducible apply And.intro); focus (first | trivial | omega | decide | (simp -implicitDefEqProofs only [maxLen]; omega) | (simp [maxLen, sty_len, nd_len, ndL_len, lnL_len, intsL_len, rvs_len, lensS_len]; done) | (simp [maxLen, sty_len, nd_len, ndL_len, lnL_len, intsL_len, rvs_len, lensS_len]; omega) | (rfl; done) | (exact ⟨rfl, by decide⟩; done))) | fail)
    exact (hK _ _ (ret_c (rs := plainS.cells) rfl rfl rfl)).2

theorem one_chk : chk [⟨plainS, -1⟩] = 0 := by decide +kernel
end Go.Eng


/- edit: where what is below a node ends; a node's children; places. -/
namespace Go.Eng
open Go
/- decoupage/edit.end -/
def c_edit_end : AC := (.seq (.reg [⟨(some 4), .mv, [(.c (.rv (.int .i64 0)))], none⟩]) (.seq (.seq (.reg [⟨(some 6), .mv, [(.t 1)], none⟩, ⟨(some 7), (.ibin .add), [(.t 6), (.c (.rv (.int .i64 1)))], none⟩, ⟨(some 5), .mv, [(.t 7)], none⟩]) (.seq (.block 0 (.loop (.seq (.seq (.reg [⟨(some 8), .mv, [(.t 5)], none⟩, ⟨(some 9), .mv, [(.t 0)], none⟩, ⟨(some 10), .len, [(.t 9)], none⟩, ⟨(some 11), (.ibin .lss), [(.t 8), (.t 10)], none⟩]) (.cond (.t 11) .skip (.exit 0))) (.seq (.seq (.block 1 (.seq (.reg [⟨(some 14), .mv, [(.t 0)], none⟩, ⟨(some 15), .mv, [(.t 5)], none⟩, ⟨(some 16), (.ixs 49), [(.t 14), (.t 15)], none⟩, ⟨(some 17), (.fld 48), [(.t 16)], none⟩, ⟨(some 18), (.load 1 false), [(.t 17)], none⟩, ⟨(some 19), .mv, [(.t 1)], none⟩, ⟨(some 20), (.ibin .lss), [(.t 18), (.t 19)], none⟩]) (.cond (.t 20) (.seq (.reg [⟨(some 21), .mv, [(.t 5)], none⟩, ⟨(some 4), .mv, [(.t 21)], none⟩]) .ret) .skip))) .ent) (.reg [⟨(some 12), .mv, [(.t 5)], none⟩, ⟨(some 13), (.ibin .add), [(.t 12), (.c (.rv (.int .i64 1)))], none⟩, ⟨(some 5), .mv, [(.t 13)], none⟩]))))) .ent)) (.seq (.reg [⟨(some 22), .mv, [(.t 0)], none⟩, ⟨(some 23), .len, [(.t 22)], none⟩, ⟨(some 4), .mv, [(.t 23)], none⟩]) .ret)))
theorem k_edit_end : FnOK Go.Proofs.Try.prog 68 24 c_edit_end [(.t 4)] := fnOK_of (by kernel_rfl)

/- decoupage/edit.Span -/
def c_edit_Span : AC := (.seq (.reg [⟨(some 4), .mv, [(.c (.rv (.int .i64 0)))], none⟩]) (.seq (.seq (.reg [⟨(some 5), .mv, [(.t 1)], none⟩, ⟨(some 6), (.ibin .lss), [(.t 5), (.c (.rv (.int .i64 0)))], none⟩, ⟨(some 7), .mv, [(.t 6)], none⟩, ⟨(some 8), .mv, [(.t 1)], (some (7, false))⟩, ⟨(some 9), .mv, [(.t 0)], (some (7, false))⟩, ⟨(some 10), .len, [(.t 9)], (some (7, false))⟩, ⟨(some 11), (.ibin .geq), [(.t 8), (.t 10)], (some (7, false))⟩, ⟨(some 12), .pick, [(.t 7), (.c (.rv (.bool true))), (.t 11)], none⟩, ⟨(some 13), .mv, [(.t 12)], none⟩, ⟨(some 14), .mv, [(.t 0)], (some (13, false))⟩, ⟨(some 15), (.call 67), [(.t 14)], (some (13, false))⟩, ⟨(some 16), .not, [(.t 15)], (some (13, false))⟩, ⟨(some 17), .pick, [(.t 13), (.c (.rv (.bool true))), (.t 16)], none⟩]) (.cond (.t 17) (.seq (.reg [⟨(some 4), .mv, [(.c (.rv (.int .i64 0)))], none⟩]) .ret) .skip)) (.seq (.reg [⟨(some 18), .mv, [(.t 0)], none⟩, ⟨(some 19), .mv, [(.t 1)], none⟩, ⟨(some 20), (.call 68), [(.t 18), (.t 19)], none⟩, ⟨(some 21), .mv, [(.t 1)], none⟩, ⟨(some 22), (.ibin .sub), [(.t 20), (.t 21)], none⟩, ⟨(some 4), .mv, [(.t 22)], none⟩]) .ret)))
theorem k_edit_Span : FnOK Go.Proofs.Try.prog 31 23 c_edit_Span [(.t 4)] := fnOK_of (by kernel_rfl)

/- decoupage/edit.children -/
def c_edit_children : AC := (.seq (.reg [⟨(some 4), .mv, [(.c (.rv (.int .i64 0)))], none⟩]) (.seq (.reg [⟨(some 5), .mv, [(.c (.rv (.int .i64 0)))], none⟩]) (.seq (.seq (.reg [⟨(some 8), .mv, [(.t 0)], none⟩, ⟨(some 9), .len, [(.t 8)], none⟩, ⟨(some 10), .mv, [(.c (.rv (.int .i64 0)))], none⟩]) (.seq (.block 0 (.loop (.seq (.reg [⟨(some 11), (.ibin .lss), [(.t 10), (.t 9)], none⟩]) (.seq (.cond (.t 11) .skip (.exit 0)) (.seq (.seq (.block 1 (.seq (.reg [⟨(some 12), (.ixs 49), [(.t 8), (.t 10)], none⟩, ⟨(some 13), (.load 49 true), [(.t 12)], none⟩, ⟨(some 7), (.alloc [(.bool false), (.int .i64 0), (.int .i64 0), (.int .i64 0), (.int .i64 0), (.int .i64 0), (.int .i64 0), (.int .i64 0), (.int .i64 0), (.int .i64 0), (.int .i64 0), (.int .i64 0), (.int .i64 0), (.int .i64 0), (.int .i64 0), (.int .i64 0), (.int .i64 0), (.int .i64 0), (.int .i64 0), (.int .i64 0), (.int .i64 0), (.int .i64 0), (.int .i64 0), (.int .i64 0), (.int .i64 0), (.int .i64 0), (.int .i64 0), (.int .i64 0), (.int .i64 0), (.int .i64 0), (.int .i64 0), (.int .i64 0), (.int .i64 0), (.int .i64 0), (.int .i64 0), (.int .i64 0), (.int .i64 0), (.int .i64 0), (.int .i64 0), (.int .i64 0), (.int .i64 0), (.int .i64 0), (.bool false), (.bool false), (.int .i64 0), (.bool false), (.int .i64 0), (.int .i64 0), (.int .i64 0)]), [], none⟩, ⟨none, (.store 49), [(.t 7), (.t 13)], none⟩]) (.seq (.reg [⟨(some 14), (.fld 48), [(.t 7)], none⟩, ⟨(some 15), (.load 1 false), [(.t 14)], none⟩, ⟨(some 16), .mv, [(.t 1)], none⟩, ⟨(some 17), (.ibin .eql), [(.t 15), (.t 16)], none⟩]) (.seq (.cond (.t 17) (.reg [⟨(some 18), .mv, [(.t 5)], none⟩, ⟨(some 19), (.ibin .add), [(.t 18), (.c (.rv (.int .i64 1)))], none⟩, ⟨(some 5), .mv, [(.t 19)], none⟩]) .skip) .ent)))) .ent) (.reg [⟨(some 20), (.ibin .add), [(.t 10), (.c (.rv (.int .i64 1)))], none⟩, ⟨(some 10), .mv, [(.t 20)], none⟩])))))) .ent)) (.seq (.reg [⟨(some 21), .mv, [(.t 5)], none⟩, ⟨(some 4), .mv, [(.t 21)], none⟩]) .ret))))
theorem k_edit_children : FnOK Go.Proofs.Try.prog 87 22 c_edit_children [(.t 4)] := fnOK_of (by kernel_rfl)

/- decoupage/edit.place -/
def c_edit_place : AC := (.seq (.reg [⟨(some 6), .mv, [(.c (.rv (.int .i64 0)))], none⟩]) (.seq (.reg [⟨(some 8), .mv, [(.t 1)], none⟩, ⟨(some 9), (.ibin .add), [(.t 8), (.c (.rv (.int .i64 1)))], none⟩, ⟨(some 7), .mv, [(.t 9)], none⟩]) (.seq (.seq (.reg [⟨(some 10), .mv, [(.t 2)], none⟩, ⟨(some 11), .mv, [(.c (.rv (.int .i64 0)))], none⟩]) (.seq (.block 0 (.loop (.seq (.reg [⟨(some 12), (.ibin .lss), [(.t 11), (.t 10)], none⟩]) (.seq (.cond (.t 12) .skip (.exit 0)) (.seq (.seq (.block 1 (.reg [⟨(some 13), .mv, [(.t 0)], none⟩, ⟨(some 14), .mv, [(.t 7)], none⟩, ⟨(some 15), (.call 68), [(.t 13), (.t 14)], none⟩, ⟨(some 7), .mv, [(.t 15)], none⟩])) .ent) (.reg [⟨(some 16), (.ibin .add), [(.t 11), (.c (.rv (.int .i64 1)))], none⟩, ⟨(some 11), .mv, [(.t 16)], none⟩])))))) .ent)) (.seq (.reg [⟨(some 17), .mv, [(.t 7)], none⟩, ⟨(some 6), .mv, [(.t 17)], none⟩]) .ret))))
theorem k_edit_place : FnOK Go.Proofs.Try.prog 110 18 c_edit_place [(.t 6)] := fnOK_of (by kernel_rfl)


/-- The first from m on whose parent stands ahead of n. -/
def endFrom (l : List Nd) (n m : Nat) : Nat := if m < l.length then if parL l m < n then m else endFrom l n (m + 1) else l.length
termination_by l.length - m
def endR (l : List Nd) (n : Nat) : Nat := endFrom l n (n + 1)
theorem endFrom_hit {l : List Nd} {n m : Nat} (h : m < l.length) (hp : parL l m < n) : endFrom l n m = m := by
  rw [endFrom, if_pos h, if_pos hp]
theorem endFrom_miss {l : List Nd} {n m : Nat} (h : m < l.length) (hp : ¬ parL l m < n) : endFrom l n m = endFrom l n (m + 1) := by
  rw [endFrom, if_pos h, if_neg hp]
theorem endFrom_end {l : List Nd} {n m : Nat} (h : ¬ m < l.length) : endFrom l n m = l.length := by
  rw [endFrom, if_neg h]
theorem endFrom_le {l : List Nd} {n : Nat} : ∀ d m, l.length - m ≤ d → endFrom l n m ≤ l.length ∧ (m ≤ l.length → m ≤ endFrom l n m)
  | d, m, hd => by
    by_cases h : m < l.length
    · by_cases hp : parL l m < n
      · rw [endFrom_hit h hp]; omega
      · rw [endFrom_miss h hp]
        match d, hd with
        | 0, hd => omega
        | d + 1, hd => have := endFrom_le (l := l) (n := n) d (m + 1) (by omega); omega
    · rw [endFrom_end h]; omega
theorem endR_le (l : List Nd) (n : Nat) : endR l n ≤ l.length := (endFrom_le _ _ (Nat.le_refl _)).1
theorem endR_gt {l : List Nd} {n : Nat} (h : n < l.length) : n < endR l n := by
  have := (endFrom_le (l := l) (n := n) _ (n + 1) (Nat.le_refl _)).2 (by omega)
  exact this
theorem endFrom_in {l : List Nd} {n : Nat} : ∀ d m, l.length - m ≤ d → ∀ k, m ≤ k → k < endFrom l n m → ¬ parL l k < n
  | d, m, hd, k, h1, h2 => by
    by_cases h : m < l.length
    · by_cases hp : parL l m < n
      · rw [endFrom_hit h hp] at h2; omega
      · by_cases hk : k = m
        · rw [hk]; exact hp
        · rw [endFrom_miss h hp] at h2
          match d, hd with
          | 0, hd => omega
          | d + 1, hd => exact endFrom_in d (m + 1) (by omega) k (by omega) h2
    · rw [endFrom_end h] at h2; omega
theorem endFrom_out {l : List Nd} {n : Nat} : ∀ d m, l.length - m ≤ d → endFrom l n m < l.length → parL l (endFrom l n m) < n
  | d, m, hd, h2 => by
    by_cases h : m < l.length
    · by_cases hp : parL l m < n
      · rw [endFrom_hit h hp]; exact hp
      · rw [endFrom_miss h hp] at h2 ⊢
        match d, hd with
        | 0, hd => omega
        | d + 1, hd => exact endFrom_out d (m + 1) (by omega) h2
    · rw [endFrom_end h] at h2; omega
theorem endR_in {l : List Nd} {n k : Nat} (h : n < k) (h2 : k < endR l n) : (n : Int) ≤ parL l k := by
  have := endFrom_in _ _ (Nat.le_refl _) k h h2; omega
theorem endR_out {l : List Nd} {n : Nat} (h : endR l n < l.length) : parL l (endR l n) < n := endFrom_out _ _ (Nat.le_refl _) h
/-- It is where a tree's nodes below n end. -/
theorem endR_eq {l : List Nd} (hs : Shp l) {n : Nat} (hn : n < l.length) : endR l n = endS l n := by
  obtain ⟨g1, g2⟩ := hs.end_gt hn
  have r1 := endR_gt hn
  have r2 := endR_le l n
  rcases Nat.lt_trichotomy (endR l n) (endS l n) with h | h | h
  · have hk : endR l n < l.length := by omega
    have hp := endR_out hk
    have hm := (hs.below hn hk).2 ⟨by omega, h⟩
    rw [mem_par hs.wf (by omega) hk] at hm
    rcases hm with hm | hm
    · omega
    · have := pth_le _ _ hm
      have := hs.up (endR l n) (by omega) hk
      omega
  · exact h
  · have hk : endS l n < l.length := by omega
    have hp := endR_in (l := l) (n := n) g1 h
    have hu := hs.up (endS l n) (by omega) hk
    have hm := (hs.below hn (k := endS l n - 1) (by omega)).2 ⟨by omega, by omega⟩
    have hnot : ¬ n ∈ pth l (endS l n) := fun h => by have := (hs.below hn hk).1 h; omega
    have h2 := (hs.below (n := (parL l (endS l n)).toNat) (k := endS l n - 1) (by omega) (by omega)).1 hu.2.2
    have h3 := (hs.below hn (k := (parL l (endS l n)).toNat) (by omega)).2 ⟨by omega, by omega⟩
    exact absurd ((mem_par hs.wf (by omega) hk).2 (.inr h3)) hnot

/-- Parents that are numbers of the list's size. -/
def Parb (l : List Nd) : Prop := ∀ k, k < l.length → -1 ≤ parL l k ∧ parL l k < 1099511627776
theorem nd_par (x : Nd) : (x.cells.drop 48)[0]? = some (.int .i64 x.parent) := rfl

theorem sp_end (l : List Nd) (hb : l.length ≤ 8589934592) (n : Nat) (hn : n ≤ 8589934592) : CallR Go.Proofs.Try.prog 68 [.rv (.sl 49 (ndL l)), .rv (.int .i64 n)] [] [] (.rv (.int .i64 (endR l n))) := by
  refine callR_G k_edit_end [.rv (.sl 49 (ndL l)), .rv (.int .i64 n)] _ (by simp) (by simp [BkAll, bk_agg, bkAll_map, bk_rv, bk_fn, Sty.sv, Ln.sv, Nd.sv]) (fun K hK => ?_)
  have hlen := ndL_len l
  have w1 := wrap_up (k := n) (by omega)
  simp -implicitDefEqProofs only [c_edit_end, go_sem, ↓reduceIte, Nat.reduceEqDiff, Nat.reduceAdd, Nat.reduceSub, Nat.reduceMul, Nat.reduceLeDiff, Nat.reduceLT, reduceCtorEq, Int.reduceToNat]
  repeat' (first | (simp -implicitDefEqProofs only [go_sem, ↓reduceIte, Nat.reduceEqDiff, Nat.reduceAdd, Nat.reduceSub, Nat.reduceMul, Nat.reduceLeDiff, Nat.reduceLT, reduceCtorEq, Int.reduceToNat, w1]) | (with_reducible refine g_noent ?_) | (refine cdS (fun hg => ?_) (fun hg => ?_) <;> try simp -implicitDefEqProofs only [hg, Bool.not_true, Bool.not_false]) | (refine gdS (fun hg => ?_) (fun hg => ?_) <;> try simp -implicitDefEqProofs only [hg, Bool.not_true, Bool.not_false]) | (refine gddS (fun hg => ?_) (fun hg => ?_) <;> try simp -implicitDefEqProofs only [hg, Bool.not_true, Bool.not_false]) | ((with_reducible apply And.intro); focus (first | trivial | omega | decide | (simp -implicitDefEqProofs only [maxLen]; omega) | (simp [maxLen, sty_len, nd_len, ndL_len, lnL_len, intsL_len, rvs_len, lensS_len]; done) | (simp [maxLen, sty_len, nd_len, ndL_len, lnL_len, intsL_len, rvs_len, lensS_len]; omega))) | fail)
  refine g_loop (ι := Nat) (fun m => [(5, .rv (.int .i64 m)), (0, .rv (.sl 49 (ndL l))), (1, .rv (.int .i64 n))]) (fun _ => []) (fun m => m ≤ 8589934593 ∧ endFrom l n m = endR l n) (fun m => l.length - m) (n + 1) ⟨by omega, rfl⟩ (ent_env (by simp [lk])) (fun m hm K' hN hX hR => ?_)
  obtain ⟨hm1, hm2⟩ := hm
  simp -implicitDefEqProofs only [go_sem, ↓reduceIte, Nat.reduceEqDiff, Nat.reduceAdd, Nat.reduceSub, Nat.reduceMul, Nat.reduceLeDiff, Nat.reduceLT, reduceCtorEq, Int.reduceToNat]
  repeat' (first | (simp -implicitDefEqProofs only [go_sem, ↓reduceIte, Nat.reduceEqDiff, Nat.reduceAdd, Nat.reduceSub, Nat.reduceMul, Nat.reduceLeDiff, Nat.reduceLT, reduceCtorEq, Int.reduceToNat, hlen]) | (with_reducible refine g_noent ?_) | (refine cdS (fun hg => ?_) (fun hg => ?_) <;> try simp -implicitDefEqProofs only [hg, Bool.not_true, Bool.not_false]) | (refine gdS (fun hg => ?_) (fun hg => ?_) <;> try simp -implicitDefEqProofs only [hg, Bool.not_true, Bool.not_false]) | (refine gddS (fun hg => ?_) (fun hg => ?_) <;> try simp -implicitDefEqProofs only [hg, Bool.not_true, Bool.not_false]) | ((with_reducible apply And.intro); focus (first | trivial | omega | decide | (simp -implicitDefEqProofs only [maxLen]; omega) | (simp [maxLen, sty_len, nd_len, ndL_len, lnL_len, intsL_len, rvs_len, lensS_len]; done) | (simp [maxLen, sty_len, nd_len, ndL_len, lnL_len, intsL_len, rvs_len, lensS_len]; omega))) | fail)
  · have hm4 : m < l.length := by simp at hg; omega
    have hx := ndL_get hm4
    have hpe := parL_eq hm4
    have hp := nd_par (l[m]'hm4)
    rw [hpe] at hp
    have wu := wrap_up (k := m) (by omega)
    by_cases h : parL l m < n
    · have e1 : decide (parL l m < (n : Int)) = true := decide_eq_true h
      repeat' (first | (simp -implicitDefEqProofs only [go_sem, ↓reduceIte, Nat.reduceEqDiff, Nat.reduceAdd, Nat.reduceSub, Nat.reduceMul, Nat.reduceLeDiff, Nat.reduceLT, reduceCtorEq, Int.reduceToNat, hx, hlen, nd_len, hp, e1]) | (with_reducible refine g_noent ?_) | (refine cdS (fun hg => ?_) (fun hg => ?_) <;> try simp -implicitDefEqProofs only [hg, Bool.not_true, Bool.not_false]) | (refine gdS (fun hg => ?_) (fun hg => ?_) <;> try simp -implicitDefEqProofs only [hg, Bool.not_true, Bool.not_false]) | (refine gddS (fun hg => ?_) (fun hg => ?_) <;> try simp -implicitDefEqProofs only [hg, Bool.not_true, Bool.not_false]) | ((with_reducible apply And.intro); focus (first | trivial | omega | decide | (simp -implicitDefEqProofs only [maxLen]; omega) | (simp [maxLen, sty_len, nd_len, ndL_len, lnL_len, intsL_len, rvs_len, lensS_len]; done) | (simp [maxLen, sty_len, nd_len, ndL_len, lnL_len, intsL_len, rvs_len, lensS_len]; omega))) | fail)
      refine hR _ _ (hK _ _ (ret_t ?_)).2
      rw [← hm2, endFrom_hit hm4 h]; simp [lk]
    · have e1 : decide (parL l m < (n : Int)) = false := decide_eq_false h
      repeat' (first | (simp -implicitDefEqProofs only [go_sem, ↓reduceIte, Nat.reduceEqDiff, Nat.reduceAdd, Nat.reduceSub, Nat.reduceMul, Nat.reduceLeDiff, Nat.reduceLT, reduceCtorEq, Int.reduceToNat, hx, hlen, nd_len, hp, e1, wu]) | (with_reducible refine g_noent ?_) | (refine cdS (fun hg => ?_) (fun hg => ?_) <;> try simp -implicitDefEqProofs only [hg, Bool.not_true, Bool.not_false]) | (refine gdS (fun hg => ?_) (fun hg => ?_) <;> try simp -implicitDefEqProofs only [hg, Bool.not_true, Bool.not_false]) | (refine gddS (fun hg => ?_) (fun hg => ?_) <;> try simp -implicitDefEqProofs only [hg, Bool.not_true, Bool.not_false]) | ((with_reducible apply And.intro); focus (first | trivial | omega | decide | (simp -implicitDefEqProofs only [maxLen]; omega) | (simp [maxLen, sty_len, nd_len, ndL_len, lnL_len, intsL_len, rvs_len, lensS_len]; done) | (simp [maxLen, sty_len, nd_len, ndL_len, lnL_len, intsL_len, rvs_len, lensS_len]; omega))) | fail)
      exact hN (m + 1) _ _ ⟨by omega, by rw [← endFrom_miss hm4 h]; exact hm2⟩ (by omega) (ent_env (by simp [lk]))
  · have hm4 : ¬ m < l.length := by simp at hg; omega
    refine hX _ _ _ ?_
    repeat' (first | (simp -implicitDefEqProofs only [go_sem, ↓reduceIte, Nat.reduceEqDiff, Nat.reduceAdd, Nat.reduceSub, Nat.reduceMul, Nat.reduceLeDiff, Nat.reduceLT, reduceCtorEq, Int.reduceToNat, hlen]) | (with_reducible refine g_noent ?_) | (refine cdS (fun hg => ?_) (fun hg => ?_) <;> try simp -implicitDefEqProofs only [hg, Bool.not_true, Bool.not_false]) | (refine gdS (fun hg => ?_) (fun hg => ?_) <;> try simp -implicitDefEqProofs only [hg, Bool.not_true, Bool.not_false]) | (refine gddS (fun hg => ?_) (fun hg => ?_) <;> try simp -implicitDefEqProofs only [hg, Bool.not_true, Bool.not_false]) | ((with_reducible apply And.intro); focus (first | trivial | omega | decide | (simp -implicitDefEqProofs only [maxLen]; omega) | (simp [maxLen, sty_len, nd_len, ndL_len, lnL_len, intsL_len, rvs_len, lensS_len]; done) | (simp [maxLen, sty_len, nd_len, ndL_len, lnL_len, intsL_len, rvs_len, lensS_len]; omega))) | fail)
    refine (hK _ _ (ret_t ?_)).2
    rw [← hm2, endFrom_end hm4]; simp [lk]

/-- How many nodes one is. -/
def spanF (l : List Nd) (n : Int) : Int := if inL l n = true ∧ treeOK l = true then ((endR l n.toNat : Nat) : Int) - n else 0
theorem sp_Span (l : List Nd) (hb : l.length ≤ 8589934592) (n : Int) : CallR Go.Proofs.Try.prog 31 [.rv (.sl 49 (ndL l)), .rv (.int .i64 n)] [] [] (.rv (.int .i64 (spanF l n))) := by
  refine callR_G k_edit_Span [.rv (.sl 49 (ndL l)), .rv (.int .i64 n)] _ (by simp) (by simp [BkAll, bk_agg, bkAll_map, bk_rv, bk_fn, Sty.sv, Ln.sv, Nd.sv]) (fun K hK => ?_)
  have hlen := ndL_len l
  have hf := sp_tree_Formed l hb
  simp -implicitDefEqProofs only [c_edit_Span, go_sem, ↓reduceIte, Nat.reduceEqDiff, Nat.reduceAdd, Nat.reduceSub, Nat.reduceMul, Nat.reduceLeDiff, Nat.reduceLT, reduceCtorEq, Int.reduceToNat]
  cases ht : treeOK l with
  | false =>
    rw [ht] at hf
    rw [show spanF l n = 0 by simp [spanF, ht]] at hK
    rcases inL_cases l n with ⟨h1, hi⟩ | ⟨h1, h0, hi⟩ | ⟨k, rfl, hk, hi⟩
    · have e1 : decide (n < 0) = true := decide_eq_true h1
      have hcall1 := hf; repeat' (first | (simp -implicitDefEqProofs only [go_sem, ↓reduceIte, Nat.reduceEqDiff, Nat.reduceAdd, Nat.reduceSub, Nat.reduceMul, Nat.reduceLeDiff, Nat.reduceLT, reduceCtorEq, Int.reduceToNat, hlen, e1]) | (with_reducible refine g_noent ?_) | (with_reducible refine g_call0 hcall1 ?_) | (with_reducible refine g_calld0 hcall1 ?_) | (refine cdS (fun hg => ?_) (fun hg => ?_) <;> try simp -implicitDefEqProofs only [hg, Bool.not_true, Bool.not_false]) | (refine gdS (fun hg => ?_) (fun hg => ?_) <;> try simp -implicitDefEqProofs only [hg, Bool.not_true, Bool.not_false]) | (refine gddS (fun hg => ?_) (fun hg => ?_) <;> try simp -implicitDefEqProofs only [hg, Bool.not_true, Bool.not_false]) | ((with_reducible apply And.intro); focus (first | trivial | omega | decide | (simp -implicitDefEqProofs only [maxLen]; omega) | (simp [maxLen, sty_len, nd_len, ndL_len, lnL_len, intsL_len, rvs_len, lensS_len]; done) | (simp [maxLen, sty_len, nd_len, ndL_len, lnL_len, intsL_len, rvs_len, lensS_len]; omega))) | fail)
      exact (hK _ _ (ret_t rfl)).2
    · have e1 : decide (n < 0) = false := decide_eq_false (by omega)
      have e2 : decide (n ≥ (l.length : Int)) = true := decide_eq_true (by omega)
      have hcall2 := hf; repeat' (first | (simp -implicitDefEqProofs only [go_sem, ↓reduceIte, Nat.reduceEqDiff, Nat.reduceAdd, Nat.reduceSub, Nat.reduceMul, Nat.reduceLeDiff, Nat.reduceLT, reduceCtorEq, Int.reduceToNat, hlen, e1, e2]) | (with_reducible refine g_noent ?_) | (with_reducible refine g_call0 hcall2 ?_) | (with_reducible refine g_calld0 hcall2 ?_) | (refine cdS (fun hg => ?_) (fun hg => ?_) <;> try simp -implicitDefEqProofs only [hg, Bool.not_true, Bool.not_false]) | (refine gdS (fun hg => ?_) (fun hg => ?_) <;> try simp -implicitDefEqProofs only [hg, Bool.not_true, Bool.not_false]) | (refine gddS (fun hg => ?_) (fun hg => ?_) <;> try simp -implicitDefEqProofs only [hg, Bool.not_true, Bool.not_false]) | ((with_reducible apply And.intro); focus (first | trivial | omega | decide | (simp -implicitDefEqProofs only [maxLen]; omega) | (simp [maxLen, sty_len, nd_len, ndL_len, lnL_len, intsL_len, rvs_len, lensS_len]; done) | (simp [maxLen, sty_len, nd_len, ndL_len, lnL_len, intsL_len, rvs_len, lensS_len]; omega))) | fail)
      exact (hK _ _ (ret_t rfl)).2
    · have e1 : decide ((k : Int) < 0) = false := decide_eq_false (by omega)
      have e2 : decide ((k : Int) ≥ (l.length : Int)) = false := decide_eq_false (by omega)
      have hcall3 := hf; repeat' (first | (simp -implicitDefEqProofs only [go_sem, ↓reduceIte, Nat.reduceEqDiff, Nat.reduceAdd, Nat.reduceSub, Nat.reduceMul, Nat.reduceLeDiff, Nat.reduceLT, reduceCtorEq, Int.reduceToNat, hlen, e1, e2]) | (with_reducible refine g_noent ?_) | (with_reducible refine g_call0 hcall3 ?_) | (with_reducible refine g_calld0 hcall3 ?_) | (refine cdS (fun hg => ?_) (fun hg => ?_) <;> try simp -implicitDefEqProofs only [hg, Bool.not_true, Bool.not_false]) | (refine gdS (fun hg => ?_) (fun hg => ?_) <;> try simp -implicitDefEqProofs only [hg, Bool.not_true, Bool.not_false]) | (refine gddS (fun hg => ?_) (fun hg => ?_) <;> try simp -implicitDefEqProofs only [hg, Bool.not_true, Bool.not_false]) | ((with_reducible apply And.intro); focus (first | trivial | omega | decide | (simp -implicitDefEqProofs only [maxLen]; omega) | (simp [maxLen, sty_len, nd_len, ndL_len, lnL_len, intsL_len, rvs_len, lensS_len]; done) | (simp [maxLen, sty_len, nd_len, ndL_len, lnL_len, intsL_len, rvs_len, lensS_len]; omega))) | fail)
      exact (hK _ _ (ret_t rfl)).2
  | true =>
    rw [ht] at hf
    rcases inL_cases l n with ⟨h1, hi⟩ | ⟨h1, h0, hi⟩ | ⟨k, rfl, hk, hi⟩
    · have e1 : decide (n < 0) = true := decide_eq_true h1
      rw [show spanF l n = 0 by simp [spanF, hi]] at hK
      have hcall4 := hf; repeat' (first | (simp -implicitDefEqProofs only [go_sem, ↓reduceIte, Nat.reduceEqDiff, Nat.reduceAdd, Nat.reduceSub, Nat.reduceMul, Nat.reduceLeDiff, Nat.reduceLT, reduceCtorEq, Int.reduceToNat, hlen, e1]) | (with_reducible refine g_noent ?_) | (with_reducible refine g_call0 hcall4 ?_) | (with_reducible refine g_calld0 hcall4 ?_) | (refine cdS (fun hg => ?_) (fun hg => ?_) <;> try simp -implicitDefEqProofs only [hg, Bool.not_true, Bool.not_false]) | (refine gdS (fun hg => ?_) (fun hg => ?_) <;> try simp -implicitDefEqProofs only [hg, Bool.not_true, Bool.not_false]) | (refine gddS (fun hg => ?_) (fun hg => ?_) <;> try simp -implicitDefEqProofs only [hg, Bool.not_true, Bool.not_false]) | ((with_reducible apply And.intro); focus (first | trivial | omega | decide | (simp -implicitDefEqProofs only [maxLen]; omega) | (simp [maxLen, sty_len, nd_len, ndL_len, lnL_len, intsL_len, rvs_len, lensS_len]; done) | (simp [maxLen, sty_len, nd_len, ndL_len, lnL_len, intsL_len, rvs_len, lensS_len]; omega))) | fail)
      exact (hK _ _ (ret_t rfl)).2
    · have e1 : decide (n < 0) = false := decide_eq_false (by omega)
      have e2 : decide (n ≥ (l.length : Int)) = true := decide_eq_true (by omega)
      rw [show spanF l n = 0 by simp [spanF, hi]] at hK
      have hcall5 := hf; repeat' (first | (simp -implicitDefEqProofs only [go_sem, ↓reduceIte, Nat.reduceEqDiff, Nat.reduceAdd, Nat.reduceSub, Nat.reduceMul, Nat.reduceLeDiff, Nat.reduceLT, reduceCtorEq, Int.reduceToNat, hlen, e1, e2]) | (with_reducible refine g_noent ?_) | (with_reducible refine g_call0 hcall5 ?_) | (with_reducible refine g_calld0 hcall5 ?_) | (refine cdS (fun hg => ?_) (fun hg => ?_) <;> try simp -implicitDefEqProofs only [hg, Bool.not_true, Bool.not_false]) | (refine gdS (fun hg => ?_) (fun hg => ?_) <;> try simp -implicitDefEqProofs only [hg, Bool.not_true, Bool.not_false]) | (refine gddS (fun hg => ?_) (fun hg => ?_) <;> try simp -implicitDefEqProofs only [hg, Bool.not_true, Bool.not_false]) | ((with_reducible apply And.intro); focus (first | trivial | omega | decide | (simp -implicitDefEqProofs only [maxLen]; omega) | (simp [maxLen, sty_len, nd_len, ndL_len, lnL_len, intsL_len, rvs_len, lensS_len]; done) | (simp [maxLen, sty_len, nd_len, ndL_len, lnL_len, intsL_len, rvs_len, lensS_len]; omega))) | fail)
      exact (hK _ _ (ret_t rfl)).2
    · have e1 : decide ((k : Int) < 0) = false := decide_eq_false (by omega)
      have e2 : decide ((k : Int) ≥ (l.length : Int)) = false := decide_eq_false (by omega)
      have g1 := endR_gt hk
      have g2 := endR_le l k
      have wv : IntKind.i64.wrap (((endR l k : Nat) : Int) - (k : Int)) = ((endR l k : Nat) : Int) - (k : Int) := wrap_i64 (by omega) (by omega)
      rw [show spanF l k = ((endR l k : Nat) : Int) - (k : Int) by simp [spanF, hi, ht]] at hK
      have hcall6 := hf; have hcall7 := sp_end l hb k (by omega); repeat' (first | (simp -implicitDefEqProofs only [go_sem, ↓reduceIte, Nat.reduceEqDiff, Nat.reduceAdd, Nat.reduceSub, Nat.reduceMul, Nat.reduceLeDiff, Nat.reduceLT, reduceCtorEq, Int.reduceToNat, hlen, e1, e2, wv]) | (with_reducible refine g_noent ?_) | (with_reducible refine g_call0 hcall6 ?_) | (with_reducible refine g_calld0 hcall6 ?_) | (with_reducible refine g_call0 hcall7 ?_) | (with_reducible refine g_calld0 hcall7 ?_) | (refine cdS (fun hg => ?_) (fun hg => ?_) <;> try simp -implicitDefEqProofs only [hg, Bool.not_true, Bool.not_false]) | (refine gdS (fun hg => ?_) (fun hg => ?_) <;> try simp -implicitDefEqProofs only [hg, Bool.not_true, Bool.not_false]) | (refine gddS (fun hg => ?_) (fun hg => ?_) <;> try simp -implicitDefEqProofs only [hg, Bool.not_true, Bool.not_false]) | ((with_reducible apply And.intro); focus (first | trivial | omega | decide | (simp -implicitDefEqProofs only [maxLen]; omega) | (simp [maxLen, sty_len, nd_len, ndL_len, lnL_len, intsL_len, rvs_len, lensS_len]; done) | (simp [maxLen, sty_len, nd_len, ndL_len, lnL_len, intsL_len, rvs_len, lensS_len]; omega))) | fail)
      exact (hK _ _ (ret_t rfl)).2

/-- How many of the first k have the parent n. -/
def kidTo (l : List Nd) (n : Int) (k : Nat) : Nat := ((List.range k).filter fun j => parL l j == n).length
theorem kidTo_succ {l : List Nd} {n : Int} {k : Nat} : kidTo l n (k + 1) = kidTo l n k + if parL l k = n then 1 else 0 := by
  unfold kidTo; rw [List.range_succ, List.filter_append]
  by_cases h : parL l k = n <;> simp [h]
theorem kidTo_le {l : List Nd} {n : Int} {k : Nat} : kidTo l n k ≤ k := by
  have := List.length_filter_le (fun j => parL l j == n) (List.range k); simpa [kidTo] using this
set_option maxRecDepth 10000 in
theorem sp_children (l : List Nd) (hb : l.length ≤ 8589934592) (n : Int) : CallR Go.Proofs.Try.prog 87 [.rv (.sl 49 (ndL l)), .rv (.int .i64 n)] [] [] (.rv (.int .i64 (kidTo l n l.length))) := by
  refine callR_G k_edit_children [.rv (.sl 49 (ndL l)), .rv (.int .i64 n)] _ (by simp) (by simp [BkAll, bk_agg, bkAll_map, bk_rv, bk_fn, Sty.sv, Ln.sv, Nd.sv]) (fun K hK => ?_)
  have hlen := ndL_len l
  simp -implicitDefEqProofs only [c_edit_children, go_sem, ↓reduceIte, Nat.reduceEqDiff, Nat.reduceAdd, Nat.reduceSub, Nat.reduceMul, Nat.reduceLeDiff, Nat.reduceLT, reduceCtorEq, Int.reduceToNat]
  repeat' (first | (simp -implicitDefEqProofs only [go_sem, ↓reduceIte, Nat.reduceEqDiff, Nat.reduceAdd, Nat.reduceSub, Nat.reduceMul, Nat.reduceLeDiff, Nat.reduceLT, reduceCtorEq, Int.reduceToNat, hlen]) | (with_reducible refine g_noent ?_) | (refine cdS (fun hg => ?_) (fun hg => ?_) <;> try simp -implicitDefEqProofs only [hg, Bool.not_true, Bool.not_false]) | (refine gdS (fun hg => ?_) (fun hg => ?_) <;> try simp -implicitDefEqProofs only [hg, Bool.not_true, Bool.not_false]) | (refine gddS (fun hg => ?_) (fun hg => ?_) <;> try simp -implicitDefEqProofs only [hg, Bool.not_true, Bool.not_false]) | ((with_reducible apply And.intro); focus (first | trivial | omega | decide | (simp -implicitDefEqProofs only [maxLen]; omega) | (simp [maxLen, sty_len, nd_len, ndL_len, lnL_len, intsL_len, rvs_len, lensS_len]; done) | (simp [maxLen, sty_len, nd_len, ndL_len, lnL_len, intsL_len, rvs_len, lensS_len]; omega))) | fail)
  refine g_loop (ι := Nat) (fun k => [(10, .rv (.int .i64 k)), (9, .rv (.int .i64 l.length)), (8, .rv (.sl 49 (ndL l))), (5, .rv (.int .i64 (kidTo l n k))), (1, .rv (.int .i64 n))]) (fun _ => []) (fun k => k ≤ l.length) (fun k => l.length - k) 0 (by simp) (ent_env (by simp [lk, kidTo])) (fun k hk K' hN hX hR => ?_)
  simp -implicitDefEqProofs only [go_sem, ↓reduceIte, Nat.reduceEqDiff, Nat.reduceAdd, Nat.reduceSub, Nat.reduceMul, Nat.reduceLeDiff, Nat.reduceLT, reduceCtorEq, Int.reduceToNat]
  refine cdS (fun hg => ?_) (fun hg => ?_)
  · have hk4 : k < l.length := by simp at hg; omega
    have hx := ndL_get hk4
    have hpe := parL_eq hk4
    have hp := nd_atp (l[k]'hk4)
    rw [hpe] at hp
    have hnl := nd_len (l[k]'hk4)
    have wu := wrap_up (k := k) (by omega)
    have hkl := kidTo_le (l := l) (n := n) (k := k)
    have hks := kidTo_succ (l := l) (n := n) (k := k)
    generalize hxx : l[k]'hk4 = x at *
    have h49 : (x.cells.map SV.rv).take 49 = x.cells.map SV.rv := rfl
    by_cases h : parL l k = n
    · have e1 : (parL l k == n) = true := by simpa using h
      rw [if_pos h] at hks
      have wk := wrap_up (k := kidTo l n k) (by omega)
      repeat' (first | (simp -implicitDefEqProofs only [go_sem, ↓reduceIte, Nat.reduceEqDiff, Nat.reduceAdd, Nat.reduceSub, Nat.reduceMul, Nat.reduceLeDiff, Nat.reduceLT, reduceCtorEq, Int.reduceToNat, hx, hlen, nd_sv48, hnl, h49, List.append_nil, hp, e1, wu, wk]) | (with_reducible refine g_noent ?_) | (refine cdS (fun hg => ?_) (fun hg => ?_) <;> try simp -implicitDefEqProofs only [hg, Bool.not_true, Bool.not_false]) | (refine gdS (fun hg => ?_) (fun hg => ?_) <;> try simp -implicitDefEqProofs only [hg, Bool.not_true, Bool.not_false]) | (refine gddS (fun hg => ?_) (fun hg => ?_) <;> try simp -implicitDefEqProofs only [hg, Bool.not_true, Bool.not_false]) | ((with_reducible apply And.intro); focus (first | trivial | omega | decide | (simp -implicitDefEqProofs only [maxLen]; omega) | (simp [maxLen, sty_len, nd_len, ndL_len, lnL_len, intsL_len, rvs_len, lensS_len]; done) | (simp [maxLen, sty_len, nd_len, ndL_len, lnL_len, intsL_len, rvs_len, lensS_len]; omega))) | fail)
      refine hN (k + 1) _ _ (by omega) (by omega) ?_
      rw [hks]
      exact ent_tail (h' := []) (by simp) trivial (by simp [ClEnv, lk, clS_rv])
    · have e1 : (parL l k == n) = false := by simpa using h
      rw [if_neg h] at hks
      repeat' (first | (simp -implicitDefEqProofs only [go_sem, ↓reduceIte, Nat.reduceEqDiff, Nat.reduceAdd, Nat.reduceSub, Nat.reduceMul, Nat.reduceLeDiff, Nat.reduceLT, reduceCtorEq, Int.reduceToNat, hx, hlen, nd_sv48, hnl, h49, List.append_nil, hp, e1, wu]) | (with_reducible refine g_noent ?_) | (refine cdS (fun hg => ?_) (fun hg => ?_) <;> try simp -implicitDefEqProofs only [hg, Bool.not_true, Bool.not_false]) | (refine gdS (fun hg => ?_) (fun hg => ?_) <;> try simp -implicitDefEqProofs only [hg, Bool.not_true, Bool.not_false]) | (refine gddS (fun hg => ?_) (fun hg => ?_) <;> try simp -implicitDefEqProofs only [hg, Bool.not_true, Bool.not_false]) | ((with_reducible apply And.intro); focus (first | trivial | omega | decide | (simp -implicitDefEqProofs only [maxLen]; omega) | (simp [maxLen, sty_len, nd_len, ndL_len, lnL_len, intsL_len, rvs_len, lensS_len]; done) | (simp [maxLen, sty_len, nd_len, ndL_len, lnL_len, intsL_len, rvs_len, lensS_len]; omega))) | fail)
      refine hN (k + 1) _ _ (by omega) (by omega) ?_
      rw [hks]
      exact ent_tail (h' := []) (by simp) trivial (by simp [ClEnv, lk, clS_rv])
  · have hk4 : k = l.length := by simp at hg; omega
    subst hk4
    simp -implicitDefEqProofs only [go_sem, ↓reduceIte, Nat.reduceEqDiff, Nat.reduceAdd, Nat.reduceSub, Nat.reduceMul, Nat.reduceLeDiff, Nat.reduceLT, reduceCtorEq, Int.reduceToNat]
    refine hX _ _ _ ?_
    repeat' (first | (simp -implicitDefEqProofs only [go_sem, ↓reduceIte, Nat.reduceEqDiff, Nat.reduceAdd, Nat.reduceSub, Nat.reduceMul, Nat.reduceLeDiff, Nat.reduceLT, reduceCtorEq, Int.reduceToNat]) | (with_reducible refine g_noent ?_) | (refine cdS (fun hg => ?_) (fun hg => ?_) <;> try simp -implicitDefEqProofs only [hg, Bool.not_true, Bool.not_false]) | (refine gdS (fun hg => ?_) (fun hg => ?_) <;> try simp -implicitDefEqProofs only [hg, Bool.not_true, Bool.not_false]) | (refine gddS (fun hg => ?_) (fun hg => ?_) <;> try simp -implicitDefEqProofs only [hg, Bool.not_true, Bool.not_false]) | ((with_reducible apply And.intro); focus (first | trivial | omega | decide | (simp -implicitDefEqProofs only [maxLen]; omega) | (simp [maxLen, sty_len, nd_len, ndL_len, lnL_len, intsL_len, rvs_len, lensS_len]; done) | (simp [maxLen, sty_len, nd_len, ndL_len, lnL_len, intsL_len, rvs_len, lensS_len]; omega))) | fail)
    exact (hK _ _ (ret_t rfl)).2

/-- Where the at-th child of a node is, or would be. -/
def placeF (l : List Nd) (n : Nat) : Nat → Nat
  | 0 => n + 1
  | k + 1 => endR l (placeF l n k)
theorem placeF_le (l : List Nd) (n : Nat) : ∀ k, placeF l n k ≤ n + 1 + l.length
  | 0 => by simp [placeF]
  | k + 1 => by have := endR_le l (placeF l n k); simp [placeF]; omega
theorem sp_place (l : List Nd) (hb : l.length ≤ 1073741824) (n at' : Nat) (hn : n ≤ 1073741824) (ha : at' ≤ 8589934592) : CallR Go.Proofs.Try.prog 110 [.rv (.sl 49 (ndL l)), .rv (.int .i64 n), .rv (.int .i64 at')] [] [] (.rv (.int .i64 (placeF l n at'))) := by
  refine callR_G k_edit_place [.rv (.sl 49 (ndL l)), .rv (.int .i64 n), .rv (.int .i64 at')] _ (by simp) (by simp [BkAll, bk_agg, bkAll_map, bk_rv, bk_fn, Sty.sv, Ln.sv, Nd.sv]) (fun K hK => ?_)
  have w1 := wrap_up (k := n) (by omega)
  simp -implicitDefEqProofs only [c_edit_place, go_sem, ↓reduceIte, Nat.reduceEqDiff, Nat.reduceAdd, Nat.reduceSub, Nat.reduceMul, Nat.reduceLeDiff, Nat.reduceLT, reduceCtorEq, Int.reduceToNat]
  repeat' (first | (simp -implicitDefEqProofs only [go_sem, ↓reduceIte, Nat.reduceEqDiff, Nat.reduceAdd, Nat.reduceSub, Nat.reduceMul, Nat.reduceLeDiff, Nat.reduceLT, reduceCtorEq, Int.reduceToNat, w1]) | (with_reducible refine g_noent ?_) | (refine cdS (fun hg => ?_) (fun hg => ?_) <;> try simp -implicitDefEqProofs only [hg, Bool.not_true, Bool.not_false]) | (refine gdS (fun hg => ?_) (fun hg => ?_) <;> try simp -implicitDefEqProofs only [hg, Bool.not_true, Bool.not_false]) | (refine gddS (fun hg => ?_) (fun hg => ?_) <;> try simp -implicitDefEqProofs only [hg, Bool.not_true, Bool.not_false]) | ((with_reducible apply And.intro); focus (first | trivial | omega | decide | (simp -implicitDefEqProofs only [maxLen]; omega) | (simp [maxLen, sty_len, nd_len, ndL_len, lnL_len, intsL_len, rvs_len, lensS_len]; done) | (simp [maxLen, sty_len, nd_len, ndL_len, lnL_len, intsL_len, rvs_len, lensS_len]; omega))) | fail)
  refine g_loop (ι := Nat) (fun k => [(11, .rv (.int .i64 k)), (10, .rv (.int .i64 at')), (7, .rv (.int .i64 (placeF l n k))), (0, .rv (.sl 49 (ndL l)))]) (fun _ => []) (fun k => k ≤ at') (fun k => at' - k) 0 (by simp) (ent_env (by simp [lk, placeF])) (fun k hk K' hN hX hR => ?_)
  simp -implicitDefEqProofs only [go_sem, ↓reduceIte, Nat.reduceEqDiff, Nat.reduceAdd, Nat.reduceSub, Nat.reduceMul, Nat.reduceLeDiff, Nat.reduceLT, reduceCtorEq, Int.reduceToNat]
  refine cdS (fun hg => ?_) (fun hg => ?_)
  · have hk4 : k < at' := by simp at hg; omega
    have wu := wrap_up (k := k) (by omega)
    have hpl := placeF_le l n k
    have hcall8 := sp_end l (by omega) (placeF l n k) (by omega); repeat' (first | (simp -implicitDefEqProofs only [go_sem, ↓reduceIte, Nat.reduceEqDiff, Nat.reduceAdd, Nat.reduceSub, Nat.reduceMul, Nat.reduceLeDiff, Nat.reduceLT, reduceCtorEq, Int.reduceToNat, wu]) | (with_reducible refine g_noent ?_) | (with_reducible refine g_call0 hcall8 ?_) | (with_reducible refine g_calld0 hcall8 ?_) | (refine cdS (fun hg => ?_) (fun hg => ?_) <;> try simp -implicitDefEqProofs only [hg, Bool.not_true, Bool.not_false]) | (refine gdS (fun hg => ?_) (fun hg => ?_) <;> try simp -implicitDefEqProofs only [hg, Bool.not_true, Bool.not_false]) | (refine gddS (fun hg => ?_) (fun hg => ?_) <;> try simp -implicitDefEqProofs only [hg, Bool.not_true, Bool.not_false]) | ((with_reducible apply And.intro); focus (first | trivial | omega | decide | (simp -implicitDefEqProofs only [maxLen]; omega) | (simp [maxLen, sty_len, nd_len, ndL_len, lnL_len, intsL_len, rvs_len, lensS_len]; done) | (simp [maxLen, sty_len, nd_len, ndL_len, lnL_len, intsL_len, rvs_len, lensS_len]; omega))) | fail)
    exact hN (k + 1) _ _ (by omega) (by omega) (ent_env (by simp [lk, placeF]))
  · have hk4 : k = at' := by simp at hg; omega
    subst hk4
    simp -implicitDefEqProofs only [go_sem, ↓reduceIte, Nat.reduceEqDiff, Nat.reduceAdd, Nat.reduceSub, Nat.reduceMul, Nat.reduceLeDiff, Nat.reduceLT, reduceCtorEq, Int.reduceToNat]
    refine hX _ _ _ ?_
    repeat' (first | (simp -implicitDefEqProofs only [go_sem, ↓reduceIte, Nat.reduceEqDiff, Nat.reduceAdd, Nat.reduceSub, Nat.reduceMul, Nat.reduceLeDiff, Nat.reduceLT, reduceCtorEq, Int.reduceToNat]) | (with_reducible refine g_noent ?_) | (refine cdS (fun hg => ?_) (fun hg => ?_) <;> try simp -implicitDefEqProofs only [hg, Bool.not_true, Bool.not_false]) | (refine gdS (fun hg => ?_) (fun hg => ?_) <;> try simp -implicitDefEqProofs only [hg, Bool.not_true, Bool.not_false]) | (refine gddS (fun hg => ?_) (fun hg => ?_) <;> try simp -implicitDefEqProofs only [hg, Bool.not_true, Bool.not_false]) | ((with_reducible apply And.intro); focus (first | trivial | omega | decide | (simp -implicitDefEqProofs only [maxLen]; omega) | (simp [maxLen, sty_len, nd_len, ndL_len, lnL_len, intsL_len, rvs_len, lensS_len]; done) | (simp [maxLen, sty_len, nd_len, ndL_len, lnL_len, intsL_len, rvs_len, lensS_len]; omega))) | fail)
    exact (hK _ _ (ret_t rfl)).2
end Go.Eng


/- edit: lists behind one another; taking out, putting in. -/
namespace Go.Eng
open Go
/- slices.Grow[[]decoupage/api.Node,decoupage/api.Node] -/
def c_slices_Grow_Node : AC := (.seq (.reg [⟨(some 4), .mv, [(.c (.rv .nilsl))], none⟩]) (.seq (.seq (.reg [⟨(some 5), .mv, [(.t 1)], none⟩, ⟨(some 6), (.ibin .lss), [(.t 5), (.c (.rv (.int .i64 0)))], none⟩]) (.seq (.cond (.t 6) (.reg [⟨(some 7), (.mkif 9), [(.c (.rv (.str (.mk (.mk [99, 97, 110, 110, 111, 116, 32, 98, 101, 32, 110, 101, 103, 97, 116, 105, 118, 101])))))], none⟩, ⟨none, .die, [(.t 7)], none⟩]) .skip) .ent)) (.seq (.seq (.reg [⟨(some 8), .mv, [(.t 1)], none⟩, ⟨(some 9), .mv, [(.t 0)], none⟩, ⟨(some 10), .capn, [(.t 9)], none⟩, ⟨(some 11), .mv, [(.t 0)], none⟩, ⟨(some 12), .len, [(.t 11)], none⟩, ⟨(some 13), (.ibin .sub), [(.t 10), (.t 12)], none⟩, ⟨(some 14), (.ibin .sub), [(.t 8), (.t 13)], none⟩, ⟨(some 1), .mv, [(.t 14)], none⟩]) (.seq (.reg [⟨(some 15), .mv, [(.t 1)], none⟩, ⟨(some 16), (.ibin .gtr), [(.t 15), (.c (.rv (.int .i64 0)))], none⟩]) (.seq (.cond (.t 16) (.reg [⟨(some 17), .mv, [(.t 0)], none⟩, ⟨(some 18), .mv, [(.t 0)], none⟩, ⟨(some 19), .capn, [(.t 18)], none⟩, ⟨(some 20), (.slc 49 false true), [(.t 17), (.t 19)], none⟩, ⟨(some 21), .mv, [(.t 1)], none⟩, ⟨(some 22), (.appn 49 384), [(.t 20), (.t 21)], none⟩, ⟨(some 23), .mv, [(.t 0)], none⟩, ⟨(some 24), .len, [(.t 23)], none⟩, ⟨(some 25), (.slc 49 false true), [(.t 22), (.t 24)], none⟩, ⟨(some 0), .mv, [(.t 25)], none⟩]) .skip) .ent))) (.seq (.reg [⟨(some 26), .mv, [(.t 0)], none⟩, ⟨(some 4), .mv, [(.t 26)], none⟩]) .ret))))
theorem k_slices_Grow_Node : FnOK Go.Proofs.Try.prog 117 27 c_slices_Grow_Node [(.t 4)] := fnOK_of (by kernel_rfl)

/- slices.Concat[[]decoupage/api.Node,decoupage/api.Node] -/
def c_slices_Concat_Node : AC := (.seq (.reg [⟨(some 2), .mv, [(.c (.rv .nilsl))], none⟩]) (.seq (.reg [⟨(some 3), .mv, [(.c (.rv (.int .i64 0)))], none⟩]) (.seq (.seq (.reg [⟨(some 9), .mv, [(.t 0)], none⟩, ⟨(some 10), .len, [(.t 9)], none⟩, ⟨(some 11), .mv, [(.c (.rv (.int .i64 0)))], none⟩]) (.seq (.block 0 (.loop (.seq (.reg [⟨(some 12), (.ibin .lss), [(.t 11), (.t 10)], none⟩]) (.seq (.cond (.t 12) .skip (.exit 0)) (.seq (.seq (.block 1 (.seq (.reg [⟨(some 13), (.ixs 1), [(.t 9), (.t 11)], none⟩, ⟨(some 14), (.load 1 false), [(.t 13)], none⟩, ⟨(some 5), .mv, [(.t 14)], none⟩]) (.seq (.reg [⟨(some 15), .mv, [(.t 3)], none⟩, ⟨(some 16), .mv, [(.t 5)], none⟩, ⟨(some 17), .len, [(.t 16)], none⟩, ⟨(some 18), (.ibin .add), [(.t 15), (.t 17)], none⟩, ⟨(some 3), .mv, [(.t 18)], none⟩]) (.seq (.reg [⟨(some 19), .mv, [(.t 3)], none⟩, ⟨(some 20), (.ibin .lss), [(.t 19), (.c (.rv (.int .i64 0)))], none⟩]) (.seq (.cond (.t 20) (.reg [⟨(some 21), (.mkif 9), [(.c (.rv (.str (.mk (.mk [108, 101, 110, 32, 111, 117, 116, 32, 111, 102, 32, 114, 97, 110, 103, 101])))))], none⟩, ⟨none, .die, [(.t 21)], none⟩]) .skip) .ent))))) .ent) (.reg [⟨(some 22), (.ibin .add), [(.t 11), (.c (.rv (.int .i64 1)))], none⟩, ⟨(some 11), .mv, [(.t 22)], none⟩])))))) .ent)) (.seq (.reg [⟨(some 23), .mv, [(.t 3)], none⟩, ⟨(some 24), (.call 117), [(.c (.rv .nilsl)), (.t 23)], none⟩, ⟨(some 6), .mv, [(.t 24)], none⟩]) (.seq (.seq (.reg [⟨(some 25), .mv, [(.t 0)], none⟩, ⟨(some 26), .len, [(.t 25)], none⟩, ⟨(some 27), .mv, [(.c (.rv (.int .i64 0)))], none⟩]) (.seq (.block 2 (.loop (.seq (.reg [⟨(some 28), (.ibin .lss), [(.t 27), (.t 26)], none⟩]) (.seq (.cond (.t 28) .skip (.exit 2)) (.seq (.seq (.block 3 (.seq (.reg [⟨(some 29), (.ixs 1), [(.t 25), (.t 27)], none⟩, ⟨(some 30), (.load 1 false), [(.t 29)], none⟩, ⟨(some 8), .mv, [(.t 30)], none⟩]) (.reg [⟨(some 31), .mv, [(.t 6)], none⟩, ⟨(some 32), .mv, [(.t 8)], none⟩, ⟨(some 33), (.app 49 384), [(.t 31), (.t 32)], none⟩, ⟨(some 6), .mv, [(.t 33)], none⟩]))) .ent) (.reg [⟨(some 34), (.ibin .add), [(.t 27), (.c (.rv (.int .i64 1)))], none⟩, ⟨(some 27), .mv, [(.t 34)], none⟩])))))) .ent)) (.seq (.reg [⟨(some 35), .mv, [(.t 6)], none⟩, ⟨(some 2), .mv, [(.t 35)], none⟩]) .ret))))))
theorem k_slices_Concat_Node : FnOK Go.Proofs.Try.prog 109 36 c_slices_Concat_Node [(.t 2)] := fnOK_of (by kernel_rfl)




theorem sp_Grow (n : Nat) (h0 : 0 < n) (hb : n ≤ 8589934592) (m : Nat) : CallR Go.Proofs.Try.prog 117 [.rv .nilsl, .rv (.int .i64 n)] [] [(m, .row 49 0 [])] (.row m 0 0) := by
  refine callR_M k_slices_Grow_Node [] [] [] [.rv .nilsl, .rv (.int .i64 n)] [.rv .nilsl, .rv (.int .i64 n)] _ _ (by simp) (by simp [BkAll, bk_ptr, bk_row, bk_rv, bk_agg, bk_ifc, bk_fn, bk_tup, bk_dead, BkHs, rvs_inj, nodupL]) rfl (by simp [nodupL]) (by simp [BkHs]) (fun K hK => ?_)
  have e1 : decide ((n : Int) < 0) = false := decide_eq_false (by omega)
  have e2 : decide ((n : Int) > 0) = true := decide_eq_true (by omega)
  have w0 : IntKind.i64.wrap ((0 : Int) - 0) = 0 := by decide
  have w1 : IntKind.i64.wrap ((n : Int) - 0) = n := by rw [wrap_i64 (by omega) (by omega)]; omega
  simp -implicitDefEqProofs only [c_slices_Grow_Node, go_sem, ↓reduceIte, Nat.reduceEqDiff, Nat.reduceAdd, Nat.reduceSub, Nat.reduceMul, Nat.reduceLeDiff, Nat.reduceLT, reduceCtorEq, Int.reduceToNat]
  repeat' (first | (simp -implicitDefEqProofs only [go_sem, ↓reduceIte, Nat.reduceEqDiff, Nat.reduceAdd, Nat.reduceSub, Nat.reduceMul, Nat.reduceLeDiff, Nat.reduceLT, reduceCtorEq, Int.reduceToNat, e1, e2, w0, w1]) | (with_reducible refine g_noent ?_) | (refine cdS (fun hg => ?_) (fun hg => ?_) <;> try simp -implicitDefEqProofs only [hg, Bool.not_true, Bool.not_false]) | (refine gdS (fun hg => ?_) (fun hg => ?_) <;> try simp -implicitDefEqProofs only [hg, Bool.not_true, Bool.not_false]) | (refine gddS (fun hg => ?_) (fun hg => ?_) <;> try simp -implicitDefEqProofs only [hg, Bool.not_true, Bool.not_false]) | ((with_reducible apply And.intro); focus (first | trivial | omega | decide | (simp -implicitDefEqProofs only [maxLen]; omega) | (simp [maxLen, sty_len, nd_len, ndL_len, lnL_len, intsL_len, rvs_len, lensS_len]; done) | (simp [maxLen, sty_len, nd_len, ndL_len, lnL_len, intsL_len, rvs_len, lensS_len]; omega) | (simp; done))) | fail)
  refine (hK _ _ _ _ [some m] (ent_refl _ _) ?_).2
  simp [retM, nodupL, newL, allU, keptL, retP, resL, lk, resT, RnHo, lkp, finU, hget_zero, hget_succ, hget, rnRows_rvs, rn_tup, rn_rv, rn_row, rn_ptr, rn_ifc, rn_agg, rn_dead, RnAll, ofL, rnAll_map]
  exact rnRows_rvs (xs := []) (ys := []) |>.2 rfl

def slsR (xss : List (List (List RV))) : List (List RV) := xss.map fun xs => [.sl 49 xs]
theorem slsR_len (xss : List (List (List RV))) : (slsR xss).length = xss.length := by simp [slsR]
theorem slsR_get {xss : List (List (List RV))} {k : Nat} (h : k < xss.length) : (slsR xss)[k]?.getD [] = [.sl 49 (xss[k]'h)] := by simp [slsR, h]
def sumTo (xss : List (List (List RV))) (k : Nat) : Nat := (xss.take k).flatten.length
theorem flat_succ {xss : List (List (List RV))} {k : Nat} (h : k < xss.length) : (xss.take (k + 1)).flatten = (xss.take k).flatten ++ xss[k]'h := by
  rw [List.take_succ_eq_append_getElem h, List.flatten_append]; simp
theorem sumTo_succ {xss : List (List (List RV))} {k : Nat} (h : k < xss.length) : sumTo xss (k + 1) = sumTo xss k + (xss[k]'h).length := by
  unfold sumTo; rw [flat_succ h]; simp
theorem sumTo_le {xss : List (List (List RV))} {k : Nat} : sumTo xss k ≤ xss.flatten.length := by
  have : xss.flatten = (xss.take k).flatten ++ (xss.drop k).flatten := by rw [← List.flatten_append, List.take_append_drop]
  unfold sumTo; rw [this]; simp

set_option maxHeartbeats 1000000 in
theorem sp_Concat (xss : List (List (List RV))) (hl : xss.length ≤ 100) (h0 : 0 < xss.flatten.length) (hb : xss.flatten.length ≤ 8589934592) (i0 v m : Nat) (hm : m ≠ i0) : CallR Go.Proofs.Try.prog 109 [.row i0 v xss.length] [(i0, .row 1 v (rvs (slsR xss)))] [(m, .row 49 xss.length (rvs xss.flatten))] (.row m xss.length xss.flatten.length) := by
  refine callR_M k_slices_Concat_Node [i0] [.row 1 v (rvs (slsR xss))] [.row 1 v (rvs (slsR xss))] [.row 0 v xss.length] [.row i0 v xss.length] _ _ (by simp) (by simp [BkAll, bk_row]) rfl (by simp [nodupL]) ⟨rfl, rfl, ⟨rfl, _, rfl⟩, trivial⟩ (fun K hK => ?_)
  have hlen := slsR_len xss
  simp -implicitDefEqProofs only [c_slices_Concat_Node, go_sem, ↓reduceIte, Nat.reduceEqDiff, Nat.reduceAdd, Nat.reduceSub, Nat.reduceMul, Nat.reduceLeDiff, Nat.reduceLT, reduceCtorEq, Int.reduceToNat]
  repeat' (first | (simp -implicitDefEqProofs only [go_sem, ↓reduceIte, Nat.reduceEqDiff, Nat.reduceAdd, Nat.reduceSub, Nat.reduceMul, Nat.reduceLeDiff, Nat.reduceLT, reduceCtorEq, Int.reduceToNat, hlen]) | (with_reducible refine g_noent ?_) | (refine cdS (fun hg => ?_) (fun hg => ?_) <;> try simp -implicitDefEqProofs only [hg, Bool.not_true, Bool.not_false]) | (refine gdS (fun hg => ?_) (fun hg => ?_) <;> try simp -implicitDefEqProofs only [hg, Bool.not_true, Bool.not_false]) | (refine gddS (fun hg => ?_) (fun hg => ?_) <;> try simp -implicitDefEqProofs only [hg, Bool.not_true, Bool.not_false]) | ((with_reducible apply And.intro); focus (first | trivial | omega | decide | (simp -implicitDefEqProofs only [maxLen]; omega) | (simp [maxLen, sty_len, nd_len, ndL_len, lnL_len, intsL_len, rvs_len, lensS_len]; done) | (simp [maxLen, sty_len, nd_len, ndL_len, lnL_len, intsL_len, rvs_len, lensS_len]; omega))) | fail)
  refine g_loop (ι := Nat) (fun k => [(11, .rv (.int .i64 k)), (10, .rv (.int .i64 xss.length)), (9, .row 0 v xss.length), (3, .rv (.int .i64 (sumTo xss k))), (0, .row 0 v xss.length)]) (fun _ => [some (.row 1 v (rvs (slsR xss)))]) (fun k => k ≤ xss.length) (fun k => xss.length - k) 0 (by simp) (ent_env (by simp [lk, sumTo])) (fun k hk K' hN hX hR => ?_)
  simp -implicitDefEqProofs only [go_sem, ↓reduceIte, Nat.reduceEqDiff, Nat.reduceAdd, Nat.reduceSub, Nat.reduceMul, Nat.reduceLeDiff, Nat.reduceLT, reduceCtorEq, Int.reduceToNat]
  refine cdS (fun hg => ?_) (fun hg => ?_)
  · have hk4 : k < xss.length := by simp at hg; omega
    have hx := slsR_get hk4
    have wu := wrap_up (k := k) (by omega)
    have hs := sumTo_succ hk4
    have hle := sumTo_le (xss := xss) (k := k + 1)
    have ws : IntKind.i64.wrap ((sumTo xss k : Int) + ((xss[k]'hk4).length : Int)) = (sumTo xss (k + 1) : Nat) := by rw [wrap_i64 (by omega) (by omega)]; omega
    have e1 : decide (((sumTo xss (k + 1) : Nat) : Int) < 0) = false := decide_eq_false (by omega)
    repeat' (first | (simp -implicitDefEqProofs only [go_sem, ↓reduceIte, Nat.reduceEqDiff, Nat.reduceAdd, Nat.reduceSub, Nat.reduceMul, Nat.reduceLeDiff, Nat.reduceLT, reduceCtorEq, Int.reduceToNat, hx, hlen, ws, e1, wu]) | (with_reducible refine g_noent ?_) | (refine cdS (fun hg => ?_) (fun hg => ?_) <;> try simp -implicitDefEqProofs only [hg, Bool.not_true, Bool.not_false]) | (refine gdS (fun hg => ?_) (fun hg => ?_) <;> try simp -implicitDefEqProofs only [hg, Bool.not_true, Bool.not_false]) | (refine gddS (fun hg => ?_) (fun hg => ?_) <;> try simp -implicitDefEqProofs only [hg, Bool.not_true, Bool.not_false]) | ((with_reducible apply And.intro); focus (first | trivial | omega | decide | (simp -implicitDefEqProofs only [maxLen]; omega) | (simp [maxLen, sty_len, nd_len, ndL_len, lnL_len, intsL_len, rvs_len, lensS_len]; done) | (simp [maxLen, sty_len, nd_len, ndL_len, lnL_len, intsL_len, rvs_len, lensS_len]; omega))) | fail)
    exact hN (k + 1) _ _ (by omega) (by omega) (ent_env (by simp [lk]))
  · have hk4 : k = xss.length := by simp at hg; omega
    subst hk4
    have hs : sumTo xss xss.length = xss.flatten.length := by simp [sumTo]
    simp -implicitDefEqProofs only [go_sem, ↓reduceIte, Nat.reduceEqDiff, Nat.reduceAdd, Nat.reduceSub, Nat.reduceMul, Nat.reduceLeDiff, Nat.reduceLT, reduceCtorEq, Int.reduceToNat]
    refine hX _ _ _ ?_
    have hcall1 := sp_Grow xss.flatten.length h0 hb 1; repeat' (first | (simp -implicitDefEqProofs only [go_sem, ↓reduceIte, Nat.reduceEqDiff, Nat.reduceAdd, Nat.reduceSub, Nat.reduceMul, Nat.reduceLeDiff, Nat.reduceLT, reduceCtorEq, Int.reduceToNat, hs, hlen]) | (with_reducible refine g_noent ?_) | (refine g_call hcall1 (by simp [PreOK, hget]; done) (by simp [okU, uph]; done) ?_) | (refine g_calld hcall1 (by simp [PreOK, hget]; done) (by simp [okU, uph]; done) ?_) | (refine cdS (fun hg => ?_) (fun hg => ?_) <;> try simp -implicitDefEqProofs only [hg, Bool.not_true, Bool.not_false]) | (refine gdS (fun hg => ?_) (fun hg => ?_) <;> try simp -implicitDefEqProofs only [hg, Bool.not_true, Bool.not_false]) | (refine gddS (fun hg => ?_) (fun hg => ?_) <;> try simp -implicitDefEqProofs only [hg, Bool.not_true, Bool.not_false]) | ((with_reducible apply And.intro); focus (first | trivial | omega | decide | (simp -implicitDefEqProofs only [maxLen]; omega) | (simp [maxLen, sty_len, nd_len, ndL_len, lnL_len, intsL_len, rvs_len, lensS_len]; done) | (simp [maxLen, sty_len, nd_len, ndL_len, lnL_len, intsL_len, rvs_len, lensS_len]; omega))) | fail)
    refine g_loop (ι := Nat) (fun k => [(27, .rv (.int .i64 k)), (26, .rv (.int .i64 xss.length)), (25, .row 0 v xss.length), (6, .row 1 k (sumTo xss k)), (0, .row 0 v xss.length)]) (fun k => [some (.row 1 v (rvs (slsR xss))), some (.row 49 k (rvs (xss.take k).flatten))]) (fun k => k ≤ xss.length) (fun k => xss.length - k) 0 (by simp) (ent_env (by simp [lk, sumTo])) (fun k hk K' hN hX hR => ?_)
    simp -implicitDefEqProofs only [go_sem, ↓reduceIte, Nat.reduceEqDiff, Nat.reduceAdd, Nat.reduceSub, Nat.reduceMul, Nat.reduceLeDiff, Nat.reduceLT, reduceCtorEq, Int.reduceToNat]
    refine cdS (fun hg => ?_) (fun hg => ?_)
    · have hk4 : k < xss.length := by simp at hg; omega
      have hx := slsR_get hk4
      have wu := wrap_up (k := k) (by omega)
      have hs2 := sumTo_succ hk4
      have hle := sumTo_le (xss := xss) (k := k + 1)
      have hfs := flat_succ hk4
      have hfl : (xss.take k).flatten.length = sumTo xss k := rfl
      have htk : (xss.take k).flatten.take (sumTo xss k) = (xss.take k).flatten := List.take_of_length_le (by omega)
      repeat' (first | (simp -implicitDefEqProofs only [go_sem, ↓reduceIte, Nat.reduceEqDiff, Nat.reduceAdd, Nat.reduceSub, Nat.reduceMul, Nat.reduceLeDiff, Nat.reduceLT, reduceCtorEq, Int.reduceToNat, hx, hlen, wu, htk, hfl, rvs_append, hfs.symm, hs2.symm]) | (with_reducible refine g_noent ?_) | (refine cdS (fun hg => ?_) (fun hg => ?_) <;> try simp -implicitDefEqProofs only [hg, Bool.not_true, Bool.not_false]) | (refine gdS (fun hg => ?_) (fun hg => ?_) <;> try simp -implicitDefEqProofs only [hg, Bool.not_true, Bool.not_false]) | (refine gddS (fun hg => ?_) (fun hg => ?_) <;> try simp -implicitDefEqProofs only [hg, Bool.not_true, Bool.not_false]) | ((with_reducible apply And.intro); focus (first | trivial | omega | decide | (simp -implicitDefEqProofs only [maxLen]; omega) | (simp [maxLen, sty_len, nd_len, ndL_len, lnL_len, intsL_len, rvs_len, lensS_len]; done) | (simp [maxLen, sty_len, nd_len, ndL_len, lnL_len, intsL_len, rvs_len, lensS_len]; omega))) | fail)
      exact hN (k + 1) _ _ (by omega) (by omega) (ent_env (by simp [lk]))
    · have hk4 : k = xss.length := by simp at hg; omega
      subst hk4
      simp -implicitDefEqProofs only [go_sem, ↓reduceIte, Nat.reduceEqDiff, Nat.reduceAdd, Nat.reduceSub, Nat.reduceMul, Nat.reduceLeDiff, Nat.reduceLT, reduceCtorEq, Int.reduceToNat]
      refine hX _ _ _ ?_
      repeat' (first | (simp -implicitDefEqProofs only [go_sem, ↓reduceIte, Nat.reduceEqDiff, Nat.reduceAdd, Nat.reduceSub, Nat.reduceMul, Nat.reduceLeDiff, Nat.reduceLT, reduceCtorEq, Int.reduceToNat, hs, List.take_length]) | (with_reducible refine g_noent ?_) | (refine cdS (fun hg => ?_) (fun hg => ?_) <;> try simp -implicitDefEqProofs only [hg, Bool.not_true, Bool.not_false]) | (refine gdS (fun hg => ?_) (fun hg => ?_) <;> try simp -implicitDefEqProofs only [hg, Bool.not_true, Bool.not_false]) | (refine gddS (fun hg => ?_) (fun hg => ?_) <;> try simp -implicitDefEqProofs only [hg, Bool.not_true, Bool.not_false]) | ((with_reducible apply And.intro); focus (first | trivial | omega | decide | (simp -implicitDefEqProofs only [maxLen]; omega) | (simp [maxLen, sty_len, nd_len, ndL_len, lnL_len, intsL_len, rvs_len, lensS_len]; done) | (simp [maxLen, sty_len, nd_len, ndL_len, lnL_len, intsL_len, rvs_len, lensS_len]; omega))) | fail)
      refine (hK _ _ _ _ [some m] (ent_refl _ _) ?_).2
      simp [retM, nodupL, newL, allU, keptL, retP, resL, lk, resT, RnHo, lkp, finU, hget_zero, hget_succ, hget, rnRows_rvs, rn_tup, rn_rv, rn_row, rn_ptr, rn_ifc, rn_agg, rn_dead, RnAll, ofL, rnAll_map, hm, Ne.symm hm]
end Go.Eng


/- edit: taking out. -/
namespace Go.Eng
open Go
/- decoupage/edit.cut -/
def c_edit_cut : AC := (.seq (.reg [⟨(some 4), .mv, [(.c (.rv .nilsl))], none⟩, ⟨(some 5), .mv, [(.c (.rv .nilsl))], none⟩]) (.seq (.reg [⟨(some 12), .mv, [(.t 0)], none⟩, ⟨(some 13), .mv, [(.t 1)], none⟩, ⟨(some 14), (.call 68), [(.t 12), (.t 13)], none⟩, ⟨(some 6), .mv, [(.t 14)], none⟩]) (.seq (.reg [⟨(some 15), .mv, [(.t 6)], none⟩, ⟨(some 16), .mv, [(.t 1)], none⟩, ⟨(some 17), (.ibin .sub), [(.t 15), (.t 16)], none⟩, ⟨(some 7), .mv, [(.t 17)], none⟩]) (.seq (.reg [⟨(some 18), .mv, [(.t 0)], none⟩, ⟨(some 19), .mv, [(.t 1)], none⟩, ⟨(some 20), .mv, [(.t 6)], none⟩, ⟨(some 21), (.slc 49 true true), [(.t 18), (.t 19), (.t 20)], none⟩, ⟨(some 22), (.call 47), [(.t 21)], none⟩, ⟨(some 8), .mv, [(.t 22)], none⟩]) (.seq (.seq (.reg [⟨(some 23), .mv, [(.t 8)], none⟩, ⟨(some 24), .len, [(.t 23)], none⟩, ⟨(some 25), .mv, [(.c (.rv (.int .i64 0)))], none⟩]) (.seq (.block 0 (.loop (.seq (.reg [⟨(some 26), (.ibin .lss), [(.t 25), (.t 24)], none⟩]) (.seq (.cond (.t 26) .skip (.exit 0)) (.seq (.seq (.block 1 (.seq (.reg [⟨(some 27), .mv, [(.t 25)], none⟩, ⟨(some 9), .mv, [(.t 27)], none⟩]) (.reg [⟨(some 28), .mv, [(.t 8)], none⟩, ⟨(some 29), .mv, [(.t 9)], none⟩, ⟨(some 30), (.ixs 49), [(.t 28), (.t 29)], none⟩, ⟨(some 31), (.fld 48), [(.t 30)], none⟩, ⟨(some 32), (.load 1 false), [(.t 31)], none⟩, ⟨(some 33), .mv, [(.t 1)], none⟩, ⟨(some 34), (.ibin .sub), [(.t 32), (.t 33)], none⟩, ⟨(some 35), (.ixs 49), [(.t 28), (.t 29)], none⟩, ⟨(some 36), (.fld 48), [(.t 35)], none⟩, ⟨none, (.store 1), [(.t 36), (.t 34)], none⟩]))) .ent) (.reg [⟨(some 37), (.ibin .add), [(.t 25), (.c (.rv (.int .i64 1)))], none⟩, ⟨(some 25), .mv, [(.t 37)], none⟩])))))) .ent)) (.seq (.reg [⟨(some 38), .mv, [(.t 8)], none⟩, ⟨(some 39), (.ixs 49), [(.t 38), (.c (.rv (.int .i64 0)))], none⟩, ⟨(some 40), (.fld 48), [(.t 39)], none⟩, ⟨none, (.store 1), [(.t 40), (.c (.rv (.int .i64 (-1))))], none⟩]) (.seq (.regd [0, 0, 3, 0, 0, 24, 63, 127, 255] [⟨(some 41), .mv, [(.t 0)], none⟩, ⟨(some 42), .mv, [(.t 1)], none⟩, ⟨(some 43), (.slc 49 false true), [(.t 41), (.t 42)], none⟩, ⟨(some 44), .mv, [(.t 0)], none⟩, ⟨(some 45), .mv, [(.t 6)], none⟩, ⟨(some 46), (.slc 49 true false), [(.t 44), (.t 45)], none⟩, ⟨(some 47), (.bsl 1), [(.t 43), (.t 46)], none⟩, ⟨(some 48), (.call 109), [(.t 47)], none⟩, ⟨(some 10), .mv, [(.t 48)], none⟩]) (.seq (.seq (.reg [⟨(some 49), .mv, [(.t 1)], none⟩, ⟨(some 11), .mv, [(.t 49)], none⟩]) (.seq (.block 2 (.loop (.seq (.seq (.reg [⟨(some 50), .mv, [(.t 11)], none⟩, ⟨(some 51), .mv, [(.t 10)], none⟩, ⟨(some 52), .len, [(.t 51)], none⟩, ⟨(some 53), (.ibin .lss), [(.t 50), (.t 52)], none⟩]) (.cond (.t 53) .skip (.exit 2))) (.seq (.seq (.block 3 (.seq (.reg [⟨(some 56), .mv, [(.t 10)], none⟩, ⟨(some 57), .mv, [(.t 11)], none⟩, ⟨(some 58), (.ixs 49), [(.t 56), (.t 57)], none⟩, ⟨(some 59), (.fld 48), [(.t 58)], none⟩, ⟨(some 60), (.load 1 false), [(.t 59)], none⟩, ⟨(some 61), .mv, [(.t 6)], none⟩, ⟨(some 62), (.ibin .geq), [(.t 60), (.t 61)], none⟩]) (.seq (.cond (.t 62) (.reg [⟨(some 63), .mv, [(.t 10)], none⟩, ⟨(some 64), .mv, [(.t 11)], none⟩, ⟨(some 65), (.ixs 49), [(.t 63), (.t 64)], none⟩, ⟨(some 66), (.fld 48), [(.t 65)], none⟩, ⟨(some 67), (.load 1 false), [(.t 66)], none⟩, ⟨(some 68), .mv, [(.t 7)], none⟩, ⟨(some 69), (.ibin .sub), [(.t 67), (.t 68)], none⟩, ⟨(some 70), (.ixs 49), [(.t 63), (.t 64)], none⟩, ⟨(some 71), (.fld 48), [(.t 70)], none⟩, ⟨none, (.store 1), [(.t 71), (.t 69)], none⟩]) .skip) .ent))) .ent) (.reg [⟨(some 54), .mv, [(.t 11)], none⟩, ⟨(some 55), (.ibin .add), [(.t 54), (.c (.rv (.int .i64 1)))], none⟩, ⟨(some 11), .mv, [(.t 55)], none⟩]))))) .ent)) (.seq (.reg [⟨(some 72), .mv, [(.t 10)], none⟩, ⟨(some 73), .mv, [(.t 8)], none⟩, ⟨(some 4), .mv, [(.t 72)], none⟩, ⟨(some 5), .mv, [(.t 73)], none⟩]) .ret)))))))))
theorem k_edit_cut : FnOK Go.Proofs.Try.prog 86 74 c_edit_cut [(.t 4), (.t 5)] := fnOK_of (by kernel_rfl)


/-- A list some of whose elements are changed already: those from a on, ahead of k. -/
def mapTo (f : Nd → Nd) (a : Nat) (zs : List Nd) (k : Nat) : List Nd := zs.take a ++ ((zs.take k).drop a).map f ++ zs.drop k
theorem mapTo_len {f : Nd → Nd} {a : Nat} {zs : List Nd} {k : Nat} (h : a ≤ k) (hk : k ≤ zs.length) : (mapTo f a zs k).length = zs.length := by
  simp [mapTo]; omega
theorem mapTo_zero {f : Nd → Nd} {a : Nat} {zs : List Nd} : mapTo f a zs a = zs := by simp [mapTo]
theorem mapTo_full {f : Nd → Nd} {a : Nat} {zs : List Nd} : mapTo f a zs zs.length = zs.take a ++ (zs.drop a).map f := by simp [mapTo]
theorem mapTo_at {f : Nd → Nd} {a : Nat} {zs : List Nd} {k : Nat} (h : a ≤ k) (hk : k < zs.length) : (mapTo f a zs k)[k]'(by rw [mapTo_len h (by omega)]; exact hk) = zs[k]'hk := by
  have h1 : (zs.take a ++ ((zs.take k).drop a).map f).length = k := by simp; omega
  have h2 : (mapTo f a zs k)[k]? = some (zs[k]'hk) := by
    rw [mapTo, List.getElem?_append_right (by omega), h1, Nat.sub_self, List.drop_eq_getElem_cons hk]; rfl
  exact (List.getElem?_eq_some_iff.1 h2).2
theorem mapTo_succ {f : Nd → Nd} {a : Nat} {zs : List Nd} {k : Nat} (h : a ≤ k) (hk : k < zs.length) : mapTo f a zs (k + 1) = zs.take a ++ ((zs.take k).drop a).map f ++ f (zs[k]'hk) :: zs.drop (k + 1) := by
  have : (zs.take (k + 1)).drop a = (zs.take k).drop a ++ [zs[k]'hk] := by
    rw [List.take_succ_eq_append_getElem hk, List.drop_append_of_le_length (by simp; omega)]
  simp -implicitDefEqProofs only [mapTo, this]
  simp
theorem mapTo_set {f : Nd → Nd} {a : Nat} {zs : List Nd} {k : Nat} (h : a ≤ k) (hk : k < zs.length) : (mapTo f a zs k).set k (f (zs[k]'hk)) = mapTo f a zs (k + 1) := by
  have h1 : (zs.take a ++ ((zs.take k).drop a).map f).length = k := by simp; omega
  rw [mapTo_succ h hk]
  simp -implicitDefEqProofs only [mapTo]
  rw [List.set_append_right _ _ (by rw [h1]; exact Nat.le_refl _), h1, Nat.sub_self, List.drop_eq_getElem_cons hk, List.set_cons_zero]
theorem mapTo_skip {f : Nd → Nd} {a : Nat} {zs : List Nd} {k : Nat} (h : a ≤ k) (hk : k < zs.length) (hf : f (zs[k]'hk) = zs[k]'hk) : mapTo f a zs (k + 1) = mapTo f a zs k := by
  rw [mapTo_succ h hk, hf]
  simp -implicitDefEqProofs only [mapTo]
  rw [List.drop_eq_getElem_cons hk]

theorem nd_setpE (x : Nd) (v : Int) : List.take 48 (x.cells.map SV.rv) ++ [SV.rv (.int .i64 v)] ++ List.drop 49 (x.cells.map SV.rv) = (Nd.mk x.s v).cells.map SV.rv := rfl
theorem ndL_setE {l : List Nd} {k : Nat} {x : Nd} : (rvs (ndL l)).set k (x.cells.map SV.rv) = rvs (ndL (l.set k x)) := by simp [rvs, ndL, List.map_set]
theorem ndL_take {l : List Nd} {k : Nat} : (ndL l).take k = ndL (l.take k) := by simp [ndL]
theorem ndL_drop {l : List Nd} {k : Nat} : (ndL l).drop k = ndL (l.drop k) := by simp [ndL]

def subN (d : Int) (x : Nd) : Nd := ⟨x.s, x.parent - d⟩
def subIf (a d : Int) (x : Nd) : Nd := if x.parent ≥ a then ⟨x.s, x.parent - d⟩ else x
/-- What is taken: n and all below it. -/
def part0 (l : List Nd) (n : Nat) : List Nd := (l.take (endR l n)).drop n
def partF (l : List Nd) (n : Nat) : List Nd := ((part0 l n).map (subN n)).set 0 ⟨(l.getD n default).s, -1⟩
def left0 (l : List Nd) (n : Nat) : List Nd := l.take n ++ l.drop (endR l n)
def leftF (l : List Nd) (n : Nat) : List Nd := l.take n ++ (l.drop (endR l n)).map (subIf (endR l n) ((endR l n : Nat) - (n : Nat) : Int))
theorem part0_len {l : List Nd} {n : Nat} (hn : n < l.length) : (part0 l n).length = endR l n - n := by
  have := endR_le l n; have := endR_gt hn
  simp [part0]; omega
theorem left0_len {l : List Nd} {n : Nat} (hn : n < l.length) : (left0 l n).length = l.length - (endR l n - n) := by
  have := endR_le l n; have := endR_gt hn
  simp [left0]; omega
theorem part0_par {l : List Nd} (hp : Parb l) {n k : Nat} (hk : k < (part0 l n).length) : -1 ≤ ((part0 l n)[k]'hk).parent ∧ ((part0 l n)[k]'hk).parent < 1099511627776 := by
  have h1 : n + k < l.length := by simp [part0] at hk; omega
  have : ((part0 l n)[k]'hk) = l[n + k]'h1 := by simp [part0]
  rw [this, parL_eq h1]; exact hp _ h1
theorem left0_par {l : List Nd} (hp : Parb l) {n k : Nat} (hk : k < (left0 l n).length) : -1 ≤ ((left0 l n)[k]'hk).parent ∧ ((left0 l n)[k]'hk).parent < 1099511627776 := by
  have hm := List.getElem_mem hk
  simp -implicitDefEqProofs only [left0, List.mem_append] at hm
  have : (left0 l n)[k] ∈ l := by
    rcases hm with hm | hm
    · exact List.mem_of_mem_take hm
    · exact List.mem_of_mem_drop hm
  obtain ⟨j, hj, he⟩ := List.getElem_of_mem this
  rw [← he, parL_eq hj]; exact hp _ hj

set_option maxHeartbeats 2000000 in
theorem sp_cut (l : List Nd) (hb : l.length ≤ 1073741824) (hp : Parb l) (n : Nat) (h0 : 0 < n) (hn : n < l.length) : CallR Go.Proofs.Try.prog 86 [.rv (.sl 49 (ndL l)), .rv (.int .i64 n)] [] [] (.tup [.rv (.sl 49 (ndL (leftF l n))), .rv (.sl 49 (ndL (partF l n)))]) := by
  refine callR_G k_edit_cut [.rv (.sl 49 (ndL l)), .rv (.int .i64 n)] _ (by simp) (by simp [BkAll, bk_agg, bkAll_map, bk_rv, bk_fn, Sty.sv, Ln.sv, Nd.sv]) (fun K hK => ?_)
  have hlen := ndL_len l
  have g1 := endR_gt hn
  have g2 := endR_le l n
  have hpl := part0_len hn
  have hll := left0_len hn
  have hP : (ndL (l.take (endR l n))).drop n = ndL (part0 l n) := by rw [ndL_drop]; rfl
  have hpp := ndL_len (part0 l n)
  have hcl := sp_Clone_Node (ndL (part0 l n)) 0 (by omega)
  rw [hpp] at hcl
  have wm : IntKind.i64.wrap (((endR l n : Nat) : Int) - (n : Int)) = ((endR l n - n : Nat) : Int) := by rw [wrap_i64 (by omega) (by omega)]; omega
  have hmany : ((endR l n - n : Nat) : Int) = ((endR l n : Nat) : Int) - (n : Int) := by omega
  have hnn : ((n : Nat) : Int).toNat = n := by simp
  simp -implicitDefEqProofs only [c_edit_cut, go_sem, ↓reduceIte, Nat.reduceEqDiff, Nat.reduceAdd, Nat.reduceSub, Nat.reduceMul, Nat.reduceLeDiff, Nat.reduceLT, reduceCtorEq, Int.reduceToNat]
  have hcall1 := sp_end l (by omega) n (by omega); have hcall2 := hcl; repeat' (first | (simp -implicitDefEqProofs only [go_sem, ↓reduceIte, Nat.reduceEqDiff, Nat.reduceAdd, Nat.reduceSub, Nat.reduceMul, Nat.reduceLeDiff, Nat.reduceLT, reduceCtorEq, Int.reduceToNat, wm, hlen, ndL_take, hP]) | (with_reducible refine g_noent ?_) | (with_reducible refine g_call0 hcall1 ?_) | (with_reducible refine g_calld0 hcall1 ?_) | (refine g_call hcall2 (by simp [PreOK, hget]; done) (by simp [okU, uph]; done) ?_) | (refine g_calld hcall2 (by simp [PreOK, hget]; done) (by simp [okU, uph]; done) ?_) | (refine cdS (fun hg => ?_) (fun hg => ?_) <;> try simp -implicitDefEqProofs only [hg, Bool.not_true, Bool.not_false]) | (refine gdS (fun hg => ?_) (fun hg => ?_) <;> try simp -implicitDefEqProofs only [hg, Bool.not_true, Bool.not_false]) | (refine gddS (fun hg => ?_) (fun hg => ?_) <;> try simp -implicitDefEqProofs only [hg, Bool.not_true, Bool.not_false]) | ((with_reducible apply And.intro); focus (first | trivial | omega | decide | (simp -implicitDefEqProofs only [maxLen]; omega) | (simp [maxLen, sty_len, nd_len, ndL_len, lnL_len, intsL_len, rvs_len, lensS_len]; done) | (simp [maxLen, sty_len, nd_len, ndL_len, lnL_len, intsL_len, rvs_len, lensS_len]; omega))) | fail)
  refine g_loop (ι := Nat) (fun k => [(25, .rv (.int .i64 k)), (24, .rv (.int .i64 (part0 l n).length)), (8, .row 0 1 (part0 l n).length), (6, .rv (.int .i64 (endR l n))), (7, .rv (.int .i64 (endR l n - n : Nat))), (0, .rv (.sl 49 (ndL l))), (1, .rv (.int .i64 n))]) (fun k => [some (.row 49 1 (rvs (ndL (mapTo (subN n) 0 (part0 l n) k))))]) (fun k => k ≤ (part0 l n).length) (fun k => (part0 l n).length - k) 0 (by simp) (by rw [mapTo_zero]; exact ent_env (by simp [lk])) (fun k hk K' hN hX hR => ?_)
  simp -implicitDefEqProofs only [go_sem, ↓reduceIte, Nat.reduceEqDiff, Nat.reduceAdd, Nat.reduceSub, Nat.reduceMul, Nat.reduceLeDiff, Nat.reduceLT, reduceCtorEq, Int.reduceToNat]
  refine cdS (fun hg => ?_) (fun hg => ?_)
  · have hk4 : k < (part0 l n).length := by simp at hg; omega
    have wu := wrap_up (k := k) (by omega)
    have hml := mapTo_len (f := subN n) (zs := part0 l n) (Nat.zero_le k) hk
    have hml2 := ndL_len (mapTo (subN n) 0 (part0 l n) k)
    have hx := ndL_get (l := mapTo (subN n) 0 (part0 l n) k) (i := k) (by omega)
    rw [mapTo_at (Nat.zero_le k) hk4] at hx
    have hset := mapTo_set (f := subN n) (Nat.zero_le k) hk4
    have hb2 := part0_par hp hk4
    generalize (part0 l n)[k]'hk4 = x at *
    have hxp := nd_atp x
    have ws : IntKind.i64.wrap (x.parent - (n : Int)) = x.parent - n := wrap_i64 (by omega) (by omega)
    have hsub : (Nd.mk x.s (x.parent - n)) = subN n x := rfl
    repeat' (first | (simp -implicitDefEqProofs only [go_sem, ↓reduceIte, Nat.reduceEqDiff, Nat.reduceAdd, Nat.reduceSub, Nat.reduceMul, Nat.reduceLeDiff, Nat.reduceLT, reduceCtorEq, Int.reduceToNat, hx, hml, hml2, nd_len, hxp, ws, nd_setpE, ndL_setE, hsub, hset, wu]) | (with_reducible refine g_noent ?_) | (refine cdS (fun hg => ?_) (fun hg => ?_) <;> try simp -implicitDefEqProofs only [hg, Bool.not_true, Bool.not_false]) | (refine gdS (fun hg => ?_) (fun hg => ?_) <;> try simp -implicitDefEqProofs only [hg, Bool.not_true, Bool.not_false]) | (refine gddS (fun hg => ?_) (fun hg => ?_) <;> try simp -implicitDefEqProofs only [hg, Bool.not_true, Bool.not_false]) | ((with_reducible apply And.intro); focus (first | trivial | omega | decide | (simp -implicitDefEqProofs only [maxLen]; omega) | (simp [maxLen, sty_len, nd_len, ndL_len, lnL_len, intsL_len, rvs_len, lensS_len]; done) | (simp [maxLen, sty_len, nd_len, ndL_len, lnL_len, intsL_len, rvs_len, lensS_len]; omega))) | fail)
    exact hN (k + 1) _ _ (by omega) (by omega) (ent_env (by simp [lk]))
  · have hk4 : k = (part0 l n).length := by simp at hg; omega
    subst hk4
    simp -implicitDefEqProofs only [go_sem, ↓reduceIte, Nat.reduceEqDiff, Nat.reduceAdd, Nat.reduceSub, Nat.reduceMul, Nat.reduceLeDiff, Nat.reduceLT, reduceCtorEq, Int.reduceToNat]
    refine hX _ _ _ ?_
    have hmf : mapTo (subN n) 0 (part0 l n) (part0 l n).length = (part0 l n).map (subN n) := by simp [mapTo_full]
    rw [hmf]
    have hml2 := ndL_len ((part0 l n).map (subN n))
    have hml3 : ((part0 l n).map (subN n)).length = (part0 l n).length := by simp
    have hx := ndL_get (l := (part0 l n).map (subN n)) (i := 0) (by omega)
    have hs0 : ((((part0 l n).map (subN n))[0]'(by omega)).s) = (l.getD n default).s := by
      simp [subN, part0, hn]
    generalize hy : ((part0 l n).map (subN n))[0]'(by omega) = y at *
    have hpart : ((part0 l n).map (subN n)).set 0 ⟨y.s, -1⟩ = partF l n := by rw [hs0]; rfl
    have hcc : CallR Go.Proofs.Try.prog 109 [.row 1 0 2] [(1, .row 1 0 [[.rv (.sl 49 (ndL (l.take n)))], [.rv (.sl 49 (ndL (l.drop (endR l n))))]])] [(2, .row 49 2 (rvs (ndL (left0 l n))))] (.row 2 2 (left0 l n).length) := by
      have e : [ndL (l.take n), ndL (l.drop (endR l n))].flatten = ndL (left0 l n) := by simp [ndL, left0]
      have e2 := ndL_len (left0 l n)
      have := sp_Concat [ndL (l.take n), ndL (l.drop (endR l n))] (by simp) (by rw [e, e2]; omega) (by rw [e, e2]; omega) 1 0 2 (by decide)
      rw [e, e2] at this
      exact this
    have hdr : (ndL l).drop (endR l n) = ndL (l.drop (endR l n)) := ndL_drop
    have hcall3 := hcc; repeat' (first | (simp -implicitDefEqProofs only [go_sem, ↓reduceIte, Nat.reduceEqDiff, Nat.reduceAdd, Nat.reduceSub, Nat.reduceMul, Nat.reduceLeDiff, Nat.reduceLT, reduceCtorEq, Int.reduceToNat, hx, hml2, hml3, nd_len, nd_setpE, ndL_setE, hpart, hlen, ndL_take, List.take_length, hdr]) | (with_reducible refine g_noent ?_) | (refine g_call hcall3 (by simp [PreOK, hget]; done) (by simp [okU, uph]; done) ?_) | (refine g_calld hcall3 (by simp [PreOK, hget]; done) (by simp [okU, uph]; done) ?_) | (refine cdS (fun hg => ?_) (fun hg => ?_) <;> try simp -implicitDefEqProofs only [hg, Bool.not_true, Bool.not_false]) | (refine gdS (fun hg => ?_) (fun hg => ?_) <;> try simp -implicitDefEqProofs only [hg, Bool.not_true, Bool.not_false]) | (refine gddS (fun hg => ?_) (fun hg => ?_) <;> try simp -implicitDefEqProofs only [hg, Bool.not_true, Bool.not_false]) | ((with_reducible apply And.intro); focus (first | trivial | omega | decide | (simp -implicitDefEqProofs only [maxLen]; omega) | (simp [maxLen, sty_len, nd_len, ndL_len, lnL_len, intsL_len, rvs_len, lensS_len]; done) | (simp [maxLen, sty_len, nd_len, ndL_len, lnL_len, intsL_len, rvs_len, lensS_len]; omega))) | fail)
    refine g_loop (ι := Nat) (fun m => [(11, .rv (.int .i64 m)), (10, .row 2 2 (left0 l n).length), (8, .row 0 1 (part0 l n).length), (6, .rv (.int .i64 (endR l n))), (7, .rv (.int .i64 (endR l n - n : Nat)))]) (fun m => [some (.row 49 1 (rvs (ndL (partF l n)))), some (.row 1 0 [[.rv (.sl 49 (ndL (l.take n)))], [.rv (.sl 49 (ndL (l.drop (endR l n))))]]), some (.row 49 2 (rvs (ndL (mapTo (subIf (endR l n) (endR l n - n : Nat)) n (left0 l n) m))))]) (fun m => n ≤ m ∧ m ≤ (left0 l n).length) (fun m => (left0 l n).length - m) n ⟨Nat.le_refl _, by omega⟩ (by rw [mapTo_zero]; exact ent_env (by simp [lk])) (fun m hm K' hN hX hR => ?_)
    obtain ⟨hm1, hm2⟩ := hm
    simp -implicitDefEqProofs only [go_sem, ↓reduceIte, Nat.reduceEqDiff, Nat.reduceAdd, Nat.reduceSub, Nat.reduceMul, Nat.reduceLeDiff, Nat.reduceLT, reduceCtorEq, Int.reduceToNat]
    repeat' (first | (simp -implicitDefEqProofs only [go_sem, ↓reduceIte, Nat.reduceEqDiff, Nat.reduceAdd, Nat.reduceSub, Nat.reduceMul, Nat.reduceLeDiff, Nat.reduceLT, reduceCtorEq, Int.reduceToNat]) | (with_reducible refine g_noent ?_) | (refine cdS (fun hg => ?_) (fun hg => ?_) <;> try simp -implicitDefEqProofs only [hg, Bool.not_true, Bool.not_false]) | (refine gdS (fun hg => ?_) (fun hg => ?_) <;> try simp -implicitDefEqProofs only [hg, Bool.not_true, Bool.not_false]) | (refine gddS (fun hg => ?_) (fun hg => ?_) <;> try simp -implicitDefEqProofs only [hg, Bool.not_true, Bool.not_false]) | ((with_reducible apply And.intro); focus (first | trivial | omega | decide | (simp -implicitDefEqProofs only [maxLen]; omega) | (simp [maxLen, sty_len, nd_len, ndL_len, lnL_len, intsL_len, rvs_len, lensS_len]; done) | (simp [maxLen, sty_len, nd_len, ndL_len, lnL_len, intsL_len, rvs_len, lensS_len]; omega))) | fail)
    · have hm4 : m < (left0 l n).length := by simp at hg; omega
      have wu := wrap_up (k := m) (by omega)
      have hml := mapTo_len (f := subIf (endR l n) (endR l n - n : Nat)) (zs := left0 l n) hm1 hm2
      have hml2 := ndL_len (mapTo (subIf (endR l n) (endR l n - n : Nat)) n (left0 l n) m)
      have hx := ndL_get (l := mapTo (subIf (endR l n) (endR l n - n : Nat)) n (left0 l n) m) (i := m) (by omega)
      rw [mapTo_at hm1 hm4] at hx
      have hset := mapTo_set (f := subIf (endR l n) (endR l n - n : Nat)) hm1 hm4
      have hskip := mapTo_skip (f := subIf (endR l n) (endR l n - n : Nat)) hm1 hm4
      have hb2 := left0_par hp hm4
      generalize (left0 l n)[m]'hm4 = x at *
      have hxp := nd_atp x
      have ws : IntKind.i64.wrap (x.parent - ((endR l n - n : Nat) : Int)) = x.parent - ((endR l n - n : Nat) : Int) := wrap_i64 (by omega) (by omega)
      by_cases hge : x.parent ≥ ((endR l n : Nat) : Int)
      · have e1 : decide (x.parent ≥ ((endR l n : Nat) : Int)) = true := decide_eq_true hge
        have hsub : (Nd.mk x.s (x.parent - ((endR l n - n : Nat) : Int))) = subIf (endR l n) (endR l n - n : Nat) x := (if_pos hge).symm
        repeat' (first | (simp -implicitDefEqProofs only [go_sem, ↓reduceIte, Nat.reduceEqDiff, Nat.reduceAdd, Nat.reduceSub, Nat.reduceMul, Nat.reduceLeDiff, Nat.reduceLT, reduceCtorEq, Int.reduceToNat, hx, hml, hml2, nd_len, hxp, ws, e1, nd_setpE, ndL_setE, hsub, hset, wu]) | (with_reducible refine g_noent ?_) | (refine cdS (fun hg => ?_) (fun hg => ?_) <;> try simp -implicitDefEqProofs only [hg, Bool.not_true, Bool.not_false]) | (refine gdS (fun hg => ?_) (fun hg => ?_) <;> try simp -implicitDefEqProofs only [hg, Bool.not_true, Bool.not_false]) | (refine gddS (fun hg => ?_) (fun hg => ?_) <;> try simp -implicitDefEqProofs only [hg, Bool.not_true, Bool.not_false]) | ((with_reducible apply And.intro); focus (first | trivial | omega | decide | (simp -implicitDefEqProofs only [maxLen]; omega) | (simp [maxLen, sty_len, nd_len, ndL_len, lnL_len, intsL_len, rvs_len, lensS_len]; done) | (simp [maxLen, sty_len, nd_len, ndL_len, lnL_len, intsL_len, rvs_len, lensS_len]; omega))) | fail)
        exact hN (m + 1) _ _ ⟨by omega, by omega⟩ (by omega) (ent_env (by simp [lk]))
      · have e1 : decide (x.parent ≥ ((endR l n : Nat) : Int)) = false := decide_eq_false hge
        repeat' (first | (simp -implicitDefEqProofs only [go_sem, ↓reduceIte, Nat.reduceEqDiff, Nat.reduceAdd, Nat.reduceSub, Nat.reduceMul, Nat.reduceLeDiff, Nat.reduceLT, reduceCtorEq, Int.reduceToNat, hx, hml, hml2, nd_len, hxp, e1, wu]) | (with_reducible refine g_noent ?_) | (refine cdS (fun hg => ?_) (fun hg => ?_) <;> try simp -implicitDefEqProofs only [hg, Bool.not_true, Bool.not_false]) | (refine gdS (fun hg => ?_) (fun hg => ?_) <;> try simp -implicitDefEqProofs only [hg, Bool.not_true, Bool.not_false]) | (refine gddS (fun hg => ?_) (fun hg => ?_) <;> try simp -implicitDefEqProofs only [hg, Bool.not_true, Bool.not_false]) | ((with_reducible apply And.intro); focus (first | trivial | omega | decide | (simp -implicitDefEqProofs only [maxLen]; omega) | (simp [maxLen, sty_len, nd_len, ndL_len, lnL_len, intsL_len, rvs_len, lensS_len]; done) | (simp [maxLen, sty_len, nd_len, ndL_len, lnL_len, intsL_len, rvs_len, lensS_len]; omega))) | fail)
        refine hN (m + 1) _ _ ⟨by omega, by omega⟩ (by omega) ?_
        rw [hskip (if_neg hge)]
        exact ent_env (by simp [lk])
    · have hm4 : m = (left0 l n).length := by simp at hg; omega
      subst hm4
      refine hX _ _ _ ?_
      repeat' (first | (simp -implicitDefEqProofs only [go_sem, ↓reduceIte, Nat.reduceEqDiff, Nat.reduceAdd, Nat.reduceSub, Nat.reduceMul, Nat.reduceLeDiff, Nat.reduceLT, reduceCtorEq, Int.reduceToNat]) | (with_reducible refine g_noent ?_) | (refine cdS (fun hg => ?_) (fun hg => ?_) <;> try simp -implicitDefEqProofs only [hg, Bool.not_true, Bool.not_false]) | (refine gdS (fun hg => ?_) (fun hg => ?_) <;> try simp -implicitDefEqProofs only [hg, Bool.not_true, Bool.not_false]) | (refine gddS (fun hg => ?_) (fun hg => ?_) <;> try simp -implicitDefEqProofs only [hg, Bool.not_true, Bool.not_false]) | ((with_reducible apply And.intro); focus (first | trivial | omega | decide | (simp -implicitDefEqProofs only [maxLen]; omega) | (simp [maxLen, sty_len, nd_len, ndL_len, lnL_len, intsL_len, rvs_len, lensS_len]; done) | (simp [maxLen, sty_len, nd_len, ndL_len, lnL_len, intsL_len, rvs_len, lensS_len]; omega))) | fail)
      have hmf2 : mapTo (subIf (endR l n) (endR l n - n : Nat)) n (left0 l n) (left0 l n).length = leftF l n := by
        rw [mapTo_full, hmany]
        have e1 : (left0 l n).take n = l.take n := by
          have h1 : (l.take n).length = n := by simp; omega
          simp -implicitDefEqProofs only [left0]
          rw [List.take_append_of_le_length (by omega), List.take_of_length_le (by omega)]
        have e2 : (left0 l n).drop n = l.drop (endR l n) := by
          have h1 : (l.take n).length = n := by simp; omega
          simp -implicitDefEqProofs only [left0]
          rw [List.drop_append_of_le_length (by omega), List.drop_of_length_le (by omega)]; rfl
        rw [e1, e2]; rfl
      rw [hmf2]
      have hpf : (partF l n).length = (part0 l n).length := by simp [partF]
      have hlf : (leftF l n).length = (left0 l n).length := by simp [leftF, left0]
      exact (hK _ _ ⟨trivial, rn_tup.2 ⟨rn_frz (xs := ndL (leftF l n)) rfl rfl (by rw [ndL_len, hlf]) (ndL_one _), rn_frz (xs := ndL (partF l n)) rfl rfl (by rw [ndL_len, hpf]) (ndL_one _), trivial⟩⟩).2
end Go.Eng
