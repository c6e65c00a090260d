/- Part 4 of the proof: K5, K6, K7, K8, K9, K10, K11, K12, U1, H1, C2, C3, C4, K9R, K13, C5, C6, KI. -/
import Derived.Test.YtiajmaeempoihaaClipNone3
set_option linter.unusedSimpArgs false
set_option linter.unusedVariables false

/- trees: the program's check. -/
namespace Go.Eng
open Go
/- decoupage/tree.up -/
def c_tree_up : AC := (.seq (.reg [⟨(some 4), .mv, [(.c (.rv (.int .i64 0)))], none⟩, ⟨(some 5), .mv, [(.c (.rv (.bool false)))], none⟩]) (.seq (.reg [⟨(some 6), .mv, [(.c (.rv (.int .i64 0)))], none⟩]) (.seq (.seq (.reg [⟨(some 8), .mv, [(.t 1)], none⟩, ⟨(some 9), (.ibin .sub), [(.t 8), (.c (.rv (.int .i64 1)))], none⟩, ⟨(some 7), .mv, [(.t 9)], none⟩]) (.seq (.block 0 (.loop (.seq (.seq (.reg [⟨(some 10), .mv, [(.t 7)], none⟩, ⟨(some 11), (.ibin .geq), [(.t 10), (.c (.rv (.int .i64 0)))], none⟩]) (.cond (.t 11) .skip (.exit 0))) (.seq (.seq (.block 1 (.seq (.seq (.reg [⟨(some 17), .mv, [(.t 7)], none⟩, ⟨(some 18), .mv, [(.t 0)], none⟩, ⟨(some 19), .mv, [(.t 1)], none⟩, ⟨(some 20), (.ixs 49), [(.t 18), (.t 19)], none⟩, ⟨(some 21), (.fld 48), [(.t 20)], none⟩, ⟨(some 22), (.load 1 false), [(.t 21)], none⟩, ⟨(some 23), (.ibin .eql), [(.t 17), (.t 22)], none⟩]) (.cond (.t 23) (.seq (.reg [⟨(some 24), .mv, [(.t 6)], none⟩, ⟨(some 4), .mv, [(.t 24)], none⟩, ⟨(some 5), .mv, [(.c (.rv (.bool true)))], none⟩]) .ret) .skip)) (.reg [⟨(some 25), .mv, [(.t 6)], none⟩, ⟨(some 26), (.ibin .add), [(.t 25), (.c (.rv (.int .i64 1)))], none⟩, ⟨(some 6), .mv, [(.t 26)], none⟩]))) .ent) (.reg [⟨(some 12), .mv, [(.t 0)], none⟩, ⟨(some 13), .mv, [(.t 7)], none⟩, ⟨(some 14), (.ixs 49), [(.t 12), (.t 13)], none⟩, ⟨(some 15), (.fld 48), [(.t 14)], none⟩, ⟨(some 16), (.load 1 false), [(.t 15)], none⟩, ⟨(some 7), .mv, [(.t 16)], none⟩]))))) .ent)) (.seq (.reg [⟨(some 4), .mv, [(.c (.rv (.int .i64 0)))], none⟩, ⟨(some 5), .mv, [(.c (.rv (.bool false)))], none⟩]) .ret))))
theorem k_tree_up : FnOK Go.Proofs.Try.prog 90 27 c_tree_up [(.t 4), (.t 5)] := fnOK_of (by kernel_rfl)

/- decoupage/tree.Formed -/
def c_tree_Formed : AC := (.seq (.reg [⟨(some 2), .mv, [(.c (.rv (.bool false)))], none⟩]) (.seq (.seq (.reg [⟨(some 6), .mv, [(.t 0)], none⟩, ⟨(some 7), .len, [(.t 6)], none⟩, ⟨(some 8), (.ibin .eql), [(.t 7), (.c (.rv (.int .i64 0)))], none⟩, ⟨(some 9), .mv, [(.t 8)], none⟩, ⟨(some 10), .mv, [(.t 0)], (some (9, false))⟩, ⟨(some 11), (.ixs 49), [(.t 10), (.c (.rv (.int .i64 0)))], (some (9, false))⟩, ⟨(some 12), (.fld 48), [(.t 11)], (some (9, false))⟩, ⟨(some 13), (.load 1 false), [(.t 12)], (some (9, false))⟩, ⟨(some 14), (.ibin .neq), [(.t 13), (.c (.rv (.int .i64 (-1))))], (some (9, false))⟩, ⟨(some 15), .pick, [(.t 9), (.c (.rv (.bool true))), (.t 14)], none⟩]) (.cond (.t 15) (.seq (.reg [⟨(some 2), .mv, [(.c (.rv (.bool false)))], none⟩]) .ret) .skip)) (.seq (.seq (.reg [⟨(some 16), .mv, [(.t 0)], none⟩, ⟨(some 17), .len, [(.t 16)], none⟩, ⟨(some 18), .mv, [(.c (.rv (.int .i64 0)))], none⟩]) (.seq (.block 0 (.loop (.seq (.reg [⟨(some 19), (.ibin .lss), [(.t 18), (.t 17)], none⟩]) (.seq (.cond (.t 19) .skip (.exit 0)) (.seq (.seq (.block 1 (.seq (.reg [⟨(some 20), .mv, [(.t 18)], none⟩, ⟨(some 3), .mv, [(.t 20)], none⟩]) (.seq (.seq (.reg [⟨(some 21), .mv, [(.t 3)], none⟩, ⟨(some 22), (.ibin .gtr), [(.t 21), (.c (.rv (.int .i64 0)))], none⟩]) (.seq (.cond (.t 22) (.seq (.reg [⟨(some 24), .mv, [(.t 0)], none⟩, ⟨(some 25), .mv, [(.t 3)], none⟩, ⟨(some 26), (.call 90), [(.t 24), (.t 25)], none⟩, ⟨(some 23), .mv, [(.t 26)], none⟩, ⟨(some 27), (.ext 0), [(.t 23)], none⟩, ⟨(some 28), (.ext 1), [(.t 23)], none⟩, ⟨(some 4), .mv, [(.t 27)], none⟩, ⟨(some 5), .mv, [(.t 28)], none⟩]) (.seq (.reg [⟨(some 29), .mv, [(.t 5)], none⟩, ⟨(some 30), .not, [(.t 29)], none⟩]) (.cond (.t 30) (.seq (.reg [⟨(some 2), .mv, [(.c (.rv (.bool false)))], none⟩]) .ret) .skip))) .skip) .ent)) (.seq (.reg [⟨(some 31), .mv, [(.t 0)], none⟩, ⟨(some 32), .mv, [(.t 3)], none⟩, ⟨(some 33), (.ixs 49), [(.t 31), (.t 32)], none⟩, ⟨(some 34), (.fld 0), [(.t 33)], none⟩, ⟨(some 35), (.load 48 true), [(.t 34)], none⟩, ⟨(some 36), (.call 85), [(.t 35)], none⟩, ⟨(some 37), .not, [(.t 36)], none⟩]) (.cond (.t 37) (.seq (.reg [⟨(some 2), .mv, [(.c (.rv (.bool false)))], none⟩]) .ret) .skip))))) .ent) (.reg [⟨(some 38), (.ibin .add), [(.t 18), (.c (.rv (.int .i64 1)))], none⟩, ⟨(some 18), .mv, [(.t 38)], none⟩])))))) .ent)) (.seq (.reg [⟨(some 2), .mv, [(.c (.rv (.bool true)))], none⟩]) .ret))))
theorem k_tree_Formed : FnOK Go.Proofs.Try.prog 67 39 c_tree_Formed [(.t 2)] := fnOK_of (by kernel_rfl)


theorem nd_drop0 (x : Nd) : (x.cells.drop 48)[0]? = some (.int .i64 x.parent) := rfl
theorem nd_st (x : Nd) : (x.cells.take 48).map SV.rv = x.s.cells.map SV.rv := rfl

theorem sp_tree_up (l : List Nd) (k : Nat) (h0 : 0 < k) (hk : k < l.length) (hw : WF l k) (hb : l.length ≤ 8589934592) :
    CallR Go.Proofs.Try.prog 90 [.rv (.sl 49 (ndL l)), .rv (.int .i64 k)] [] [] (.tup [.rv (.int .i64 ((upIx l k).getD 0 : Nat)), .rv (.bool (upIx l k).isSome)]) := by
  refine callR_G k_tree_up [.rv (.sl 49 (ndL l)), .rv (.int .i64 k)] _ (by simp) (by simp [BkAll, bk_agg, bkAll_map, bk_rv, bk_fn, Sty.sv, Ln.sv, Nd.sv]) (fun K hK => ?_)
  have wd := wrap_dn h0 (by omega)
  have hxk := ndL_get hk
  have hlen := ndL_len l
  have hpk := parL_eq hk
  simp -implicitDefEqProofs only [c_tree_up, wd, go_sem, ↓reduceIte, Nat.reduceEqDiff, Nat.reduceAdd, Nat.reduceSub, Nat.reduceMul, Nat.reduceLeDiff, Nat.reduceLT, reduceCtorEq, Int.reduceToNat]
  refine g_loop (ι := Nat) (fun i => [(7, .rv (.int .i64 (atI (pth l (k - 1)) i))), (6, .rv (.int .i64 i)), (0, .rv (.sl 49 (ndL l))), (1, .rv (.int .i64 k))]) (fun _ => []) (fun i => i ≤ (pth l (k - 1)).length ∧ ∀ j, (h : j < (pth l (k - 1)).length) → j < i → (((pth l (k - 1))[j]'h : Nat) : Int) ≠ parL l k) (fun i => (pth l (k - 1)).length - i) 0 (by simp) (by rw [atI_zero]; exact ent_env (by simp [lk])) (fun i hi K' hN hX hR => ?_)
  obtain ⟨hi1, hi2⟩ := hi
  have hpl := pth_len (l := l) (k - 1)
  simp -implicitDefEqProofs only [go_sem, ↓reduceIte, Nat.reduceEqDiff, Nat.reduceAdd, Nat.reduceSub, Nat.reduceMul, Nat.reduceLeDiff, Nat.reduceLT, reduceCtorEq, Int.reduceToNat]
  refine cdS (fun hg => ?_) (fun hg => ?_)
  · have hil : i < (pth l (k - 1)).length := atI_iff.1 (by simpa using hg)
    have hat := atI_lt hil
    have hlt : (pth l (k - 1))[i] < k := pth_lt (by omega) hil
    have hx := ndL_get (l := l) (i := (pth l (k - 1))[i]) (by omega)
    have hpar := parL_eq (l := l) (n := (pth l (k - 1))[i]) (by omega)
    have hnx := par_at hw (k - 1) (by omega) i hil
    repeat' (first | (simp -implicitDefEqProofs only [go_sem, ↓reduceIte, Nat.reduceEqDiff, Nat.reduceAdd, Nat.reduceSub, Nat.reduceMul, Nat.reduceLeDiff, Nat.reduceLT, reduceCtorEq, Int.reduceToNat, hxk, hlen, nd_len, nd_drop0, hpk, hat, hx, hpar, hnx]) | (with_reducible refine g_noent ?_) | (refine cdS (fun hg => ?_) (fun hg => ?_) <;> try simp -implicitDefEqProofs only [hg, Bool.not_true, Bool.not_false]) | (refine gdS (fun hg => ?_) (fun hg => ?_) <;> try simp -implicitDefEqProofs only [hg, Bool.not_true, Bool.not_false]) | (refine gddS (fun hg => ?_) (fun hg => ?_) <;> try simp -implicitDefEqProofs only [hg, Bool.not_true, Bool.not_false]) | ((with_reducible apply And.intro); focus (first | trivial | omega | decide | (simp -implicitDefEqProofs only [maxLen]; omega) | (simp [maxLen, sty_len, nd_len, ndL_len, lnL_len, intsL_len, rvs_len, lensS_len]; done) | (simp [maxLen, sty_len, nd_len, ndL_len, lnL_len, intsL_len, rvs_len, lensS_len]; omega))) | fail)
    · refine hR _ _ (hK _ _ ?_).2
      rw [upIx_at hil (by simpa using hg) hi2]
      exact ret_t2 rfl rfl
    · rw [wrap_up (by omega)]
      refine hN (i + 1) _ _ ⟨by omega, fun j hj hji => ?_⟩ (by omega) (ent_env (by simp [lk]))
      rcases Nat.lt_or_ge j i with h | h
      · exact hi2 j hj h
      · obtain rfl : j = i := by omega
        simpa using hg
  · simp -implicitDefEqProofs only [go_sem, ↓reduceIte, Nat.reduceEqDiff, Nat.reduceAdd, Nat.reduceSub, Nat.reduceMul, Nat.reduceLeDiff, Nat.reduceLT, reduceCtorEq, Int.reduceToNat]
    refine hX _ _ _ ?_
    repeat' (first | (simp -implicitDefEqProofs only [go_sem, ↓reduceIte, Nat.reduceEqDiff, Nat.reduceAdd, Nat.reduceSub, Nat.reduceMul, Nat.reduceLeDiff, Nat.reduceLT, reduceCtorEq, Int.reduceToNat]) | (with_reducible refine g_noent ?_) | (refine cdS (fun hg => ?_) (fun hg => ?_) <;> try simp -implicitDefEqProofs only [hg, Bool.not_true, Bool.not_false]) | (refine gdS (fun hg => ?_) (fun hg => ?_) <;> try simp -implicitDefEqProofs only [hg, Bool.not_true, Bool.not_false]) | (refine gddS (fun hg => ?_) (fun hg => ?_) <;> try simp -implicitDefEqProofs only [hg, Bool.not_true, Bool.not_false]) | ((with_reducible apply And.intro); focus (first | trivial | omega | decide | (simp -implicitDefEqProofs only [maxLen]; omega) | (simp [maxLen, sty_len, nd_len, ndL_len, lnL_len, intsL_len, rvs_len, lensS_len]; done) | (simp [maxLen, sty_len, nd_len, ndL_len, lnL_len, intsL_len, rvs_len, lensS_len]; omega))) | fail)
    refine (hK _ _ ?_).2
    have hil : ¬ i < (pth l (k - 1)).length := fun h => by have := atI_iff.2 h; simp at hg; omega
    rw [upIx_no fun j hj => hi2 j hj (by omega)]
    exact ret_t2 rfl rfl

theorem sp_tree_Formed (l : List Nd) (hb : l.length ≤ 8589934592) : CallR Go.Proofs.Try.prog 67 [.rv (.sl 49 (ndL l))] [] [] (.rv (.bool (treeOK l))) := by
  refine callR_G k_tree_Formed [.rv (.sl 49 (ndL l))] _ (by simp) (by simp [BkAll, bk_agg, bkAll_map, bk_rv, bk_fn, Sty.sv, Ln.sv, Nd.sv]) (fun K hK => ?_)
  have bad : ∀ e h, lk e 2 = .rv (.bool false) → treeOK l = false → K .ret ⟨e, h⟩ := fun e h l2 hf => (hK _ _ (ret_t (by rw [l2, hf]))).2
  have hlen := ndL_len l
  simp -implicitDefEqProofs only [c_tree_Formed, hlen, go_sem, ↓reduceIte, Nat.reduceEqDiff, Nat.reduceAdd, Nat.reduceSub, Nat.reduceMul, Nat.reduceLeDiff, Nat.reduceLT, reduceCtorEq, Int.reduceToNat]
  by_cases hl0 : l.length = 0
  · have e0 : (((l.length : Nat) : Int) == 0) = true := by simp [hl0]
    repeat' (first | (simp -implicitDefEqProofs only [go_sem, ↓reduceIte, Nat.reduceEqDiff, Nat.reduceAdd, Nat.reduceSub, Nat.reduceMul, Nat.reduceLeDiff, Nat.reduceLT, reduceCtorEq, Int.reduceToNat, e0, hlen]) | (with_reducible refine g_noent ?_) | (refine cdS (fun hg => ?_) (fun hg => ?_) <;> try simp -implicitDefEqProofs only [hg, Bool.not_true, Bool.not_false]) | (refine gdS (fun hg => ?_) (fun hg => ?_) <;> try simp -implicitDefEqProofs only [hg, Bool.not_true, Bool.not_false]) | (refine gddS (fun hg => ?_) (fun hg => ?_) <;> try simp -implicitDefEqProofs only [hg, Bool.not_true, Bool.not_false]) | ((with_reducible apply And.intro); focus (first | trivial | omega | decide | (simp -implicitDefEqProofs only [maxLen]; omega) | (simp [maxLen, sty_len, nd_len, ndL_len, lnL_len, intsL_len, rvs_len, lensS_len]; done) | (simp [maxLen, sty_len, nd_len, ndL_len, lnL_len, intsL_len, rvs_len, lensS_len]; omega))) | fail)
    exact bad _ _ rfl (by simp [treeOK, shapeOK, hl0])
  · have e0 : (((l.length : Nat) : Int) == 0) = false := by simp [hl0]
    have hx0 := ndL_get (l := l) (i := 0) (by omega)
    have hp0 := parL_eq (l := l) (n := 0) (by omega)
    repeat' (first | (simp -implicitDefEqProofs only [go_sem, ↓reduceIte, Nat.reduceEqDiff, Nat.reduceAdd, Nat.reduceSub, Nat.reduceMul, Nat.reduceLeDiff, Nat.reduceLT, reduceCtorEq, Int.reduceToNat, e0, hlen, hx0, nd_len, nd_drop0, hp0]) | (with_reducible refine g_noent ?_) | (refine cdS (fun hg => ?_) (fun hg => ?_) <;> try simp -implicitDefEqProofs only [hg, Bool.not_true, Bool.not_false]) | (refine gdS (fun hg => ?_) (fun hg => ?_) <;> try simp -implicitDefEqProofs only [hg, Bool.not_true, Bool.not_false]) | (refine gddS (fun hg => ?_) (fun hg => ?_) <;> try simp -implicitDefEqProofs only [hg, Bool.not_true, Bool.not_false]) | ((with_reducible apply And.intro); focus (first | trivial | omega | decide | (simp -implicitDefEqProofs only [maxLen]; omega) | (simp [maxLen, sty_len, nd_len, ndL_len, lnL_len, intsL_len, rvs_len, lensS_len]; done) | (simp [maxLen, sty_len, nd_len, ndL_len, lnL_len, intsL_len, rvs_len, lensS_len]; omega))) | fail)
    · exact bad _ _ rfl (by simp [treeOK, shapeOK]; intro _ h; simp at hg; exact absurd h hg)
    · have hroot : parL l 0 = -1 := by simpa using hg
      refine g_loop (ι := Nat) (fun k => [(18, .rv (.int .i64 k)), (17, .rv (.int .i64 l.length)), (0, .rv (.sl 49 (ndL l)))]) (fun _ => []) (fun k => k ≤ l.length ∧ (∀ j, j < k → nodeOK l j = true) ∧ ((l.drop k).all fun x => styOK x.s) = l.all fun x => styOK x.s) (fun k => l.length - k) 0 (by simp) (ent_env (by simp [lk])) (fun k hk K' hN hX hR => ?_)
      obtain ⟨hk1, hk2, hk3⟩ := hk
      have hw := wf_of hroot hk2
      simp -implicitDefEqProofs only [go_sem, ↓reduceIte, Nat.reduceEqDiff, Nat.reduceAdd, Nat.reduceSub, Nat.reduceMul, Nat.reduceLeDiff, Nat.reduceLT, reduceCtorEq, Int.reduceToNat]
      refine cdS (fun hg => ?_) (fun hg => ?_)
      · have hk4 : k < l.length := by simp at hg; omega
        have hx := ndL_get hk4
        have h48 : (l[k]'hk4).cells.drop 0 = (l[k]'hk4).cells := rfl
        have bad1 : nodeOK l k = false → treeOK l = false := fun h => by
          simp -implicitDefEqProofs only [treeOK, Bool.and_eq_false_iff]
          left
          rw [Bool.eq_false_iff]
          intro ht
          simp -implicitDefEqProofs only [shapeOK, Bool.and_eq_true, List.all_eq_true, List.mem_range] at ht
          have := ht.2 k hk4
          rw [h] at this; cases this
        have bad2 : styOK (l[k]'hk4).s = false → treeOK l = false := fun h => by
          have : (l.all fun x => styOK x.s) = false := all_fail hk4 hk3 h
          simp -implicitDefEqProofs only [treeOK, this, Bool.and_false]
        have nx : ∀ e h, nodeOK l k = true → styOK (l[k]'hk4).s = true → Ent 0 ⟨e, h⟩ ⟨[(18, .rv (.int .i64 (k + 1 : Nat))), (17, .rv (.int .i64 l.length)), (0, .rv (.sl 49 (ndL l)))], []⟩ → K' .normal ⟨e, h⟩ := fun e h h1 h2 he => hN (k + 1) _ _ ⟨by omega, fun j hj => by
            rcases Nat.lt_or_ge j k with h | h
            · exact hk2 j h
            · obtain rfl : j = k := by omega
              exact h1, all_next hk4 hk3 h2⟩ (by omega) he
        have wu := wrap_up (k := k) (by omega)
        clear hN hX hK
        by_cases hk0 : 0 < k
        · have hn : nodeOK l k = (upIx l k).isSome := by simp [nodeOK]; intro h; omega
          have hgt : decide ((k : Int) > 0) = true := decide_eq_true (by omega)
          have hcall1 := sp_tree_up l k hk0 hk4 hw hb; have hcall2 := sp_style_Formed (l[k]'hk4).s; repeat' (first | (simp -implicitDefEqProofs only [go_sem, ↓reduceIte, Nat.reduceEqDiff, Nat.reduceAdd, Nat.reduceSub, Nat.reduceMul, Nat.reduceLeDiff, Nat.reduceLT, reduceCtorEq, Int.reduceToNat, hgt, hlen, hx, nd_len, nd_drop0, nd_st, wu]) | (with_reducible refine g_noent ?_) | (with_reducible refine g_call0 hcall1 ?_) | (with_reducible refine g_calld0 hcall1 ?_) | (with_reducible refine g_call0 hcall2 ?_) | (with_reducible refine g_calld0 hcall2 ?_) | (refine cdS (fun hg => ?_) (fun hg => ?_) <;> try simp -implicitDefEqProofs only [hg, Bool.not_true, Bool.not_false]) | (refine gdS (fun hg => ?_) (fun hg => ?_) <;> try simp -implicitDefEqProofs only [hg, Bool.not_true, Bool.not_false]) | (refine gddS (fun hg => ?_) (fun hg => ?_) <;> try simp -implicitDefEqProofs only [hg, Bool.not_true, Bool.not_false]) | ((with_reducible apply And.intro); focus (first | trivial | omega | decide | (simp -implicitDefEqProofs only [maxLen]; omega) | (simp [maxLen, sty_len, nd_len, ndL_len, lnL_len, intsL_len, rvs_len, lensS_len]; done) | (simp [maxLen, sty_len, nd_len, ndL_len, lnL_len, intsL_len, rvs_len, lensS_len]; omega))) | fail)
          all_goals first
            | (refine hR _ _ (bad _ _ rfl (bad1 ?_)); rw [hn]; simpa using hg; done)
            | (refine hR _ _ (bad _ _ rfl (bad2 ?_)); simpa using hg; done)
            | (refine nx _ _ ?_ ?_ (ent_env (by simp [lk])) <;> simp_all; done)
        · obtain rfl : k = 0 := by omega
          have hn : nodeOK l 0 = true := by simp [nodeOK]
          have hgt : decide (((0 : Nat) : Int) > 0) = false := rfl
          have hcall3 := sp_style_Formed (l[0]'hk4).s; repeat' (first | (simp -implicitDefEqProofs only [go_sem, ↓reduceIte, Nat.reduceEqDiff, Nat.reduceAdd, Nat.reduceSub, Nat.reduceMul, Nat.reduceLeDiff, Nat.reduceLT, reduceCtorEq, Int.reduceToNat, hgt, hlen, hx, nd_len, nd_drop0, nd_st, wu]) | (with_reducible refine g_noent ?_) | (with_reducible refine g_call0 hcall3 ?_) | (with_reducible refine g_calld0 hcall3 ?_) | (refine cdS (fun hg => ?_) (fun hg => ?_) <;> try simp -implicitDefEqProofs only [hg, Bool.not_true, Bool.not_false]) | (refine gdS (fun hg => ?_) (fun hg => ?_) <;> try simp -implicitDefEqProofs only [hg, Bool.not_true, Bool.not_false]) | (refine gddS (fun hg => ?_) (fun hg => ?_) <;> try simp -implicitDefEqProofs only [hg, Bool.not_true, Bool.not_false]) | ((with_reducible apply And.intro); focus (first | trivial | omega | decide | (simp -implicitDefEqProofs only [maxLen]; omega) | (simp [maxLen, sty_len, nd_len, ndL_len, lnL_len, intsL_len, rvs_len, lensS_len]; done) | (simp [maxLen, sty_len, nd_len, ndL_len, lnL_len, intsL_len, rvs_len, lensS_len]; omega))) | fail)
          all_goals first
            | (refine hR _ _ (bad _ _ rfl (bad2 ?_)); simpa using hg; done)
            | (refine nx _ _ hn ?_ (ent_env (by simp [lk])); simpa using hg)
      · have hk4 : k = l.length := by simp at hg; omega
        subst hk4
        have hall := all_done (Nat.le_refl _) hk3
        have hs : shapeOK l = true := by
          simp -implicitDefEqProofs only [shapeOK, Bool.and_eq_true, decide_eq_true_eq, List.all_eq_true, List.mem_range]
          exact ⟨⟨by omega, hroot⟩, hk2⟩
        simp -implicitDefEqProofs only [go_sem, ↓reduceIte, Nat.reduceEqDiff, Nat.reduceAdd, Nat.reduceSub, Nat.reduceMul, Nat.reduceLeDiff, Nat.reduceLT, reduceCtorEq, Int.reduceToNat]
        refine hX _ _ _ ?_
        repeat' (first | (simp -implicitDefEqProofs only [go_sem, ↓reduceIte, Nat.reduceEqDiff, Nat.reduceAdd, Nat.reduceSub, Nat.reduceMul, Nat.reduceLeDiff, Nat.reduceLT, reduceCtorEq, Int.reduceToNat]) | (with_reducible refine g_noent ?_) | (refine cdS (fun hg => ?_) (fun hg => ?_) <;> try simp -implicitDefEqProofs only [hg, Bool.not_true, Bool.not_false]) | (refine gdS (fun hg => ?_) (fun hg => ?_) <;> try simp -implicitDefEqProofs only [hg, Bool.not_true, Bool.not_false]) | (refine gddS (fun hg => ?_) (fun hg => ?_) <;> try simp -implicitDefEqProofs only [hg, Bool.not_true, Bool.not_false]) | ((with_reducible apply And.intro); focus (first | trivial | omega | decide | (simp -implicitDefEqProofs only [maxLen]; omega) | (simp [maxLen, sty_len, nd_len, ndL_len, lnL_len, intsL_len, rvs_len, lensS_len]; done) | (simp [maxLen, sty_len, nd_len, ndL_len, lnL_len, intsL_len, rvs_len, lensS_len]; omega))) | fail)
        exact (hK _ _ (ret_t (by rw [treeOK, hs, hall]; rfl))).2
end Go.Eng


/- trees: how deep; what is wrong: the program's. -/
namespace Go.Eng
open Go
/- slices.Max[[]int,int] -/
def c_slices_Max_int : AC := (.seq (.reg [⟨(some 2), .mv, [(.c (.rv (.int .i64 0)))], none⟩]) (.seq (.seq (.reg [⟨(some 5), .mv, [(.t 0)], none⟩, ⟨(some 6), .len, [(.t 5)], none⟩, ⟨(some 7), (.ibin .lss), [(.t 6), (.c (.rv (.int .i64 1)))], none⟩]) (.seq (.cond (.t 7) (.reg [⟨(some 8), (.mkif 9), [(.c (.rv (.str (.mk (.mk [115, 108, 105, 99, 101, 115, 46, 77, 97, 120, 58, 32, 101, 109, 112, 116, 121, 32, 108, 105, 115, 116])))))], none⟩, ⟨none, .die, [(.t 8)], none⟩]) .skip) .ent)) (.seq (.reg [⟨(some 9), .mv, [(.t 0)], none⟩, ⟨(some 10), (.ixs 1), [(.t 9), (.c (.rv (.int .i64 0)))], none⟩, ⟨(some 11), (.load 1 false), [(.t 10)], none⟩, ⟨(some 3), .mv, [(.t 11)], none⟩]) (.seq (.seq (.reg [⟨(some 4), .mv, [(.c (.rv (.int .i64 1)))], none⟩]) (.seq (.block 0 (.loop (.seq (.seq (.reg [⟨(some 12), .mv, [(.t 4)], none⟩, ⟨(some 13), .mv, [(.t 0)], none⟩, ⟨(some 14), .len, [(.t 13)], none⟩, ⟨(some 15), (.ibin .lss), [(.t 12), (.t 14)], none⟩]) (.cond (.t 15) .skip (.exit 0))) (.seq (.seq (.block 1 (.reg [⟨(some 18), .mv, [(.t 3)], none⟩, ⟨(some 19), .mv, [(.t 0)], none⟩, ⟨(some 20), .mv, [(.t 4)], none⟩, ⟨(some 21), (.ixs 1), [(.t 19), (.t 20)], none⟩, ⟨(some 22), (.load 1 false), [(.t 21)], none⟩, ⟨(some 23), .mx, [(.t 18), (.t 22)], none⟩, ⟨(some 3), .mv, [(.t 23)], none⟩])) .ent) (.reg [⟨(some 16), .mv, [(.t 4)], none⟩, ⟨(some 17), (.ibin .add), [(.t 16), (.c (.rv (.int .i64 1)))], none⟩, ⟨(some 4), .mv, [(.t 17)], none⟩]))))) .ent)) (.seq (.reg [⟨(some 24), .mv, [(.t 3)], none⟩, ⟨(some 2), .mv, [(.t 24)], none⟩]) .ret)))))
theorem k_slices_Max_int : FnOK Go.Proofs.Try.prog 104 25 c_slices_Max_int [(.t 2)] := fnOK_of (by kernel_rfl)

/- decoupage/tree.deepest -/
def c_tree_deepest : AC := (.seq (.reg [⟨(some 2), .mv, [(.c (.rv (.int .i64 0)))], none⟩]) (.seq (.reg [⟨(some 6), .mv, [(.t 0)], none⟩, ⟨(some 7), .len, [(.t 6)], none⟩, ⟨(some 8), (.mksl 1 8 [(.int .i64 0)]), [(.t 7), (.t 7)], none⟩, ⟨(some 3), .mv, [(.t 8)], none⟩]) (.seq (.seq (.reg [⟨(some 9), .mv, [(.t 0)], none⟩, ⟨(some 10), .len, [(.t 9)], none⟩, ⟨(some 11), .mv, [(.c (.rv (.int .i64 0)))], none⟩]) (.seq (.block 0 (.loop (.seq (.reg [⟨(some 12), (.ibin .lss), [(.t 11), (.t 10)], none⟩]) (.seq (.cond (.t 12) .skip (.exit 0)) (.seq (.seq (.block 1 (.seq (.reg [⟨(some 13), .mv, [(.t 11)], none⟩, ⟨(some 14), (.ixs 49), [(.t 9), (.t 11)], none⟩, ⟨(some 15), (.load 49 true), [(.t 14)], none⟩, ⟨(some 5), (.alloc [(.bool false), (.int .i64 0), (.int .i64 0), (.int .i64 0), (.int .i64 0), (.int .i64 0), (.int .i64 0), (.int .i64 0), (.int .i64 0), (.int .i64 0), (.int .i64 0), (.int .i64 0), (.int .i64 0), (.int .i64 0), (.int .i64 0), (.int .i64 0), (.int .i64 0), (.int .i64 0), (.int .i64 0), (.int .i64 0), (.int .i64 0), (.int .i64 0), (.int .i64 0), (.int .i64 0), (.int .i64 0), (.int .i64 0), (.int .i64 0), (.int .i64 0), (.int .i64 0), (.int .i64 0), (.int .i64 0), (.int .i64 0), (.int .i64 0), (.int .i64 0), (.int .i64 0), (.int .i64 0), (.int .i64 0), (.int .i64 0), (.int .i64 0), (.int .i64 0), (.int .i64 0), (.int .i64 0), (.bool false), (.bool false), (.int .i64 0), (.bool false), (.int .i64 0), (.int .i64 0), (.int .i64 0)]), [], none⟩, ⟨(some 4), .mv, [(.t 13)], none⟩, ⟨none, (.store 49), [(.t 5), (.t 15)], none⟩]) (.seq (.reg [⟨(some 16), .mv, [(.t 3)], none⟩, ⟨(some 17), .mv, [(.t 4)], none⟩, ⟨(some 18), (.ixs 1), [(.t 16), (.t 17)], none⟩, ⟨none, (.store 1), [(.t 18), (.c (.rv (.int .i64 1)))], none⟩]) (.seq (.reg [⟨(some 19), .mv, [(.t 4)], none⟩, ⟨(some 20), (.ibin .gtr), [(.t 19), (.c (.rv (.int .i64 0)))], none⟩]) (.seq (.cond (.t 20) (.reg [⟨(some 21), .mv, [(.t 3)], none⟩, ⟨(some 22), .mv, [(.t 4)], none⟩, ⟨(some 23), .mv, [(.t 3)], none⟩, ⟨(some 24), (.fld 48), [(.t 5)], none⟩, ⟨(some 25), (.load 1 false), [(.t 24)], none⟩, ⟨(some 26), (.ixs 1), [(.t 23), (.t 25)], none⟩, ⟨(some 27), (.load 1 false), [(.t 26)], none⟩, ⟨(some 28), (.ibin .add), [(.t 27), (.c (.rv (.int .i64 1)))], none⟩, ⟨(some 29), (.ixs 1), [(.t 21), (.t 22)], none⟩, ⟨none, (.store 1), [(.t 29), (.t 28)], none⟩]) .skip) .ent))))) .ent) (.reg [⟨(some 30), (.ibin .add), [(.t 11), (.c (.rv (.int .i64 1)))], none⟩, ⟨(some 11), .mv, [(.t 30)], none⟩])))))) .ent)) (.seq (.reg [⟨(some 31), .mv, [(.t 3)], none⟩, ⟨(some 32), (.call 104), [(.t 31)], none⟩, ⟨(some 2), .mv, [(.t 32)], none⟩]) .ret))))
theorem k_tree_deepest : FnOK Go.Proofs.Try.prog 75 33 c_tree_deepest [(.t 2)] := fnOK_of (by kernel_rfl)

/- decoupage/tree.Check$1 -/
def c_tree_Check_1 : AC := (.seq (.reg [⟨(some 1), .box, [(.t 0)], none⟩, ⟨(some 2), .mv, [(.c (.rv (.bool false)))], none⟩]) (.seq (.reg [⟨(some 3), (.fld 0), [(.t 1)], none⟩, ⟨(some 4), (.load 48 true), [(.t 3)], none⟩, ⟨(some 5), (.call 78), [(.t 4)], none⟩, ⟨(some 6), .not, [(.t 5)], none⟩, ⟨(some 2), .mv, [(.t 6)], none⟩]) .ret))
theorem k_tree_Check_1 : FnOK Go.Proofs.Try.prog 77 7 c_tree_Check_1 [(.t 2)] := fnOK_of (by kernel_rfl)

/- slices.IndexFunc[[]decoupage/api.Node,decoupage/api.Node] -/
def c_slices_IndexFunc_Node : AC := (.seq (.reg [⟨(some 4), .mv, [(.c (.rv (.int .i64 0)))], none⟩]) (.seq (.seq (.reg [⟨(some 6), .mv, [(.t 0)], none⟩, ⟨(some 7), .len, [(.t 6)], none⟩, ⟨(some 8), .mv, [(.c (.rv (.int .i64 0)))], none⟩]) (.seq (.block 0 (.loop (.seq (.reg [⟨(some 9), (.ibin .lss), [(.t 8), (.t 7)], none⟩]) (.seq (.cond (.t 9) .skip (.exit 0)) (.seq (.seq (.block 1 (.seq (.reg [⟨(some 10), .mv, [(.t 8)], none⟩, ⟨(some 5), .mv, [(.t 10)], none⟩]) (.seq (.reg [⟨(some 11), .mv, [(.t 1)], none⟩, ⟨(some 12), .mv, [(.t 0)], none⟩, ⟨(some 13), .mv, [(.t 5)], none⟩, ⟨(some 14), (.ixs 49), [(.t 12), (.t 13)], none⟩, ⟨(some 15), (.load 49 true), [(.t 14)], none⟩, ⟨(some 16), .callv, [(.t 11), (.t 15)], none⟩]) (.cond (.t 16) (.seq (.reg [⟨(some 17), .mv, [(.t 5)], none⟩, ⟨(some 4), .mv, [(.t 17)], none⟩]) .ret) .skip)))) .ent) (.reg [⟨(some 18), (.ibin .add), [(.t 8), (.c (.rv (.int .i64 1)))], none⟩, ⟨(some 8), .mv, [(.t 18)], none⟩])))))) .ent)) (.seq (.reg [⟨(some 4), .mv, [(.c (.rv (.int .i64 (-1))))], none⟩]) .ret)))
theorem k_slices_IndexFunc_Node : FnOK Go.Proofs.Try.prog 105 19 c_slices_IndexFunc_Node [(.t 4)] := fnOK_of (by kernel_rfl)

/- slices.ContainsFunc[[]decoupage/api.Node,decoupage/api.Node] -/
def c_slices_ContainsFunc_Node : AC := (.seq (.reg [⟨(some 4), .mv, [(.c (.rv (.bool false)))], none⟩]) (.seq (.reg [⟨(some 5), .mv, [(.t 0)], none⟩, ⟨(some 6), .mv, [(.t 1)], none⟩, ⟨(some 7), (.call 105), [(.t 5), (.t 6)], none⟩, ⟨(some 8), (.ibin .geq), [(.t 7), (.c (.rv (.int .i64 0)))], none⟩, ⟨(some 4), .mv, [(.t 8)], none⟩]) .ret))
theorem k_slices_ContainsFunc_Node : FnOK Go.Proofs.Try.prog 76 9 c_slices_ContainsFunc_Node [(.t 4)] := fnOK_of (by kernel_rfl)

/- decoupage/tree.Check -/
def c_tree_Check : AC := (.seq (.reg [⟨(some 2), .mv, [(.c (.rv (.int .i64 0)))], none⟩]) (.seq (.seq (.reg [⟨(some 3), .mv, [(.t 0)], none⟩, ⟨(some 4), (.call 67), [(.t 3)], none⟩, ⟨(some 5), .not, [(.t 4)], none⟩]) (.cond (.t 5) (.seq (.reg [⟨(some 2), .mv, [(.c (.rv (.int .i64 2)))], none⟩]) .ret) .skip)) (.seq (.seq (.reg [⟨(some 6), .mv, [(.t 0)], none⟩, ⟨(some 7), .len, [(.t 6)], none⟩, ⟨(some 8), (.ibin .gtr), [(.t 7), (.c (.rv (.int .i64 65535)))], none⟩, ⟨(some 9), .mv, [(.t 8)], none⟩, ⟨(some 10), .mv, [(.t 0)], (some (9, false))⟩, ⟨(some 11), (.call 75), [(.t 10)], (some (9, false))⟩, ⟨(some 12), (.ibin .gtr), [(.t 11), (.c (.rv (.int .i64 256)))], (some (9, false))⟩, ⟨(some 13), .pick, [(.t 9), (.c (.rv (.bool true))), (.t 12)], none⟩, ⟨(some 14), .mv, [(.t 13)], none⟩, ⟨(some 15), .mv, [(.t 0)], (some (14, false))⟩, ⟨(some 16), (.call 76), [(.t 15), (.c (.fn 77 []))], (some (14, false))⟩, ⟨(some 17), .pick, [(.t 14), (.c (.rv (.bool true))), (.t 16)], none⟩]) (.cond (.t 17) (.seq (.reg [⟨(some 2), .mv, [(.c (.rv (.int .i64 3)))], none⟩]) .ret) .skip)) (.seq (.reg [⟨(some 2), .mv, [(.c (.rv (.int .i64 0)))], none⟩]) .ret))))
theorem k_tree_Check : FnOK Go.Proofs.Try.prog 46 18 c_tree_Check [(.t 2)] := fnOK_of (by kernel_rfl)


def maxFrom (ys : List Int) (m : Int) (k : Nat) : Int := (ys.drop k).foldl (fun a b => if b > a then b else a) m
theorem maxFrom_next {ys : List Int} {m : Int} {k : Nat} (h : k < ys.length) : maxFrom ys m k = maxFrom ys (if ys[k]'h > m then ys[k]'h else m) (k + 1) := by
  unfold maxFrom; rw [List.drop_eq_getElem_cons h]; rfl
theorem maxFrom_end {ys : List Int} {m : Int} {k : Nat} (h : ys.length ≤ k) : maxFrom ys m k = m := by
  unfold maxFrom; rw [List.drop_of_length_le h]; rfl

theorem sp_Max_int (ys : List Int) (h0 : 0 < ys.length) (hb : ys.length ≤ 8589934592) : CallR Go.Proofs.Try.prog 104 [.rv (.sl 1 (intsL ys))] [] [] (.rv (.int .i64 (maxFrom ys (ys[0]'h0) 1))) := by
  refine callR_G k_slices_Max_int [.rv (.sl 1 (intsL ys))] _ (by simp) (by simp [BkAll, bk_agg, bkAll_map, bk_rv, bk_fn, Sty.sv, Ln.sv, Nd.sv]) (fun K hK => ?_)
  have hlen := intsL_len ys
  have e0 : decide (((ys.length : Nat) : Int) < 1) = false := decide_eq_false (by omega)
  have hx0 := intsL_get h0
  simp -implicitDefEqProofs only [c_slices_Max_int, go_sem, ↓reduceIte, Nat.reduceEqDiff, Nat.reduceAdd, Nat.reduceSub, Nat.reduceMul, Nat.reduceLeDiff, Nat.reduceLT, reduceCtorEq, Int.reduceToNat]
  repeat' (first | (simp -implicitDefEqProofs only [go_sem, ↓reduceIte, Nat.reduceEqDiff, Nat.reduceAdd, Nat.reduceSub, Nat.reduceMul, Nat.reduceLeDiff, Nat.reduceLT, reduceCtorEq, Int.reduceToNat, hlen, e0, hx0]) | (with_reducible refine g_noent ?_) | (refine cdS (fun hg => ?_) (fun hg => ?_) <;> try simp -implicitDefEqProofs only [hg, Bool.not_true, Bool.not_false]) | (refine gdS (fun hg => ?_) (fun hg => ?_) <;> try simp -implicitDefEqProofs only [hg, Bool.not_true, Bool.not_false]) | (refine gddS (fun hg => ?_) (fun hg => ?_) <;> try simp -implicitDefEqProofs only [hg, Bool.not_true, Bool.not_false]) | ((with_reducible apply And.intro); focus (first | trivial | omega | decide | (simp -implicitDefEqProofs only [maxLen]; omega) | (simp [maxLen, sty_len, nd_len, ndL_len, lnL_len, intsL_len, rvs_len, lensS_len]; done) | (simp [maxLen, sty_len, nd_len, ndL_len, lnL_len, intsL_len, rvs_len, lensS_len]; omega))) | fail)
  refine g_loop (ι := Nat × Int) (fun i => [(4, .rv (.int .i64 i.1)), (3, .rv (.int .i64 i.2)), (0, .rv (.sl 1 (intsL ys)))]) (fun _ => []) (fun i => i.1 ≤ ys.length ∧ maxFrom ys i.2 i.1 = maxFrom ys (ys[0]'h0) 1) (fun i => ys.length - i.1) (1, ys[0]'h0) ⟨by dsimp only; omega, rfl⟩ (ent_env (by simp [lk])) (fun i hi K' hN hX hR => ?_)
  obtain ⟨k, m⟩ := i
  obtain ⟨hk1, hk2⟩ := hi
  dsimp only at hk1 hk2 ⊢
  simp -implicitDefEqProofs only [hlen, go_sem, ↓reduceIte, Nat.reduceEqDiff, Nat.reduceAdd, Nat.reduceSub, Nat.reduceMul, Nat.reduceLeDiff, Nat.reduceLT, reduceCtorEq, Int.reduceToNat]
  refine cdS (fun hg => ?_) (fun hg => ?_)
  · have hk4 : k < ys.length := by simp at hg; omega
    have hx := intsL_get hk4
    repeat' (first | (simp -implicitDefEqProofs only [go_sem, ↓reduceIte, Nat.reduceEqDiff, Nat.reduceAdd, Nat.reduceSub, Nat.reduceMul, Nat.reduceLeDiff, Nat.reduceLT, reduceCtorEq, Int.reduceToNat, hlen, hx]) | (with_reducible refine g_noent ?_) | (refine cdS (fun hg => ?_) (fun hg => ?_) <;> try simp -implicitDefEqProofs only [hg, Bool.not_true, Bool.not_false]) | (refine gdS (fun hg => ?_) (fun hg => ?_) <;> try simp -implicitDefEqProofs only [hg, Bool.not_true, Bool.not_false]) | (refine gddS (fun hg => ?_) (fun hg => ?_) <;> try simp -implicitDefEqProofs only [hg, Bool.not_true, Bool.not_false]) | ((with_reducible apply And.intro); focus (first | trivial | omega | decide | (simp -implicitDefEqProofs only [maxLen]; omega) | (simp [maxLen, sty_len, nd_len, ndL_len, lnL_len, intsL_len, rvs_len, lensS_len]; done) | (simp [maxLen, sty_len, nd_len, ndL_len, lnL_len, intsL_len, rvs_len, lensS_len]; omega))) | fail)
    rw [wrap_up (by omega)]
    exact hN (k + 1, if ys[k]'hk4 > m then ys[k]'hk4 else m) _ _ ⟨by dsimp only; omega, by rw [← hk2]; exact (maxFrom_next hk4).symm⟩ (by dsimp only; omega) (ent_env (by simp [lk]))
  · simp -implicitDefEqProofs only [go_sem, ↓reduceIte, Nat.reduceEqDiff, Nat.reduceAdd, Nat.reduceSub, Nat.reduceMul, Nat.reduceLeDiff, Nat.reduceLT, reduceCtorEq, Int.reduceToNat]
    refine hX _ _ _ ?_
    repeat' (first | (simp -implicitDefEqProofs only [go_sem, ↓reduceIte, Nat.reduceEqDiff, Nat.reduceAdd, Nat.reduceSub, Nat.reduceMul, Nat.reduceLeDiff, Nat.reduceLT, reduceCtorEq, Int.reduceToNat]) | (with_reducible refine g_noent ?_) | (refine cdS (fun hg => ?_) (fun hg => ?_) <;> try simp -implicitDefEqProofs only [hg, Bool.not_true, Bool.not_false]) | (refine gdS (fun hg => ?_) (fun hg => ?_) <;> try simp -implicitDefEqProofs only [hg, Bool.not_true, Bool.not_false]) | (refine gddS (fun hg => ?_) (fun hg => ?_) <;> try simp -implicitDefEqProofs only [hg, Bool.not_true, Bool.not_false]) | ((with_reducible apply And.intro); focus (first | trivial | omega | decide | (simp -implicitDefEqProofs only [maxLen]; omega) | (simp [maxLen, sty_len, nd_len, ndL_len, lnL_len, intsL_len, rvs_len, lensS_len]; done) | (simp [maxLen, sty_len, nd_len, ndL_len, lnL_len, intsL_len, rvs_len, lensS_len]; omega))) | fail)
    refine (hK _ _ (ret_t ?_)).2
    rw [← hk2, maxFrom_end (by simp at hg; omega)]; rfl

def depTo (l : List Nd) (k : Nat) : List Int := (List.range l.length).map fun j => if j < k then (depth l j : Int) else 0
theorem depTo_len (l : List Nd) (k : Nat) : (depTo l k).length = l.length := by simp [depTo]
theorem depTo_set {l : List Nd} {k : Nat} (hk : k < l.length) : (depTo l k).set k (depth l k) = depTo l (k + 1) := by
  refine List.ext_getElem (by simp [depTo]) (fun i h1 h2 => ?_)
  simp -implicitDefEqProofs only [List.getElem_set, depTo, List.getElem_map, List.getElem_range]
  by_cases h : k = i
  · subst h; simp
  · rw [if_neg h]
    by_cases hi : i < k
    · rw [if_pos hi, if_pos (by omega)]
    · rw [if_neg hi, if_neg (by omega)]
theorem depTo_zero (l : List Nd) : depTo l 0 = List.replicate l.length 0 := by
  refine List.ext_getElem (by simp [depTo]) (fun i h1 h2 => ?_)
  simp [depTo]
theorem depTo_get {l : List Nd} {k j : Nat} (hj : j < k) (hl : j < l.length) : ((depTo l k).set k 1).getD j 0 = depth l j := by
  rw [List.getD_eq_getElem?_getD, List.getElem?_set_ne (by omega)]
  simp [depTo, hl, hj]
theorem depTo_set2 {l : List Nd} {k : Nat} (hk : k < l.length) : ((depTo l k).set k 1).set k (depth l k) = depTo l (k + 1) := by
  rw [List.set_set, depTo_set hk]
def deepS (l : List Nd) : Int := maxFrom (depTo l l.length) ((depTo l l.length).getD 0 0) 1

theorem sp_tree_deepest (l : List Nd) (h0 : 0 < l.length) (hw : WF l l.length) (hb : l.length ≤ 8589934592) : CallR Go.Proofs.Try.prog 75 [.rv (.sl 49 (ndL l))] [] [] (.rv (.int .i64 (deepS l))) := by
  refine callR_G k_tree_deepest [.rv (.sl 49 (ndL l))] _ (by simp) (by simp [BkAll, bk_agg, bkAll_map, bk_rv, bk_fn, Sty.sv, Ln.sv, Nd.sv]) (fun K hK => ?_)
  have hlen := ndL_len l
  simp -implicitDefEqProofs only [c_tree_deepest, go_sem, ↓reduceIte, Nat.reduceEqDiff, Nat.reduceAdd, Nat.reduceSub, Nat.reduceMul, Nat.reduceLeDiff, Nat.reduceLT, reduceCtorEq, Int.reduceToNat]
  repeat' (first | (simp -implicitDefEqProofs only [go_sem, ↓reduceIte, Nat.reduceEqDiff, Nat.reduceAdd, Nat.reduceSub, Nat.reduceMul, Nat.reduceLeDiff, Nat.reduceLT, reduceCtorEq, Int.reduceToNat, hlen, rvs_rep1]) | (with_reducible refine g_noent ?_) | (refine cdS (fun hg => ?_) (fun hg => ?_) <;> try simp -implicitDefEqProofs only [hg, Bool.not_true, Bool.not_false]) | (refine gdS (fun hg => ?_) (fun hg => ?_) <;> try simp -implicitDefEqProofs only [hg, Bool.not_true, Bool.not_false]) | (refine gddS (fun hg => ?_) (fun hg => ?_) <;> try simp -implicitDefEqProofs only [hg, Bool.not_true, Bool.not_false]) | ((with_reducible apply And.intro); focus (first | trivial | omega | decide | (simp -implicitDefEqProofs only [maxLen]; omega) | (simp [maxLen, sty_len, nd_len, ndL_len, lnL_len, intsL_len, rvs_len, lensS_len]; done) | (simp [maxLen, sty_len, nd_len, ndL_len, lnL_len, intsL_len, rvs_len, lensS_len]; omega))) | fail)
  refine g_loop (ι := Nat) (fun k => [(11, .rv (.int .i64 k)), (10, .rv (.int .i64 l.length)), (9, .rv (.sl 49 (ndL l))), (3, .row 0 0 l.length)]) (fun k => [some (.row 1 0 (rvs (intsL (depTo l k))))]) (fun k => k ≤ l.length) (fun k => l.length - k) 0 (by simp) (by rw [depTo_zero]; exact ent_env (by simp [lk])) (fun k hk K' hN hX hR => ?_)
  simp -implicitDefEqProofs only [go_sem, ↓reduceIte, Nat.reduceEqDiff, Nat.reduceAdd, Nat.reduceSub, Nat.reduceMul, Nat.reduceLeDiff, Nat.reduceLT, reduceCtorEq, Int.reduceToNat]
  refine cdS (fun hg => ?_) (fun hg => ?_)
  · have hk4 : k < l.length := by simp at hg; omega
    have hx := ndL_get hk4
    have hdl := depTo_len l k
    have hd1 := intsL_getD (l := depTo l k) (i := k) (by omega)
    have hdd := intsL_len (depTo l k)
    have hsl : ((depTo l k).set k 1).length = l.length := by simp [hdl]
    have hpk := parL_eq hk4
    have wu := wrap_up (k := k) (by omega)
    have nx : ∀ e, Ent 0 ⟨e, [some (.row 1 0 (rvs (intsL (depTo l (k + 1))))), some (.var ((l[k]'hk4).cells.map .rv))]⟩ ⟨[(11, .rv (.int .i64 (k + 1 : Nat))), (10, .rv (.int .i64 l.length)), (9, .rv (.sl 49 (ndL l))), (3, .row 0 0 l.length)], [some (.row 1 0 (rvs (intsL (depTo l (k + 1)))))]⟩ → K' .normal ⟨e, _⟩ := fun e he => hN (k + 1) _ _ (by omega) (by omega) he
    have hds := depTo_set hk4
    have hds2 := depTo_set2 hk4
    by_cases hk0 : 0 < k
    · have hgt : decide ((k : Int) > 0) = true := decide_eq_true (by omega)
      obtain ⟨p1, p2⟩ := hw.2 k hk0 hk4
      obtain ⟨p, hp⟩ : ∃ p : Nat, parL l k = p := ⟨(parL l k).toNat, by omega⟩
      have hdp := intsL_getD (l := (depTo l k).set k 1) (i := p) (by omega)
      have hdk := intsL_getD (l := (depTo l k).set k 1) (i := k) (by omega)
      rw [depTo_get (by omega) (by omega)] at hdp
      have hdsl := intsL_len ((depTo l k).set k 1)
      have hdep := depth_par hw hk0 hk4
      rw [hp, Int.toNat_natCast] at hdep
      have wd := wrap_up (k := depth l p) (by have := pth_len (l := l) p; unfold depth; omega)
      rw [← hdep] at wd
      repeat' (first | (simp -implicitDefEqProofs only [go_sem, ↓reduceIte, Nat.reduceEqDiff, Nat.reduceAdd, Nat.reduceSub, Nat.reduceMul, Nat.reduceLeDiff, Nat.reduceLT, reduceCtorEq, Int.reduceToNat, hgt, hlen, hx, nd_len, nd_atp, nd_sv48, wu, hd1, hdl, hdd, rvs_set1, hpk, hp, hdp, hdk, hsl, hdsl, wd, hds2]) | (with_reducible refine g_noent ?_) | (refine cdS (fun hg => ?_) (fun hg => ?_) <;> try simp -implicitDefEqProofs only [hg, Bool.not_true, Bool.not_false]) | (refine gdS (fun hg => ?_) (fun hg => ?_) <;> try simp -implicitDefEqProofs only [hg, Bool.not_true, Bool.not_false]) | (refine gddS (fun hg => ?_) (fun hg => ?_) <;> try simp -implicitDefEqProofs only [hg, Bool.not_true, Bool.not_false]) | ((with_reducible apply And.intro); focus (first | trivial | omega | decide | (simp -implicitDefEqProofs only [maxLen]; omega) | (simp [maxLen, sty_len, nd_len, ndL_len, lnL_len, intsL_len, rvs_len, lensS_len]; done) | (simp [maxLen, sty_len, nd_len, ndL_len, lnL_len, intsL_len, rvs_len, lensS_len]; omega))) | fail)
      exact nx _ (ent_trim _ (by simp) (by simp [keepL, hget, RnHo, rnRows_rvs]) (by simp [lk, rn_rv, rn_row, τk]))
    · obtain rfl : k = 0 := by omega
      have hgt : decide (((0 : Nat) : Int) > 0) = false := rfl
      rw [depth_zero] at hds
      repeat' (first | (simp -implicitDefEqProofs only [go_sem, ↓reduceIte, Nat.reduceEqDiff, Nat.reduceAdd, Nat.reduceSub, Nat.reduceMul, Nat.reduceLeDiff, Nat.reduceLT, reduceCtorEq, Int.reduceToNat, hgt, hlen, hx, nd_len, nd_atp, nd_sv48, wu, hd1, hdl, hdd, rvs_set1]) | (with_reducible refine g_noent ?_) | (refine cdS (fun hg => ?_) (fun hg => ?_) <;> try simp -implicitDefEqProofs only [hg, Bool.not_true, Bool.not_false]) | (refine gdS (fun hg => ?_) (fun hg => ?_) <;> try simp -implicitDefEqProofs only [hg, Bool.not_true, Bool.not_false]) | (refine gddS (fun hg => ?_) (fun hg => ?_) <;> try simp -implicitDefEqProofs only [hg, Bool.not_true, Bool.not_false]) | ((with_reducible apply And.intro); focus (first | trivial | omega | decide | (simp -implicitDefEqProofs only [maxLen]; omega) | (simp [maxLen, sty_len, nd_len, ndL_len, lnL_len, intsL_len, rvs_len, lensS_len]; done) | (simp [maxLen, sty_len, nd_len, ndL_len, lnL_len, intsL_len, rvs_len, lensS_len]; omega))) | fail)
      rw [show (1 : Int) = ((1 : Nat) : Int) from rfl, hds]
      exact nx _ (ent_trim _ (by simp) (by simp [keepL, hget, RnHo, rnRows_rvs]) (by simp [lk, rn_rv, rn_row, τk]))
  · have hk4 : k = l.length := by simp at hg; omega
    subst hk4
    have hpos : 0 < (depTo l l.length).length := by rw [depTo_len]; exact h0
    have hm := sp_Max_int (depTo l l.length) hpos (by rw [depTo_len]; exact hb)
    have hml := lend1 (id := 0) (v := 0) (n := l.length) (bs := []) hm (.int _ _) (by simp [intsL, depTo]) (intsL_one _)
    simp -implicitDefEqProofs only [go_sem, ↓reduceIte, Nat.reduceEqDiff, Nat.reduceAdd, Nat.reduceSub, Nat.reduceMul, Nat.reduceLeDiff, Nat.reduceLT, reduceCtorEq, Int.reduceToNat]
    refine hX _ _ _ ?_
    have hcall1 := hml; repeat' (first | (simp -implicitDefEqProofs only [go_sem, ↓reduceIte, Nat.reduceEqDiff, Nat.reduceAdd, Nat.reduceSub, Nat.reduceMul, Nat.reduceLeDiff, Nat.reduceLT, reduceCtorEq, Int.reduceToNat]) | (with_reducible refine g_noent ?_) | (refine g_call hcall1 (by simp [PreOK, hget]; done) (by simp [okU, uph]; done) ?_) | (refine g_calld hcall1 (by simp [PreOK, hget]; done) (by simp [okU, uph]; done) ?_) | (refine cdS (fun hg => ?_) (fun hg => ?_) <;> try simp -implicitDefEqProofs only [hg, Bool.not_true, Bool.not_false]) | (refine gdS (fun hg => ?_) (fun hg => ?_) <;> try simp -implicitDefEqProofs only [hg, Bool.not_true, Bool.not_false]) | (refine gddS (fun hg => ?_) (fun hg => ?_) <;> try simp -implicitDefEqProofs only [hg, Bool.not_true, Bool.not_false]) | ((with_reducible apply And.intro); focus (first | trivial | omega | decide | (simp -implicitDefEqProofs only [maxLen]; omega) | (simp [maxLen, sty_len, nd_len, ndL_len, lnL_len, intsL_len, rvs_len, lensS_len]; done) | (simp [maxLen, sty_len, nd_len, ndL_len, lnL_len, intsL_len, rvs_len, lensS_len]; omega))) | fail)
    refine (hK _ _ (ret_t ?_)).2
    rw [deepS, List.getD_eq_getElem?_getD, List.getElem?_eq_getElem hpos]; rfl

theorem maxFrom_le {ys : List Int} {m b : Int} {k : Nat} : maxFrom ys m k ≤ b ↔ m ≤ b ∧ ∀ x ∈ ys.drop k, x ≤ b := by
  unfold maxFrom
  induction ys.drop k generalizing m with
  | nil => simp
  | cons a r ih =>
    rw [List.foldl_cons, ih]
    by_cases h : a > m
    · rw [if_pos h]; simp; intro _; omega
    · rw [if_neg h]; simp; intro _ _; omega
theorem deepS_le (l : List Nd) (h0 : 0 < l.length) : decide (deepS l > 256) = (List.range l.length).any (fun k => decide (depth l k > 256)) := by
  have hg : ∀ k, k < l.length → (depTo l l.length)[k]? = some (depth l k : Int) := fun k hk => by simp [depTo, hk]
  have : deepS l ≤ 256 ↔ ∀ k, k < l.length → depth l k ≤ 256 := by
    rw [deepS, maxFrom_le]
    constructor
    · rintro ⟨h1, h2⟩ k hk
      rcases Nat.eq_zero_or_pos k with rfl | hk0
      · rw [List.getD_eq_getElem?_getD, hg 0 hk] at h1; simp at h1; omega
      · have := h2 (depth l k) (List.mem_iff_getElem?.2 ⟨k - 1, by rw [List.getElem?_drop, show 1 + (k - 1) = k by omega, hg k hk]⟩)
        omega
    · intro h
      refine ⟨by rw [List.getD_eq_getElem?_getD, hg 0 h0]; have := h 0 h0; simp; omega, fun x hx => ?_⟩
      obtain ⟨i, hi⟩ := List.mem_iff_getElem?.1 hx
      rw [List.getElem?_drop] at hi
      have hlt : 1 + i < l.length := by have := (List.getElem?_eq_some_iff.1 hi).1; rwa [depTo_len] at this
      rw [hg _ hlt] at hi
      have := h _ hlt
      simp at hi; omega
  rw [Bool.eq_iff_iff]
  simp -implicitDefEqProofs only [decide_eq_true_eq, List.any_eq_true, List.mem_range]
  constructor
  · intro h
    apply Classical.byContradiction
    intro hn
    have := this.2 (fun k hk => by apply Classical.byContradiction; intro h2; exact hn ⟨k, hk, by omega⟩)
    omega
  · rintro ⟨k, hk, h⟩
    apply Classical.byContradiction
    intro hn
    have := this.1 (by omega) k hk
    omega

theorem sp_tree_Check_1 (x : Nd) : CallR Go.Proofs.Try.prog 77 [x.sv] [] [] (.rv (.bool (!styIn x.s))) := by
  refine callR_G k_tree_Check_1 [x.sv] _ (by simp) (by simp [BkAll, bk_agg, bkAll_map, bk_rv, bk_fn, Sty.sv, Ln.sv, Nd.sv]) (fun K hK => ?_)
  simp -implicitDefEqProofs only [c_tree_Check_1, go_sem, ↓reduceIte, Nat.reduceEqDiff, Nat.reduceAdd, Nat.reduceSub, Nat.reduceMul, Nat.reduceLeDiff, Nat.reduceLT, reduceCtorEq, Int.reduceToNat]
  have h48 : (x.cells.map SV.rv).take 48 = x.s.cells.map SV.rv := rfl
  have hcall2 := sp_style_Within x.s; repeat' (first | (simp -implicitDefEqProofs only [go_sem, ↓reduceIte, Nat.reduceEqDiff, Nat.reduceAdd, Nat.reduceSub, Nat.reduceMul, Nat.reduceLeDiff, Nat.reduceLT, reduceCtorEq, Int.reduceToNat, nd_len, h48]) | (with_reducible refine g_noent ?_) | (with_reducible refine g_call0 hcall2 ?_) | (with_reducible refine g_calld0 hcall2 ?_) | (refine cdS (fun hg => ?_) (fun hg => ?_) <;> try simp -implicitDefEqProofs only [hg, Bool.not_true, Bool.not_false]) | (refine gdS (fun hg => ?_) (fun hg => ?_) <;> try simp -implicitDefEqProofs only [hg, Bool.not_true, Bool.not_false]) | (refine gddS (fun hg => ?_) (fun hg => ?_) <;> try simp -implicitDefEqProofs only [hg, Bool.not_true, Bool.not_false]) | ((with_reducible apply And.intro); focus (first | trivial | omega | decide | (simp -implicitDefEqProofs only [maxLen]; omega) | (simp [maxLen, sty_len, nd_len, ndL_len, lnL_len, intsL_len, rvs_len, lensS_len]; done) | (simp [maxLen, sty_len, nd_len, ndL_len, lnL_len, intsL_len, rvs_len, lensS_len]; omega))) | fail)
  exact (hK _ _ (ret_t rfl)).2

theorem sp_IndexFunc_Node (l : List Nd) (f : Nat) (p : Nd → Bool) (hf : ∀ x : Nd, CallR Go.Proofs.Try.prog f [x.sv] [] [] (.rv (.bool (p x)))) (hb : l.length ≤ 8589934592) :
    CallR Go.Proofs.Try.prog 105 [.rv (.sl 49 (ndL l)), .fn f []] [] [] (.rv (.int .i64 (match l.findIdx? p with | some i => ((i : Nat) : Int) | none => -1))) := by
  refine callR_G k_slices_IndexFunc_Node [.rv (.sl 49 (ndL l)), .fn f []] _ (by simp) (by simp [BkAll, bk_agg, bkAll_map, bk_rv, bk_fn, Sty.sv, Ln.sv, Nd.sv]) (fun K hK => ?_)
  have hlen := ndL_len l
  simp -implicitDefEqProofs only [c_slices_IndexFunc_Node, hlen, go_sem, ↓reduceIte, Nat.reduceEqDiff, Nat.reduceAdd, Nat.reduceSub, Nat.reduceMul, Nat.reduceLeDiff, Nat.reduceLT, reduceCtorEq, Int.reduceToNat]
  refine g_loop (ι := Nat) (fun k => [(8, .rv (.int .i64 k)), (7, .rv (.int .i64 l.length)), (0, .rv (.sl 49 (ndL l))), (1, .fn f [])]) (fun _ => []) (fun k => k ≤ l.length ∧ ∀ j, (h : j < l.length) → j < k → p (l[j]'h) = false) (fun k => l.length - k) 0 (by simp) (ent_env (by simp [lk])) (fun k hk K' hN hX hR => ?_)
  obtain ⟨hk1, hk2⟩ := hk
  simp -implicitDefEqProofs only [go_sem, ↓reduceIte, Nat.reduceEqDiff, Nat.reduceAdd, Nat.reduceSub, Nat.reduceMul, Nat.reduceLeDiff, Nat.reduceLT, reduceCtorEq, Int.reduceToNat]
  refine cdS (fun hg => ?_) (fun hg => ?_)
  · have hk4 : k < l.length := by simp at hg; omega
    have hx := ndL_get hk4
    have hcall3 := hf (l[k]'hk4); repeat' (first | (simp -implicitDefEqProofs only [go_sem, ↓reduceIte, Nat.reduceEqDiff, Nat.reduceAdd, Nat.reduceSub, Nat.reduceMul, Nat.reduceLeDiff, Nat.reduceLT, reduceCtorEq, Int.reduceToNat, hlen, hx, nd_len, nd_sv48]) | (with_reducible refine g_noent ?_) | (with_reducible refine g_call0 hcall3 ?_) | (with_reducible refine g_calld0 hcall3 ?_) | (refine cdS (fun hg => ?_) (fun hg => ?_) <;> try simp -implicitDefEqProofs only [hg, Bool.not_true, Bool.not_false]) | (refine gdS (fun hg => ?_) (fun hg => ?_) <;> try simp -implicitDefEqProofs only [hg, Bool.not_true, Bool.not_false]) | (refine gddS (fun hg => ?_) (fun hg => ?_) <;> try simp -implicitDefEqProofs only [hg, Bool.not_true, Bool.not_false]) | ((with_reducible apply And.intro); focus (first | trivial | omega | decide | (simp -implicitDefEqProofs only [maxLen]; omega) | (simp [maxLen, sty_len, nd_len, ndL_len, lnL_len, intsL_len, rvs_len, lensS_len]; done) | (simp [maxLen, sty_len, nd_len, ndL_len, lnL_len, intsL_len, rvs_len, lensS_len]; omega))) | fail)
    · refine hR _ _ (hK _ _ (ret_t ?_)).2
      have : l.findIdx? p = some k := by
        rw [List.findIdx?_eq_some_iff_getElem]
        exact ⟨hk4, by simpa using hg, fun j hj => by rw [hk2 j (by omega) hj]; simp⟩
      rw [this]; rfl
    · rw [wrap_up (by omega)]
      refine hN (k + 1) _ _ ⟨by omega, fun j hj hji => ?_⟩ (by omega) (ent_env (by simp [lk]))
      rcases Nat.lt_or_ge j k with h | h
      · exact hk2 j hj h
      · obtain rfl : j = k := by omega
        simpa using hg
  · have hk4 : k = l.length := by simp at hg; omega
    subst hk4
    simp -implicitDefEqProofs only [go_sem, ↓reduceIte, Nat.reduceEqDiff, Nat.reduceAdd, Nat.reduceSub, Nat.reduceMul, Nat.reduceLeDiff, Nat.reduceLT, reduceCtorEq, Int.reduceToNat]
    refine hX _ _ _ ?_
    repeat' (first | (simp -implicitDefEqProofs only [go_sem, ↓reduceIte, Nat.reduceEqDiff, Nat.reduceAdd, Nat.reduceSub, Nat.reduceMul, Nat.reduceLeDiff, Nat.reduceLT, reduceCtorEq, Int.reduceToNat]) | (with_reducible refine g_noent ?_) | (refine cdS (fun hg => ?_) (fun hg => ?_) <;> try simp -implicitDefEqProofs only [hg, Bool.not_true, Bool.not_false]) | (refine gdS (fun hg => ?_) (fun hg => ?_) <;> try simp -implicitDefEqProofs only [hg, Bool.not_true, Bool.not_false]) | (refine gddS (fun hg => ?_) (fun hg => ?_) <;> try simp -implicitDefEqProofs only [hg, Bool.not_true, Bool.not_false]) | ((with_reducible apply And.intro); focus (first | trivial | omega | decide | (simp -implicitDefEqProofs only [maxLen]; omega) | (simp [maxLen, sty_len, nd_len, ndL_len, lnL_len, intsL_len, rvs_len, lensS_len]; done) | (simp [maxLen, sty_len, nd_len, ndL_len, lnL_len, intsL_len, rvs_len, lensS_len]; omega))) | fail)
    refine (hK _ _ (ret_t ?_)).2
    have : l.findIdx? p = none := by
      rw [List.findIdx?_eq_none_iff]
      intro x hx
      obtain ⟨j, hj, rfl⟩ := List.getElem_of_mem hx
      exact hk2 j hj hj
    rw [this]; rfl

theorem sp_ContainsFunc_Node (l : List Nd) (f : Nat) (p : Nd → Bool) (hf : ∀ x : Nd, CallR Go.Proofs.Try.prog f [x.sv] [] [] (.rv (.bool (p x)))) (hb : l.length ≤ 8589934592) :
    CallR Go.Proofs.Try.prog 76 [.rv (.sl 49 (ndL l)), .fn f []] [] [] (.rv (.bool (l.any p))) := by
  refine callR_G k_slices_ContainsFunc_Node [.rv (.sl 49 (ndL l)), .fn f []] _ (by simp) (by simp [BkAll, bk_agg, bkAll_map, bk_rv, bk_fn, Sty.sv, Ln.sv, Nd.sv]) (fun K hK => ?_)
  simp -implicitDefEqProofs only [c_slices_ContainsFunc_Node, go_sem, ↓reduceIte, Nat.reduceEqDiff, Nat.reduceAdd, Nat.reduceSub, Nat.reduceMul, Nat.reduceLeDiff, Nat.reduceLT, reduceCtorEq, Int.reduceToNat]
  have hcall4 := sp_IndexFunc_Node l f p hf hb; repeat' (first | (simp -implicitDefEqProofs only [go_sem, ↓reduceIte, Nat.reduceEqDiff, Nat.reduceAdd, Nat.reduceSub, Nat.reduceMul, Nat.reduceLeDiff, Nat.reduceLT, reduceCtorEq, Int.reduceToNat]) | (with_reducible refine g_noent ?_) | (with_reducible refine g_call0 hcall4 ?_) | (with_reducible refine g_calld0 hcall4 ?_) | (refine cdS (fun hg => ?_) (fun hg => ?_) <;> try simp -implicitDefEqProofs only [hg, Bool.not_true, Bool.not_false]) | (refine gdS (fun hg => ?_) (fun hg => ?_) <;> try simp -implicitDefEqProofs only [hg, Bool.not_true, Bool.not_false]) | (refine gddS (fun hg => ?_) (fun hg => ?_) <;> try simp -implicitDefEqProofs only [hg, Bool.not_true, Bool.not_false]) | ((with_reducible apply And.intro); focus (first | trivial | omega | decide | (simp -implicitDefEqProofs only [maxLen]; omega) | (simp [maxLen, sty_len, nd_len, ndL_len, lnL_len, intsL_len, rvs_len, lensS_len]; done) | (simp [maxLen, sty_len, nd_len, ndL_len, lnL_len, intsL_len, rvs_len, lensS_len]; omega))) | fail)
  refine (hK _ _ (ret_t ?_)).2
  have : (l.findIdx? p).isSome = l.any p := List.findIdx?_isSome
  rw [← this]
  cases l.findIdx? p <;> simp [lk]

theorem sp_tree_Check (l : List Nd) (hb : l.length ≤ 8589934592) : CallR Go.Proofs.Try.prog 46 [.rv (.sl 49 (ndL l))] [] [] (.rv (.int .i64 (chk l))) := by
  refine callR_G k_tree_Check [.rv (.sl 49 (ndL l))] _ (by simp) (by simp [BkAll, bk_agg, bkAll_map, bk_rv, bk_fn, Sty.sv, Ln.sv, Nd.sv]) (fun K hK => ?_)
  have hlen := ndL_len l
  simp -implicitDefEqProofs only [c_tree_Check, go_sem, ↓reduceIte, Nat.reduceEqDiff, Nat.reduceAdd, Nat.reduceSub, Nat.reduceMul, Nat.reduceLeDiff, Nat.reduceLT, reduceCtorEq, Int.reduceToNat]
  cases ht : treeOK l with
  | false =>
    have hc := sp_tree_Formed l hb
    rw [ht] at hc
    have hcall5 := hc; repeat' (first | (simp -implicitDefEqProofs only [go_sem, ↓reduceIte, Nat.reduceEqDiff, Nat.reduceAdd, Nat.reduceSub, Nat.reduceMul, Nat.reduceLeDiff, Nat.reduceLT, reduceCtorEq, Int.reduceToNat]) | (with_reducible refine g_noent ?_) | (with_reducible refine g_call0 hcall5 ?_) | (with_reducible refine g_calld0 hcall5 ?_) | (refine cdS (fun hg => ?_) (fun hg => ?_) <;> try simp -implicitDefEqProofs only [hg, Bool.not_true, Bool.not_false]) | (refine gdS (fun hg => ?_) (fun hg => ?_) <;> try simp -implicitDefEqProofs only [hg, Bool.not_true, Bool.not_false]) | (refine gddS (fun hg => ?_) (fun hg => ?_) <;> try simp -implicitDefEqProofs only [hg, Bool.not_true, Bool.not_false]) | ((with_reducible apply And.intro); focus (first | trivial | omega | decide | (simp -implicitDefEqProofs only [maxLen]; omega) | (simp [maxLen, sty_len, nd_len, ndL_len, lnL_len, intsL_len, rvs_len, lensS_len]; done) | (simp [maxLen, sty_len, nd_len, ndL_len, lnL_len, intsL_len, rvs_len, lensS_len]; omega))) | fail)
    exact (hK _ _ (ret_t (by simp [chk, ht, lk]))).2
  | true =>
    have hc := sp_tree_Formed l hb
    rw [ht] at hc
    have hs : Shp l := shape_iff.1 (by unfold treeOK at ht; simp -implicitDefEqProofs only [Bool.and_eq_true] at ht; exact ht.1)
    have hd := deepS_le l hs.pos
    have hcall6 := hc; have hcall7 := sp_tree_deepest l hs.pos hs.wf hb; have hcall8 := sp_ContainsFunc_Node l 77 (fun x => !styIn x.s) sp_tree_Check_1 hb; repeat' (first | (simp -implicitDefEqProofs only [go_sem, ↓reduceIte, Nat.reduceEqDiff, Nat.reduceAdd, Nat.reduceSub, Nat.reduceMul, Nat.reduceLeDiff, Nat.reduceLT, reduceCtorEq, Int.reduceToNat, hlen]) | (with_reducible refine g_noent ?_) | (with_reducible refine g_call0 hcall6 ?_) | (with_reducible refine g_calld0 hcall6 ?_) | (with_reducible refine g_call0 hcall7 ?_) | (with_reducible refine g_calld0 hcall7 ?_) | (with_reducible refine g_call0 hcall8 ?_) | (with_reducible refine g_calld0 hcall8 ?_) | (refine cdS (fun hg => ?_) (fun hg => ?_) <;> try simp -implicitDefEqProofs only [hg, Bool.not_true, Bool.not_false]) | (refine gdS (fun hg => ?_) (fun hg => ?_) <;> try simp -implicitDefEqProofs only [hg, Bool.not_true, Bool.not_false]) | (refine gddS (fun hg => ?_) (fun hg => ?_) <;> try simp -implicitDefEqProofs only [hg, Bool.not_true, Bool.not_false]) | ((with_reducible apply And.intro); focus (first | trivial | omega | decide | (simp -implicitDefEqProofs only [maxLen]; omega) | (simp [maxLen, sty_len, nd_len, ndL_len, lnL_len, intsL_len, rvs_len, lensS_len]; done) | (simp [maxLen, sty_len, nd_len, ndL_len, lnL_len, intsL_len, rvs_len, lensS_len]; omega))) | fail)
    all_goals (refine (hK _ _ (ret_t ?_)).2; clear hK; (simp_all [chk, lk]) <;> (try (intros; omega)))
end Go.Eng


/- trees: the document's functions. -/
namespace Go.Eng
open Go
/- decoupage/decoupageref07.Above -/
def c_decoupageref07_Above : AC := (.seq (.reg [⟨(some 6), .mv, [(.c (.rv (.bool false)))], none⟩]) (.seq (.seq (.block 0 (.loop (.seq (.seq (.reg [⟨(some 7), .mv, [(.t 2)], none⟩, ⟨(some 8), (.ibin .geq), [(.t 7), (.c (.rv (.int .i64 0)))], none⟩]) (.cond (.t 8) .skip (.exit 0))) (.seq (.block 1 (.seq (.seq (.reg [⟨(some 9), .mv, [(.t 2)], none⟩, ⟨(some 10), .mv, [(.t 1)], none⟩, ⟨(some 11), (.ibin .eql), [(.t 9), (.t 10)], none⟩]) (.cond (.t 11) (.seq (.reg [⟨(some 6), .mv, [(.c (.rv (.bool true)))], none⟩]) .ret) .skip)) (.reg [⟨(some 12), .mv, [(.t 0)], none⟩, ⟨(some 13), .mv, [(.t 2)], none⟩, ⟨(some 14), (.ixs 49), [(.t 12), (.t 13)], none⟩, ⟨(some 15), (.fld 48), [(.t 14)], none⟩, ⟨(some 16), (.load 1 false), [(.t 15)], none⟩, ⟨(some 2), .mv, [(.t 16)], none⟩]))) .ent)))) .ent) (.seq (.reg [⟨(some 6), .mv, [(.c (.rv (.bool false)))], none⟩]) .ret)))
theorem k_decoupageref07_Above : FnOK Go.Proofs.Try.prog 89 17 c_decoupageref07_Above [(.t 6)] := fnOK_of (by kernel_rfl)

/- decoupage/decoupageref07.Shaped -/
def c_decoupageref07_Shaped : AC := (.seq (.reg [⟨(some 2), .mv, [(.c (.rv (.bool false)))], none⟩]) (.seq (.seq (.reg [⟨(some 5), .mv, [(.t 0)], none⟩, ⟨(some 6), .len, [(.t 5)], none⟩, ⟨(some 7), (.ibin .eql), [(.t 6), (.c (.rv (.int .i64 0)))], none⟩, ⟨(some 8), .mv, [(.t 7)], none⟩, ⟨(some 9), .mv, [(.t 0)], (some (8, false))⟩, ⟨(some 10), (.ixs 49), [(.t 9), (.c (.rv (.int .i64 0)))], (some (8, false))⟩, ⟨(some 11), (.fld 48), [(.t 10)], (some (8, false))⟩, ⟨(some 12), (.load 1 false), [(.t 11)], (some (8, false))⟩, ⟨(some 13), (.ibin .neq), [(.t 12), (.c (.rv (.int .i64 (-1))))], (some (8, false))⟩, ⟨(some 14), .pick, [(.t 8), (.c (.rv (.bool true))), (.t 13)], none⟩]) (.cond (.t 14) (.seq (.reg [⟨(some 2), .mv, [(.c (.rv (.bool false)))], none⟩]) .ret) .skip)) (.seq (.seq (.reg [⟨(some 3), .mv, [(.c (.rv (.int .i64 1)))], none⟩]) (.seq (.block 0 (.loop (.seq (.seq (.reg [⟨(some 15), .mv, [(.t 3)], none⟩, ⟨(some 16), .mv, [(.t 0)], none⟩, ⟨(some 17), .len, [(.t 16)], none⟩, ⟨(some 18), (.ibin .lss), [(.t 15), (.t 17)], none⟩]) (.cond (.t 18) .skip (.exit 0))) (.seq (.seq (.block 1 (.seq (.reg [⟨(some 21), .mv, [(.t 0)], none⟩, ⟨(some 22), .mv, [(.t 3)], none⟩, ⟨(some 23), (.ixs 49), [(.t 21), (.t 22)], none⟩, ⟨(some 24), (.fld 48), [(.t 23)], none⟩, ⟨(some 25), (.load 1 false), [(.t 24)], none⟩, ⟨(some 4), .mv, [(.t 25)], none⟩]) (.seq (.reg [⟨(some 26), .mv, [(.t 4)], none⟩, ⟨(some 27), (.ibin .lss), [(.t 26), (.c (.rv (.int .i64 0)))], none⟩, ⟨(some 28), .mv, [(.t 27)], none⟩, ⟨(some 29), .mv, [(.t 4)], (some (28, false))⟩, ⟨(some 30), .mv, [(.t 3)], (some (28, false))⟩, ⟨(some 31), (.ibin .geq), [(.t 29), (.t 30)], (some (28, false))⟩, ⟨(some 32), .pick, [(.t 28), (.c (.rv (.bool true))), (.t 31)], none⟩, ⟨(some 33), .mv, [(.t 32)], none⟩, ⟨(some 34), .mv, [(.t 0)], (some (33, false))⟩, ⟨(some 35), .mv, [(.t 4)], (some (33, false))⟩, ⟨(some 36), .mv, [(.t 3)], (some (33, false))⟩, ⟨(some 37), (.ibin .sub), [(.t 36), (.c (.rv (.int .i64 1)))], (some (33, false))⟩, ⟨(some 38), (.call 89), [(.t 34), (.t 35), (.t 37)], (some (33, false))⟩, ⟨(some 39), .not, [(.t 38)], (some (33, false))⟩, ⟨(some 40), .pick, [(.t 33), (.c (.rv (.bool true))), (.t 39)], none⟩]) (.cond (.t 40) (.seq (.reg [⟨(some 2), .mv, [(.c (.rv (.bool false)))], none⟩]) .ret) .skip)))) .ent) (.reg [⟨(some 19), .mv, [(.t 3)], none⟩, ⟨(some 20), (.ibin .add), [(.t 19), (.c (.rv (.int .i64 1)))], none⟩, ⟨(some 3), .mv, [(.t 20)], none⟩]))))) .ent)) (.seq (.reg [⟨(some 2), .mv, [(.c (.rv (.bool true)))], none⟩]) .ret))))
theorem k_decoupageref07_Shaped : FnOK Go.Proofs.Try.prog 66 41 c_decoupageref07_Shaped [(.t 2)] := fnOK_of (by kernel_rfl)

/- decoupage/decoupageref07.Formed -/
def c_decoupageref07_Formed : AC := (.seq (.reg [⟨(some 2), .mv, [(.c (.rv (.bool false)))], none⟩]) (.seq (.seq (.reg [⟨(some 4), .mv, [(.t 0)], none⟩, ⟨(some 5), (.call 66), [(.t 4)], none⟩, ⟨(some 6), .not, [(.t 5)], none⟩]) (.cond (.t 6) (.seq (.reg [⟨(some 2), .mv, [(.c (.rv (.bool false)))], none⟩]) .ret) .skip)) (.seq (.seq (.reg [⟨(some 7), .mv, [(.t 0)], none⟩, ⟨(some 8), .len, [(.t 7)], none⟩, ⟨(some 9), .mv, [(.c (.rv (.int .i64 0)))], none⟩]) (.seq (.block 0 (.loop (.seq (.reg [⟨(some 10), (.ibin .lss), [(.t 9), (.t 8)], none⟩]) (.seq (.cond (.t 10) .skip (.exit 0)) (.seq (.seq (.block 1 (.seq (.reg [⟨(some 11), .mv, [(.t 9)], none⟩, ⟨(some 3), .mv, [(.t 11)], none⟩]) (.seq (.reg [⟨(some 12), .mv, [(.t 0)], none⟩, ⟨(some 13), .mv, [(.t 3)], none⟩, ⟨(some 14), (.ixs 49), [(.t 12), (.t 13)], none⟩, ⟨(some 15), (.fld 0), [(.t 14)], none⟩, ⟨(some 16), (.load 48 true), [(.t 15)], none⟩, ⟨(some 17), (.call 32), [(.t 16)], none⟩, ⟨(some 18), .not, [(.t 17)], none⟩]) (.cond (.t 18) (.seq (.reg [⟨(some 2), .mv, [(.c (.rv (.bool false)))], none⟩]) .ret) .skip)))) .ent) (.reg [⟨(some 19), (.ibin .add), [(.t 9), (.c (.rv (.int .i64 1)))], none⟩, ⟨(some 9), .mv, [(.t 19)], none⟩])))))) .ent)) (.seq (.reg [⟨(some 2), .mv, [(.c (.rv (.bool true)))], none⟩]) .ret))))
theorem k_decoupageref07_Formed : FnOK Go.Proofs.Try.prog 29 20 c_decoupageref07_Formed [(.t 2)] := fnOK_of (by kernel_rfl)

/- decoupage/decoupageref07.Deep -/
def c_decoupageref07_Deep : AC := (.seq (.reg [⟨(some 4), .mv, [(.c (.rv (.int .i64 0)))], none⟩]) (.seq (.reg [⟨(some 5), .mv, [(.c (.rv (.int .i64 0)))], none⟩]) (.seq (.seq (.block 0 (.loop (.seq (.seq (.reg [⟨(some 6), .mv, [(.t 1)], none⟩, ⟨(some 7), (.ibin .geq), [(.t 6), (.c (.rv (.int .i64 0)))], none⟩]) (.cond (.t 7) .skip (.exit 0))) (.seq (.block 1 (.seq (.reg [⟨(some 8), .mv, [(.t 5)], none⟩, ⟨(some 9), (.ibin .add), [(.t 8), (.c (.rv (.int .i64 1)))], none⟩, ⟨(some 5), .mv, [(.t 9)], none⟩]) (.reg [⟨(some 10), .mv, [(.t 0)], none⟩, ⟨(some 11), .mv, [(.t 1)], none⟩, ⟨(some 12), (.ixs 49), [(.t 10), (.t 11)], none⟩, ⟨(some 13), (.fld 48), [(.t 12)], none⟩, ⟨(some 14), (.load 1 false), [(.t 13)], none⟩, ⟨(some 1), .mv, [(.t 14)], none⟩]))) .ent)))) .ent) (.seq (.reg [⟨(some 15), .mv, [(.t 5)], none⟩, ⟨(some 4), .mv, [(.t 15)], none⟩]) .ret))))
theorem k_decoupageref07_Deep : FnOK Go.Proofs.Try.prog 45 16 c_decoupageref07_Deep [(.t 4)] := fnOK_of (by kernel_rfl)

/- decoupage/decoupageref07.Check -/
def c_decoupageref07_Check : AC := (.seq (.reg [⟨(some 2), .mv, [(.c (.rv (.int .i64 0)))], none⟩]) (.seq (.seq (.reg [⟨(some 4), .mv, [(.t 0)], none⟩, ⟨(some 5), (.call 29), [(.t 4)], none⟩, ⟨(some 6), .not, [(.t 5)], none⟩]) (.cond (.t 6) (.seq (.reg [⟨(some 2), .mv, [(.c (.rv (.int .i64 2)))], none⟩]) .ret) .skip)) (.seq (.seq (.reg [⟨(some 7), .mv, [(.t 0)], none⟩, ⟨(some 8), .len, [(.t 7)], none⟩, ⟨(some 9), .mv, [(.c (.rv (.int .i64 0)))], none⟩]) (.seq (.block 0 (.loop (.seq (.reg [⟨(some 10), (.ibin .lss), [(.t 9), (.t 8)], none⟩]) (.seq (.cond (.t 10) .skip (.exit 0)) (.seq (.seq (.block 1 (.seq (.reg [⟨(some 11), .mv, [(.t 9)], none⟩, ⟨(some 3), .mv, [(.t 11)], none⟩]) (.seq (.reg [⟨(some 12), .mv, [(.t 0)], none⟩, ⟨(some 13), .mv, [(.t 3)], none⟩, ⟨(some 14), (.ixs 49), [(.t 12), (.t 13)], none⟩, ⟨(some 15), (.fld 0), [(.t 14)], none⟩, ⟨(some 16), (.load 48 true), [(.t 15)], none⟩, ⟨(some 17), (.call 33), [(.t 16)], none⟩, ⟨(some 18), .not, [(.t 17)], none⟩, ⟨(some 19), .mv, [(.t 18)], none⟩, ⟨(some 20), .mv, [(.t 0)], (some (19, false))⟩, ⟨(some 21), .mv, [(.t 3)], (some (19, false))⟩, ⟨(some 22), (.call 45), [(.t 20), (.t 21)], (some (19, false))⟩, ⟨(some 23), (.ibin .gtr), [(.t 22), (.c (.rv (.int .i64 256)))], (some (19, false))⟩, ⟨(some 24), .pick, [(.t 19), (.c (.rv (.bool true))), (.t 23)], none⟩]) (.cond (.t 24) (.seq (.reg [⟨(some 2), .mv, [(.c (.rv (.int .i64 3)))], none⟩]) .ret) .skip)))) .ent) (.reg [⟨(some 25), (.ibin .add), [(.t 9), (.c (.rv (.int .i64 1)))], none⟩, ⟨(some 9), .mv, [(.t 25)], none⟩])))))) .ent)) (.seq (.seq (.reg [⟨(some 26), .mv, [(.t 0)], none⟩, ⟨(some 27), .len, [(.t 26)], none⟩, ⟨(some 28), (.ibin .gtr), [(.t 27), (.c (.rv (.int .i64 65535)))], none⟩]) (.cond (.t 28) (.seq (.reg [⟨(some 2), .mv, [(.c (.rv (.int .i64 3)))], none⟩]) .ret) .skip)) (.seq (.reg [⟨(some 2), .mv, [(.c (.rv (.int .i64 0)))], none⟩]) .ret)))))
theorem k_decoupageref07_Check : FnOK Go.Proofs.Try.prog 16 29 c_decoupageref07_Check [(.t 2)] := fnOK_of (by kernel_rfl)


/-- Is a on the way up from n? -/
def aboveS (l : List Nd) (a : Int) (n : Nat) : Bool := (pth l n).any fun (j : Nat) => decide ((j : Int) = a)
theorem above_at {l : List Nd} {a : Int} {n i : Nat} (h : i < (pth l n).length) (hp : (((pth l n)[i]'h : Nat) : Int) = a) : aboveS l a n = true := by
  unfold aboveS; rw [List.any_eq_true]; exact ⟨_, List.getElem_mem h, by simpa using hp⟩
theorem above_no {l : List Nd} {a : Int} {n : Nat} (hn : ∀ j, (h : j < (pth l n).length) → (((pth l n)[j]'h : Nat) : Int) ≠ a) : aboveS l a n = false := by
  unfold aboveS; rw [List.any_eq_false]
  intro x hx
  obtain ⟨j, hj, rfl⟩ := List.getElem_of_mem hx
  simpa using hn j hj

theorem sp_ref07_Above (l : List Nd) (a : Int) (n : Nat) (hw : WF l (n + 1)) (hn : n < l.length) (hb : l.length ≤ 8589934592) :
    CallR Go.Proofs.Try.prog 89 [.rv (.sl 49 (ndL l)), .rv (.int .i64 a), .rv (.int .i64 n)] [] [] (.rv (.bool (aboveS l a n))) := by
  refine callR_G k_decoupageref07_Above [.rv (.sl 49 (ndL l)), .rv (.int .i64 a), .rv (.int .i64 n)] _ (by simp) (by simp [BkAll, bk_agg, bkAll_map, bk_rv, bk_fn, Sty.sv, Ln.sv, Nd.sv]) (fun K hK => ?_)
  have hlen := ndL_len l
  simp -implicitDefEqProofs only [c_decoupageref07_Above, go_sem, ↓reduceIte, Nat.reduceEqDiff, Nat.reduceAdd, Nat.reduceSub, Nat.reduceMul, Nat.reduceLeDiff, Nat.reduceLT, reduceCtorEq, Int.reduceToNat]
  refine g_loop (ι := Nat) (fun i => [(2, .rv (.int .i64 (atI (pth l n) i))), (0, .rv (.sl 49 (ndL l))), (1, .rv (.int .i64 a))]) (fun _ => []) (fun i => i ≤ (pth l n).length ∧ ∀ j, (h : j < (pth l n).length) → j < i → (((pth l n)[j]'h : Nat) : Int) ≠ a) (fun i => (pth l n).length - i) 0 (by simp) (by rw [atI_zero]; exact ent_env (by simp [lk])) (fun i hi K' hN hX hR => ?_)
  obtain ⟨hi1, hi2⟩ := hi
  have hpl := pth_len (l := l) n
  simp -implicitDefEqProofs only [go_sem, ↓reduceIte, Nat.reduceEqDiff, Nat.reduceAdd, Nat.reduceSub, Nat.reduceMul, Nat.reduceLeDiff, Nat.reduceLT, reduceCtorEq, Int.reduceToNat]
  refine cdS (fun hg => ?_) (fun hg => ?_)
  · have hil : i < (pth l n).length := atI_iff.1 (by simpa using hg)
    have hat := atI_lt hil
    have hlt : (pth l n)[i] < n + 1 := pth_lt (by omega) hil
    have hx := ndL_get (l := l) (i := (pth l n)[i]) (by omega)
    have hpar := parL_eq (l := l) (n := (pth l n)[i]) (by omega)
    have hnx := par_at hw n (by omega) i hil
    repeat' (first | (simp -implicitDefEqProofs only [go_sem, ↓reduceIte, Nat.reduceEqDiff, Nat.reduceAdd, Nat.reduceSub, Nat.reduceMul, Nat.reduceLeDiff, Nat.reduceLT, reduceCtorEq, Int.reduceToNat, hlen, nd_len, nd_drop0, hat, hx, hpar, hnx]) | (with_reducible refine g_noent ?_) | (refine cdS (fun hg => ?_) (fun hg => ?_) <;> try simp -implicitDefEqProofs only [hg, Bool.not_true, Bool.not_false]) | (refine gdS (fun hg => ?_) (fun hg => ?_) <;> try simp -implicitDefEqProofs only [hg, Bool.not_true, Bool.not_false]) | (refine gddS (fun hg => ?_) (fun hg => ?_) <;> try simp -implicitDefEqProofs only [hg, Bool.not_true, Bool.not_false]) | ((with_reducible apply And.intro); focus (first | trivial | omega | decide | (simp -implicitDefEqProofs only [maxLen]; omega) | (simp [maxLen, sty_len, nd_len, ndL_len, lnL_len, intsL_len, rvs_len, lensS_len]; done) | (simp [maxLen, sty_len, nd_len, ndL_len, lnL_len, intsL_len, rvs_len, lensS_len]; omega))) | fail)
    · exact hR _ _ (hK _ _ (ret_t (by rw [above_at hil (by simpa using hg)]; rfl))).2
    · refine hN (i + 1) _ _ ⟨by omega, fun j hj hji => ?_⟩ (by omega) (ent_env (by simp [lk]))
      rcases Nat.lt_or_ge j i with h | h
      · exact hi2 j hj h
      · obtain rfl : j = i := by omega
        simpa using hg
  · have hil : ¬ i < (pth l n).length := fun h => by have := atI_iff.2 h; simp at hg; omega
    simp -implicitDefEqProofs only [go_sem, ↓reduceIte, Nat.reduceEqDiff, Nat.reduceAdd, Nat.reduceSub, Nat.reduceMul, Nat.reduceLeDiff, Nat.reduceLT, reduceCtorEq, Int.reduceToNat]
    refine hX _ _ _ ?_
    repeat' (first | (simp -implicitDefEqProofs only [go_sem, ↓reduceIte, Nat.reduceEqDiff, Nat.reduceAdd, Nat.reduceSub, Nat.reduceMul, Nat.reduceLeDiff, Nat.reduceLT, reduceCtorEq, Int.reduceToNat]) | (with_reducible refine g_noent ?_) | (refine cdS (fun hg => ?_) (fun hg => ?_) <;> try simp -implicitDefEqProofs only [hg, Bool.not_true, Bool.not_false]) | (refine gdS (fun hg => ?_) (fun hg => ?_) <;> try simp -implicitDefEqProofs only [hg, Bool.not_true, Bool.not_false]) | (refine gddS (fun hg => ?_) (fun hg => ?_) <;> try simp -implicitDefEqProofs only [hg, Bool.not_true, Bool.not_false]) | ((with_reducible apply And.intro); focus (first | trivial | omega | decide | (simp -implicitDefEqProofs only [maxLen]; omega) | (simp [maxLen, sty_len, nd_len, ndL_len, lnL_len, intsL_len, rvs_len, lensS_len]; done) | (simp [maxLen, sty_len, nd_len, ndL_len, lnL_len, intsL_len, rvs_len, lensS_len]; omega))) | fail)
    exact (hK _ _ (ret_t (by rw [above_no fun j hj => hi2 j hj (by omega)]; rfl))).2

theorem nodeOK_above {l : List Nd} {k : Nat} (hk : 0 < k) : nodeOK l k = (!(decide (parL l k < 0) || decide (parL l k ≥ k) || !aboveS l (parL l k) (k - 1))) := by
  have h1 : nodeOK l k = aboveS l (parL l k) (k - 1) := by
    have : decide (k = 0) = false := decide_eq_false (by omega)
    simp -implicitDefEqProofs only [nodeOK, this, Bool.false_or, upIx, aboveS, List.findIdx?_isSome]
  rw [h1]
  cases h : aboveS l (parL l k) (k - 1) with
  | false => simp
  | true =>
    rw [← h1] at h
    have hk0 : ¬ k = 0 := by omega
    simp [nodeOK, hk0] at h
    obtain ⟨a, b, _⟩ := upIx_some h
    simp; omega

theorem sp_ref07_Shaped (l : List Nd) (hb : l.length ≤ 8589934592) : CallR Go.Proofs.Try.prog 66 [.rv (.sl 49 (ndL l))] [] [] (.rv (.bool (shapeOK l))) := by
  refine callR_G k_decoupageref07_Shaped [.rv (.sl 49 (ndL l))] _ (by simp) (by simp [BkAll, bk_agg, bkAll_map, bk_rv, bk_fn, Sty.sv, Ln.sv, Nd.sv]) (fun K hK => ?_)
  have bad : ∀ e h, lk e 2 = .rv (.bool false) → shapeOK l = false → K .ret ⟨e, h⟩ := fun e h l2 hf => (hK _ _ (ret_t (by rw [l2, hf]))).2
  have hlen := ndL_len l
  simp -implicitDefEqProofs only [c_decoupageref07_Shaped, hlen, go_sem, ↓reduceIte, Nat.reduceEqDiff, Nat.reduceAdd, Nat.reduceSub, Nat.reduceMul, Nat.reduceLeDiff, Nat.reduceLT, reduceCtorEq, Int.reduceToNat]
  by_cases hl0 : l.length = 0
  · have e0 : (((l.length : Nat) : Int) == 0) = true := by simp [hl0]
    repeat' (first | (simp -implicitDefEqProofs only [go_sem, ↓reduceIte, Nat.reduceEqDiff, Nat.reduceAdd, Nat.reduceSub, Nat.reduceMul, Nat.reduceLeDiff, Nat.reduceLT, reduceCtorEq, Int.reduceToNat, e0, hlen]) | (with_reducible refine g_noent ?_) | (refine cdS (fun hg => ?_) (fun hg => ?_) <;> try simp -implicitDefEqProofs only [hg, Bool.not_true, Bool.not_false]) | (refine gdS (fun hg => ?_) (fun hg => ?_) <;> try simp -implicitDefEqProofs only [hg, Bool.not_true, Bool.not_false]) | (refine gddS (fun hg => ?_) (fun hg => ?_) <;> try simp -implicitDefEqProofs only [hg, Bool.not_true, Bool.not_false]) | ((with_reducible apply And.intro); focus (first | trivial | omega | decide | (simp -implicitDefEqProofs only [maxLen]; omega) | (simp [maxLen, sty_len, nd_len, ndL_len, lnL_len, intsL_len, rvs_len, lensS_len]; done) | (simp [maxLen, sty_len, nd_len, ndL_len, lnL_len, intsL_len, rvs_len, lensS_len]; omega))) | fail)
    exact bad _ _ rfl (by simp [shapeOK, hl0])
  · have e0 : (((l.length : Nat) : Int) == 0) = false := by simp [hl0]
    have hx0 := ndL_get (l := l) (i := 0) (by omega)
    have hp0 := parL_eq (l := l) (n := 0) (by omega)
    repeat' (first | (simp -implicitDefEqProofs only [go_sem, ↓reduceIte, Nat.reduceEqDiff, Nat.reduceAdd, Nat.reduceSub, Nat.reduceMul, Nat.reduceLeDiff, Nat.reduceLT, reduceCtorEq, Int.reduceToNat, e0, hlen, hx0, nd_len, nd_drop0, hp0]) | (with_reducible refine g_noent ?_) | (refine cdS (fun hg => ?_) (fun hg => ?_) <;> try simp -implicitDefEqProofs only [hg, Bool.not_true, Bool.not_false]) | (refine gdS (fun hg => ?_) (fun hg => ?_) <;> try simp -implicitDefEqProofs only [hg, Bool.not_true, Bool.not_false]) | (refine gddS (fun hg => ?_) (fun hg => ?_) <;> try simp -implicitDefEqProofs only [hg, Bool.not_true, Bool.not_false]) | ((with_reducible apply And.intro); focus (first | trivial | omega | decide | (simp -implicitDefEqProofs only [maxLen]; omega) | (simp [maxLen, sty_len, nd_len, ndL_len, lnL_len, intsL_len, rvs_len, lensS_len]; done) | (simp [maxLen, sty_len, nd_len, ndL_len, lnL_len, intsL_len, rvs_len, lensS_len]; omega))) | fail)
    · exact bad _ _ rfl (by simp [shapeOK]; intro _ h; simp at hg; exact absurd h hg)
    · have hroot : parL l 0 = -1 := by simpa using hg
      refine g_loop (ι := Nat) (fun k => [(3, .rv (.int .i64 k)), (0, .rv (.sl 49 (ndL l)))]) (fun _ => []) (fun k => 0 < k ∧ k ≤ l.length ∧ (∀ j, j < k → nodeOK l j = true)) (fun k => l.length - k) 1 ⟨by omega, by omega, fun j hj => by simp [nodeOK]; omega⟩ (ent_env (by simp [lk])) (fun k hk K' hN hX hR => ?_)
      obtain ⟨hk0, hk1, hk2⟩ := hk
      have hw := wf_of hroot hk2
      simp -implicitDefEqProofs only [hlen, go_sem, ↓reduceIte, Nat.reduceEqDiff, Nat.reduceAdd, Nat.reduceSub, Nat.reduceMul, Nat.reduceLeDiff, Nat.reduceLT, reduceCtorEq, Int.reduceToNat]
      refine cdS (fun hg => ?_) (fun hg => ?_)
      · have hk4 : k < l.length := by simp at hg; omega
        have hx := ndL_get hk4
        have hpk := parL_eq hk4
        have wd := wrap_dn hk0 (by omega)
        have wu := wrap_up (k := k) (by omega)
        have hnode := nodeOK_above (l := l) hk0
        have bad1 : nodeOK l k = false → shapeOK l = false := fun h => by
          rw [Bool.eq_false_iff]
          intro ht
          simp -implicitDefEqProofs only [shapeOK, Bool.and_eq_true, List.all_eq_true, List.mem_range] at ht
          have := ht.2 k hk4
          rw [h] at this; cases this
        have nx : ∀ e h, nodeOK l k = true → Ent 0 ⟨e, h⟩ ⟨[(3, .rv (.int .i64 (k + 1 : Nat))), (0, .rv (.sl 49 (ndL l)))], []⟩ → K' .normal ⟨e, h⟩ := fun e h h1 he => hN (k + 1) _ _ ⟨by omega, by omega, fun j hj => by
            rcases Nat.lt_or_ge j k with h | h
            · exact hk2 j h
            · obtain rfl : j = k := by omega
              exact h1⟩ (by omega) he
        have hwk : WF l (k - 1 + 1) := by rw [show k - 1 + 1 = k by omega]; exact hw
        have hcall1 := sp_ref07_Above l (parL l k) (k - 1) hwk (by omega) hb; repeat' (first | (simp -implicitDefEqProofs only [go_sem, ↓reduceIte, Nat.reduceEqDiff, Nat.reduceAdd, Nat.reduceSub, Nat.reduceMul, Nat.reduceLeDiff, Nat.reduceLT, reduceCtorEq, Int.reduceToNat, hlen, hx, hpk, nd_len, nd_drop0, wd, wu]) | (with_reducible refine g_noent ?_) | (with_reducible refine g_call0 hcall1 ?_) | (with_reducible refine g_calld0 hcall1 ?_) | (refine cdS (fun hg => ?_) (fun hg => ?_) <;> try simp -implicitDefEqProofs only [hg, Bool.not_true, Bool.not_false]) | (refine gdS (fun hg => ?_) (fun hg => ?_) <;> try simp -implicitDefEqProofs only [hg, Bool.not_true, Bool.not_false]) | (refine gddS (fun hg => ?_) (fun hg => ?_) <;> try simp -implicitDefEqProofs only [hg, Bool.not_true, Bool.not_false]) | ((with_reducible apply And.intro); focus (first | trivial | omega | decide | (simp -implicitDefEqProofs only [maxLen]; omega) | (simp [maxLen, sty_len, nd_len, ndL_len, lnL_len, intsL_len, rvs_len, lensS_len]; done) | (simp [maxLen, sty_len, nd_len, ndL_len, lnL_len, intsL_len, rvs_len, lensS_len]; omega))) | fail)
        all_goals first
          | (refine hR _ _ (bad _ _ rfl (bad1 ?_)); rw [hnode]; clear hnode bad1 nx hK hN hX hR bad; simp_all; done)
          | (refine nx _ _ ?_ (ent_env (by simp [lk])); rw [hnode]; clear hnode bad1 nx hK hN hX hR bad; (simp_all) <;> omega)
      · have hk4 : k = l.length := by simp at hg; omega
        subst hk4
        simp -implicitDefEqProofs only [go_sem, ↓reduceIte, Nat.reduceEqDiff, Nat.reduceAdd, Nat.reduceSub, Nat.reduceMul, Nat.reduceLeDiff, Nat.reduceLT, reduceCtorEq, Int.reduceToNat]
        refine hX _ _ _ ?_
        repeat' (first | (simp -implicitDefEqProofs only [go_sem, ↓reduceIte, Nat.reduceEqDiff, Nat.reduceAdd, Nat.reduceSub, Nat.reduceMul, Nat.reduceLeDiff, Nat.reduceLT, reduceCtorEq, Int.reduceToNat]) | (with_reducible refine g_noent ?_) | (refine cdS (fun hg => ?_) (fun hg => ?_) <;> try simp -implicitDefEqProofs only [hg, Bool.not_true, Bool.not_false]) | (refine gdS (fun hg => ?_) (fun hg => ?_) <;> try simp -implicitDefEqProofs only [hg, Bool.not_true, Bool.not_false]) | (refine gddS (fun hg => ?_) (fun hg => ?_) <;> try simp -implicitDefEqProofs only [hg, Bool.not_true, Bool.not_false]) | ((with_reducible apply And.intro); focus (first | trivial | omega | decide | (simp -implicitDefEqProofs only [maxLen]; omega) | (simp [maxLen, sty_len, nd_len, ndL_len, lnL_len, intsL_len, rvs_len, lensS_len]; done) | (simp [maxLen, sty_len, nd_len, ndL_len, lnL_len, intsL_len, rvs_len, lensS_len]; omega))) | fail)
        refine (hK _ _ (ret_t ?_)).2
        have hs : shapeOK l = true := by
          simp -implicitDefEqProofs only [shapeOK, Bool.and_eq_true, decide_eq_true_eq, List.all_eq_true, List.mem_range]
          exact ⟨⟨by omega, hroot⟩, hk2⟩
        rw [hs]; rfl

theorem sp_ref07_Formed (l : List Nd) (hb : l.length ≤ 8589934592) : CallR Go.Proofs.Try.prog 29 [.rv (.sl 49 (ndL l))] [] [] (.rv (.bool (treeOK l))) := by
  refine callR_G k_decoupageref07_Formed [.rv (.sl 49 (ndL l))] _ (by simp) (by simp [BkAll, bk_agg, bkAll_map, bk_rv, bk_fn, Sty.sv, Ln.sv, Nd.sv]) (fun K hK => ?_)
  have bad : ∀ e h, lk e 2 = .rv (.bool false) → treeOK l = false → K .ret ⟨e, h⟩ := fun e h l2 hf => (hK _ _ (ret_t (by rw [l2, hf]))).2
  have hlen := ndL_len l
  simp -implicitDefEqProofs only [c_decoupageref07_Formed, go_sem, ↓reduceIte, Nat.reduceEqDiff, Nat.reduceAdd, Nat.reduceSub, Nat.reduceMul, Nat.reduceLeDiff, Nat.reduceLT, reduceCtorEq, Int.reduceToNat]
  have hcall2 := sp_ref07_Shaped l hb; repeat' (first | (simp -implicitDefEqProofs only [go_sem, ↓reduceIte, Nat.reduceEqDiff, Nat.reduceAdd, Nat.reduceSub, Nat.reduceMul, Nat.reduceLeDiff, Nat.reduceLT, reduceCtorEq, Int.reduceToNat]) | (with_reducible refine g_noent ?_) | (with_reducible refine g_call0 hcall2 ?_) | (with_reducible refine g_calld0 hcall2 ?_) | (refine cdS (fun hg => ?_) (fun hg => ?_) <;> try simp -implicitDefEqProofs only [hg, Bool.not_true, Bool.not_false]) | (refine gdS (fun hg => ?_) (fun hg => ?_) <;> try simp -implicitDefEqProofs only [hg, Bool.not_true, Bool.not_false]) | (refine gddS (fun hg => ?_) (fun hg => ?_) <;> try simp -implicitDefEqProofs only [hg, Bool.not_true, Bool.not_false]) | ((with_reducible apply And.intro); focus (first | trivial | omega | decide | (simp -implicitDefEqProofs only [maxLen]; omega) | (simp [maxLen, sty_len, nd_len, ndL_len, lnL_len, intsL_len, rvs_len, lensS_len]; done) | (simp [maxLen, sty_len, nd_len, ndL_len, lnL_len, intsL_len, rvs_len, lensS_len]; omega))) | fail)
  · exact bad _ _ rfl (by simp at hg; simp [treeOK, hg])
  · have hs : shapeOK l = true := by simpa using hg
    simp -implicitDefEqProofs only [hlen, go_sem, ↓reduceIte, Nat.reduceEqDiff, Nat.reduceAdd, Nat.reduceSub, Nat.reduceMul, Nat.reduceLeDiff, Nat.reduceLT, reduceCtorEq, Int.reduceToNat]
    refine g_loop (ι := Nat) (fun k => [(9, .rv (.int .i64 k)), (8, .rv (.int .i64 l.length)), (0, .rv (.sl 49 (ndL l)))]) (fun _ => []) (fun k => k ≤ l.length ∧ ((l.drop k).all fun x => styOK x.s) = l.all fun x => styOK x.s) (fun k => l.length - k) 0 (by simp) (ent_env (by simp [lk])) (fun k hk K' hN hX hR => ?_)
    obtain ⟨hk1, hk3⟩ := hk
    simp -implicitDefEqProofs only [go_sem, ↓reduceIte, Nat.reduceEqDiff, Nat.reduceAdd, Nat.reduceSub, Nat.reduceMul, Nat.reduceLeDiff, Nat.reduceLT, reduceCtorEq, Int.reduceToNat]
    refine cdS (fun hg => ?_) (fun hg => ?_)
    · have hk4 : k < l.length := by simp at hg; omega
      have hx := ndL_get hk4
      have wu := wrap_up (k := k) (by omega)
      have hcall3 := sp_ref06_Formed (l[k]'hk4).s; repeat' (first | (simp -implicitDefEqProofs only [go_sem, ↓reduceIte, Nat.reduceEqDiff, Nat.reduceAdd, Nat.reduceSub, Nat.reduceMul, Nat.reduceLeDiff, Nat.reduceLT, reduceCtorEq, Int.reduceToNat, hlen, hx, nd_len, nd_drop0, nd_st, wu]) | (with_reducible refine g_noent ?_) | (with_reducible refine g_call0 hcall3 ?_) | (with_reducible refine g_calld0 hcall3 ?_) | (refine cdS (fun hg => ?_) (fun hg => ?_) <;> try simp -implicitDefEqProofs only [hg, Bool.not_true, Bool.not_false]) | (refine gdS (fun hg => ?_) (fun hg => ?_) <;> try simp -implicitDefEqProofs only [hg, Bool.not_true, Bool.not_false]) | (refine gddS (fun hg => ?_) (fun hg => ?_) <;> try simp -implicitDefEqProofs only [hg, Bool.not_true, Bool.not_false]) | ((with_reducible apply And.intro); focus (first | trivial | omega | decide | (simp -implicitDefEqProofs only [maxLen]; omega) | (simp [maxLen, sty_len, nd_len, ndL_len, lnL_len, intsL_len, rvs_len, lensS_len]; done) | (simp [maxLen, sty_len, nd_len, ndL_len, lnL_len, intsL_len, rvs_len, lensS_len]; omega))) | fail)
      · refine hR _ _ (bad _ _ rfl ?_)
        have : (l.all fun x => styOK x.s) = false := all_fail hk4 hk3 (by simpa using hg)
        simp -implicitDefEqProofs only [treeOK, this, Bool.and_false]
      · exact hN (k + 1) _ _ ⟨by omega, all_next hk4 hk3 (by simpa using hg)⟩ (by omega) (ent_env (by simp [lk]))
    · have hk4 : k = l.length := by simp at hg; omega
      subst hk4
      have hall := all_done (Nat.le_refl _) hk3
      simp -implicitDefEqProofs only [go_sem, ↓reduceIte, Nat.reduceEqDiff, Nat.reduceAdd, Nat.reduceSub, Nat.reduceMul, Nat.reduceLeDiff, Nat.reduceLT, reduceCtorEq, Int.reduceToNat]
      refine hX _ _ _ ?_
      repeat' (first | (simp -implicitDefEqProofs only [go_sem, ↓reduceIte, Nat.reduceEqDiff, Nat.reduceAdd, Nat.reduceSub, Nat.reduceMul, Nat.reduceLeDiff, Nat.reduceLT, reduceCtorEq, Int.reduceToNat]) | (with_reducible refine g_noent ?_) | (refine cdS (fun hg => ?_) (fun hg => ?_) <;> try simp -implicitDefEqProofs only [hg, Bool.not_true, Bool.not_false]) | (refine gdS (fun hg => ?_) (fun hg => ?_) <;> try simp -implicitDefEqProofs only [hg, Bool.not_true, Bool.not_false]) | (refine gddS (fun hg => ?_) (fun hg => ?_) <;> try simp -implicitDefEqProofs only [hg, Bool.not_true, Bool.not_false]) | ((with_reducible apply And.intro); focus (first | trivial | omega | decide | (simp -implicitDefEqProofs only [maxLen]; omega) | (simp [maxLen, sty_len, nd_len, ndL_len, lnL_len, intsL_len, rvs_len, lensS_len]; done) | (simp [maxLen, sty_len, nd_len, ndL_len, lnL_len, intsL_len, rvs_len, lensS_len]; omega))) | fail)
      exact (hK _ _ (ret_t (by rw [treeOK, hs, hall]; rfl))).2

theorem sp_ref07_Deep (l : List Nd) (n : Nat) (hw : WF l (n + 1)) (hn : n < l.length) (hb : l.length ≤ 8589934592) :
    CallR Go.Proofs.Try.prog 45 [.rv (.sl 49 (ndL l)), .rv (.int .i64 n)] [] [] (.rv (.int .i64 (depth l n))) := by
  refine callR_G k_decoupageref07_Deep [.rv (.sl 49 (ndL l)), .rv (.int .i64 n)] _ (by simp) (by simp [BkAll, bk_agg, bkAll_map, bk_rv, bk_fn, Sty.sv, Ln.sv, Nd.sv]) (fun K hK => ?_)
  have hlen := ndL_len l
  simp -implicitDefEqProofs only [c_decoupageref07_Deep, go_sem, ↓reduceIte, Nat.reduceEqDiff, Nat.reduceAdd, Nat.reduceSub, Nat.reduceMul, Nat.reduceLeDiff, Nat.reduceLT, reduceCtorEq, Int.reduceToNat]
  refine g_loop (ι := Nat) (fun i => [(1, .rv (.int .i64 (atI (pth l n) i))), (0, .rv (.sl 49 (ndL l))), (5, .rv (.int .i64 i))]) (fun _ => []) (fun i => i ≤ (pth l n).length) (fun i => (pth l n).length - i) 0 (by simp) (by rw [atI_zero]; exact ent_env (by simp [lk])) (fun i hi1 K' hN hX hR => ?_)
  have hpl := pth_len (l := l) n
  simp -implicitDefEqProofs only [go_sem, ↓reduceIte, Nat.reduceEqDiff, Nat.reduceAdd, Nat.reduceSub, Nat.reduceMul, Nat.reduceLeDiff, Nat.reduceLT, reduceCtorEq, Int.reduceToNat]
  refine cdS (fun hg => ?_) (fun hg => ?_)
  · have hil : i < (pth l n).length := atI_iff.1 (by simpa using hg)
    have hat := atI_lt hil
    have hlt : (pth l n)[i] < n + 1 := pth_lt (by omega) hil
    have hx := ndL_get (l := l) (i := (pth l n)[i]) (by omega)
    have hpar := parL_eq (l := l) (n := (pth l n)[i]) (by omega)
    have hnx := par_at hw n (by omega) i hil
    have wu := wrap_up (k := i) (by omega)
    repeat' (first | (simp -implicitDefEqProofs only [go_sem, ↓reduceIte, Nat.reduceEqDiff, Nat.reduceAdd, Nat.reduceSub, Nat.reduceMul, Nat.reduceLeDiff, Nat.reduceLT, reduceCtorEq, Int.reduceToNat, hlen, nd_len, nd_drop0, hat, hx, hpar, hnx, wu]) | (with_reducible refine g_noent ?_) | (refine cdS (fun hg => ?_) (fun hg => ?_) <;> try simp -implicitDefEqProofs only [hg, Bool.not_true, Bool.not_false]) | (refine gdS (fun hg => ?_) (fun hg => ?_) <;> try simp -implicitDefEqProofs only [hg, Bool.not_true, Bool.not_false]) | (refine gddS (fun hg => ?_) (fun hg => ?_) <;> try simp -implicitDefEqProofs only [hg, Bool.not_true, Bool.not_false]) | ((with_reducible apply And.intro); focus (first | trivial | omega | decide | (simp -implicitDefEqProofs only [maxLen]; omega) | (simp [maxLen, sty_len, nd_len, ndL_len, lnL_len, intsL_len, rvs_len, lensS_len]; done) | (simp [maxLen, sty_len, nd_len, ndL_len, lnL_len, intsL_len, rvs_len, lensS_len]; omega))) | fail)
    exact hN (i + 1) _ _ (by omega) (by omega) (ent_env (by simp [lk]))
  · have hil : ¬ i < (pth l n).length := fun h => by have := atI_iff.2 h; simp at hg; omega
    have : i = (pth l n).length := by omega
    subst this
    simp -implicitDefEqProofs only [go_sem, ↓reduceIte, Nat.reduceEqDiff, Nat.reduceAdd, Nat.reduceSub, Nat.reduceMul, Nat.reduceLeDiff, Nat.reduceLT, reduceCtorEq, Int.reduceToNat]
    refine hX _ _ _ ?_
    repeat' (first | (simp -implicitDefEqProofs only [go_sem, ↓reduceIte, Nat.reduceEqDiff, Nat.reduceAdd, Nat.reduceSub, Nat.reduceMul, Nat.reduceLeDiff, Nat.reduceLT, reduceCtorEq, Int.reduceToNat]) | (with_reducible refine g_noent ?_) | (refine cdS (fun hg => ?_) (fun hg => ?_) <;> try simp -implicitDefEqProofs only [hg, Bool.not_true, Bool.not_false]) | (refine gdS (fun hg => ?_) (fun hg => ?_) <;> try simp -implicitDefEqProofs only [hg, Bool.not_true, Bool.not_false]) | (refine gddS (fun hg => ?_) (fun hg => ?_) <;> try simp -implicitDefEqProofs only [hg, Bool.not_true, Bool.not_false]) | ((with_reducible apply And.intro); focus (first | trivial | omega | decide | (simp -implicitDefEqProofs only [maxLen]; omega) | (simp [maxLen, sty_len, nd_len, ndL_len, lnL_len, intsL_len, rvs_len, lensS_len]; done) | (simp [maxLen, sty_len, nd_len, ndL_len, lnL_len, intsL_len, rvs_len, lensS_len]; omega))) | fail)
    exact (hK _ _ (ret_t rfl)).2

theorem sp_ref07_Check (l : List Nd) (hb : l.length ≤ 8589934592) : CallR Go.Proofs.Try.prog 16 [.rv (.sl 49 (ndL l))] [] [] (.rv (.int .i64 (chk l))) := by
  refine callR_G k_decoupageref07_Check [.rv (.sl 49 (ndL l))] _ (by simp) (by simp [BkAll, bk_agg, bkAll_map, bk_rv, bk_fn, Sty.sv, Ln.sv, Nd.sv]) (fun K hK => ?_)
  have hlen := ndL_len l
  simp -implicitDefEqProofs only [c_decoupageref07_Check, go_sem, ↓reduceIte, Nat.reduceEqDiff, Nat.reduceAdd, Nat.reduceSub, Nat.reduceMul, Nat.reduceLeDiff, Nat.reduceLT, reduceCtorEq, Int.reduceToNat]
  have hcall4 := sp_ref07_Formed l hb; repeat' (first | (simp -implicitDefEqProofs only [go_sem, ↓reduceIte, Nat.reduceEqDiff, Nat.reduceAdd, Nat.reduceSub, Nat.reduceMul, Nat.reduceLeDiff, Nat.reduceLT, reduceCtorEq, Int.reduceToNat]) | (with_reducible refine g_noent ?_) | (with_reducible refine g_call0 hcall4 ?_) | (with_reducible refine g_calld0 hcall4 ?_) | (refine cdS (fun hg => ?_) (fun hg => ?_) <;> try simp -implicitDefEqProofs only [hg, Bool.not_true, Bool.not_false]) | (refine gdS (fun hg => ?_) (fun hg => ?_) <;> try simp -implicitDefEqProofs only [hg, Bool.not_true, Bool.not_false]) | (refine gddS (fun hg => ?_) (fun hg => ?_) <;> try simp -implicitDefEqProofs only [hg, Bool.not_true, Bool.not_false]) | ((with_reducible apply And.intro); focus (first | trivial | omega | decide | (simp -implicitDefEqProofs only [maxLen]; omega) | (simp [maxLen, sty_len, nd_len, ndL_len, lnL_len, intsL_len, rvs_len, lensS_len]; done) | (simp [maxLen, sty_len, nd_len, ndL_len, lnL_len, intsL_len, rvs_len, lensS_len]; omega))) | fail)
  · exact (hK _ _ (ret_t (by simp at hg; simp [chk, hg, lk]))).2
  · have ht : treeOK l = true := by simpa using hg
    have hs : Shp l := shape_iff.1 (by unfold treeOK at ht; simp -implicitDefEqProofs only [Bool.and_eq_true] at ht; exact ht.1)
    simp -implicitDefEqProofs only [hlen, go_sem, ↓reduceIte, Nat.reduceEqDiff, Nat.reduceAdd, Nat.reduceSub, Nat.reduceMul, Nat.reduceLeDiff, Nat.reduceLT, reduceCtorEq, Int.reduceToNat]
    refine g_loop (ι := Nat) (fun k => [(9, .rv (.int .i64 k)), (8, .rv (.int .i64 l.length)), (0, .rv (.sl 49 (ndL l)))]) (fun _ => []) (fun k => k ≤ l.length ∧ ∀ j, (h : j < l.length) → j < k → styIn (l[j]'h).s = true ∧ depth l j ≤ 256) (fun k => l.length - k) 0 (by simp) (ent_env (by simp [lk])) (fun k hk K' hN hX hR => ?_)
    obtain ⟨hk1, hk3⟩ := hk
    simp -implicitDefEqProofs only [go_sem, ↓reduceIte, Nat.reduceEqDiff, Nat.reduceAdd, Nat.reduceSub, Nat.reduceMul, Nat.reduceLeDiff, Nat.reduceLT, reduceCtorEq, Int.reduceToNat]
    refine cdS (fun hg => ?_) (fun hg => ?_)
    · have hk4 : k < l.length := by simp at hg; omega
      have hx := ndL_get hk4
      have wu := wrap_up (k := k) (by omega)
      have bad : ∀ e h, lk e 2 = .rv (.int .i64 3) → (styIn (l[k]'hk4).s = false ∨ depth l k > 256) → K' .ret ⟨e, h⟩ := fun e h l2 hf => hR _ _ (hK _ _ (ret_t (by
          rw [l2]; unfold chk
          rw [if_neg (by rw [ht]; simp), if_pos]
          simp -implicitDefEqProofs only [Bool.or_eq_true, List.any_eq_true, List.mem_range, decide_eq_true_eq, Bool.not_eq_true']
          rcases hf with h | h
          · exact .inr ⟨_, List.getElem_mem hk4, h⟩
          · exact .inl (.inr ⟨k, hk4, h⟩)))).2
      have nx : ∀ e h, styIn (l[k]'hk4).s = true → depth l k ≤ 256 → Ent 0 ⟨e, h⟩ ⟨[(9, .rv (.int .i64 (k + 1 : Nat))), (8, .rv (.int .i64 l.length)), (0, .rv (.sl 49 (ndL l)))], []⟩ → K' .normal ⟨e, h⟩ := fun e h h1 h2 he => hN (k + 1) _ _ ⟨by omega, fun j hj hji => by
          rcases Nat.lt_or_ge j k with h | h
          · exact hk3 j hj h
          · obtain rfl : j = k := by omega
            exact ⟨h1, h2⟩⟩ (by omega) he
      have hcall5 := sp_ref06_Within (l[k]'hk4).s; have hcall6 := sp_ref07_Deep l k (hs.wf.mono (by omega)) hk4 hb; repeat' (first | (simp -implicitDefEqProofs only [go_sem, ↓reduceIte, Nat.reduceEqDiff, Nat.reduceAdd, Nat.reduceSub, Nat.reduceMul, Nat.reduceLeDiff, Nat.reduceLT, reduceCtorEq, Int.reduceToNat, hlen, hx, nd_len, nd_drop0, nd_st, wu]) | (with_reducible refine g_noent ?_) | (with_reducible refine g_call0 hcall5 ?_) | (with_reducible refine g_calld0 hcall5 ?_) | (with_reducible refine g_call0 hcall6 ?_) | (with_reducible refine g_calld0 hcall6 ?_) | (refine cdS (fun hg => ?_) (fun hg => ?_) <;> try simp -implicitDefEqProofs only [hg, Bool.not_true, Bool.not_false]) | (refine gdS (fun hg => ?_) (fun hg => ?_) <;> try simp -implicitDefEqProofs only [hg, Bool.not_true, Bool.not_false]) | (refine gddS (fun hg => ?_) (fun hg => ?_) <;> try simp -implicitDefEqProofs only [hg, Bool.not_true, Bool.not_false]) | ((with_reducible apply And.intro); focus (first | trivial | omega | decide | (simp -implicitDefEqProofs only [maxLen]; omega) | (simp [maxLen, sty_len, nd_len, ndL_len, lnL_len, intsL_len, rvs_len, lensS_len]; done) | (simp [maxLen, sty_len, nd_len, ndL_len, lnL_len, intsL_len, rvs_len, lensS_len]; omega))) | fail)
      all_goals first
        | (refine bad _ _ rfl ?_; clear bad nx hK hN hX hR; (simp_all) <;> omega)
        | (refine nx _ _ ?_ ?_ (ent_env (by simp [lk])) <;> clear bad nx hK hN hX hR <;> (simp_all) <;> omega)
    · have hk4 : k = l.length := by simp at hg; omega
      subst hk4
      simp -implicitDefEqProofs only [go_sem, ↓reduceIte, Nat.reduceEqDiff, Nat.reduceAdd, Nat.reduceSub, Nat.reduceMul, Nat.reduceLeDiff, Nat.reduceLT, reduceCtorEq, Int.reduceToNat]
      refine hX _ _ _ ?_
      have hno : ((List.range l.length).any (fun k => decide (depth l k > 256)) || l.any fun x => !styIn x.s) = false := by
        rw [Bool.or_eq_false_iff, List.any_eq_false, List.any_eq_false]
        refine ⟨fun k hk => ?_, fun x hx => ?_⟩
        · have := (hk3 k (by simpa using hk) (by simpa using hk)).2; simp; omega
        · obtain ⟨j, hj, rfl⟩ := List.getElem_of_mem hx
          simp [(hk3 j hj hj).1]
      have fin : chk l = if (l.length : Int) > 65535 then 3 else 0 := by
        unfold chk
        rw [if_neg (by rw [ht]; simp), Bool.or_assoc, hno]
        by_cases h : l.length > 65535
        · have : (l.length : Int) > 65535 := by omega
          simp [h, this]
        · have : ¬ (l.length : Int) > 65535 := by omega
          simp [h, this]
      repeat' (first | (simp -implicitDefEqProofs only [go_sem, ↓reduceIte, Nat.reduceEqDiff, Nat.reduceAdd, Nat.reduceSub, Nat.reduceMul, Nat.reduceLeDiff, Nat.reduceLT, reduceCtorEq, Int.reduceToNat, hlen]) | (with_reducible refine g_noent ?_) | (refine cdS (fun hg => ?_) (fun hg => ?_) <;> try simp -implicitDefEqProofs only [hg, Bool.not_true, Bool.not_false]) | (refine gdS (fun hg => ?_) (fun hg => ?_) <;> try simp -implicitDefEqProofs only [hg, Bool.not_true, Bool.not_false]) | (refine gddS (fun hg => ?_) (fun hg => ?_) <;> try simp -implicitDefEqProofs only [hg, Bool.not_true, Bool.not_false]) | ((with_reducible apply And.intro); focus (first | trivial | omega | decide | (simp -implicitDefEqProofs only [maxLen]; omega) | (simp [maxLen, sty_len, nd_len, ndL_len, lnL_len, intsL_len, rvs_len, lensS_len]; done) | (simp [maxLen, sty_len, nd_len, ndL_len, lnL_len, intsL_len, rvs_len, lensS_len]; omega))) | fail)
      all_goals (refine (hK _ _ (ret_t ?_)).2; rw [fin]; clear fin hK hN hX hR; (simp_all [lk]) <;> omega)
end Go.Eng


/- Copies of slices. -/
namespace Go.Eng
open Go
/- slices.Clone[[]decoupage/api.Node,decoupage/api.Node] -/
def c_slices_Clone_Node : AC := (.seq (.reg [⟨(some 2), .mv, [(.c (.rv .nilsl))], none⟩]) (.seq (.seq (.reg [⟨(some 3), .mv, [(.t 0)], none⟩, ⟨(some 4), (.eqnilo false 0), [(.t 3)], none⟩]) (.cond (.t 4) (.seq (.reg [⟨(some 2), .mv, [(.c (.rv .nilsl))], none⟩]) .ret) .skip)) (.seq (.reg [⟨(some 5), (.bsl 49), [], none⟩, ⟨(some 6), .mv, [(.t 0)], none⟩, ⟨(some 7), (.app 49 384), [(.t 5), (.t 6)], none⟩, ⟨(some 2), .mv, [(.t 7)], none⟩]) .ret)))
theorem k_slices_Clone_Node : FnOK Go.Proofs.Try.prog 47 8 c_slices_Clone_Node [(.t 2)] := fnOK_of (by kernel_rfl)

theorem sp_Clone_Node (xs : List (List RV)) (m : Nat) (hb : xs.length ≤ 8589934592) : CallR Go.Proofs.Try.prog 47 [.rv (.sl 49 xs)] [] [(m, .row 49 1 (rvs xs))] (.row m 1 xs.length) := by
  have nz : ∀ r : RV, (r = .slz ∧ xs = []) ∨ (r = .sl 49 xs ∧ 0 < xs.length) → CallR Go.Proofs.Try.prog 47 [.rv r] [] [(m, .row 49 1 (rvs xs))] (.row m 1 xs.length) := fun r hr => by
    refine callR_M k_slices_Clone_Node [] [] [] [.rv r] [.rv r] _ _ (by simp) (by simp [BkAll, bk_ptr, bk_row, bk_rv, bk_agg, bk_ifc, bk_fn, bk_tup, bk_dead, BkHs, rvs_inj, nodupL]) rfl (by simp [nodupL]) (by simp [BkHs]) (fun K hK => ?_)
    simp -implicitDefEqProofs only [c_slices_Clone_Node, go_sem, ↓reduceIte, Nat.reduceEqDiff, Nat.reduceAdd, Nat.reduceSub, Nat.reduceMul, Nat.reduceLeDiff, Nat.reduceLT, reduceCtorEq, Int.reduceToNat]
    rcases hr with ⟨rfl, rfl⟩ | ⟨rfl, h0⟩
    · repeat' (first | (simp -implicitDefEqProofs only [go_sem, ↓reduceIte, Nat.reduceEqDiff, Nat.reduceAdd, Nat.reduceSub, Nat.reduceMul, Nat.reduceLeDiff, Nat.reduceLT, reduceCtorEq, Int.reduceToNat]) | (with_reducible refine g_noent ?_) | (refine cdS (fun hg => ?_) (fun hg => ?_) <;> try simp -implicitDefEqProofs only [hg, Bool.not_true, Bool.not_false]) | (refine gdS (fun hg => ?_) (fun hg => ?_) <;> try simp -implicitDefEqProofs only [hg, Bool.not_true, Bool.not_false]) | (refine gddS (fun hg => ?_) (fun hg => ?_) <;> try simp -implicitDefEqProofs only [hg, Bool.not_true, Bool.not_false]) | ((with_reducible apply And.intro); focus (first | trivial | omega | decide | (simp -implicitDefEqProofs only [maxLen]; omega) | (simp [maxLen, sty_len, nd_len, ndL_len, lnL_len, intsL_len, rvs_len, lensS_len]; done) | (simp [maxLen, sty_len, nd_len, ndL_len, lnL_len, intsL_len, rvs_len, lensS_len]; omega))) | fail)
      refine (hK _ _ _ _ [some m] (ent_refl _ _) ?_).2
      simp [retM, nodupL, newL, allU, keptL, retP, resL, lk, resT, RnHo, lkp, finU, hget_zero, hget_succ, hget, rnRows_rvs, rn_tup, rn_rv, rn_row, rn_ptr, rn_ifc, rn_agg, rn_dead, RnAll, ofL, rnAll_map]
      exact ⟨by simp [rvs], fun i x y hx => by simp at hx⟩
    · repeat' (first | (simp -implicitDefEqProofs only [go_sem, ↓reduceIte, Nat.reduceEqDiff, Nat.reduceAdd, Nat.reduceSub, Nat.reduceMul, Nat.reduceLeDiff, Nat.reduceLT, reduceCtorEq, Int.reduceToNat, rvs_fold]) | (with_reducible refine g_noent ?_) | (refine cdS (fun hg => ?_) (fun hg => ?_) <;> try simp -implicitDefEqProofs only [hg, Bool.not_true, Bool.not_false]) | (refine gdS (fun hg => ?_) (fun hg => ?_) <;> try simp -implicitDefEqProofs only [hg, Bool.not_true, Bool.not_false]) | (refine gddS (fun hg => ?_) (fun hg => ?_) <;> try simp -implicitDefEqProofs only [hg, Bool.not_true, Bool.not_false]) | ((with_reducible apply And.intro); focus (first | trivial | omega | decide | (simp -implicitDefEqProofs only [maxLen]; omega) | (simp [maxLen, sty_len, nd_len, ndL_len, lnL_len, intsL_len, rvs_len, lensS_len]; done) | (simp [maxLen, sty_len, nd_len, ndL_len, lnL_len, intsL_len, rvs_len, lensS_len]; omega))) | fail)
      refine (hK _ _ _ _ [some m] (ent_refl _ _) ?_).2
      simp [retM, nodupL, newL, allU, keptL, retP, resL, lk, resT, RnHo, lkp, finU, hget_zero, hget_succ, hget, rnRows_rvs, rn_tup, rn_rv, rn_row, rn_ptr, rn_ifc, rn_agg, rn_dead, RnAll, ofL, rnAll_map]
  by_cases h0 : xs = []
  · subst h0
    refine @callR_split _ _ _ [] [] _ _ _ ?_ (nz _ (.inl ⟨rfl, rfl⟩))
    show CallR _ _ [.rv .nilsl] _ _ _
    refine callR_M k_slices_Clone_Node [] [] [] [.rv .nilsl] [.rv .nilsl] _ _ (by simp) (by simp [BkAll, bk_ptr, bk_row, bk_rv, bk_agg, bk_ifc, bk_fn, bk_tup, bk_dead, BkHs, rvs_inj, nodupL]) rfl (by simp [nodupL]) (by simp [BkHs]) (fun K hK => ?_)
    simp -implicitDefEqProofs only [c_slices_Clone_Node, go_sem, ↓reduceIte, Nat.reduceEqDiff, Nat.reduceAdd, Nat.reduceSub, Nat.reduceMul, Nat.reduceLeDiff, Nat.reduceLT, reduceCtorEq, Int.reduceToNat]
    repeat' (first | (simp -implicitDefEqProofs only [go_sem, ↓reduceIte, Nat.reduceEqDiff, Nat.reduceAdd, Nat.reduceSub, Nat.reduceMul, Nat.reduceLeDiff, Nat.reduceLT, reduceCtorEq, Int.reduceToNat]) | (with_reducible refine g_noent ?_) | (refine cdS (fun hg => ?_) (fun hg => ?_) <;> try simp -implicitDefEqProofs only [hg, Bool.not_true, Bool.not_false]) | (refine gdS (fun hg => ?_) (fun hg => ?_) <;> try simp -implicitDefEqProofs only [hg, Bool.not_true, Bool.not_false]) | (refine gddS (fun hg => ?_) (fun hg => ?_) <;> try simp -implicitDefEqProofs only [hg, Bool.not_true, Bool.not_false]) | ((with_reducible apply And.intro); focus (first | trivial | omega | decide | (simp -implicitDefEqProofs only [maxLen]; omega) | (simp [maxLen, sty_len, nd_len, ndL_len, lnL_len, intsL_len, rvs_len, lensS_len]; done) | (simp [maxLen, sty_len, nd_len, ndL_len, lnL_len, intsL_len, rvs_len, lensS_len]; omega))) | fail)
    refine (hK _ _ _ _ [some m] (ent_ghostv 2 49 1 rfl) ?_).2
    simp [retM, nodupL, newL, allU, keptL, retP, resL, lk, resT, RnHo, lkp, finU, hget_zero, hget_succ, hget, rnRows_rvs, rn_tup, rn_rv, rn_row, rn_ptr, rn_ifc, rn_agg, rn_dead, RnAll, ofL, rnAll_map]
    exact ⟨by simp [rvs], fun i x y hx => by simp at hx⟩
  · exact nz _ (.inr ⟨rfl, List.length_pos_iff.2 h0⟩)

end Go.Eng


/- kin: of a list. -/
namespace Go.Eng
open Go
/- decoupage/kin.Of -/
def c_kin_Of : AC := (.seq (.reg [⟨(some 2), .mv, [(.c (.rv .nilp))], none⟩, ⟨(some 3), .mv, [(.c (.rv (.int .i64 0)))], none⟩]) (.seq (.seq (.reg [⟨(some 10), .mv, [(.t 0)], none⟩, ⟨(some 11), (.call 46), [(.t 10)], none⟩, ⟨(some 4), .mv, [(.t 11)], none⟩]) (.seq (.reg [⟨(some 12), .mv, [(.t 4)], none⟩, ⟨(some 13), (.ibin .neq), [(.t 12), (.c (.rv (.int .i64 0)))], none⟩]) (.cond (.t 13) (.seq (.reg [⟨(some 14), .mv, [(.t 4)], none⟩, ⟨(some 2), .mv, [(.c (.rv .nilp))], none⟩, ⟨(some 3), .mv, [(.t 14)], none⟩]) .ret) .skip))) (.seq (.regd [0, 1, 0, 4, 12, 0, 32, 96, 0, 256, 768, 0, 2048, 6144, 16383, 32767, 65535] [⟨(some 15), .mv, [(.t 0)], none⟩, ⟨(some 16), (.call 47), [(.t 15)], none⟩, ⟨(some 17), .mv, [(.t 0)], none⟩, ⟨(some 18), .len, [(.t 17)], none⟩, ⟨(some 19), (.mksl 1 24 [.nilsl]), [(.t 18), (.t 18)], none⟩, ⟨(some 20), .mv, [(.t 0)], none⟩, ⟨(some 21), .len, [(.t 20)], none⟩, ⟨(some 22), (.mksl 1 8 [(.int .i64 0)]), [(.t 21), (.t 21)], none⟩, ⟨(some 23), .mv, [(.t 0)], none⟩, ⟨(some 24), .len, [(.t 23)], none⟩, ⟨(some 25), (.mksl 1 8 [(.int .i64 0)]), [(.t 24), (.t 24)], none⟩, ⟨(some 26), .mv, [(.t 0)], none⟩, ⟨(some 27), .len, [(.t 26)], none⟩, ⟨(some 28), (.mksl 1 1 [(.bool false)]), [(.t 27), (.t 27)], none⟩, ⟨(some 29), (.build [.nilsl, .nilsl, .nilsl, .nilsl, .nilsl] [(0, 1), (1, 1), (2, 1), (3, 1), (4, 1)]), [(.t 16), (.t 19), (.t 22), (.t 25), (.t 28)], none⟩, ⟨(some 30), .box, [(.t 29)], none⟩, ⟨(some 5), .mv, [(.t 30)], none⟩]) (.seq (.seq (.reg [⟨(some 31), .mv, [(.t 0)], none⟩, ⟨(some 32), .len, [(.t 31)], none⟩, ⟨(some 33), .mv, [(.c (.rv (.int .i64 0)))], none⟩]) (.seq (.block 0 (.loop (.seq (.reg [⟨(some 34), (.ibin .lss), [(.t 33), (.t 32)], none⟩]) (.seq (.cond (.t 34) .skip (.exit 0)) (.seq (.seq (.block 1 (.seq (.reg [⟨(some 35), .mv, [(.t 33)], none⟩, ⟨(some 36), (.ixs 49), [(.t 31), (.t 33)], none⟩, ⟨(some 37), (.load 49 true), [(.t 36)], none⟩, ⟨(some 7), (.alloc [(.bool false), (.int .i64 0), (.int .i64 0), (.int .i64 0), (.int .i64 0), (.int .i64 0), (.int .i64 0), (.int .i64 0), (.int .i64 0), (.int .i64 0), (.int .i64 0), (.int .i64 0), (.int .i64 0), (.int .i64 0), (.int .i64 0), (.int .i64 0), (.int .i64 0), (.int .i64 0), (.int .i64 0), (.int .i64 0), (.int .i64 0), (.int .i64 0), (.int .i64 0), (.int .i64 0), (.int .i64 0), (.int .i64 0), (.int .i64 0), (.int .i64 0), (.int .i64 0), (.int .i64 0), (.int .i64 0), (.int .i64 0), (.int .i64 0), (.int .i64 0), (.int .i64 0), (.int .i64 0), (.int .i64 0), (.int .i64 0), (.int .i64 0), (.int .i64 0), (.int .i64 0), (.int .i64 0), (.bool false), (.bool false), (.int .i64 0), (.bool false), (.int .i64 0), (.int .i64 0), (.int .i64 0)]), [], none⟩, ⟨(some 6), .mv, [(.t 35)], none⟩, ⟨none, (.store 49), [(.t 7), (.t 37)], none⟩]) (.seq (.regd [0, 1, 3, 7, 0, 0, 32, 96, 224, 0, 0, 1024, 3072, 511, 8703, 32767, 65535] [⟨(some 38), .mv, [(.t 5)], none⟩, ⟨(some 39), .nilchk, [(.t 38)], none⟩, ⟨(some 40), (.fld 3), [(.t 39)], none⟩, ⟨(some 41), (.load 1 false), [(.t 40)], none⟩, ⟨(some 42), .mv, [(.t 6)], none⟩, ⟨(some 43), .mv, [(.t 5)], none⟩, ⟨(some 44), .nilchk, [(.t 43)], none⟩, ⟨(some 45), (.fld 4), [(.t 44)], none⟩, ⟨(some 46), (.load 1 false), [(.t 45)], none⟩, ⟨(some 47), .mv, [(.t 6)], none⟩, ⟨(some 48), (.fld 0), [(.t 7)], none⟩, ⟨(some 49), (.fld 0), [(.t 48)], none⟩, ⟨(some 50), (.load 1 false), [(.t 49)], none⟩, ⟨(some 51), (.ixs 1), [(.t 41), (.t 42)], none⟩, ⟨none, (.store 1), [(.t 51), (.c (.rv (.int .i64 1)))], none⟩, ⟨(some 52), (.ixs 1), [(.t 46), (.t 47)], none⟩, ⟨none, (.store 1), [(.t 52), (.t 50)], none⟩]) (.seq (.reg [⟨(some 53), .mv, [(.t 6)], none⟩, ⟨(some 54), (.ibin .gtr), [(.t 53), (.c (.rv (.int .i64 0)))], none⟩]) (.seq (.cond (.t 54) (.seq (.regd [0, 1, 3, 7, 0, 16, 0, 64, 192, 448, 0, 1024, 4032, 8128, 0, 16384, 65472, 131071, 262143] [⟨(some 55), .mv, [(.t 5)], none⟩, ⟨(some 56), .nilchk, [(.t 55)], none⟩, ⟨(some 57), (.fld 1), [(.t 56)], none⟩, ⟨(some 58), (.load 1 false), [(.t 57)], none⟩, ⟨(some 59), (.fld 48), [(.t 7)], none⟩, ⟨(some 60), (.load 1 false), [(.t 59)], none⟩, ⟨(some 61), .mv, [(.t 5)], none⟩, ⟨(some 62), .nilchk, [(.t 61)], none⟩, ⟨(some 63), (.fld 1), [(.t 62)], none⟩, ⟨(some 64), (.load 1 false), [(.t 63)], none⟩, ⟨(some 65), (.fld 48), [(.t 7)], none⟩, ⟨(some 66), (.load 1 false), [(.t 65)], none⟩, ⟨(some 67), (.ixs 1), [(.t 64), (.t 66)], none⟩, ⟨(some 68), (.load 1 false), [(.t 67)], none⟩, ⟨(some 69), .mv, [(.t 6)], none⟩, ⟨(some 70), (.bsl 1), [(.t 69)], none⟩, ⟨(some 71), (.app 1 8), [(.t 68), (.t 70)], none⟩, ⟨(some 72), (.ixs 1), [(.t 58), (.t 60)], none⟩, ⟨none, (.store 1), [(.t 72), (.t 71)], none⟩]) (.seq (.regd [0, 1, 3, 7, 0, 0, 32, 96, 224, 0, 512, 2016, 4064, 8160, 16383, 32767] [⟨(some 73), .mv, [(.t 5)], none⟩, ⟨(some 74), .nilchk, [(.t 73)], none⟩, ⟨(some 75), (.fld 3), [(.t 74)], none⟩, ⟨(some 76), (.load 1 false), [(.t 75)], none⟩, ⟨(some 77), .mv, [(.t 6)], none⟩, ⟨(some 78), .mv, [(.t 5)], none⟩, ⟨(some 79), .nilchk, [(.t 78)], none⟩, ⟨(some 80), (.fld 3), [(.t 79)], none⟩, ⟨(some 81), (.load 1 false), [(.t 80)], none⟩, ⟨(some 82), (.fld 48), [(.t 7)], none⟩, ⟨(some 83), (.load 1 false), [(.t 82)], none⟩, ⟨(some 84), (.ixs 1), [(.t 81), (.t 83)], none⟩, ⟨(some 85), (.load 1 false), [(.t 84)], none⟩, ⟨(some 86), (.ibin .add), [(.t 85), (.c (.rv (.int .i64 1)))], none⟩, ⟨(some 87), (.ixs 1), [(.t 76), (.t 77)], none⟩, ⟨none, (.store 1), [(.t 87), (.t 86)], none⟩]) (.regd [0, 1, 3, 7, 0, 0, 32, 96, 224, 480, 992, 2016, 4064, 480, 8672, 32736, 65504, 131040, 262143, 524287] [⟨(some 88), .mv, [(.t 5)], none⟩, ⟨(some 89), .nilchk, [(.t 88)], none⟩, ⟨(some 90), (.fld 4), [(.t 89)], none⟩, ⟨(some 91), (.load 1 false), [(.t 90)], none⟩, ⟨(some 92), .mv, [(.t 6)], none⟩, ⟨(some 93), (.fld 0), [(.t 7)], none⟩, ⟨(some 94), (.fld 0), [(.t 93)], none⟩, ⟨(some 95), (.load 1 false), [(.t 94)], none⟩, ⟨(some 96), .mv, [(.t 95)], none⟩, ⟨(some 97), .mv, [(.t 5)], (some (96, true))⟩, ⟨(some 98), .nilchk, [(.t 97)], (some (96, true))⟩, ⟨(some 99), (.fld 4), [(.t 98)], (some (96, true))⟩, ⟨(some 100), (.load 1 false), [(.t 99)], (some (96, true))⟩, ⟨(some 101), (.fld 48), [(.t 7)], (some (96, true))⟩, ⟨(some 102), (.load 1 false), [(.t 101)], (some (96, true))⟩, ⟨(some 103), (.ixs 1), [(.t 100), (.t 102)], (some (96, true))⟩, ⟨(some 104), (.load 1 false), [(.t 103)], (some (96, true))⟩, ⟨(some 105), .pick, [(.t 96), (.t 104), (.c (.rv (.bool false)))], none⟩, ⟨(some 106), (.ixs 1), [(.t 91), (.t 92)], none⟩, ⟨none, (.store 1), [(.t 106), (.t 105)], none⟩]))) .skip) .ent))))) .ent) (.reg [⟨(some 107), (.ibin .add), [(.t 33), (.c (.rv (.int .i64 1)))], none⟩, ⟨(some 33), .mv, [(.t 107)], none⟩])))))) .ent)) (.seq (.seq (.reg [⟨(some 108), .mv, [(.t 0)], none⟩, ⟨(some 109), .len, [(.t 108)], none⟩, ⟨(some 110), (.ibin .sub), [(.t 109), (.c (.rv (.int .i64 1)))], none⟩, ⟨(some 8), .mv, [(.t 110)], none⟩]) (.seq (.block 2 (.loop (.seq (.seq (.reg [⟨(some 111), .mv, [(.t 8)], none⟩, ⟨(some 112), (.ibin .geq), [(.t 111), (.c (.rv (.int .i64 0)))], none⟩]) (.cond (.t 112) .skip (.exit 2))) (.seq (.seq (.block 3 (.seq (.reg [⟨(some 115), .mv, [(.t 5)], none⟩, ⟨(some 116), .nilchk, [(.t 115)], none⟩, ⟨(some 117), (.fld 2), [(.t 116)], none⟩, ⟨(some 118), (.load 1 false), [(.t 117)], none⟩, ⟨(some 119), .mv, [(.t 8)], none⟩, ⟨(some 120), .mv, [(.t 8)], none⟩, ⟨(some 121), (.ibin .add), [(.t 120), (.c (.rv (.int .i64 1)))], none⟩, ⟨(some 122), (.ixs 1), [(.t 118), (.t 119)], none⟩, ⟨none, (.store 1), [(.t 122), (.t 121)], none⟩]) (.seq (.reg [⟨(some 123), .mv, [(.t 5)], none⟩, ⟨(some 124), .nilchk, [(.t 123)], none⟩, ⟨(some 125), (.fld 1), [(.t 124)], none⟩, ⟨(some 126), (.load 1 false), [(.t 125)], none⟩, ⟨(some 127), .mv, [(.t 8)], none⟩, ⟨(some 128), (.ixs 1), [(.t 126), (.t 127)], none⟩, ⟨(some 129), (.load 1 false), [(.t 128)], none⟩, ⟨(some 130), .len, [(.t 129)], none⟩, ⟨(some 9), .mv, [(.t 130)], none⟩]) (.seq (.reg [⟨(some 131), .mv, [(.t 9)], none⟩, ⟨(some 132), (.ibin .gtr), [(.t 131), (.c (.rv (.int .i64 0)))], none⟩]) (.seq (.cond (.t 132) (.regd [0, 1, 3, 7, 0, 0, 32, 96, 224, 0, 512, 1536, 3584, 0, 15872, 32256, 0, 65536, 261632, 523776, 1048544, 2097120, 4194303, 8388607] [⟨(some 133), .mv, [(.t 5)], none⟩, ⟨(some 134), .nilchk, [(.t 133)], none⟩, ⟨(some 135), (.fld 2), [(.t 134)], none⟩, ⟨(some 136), (.load 1 false), [(.t 135)], none⟩, ⟨(some 137), .mv, [(.t 8)], none⟩, ⟨(some 138), .mv, [(.t 5)], none⟩, ⟨(some 139), .nilchk, [(.t 138)], none⟩, ⟨(some 140), (.fld 2), [(.t 139)], none⟩, ⟨(some 141), (.load 1 false), [(.t 140)], none⟩, ⟨(some 142), .mv, [(.t 5)], none⟩, ⟨(some 143), .nilchk, [(.t 142)], none⟩, ⟨(some 144), (.fld 1), [(.t 143)], none⟩, ⟨(some 145), (.load 1 false), [(.t 144)], none⟩, ⟨(some 146), .mv, [(.t 8)], none⟩, ⟨(some 147), (.ixs 1), [(.t 145), (.t 146)], none⟩, ⟨(some 148), (.load 1 false), [(.t 147)], none⟩, ⟨(some 149), .mv, [(.t 9)], none⟩, ⟨(some 150), (.ibin .sub), [(.t 149), (.c (.rv (.int .i64 1)))], none⟩, ⟨(some 151), (.ixs 1), [(.t 148), (.t 150)], none⟩, ⟨(some 152), (.load 1 false), [(.t 151)], none⟩, ⟨(some 153), (.ixs 1), [(.t 141), (.t 152)], none⟩, ⟨(some 154), (.load 1 false), [(.t 153)], none⟩, ⟨(some 155), (.ixs 1), [(.t 136), (.t 137)], none⟩, ⟨none, (.store 1), [(.t 155), (.t 154)], none⟩]) .skip) .ent))))) .ent) (.reg [⟨(some 113), .mv, [(.t 8)], none⟩, ⟨(some 114), (.ibin .sub), [(.t 113), (.c (.rv (.int .i64 1)))], none⟩, ⟨(some 8), .mv, [(.t 114)], none⟩]))))) .ent)) (.seq (.reg [⟨(some 156), .mv, [(.t 5)], none⟩, ⟨(some 2), .mv, [(.t 156)], none⟩, ⟨(some 3), .mv, [(.c (.rv (.int .i64 0)))], none⟩]) .ret))))))
theorem k_kin_Of : FnOK Go.Proofs.Try.prog 17 157 c_kin_Of [(.t 2), (.t 3)] := fnOK_of (by kernel_rfl)


def natsI (l : List Nat) : List Int := l.map fun (n : Nat) => (n : Int)
def boolL (bs : List Bool) : List (List RV) := bs.map fun b => [.bool b]
theorem boolL_len (bs : List Bool) : (boolL bs).length = bs.length := by simp [boolL]
theorem boolL_getD {bs : List Bool} {i : Nat} (h : i < bs.length) : (boolL bs)[i]?.getD [] = [.bool (bs.getD i false)] := by simp [boolL, h]
theorem rvs_setB {ys : List Bool} {k : Nat} {v : Bool} : (rvs (boolL ys)).set k [.rv (.bool v)] = rvs (boolL (ys.set k v)) := by simp [rvs, boolL, List.map_set]
theorem rvs_repB {n : Nat} : List.replicate n [SV.rv (.bool false)] = rvs (boolL (List.replicate n false)) := by simp [rvs, boolL]
theorem boolL_one (l : List Bool) : ∀ x ∈ boolL l, ∀ r ∈ x, r.one = true := by
  intro x hx r hr
  obtain ⟨n, _, rfl⟩ := List.mem_map.1 hx
  simp at hr; rw [hr]; rfl

def madeTo (l : List Nd) (k : Nat) : List Bool := (List.range l.length).map fun j => if j < k then madeS l j else false
theorem madeTo_len (l : List Nd) (k : Nat) : (madeTo l k).length = l.length := by simp [madeTo]
theorem madeTo_zero (l : List Nd) : madeTo l 0 = List.replicate l.length false := by
  refine List.ext_getElem (by simp [madeTo]) (fun i h1 h2 => ?_)
  simp [madeTo]
theorem madeTo_set {l : List Nd} {k : Nat} (hk : k < l.length) : (madeTo l k).set k (madeS l k) = madeTo l (k + 1) := by
  refine List.ext_getElem (by simp [madeTo]) (fun i h1 h2 => ?_)
  simp -implicitDefEqProofs only [List.getElem_set, madeTo, List.getElem_map, List.getElem_range]
  by_cases h : k = i
  · subst h; simp
  · rw [if_neg h]
    by_cases hi : i < k
    · rw [if_pos hi, if_pos (by omega)]
    · rw [if_neg hi, if_neg (by omega)]
theorem madeTo_get {l : List Nd} {k j : Nat} {b : Bool} (hj : j < k) (hl : j < l.length) : ((madeTo l k).set k b).getD j false = madeS l j := by
  rw [List.getD_eq_getElem?_getD, List.getElem?_set_ne (by omega)]
  simp [madeTo, hl, hj]

def kTab (l : List Nd) (k : Nat) : List (List SV) := (List.range l.length).map fun p => [.row (p + 6) (kidsTo l k p).length (kidsTo l k p).length]
def kRows (l : List Nd) (k : Nat) : List (Option HB) := (List.range l.length).map fun p => some (.row 1 (kidsTo l k p).length (rvs (intsL (natsI (kidsTo l k p)))))
def kidsL (l : List Nd) : List (List RV) := (List.range l.length).map fun p => [.sl 1 (intsL (natsI (kidsOf l p)))]
def endsL (l : List Nd) : List Int := (List.range l.length).map fun n => (endS l n : Int)
/-- The Kin of a list that is a tree. -/
abbrev kinV (l : List Nd) : RV := .rop [.sl 49 (ndL l), .sl 1 (kidsL l), .sl 1 (intsL (endsL l)), .sl 1 (intsL (depTo l l.length)), .sl 1 (boolL (madeTo l l.length))]

def kHeap (l : List Nd) (k : Nat) (es ds : List Int) (bs : List Bool) : List (Option HB) := some (.row 49 1 (rvs (ndL l))) :: some (.row 1 0 (kTab l k)) :: some (.row 1 0 (rvs (intsL es))) :: some (.row 1 0 (rvs (intsL ds))) :: some (.row 1 0 (rvs (boolL bs))) :: some (.var [.row 0 1 l.length, .row 1 0 l.length, .row 2 0 l.length, .row 3 0 l.length, .row 4 0 l.length]) :: kRows l k
def endTo (l : List Nd) (k : Nat) : List Int := (List.range l.length).map fun j => if k ≤ j then (endS l j : Int) else 0
theorem endTo_len (l : List Nd) (k : Nat) : (endTo l k).length = l.length := by simp [endTo]
theorem endTo_top (l : List Nd) : endTo l l.length = List.replicate l.length 0 := by
  refine List.ext_getElem (by simp [endTo]) (fun i h1 h2 => ?_)
  simp [endTo] at h1
  simp [endTo]; omega
theorem endTo_zero (l : List Nd) : endTo l 0 = endsL l := by simp [endTo, endsL]
theorem endTo_set {l : List Nd} {k : Nat} (hk : 0 < k) (hl : k ≤ l.length) : (endTo l k).set (k - 1) (endS l (k - 1)) = endTo l (k - 1) := by
  refine List.ext_getElem (by simp [endTo]) (fun i h1 h2 => ?_)
  simp -implicitDefEqProofs only [List.getElem_set, endTo, List.getElem_map, List.getElem_range]
  by_cases h : k - 1 = i
  · subst h; simp
  · rw [if_neg h]
    by_cases hi : k ≤ i
    · rw [if_pos hi, if_pos (by omega)]
    · rw [if_neg hi, if_neg (by omega)]
theorem endTo_get {l : List Nd} {k j : Nat} {v : Int} (hj : k ≤ j) (hk : 0 < k) (hl : j < l.length) : ((endTo l k).set (k - 1) v).getD j 0 = endS l j := by
  rw [List.getD_eq_getElem?_getD, List.getElem?_set_ne (by omega)]
  simp [endTo, hl, hj]

theorem fz_rows {τ : Nat → Option Nat} {h : Hp} {j e ver len : Nat} {xs : List (List RV)} (hj : h j = some (.row e ver (rvs xs))) (hτ : τ j = none) (hl : len = xs.length) (h1 : ∀ x ∈ xs, ∀ r ∈ x, r.one = true) : Fz τ h (.row j ver len) (.sl e xs) := by
  have := fz_row (τ := τ) hj hτ (len := len) (by omega) h1
  rw [hl, List.take_length] at this
  rw [hl]; exact this
theorem nd_at0 (x : Nd) : (x.cells.map SV.rv)[0]? = some (.rv (.bool x.s.shown)) := rfl
end Go.Eng


/- kin: what is told of a node. -/
namespace Go.Eng
open Go
/- (*decoupage/kin.Kin).Len -/
def c_kin_Kin_Len : AC := (.seq (.reg [⟨(some 2), .mv, [(.c (.rv (.int .i64 0)))], none⟩]) (.seq (.seq (.reg [⟨(some 3), .mv, [(.t 0)], none⟩, ⟨(some 4), (.eqnil false), [(.t 3)], none⟩]) (.cond (.t 4) (.seq (.reg [⟨(some 2), .mv, [(.c (.rv (.int .i64 0)))], none⟩]) .ret) .skip)) (.seq (.reg [⟨(some 5), .mv, [(.t 0)], none⟩, ⟨(some 6), .nilchk, [(.t 5)], none⟩, ⟨(some 7), (.fld 0), [(.t 6)], none⟩, ⟨(some 8), (.load 1 false), [(.t 7)], none⟩, ⟨(some 9), .len, [(.t 8)], none⟩, ⟨(some 2), .mv, [(.t 9)], none⟩]) .ret)))
theorem k_kin_Kin_Len : FnOK Go.Proofs.Try.prog 48 10 c_kin_Kin_Len [(.t 2)] := fnOK_of (by kernel_rfl)

/- (*decoupage/kin.Kin).has -/
def c_kin_Kin_has : AC := (.seq (.reg [⟨(some 4), .mv, [(.c (.rv (.bool false)))], none⟩]) (.seq (.reg [⟨(some 5), .mv, [(.t 1)], none⟩, ⟨(some 6), (.ibin .geq), [(.t 5), (.c (.rv (.int .i64 0)))], none⟩, ⟨(some 7), .mv, [(.t 6)], none⟩, ⟨(some 8), .mv, [(.t 1)], (some (7, true))⟩, ⟨(some 9), .mv, [(.t 0)], (some (7, true))⟩, ⟨(some 10), (.call 48), [(.t 9)], (some (7, true))⟩, ⟨(some 11), (.ibin .lss), [(.t 8), (.t 10)], (some (7, true))⟩, ⟨(some 12), .pick, [(.t 7), (.t 11), (.c (.rv (.bool false)))], none⟩, ⟨(some 4), .mv, [(.t 12)], none⟩]) .ret))
theorem k_kin_Kin_has : FnOK Go.Proofs.Try.prog 54 13 c_kin_Kin_has [(.t 4)] := fnOK_of (by kernel_rfl)

/- (*decoupage/kin.Kin).Style -/
def c_kin_Kin_Style : AC := (.seq (.reg [⟨(some 4), (.alloc [(.bool false), (.int .i64 0), (.int .i64 0), (.int .i64 0), (.int .i64 0), (.int .i64 0), (.int .i64 0), (.int .i64 0), (.int .i64 0), (.int .i64 0), (.int .i64 0), (.int .i64 0), (.int .i64 0), (.int .i64 0), (.int .i64 0), (.int .i64 0), (.int .i64 0), (.int .i64 0), (.int .i64 0), (.int .i64 0), (.int .i64 0), (.int .i64 0), (.int .i64 0), (.int .i64 0), (.int .i64 0), (.int .i64 0), (.int .i64 0), (.int .i64 0), (.int .i64 0), (.int .i64 0), (.int .i64 0), (.int .i64 0), (.int .i64 0), (.int .i64 0), (.int .i64 0), (.int .i64 0), (.int .i64 0), (.int .i64 0), (.int .i64 0), (.int .i64 0), (.int .i64 0), (.int .i64 0), (.bool false), (.bool false), (.int .i64 0), (.bool false), (.int .i64 0), (.int .i64 0)]), [], none⟩]) (.seq (.seq (.reg [⟨(some 5), .mv, [(.t 0)], none⟩, ⟨(some 6), .mv, [(.t 1)], none⟩, ⟨(some 7), (.call 54), [(.t 5), (.t 6)], none⟩, ⟨(some 8), .not, [(.t 7)], none⟩]) (.cond (.t 8) (.seq (.reg [⟨(some 9), (.build [(.bool false), (.int .i64 0), (.int .i64 0), (.int .i64 0), (.int .i64 0), (.int .i64 0), (.int .i64 0), (.int .i64 0), (.int .i64 0), (.int .i64 0), (.int .i64 0), (.int .i64 0), (.int .i64 0), (.int .i64 0), (.int .i64 0), (.int .i64 0), (.int .i64 0), (.int .i64 0), (.int .i64 0), (.int .i64 0), (.int .i64 0), (.int .i64 0), (.int .i64 0), (.int .i64 0), (.int .i64 0), (.int .i64 0), (.int .i64 0), (.int .i64 0), (.int .i64 0), (.int .i64 0), (.int .i64 0), (.int .i64 0), (.int .i64 0), (.int .i64 0), (.int .i64 0), (.int .i64 0), (.int .i64 0), (.int .i64 0), (.int .i64 0), (.int .i64 0), (.int .i64 0), (.int .i64 0), (.bool false), (.bool false), (.int .i64 0), (.bool false), (.int .i64 0), (.int .i64 0)] []), [], none⟩, ⟨none, (.store 48), [(.t 4), (.t 9)], none⟩]) .ret) .skip)) (.seq (.reg [⟨(some 10), .mv, [(.t 0)], none⟩, ⟨(some 11), .nilchk, [(.t 10)], none⟩, ⟨(some 12), (.fld 0), [(.t 11)], none⟩, ⟨(some 13), (.load 1 false), [(.t 12)], none⟩, ⟨(some 14), .mv, [(.t 1)], none⟩, ⟨(some 15), (.ixs 49), [(.t 13), (.t 14)], none⟩, ⟨(some 16), (.fld 0), [(.t 15)], none⟩, ⟨(some 17), (.load 48 true), [(.t 16)], none⟩, ⟨none, (.store 48), [(.t 4), (.t 17)], none⟩]) .ret)))
theorem k_kin_Kin_Style : FnOK Go.Proofs.Try.prog 51 18 c_kin_Kin_Style [(.c 4 48 true)] := fnOK_of (by kernel_rfl)

/- (*decoupage/kin.Kin).Parent -/
def c_kin_Kin_Parent : AC := (.seq (.reg [⟨(some 4), .mv, [(.c (.rv (.int .i64 0)))], none⟩]) (.seq (.seq (.reg [⟨(some 5), .mv, [(.t 0)], none⟩, ⟨(some 6), .mv, [(.t 1)], none⟩, ⟨(some 7), (.call 54), [(.t 5), (.t 6)], none⟩, ⟨(some 8), .not, [(.t 7)], none⟩]) (.cond (.t 8) (.seq (.reg [⟨(some 4), .mv, [(.c (.rv (.int .i64 (-1))))], none⟩]) .ret) .skip)) (.seq (.reg [⟨(some 9), .mv, [(.t 0)], none⟩, ⟨(some 10), .nilchk, [(.t 9)], none⟩, ⟨(some 11), (.fld 0), [(.t 10)], none⟩, ⟨(some 12), (.load 1 false), [(.t 11)], none⟩, ⟨(some 13), .mv, [(.t 1)], none⟩, ⟨(some 14), (.ixs 49), [(.t 12), (.t 13)], none⟩, ⟨(some 15), (.fld 48), [(.t 14)], none⟩, ⟨(some 16), (.load 1 false), [(.t 15)], none⟩, ⟨(some 4), .mv, [(.t 16)], none⟩]) .ret)))
theorem k_kin_Kin_Parent : FnOK Go.Proofs.Try.prog 80 17 c_kin_Kin_Parent [(.t 4)] := fnOK_of (by kernel_rfl)

/- (*decoupage/kin.Kin).Made -/
def c_kin_Kin_Made : AC := (.seq (.reg [⟨(some 4), .mv, [(.c (.rv (.bool false)))], none⟩]) (.seq (.reg [⟨(some 5), .mv, [(.t 0)], none⟩, ⟨(some 6), .mv, [(.t 1)], none⟩, ⟨(some 7), (.call 54), [(.t 5), (.t 6)], none⟩, ⟨(some 8), .mv, [(.t 7)], none⟩, ⟨(some 9), .mv, [(.t 0)], (some (8, true))⟩, ⟨(some 10), .nilchk, [(.t 9)], (some (8, true))⟩, ⟨(some 11), (.fld 4), [(.t 10)], (some (8, true))⟩, ⟨(some 12), (.load 1 false), [(.t 11)], (some (8, true))⟩, ⟨(some 13), .mv, [(.t 1)], (some (8, true))⟩, ⟨(some 14), (.ixs 1), [(.t 12), (.t 13)], (some (8, true))⟩, ⟨(some 15), (.load 1 false), [(.t 14)], (some (8, true))⟩, ⟨(some 16), .pick, [(.t 8), (.t 15), (.c (.rv (.bool false)))], none⟩, ⟨(some 4), .mv, [(.t 16)], none⟩]) .ret))
theorem k_kin_Kin_Made : FnOK Go.Proofs.Try.prog 21 17 c_kin_Kin_Made [(.t 4)] := fnOK_of (by kernel_rfl)

/- (*decoupage/kin.Kin).Out -/
def c_kin_Kin_Out : AC := (.seq (.reg [⟨(some 4), .mv, [(.c (.rv (.bool false)))], none⟩]) (.seq (.reg [⟨(some 5), .mv, [(.t 0)], none⟩, ⟨(some 6), .mv, [(.t 1)], none⟩, ⟨(some 7), (.call 21), [(.t 5), (.t 6)], none⟩, ⟨(some 8), .mv, [(.t 7)], none⟩, ⟨(some 9), .mv, [(.t 1)], (some (8, true))⟩, ⟨(some 10), (.ibin .gtr), [(.t 9), (.c (.rv (.int .i64 0)))], (some (8, true))⟩, ⟨(some 11), .pick, [(.t 8), (.t 10), (.c (.rv (.bool false)))], none⟩, ⟨(some 12), .mv, [(.t 11)], none⟩, ⟨(some 13), .mv, [(.t 0)], (some (12, true))⟩, ⟨(some 14), .nilchk, [(.t 13)], (some (12, true))⟩, ⟨(some 15), (.fld 0), [(.t 14)], (some (12, true))⟩, ⟨(some 16), (.load 1 false), [(.t 15)], (some (12, true))⟩, ⟨(some 17), .mv, [(.t 1)], (some (12, true))⟩, ⟨(some 18), (.ixs 49), [(.t 16), (.t 17)], (some (12, true))⟩, ⟨(some 19), (.fld 0), [(.t 18)], (some (12, true))⟩, ⟨(some 20), (.fld 1), [(.t 19)], (some (12, true))⟩, ⟨(some 21), (.load 1 false), [(.t 20)], (some (12, true))⟩, ⟨(some 22), (.ibin .eql), [(.t 21), (.c (.rv (.int .i64 2)))], (some (12, true))⟩, ⟨(some 23), .mv, [(.t 22)], (some (12, true))⟩, ⟨(some 24), .mv, [(.t 0)], (some (23, false))⟩, ⟨(some 25), .nilchk, [(.t 24)], (some (23, false))⟩, ⟨(some 26), (.fld 0), [(.t 25)], (some (23, false))⟩, ⟨(some 27), (.load 1 false), [(.t 26)], (some (23, false))⟩, ⟨(some 28), .mv, [(.t 1)], (some (23, false))⟩, ⟨(some 29), (.ixs 49), [(.t 27), (.t 28)], (some (23, false))⟩, ⟨(some 30), (.fld 0), [(.t 29)], (some (23, false))⟩, ⟨(some 31), (.fld 1), [(.t 30)], (some (23, false))⟩, ⟨(some 32), (.load 1 false), [(.t 31)], (some (23, false))⟩, ⟨(some 33), (.ibin .eql), [(.t 32), (.c (.rv (.int .i64 3)))], (some (23, false))⟩, ⟨(some 34), .pick, [(.t 23), (.c (.rv (.bool true))), (.t 33)], (some (12, true))⟩, ⟨(some 35), .pick, [(.t 12), (.t 34), (.c (.rv (.bool false)))], none⟩, ⟨(some 4), .mv, [(.t 35)], none⟩]) .ret))
theorem k_kin_Kin_Out : FnOK Go.Proofs.Try.prog 79 36 c_kin_Kin_Out [(.t 4)] := fnOK_of (by kernel_rfl)

def inL (l : List Nd) (n : Int) : Bool := decide (n ≥ 0) && decide (n < l.length)
theorem inL_nat {l : List Nd} {n : Int} (h : inL l n = true) : ∃ k : Nat, n = k ∧ k < l.length := by
  simp [inL] at h; exact ⟨n.toNat, by omega, by omega⟩
theorem inL_of {l : List Nd} {k : Nat} (h : k < l.length) : inL l k = true := by simp [inL, h]
def styAt (l : List Nd) (n : Int) : Sty := if inL l n = true then (l.getD n.toNat default).s else default
def parAt (l : List Nd) (n : Int) : Int := if inL l n = true then parL l n.toNat else -1
def endAt (l : List Nd) (n : Int) : Int := if inL l n = true then endS l n.toNat else 0
def deepAt (l : List Nd) (n : Int) : Int := if inL l n = true then depth l n.toNat else 0
def madeAt (l : List Nd) (n : Int) : Bool := inL l n && madeS l n.toNat
def outAt (l : List Nd) (n : Int) : Bool := madeAt l n && decide (n > 0) && (decide ((styAt l n).position = 2) || decide ((styAt l n).position = 3))
def belowAt (l : List Nd) (a n : Int) : Bool := inL l a && inL l n && decide (n ≥ a) && decide (n < endAt l a)

theorem mades_len (l : List Nd) : (boolL (madeTo l l.length)).length = l.length := by simp [boolL, madeTo]
theorem mades_get {l : List Nd} {k : Nat} (h : k < l.length) : (boolL (madeTo l l.length))[k]?.getD [] = [.bool (madeS l k)] := by simp [boolL, madeTo, h]
theorem ret_c {τ : Nat → Option Nat} {h : List (Option HB)} {env : List (Nat × SV)} {a n id : Nat} {rs : List RV} (hl : lk env a = .ptr id 0) (hh : hget h id = some (.var (rs.map .rv))) (hn : rs.length = n) : retP τ (hget h) (.agg (rs.map .rv)) (resL (lk env) (hget h) [.c a n true]) := by
  simp [resL, retP, resT, hl, loadE, hh, hn]
  rw [List.take_of_length_le (by simp [hn])]; exact rn_agg.2 (rnAll_map.2 rfl)

section
variable (l : List Nd) (hb : l.length ≤ 8589934592) (n : Int)

theorem sp_Len : CallR Go.Proofs.Try.prog 48 [.rv (kinV l)] [] [] (.rv (.int .i64 l.length)) := by
  refine callR_G k_kin_Kin_Len [.rv (kinV l)] _ (by simp) (by simp [BkAll, bk_agg, bkAll_map, bk_rv, bk_fn, Sty.sv, Ln.sv, Nd.sv]) (fun K hK => ?_)
  simp -implicitDefEqProofs only [c_kin_Kin_Len, go_sem, ↓reduceIte, Nat.reduceEqDiff, Nat.reduceAdd, Nat.reduceSub, Nat.reduceMul, Nat.reduceLeDiff, Nat.reduceLT, reduceCtorEq, Int.reduceToNat]
  repeat' (first | (simp -implicitDefEqProofs only [go_sem, ↓reduceIte, Nat.reduceEqDiff, Nat.reduceAdd, Nat.reduceSub, Nat.reduceMul, Nat.reduceLeDiff, Nat.reduceLT, reduceCtorEq, Int.reduceToNat, ndL_len, kinV]) | (with_reducible refine g_noent ?_) | (refine cdS (fun hg => ?_) (fun hg => ?_) <;> try simp -implicitDefEqProofs only [hg, Bool.not_true, Bool.not_false]) | (refine gdS (fun hg => ?_) (fun hg => ?_) <;> try simp -implicitDefEqProofs only [hg, Bool.not_true, Bool.not_false]) | (refine gddS (fun hg => ?_) (fun hg => ?_) <;> try simp -implicitDefEqProofs only [hg, Bool.not_true, Bool.not_false]) | ((with_reducible apply And.intro); focus (first | trivial | omega | decide | (simp -implicitDefEqProofs only [maxLen]; omega) | (simp [maxLen, sty_len, nd_len, ndL_len, lnL_len, intsL_len, rvs_len, lensS_len]; done) | (simp [maxLen, sty_len, nd_len, ndL_len, lnL_len, intsL_len, rvs_len, lensS_len]; omega))) | fail)
  exact (hK _ _ (ret_t rfl)).2

theorem sp_has : CallR Go.Proofs.Try.prog 54 [.rv (kinV l), .rv (.int .i64 n)] [] [] (.rv (.bool (inL l n))) := by
  refine callR_G k_kin_Kin_has [.rv (kinV l), .rv (.int .i64 n)] _ (by simp) (by simp [BkAll, bk_agg, bkAll_map, bk_rv, bk_fn, Sty.sv, Ln.sv, Nd.sv]) (fun K hK => ?_)
  simp -implicitDefEqProofs only [c_kin_Kin_has, go_sem, ↓reduceIte, Nat.reduceEqDiff, Nat.reduceAdd, Nat.reduceSub, Nat.reduceMul, Nat.reduceLeDiff, Nat.reduceLT, reduceCtorEq, Int.reduceToNat]
  have hcall1 := sp_Len l; repeat' (first | (simp -implicitDefEqProofs only [go_sem, ↓reduceIte, Nat.reduceEqDiff, Nat.reduceAdd, Nat.reduceSub, Nat.reduceMul, Nat.reduceLeDiff, Nat.reduceLT, reduceCtorEq, Int.reduceToNat]) | (with_reducible refine g_noent ?_) | (with_reducible refine g_call0 hcall1 ?_) | (with_reducible refine g_calld0 hcall1 ?_) | (refine cdS (fun hg => ?_) (fun hg => ?_) <;> try simp -implicitDefEqProofs only [hg, Bool.not_true, Bool.not_false]) | (refine gdS (fun hg => ?_) (fun hg => ?_) <;> try simp -implicitDefEqProofs only [hg, Bool.not_true, Bool.not_false]) | (refine gddS (fun hg => ?_) (fun hg => ?_) <;> try simp -implicitDefEqProofs only [hg, Bool.not_true, Bool.not_false]) | ((with_reducible apply And.intro); focus (first | trivial | omega | decide | (simp -implicitDefEqProofs only [maxLen]; omega) | (simp [maxLen, sty_len, nd_len, ndL_len, lnL_len, intsL_len, rvs_len, lensS_len]; done) | (simp [maxLen, sty_len, nd_len, ndL_len, lnL_len, intsL_len, rvs_len, lensS_len]; omega))) | fail)
  all_goals (try ((first | refine (hK _ _ _ _ [] (ent_refl _ _) ?_).2 | refine (hK _ _ ?_).2 | refine (hK _ _ _ _ [] (ent_refl _ _) ?_).1 | refine (hK _ _ ?_).1 | fail); clear hK; (simp_all [retM, nodupL, newL, allU, keptL, retP, resL, lk, resT, RnHo, lkp, finU, hget_zero, hget_succ, hget, rnRows_rvs, rn_tup, rn_rv, rn_row, rn_ptr, rn_ifc, rn_agg, rn_dead, RnAll, ofL, rnAll_map, beqD, inL]) <;> try omega))

theorem sp_Style : CallR Go.Proofs.Try.prog 51 [.rv (kinV l), .rv (.int .i64 n)] [] [] (styAt l n).sv := by
  refine callR_G k_kin_Kin_Style [.rv (kinV l), .rv (.int .i64 n)] _ (by simp) (by simp [BkAll, bk_agg, bkAll_map, bk_rv, bk_fn, Sty.sv, Ln.sv, Nd.sv]) (fun K hK => ?_)
  have hh := sp_has l n
  simp -implicitDefEqProofs only [c_kin_Kin_Style, go_sem, ↓reduceIte, Nat.reduceEqDiff, Nat.reduceAdd, Nat.reduceSub, Nat.reduceMul, Nat.reduceLeDiff, Nat.reduceLT, reduceCtorEq, Int.reduceToNat]
  cases hi : inL l n with
  | false =>
    rw [hi] at hh
    have hcall2 := hh; repeat' (first | (simp -implicitDefEqProofs only [go_sem, ↓reduceIte, Nat.reduceEqDiff, Nat.reduceAdd, Nat.reduceSub, Nat.reduceMul, Nat.reduceLeDiff, Nat.reduceLT, reduceCtorEq, Int.reduceToNat]) | (with_reducible refine g_noent ?_) | (with_reducible refine g_call0 hcall2 ?_) | (with_reducible refine g_calld0 hcall2 ?_) | (refine cdS (fun hg => ?_) (fun hg => ?_) <;> try simp -implicitDefEqProofs only [hg, Bool.not_true, Bool.not_false]) | (refine gdS (fun hg => ?_) (fun hg => ?_) <;> try simp -implicitDefEqProofs only [hg, Bool.not_true, Bool.not_false]) | (refine gddS (fun hg => ?_) (fun hg => ?_) <;> try simp -implicitDefEqProofs only [hg, Bool.not_true, Bool.not_false]) | ((with_reducible apply And.intro); focus (first | trivial | omega | decide | (simp -implicitDefEqProofs only [maxLen]; omega) | (simp [maxLen, sty_len, nd_len, ndL_len, lnL_len, intsL_len, rvs_len, lensS_len]; done) | (simp [maxLen, sty_len, nd_len, ndL_len, lnL_len, intsL_len, rvs_len, lensS_len]; omega) | (rfl; done) | (exact ⟨rfl, by decide⟩; done))) | fail)
    have hsd : styAt l n = default := by simp [styAt, hi]
    rw [hsd] at hK
    exact (hK _ _ (ret_c rfl rfl rfl)).2
  | true =>
    rw [hi] at hh
    obtain ⟨k, rfl, hk⟩ := inL_nat hi
    have hx := ndL_get hk
    have hlen := ndL_len l
    have hcall3 := hh; repeat' (first | (simp -implicitDefEqProofs only [go_sem, ↓reduceIte, Nat.reduceEqDiff, Nat.reduceAdd, Nat.reduceSub, Nat.reduceMul, Nat.reduceLeDiff, Nat.reduceLT, reduceCtorEq, Int.reduceToNat, hx, hlen, nd_len, sty_len, nd_st, kinV]) | (with_reducible refine g_noent ?_) | (with_reducible refine g_call0 hcall3 ?_) | (with_reducible refine g_calld0 hcall3 ?_) | (refine cdS (fun hg => ?_) (fun hg => ?_) <;> try simp -implicitDefEqProofs only [hg, Bool.not_true, Bool.not_false]) | (refine gdS (fun hg => ?_) (fun hg => ?_) <;> try simp -implicitDefEqProofs only [hg, Bool.not_true, Bool.not_false]) | (refine gddS (fun hg => ?_) (fun hg => ?_) <;> try simp -implicitDefEqProofs only [hg, Bool.not_true, Bool.not_false]) | ((with_reducible apply And.intro); focus (first | trivial | omega | decide | (simp -implicitDefEqProofs only [maxLen]; omega) | (simp [maxLen, sty_len, nd_len, ndL_len, lnL_len, intsL_len, rvs_len, lensS_len]; done) | (simp [maxLen, sty_len, nd_len, ndL_len, lnL_len, intsL_len, rvs_len, lensS_len]; omega))) | fail)
    have hsd : styAt l k = (l[k]'hk).s := by simp [styAt, hi, hk]
    rw [hsd] at hK
    exact (hK _ _ (ret_c rfl rfl rfl)).2

theorem sp_Parent : CallR Go.Proofs.Try.prog 80 [.rv (kinV l), .rv (.int .i64 n)] [] [] (.rv (.int .i64 (parAt l n))) := by
  refine callR_G k_kin_Kin_Parent [.rv (kinV l), .rv (.int .i64 n)] _ (by simp) (by simp [BkAll, bk_agg, bkAll_map, bk_rv, bk_fn, Sty.sv, Ln.sv, Nd.sv]) (fun K hK => ?_)
  have hh := sp_has l n
  simp -implicitDefEqProofs only [c_kin_Kin_Parent, go_sem, ↓reduceIte, Nat.reduceEqDiff, Nat.reduceAdd, Nat.reduceSub, Nat.reduceMul, Nat.reduceLeDiff, Nat.reduceLT, reduceCtorEq, Int.reduceToNat]
  cases hi : inL l n with
  | false =>
    rw [hi] at hh
    have hcall4 := hh; repeat' (first | (simp -implicitDefEqProofs only [go_sem, ↓reduceIte, Nat.reduceEqDiff, Nat.reduceAdd, Nat.reduceSub, Nat.reduceMul, Nat.reduceLeDiff, Nat.reduceLT, reduceCtorEq, Int.reduceToNat]) | (with_reducible refine g_noent ?_) | (with_reducible refine g_call0 hcall4 ?_) | (with_reducible refine g_calld0 hcall4 ?_) | (refine cdS (fun hg => ?_) (fun hg => ?_) <;> try simp -implicitDefEqProofs only [hg, Bool.not_true, Bool.not_false]) | (refine gdS (fun hg => ?_) (fun hg => ?_) <;> try simp -implicitDefEqProofs only [hg, Bool.not_true, Bool.not_false]) | (refine gddS (fun hg => ?_) (fun hg => ?_) <;> try simp -implicitDefEqProofs only [hg, Bool.not_true, Bool.not_false]) | ((with_reducible apply And.intro); focus (first | trivial | omega | decide | (simp -implicitDefEqProofs only [maxLen]; omega) | (simp [maxLen, sty_len, nd_len, ndL_len, lnL_len, intsL_len, rvs_len, lensS_len]; done) | (simp [maxLen, sty_len, nd_len, ndL_len, lnL_len, intsL_len, rvs_len, lensS_len]; omega))) | fail)
    exact (hK _ _ (ret_t (by simp [parAt, hi, lk]))).2
  | true =>
    rw [hi] at hh
    obtain ⟨k, rfl, hk⟩ := inL_nat hi
    have hx := ndL_get hk
    have hlen := ndL_len l
    have hp := parL_eq hk
    have hcall5 := hh; repeat' (first | (simp -implicitDefEqProofs only [go_sem, ↓reduceIte, Nat.reduceEqDiff, Nat.reduceAdd, Nat.reduceSub, Nat.reduceMul, Nat.reduceLeDiff, Nat.reduceLT, reduceCtorEq, Int.reduceToNat, hx, hlen, nd_len, kinV, nd_drop0, hp]) | (with_reducible refine g_noent ?_) | (with_reducible refine g_call0 hcall5 ?_) | (with_reducible refine g_calld0 hcall5 ?_) | (refine cdS (fun hg => ?_) (fun hg => ?_) <;> try simp -implicitDefEqProofs only [hg, Bool.not_true, Bool.not_false]) | (refine gdS (fun hg => ?_) (fun hg => ?_) <;> try simp -implicitDefEqProofs only [hg, Bool.not_true, Bool.not_false]) | (refine gddS (fun hg => ?_) (fun hg => ?_) <;> try simp -implicitDefEqProofs only [hg, Bool.not_true, Bool.not_false]) | ((with_reducible apply And.intro); focus (first | trivial | omega | decide | (simp -implicitDefEqProofs only [maxLen]; omega) | (simp [maxLen, sty_len, nd_len, ndL_len, lnL_len, intsL_len, rvs_len, lensS_len]; done) | (simp [maxLen, sty_len, nd_len, ndL_len, lnL_len, intsL_len, rvs_len, lensS_len]; omega))) | fail)
    exact (hK _ _ (ret_t (by simp [parAt, hi, lk]))).2

theorem sp_Made : CallR Go.Proofs.Try.prog 21 [.rv (kinV l), .rv (.int .i64 n)] [] [] (.rv (.bool (madeAt l n))) := by
  refine callR_G k_kin_Kin_Made [.rv (kinV l), .rv (.int .i64 n)] _ (by simp) (by simp [BkAll, bk_agg, bkAll_map, bk_rv, bk_fn, Sty.sv, Ln.sv, Nd.sv]) (fun K hK => ?_)
  have hh := sp_has l n
  simp -implicitDefEqProofs only [c_kin_Kin_Made, go_sem, ↓reduceIte, Nat.reduceEqDiff, Nat.reduceAdd, Nat.reduceSub, Nat.reduceMul, Nat.reduceLeDiff, Nat.reduceLT, reduceCtorEq, Int.reduceToNat]
  cases hi : inL l n with
  | false =>
    rw [hi] at hh
    have hcall6 := hh; repeat' (first | (simp -implicitDefEqProofs only [go_sem, ↓reduceIte, Nat.reduceEqDiff, Nat.reduceAdd, Nat.reduceSub, Nat.reduceMul, Nat.reduceLeDiff, Nat.reduceLT, reduceCtorEq, Int.reduceToNat]) | (with_reducible refine g_noent ?_) | (with_reducible refine g_call0 hcall6 ?_) | (with_reducible refine g_calld0 hcall6 ?_) | (refine cdS (fun hg => ?_) (fun hg => ?_) <;> try simp -implicitDefEqProofs only [hg, Bool.not_true, Bool.not_false]) | (refine gdS (fun hg => ?_) (fun hg => ?_) <;> try simp -implicitDefEqProofs only [hg, Bool.not_true, Bool.not_false]) | (refine gddS (fun hg => ?_) (fun hg => ?_) <;> try simp -implicitDefEqProofs only [hg, Bool.not_true, Bool.not_false]) | ((with_reducible apply And.intro); focus (first | trivial | omega | decide | (simp -implicitDefEqProofs only [maxLen]; omega) | (simp [maxLen, sty_len, nd_len, ndL_len, lnL_len, intsL_len, rvs_len, lensS_len]; done) | (simp [maxLen, sty_len, nd_len, ndL_len, lnL_len, intsL_len, rvs_len, lensS_len]; omega))) | fail)
    exact (hK _ _ (ret_t (by simp [madeAt, hi, lk]))).2
  | true =>
    rw [hi] at hh
    obtain ⟨k, rfl, hk⟩ := inL_nat hi
    have hcall7 := hh; repeat' (first | (simp -implicitDefEqProofs only [go_sem, ↓reduceIte, Nat.reduceEqDiff, Nat.reduceAdd, Nat.reduceSub, Nat.reduceMul, Nat.reduceLeDiff, Nat.reduceLT, reduceCtorEq, Int.reduceToNat, mades_len, mades_get hk, kinV]) | (with_reducible refine g_noent ?_) | (with_reducible refine g_call0 hcall7 ?_) | (with_reducible refine g_calld0 hcall7 ?_) | (refine cdS (fun hg => ?_) (fun hg => ?_) <;> try simp -implicitDefEqProofs only [hg, Bool.not_true, Bool.not_false]) | (refine gdS (fun hg => ?_) (fun hg => ?_) <;> try simp -implicitDefEqProofs only [hg, Bool.not_true, Bool.not_false]) | (refine gddS (fun hg => ?_) (fun hg => ?_) <;> try simp -implicitDefEqProofs only [hg, Bool.not_true, Bool.not_false]) | ((with_reducible apply And.intro); focus (first | trivial | omega | decide | (simp -implicitDefEqProofs only [maxLen]; omega) | (simp [maxLen, sty_len, nd_len, ndL_len, lnL_len, intsL_len, rvs_len, lensS_len]; done) | (simp [maxLen, sty_len, nd_len, ndL_len, lnL_len, intsL_len, rvs_len, lensS_len]; omega))) | fail)
    exact (hK _ _ (ret_t (by simp [madeAt, hi, lk]))).2

theorem sp_Out : CallR Go.Proofs.Try.prog 79 [.rv (kinV l), .rv (.int .i64 n)] [] [] (.rv (.bool (outAt l n))) := by
  refine callR_G k_kin_Kin_Out [.rv (kinV l), .rv (.int .i64 n)] _ (by simp) (by simp [BkAll, bk_agg, bkAll_map, bk_rv, bk_fn, Sty.sv, Ln.sv, Nd.sv]) (fun K hK => ?_)
  have hh := sp_Made l n
  simp -implicitDefEqProofs only [c_kin_Kin_Out, go_sem, ↓reduceIte, Nat.reduceEqDiff, Nat.reduceAdd, Nat.reduceSub, Nat.reduceMul, Nat.reduceLeDiff, Nat.reduceLT, reduceCtorEq, Int.reduceToNat]
  cases hi : madeAt l n with
  | false =>
    rw [hi] at hh
    have hcall8 := hh; repeat' (first | (simp -implicitDefEqProofs only [go_sem, ↓reduceIte, Nat.reduceEqDiff, Nat.reduceAdd, Nat.reduceSub, Nat.reduceMul, Nat.reduceLeDiff, Nat.reduceLT, reduceCtorEq, Int.reduceToNat]) | (with_reducible refine g_noent ?_) | (with_reducible refine g_call0 hcall8 ?_) | (with_reducible refine g_calld0 hcall8 ?_) | (refine cdS (fun hg => ?_) (fun hg => ?_) <;> try simp -implicitDefEqProofs only [hg, Bool.not_true, Bool.not_false]) | (refine gdS (fun hg => ?_) (fun hg => ?_) <;> try simp -implicitDefEqProofs only [hg, Bool.not_true, Bool.not_false]) | (refine gddS (fun hg => ?_) (fun hg => ?_) <;> try simp -implicitDefEqProofs only [hg, Bool.not_true, Bool.not_false]) | ((with_reducible apply And.intro); focus (first | trivial | omega | decide | (simp -implicitDefEqProofs only [maxLen]; omega) | (simp [maxLen, sty_len, nd_len, ndL_len, lnL_len, intsL_len, rvs_len, lensS_len]; done) | (simp [maxLen, sty_len, nd_len, ndL_len, lnL_len, intsL_len, rvs_len, lensS_len]; omega))) | fail)
    exact (hK _ _ (ret_t (by simp [outAt, hi, lk]))).2
  | true =>
    rw [hi] at hh
    have hin : inL l n = true := by simp [madeAt] at hi; exact hi.1
    obtain ⟨k, rfl, hk⟩ := inL_nat hin
    have hx := ndL_get hk
    have hlen := ndL_len l
    have hs : styAt l k = (l[k]'hk).s := by simp [styAt, hin, hk]
    have hp : ((l[k]'hk).cells.drop 1)[0]? = some (.int .i64 (l[k]'hk).s.position) := rfl
    have hcall9 := hh; repeat' (first | (simp -implicitDefEqProofs only [go_sem, ↓reduceIte, Nat.reduceEqDiff, Nat.reduceAdd, Nat.reduceSub, Nat.reduceMul, Nat.reduceLeDiff, Nat.reduceLT, reduceCtorEq, Int.reduceToNat, hx, hlen, nd_len, kinV, hp]) | (with_reducible refine g_noent ?_) | (with_reducible refine g_call0 hcall9 ?_) | (with_reducible refine g_calld0 hcall9 ?_) | (refine cdS (fun hg => ?_) (fun hg => ?_) <;> try simp -implicitDefEqProofs only [hg, Bool.not_true, Bool.not_false]) | (refine gdS (fun hg => ?_) (fun hg => ?_) <;> try simp -implicitDefEqProofs only [hg, Bool.not_true, Bool.not_false]) | (refine gddS (fun hg => ?_) (fun hg => ?_) <;> try simp -implicitDefEqProofs only [hg, Bool.not_true, Bool.not_false]) | ((with_reducible apply And.intro); focus (first | trivial | omega | decide | (simp -implicitDefEqProofs only [maxLen]; omega) | (simp [maxLen, sty_len, nd_len, ndL_len, lnL_len, intsL_len, rvs_len, lensS_len]; done) | (simp [maxLen, sty_len, nd_len, ndL_len, lnL_len, intsL_len, rvs_len, lensS_len]; omega))) | fail)
    all_goals (refine (hK _ _ (ret_t ?_)).2; rw [outAt, hi, hs]; clear hK hs hp; simp_all [lk, beqD])

end
end Go.Eng


/- kin: children, and those above. -/
namespace Go.Eng
open Go
def kidsAt (l : List Nd) (n : Int) : List Nat := if inL l n = true then kidsOf l n.toNat else []
def upAt (l : List Nd) (n : Int) : List Nat := if inL l n = true then (pth l n.toNat).drop 1 else []
def stayAt (l : List Nd) (m : Int) : Bool := madeAt l m && !outAt l m
def flowAt (l : List Nd) (n : Int) : List Nat := (kidsAt l n).filter fun (m : Nat) => stayAt l m
section
variable (l : List Nd) (hb : l.length ≤ 8589934592) (n : Int)

end

section
variable (f : Nat) (i j v : Nat) (cap : RV) (p : Int → Bool) (hij : i ≠ j) (hf : ∀ (m : Int) (j : Nat), CallR Go.Proofs.Try.prog f [.rv (.int .i64 m), .ptr j 0] [(j, .var [.rv cap])] [] (.rv (.bool (p m))))
include hij hf

/-- What is left, and the rest cleared. -/
def leftL (ys : List Int) (p : Int → Bool) : List Int := ys.filter fun y => !p y
def clearedL (ys : List Int) (p : Int → Bool) : List Int := leftL ys p ++ List.replicate (ys.length - (leftL ys p).length) 0

end

section
variable (l : List Nd) (n : Int)

end
end Go.Eng


/- kin: the document's functions. -/
namespace Go.Eng
open Go
theorem tree_shp {l : List Nd} (ht : treeOK l = true) : Shp l := shape_iff.1 (by unfold treeOK at ht; simp -implicitDefEqProofs only [Bool.and_eq_true] at ht; exact ht.1)
theorem chk_tree {l : List Nd} (h : chk l = 0) : treeOK l = true := by
  unfold chk at h
  cases ht : treeOK l with
  | true => rfl
  | false => rw [ht] at h; simp at h

/-- The children in the flow among the first k nodes. -/
def flowTo (l : List Nd) (k p : Nat) : List Nat := (kidsTo l k p).filter fun (m : Nat) => stayAt l m
/-- One past the last of the first i nodes that is below n; 0 if there is none. -/
def lastTo (l : List Nd) (n : Int) (i : Nat) : Int := if inL l n = true ∧ n < i then (if (i : Int) < endAt l n then (i : Int) else endAt l n) else 0

end Go.Eng


/- Ways up: the next one, the first that is such. -/
namespace Go.Eng
open Go
theorem up_zero {l : List Nd} (hs : Shp l) (n : Int) : parAt l n = atI (upAt l n) 0 := by
  cases hin : inL l n with
  | false => simp [parAt, upAt, hin, atI]
  | true =>
    obtain ⟨k, rfl, hk⟩ := inL_nat hin
    have := par_at hs.wf k hk 0 pth_pos
    obtain ⟨r, hr⟩ := pth_head (l := l) (n := k)
    simp -implicitDefEqProofs only [hr, List.getElem_cons_zero] at this
    simp -implicitDefEqProofs only [parAt, upAt, hin, if_true, Int.toNat_natCast, this, hr]
    simp [atI]
theorem up_next {l : List Nd} (hs : Shp l) (n : Int) {i : Nat} (hi : i < (upAt l n).length) : parAt l (atI (upAt l n) i) = atI (upAt l n) (i + 1) := by
  unfold upAt at hi ⊢
  split at hi
  · rename_i hin
    rw [if_pos hin]
    obtain ⟨k, rfl, hk⟩ := inL_nat hin
    simp -implicitDefEqProofs only [Int.toNat_natCast] at hi ⊢
    have hi2 : i + 1 < (pth l k).length := by simp at hi; omega
    have h1 : atI ((pth l k).drop 1) i = ((pth l k)[i + 1]'hi2 : Nat) := by
      unfold atI; rw [List.getElem?_drop, show 1 + i = i + 1 by omega, List.getElem?_eq_getElem hi2]
    have h2 : atI ((pth l k).drop 1) (i + 1) = atI (pth l k) (i + 1 + 1) := by
      unfold atI; rw [List.getElem?_drop, show 1 + (i + 1) = i + 1 + 1 by omega]
    rw [h1, h2, ← par_at hs.wf k hk (i + 1) hi2]
    have := pth_lt hk hi2
    simp [parAt, inL_of this]
  · simp at hi
theorem atI_ne {p : List Nat} {i : Nat} : (atI p i != -1) = decide (i < p.length) := by
  by_cases h : i < p.length
  · rw [atI_lt h, decide_eq_true h]; simp
  · rw [atI_ge (by omega), decide_eq_false h]; rfl
theorem up_made {l : List Nd} (hs : Shp l) {n : Int} (hm : madeAt l n = true) {i : Nat} (hi : i < (upAt l n).length) : madeAt l (atI (upAt l n) i) = true := by
  rw [atI_lt hi]
  have hin : inL l n = true := by simp [madeAt] at hm; exact hm.1
  obtain ⟨k, rfl, hk⟩ := inL_nat hin
  have hx : upAt l k = (pth l k).drop 1 := by simp [upAt, hin]
  simp -implicitDefEqProofs only [hx] at hi ⊢
  simp -implicitDefEqProofs only [List.getElem_drop]
  have hi2 : 1 + i < (pth l k).length := by simp at hi; omega
  have hlt := pth_lt hk hi2
  have hall : (pth l k).all (shownL l) = true := by simp [madeAt] at hm; exact hm.2
  have := pth_drop (l := l) k (1 + i) hi2
  simp -implicitDefEqProofs only [madeAt, inL_of hlt, Bool.true_and, Int.toNat_natCast, madeS, ← this]
  rw [List.all_eq_true] at hall ⊢
  exact fun x hx => hall x (List.mem_of_mem_drop hx)

/-- The first of them that is such, or none. -/
def fstI (p : Int → Bool) (xs : List Nat) : Int := match xs.find? (fun (m : Nat) => p m) with
  | some k => k
  | none => -1
theorem fst_hit {p : Int → Bool} {xs : List Nat} {i : Nat} (h : i < xs.length) (he : fstI p (xs.drop i) = fstI p xs) (hp : p (atI xs i) = true) : fstI p xs = atI xs i := by
  rw [← he, atI_lt h, List.drop_eq_getElem_cons h]
  rw [atI_lt h] at hp
  simp -implicitDefEqProofs only [fstI, List.find?_cons, hp]
theorem fst_miss {p : Int → Bool} {xs : List Nat} {i : Nat} (h : i < xs.length) (he : fstI p (xs.drop i) = fstI p xs) (hp : p (atI xs i) = false) : fstI p (xs.drop (i + 1)) = fstI p xs := by
  rw [← he, List.drop_eq_getElem_cons h]
  rw [atI_lt h] at hp
  simp -implicitDefEqProofs only [fstI, List.find?_cons, hp]
theorem fst_end {p : Int → Bool} {xs : List Nat} {i : Nat} (h : xs.length ≤ i) (he : fstI p (xs.drop i) = fstI p xs) : fstI p xs = -1 := by
  rw [← he, List.drop_of_length_le h]; rfl
theorem fst_cases (p : Int → Bool) (xs : List Nat) : fstI p xs = -1 ∧ (∀ x ∈ xs, p (x : Nat) = false) ∨ ∃ i, ∃ h : i < xs.length, fstI p xs = (xs[i] : Nat) ∧ p (xs[i] : Nat) = true ∧ ∀ j, (h : j < i) → p (xs[j] : Nat) = false := by
  unfold fstI
  cases hf : xs.find? (fun (m : Nat) => p m) with
  | none => left; refine ⟨rfl, fun x hx => ?_⟩; have := List.find?_eq_none.1 hf x hx; simpa using this
  | some k =>
    right
    obtain ⟨hp, a, b, hab, hn⟩ := List.find?_eq_some_iff_append.1 hf
    subst hab
    refine ⟨a.length, by simp, by simp, by simpa using hp, fun j hj => ?_⟩
    have := hn (a[j]) (List.getElem_mem hj)
    rw [List.getElem_append_left hj]
    simpa using this
end Go.Eng


/- hold: what holds a box. -/
namespace Go.Eng
open Go
/- decoupage/hold.Positioned -/
def c_hold_Positioned : AC := (.seq (.reg [⟨(some 4), .mv, [(.c (.rv (.bool false)))], none⟩]) (.seq (.reg [⟨(some 5), .mv, [(.t 0)], none⟩, ⟨(some 6), .mv, [(.t 1)], none⟩, ⟨(some 7), (.call 21), [(.t 5), (.t 6)], none⟩, ⟨(some 8), .mv, [(.t 7)], none⟩, ⟨(some 9), .mv, [(.t 1)], (some (8, true))⟩, ⟨(some 10), (.ibin .gtr), [(.t 9), (.c (.rv (.int .i64 0)))], (some (8, true))⟩, ⟨(some 11), .pick, [(.t 8), (.t 10), (.c (.rv (.bool false)))], none⟩, ⟨(some 12), .mv, [(.t 11)], none⟩, ⟨(some 13), .mv, [(.t 0)], (some (12, true))⟩, ⟨(some 14), .mv, [(.t 1)], (some (12, true))⟩, ⟨(some 15), (.call 51), [(.t 13), (.t 14)], (some (12, true))⟩, ⟨(some 16), (.fldv 1 1 false), [(.t 15)], (some (12, true))⟩, ⟨(some 17), (.ibin .neq), [(.t 16), (.c (.rv (.int .i64 0)))], (some (12, true))⟩, ⟨(some 18), .pick, [(.t 12), (.t 17), (.c (.rv (.bool false)))], none⟩, ⟨(some 4), .mv, [(.t 18)], none⟩]) .ret))
theorem k_hold_Positioned : FnOK Go.Proofs.Try.prog 81 19 c_hold_Positioned [(.t 4)] := fnOK_of (by kernel_rfl)

/- decoupage/hold.Of -/
def c_hold_Of : AC := (.seq (.reg [⟨(some 4), .mv, [(.c (.rv (.int .i64 0)))], none⟩]) (.seq (.seq (.block 0 (.seq (.reg [⟨(some 7), .mv, [(.t 0)], none⟩, ⟨(some 8), .mv, [(.t 1)], none⟩, ⟨(some 9), (.call 21), [(.t 7), (.t 8)], none⟩, ⟨(some 10), .not, [(.t 9)], none⟩, ⟨(some 6), .mv, [(.t 10)], none⟩]) (.cond (.t 6) (.seq (.reg [⟨(some 4), .mv, [(.c (.rv (.int .i64 (-1))))], none⟩]) .ret) (.seq (.reg [⟨(some 12), .mv, [(.t 0)], none⟩, ⟨(some 13), .mv, [(.t 1)], none⟩, ⟨(some 14), (.call 79), [(.t 12), (.t 13)], none⟩, ⟨(some 15), .not, [(.t 14)], none⟩, ⟨(some 11), .mv, [(.t 15)], none⟩]) (.cond (.t 11) (.seq (.reg [⟨(some 16), .mv, [(.t 0)], none⟩, ⟨(some 17), .mv, [(.t 1)], none⟩, ⟨(some 18), (.call 80), [(.t 16), (.t 17)], none⟩, ⟨(some 4), .mv, [(.t 18)], none⟩]) .ret) (.seq (.reg [⟨(some 20), .mv, [(.t 0)], none⟩, ⟨(some 21), .mv, [(.t 1)], none⟩, ⟨(some 22), (.call 51), [(.t 20), (.t 21)], none⟩, ⟨(some 23), (.fldv 1 1 false), [(.t 22)], none⟩, ⟨(some 24), (.ibin .eql), [(.t 23), (.c (.rv (.int .i64 3)))], none⟩, ⟨(some 19), .mv, [(.t 24)], none⟩]) (.cond (.t 19) (.seq (.reg [⟨(some 4), .mv, [(.c (.rv (.int .i64 (-1))))], none⟩]) .ret) .skip))))))) .ent) (.seq (.seq (.reg [⟨(some 25), .mv, [(.t 0)], none⟩, ⟨(some 26), .mv, [(.t 1)], none⟩, ⟨(some 27), (.call 80), [(.t 25), (.t 26)], none⟩, ⟨(some 5), .mv, [(.t 27)], none⟩]) (.seq (.block 1 (.loop (.seq (.seq (.reg [⟨(some 28), .mv, [(.t 5)], none⟩, ⟨(some 29), (.ibin .neq), [(.t 28), (.c (.rv (.int .i64 (-1))))], none⟩]) (.cond (.t 29) .skip (.exit 1))) (.seq (.seq (.block 2 (.seq (.reg [⟨(some 33), .mv, [(.t 0)], none⟩, ⟨(some 34), .mv, [(.t 5)], none⟩, ⟨(some 35), (.call 81), [(.t 33), (.t 34)], none⟩]) (.cond (.t 35) (.seq (.reg [⟨(some 36), .mv, [(.t 5)], none⟩, ⟨(some 4), .mv, [(.t 36)], none⟩]) .ret) .skip))) .ent) (.reg [⟨(some 30), .mv, [(.t 0)], none⟩, ⟨(some 31), .mv, [(.t 5)], none⟩, ⟨(some 32), (.call 80), [(.t 30), (.t 31)], none⟩, ⟨(some 5), .mv, [(.t 32)], none⟩]))))) .ent)) (.seq (.reg [⟨(some 4), .mv, [(.c (.rv (.int .i64 (-1))))], none⟩]) .ret))))
theorem k_hold_Of : FnOK Go.Proofs.Try.prog 49 37 c_hold_Of [(.t 4)] := fnOK_of (by kernel_rfl)

def posAt (l : List Nd) (n : Int) : Bool := madeAt l n && decide (n > 0) && ((styAt l n).position != 0)
def holdAt (l : List Nd) (n : Int) : Int := if madeAt l n = false then -1 else if outAt l n = false then parAt l n else if (styAt l n).position = 3 then -1 else fstI (posAt l) (upAt l n)

theorem sp_Positioned (l : List Nd) (n : Int) : CallR Go.Proofs.Try.prog 81 [.rv (kinV l), .rv (.int .i64 n)] [] [] (.rv (.bool (posAt l n))) := by
  refine callR_G k_hold_Positioned [.rv (kinV l), .rv (.int .i64 n)] _ (by simp) (by simp [BkAll, bk_agg, bkAll_map, bk_rv, bk_fn, Sty.sv, Ln.sv, Nd.sv]) (fun K hK => ?_)
  have hm := sp_Made l n
  have hst := sp_Style l n
  simp -implicitDefEqProofs only [c_hold_Positioned, go_sem, ↓reduceIte, Nat.reduceEqDiff, Nat.reduceAdd, Nat.reduceSub, Nat.reduceMul, Nat.reduceLeDiff, Nat.reduceLT, reduceCtorEq, Int.reduceToNat]
  cases hi : madeAt l n with
  | false =>
    rw [hi] at hm
    have hcall1 := hm; repeat' (first | (simp -implicitDefEqProofs only [go_sem, ↓reduceIte, Nat.reduceEqDiff, Nat.reduceAdd, Nat.reduceSub, Nat.reduceMul, Nat.reduceLeDiff, Nat.reduceLT, reduceCtorEq, Int.reduceToNat]) | (with_reducible refine g_noent ?_) | (with_reducible refine g_call0 hcall1 ?_) | (with_reducible refine g_calld0 hcall1 ?_) | (refine cdS (fun hg => ?_) (fun hg => ?_) <;> try simp -implicitDefEqProofs only [hg, Bool.not_true, Bool.not_false]) | (refine gdS (fun hg => ?_) (fun hg => ?_) <;> try simp -implicitDefEqProofs only [hg, Bool.not_true, Bool.not_false]) | (refine gddS (fun hg => ?_) (fun hg => ?_) <;> try simp -implicitDefEqProofs only [hg, Bool.not_true, Bool.not_false]) | ((with_reducible apply And.intro); focus (first | trivial | omega | decide | (simp -implicitDefEqProofs only [maxLen]; omega) | (simp [maxLen, sty_len, nd_len, ndL_len, lnL_len, intsL_len, rvs_len, lensS_len]; done) | (simp [maxLen, sty_len, nd_len, ndL_len, lnL_len, intsL_len, rvs_len, lensS_len]; omega))) | fail)
    exact (hK _ _ (ret_t (by simp [posAt, hi, lk]))).2
  | true =>
    rw [hi] at hm
    by_cases h0 : n > 0
    · have e1 : decide (n > 0) = true := decide_eq_true h0
      have hcall2 := hm; have hcall3 := hst; repeat' (first | (simp -implicitDefEqProofs only [go_sem, ↓reduceIte, Nat.reduceEqDiff, Nat.reduceAdd, Nat.reduceSub, Nat.reduceMul, Nat.reduceLeDiff, Nat.reduceLT, reduceCtorEq, Int.reduceToNat, e1, sty_at1]) | (with_reducible refine g_noent ?_) | (with_reducible refine g_call0 hcall2 ?_) | (with_reducible refine g_calld0 hcall2 ?_) | (with_reducible refine g_call0 hcall3 ?_) | (with_reducible refine g_calld0 hcall3 ?_) | (refine cdS (fun hg => ?_) (fun hg => ?_) <;> try simp -implicitDefEqProofs only [hg, Bool.not_true, Bool.not_false]) | (refine gdS (fun hg => ?_) (fun hg => ?_) <;> try simp -implicitDefEqProofs only [hg, Bool.not_true, Bool.not_false]) | (refine gddS (fun hg => ?_) (fun hg => ?_) <;> try simp -implicitDefEqProofs only [hg, Bool.not_true, Bool.not_false]) | ((with_reducible apply And.intro); focus (first | trivial | omega | decide | (simp -implicitDefEqProofs only [maxLen]; omega) | (simp [maxLen, sty_len, nd_len, ndL_len, lnL_len, intsL_len, rvs_len, lensS_len]; done) | (simp [maxLen, sty_len, nd_len, ndL_len, lnL_len, intsL_len, rvs_len, lensS_len]; omega))) | fail)
      exact (hK _ _ (ret_t (by simp [posAt, hi, lk, h0]))).2
    · have e1 : decide (n > 0) = false := decide_eq_false h0
      have hcall4 := hm; have hcall5 := hst; repeat' (first | (simp -implicitDefEqProofs only [go_sem, ↓reduceIte, Nat.reduceEqDiff, Nat.reduceAdd, Nat.reduceSub, Nat.reduceMul, Nat.reduceLeDiff, Nat.reduceLT, reduceCtorEq, Int.reduceToNat, e1, sty_at1]) | (with_reducible refine g_noent ?_) | (with_reducible refine g_call0 hcall4 ?_) | (with_reducible refine g_calld0 hcall4 ?_) | (with_reducible refine g_call0 hcall5 ?_) | (with_reducible refine g_calld0 hcall5 ?_) | (refine cdS (fun hg => ?_) (fun hg => ?_) <;> try simp -implicitDefEqProofs only [hg, Bool.not_true, Bool.not_false]) | (refine gdS (fun hg => ?_) (fun hg => ?_) <;> try simp -implicitDefEqProofs only [hg, Bool.not_true, Bool.not_false]) | (refine gddS (fun hg => ?_) (fun hg => ?_) <;> try simp -implicitDefEqProofs only [hg, Bool.not_true, Bool.not_false]) | ((with_reducible apply And.intro); focus (first | trivial | omega | decide | (simp -implicitDefEqProofs only [maxLen]; omega) | (simp [maxLen, sty_len, nd_len, ndL_len, lnL_len, intsL_len, rvs_len, lensS_len]; done) | (simp [maxLen, sty_len, nd_len, ndL_len, lnL_len, intsL_len, rvs_len, lensS_len]; omega))) | fail)
      exact (hK _ _ (ret_t (by simp [posAt, hi, lk, h0]))).2

theorem sp_Of (l : List Nd) (hs : Shp l) (n : Int) : CallR Go.Proofs.Try.prog 49 [.rv (kinV l), .rv (.int .i64 n)] [] [] (.rv (.int .i64 (holdAt l n))) := by
  refine callR_G k_hold_Of [.rv (kinV l), .rv (.int .i64 n)] _ (by simp) (by simp [BkAll, bk_agg, bkAll_map, bk_rv, bk_fn, Sty.sv, Ln.sv, Nd.sv]) (fun K hK => ?_)
  have hm := sp_Made l n
  have ho := sp_Out l n
  have hst := sp_Style l n
  have hpar := sp_Parent l n
  simp -implicitDefEqProofs only [c_hold_Of, go_sem, ↓reduceIte, Nat.reduceEqDiff, Nat.reduceAdd, Nat.reduceSub, Nat.reduceMul, Nat.reduceLeDiff, Nat.reduceLT, reduceCtorEq, Int.reduceToNat]
  cases hmm : madeAt l n with
  | false =>
    rw [hmm] at hm
    have hcall6 := hm; repeat' (first | (simp -implicitDefEqProofs only [go_sem, ↓reduceIte, Nat.reduceEqDiff, Nat.reduceAdd, Nat.reduceSub, Nat.reduceMul, Nat.reduceLeDiff, Nat.reduceLT, reduceCtorEq, Int.reduceToNat]) | (with_reducible refine g_noent ?_) | (with_reducible refine g_call0 hcall6 ?_) | (with_reducible refine g_calld0 hcall6 ?_) | (refine cdS (fun hg => ?_) (fun hg => ?_) <;> try simp -implicitDefEqProofs only [hg, Bool.not_true, Bool.not_false]) | (refine gdS (fun hg => ?_) (fun hg => ?_) <;> try simp -implicitDefEqProofs only [hg, Bool.not_true, Bool.not_false]) | (refine gddS (fun hg => ?_) (fun hg => ?_) <;> try simp -implicitDefEqProofs only [hg, Bool.not_true, Bool.not_false]) | ((with_reducible apply And.intro); focus (first | trivial | omega | decide | (simp -implicitDefEqProofs only [maxLen]; omega) | (simp [maxLen, sty_len, nd_len, ndL_len, lnL_len, intsL_len, rvs_len, lensS_len]; done) | (simp [maxLen, sty_len, nd_len, ndL_len, lnL_len, intsL_len, rvs_len, lensS_len]; omega))) | fail)
    exact (hK _ _ (ret_t (by simp [holdAt, hmm, lk]))).2
  | true =>
    rw [hmm] at hm
    cases hoo : outAt l n with
    | false =>
      rw [hoo] at ho
      have hcall7 := hm; have hcall8 := ho; have hcall9 := hpar; repeat' (first | (simp -implicitDefEqProofs only [go_sem, ↓reduceIte, Nat.reduceEqDiff, Nat.reduceAdd, Nat.reduceSub, Nat.reduceMul, Nat.reduceLeDiff, Nat.reduceLT, reduceCtorEq, Int.reduceToNat]) | (with_reducible refine g_noent ?_) | (with_reducible refine g_call0 hcall7 ?_) | (with_reducible refine g_calld0 hcall7 ?_) | (with_reducible refine g_call0 hcall8 ?_) | (with_reducible refine g_calld0 hcall8 ?_) | (with_reducible refine g_call0 hcall9 ?_) | (with_reducible refine g_calld0 hcall9 ?_) | (refine cdS (fun hg => ?_) (fun hg => ?_) <;> try simp -implicitDefEqProofs only [hg, Bool.not_true, Bool.not_false]) | (refine gdS (fun hg => ?_) (fun hg => ?_) <;> try simp -implicitDefEqProofs only [hg, Bool.not_true, Bool.not_false]) | (refine gddS (fun hg => ?_) (fun hg => ?_) <;> try simp -implicitDefEqProofs only [hg, Bool.not_true, Bool.not_false]) | ((with_reducible apply And.intro); focus (first | trivial | omega | decide | (simp -implicitDefEqProofs only [maxLen]; omega) | (simp [maxLen, sty_len, nd_len, ndL_len, lnL_len, intsL_len, rvs_len, lensS_len]; done) | (simp [maxLen, sty_len, nd_len, ndL_len, lnL_len, intsL_len, rvs_len, lensS_len]; omega))) | fail)
      exact (hK _ _ (ret_t (by simp [holdAt, hmm, hoo, lk]))).2
    | true =>
      rw [hoo] at ho
      by_cases h3 : (styAt l n).position = 3
      · have e3 : ((styAt l n).position == 3) = true := by simp [h3]
        have hcall10 := hm; have hcall11 := ho; have hcall12 := hst; repeat' (first | (simp -implicitDefEqProofs only [go_sem, ↓reduceIte, Nat.reduceEqDiff, Nat.reduceAdd, Nat.reduceSub, Nat.reduceMul, Nat.reduceLeDiff, Nat.reduceLT, reduceCtorEq, Int.reduceToNat, sty_at1, e3]) | (with_reducible refine g_noent ?_) | (with_reducible refine g_call0 hcall10 ?_) | (with_reducible refine g_calld0 hcall10 ?_) | (with_reducible refine g_call0 hcall11 ?_) | (with_reducible refine g_calld0 hcall11 ?_) | (with_reducible refine g_call0 hcall12 ?_) | (with_reducible refine g_calld0 hcall12 ?_) | (refine cdS (fun hg => ?_) (fun hg => ?_) <;> try simp -implicitDefEqProofs only [hg, Bool.not_true, Bool.not_false]) | (refine gdS (fun hg => ?_) (fun hg => ?_) <;> try simp -implicitDefEqProofs only [hg, Bool.not_true, Bool.not_false]) | (refine gddS (fun hg => ?_) (fun hg => ?_) <;> try simp -implicitDefEqProofs only [hg, Bool.not_true, Bool.not_false]) | ((with_reducible apply And.intro); focus (first | trivial | omega | decide | (simp -implicitDefEqProofs only [maxLen]; omega) | (simp [maxLen, sty_len, nd_len, ndL_len, lnL_len, intsL_len, rvs_len, lensS_len]; done) | (simp [maxLen, sty_len, nd_len, ndL_len, lnL_len, intsL_len, rvs_len, lensS_len]; omega))) | fail)
        exact (hK _ _ (ret_t (by simp [holdAt, hmm, hoo, h3, lk]))).2
      · have e3 : ((styAt l n).position == 3) = false := by simp [h3]
        have hv : holdAt l n = fstI (posAt l) (upAt l n) := by simp [holdAt, hmm, hoo, h3]
        rw [hv] at hK
        have hcall13 := hm; have hcall14 := ho; have hcall15 := hst; have hcall16 := hpar; repeat' (first | (simp -implicitDefEqProofs only [go_sem, ↓reduceIte, Nat.reduceEqDiff, Nat.reduceAdd, Nat.reduceSub, Nat.reduceMul, Nat.reduceLeDiff, Nat.reduceLT, reduceCtorEq, Int.reduceToNat, sty_at1, e3]) | (with_reducible refine g_noent ?_) | (with_reducible refine g_call0 hcall13 ?_) | (with_reducible refine g_calld0 hcall13 ?_) | (with_reducible refine g_call0 hcall14 ?_) | (with_reducible refine g_calld0 hcall14 ?_) | (with_reducible refine g_call0 hcall15 ?_) | (with_reducible refine g_calld0 hcall15 ?_) | (with_reducible refine g_call0 hcall16 ?_) | (with_reducible refine g_calld0 hcall16 ?_) | (refine cdS (fun hg => ?_) (fun hg => ?_) <;> try simp -implicitDefEqProofs only [hg, Bool.not_true, Bool.not_false]) | (refine gdS (fun hg => ?_) (fun hg => ?_) <;> try simp -implicitDefEqProofs only [hg, Bool.not_true, Bool.not_false]) | (refine gddS (fun hg => ?_) (fun hg => ?_) <;> try simp -implicitDefEqProofs only [hg, Bool.not_true, Bool.not_false]) | ((with_reducible apply And.intro); focus (first | trivial | omega | decide | (simp -implicitDefEqProofs only [maxLen]; omega) | (simp [maxLen, sty_len, nd_len, ndL_len, lnL_len, intsL_len, rvs_len, lensS_len]; done) | (simp [maxLen, sty_len, nd_len, ndL_len, lnL_len, intsL_len, rvs_len, lensS_len]; omega))) | fail)
        refine g_loop (ι := Nat) (fun i => [(5, .rv (.int .i64 (atI (upAt l n) i))), (0, .rv (kinV l))]) (fun _ => []) (fun i => i ≤ (upAt l n).length ∧ fstI (posAt l) ((upAt l n).drop i) = fstI (posAt l) (upAt l n)) (fun i => (upAt l n).length - i) 0 (by simp) (by rw [up_zero hs]; exact ent_env (by simp [lk])) (fun i hi' K' hN hX hR => ?_)
        obtain ⟨hi1, hi2⟩ := hi'
        simp -implicitDefEqProofs only [go_sem, ↓reduceIte, Nat.reduceEqDiff, Nat.reduceAdd, Nat.reduceSub, Nat.reduceMul, Nat.reduceLeDiff, Nat.reduceLT, reduceCtorEq, Int.reduceToNat, atI_ne]
        refine cdS (fun hg => ?_) (fun hg => ?_)
        · have hil : i < (upAt l n).length := of_decide_eq_true hg
          have hp := sp_Positioned l (atI (upAt l n) i)
          have hnx := up_next hs n hil
          have hcall := sp_Parent l (atI (upAt l n) i)
          rw [hnx] at hcall
          cases hb : posAt l (atI (upAt l n) i) with
          | true =>
            rw [hb] at hp
            have hcall17 := hp; have hcall18 := hcall; repeat' (first | (simp -implicitDefEqProofs only [go_sem, ↓reduceIte, Nat.reduceEqDiff, Nat.reduceAdd, Nat.reduceSub, Nat.reduceMul, Nat.reduceLeDiff, Nat.reduceLT, reduceCtorEq, Int.reduceToNat]) | (with_reducible refine g_noent ?_) | (with_reducible refine g_call0 hcall17 ?_) | (with_reducible refine g_calld0 hcall17 ?_) | (with_reducible refine g_call0 hcall18 ?_) | (with_reducible refine g_calld0 hcall18 ?_) | (refine cdS (fun hg => ?_) (fun hg => ?_) <;> try simp -implicitDefEqProofs only [hg, Bool.not_true, Bool.not_false]) | (refine gdS (fun hg => ?_) (fun hg => ?_) <;> try simp -implicitDefEqProofs only [hg, Bool.not_true, Bool.not_false]) | (refine gddS (fun hg => ?_) (fun hg => ?_) <;> try simp -implicitDefEqProofs only [hg, Bool.not_true, Bool.not_false]) | ((with_reducible apply And.intro); focus (first | trivial | omega | decide | (simp -implicitDefEqProofs only [maxLen]; omega) | (simp [maxLen, sty_len, nd_len, ndL_len, lnL_len, intsL_len, rvs_len, lensS_len]; done) | (simp [maxLen, sty_len, nd_len, ndL_len, lnL_len, intsL_len, rvs_len, lensS_len]; omega))) | fail)
            refine hR _ _ (hK _ _ (ret_t ?_)).2
            rw [fst_hit hil hi2 hb]; simp [lk]
          | false =>
            rw [hb] at hp
            have hcall19 := hp; have hcall20 := hcall; repeat' (first | (simp -implicitDefEqProofs only [go_sem, ↓reduceIte, Nat.reduceEqDiff, Nat.reduceAdd, Nat.reduceSub, Nat.reduceMul, Nat.reduceLeDiff, Nat.reduceLT, reduceCtorEq, Int.reduceToNat]) | (with_reducible refine g_noent ?_) | (with_reducible refine g_call0 hcall19 ?_) | (with_reducible refine g_calld0 hcall19 ?_) | (with_reducible refine g_call0 hcall20 ?_) | (with_reducible refine g_calld0 hcall20 ?_) | (refine cdS (fun hg => ?_) (fun hg => ?_) <;> try simp -implicitDefEqProofs only [hg, Bool.not_true, Bool.not_false]) | (refine gdS (fun hg => ?_) (fun hg => ?_) <;> try simp -implicitDefEqProofs only [hg, Bool.not_true, Bool.not_false]) | (refine gddS (fun hg => ?_) (fun hg => ?_) <;> try simp -implicitDefEqProofs only [hg, Bool.not_true, Bool.not_false]) | ((with_reducible apply And.intro); focus (first | trivial | omega | decide | (simp -implicitDefEqProofs only [maxLen]; omega) | (simp [maxLen, sty_len, nd_len, ndL_len, lnL_len, intsL_len, rvs_len, lensS_len]; done) | (simp [maxLen, sty_len, nd_len, ndL_len, lnL_len, intsL_len, rvs_len, lensS_len]; omega))) | fail)
            exact hN (i + 1) _ _ ⟨by omega, fst_miss hil hi2 hb⟩ (by omega) (ent_env (by simp [lk]))
        · have hil : ¬ i < (upAt l n).length := of_decide_eq_false hg
          simp -implicitDefEqProofs only [go_sem, ↓reduceIte, Nat.reduceEqDiff, Nat.reduceAdd, Nat.reduceSub, Nat.reduceMul, Nat.reduceLeDiff, Nat.reduceLT, reduceCtorEq, Int.reduceToNat]
          refine hX _ _ _ ?_
          repeat' (first | (simp -implicitDefEqProofs only [go_sem, ↓reduceIte, Nat.reduceEqDiff, Nat.reduceAdd, Nat.reduceSub, Nat.reduceMul, Nat.reduceLeDiff, Nat.reduceLT, reduceCtorEq, Int.reduceToNat]) | (with_reducible refine g_noent ?_) | (refine cdS (fun hg => ?_) (fun hg => ?_) <;> try simp -implicitDefEqProofs only [hg, Bool.not_true, Bool.not_false]) | (refine gdS (fun hg => ?_) (fun hg => ?_) <;> try simp -implicitDefEqProofs only [hg, Bool.not_true, Bool.not_false]) | (refine gddS (fun hg => ?_) (fun hg => ?_) <;> try simp -implicitDefEqProofs only [hg, Bool.not_true, Bool.not_false]) | ((with_reducible apply And.intro); focus (first | trivial | omega | decide | (simp -implicitDefEqProofs only [maxLen]; omega) | (simp [maxLen, sty_len, nd_len, ndL_len, lnL_len, intsL_len, rvs_len, lensS_len]; done) | (simp [maxLen, sty_len, nd_len, ndL_len, lnL_len, intsL_len, rvs_len, lensS_len]; omega))) | fail)
          refine (hK _ _ (ret_t ?_)).2
          rw [fst_end (by omega) hi2]; simp [lk]

end Go.Eng


/- clip: what clips each box, in plain terms. -/
namespace Go.Eng
open Go

def nzR (r : Rc) : Rc := if emptyR r = true then zeroR else r
/-- The view. -/
def viewR (w h : Int) : Rc := ⟨0, 0, w, h⟩
def vwR (w h : Int) : Rc := mtR (viewR w h) (viewR w h)
def clipStep (l : List Nd) (bx : List Bx) (v : Rc) (out : List Rc) (n : Nat) : Rc :=
  if madeAt l n = false then zeroR else if holdAt l n = -1 then v else
    if (styAt l (holdAt l n)).clip = true then mtR (out.getD (holdAt l n).toNat zeroR) (padsR (bx.getD (holdAt l n).toNat default)) else out.getD (holdAt l n).toNat zeroR
/-- What clips the first k. -/
def clipTo (l : List Nd) (bx : List Bx) (v : Rc) : Nat → List Rc
  | 0 => []
  | k + 1 => clipTo l bx v k ++ [clipStep l bx v (clipTo l bx v k) k]
theorem clipTo_len (l : List Nd) (bx : List Bx) (v : Rc) : ∀ k, (clipTo l bx v k).length = k
  | 0 => rfl
  | k + 1 => by simp [clipTo, clipTo_len l bx v k]
theorem clipTo_at (l : List Nd) (bx : List Bx) (v : Rc) {j : Nat} : ∀ k, j < k → (clipTo l bx v k).getD j zeroR = clipStep l bx v (clipTo l bx v j) j
  | 0, h => by omega
  | k + 1, h => by
    rw [clipTo, List.getD_eq_getElem?_getD]
    by_cases hj : j < k
    · rw [List.getElem?_append_left (by rw [clipTo_len]; exact hj), ← List.getD_eq_getElem?_getD]
      exact clipTo_at l bx v k hj
    · obtain rfl : j = k := by omega
      rw [List.getElem?_append_right (by rw [clipTo_len]; omega), clipTo_len]
      simp
/-- The row while the first k are there. -/
def rowTo (l : List Nd) (bx : List Bx) (v : Rc) (n k : Nat) : List Rc := clipTo l bx v k ++ List.replicate (n - k) zeroR
theorem rowTo_len (l : List Nd) (bx : List Bx) (v : Rc) {n k : Nat} (h : k ≤ n) : (rowTo l bx v n k).length = n := by
  simp [rowTo, clipTo_len]; omega
theorem rowTo_zero (l : List Nd) (bx : List Bx) (v : Rc) {n : Nat} : List.replicate n zeroR = rowTo l bx v n 0 := by simp [rowTo, clipTo]
theorem rowTo_full (l : List Nd) (bx : List Bx) (v : Rc) {n : Nat} : rowTo l bx v n n = clipTo l bx v n := by simp [rowTo]
theorem rowTo_at (l : List Nd) (bx : List Bx) (v : Rc) {n k j : Nat} (h : j < k) : (rowTo l bx v n k).getD j zeroR = (clipTo l bx v k).getD j zeroR := by
  rw [List.getD_eq_getElem?_getD, List.getD_eq_getElem?_getD, rowTo, List.getElem?_append_left (by rw [clipTo_len]; exact h)]
theorem rowTo_set (l : List Nd) (bx : List Bx) (v : Rc) {n k : Nat} (h : k < n) {x : Rc} (hx : x = clipStep l bx v (clipTo l bx v k) k) : (rowTo l bx v n k).set k x = rowTo l bx v n (k + 1) := by
  subst hx
  obtain ⟨m, rfl⟩ : ∃ m, n = k + (m + 1) := ⟨n - k - 1, by omega⟩
  have e1 : k + (m + 1) - k = m + 1 := by omega
  have e2 : k + (m + 1) - (k + 1) = m := by omega
  simp -implicitDefEqProofs only [rowTo, e1, e2, clipTo, List.replicate_succ]
  rw [List.set_append_right _ _ (by rw [clipTo_len]; exact Nat.le_refl _), clipTo_len]
  simp
theorem rowTo_skip (l : List Nd) (bx : List Bx) (v : Rc) {n k : Nat} (h : k < n) (hx : clipStep l bx v (clipTo l bx v k) k = zeroR) : rowTo l bx v n (k + 1) = rowTo l bx v n k := by
  obtain ⟨m, rfl⟩ : ∃ m, n = k + (m + 1) := ⟨n - k - 1, by omega⟩
  have e1 : k + (m + 1) - k = m + 1 := by omega
  have e2 : k + (m + 1) - (k + 1) = m := by omega
  simp -implicitDefEqProofs only [rowTo, e1, e2, clipTo, List.replicate_succ, hx, List.append_assoc, List.singleton_append]

theorem cl_up_lt {l : List Nd} {k x : Nat} (h : x ∈ upAt l k) : x < k := by
  unfold upAt at h
  split at h
  · simp -implicitDefEqProofs only [Int.toNat_natCast] at h
    by_cases hp : 0 ≤ parL l k ∧ parL l k < k
    · rw [pth_cons hp] at h
      simp -implicitDefEqProofs only [List.drop_succ_cons, List.drop_zero] at h
      have := pth_le _ _ h
      omega
    · rw [pth_one hp] at h; simp at h
  · simp at h
/-- A holder is ahead and generates a box. -/
theorem hold_nat {l : List Nd} (hs : Shp l) {n : Nat} (hm : madeAt l n = true) : holdAt l n = -1 ∨ ∃ p : Nat, holdAt l n = p ∧ p < n ∧ p < l.length ∧ madeAt l p = true := by
  have hn : n < l.length := by simp [madeAt, inL] at hm; exact hm.1
  have key : ∀ i, i < (upAt l n).length → ∃ p : Nat, atI (upAt l n) i = p ∧ p < n ∧ p < l.length ∧ madeAt l p = true := fun i hi => by
    have h1 := up_made hs hm hi
    rw [atI_lt hi] at h1
    have h2 := cl_up_lt (List.getElem_mem hi)
    exact ⟨_, atI_lt hi, h2, by omega, h1⟩
  by_cases h1 : holdAt l n = -1
  · exact .inl h1
  · right
    cases ho : outAt l n with
    | false =>
      have hv : holdAt l n = atI (upAt l n) 0 := by simp [holdAt, hm, ho, up_zero hs]
      rw [hv] at h1 ⊢
      refine key 0 ?_
      apply Classical.byContradiction
      intro h
      exact h1 (atI_ge (by omega))
    | true =>
      by_cases h3 : (styAt l n).position = 3
      · exact absurd (by simp [holdAt, hm, ho, h3]) h1
      · have hv : holdAt l n = fstI (posAt l) (upAt l n) := by simp [holdAt, hm, ho, h3]
        rcases fst_cases (posAt l) (upAt l n) with ⟨h, _⟩ | ⟨i, hi, h, hp, hj⟩
        · exact absurd (hv.trans h) h1
        · rw [hv, h, ← atI_lt hi]
          exact key i hi

/-- What clips what is held by h. -/
def clAt (l : List Nd) (bx : List Bx) (v : Rc) (h : Int) : Rc :=
  if h = -1 then v else if (styAt l h).clip = true then mtR ((clipTo l bx v l.length).getD h.toNat zeroR) (padsR (bx.getD h.toNat default)) else (clipTo l bx v l.length).getD h.toNat zeroR
theorem clip_made {l : List Nd} (hs : Shp l) (bx : List Bx) (v : Rc) {n : Nat} (hm : madeAt l n = true) : clipStep l bx v (clipTo l bx v n) n = clAt l bx v (holdAt l n) := by
  rcases hold_nat hs hm with h | ⟨p, h, h1, h2, h3⟩
  · simp [clipStep, clAt, hm, h]
  · have e : ((p : Int) = -1) = False := by simp
    simp -implicitDefEqProofs only [clipStep, clAt, hm, h, e, if_false, Int.toNat_natCast, clipTo_at l bx v _ h1, clipTo_at l bx v _ h2, Bool.true_eq_false]
theorem clip_full {l : List Nd} (hs : Shp l) (bx : List Bx) (v : Rc) {n : Nat} (hm : madeAt l n = true) : (clipTo l bx v l.length).getD n zeroR = clAt l bx v (holdAt l n) := by
  have hn : n < l.length := by simp [madeAt, inL] at hm; exact hm.1
  rw [clipTo_at l bx v _ hn, clip_made hs bx v hm]
end Go.Eng


/- clip: what the functions tell. -/
namespace Go.Eng
open Go
/- decoupage/clip.Clips -/
def c_clip_Clips : AC := (.seq (.reg [⟨(some 5), .box, [(.t 2)], none⟩, ⟨(some 6), .mv, [(.c (.rv .nilsl))], none⟩]) (.seq (.seq (.reg [⟨(some 10), .mv, [(.t 1)], none⟩, ⟨(some 11), .len, [(.t 10)], none⟩, ⟨(some 12), .mv, [(.t 0)], none⟩, ⟨(some 13), (.call 48), [(.t 12)], none⟩, ⟨(some 14), (.ibin .neq), [(.t 11), (.t 13)], none⟩]) (.cond (.t 14) (.seq (.reg [⟨(some 6), .mv, [(.c (.rv .nilsl))], none⟩]) .ret) .skip)) (.seq (.reg [⟨(some 15), .mv, [(.t 1)], none⟩, ⟨(some 16), .len, [(.t 15)], none⟩, ⟨(some 17), (.mksl 4 32 [(.int .i64 0), (.int .i64 0), (.int .i64 0), (.int .i64 0)]), [(.t 16), (.t 16)], none⟩, ⟨(some 7), .mv, [(.t 17)], none⟩]) (.seq (.seq (.reg [⟨(some 18), .mv, [(.t 7)], none⟩, ⟨(some 19), .len, [(.t 18)], none⟩, ⟨(some 20), .mv, [(.c (.rv (.int .i64 0)))], none⟩]) (.seq (.block 0 (.loop (.seq (.reg [⟨(some 21), (.ibin .lss), [(.t 20), (.t 19)], none⟩]) (.seq (.cond (.t 21) .skip (.exit 0)) (.seq (.seq (.block 1 (.seq (.reg [⟨(some 22), .mv, [(.t 20)], none⟩, ⟨(some 8), .mv, [(.t 22)], none⟩]) (.seq (.seq (.reg [⟨(some 23), .mv, [(.t 0)], none⟩, ⟨(some 24), .mv, [(.t 8)], none⟩, ⟨(some 25), (.call 21), [(.t 23), (.t 24)], none⟩, ⟨(some 26), .not, [(.t 25)], none⟩]) (.cond (.t 26) (.exit 1) .skip)) (.seq (.reg [⟨(some 27), .mv, [(.t 0)], none⟩, ⟨(some 28), .mv, [(.t 8)], none⟩, ⟨(some 29), (.call 49), [(.t 27), (.t 28)], none⟩, ⟨(some 9), .mv, [(.t 29)], none⟩]) (.seq (.seq (.reg [⟨(some 30), .mv, [(.t 9)], none⟩, ⟨(some 31), (.ibin .eql), [(.t 30), (.c (.rv (.int .i64 (-1))))], none⟩]) (.cond (.t 31) (.seq (.reg [⟨(some 32), .mv, [(.t 7)], none⟩, ⟨(some 33), .mv, [(.t 8)], none⟩, ⟨(some 34), (.fld 0), [(.t 5)], none⟩, ⟨(some 35), (.load 1 false), [(.t 34)], none⟩, ⟨(some 36), (.fld 1), [(.t 5)], none⟩, ⟨(some 37), (.load 1 false), [(.t 36)], none⟩, ⟨(some 38), (.build [(.int .i64 0), (.int .i64 0), (.int .i64 0), (.int .i64 0)] [(2, 1), (3, 1)]), [(.t 35), (.t 37)], none⟩, ⟨(some 39), (.fld 0), [(.t 5)], none⟩, ⟨(some 40), (.load 1 false), [(.t 39)], none⟩, ⟨(some 41), (.fld 1), [(.t 5)], none⟩, ⟨(some 42), (.load 1 false), [(.t 41)], none⟩, ⟨(some 43), (.build [(.int .i64 0), (.int .i64 0), (.int .i64 0), (.int .i64 0)] [(2, 1), (3, 1)]), [(.t 40), (.t 42)], none⟩, ⟨(some 44), (.call 50), [(.t 38), (.t 43)], none⟩, ⟨(some 45), (.ixs 4), [(.t 32), (.t 33)], none⟩, ⟨none, (.store 4), [(.t 45), (.t 44)], none⟩]) (.exit 1)) .skip)) (.seq (.reg [⟨(some 46), .mv, [(.t 7)], none⟩, ⟨(some 47), .mv, [(.t 8)], none⟩, ⟨(some 48), .mv, [(.t 7)], none⟩, ⟨(some 49), .mv, [(.t 9)], none⟩, ⟨(some 50), (.ixs 4), [(.t 48), (.t 49)], none⟩, ⟨(some 51), (.load 4 true), [(.t 50)], none⟩, ⟨(some 52), (.ixs 4), [(.t 46), (.t 47)], none⟩, ⟨none, (.store 4), [(.t 52), (.t 51)], none⟩]) (.seq (.reg [⟨(some 53), .mv, [(.t 0)], none⟩, ⟨(some 54), .mv, [(.t 9)], none⟩, ⟨(some 55), (.call 51), [(.t 53), (.t 54)], none⟩, ⟨(some 56), (.fldv 45 1 false), [(.t 55)], none⟩]) (.seq (.cond (.t 56) (.regd [0, 0, 0, 0, 12, 28, 0, 0, 192, 448, 960, 2044, 4095, 8191] [⟨(some 57), .mv, [(.t 7)], none⟩, ⟨(some 58), .mv, [(.t 8)], none⟩, ⟨(some 59), .mv, [(.t 7)], none⟩, ⟨(some 60), .mv, [(.t 9)], none⟩, ⟨(some 61), (.ixs 4), [(.t 59), (.t 60)], none⟩, ⟨(some 62), (.load 4 true), [(.t 61)], none⟩, ⟨(some 63), .mv, [(.t 1)], none⟩, ⟨(some 64), .mv, [(.t 9)], none⟩, ⟨(some 65), (.ixs 21), [(.t 63), (.t 64)], none⟩, ⟨(some 66), (.load 21 true), [(.t 65)], none⟩, ⟨(some 67), (.call 52), [(.t 66)], none⟩, ⟨(some 68), (.call 50), [(.t 62), (.t 67)], none⟩, ⟨(some 69), (.ixs 4), [(.t 57), (.t 58)], none⟩, ⟨none, (.store 4), [(.t 69), (.t 68)], none⟩]) .skip) .ent)))))))) .ent) (.reg [⟨(some 70), (.ibin .add), [(.t 20), (.c (.rv (.int .i64 1)))], none⟩, ⟨(some 20), .mv, [(.t 70)], none⟩])))))) .ent)) (.seq (.reg [⟨(some 71), .mv, [(.t 7)], none⟩, ⟨(some 6), .mv, [(.t 71)], none⟩]) .ret)))))
theorem k_clip_Clips : FnOK Go.Proofs.Try.prog 19 72 c_clip_Clips [(.t 6)] := fnOK_of (by kernel_rfl)

def numsV (b : Bx) : List SV := b.nums.map fun n => .rv (.int .i64 n)
def fewN (n : Int) : Bool := !(decide (n < -1125899906842624) || decide (n > 1125899906842624))
theorem rc_tk (x : Rc) : x.cells.take 4 = x.cells := rfl
theorem rc_tkm (x : Rc) : (x.cells.map SV.rv).take 4 = x.cells.map SV.rv := rfl
theorem rc_mlen (x : Rc) : (x.cells.map SV.rv).length = 4 := rfl
theorem rc_dr (x : Rc) : (x.cells.map SV.rv).drop 4 = [] := rfl
theorem rc_eqs (x : Rc) : cellsEq [.i, .i, .i, .i] (x.cells.map SV.rv) (x.cells.map SV.rv) = some (True, true) := by
  have : some ((IntKind.i64 = IntKind.i64) ∧ (IntKind.i64 = IntKind.i64) ∧ (IntKind.i64 = IntKind.i64) ∧ (IntKind.i64 = IntKind.i64) ∧ True, (x.x0 == x.x0) && ((x.y0 == x.y0) && ((x.x1 == x.x1) && ((x.y1 == x.y1) && true)))) = some (True, true) := by simp
  exact this
theorem rc_rep {n : Nat} : List.replicate n [SV.rv (.int .i64 0), SV.rv (.int .i64 0), SV.rv (.int .i64 0), SV.rv (.int .i64 0)] = rvs (rcL (List.replicate n zeroR)) := by simp [rvs, rcL, Rc.cells, zeroR]
theorem rcL_getD {l : List Rc} {i : Nat} (h : i < l.length) : (rcL l)[i]?.getD [] = (l.getD i zeroR).cells := by simp [rcL, h]
end Go.Eng


/- clip: what the document's function tells. -/
namespace Go.Eng
open Go

end Go.Eng


/- kin: of a list that is the caller's own. -/
namespace Go.Eng
open Go

theorem flat_cells (s : Sty) : ∀ r ∈ s.cells, FlatR r := by
  intro r hr
  simp -implicitDefEqProofs only [Sty.cells, List.mem_cons, List.not_mem_nil, or_false] at hr
  repeat' rcases hr with rfl | hr
  all_goals first | exact .int _ _ | exact .bool _ | (subst hr; exact .int _ _)
theorem flat_nd (x : Nd) : ∀ r ∈ x.cells, FlatR r := by
  intro r hr
  rcases List.mem_append.1 hr with hr | hr
  · exact flat_cells _ r hr
  · simp at hr; rw [hr]; exact .int _ _
theorem flatH_rvs {e v : Nat} {xs : List (List RV)} (h : ∀ x ∈ xs, ∀ r ∈ x, FlatR r) : FlatH (.row e v (rvs xs)) := by
  refine .row _ _ _ (fun i x j y hx hy => ?_)
  unfold rvs at hx
  rw [List.getElem?_map] at hx
  cases hq : xs[i]? with
  | none => simp [hq] at hx
  | some z =>
    simp [hq] at hx
    subst hx
    rw [List.getElem?_map] at hy
    cases hr : z[j]? with
    | none => simp [hr] at hy
    | some r => simp [hr] at hy; subst hy; exact .rv _ (h z (List.mem_of_getElem? hq) r (List.mem_of_getElem? hr))
theorem sp_Clone_NodeR (l : List Nd) (hb : l.length ≤ 8589934592) (i v m : Nat) (hne : i ≠ m) : CallR Go.Proofs.Try.prog 47 [.row i v l.length] [(i, .row 49 v (rvs (ndL l)))] [(m, .row 49 1 (rvs (ndL l)))] (.row m 1 l.length) := by
  have h := sp_Clone_Node (ndL l) m (by rw [ndL_len]; exact hb)
  rw [ndL_len] at h
  refine callR_lend (rs := [.sl 49 (ndL l)]) h (fun hp hpre => ⟨?_, trivial⟩) rfl (.row _ _ _) (fun q hq => ?_)
  · exact fz_rows (hpre _ (.head _)) rfl (by simp [ndL]) (ndL_one l)
  · simp at hq; subst hq
    refine ⟨flatH_rvs fun x hx => ?_, by simpa using hne⟩
    obtain ⟨n, _, rfl⟩ := List.mem_map.1 hx
    exact flat_nd n

theorem nd_sv49m (x : Nd) : (x.cells.map SV.rv).take 49 = x.cells.map SV.rv := rfl
def kTabR (l : List Nd) (k : Nat) : List (List SV) := (List.range l.length).map fun p => [.row (p + 7) (kidsTo l k p).length (kidsTo l k p).length]
def kRowsR (l : List Nd) (k : Nat) : List (Option HB) := (List.range l.length).map fun p => some (.row 1 (kidsTo l k p).length (rvs (intsL (natsI (kidsTo l k p)))))
theorem kTab_lenR (l : List Nd) (k : Nat) : (kTabR l k).length = l.length := by simp [kTabR]
theorem kRows_lenR (l : List Nd) (k : Nat) : (kRowsR l k).length = l.length := by simp [kRowsR]
theorem kTab_getR {l : List Nd} {k p : Nat} (hp : p < l.length) : (kTabR l k)[p]?.getD [] = [.row (p + 7) (kidsTo l k p).length (kidsTo l k p).length] := by simp [kTabR, hp]
theorem kRows_getR {l : List Nd} {k p : Nat} {C : List (Option HB)} (hp : p < l.length) : hget (kRowsR l k ++ C) p = some (.row 1 (kidsTo l k p).length (rvs (intsL (natsI (kidsTo l k p))))) := by
  unfold hget
  rw [List.getElem?_append_left (by rw [kRows_lenR]; exact hp)]
  simp [kRowsR, hp]
theorem kRows_endR {l : List Nd} {k : Nat} {x : Option HB} {C : List (Option HB)} : hget (kRowsR l k ++ x :: C) l.length = x := by
  unfold hget
  rw [List.getElem?_append_right (by rw [kRows_lenR]; exact Nat.le_refl _), kRows_lenR]
  simp
theorem kRows_end1R {l : List Nd} {k : Nat} {x y : Option HB} {C : List (Option HB)} : hget (kRowsR l k ++ x :: y :: C) (l.length + 1) = y := by
  unfold hget
  rw [List.getElem?_append_right (by rw [kRows_lenR]; omega), kRows_lenR, show l.length + 1 - l.length = 1 by omega]
  simp
theorem kRows_end2R {l : List Nd} {k p : Nat} {hb : Option HB} {x y : Option HB} {C : List (Option HB)} : hget ((kRowsR l k).set p hb ++ x :: C) l.length = x := by
  unfold hget
  rw [List.getElem?_append_right (by rw [List.length_set, kRows_lenR]; exact Nat.le_refl _), List.length_set, kRows_lenR]
  simp
theorem kRows_setER {l : List Nd} {k : Nat} {x y : Option HB} {C : List (Option HB)} : (kRowsR l k ++ x :: C).set l.length y = kRowsR l k ++ y :: C := by
  rw [List.set_append_right _ _ (by rw [kRows_lenR]; exact Nat.le_refl _), kRows_lenR, Nat.sub_self]; rfl
theorem kRows_setPR {l : List Nd} {k p : Nat} {y : Option HB} {C : List (Option HB)} (hp : p < l.length) : (kRowsR l k ++ C).set p y = (kRowsR l k).set p y ++ C := by
  rw [List.set_append_left _ _ (by rw [kRows_lenR]; exact hp)]
theorem kRows_zeroR (l : List Nd) : kRowsR l 0 = ghRows l.length 1 := by
  refine List.ext_getElem (by simp [kRowsR, ghRows]) (fun i h1 h2 => ?_)
  simp [kRowsR, ghRows, kidsTo_zero, natsI, intsL, rvs]
theorem kTab_zeroR (l : List Nd) : kTabR l 0 = ghTab 7 l.length l.length := by
  refine List.ext_getElem (by simp [kTabR, ghTab]) (fun i h1 h2 => ?_)
  simp [kTabR] at h1
  simp [kTabR, ghTab, kidsTo_zero, h1]; omega
theorem kRows_nextR {l : List Nd} {k p : Nat} (h0 : 0 < k) (hp : parL l k = p) (hl : p < l.length) :
    (kRowsR l k).set p (some (.row 1 ((kidsTo l k p).length + 1) (rvs (intsL (natsI (kidsTo l k p) ++ [(k : Int)]))))) = kRowsR l (k + 1) := by
  refine List.ext_getElem (by simp [kRowsR]) (fun i h1 h2 => ?_)
  simp -implicitDefEqProofs only [List.getElem_set, kRowsR, List.getElem_map, List.getElem_range, kidsTo_succ]
  by_cases h : p = i
  · subst h; simp [h0, hp, natsI]
  · rw [if_neg h, if_neg (by rw [hp]; omega)]; simp
theorem kTab_nextR {l : List Nd} {k p : Nat} (h0 : 0 < k) (hp : parL l k = p) (hl : p < l.length) :
    (kTabR l k).set p [.row (p + 7) ((kidsTo l k p).length + 1) ((kidsTo l k p).length + 1)] = kTabR l (k + 1) := by
  refine List.ext_getElem (by simp [kTabR]) (fun i h1 h2 => ?_)
  simp -implicitDefEqProofs only [List.getElem_set, kTabR, List.getElem_map, List.getElem_range, kidsTo_succ]
  by_cases h : p = i
  · subst h; simp [h0, hp]
  · rw [if_neg h, if_neg (by rw [hp]; omega)]; simp
theorem kRows_firstR (l : List Nd) : kRowsR l 1 = kRowsR l 0 := by
  refine List.ext_getElem (by simp [kRowsR]) (fun i h1 h2 => ?_)
  simp [kRowsR, kidsTo, List.range_succ]
theorem kTab_firstR (l : List Nd) : kTabR l 1 = kTabR l 0 := by
  refine List.ext_getElem (by simp [kTabR]) (fun i h1 h2 => ?_)
  simp [kTabR, kidsTo, List.range_succ]

def kHeapR (v : Nat) (l : List Nd) (k : Nat) (es ds : List Int) (bs : List Bool) : List (Option HB) := some (.row 49 v (rvs (ndL l))) :: some (.row 49 1 (rvs (ndL l))) :: some (.row 1 0 (kTabR l k)) :: some (.row 1 0 (rvs (intsL es))) :: some (.row 1 0 (rvs (intsL ds))) :: some (.row 1 0 (rvs (boolL bs))) :: some (.var [.row 1 1 l.length, .row 2 0 l.length, .row 3 0 l.length, .row 4 0 l.length, .row 5 0 l.length]) :: kRowsR l k
theorem kHeap_lenR {v : Nat} {l : List Nd} {k : Nat} {es ds : List Int} {bs : List Bool} : (kHeapR v l k es ds bs).length = l.length + 7 := by simp [kHeapR, kRows_lenR]
theorem kHeap_clR {v : Nat} {l : List Nd} {k : Nat} {es ds : List Int} {bs : List Bool} : AllSome (ClH (l.length + 7)) (kHeapR v l k es ds bs) := by
  refine ⟨clH_rvs, clH_rvs, fun i x hx => ?_, clH_rvs, clH_rvs, clH_rvs, by simp [ClH, ClA, clS_row], AllSome.of fun j x hx => ?_⟩
  · obtain ⟨hl, rfl⟩ := List.getElem?_eq_some_iff.1 hx
    simp [kTab_lenR] at hl
    simp [kTabR, ClA, clS_row, hl]
  · obtain ⟨hl, rfl⟩ := List.getElem?_eq_some_iff.1 hx
    exact ⟨.row 1 (kidsTo l k j).length (rvs (intsL (natsI (kidsTo l k j)))), by simp [kRowsR], clH_rvs⟩
theorem kHeap_tailR {v : Nat} {l : List Nd} {k : Nat} {es ds : List Int} {bs : List Bool} {env env' : List (Nat × SV)} {C : List (Option HB)} (he : ClEnv (l.length + 7) env env') : Ent 1 ⟨env, kHeapR v l k es ds bs ++ C⟩ ⟨env', kHeapR v l k es ds bs⟩ :=
  ent_tail (by rw [kHeap_lenR]; omega) (by rw [kHeap_lenR]; exact kHeap_clR) (by rw [kHeap_lenR]; exact he)

theorem kin_fzR (v : Nat) (l : List Nd) {τ : Nat → Option Nat} (hτ : ∀ j, 0 < j → τ j = none) : Fz τ (hget (kHeapR v l l.length (endsL l) (depTo l l.length) (madeTo l l.length))) (.ptr 6 0) (kinV l) := by
  refine .ptr 6 [.row 1 1 l.length, .row 2 0 l.length, .row 3 0 l.length, .row 4 0 l.length, .row 5 0 l.length] _ (hτ _ (by decide)) rfl rfl (fun i r hr => ?_) (fun i x r hx hr => ?_)
  · match i with
    | 0 => cases hr; rfl
    | 1 => cases hr; rfl
    | 2 => cases hr; rfl
    | 3 => cases hr; rfl
    | 4 => cases hr; rfl
    | i + 5 => simp at hr
  · match i with
    | 0 => cases hx; cases hr; exact fz_rows rfl (hτ _ (by decide)) (by simp [ndL]) (ndL_one l)
    | 1 =>
      cases hx; cases hr
      refine .row 2 1 0 l.length (kTabR l l.length) (kidsL l) (hτ _ (by decide)) rfl (by simp [kidsL]) (by rw [kTab_lenR]; exact Nat.le_refl _) (fun i x r hx hr => ?_) (fun i r k q hr hq => ?_) (fun i x r k y q hx hr hy hq => ?_)
      · obtain ⟨_, rfl⟩ := List.getElem?_eq_some_iff.1 hx
        obtain ⟨_, rfl⟩ := List.getElem?_eq_some_iff.1 hr
        simp [kTabR, kidsL]
      · obtain ⟨_, rfl⟩ := List.getElem?_eq_some_iff.1 hr
        have := List.mem_of_getElem? hq
        simp [kidsL] at this
        rw [this]; rfl
      · obtain ⟨hl, rfl⟩ := List.getElem?_eq_some_iff.1 hx
        obtain ⟨_, rfl⟩ := List.getElem?_eq_some_iff.1 hr
        rw [kTab_lenR] at hl
        cases k with
        | succ k => simp [kTabR] at hy
        | zero =>
          simp [kTabR] at hy
          simp [kidsL] at hq
          subst hy; subst hq
          refine fz_rows (xs := intsL (natsI (kidsOf l i))) ?_ (hτ _ (by omega)) (by simp [intsL, natsI, kidsOf]) (intsL_one _)
          have := kRows_getR (k := l.length) (C := []) hl
          rw [List.append_nil] at this
          exact this
    | 2 => cases hx; cases hr; exact fz_rows rfl (hτ _ (by decide)) (by simp [intsL, endsL]) (intsL_one _)
    | 3 => cases hx; cases hr; exact fz_rows rfl (hτ _ (by decide)) (by simp [intsL, depTo]) (intsL_one _)
    | 4 => cases hx; cases hr; exact fz_rows rfl (hτ _ (by decide)) (by simp [boolL, madeTo]) (boolL_one _)
    | i + 5 => simp at hx

set_option maxRecDepth 20000 in
set_option maxHeartbeats 8000000 in
theorem sp_kin_OfR (l : List Nd) (hb : l.length ≤ 8589934592) (hc : chk l = 0) (i0 v : Nat) : CallR Go.Proofs.Try.prog 17 [.row i0 v l.length] [(i0, .row 49 v (rvs (ndL l)))] [] (.tup [.rv (kinV l), .rv (.int .i64 0)]) := by
  refine callR_M k_kin_Of [i0] [.row 49 v (rvs (ndL l))] [.row 49 v (rvs (ndL l))] [.row 0 v l.length] [.row i0 v l.length] _ _ (by simp) (by simp [BkAll, bk_row]) rfl (by simp [nodupL]) ⟨rfl, rfl, ⟨rfl, _, rfl⟩, trivial⟩ (fun K hK => ?_)
  have hlen := ndL_len l
  have hck0 := sp_tree_Check l hb
  rw [hc] at hck0
  have hck := lend1 (id := 0) (v := v) (n := l.length) (bs := []) hck0 (.int _ _) (by simp [ndL]) (ndL_one l)
  have ht : treeOK l = true := by
    unfold chk at hc
    cases h : treeOK l with
    | true => rfl
    | false => rw [h] at hc; simp at hc
  have hs : Shp l := shape_iff.1 (by unfold treeOK at ht; simp -implicitDefEqProofs only [Bool.and_eq_true] at ht; exact ht.1)
  have e00 : (((0 : Int)) != 0) = false := rfl
  simp -implicitDefEqProofs only [c_kin_Of, go_sem, ↓reduceIte, Nat.reduceEqDiff, Nat.reduceAdd, Nat.reduceSub, Nat.reduceMul, Nat.reduceLeDiff, Nat.reduceLT, reduceCtorEq, Int.reduceToNat]
  have hb2 : (ndL l).length ≤ 8589934592 := by rw [hlen]; exact hb
  have hcall1 := hck; have hcall2 := sp_Clone_NodeR l hb 0 v 1 (by decide); repeat' (first | (simp -implicitDefEqProofs only [go_sem, ↓reduceIte, Nat.reduceEqDiff, Nat.reduceAdd, Nat.reduceSub, Nat.reduceMul, Nat.reduceLeDiff, Nat.reduceLT, reduceCtorEq, Int.reduceToNat, e00, hlen, rvs_rep1, rvs_repB]) | (with_reducible refine g_noent ?_) | (refine g_call hcall1 (by simp [PreOK, hget]; done) (by simp [okU, uph]; done) ?_) | (refine g_calld hcall1 (by simp [PreOK, hget]; done) (by simp [okU, uph]; done) ?_) | (refine g_call hcall2 (by simp [PreOK, hget]; done) (by simp [okU, uph]; done) ?_) | (refine g_calld hcall2 (by simp [PreOK, hget]; done) (by simp [okU, uph]; done) ?_) | (refine cdS (fun hg => ?_) (fun hg => ?_) <;> try simp -implicitDefEqProofs only [hg, Bool.not_true, Bool.not_false]) | (refine gdS (fun hg => ?_) (fun hg => ?_) <;> try simp -implicitDefEqProofs only [hg, Bool.not_true, Bool.not_false]) | (refine gddS (fun hg => ?_) (fun hg => ?_) <;> try simp -implicitDefEqProofs only [hg, Bool.not_true, Bool.not_false]) | ((with_reducible apply And.intro); focus (first | trivial | omega | decide | (simp -implicitDefEqProofs only [maxLen]; omega) | (simp [maxLen, sty_len, nd_len, ndL_len, lnL_len, intsL_len, rvs_len, lensS_len]; done) | (simp [maxLen, sty_len, nd_len, ndL_len, lnL_len, intsL_len, rvs_len, lensS_len]; omega))) | fail)
  have hkt : ∀ n : Nat, kTabR l 0 = ghTab 7 l.length l.length := fun _ => kTab_zeroR l
  let ev : Nat → List (Nat × SV) := fun k => [(33, .rv (.int .i64 k)), (32, .rv (.int .i64 l.length)), (31, .row 0 v l.length), (5, .ptr 6 0), (0, .row 0 v l.length)]
  refine g_loop (ι := Nat) (fun k => [(33, .rv (.int .i64 k)), (32, .rv (.int .i64 l.length)), (31, .row 0 v l.length), (5, .ptr 6 0), (0, .row 0 v l.length)]) (fun k => some (.row 49 v (rvs (ndL l))) :: some (.row 49 1 (rvs (ndL l))) :: some (.row 1 0 (kTabR l k)) :: some (.row 1 0 (rvs (intsL (List.replicate l.length 0)))) :: some (.row 1 0 (rvs (intsL (depTo l k)))) :: some (.row 1 0 (rvs (boolL (madeTo l k)))) :: some (.var [.row 1 1 l.length, .row 2 0 l.length, .row 3 0 l.length, .row 4 0 l.length, .row 5 0 l.length]) :: kRowsR l k) (fun k => k ≤ l.length) (fun k => l.length - k) 0 (by simp) ?_ (fun k hk K' hN hX hR => ?_)
  · refine (ent_env (env' := [(33, .rv (.int .i64 0)), (32, .rv (.int .i64 l.length)), (31, .row 0 v l.length), (5, .ptr 6 0), (0, .row 0 v l.length)]) (by simp [lk])).trans ?_
    rw [kTab_zeroR, kRows_zeroR, depTo_zero, madeTo_zero]
    exact ent_ghosts (r := 2) (v := 0) (n := l.length) (e := 1) rfl
  simp -implicitDefEqProofs only [go_sem, ↓reduceIte, Nat.reduceEqDiff, Nat.reduceAdd, Nat.reduceSub, Nat.reduceMul, Nat.reduceLeDiff, Nat.reduceLT, reduceCtorEq, Int.reduceToNat]
  refine cdS (fun hg => ?_) (fun hg => ?_)
  · have hk4 : k < l.length := by simp at hg; omega
    have hx := ndL_get hk4
    have krl := kRows_lenR l k
    have hdl := depTo_len l k
    have hdd := intsL_len (depTo l k)
    have hd1 := intsL_getD (l := depTo l k) (i := k) (by omega)
    have hml := madeTo_len l k
    have hmm := boolL_len (madeTo l k)
    have hm1 := boolL_getD (bs := madeTo l k) (i := k) (by omega)
    have hsh := shownL_eq hk4
    have e1 : (l.length = l.length + 1) = False := eq_false (by omega)
    have e2 : (l.length = l.length + 2) = False := eq_false (by omega)
    have hds := depTo_set hk4
    have hds2 := depTo_set2 hk4
    have wu := wrap_up (k := k) (by omega)
    by_cases hk0 : 0 < k
    · have hgt : decide ((k : Int) > 0) = true := decide_eq_true (by omega)
      obtain ⟨p1, p2⟩ := hs.wf.2 k hk0 hk4
      obtain ⟨p, hp⟩ : ∃ p : Nat, parL l k = p := ⟨(parL l k).toNat, by omega⟩
      have hpl : p < l.length := by omega
      have q0 : (p = l.length) = False := eq_false (by omega)
      have q1 : (p = l.length + 1) = False := eq_false (by omega)
      have q2 : (p = l.length + 2) = False := eq_false (by omega)
      have hpk := parL_eq hk4
      have hds3 : (depTo l k).set k 1 = (depTo l k).set k 1 := rfl
      have hdsl : ((depTo l k).set k 1).length = l.length := by simp [hdl]
      have hdsl2 := intsL_len ((depTo l k).set k 1)
      have hdp := intsL_getD (l := (depTo l k).set k 1) (i := p) (by omega)
      have hdk := intsL_getD (l := (depTo l k).set k 1) (i := k) (by omega)
      rw [depTo_get (by omega) (by omega)] at hdp
      have hdep := depth_par hs.wf hk0 hk4
      rw [hp, Int.toNat_natCast] at hdep
      have wd := wrap_up (k := depth l p) (by have := pth_len (l := l) p; unfold depth; omega)
      rw [← hdep] at wd
      obtain ⟨b, hsv⟩ : ∃ b, shownL l k = b := ⟨_, rfl⟩
      have hmp := boolL_getD (bs := (madeTo l k).set k b) (i := p) (by simp [hml]; omega)
      have hmk := boolL_getD (bs := (madeTo l k).set k b) (i := k) (by simp [hml]; omega)
      rw [madeTo_get (by omega) (by omega)] at hmp
      have hmsl : ((madeTo l k).set k b).length = l.length := by simp [hml]
      have hmsl2 := boolL_len ((madeTo l k).set k b)
      have hms : ((madeTo l k).set k b).set k (b && madeS l p) = madeTo l (k + 1) := by
        have := madeS_par hs.wf hk0 hk4
        rw [hp, Int.toNat_natCast, hsv] at this
        rw [List.set_set, ← this, madeTo_set hk4]
      have hktl := kTab_lenR l k
      have hktg := kTab_getR (k := k) hpl
      have hkrg := fun C => kRows_getR (k := k) (C := C) hpl
      have hkn := kRows_nextR hk0 hp hpl
      have htn := kTab_nextR hk0 hp hpl
      have hsp := fun (y : Option HB) C => kRows_setPR (k := k) (y := y) (C := C) hpl
      have hkl : (natsI (kidsTo l k p)).length = (kidsTo l k p).length := by simp [natsI]
      have hkl2 := intsL_len (natsI (kidsTo l k p))
      have htk : (intsL (natsI (kidsTo l k p))).take (kidsTo l k p).length = intsL (natsI (kidsTo l k p)) := List.take_of_length_le (by rw [hkl2, hkl]; exact Nat.le_refl _)
      have hkk := kidsTo_len (l := l) (k := k) (p := p)
      cases b
      all_goals simp -implicitDefEqProofs only [Bool.false_and, Bool.true_and] at hms
      · repeat' (first | (simp -implicitDefEqProofs only [go_sem, ↓reduceIte, Nat.reduceEqDiff, Nat.reduceAdd, Nat.reduceSub, Nat.reduceMul, Nat.reduceLeDiff, Nat.reduceLT, reduceCtorEq, Int.reduceToNat, hlen, hx, krl, nd_len, nd_sv48, nd_sv49m, Nat.add_assoc, kRows_endR, List.append_assoc, hdl, hdd, hd1, hml, hmm, hm1, rvs_set1, rvs_setB, nd_at0, hsh, hsv, e1, e2, kRows_setER, hgt, hpk, hp, nd_atp, hktl, hktg, hkrg, q0, q1, q2, hsp, kRows_end1R, kRows_end2R, hkl, hkl2, htk, rvs_app1, hkn, htn, hdsl, hdsl2, hdp, hdk, wd, hds2, wu, hmp, hmk, hmsl, hmsl2]) | (with_reducible refine g_noent ?_) | (refine cdS (fun hg => ?_) (fun hg => ?_) <;> try simp -implicitDefEqProofs only [hg, Bool.not_true, Bool.not_false]) | (refine gdS (fun hg => ?_) (fun hg => ?_) <;> try simp -implicitDefEqProofs only [hg, Bool.not_true, Bool.not_false]) | (refine gddS (fun hg => ?_) (fun hg => ?_) <;> try simp -implicitDefEqProofs only [hg, Bool.not_true, Bool.not_false]) | ((with_reducible apply And.intro); focus (first | trivial | omega | decide | (simp -implicitDefEqProofs only [maxLen]; omega) | (simp [maxLen, sty_len, nd_len, ndL_len, lnL_len, intsL_len, rvs_len, lensS_len]; done) | (simp [maxLen, sty_len, nd_len, ndL_len, lnL_len, intsL_len, rvs_len, lensS_len]; omega) | (simp (decide := true) [compatB, compatB1, apartT, disj, Nat.testBit, q0, q1, q2]; done))) | fail)
        rw [hms]
        exact hN (k + 1) _ _ (by omega) (by omega) (kHeap_tailR (v := v) (l := l) (k := k + 1) (by simp [ClEnv, lk, clS_rv, clS_ptr, clS_row]))
      · repeat' (first | (simp -implicitDefEqProofs only [go_sem, ↓reduceIte, Nat.reduceEqDiff, Nat.reduceAdd, Nat.reduceSub, Nat.reduceMul, Nat.reduceLeDiff, Nat.reduceLT, reduceCtorEq, Int.reduceToNat, hlen, hx, krl, nd_len, nd_sv48, nd_sv49m, Nat.add_assoc, kRows_endR, List.append_assoc, hdl, hdd, hd1, hml, hmm, hm1, rvs_set1, rvs_setB, nd_at0, hsh, hsv, e1, e2, kRows_setER, hgt, hpk, hp, nd_atp, hktl, hktg, hkrg, q0, q1, q2, hsp, kRows_end1R, kRows_end2R, hkl, hkl2, htk, rvs_app1, hkn, htn, hdsl, hdsl2, hdp, hdk, wd, hds2, wu, hmp, hmk, hmsl, hmsl2]) | (with_reducible refine g_noent ?_) | (refine cdS (fun hg => ?_) (fun hg => ?_) <;> try simp -implicitDefEqProofs only [hg, Bool.not_true, Bool.not_false]) | (refine gdS (fun hg => ?_) (fun hg => ?_) <;> try simp -implicitDefEqProofs only [hg, Bool.not_true, Bool.not_false]) | (refine gddS (fun hg => ?_) (fun hg => ?_) <;> try simp -implicitDefEqProofs only [hg, Bool.not_true, Bool.not_false]) | ((with_reducible apply And.intro); focus (first | trivial | omega | decide | (simp -implicitDefEqProofs only [maxLen]; omega) | (simp [maxLen, sty_len, nd_len, ndL_len, lnL_len, intsL_len, rvs_len, lensS_len]; done) | (simp [maxLen, sty_len, nd_len, ndL_len, lnL_len, intsL_len, rvs_len, lensS_len]; omega) | (simp (decide := true) [compatB, compatB1, apartT, disj, Nat.testBit, q0, q1, q2]; done))) | fail)
        rw [hms]
        exact hN (k + 1) _ _ (by omega) (by omega) (kHeap_tailR (v := v) (l := l) (k := k + 1) (by simp [ClEnv, lk, clS_rv, clS_ptr, clS_row]))
    · obtain rfl : k = 0 := by omega
      have hgt : decide (((0 : Nat) : Int) > 0) = false := rfl
      rw [depth_zero] at hds
      have hms := madeTo_set hk4
      rw [madeS_zero] at hms
      have hds1 : (depTo l 0).set 0 1 = depTo l (0 + 1) := hds
      repeat' (first | (simp -implicitDefEqProofs only [go_sem, ↓reduceIte, Nat.reduceEqDiff, Nat.reduceAdd, Nat.reduceSub, Nat.reduceMul, Nat.reduceLeDiff, Nat.reduceLT, reduceCtorEq, Int.reduceToNat, hlen, hx, krl, nd_len, nd_sv48, nd_sv49m, Nat.add_assoc, kRows_endR, List.append_assoc, hdl, hdd, hd1, hml, hmm, hm1, rvs_set1, rvs_setB, nd_at0, hsh, e1, e2, kRows_setER, hgt, wu, hms, hds1]) | (with_reducible refine g_noent ?_) | (refine cdS (fun hg => ?_) (fun hg => ?_) <;> try simp -implicitDefEqProofs only [hg, Bool.not_true, Bool.not_false]) | (refine gdS (fun hg => ?_) (fun hg => ?_) <;> try simp -implicitDefEqProofs only [hg, Bool.not_true, Bool.not_false]) | (refine gddS (fun hg => ?_) (fun hg => ?_) <;> try simp -implicitDefEqProofs only [hg, Bool.not_true, Bool.not_false]) | ((with_reducible apply And.intro); focus (first | trivial | omega | decide | (simp -implicitDefEqProofs only [maxLen]; omega) | (simp [maxLen, sty_len, nd_len, ndL_len, lnL_len, intsL_len, rvs_len, lensS_len]; done) | (simp [maxLen, sty_len, nd_len, ndL_len, lnL_len, intsL_len, rvs_len, lensS_len]; omega))) | fail)
      refine hN 1 _ _ (by omega) (by omega) ?_
      rw [kTab_firstR, kRows_firstR]
      exact kHeap_tailR (v := v) (l := l) (k := 0) (es := List.replicate l.length 0) (ds := depTo l (0 + 1)) (bs := madeTo l (0 + 1)) (C := [some (.var ((l[0]'hk4).cells.map .rv))]) (by simp [ClEnv, lk, clS_rv, clS_ptr, clS_row])
  · have hk4 : k = l.length := by simp at hg; omega
    subst hk4
    simp -implicitDefEqProofs only [go_sem, ↓reduceIte, Nat.reduceEqDiff, Nat.reduceAdd, Nat.reduceSub, Nat.reduceMul, Nat.reduceLeDiff, Nat.reduceLT, reduceCtorEq, Int.reduceToNat]
    refine hX _ _ _ ?_
    have wl := wrap_dn hs.pos (by omega)
    repeat' (first | (simp -implicitDefEqProofs only [go_sem, ↓reduceIte, Nat.reduceEqDiff, Nat.reduceAdd, Nat.reduceSub, Nat.reduceMul, Nat.reduceLeDiff, Nat.reduceLT, reduceCtorEq, Int.reduceToNat, hlen, wl]) | (with_reducible refine g_noent ?_) | (refine cdS (fun hg => ?_) (fun hg => ?_) <;> try simp -implicitDefEqProofs only [hg, Bool.not_true, Bool.not_false]) | (refine gdS (fun hg => ?_) (fun hg => ?_) <;> try simp -implicitDefEqProofs only [hg, Bool.not_true, Bool.not_false]) | (refine gddS (fun hg => ?_) (fun hg => ?_) <;> try simp -implicitDefEqProofs only [hg, Bool.not_true, Bool.not_false]) | ((with_reducible apply And.intro); focus (first | trivial | omega | decide | (simp -implicitDefEqProofs only [maxLen]; omega) | (simp [maxLen, sty_len, nd_len, ndL_len, lnL_len, intsL_len, rvs_len, lensS_len]; done) | (simp [maxLen, sty_len, nd_len, ndL_len, lnL_len, intsL_len, rvs_len, lensS_len]; omega))) | fail)
    clear hN hX hR
    refine g_loop (ι := Nat) (fun k => [(8, .rv (.int .i64 ((k : Int) - 1))), (5, .ptr 6 0)]) (fun k => kHeapR v l l.length (endTo l k) (depTo l l.length) (madeTo l l.length)) (fun k => k ≤ l.length) (fun k => k) l.length (Nat.le_refl _) (by rw [endTo_top]; exact ent_env (by simp [lk]; have := hs.pos; omega)) (fun k hk K' hN hX hR => ?_)
    simp -implicitDefEqProofs only [kHeapR, go_sem, ↓reduceIte, Nat.reduceEqDiff, Nat.reduceAdd, Nat.reduceSub, Nat.reduceMul, Nat.reduceLeDiff, Nat.reduceLT, reduceCtorEq, Int.reduceToNat]
    refine cdS (fun hg => ?_) (fun hg => ?_)
    · have hk0 : 0 < k := by simp at hg; omega
      obtain ⟨j, rfl⟩ : ∃ j, k = j + 1 := ⟨k - 1, by omega⟩
      have ej : (((j + 1 : Nat) : Int) - 1) = (j : Int) := by omega
      have wj := wrap_up (k := j) (by omega)
      have hjl : j < l.length := by omega
      have hel := endTo_len l (j + 1)
      have hell := intsL_len (endTo l (j + 1))
      have he1 := intsL_getD (l := endTo l (j + 1)) (i := j) (by omega)
      have hktl := kTab_lenR l l.length
      have hktg := kTab_getR (k := l.length) hjl
      have hkrg := kRows_getR (k := l.length) (C := []) hjl
      simp -implicitDefEqProofs only [List.append_nil] at hkrg
      have hkl : (natsI (kidsTo l l.length j)).length = (kidsTo l l.length j).length := by simp [natsI]
      have hkl2 := intsL_len (natsI (kidsTo l l.length j))
      have hkk := kidsTo_len (l := l) (k := l.length) (p := j)
      have hsl : ((endTo l (j + 1)).set j ((j + 1 : Nat) : Int)).length = l.length := by simp [hel]
      have hsll := intsL_len ((endTo l (j + 1)).set j ((j + 1 : Nat) : Int))
      have hse := endTo_set (l := l) (k := j + 1) (by omega) (by omega)
      simp -implicitDefEqProofs only [Nat.add_sub_cancel] at hse
      have wd : IntKind.i64.wrap ((j : Int) - 1) = ((j : Int) - 1) := wrap_i64 (by omega) (by omega)
      by_cases hk1 : kidsTo l l.length j = []
      · have hm0 : decide ((((kidsTo l l.length j).length : Nat) : Int) > 0) = false := by rw [hk1]; rfl
        have he := endS_leaf hk1
        rw [he] at hse
        repeat' (first | (simp -implicitDefEqProofs only [go_sem, ↓reduceIte, Nat.reduceEqDiff, Nat.reduceAdd, Nat.reduceSub, Nat.reduceMul, Nat.reduceLeDiff, Nat.reduceLT, reduceCtorEq, Int.reduceToNat, hel, hell, he1, hktl, hktg, hkrg, ej, wj, hm0, rvs_set1, hse, wd]) | (with_reducible refine g_noent ?_) | (refine cdS (fun hg => ?_) (fun hg => ?_) <;> try simp -implicitDefEqProofs only [hg, Bool.not_true, Bool.not_false]) | (refine gdS (fun hg => ?_) (fun hg => ?_) <;> try simp -implicitDefEqProofs only [hg, Bool.not_true, Bool.not_false]) | (refine gddS (fun hg => ?_) (fun hg => ?_) <;> try simp -implicitDefEqProofs only [hg, Bool.not_true, Bool.not_false]) | ((with_reducible apply And.intro); focus (first | trivial | omega | decide | (simp -implicitDefEqProofs only [maxLen]; omega) | (simp [maxLen, sty_len, nd_len, ndL_len, lnL_len, intsL_len, rvs_len, lensS_len]; done) | (simp [maxLen, sty_len, nd_len, ndL_len, lnL_len, intsL_len, rvs_len, lensS_len]; omega))) | fail)
        refine hN j _ _ (by omega) (by omega) (ent_env (by simp [lk]))
      · obtain ⟨c, hc⟩ : ∃ c, (kidsTo l l.length j).getLast? = some c := by
          cases h : (kidsTo l l.length j).getLast? with
          | none => exact absurd (List.getLast?_eq_none_iff.1 h) hk1
          | some c => exact ⟨c, rfl⟩
        have hpos : 0 < (kidsTo l l.length j).length := List.length_pos_iff.2 hk1
        have hm0 : decide ((((kidsTo l l.length j).length : Nat) : Int) > 0) = true := decide_eq_true (by omega)
        have hcm : c ∈ kidsOf l j := List.mem_of_getLast? hc
        obtain ⟨c1, c2, c3⟩ := mem_kids.1 hcm
        have hcj : j < c := by have := (hs.wf.2 c c1 c2).2; omega
        have he := endS_last hc hcj c2
        rw [he] at hse
        have wm := wrap_dn hpos (by omega)
        have hcg : (natsI (kidsTo l l.length j)).getD ((kidsTo l l.length j).length - 1) 0 = (c : Int) := by
          rw [List.getLast?_eq_getElem?] at hc
          simp [natsI, List.getD_eq_getElem?_getD, hc]
        have hcx := intsL_getD (l := natsI (kidsTo l l.length j)) (i := (kidsTo l l.length j).length - 1) (by omega)
        rw [hcg] at hcx
        have hec := intsL_getD (l := (endTo l (j + 1)).set j ((j + 1 : Nat) : Int)) (i := c) (by omega)
        have hev := endTo_get (l := l) (k := j + 1) (j := c) (v := ((j + 1 : Nat) : Int)) (by omega) (by omega) c2
        simp -implicitDefEqProofs only [Nat.add_sub_cancel] at hev
        rw [hev] at hec
        have hej := intsL_getD (l := (endTo l (j + 1)).set j ((j + 1 : Nat) : Int)) (i := j) (by omega)
        have hset : ((endTo l (j + 1)).set j ((j + 1 : Nat) : Int)).set j (endS l c) = endTo l j := by rw [List.set_set, hse]
        repeat' (first | (simp -implicitDefEqProofs only [go_sem, ↓reduceIte, Nat.reduceEqDiff, Nat.reduceAdd, Nat.reduceSub, Nat.reduceMul, Nat.reduceLeDiff, Nat.reduceLT, reduceCtorEq, Int.reduceToNat, hel, hell, he1, hktl, hktg, hkrg, ej, wj, hm0, rvs_set1, wd, wm, hcx, hec, hej, hset, hsl, hsll, hkl, hkl2]) | (with_reducible refine g_noent ?_) | (refine cdS (fun hg => ?_) (fun hg => ?_) <;> try simp -implicitDefEqProofs only [hg, Bool.not_true, Bool.not_false]) | (refine gdS (fun hg => ?_) (fun hg => ?_) <;> try simp -implicitDefEqProofs only [hg, Bool.not_true, Bool.not_false]) | (refine gddS (fun hg => ?_) (fun hg => ?_) <;> try simp -implicitDefEqProofs only [hg, Bool.not_true, Bool.not_false]) | ((with_reducible apply And.intro); focus (first | trivial | omega | decide | (simp -implicitDefEqProofs only [maxLen]; omega) | (simp [maxLen, sty_len, nd_len, ndL_len, lnL_len, intsL_len, rvs_len, lensS_len]; done) | (simp [maxLen, sty_len, nd_len, ndL_len, lnL_len, intsL_len, rvs_len, lensS_len]; omega))) | fail)
        refine hN j _ _ (by omega) (by omega) (ent_env (by simp [lk]))
    · obtain rfl : k = 0 := by simp at hg; omega
      simp -implicitDefEqProofs only [go_sem, ↓reduceIte, Nat.reduceEqDiff, Nat.reduceAdd, Nat.reduceSub, Nat.reduceMul, Nat.reduceLeDiff, Nat.reduceLT, reduceCtorEq, Int.reduceToNat]
      refine hX _ _ _ ?_
      repeat' (first | (simp -implicitDefEqProofs only [go_sem, ↓reduceIte, Nat.reduceEqDiff, Nat.reduceAdd, Nat.reduceSub, Nat.reduceMul, Nat.reduceLeDiff, Nat.reduceLT, reduceCtorEq, Int.reduceToNat]) | (with_reducible refine g_noent ?_) | (refine cdS (fun hg => ?_) (fun hg => ?_) <;> try simp -implicitDefEqProofs only [hg, Bool.not_true, Bool.not_false]) | (refine gdS (fun hg => ?_) (fun hg => ?_) <;> try simp -implicitDefEqProofs only [hg, Bool.not_true, Bool.not_false]) | (refine gddS (fun hg => ?_) (fun hg => ?_) <;> try simp -implicitDefEqProofs only [hg, Bool.not_true, Bool.not_false]) | ((with_reducible apply And.intro); focus (first | trivial | omega | decide | (simp -implicitDefEqProofs only [maxLen]; omega) | (simp [maxLen, sty_len, nd_len, ndL_len, lnL_len, intsL_len, rvs_len, lensS_len]; done) | (simp [maxLen, sty_len, nd_len, ndL_len, lnL_len, intsL_len, rvs_len, lensS_len]; omega))) | fail)
      refine (hK _ _ _ _ [] (ent_refl _ _) ?_).2
      rw [endTo_zero]
      simp -implicitDefEqProofs only [retM, List.map_cons, List.map_nil, List.append_nil]
      refine ⟨by simp [nodupL], trivial, trivial, ⟨?_, trivial⟩, trivial, rn_tup.2 ⟨?_, rn_rv.2 rfl, trivial⟩⟩
      · rw [show finU (lkp ([i0].zip [HB.row 49 v (rvs (ndL l))]) i0) [] i0 = some (HB.row 49 v (rvs (ndL l))) from by simp [finU, lkp]]
        exact ⟨rfl, rfl, rnRows_rvs.2 rfl⟩
      · exact .fz _ _ (kin_fzR v l (fun j hj => by cases j with
          | zero => omega
          | succ j => rfl))


end Go.Eng


/- kin: what is told of a node is what the document says. -/
namespace Go.Eng
open Go
/- decoupage/decoupagelaw06.Plain -/
def c_decoupagelaw06_Plain : AC := (.seq (.reg [⟨(some 0), (.alloc [(.bool false), (.int .i64 0), (.int .i64 0), (.int .i64 0), (.int .i64 0), (.int .i64 0), (.int .i64 0), (.int .i64 0), (.int .i64 0), (.int .i64 0), (.int .i64 0), (.int .i64 0), (.int .i64 0), (.int .i64 0), (.int .i64 0), (.int .i64 0), (.int .i64 0), (.int .i64 0), (.int .i64 0), (.int .i64 0), (.int .i64 0), (.int .i64 0), (.int .i64 0), (.int .i64 0), (.int .i64 0), (.int .i64 0), (.int .i64 0), (.int .i64 0), (.int .i64 0), (.int .i64 0), (.int .i64 0), (.int .i64 0), (.int .i64 0), (.int .i64 0), (.int .i64 0), (.int .i64 0), (.int .i64 0), (.int .i64 0), (.int .i64 0), (.int .i64 0), (.int .i64 0), (.int .i64 0), (.bool false), (.bool false), (.int .i64 0), (.bool false), (.int .i64 0), (.int .i64 0)]), [], none⟩]) (.seq (.reg [⟨(some 3), (.build [(.bool false), (.int .i64 0), (.int .i64 0), (.int .i64 0), (.int .i64 0), (.int .i64 0), (.int .i64 0), (.int .i64 0), (.int .i64 0), (.int .i64 0), (.int .i64 0), (.int .i64 0), (.int .i64 0), (.int .i64 0), (.int .i64 0), (.int .i64 0), (.int .i64 0), (.int .i64 0), (.int .i64 0), (.int .i64 0), (.int .i64 0), (.int .i64 0), (.int .i64 0), (.int .i64 0), (.int .i64 0), (.int .i64 0), (.int .i64 0), (.int .i64 0), (.int .i64 0), (.int .i64 0), (.int .i64 0), (.int .i64 0), (.int .i64 0), (.int .i64 0), (.int .i64 0), (.int .i64 0), (.int .i64 0), (.int .i64 0), (.int .i64 0), (.int .i64 0), (.int .i64 0), (.int .i64 0), (.bool false), (.bool false), (.int .i64 0), (.bool false), (.int .i64 0), (.int .i64 0)] [(0, 1)]), [(.c (.rv (.bool true)))], none⟩, ⟨(some 1), (.alloc [(.bool false), (.int .i64 0), (.int .i64 0), (.int .i64 0), (.int .i64 0), (.int .i64 0), (.int .i64 0), (.int .i64 0), (.int .i64 0), (.int .i64 0), (.int .i64 0), (.int .i64 0), (.int .i64 0), (.int .i64 0), (.int .i64 0), (.int .i64 0), (.int .i64 0), (.int .i64 0), (.int .i64 0), (.int .i64 0), (.int .i64 0), (.int .i64 0), (.int .i64 0), (.int .i64 0), (.int .i64 0), (.int .i64 0), (.int .i64 0), (.int .i64 0), (.int .i64 0), (.int .i64 0), (.int .i64 0), (.int .i64 0), (.int .i64 0), (.int .i64 0), (.int .i64 0), (.int .i64 0), (.int .i64 0), (.int .i64 0), (.int .i64 0), (.int .i64 0), (.int .i64 0), (.int .i64 0), (.bool false), (.bool false), (.int .i64 0), (.bool false), (.int .i64 0), (.int .i64 0)]), [], none⟩, ⟨none, (.store 48), [(.t 1), (.t 3)], none⟩]) (.seq (.seq (.reg [⟨(some 4), .mv, [(.c (.rv (.int .i64 0)))], none⟩]) (.seq (.block 0 (.loop (.seq (.reg [⟨(some 5), (.ibin .lss), [(.t 4), (.c (.rv (.int .i64 4)))], none⟩]) (.seq (.cond (.t 5) .skip (.exit 0)) (.seq (.seq (.block 1 (.seq (.reg [⟨(some 6), .mv, [(.t 4)], none⟩, ⟨(some 2), .mv, [(.t 6)], none⟩]) (.reg [⟨(some 7), .mv, [(.t 2)], none⟩, ⟨(some 8), (.build [(.int .i64 0), (.int .i64 0)] [(0, 1)]), [(.c (.rv (.int .i64 1)))], none⟩, ⟨(some 9), (.fld 30), [(.t 1)], none⟩, ⟨(some 10), (.ixa 4 2), [(.t 9), (.t 7)], none⟩, ⟨none, (.store 2), [(.t 10), (.t 8)], none⟩]))) .ent) (.reg [⟨(some 11), (.ibin .add), [(.t 4), (.c (.rv (.int .i64 1)))], none⟩, ⟨(some 4), .mv, [(.t 11)], none⟩])))))) .ent)) (.seq (.reg [⟨(some 12), (.load 48 true), [(.t 1)], none⟩, ⟨none, (.store 48), [(.t 0), (.t 12)], none⟩]) .ret))))
theorem k_decoupagelaw06_Plain : FnOK Go.Proofs.Try.prog 44 13 c_decoupagelaw06_Plain [(.c 0 48 true)] := fnOK_of (by kernel_rfl)

def kindsB : List CK → List RV → Bool
  | [], [] => true
  | .b :: ks, .bool _ :: rs => kindsB ks rs
  | .i :: ks, .int _ _ :: rs => kindsB ks rs
  | .s :: ks, .str _ :: rs => kindsB ks rs
  | _, _ => false
/-- A style that says nothing. -/
def plainS : Sty := { (default : Sty) with shown := true, pad := ⟨⟨1, 0⟩, ⟨1, 0⟩, ⟨1, 0⟩, ⟨1, 0⟩⟩ }
def plainTo (k : Nat) : Sty := { (default : Sty) with shown := true, pad := ⟨if 0 < k then ⟨1, 0⟩ else default, if 1 < k then ⟨1, 0⟩ else default, if 2 < k then ⟨1, 0⟩ else default, if 3 < k then ⟨1, 0⟩ else default⟩ }

theorem sp_Plain : CallR Go.Proofs.Try.prog 44 [] [] [] plainS.sv := by
  refine callR_G k_decoupagelaw06_Plain [] _ (by simp) (by simp [BkAll, bk_agg, bkAll_map, bk_rv, bk_fn, Sty.sv, Ln.sv, Nd.sv]) (fun K hK => ?_)
  simp -implicitDefEqProofs only [c_decoupagelaw06_Plain, go_sem, ↓reduceIte, Nat.reduceEqDiff, Nat.reduceAdd, Nat.reduceSub, Nat.reduceMul, Nat.reduceLeDiff, Nat.reduceLT, reduceCtorEq, Int.reduceToNat]
  repeat' (first | (simp -implicitDefEqProofs only [go_sem, ↓reduceIte, Nat.reduceEqDiff, Nat.reduceAdd, Nat.reduceSub, Nat.reduceMul, Nat.reduceLeDiff, Nat.reduceLT, reduceCtorEq, Int.reduceToNat]) | (with_reducible refine g_noent ?_) | (refine cdS (fun hg => ?_) (fun hg => ?_) <;> try simp -implicitDefEqProofs only [hg, Bool.not_true, Bool.not_false]) | (refine gdS (fun hg => ?_) (fun hg => ?_) <;> try simp -implicitDefEqProofs only [hg, Bool.not_true, Bool.not_false]) | (refine gddS (fun hg => ?_) (fun hg => ?_) <;> try simp -implicitDefEqProofs only [hg, Bool.not_true, Bool.not_false]) | ((with_reducible apply And.intro); focus (first | trivial | omega | decide | (simp -implicitDefEqProofs only [maxLen]; omega) | (simp [maxLen, sty_len, nd_len, ndL_len, lnL_len, intsL_len, rvs_len, lensS_len]; done) | (simp [maxLen, sty_len, nd_len, ndL_len, lnL_len, intsL_len, rvs_len, lensS_len]; omega) | (exact ⟨rfl, by decide⟩; done))) | fail)
  refine g_loop (ι := Nat) (fun k => [(4, .rv (.int .i64 k)), (0, .ptr 0 0), (1, .ptr 1 0)]) (fun k => [some (.var ((default : Sty).cells.map .rv)), some (.var ((plainTo k).cells.map .rv))]) (fun k => k ≤ 4) (fun k => 4 - k) 0 (by simp) (ent_env (by simp [lk])) (fun k hk K' hN hX hR => ?_)
  simp -implicitDefEqProofs only [go_sem, ↓reduceIte, Nat.reduceEqDiff, Nat.reduceAdd, Nat.reduceSub, Nat.reduceMul, Nat.reduceLeDiff, Nat.reduceLT, reduceCtorEq, Int.reduceToNat]
  refine cdS (fun hg => ?_) (fun hg => ?_)
  · have : k = 0 ∨ k = 1 ∨ k = 2 ∨ k = 3 := by simp at hg; omega
    rcases this with rfl | rfl | rfl | rfl
    all_goals
      repeat' (first | (simp -implicitDefEqProofs only [go_sem, ↓reduceIte, Nat.reduceEqDiff, Nat.reduceAdd, Nat.reduceSub, Nat.reduceMul, Nat.reduceLeDiff, Nat.reduceLT, reduceCtorEq, Int.reduceToNat, sty_len, wrap_up (k := 0) (by decide), wrap_up (k := 1) (by decide), wrap_up (k := 2) (by decide), wrap_up (k := 3) (by decide)]) | (with_reducible refine g_noent ?_) | (refine cdS (fun hg => ?_) (fun hg => ?_) <;> try simp -implicitDefEqProofs only [hg, Bool.not_true, Bool.not_false]) | (refine gdS (fun hg => ?_) (fun hg => ?_) <;> try simp -implicitDefEqProofs only [hg, Bool.not_true, Bool.not_false]) | (refine gddS (fun hg => ?_) (fun hg => ?_) <;> try simp -implicitDefEqProofs only [hg, Bool.not_true, Bool.not_false]) | ((with_reducible apply And.intro); focus (first | trivial | omega | decide | (simp -implicitDefEqProofs only [maxLen]; omega) | (simp [maxLen, sty_len, nd_len, ndL_len, lnL_len, intsL_len, rvs_len, lensS_len]; done) | (simp [maxLen, sty_len, nd_len, ndL_len, lnL_len, intsL_len, rvs_len, lensS_len]; omega))) | fail)
    · exact hN 1 _ _ (by omega) (by omega) (ent_env (by simp [lk]))
    · exact hN 2 _ _ (by omega) (by omega) (ent_env (by simp [lk]))
    · exact hN 3 _ _ (by omega) (by omega) (ent_env (by simp [lk]))
    · exact hN 4 _ _ (by omega) (by omega) (ent_env (by simp [lk]))
  · have hk4 : k = 4 := by simp at hg; omega
    subst hk4
    simp -implicitDefEqProofs only [go_sem, ↓reduceIte, Nat.reduceEqDiff, Nat.reduceAdd, Nat.reduceSub, Nat.reduceMul, Nat.reduceLeDiff, Nat.reduceLT, reduceCtorEq, Int.reduceToNat]
    refine hX _ _ _ ?_
    repeat' (first | (simp -implicitDefEqProofs only [go_sem, ↓reduceIte, Nat.reduceEqDiff, Nat.reduceAdd, Nat.reduceSub, Nat.reduceMul, Nat.reduceLeDiff, Nat.reduceLT, reduceCtorEq, Int.reduceToNat, sty_len, sty_all2]) | (with_reducible refine g_noent ?_) | (refine cdS (fun hg => ?_) (fun hg => ?_) <;> try simp -implicitDefEqProofs only [hg, Bool.not_true, Bool.not_false]) | (refine gdS (fun hg => ?_) (fun hg => ?_) <;> try simp -implicitDefEqProofs only [hg, Bool.not_true, Bool.not_false]) | (refine gddS (fun hg => ?_) (fun hg => ?_) <;> try simp -implicitDefEqProofs only [hg, Bool.not_true, Bool.not_false]) | ((with_reducible apply And.intro); focus (first | trivial | omega | decide | (simp -implicitDefEqProofs only [maxLen]; omega) | (simp [maxLen, sty_len, nd_len, ndL_len, lnL_len, intsL_len, rvs_len, lensS_len]; done) | (simp [maxLen, sty_len, nd_len, ndL_len, lnL_len, intsL_len, rvs_len, lensS_len]; omega) | (rfl; done) | (exact ⟨rfl, by decide⟩; done))) | fail)
    exact (hK _ _ (ret_c (rs := plainS.cells) rfl rfl rfl)).2

theorem one_chk : chk [⟨plainS, -1⟩] = 0 := by decide +kernel
theorem one_made : madeAt [⟨plainS, -1⟩] 0 = true := by
  simp [madeAt, inL, madeS_zero, shownL, plainS]

end Go.Eng


/- clip: the statements as functions: tells, inside. -/
namespace Go.Eng
open Go
/- decoupage/decoupagelaw22.awake -/
def c_decoupagelaw22_awake : AC := (.seq (.reg [⟨(some 0), .mv, [(.c (.rv (.bool false)))], none⟩]) (.seq (.reg [⟨(some 5), (.call 44), [], none⟩, ⟨(some 6), (.build [(.bool false), (.int .i64 0), (.int .i64 0), (.int .i64 0), (.int .i64 0), (.int .i64 0), (.int .i64 0), (.int .i64 0), (.int .i64 0), (.int .i64 0), (.int .i64 0), (.int .i64 0), (.int .i64 0), (.int .i64 0), (.int .i64 0), (.int .i64 0), (.int .i64 0), (.int .i64 0), (.int .i64 0), (.int .i64 0), (.int .i64 0), (.int .i64 0), (.int .i64 0), (.int .i64 0), (.int .i64 0), (.int .i64 0), (.int .i64 0), (.int .i64 0), (.int .i64 0), (.int .i64 0), (.int .i64 0), (.int .i64 0), (.int .i64 0), (.int .i64 0), (.int .i64 0), (.int .i64 0), (.int .i64 0), (.int .i64 0), (.int .i64 0), (.int .i64 0), (.int .i64 0), (.int .i64 0), (.bool false), (.bool false), (.int .i64 0), (.bool false), (.int .i64 0), (.int .i64 0), (.int .i64 0)] [(0, 48), (48, 1)]), [(.t 5), (.c (.rv (.int .i64 (-1))))], none⟩, ⟨(some 7), (.bsl 49), [(.t 6)], none⟩, ⟨(some 8), (.call 17), [(.t 7)], none⟩, ⟨(some 4), .mv, [(.t 8)], none⟩, ⟨(some 9), (.ext 0), [(.t 4)], none⟩, ⟨(some 10), (.ext 1), [(.t 4)], none⟩, ⟨(some 1), .mv, [(.t 9)], none⟩, ⟨(some 2), .mv, [(.t 10)], none⟩]) (.seq (.reg [⟨(some 11), .mv, [(.t 1)], none⟩, ⟨(some 12), (.build [(.bool false), (.int .i64 0), (.int .i64 0), (.int .i64 0), (.int .i64 0), (.int .i64 0), (.int .i64 0), (.int .i64 0), (.int .i64 0), (.int .i64 0), (.int .i64 0), (.int .i64 0), (.int .i64 0), (.int .i64 0), (.int .i64 0), (.int .i64 0), (.int .i64 0), (.int .i64 0), (.int .i64 0), (.int .i64 0), (.int .i64 0)] [(0, 1)]), [(.c (.rv (.bool true)))], none⟩, ⟨(some 13), (.bsl 21), [(.t 12)], none⟩, ⟨(some 14), (.build [(.int .i64 0), (.int .i64 0)] [(0, 1), (1, 1)]), [(.c (.rv (.int .i64 3))), (.c (.rv (.int .i64 4)))], none⟩, ⟨(some 15), (.call 19), [(.t 11), (.t 13), (.t 14)], none⟩, ⟨(some 3), .mv, [(.t 15)], none⟩]) (.seq (.reg [⟨(some 16), .mv, [(.t 2)], none⟩, ⟨(some 17), (.ibin .eql), [(.t 16), (.c (.rv (.int .i64 0)))], none⟩, ⟨(some 18), .mv, [(.t 17)], none⟩, ⟨(some 19), .mv, [(.t 3)], (some (18, true))⟩, ⟨(some 20), .len, [(.t 19)], (some (18, true))⟩, ⟨(some 21), (.ibin .eql), [(.t 20), (.c (.rv (.int .i64 1)))], (some (18, true))⟩, ⟨(some 22), .pick, [(.t 18), (.t 21), (.c (.rv (.bool false)))], none⟩, ⟨(some 23), .mv, [(.t 22)], none⟩, ⟨(some 24), .mv, [(.t 3)], (some (23, true))⟩, ⟨(some 25), (.ixs 4), [(.t 24), (.c (.rv (.int .i64 0)))], (some (23, true))⟩, ⟨(some 26), (.load 4 true), [(.t 25)], (some (23, true))⟩, ⟨(some 27), (.build [(.int .i64 0), (.int .i64 0), (.int .i64 0), (.int .i64 0)] [(2, 1), (3, 1)]), [(.c (.rv (.int .i64 3))), (.c (.rv (.int .i64 4)))], (some (23, true))⟩, ⟨(some 28), (.eqs false true [.i, .i, .i, .i]), [(.t 26), (.t 27)], (some (23, true))⟩, ⟨(some 29), .pick, [(.t 23), (.t 28), (.c (.rv (.bool false)))], none⟩, ⟨(some 0), .mv, [(.t 29)], none⟩]) .ret))))
theorem k_decoupagelaw22_awake : FnOK Go.Proofs.Try.prog 14 30 c_decoupagelaw22_awake [(.t 0)] := fnOK_of (by kernel_rfl)

theorem sp_ClipsN (l : List Nd) (hs : Shp l) (hb : l.length ≤ 100) (bx : List Bx) (hnc : ∀ p : Nat, (styAt l p).clip = false) (w h : Int) (hl : bx.length = l.length) (i0 v : Nat) : CallR Go.Proofs.Try.prog 19 [.rv (kinV l), .row i0 v l.length, .agg [.rv (.int .i64 w), .rv (.int .i64 h)]] [(i0, .row 21 v (rvs (bxL bx)))] [] (.rv (.sl 4 (rcL (clipTo l bx (vwR w h) l.length)))) := by
  refine callR_M k_clip_Clips [i0] [.row 21 v (rvs (bxL bx))] [.row 21 v (rvs (bxL bx))] [.rv (kinV l), .row 0 v l.length, .agg [.rv (.int .i64 w), .rv (.int .i64 h)]] [.rv (kinV l), .row i0 v l.length, .agg [.rv (.int .i64 w), .rv (.int .i64 h)]] _ _ (by simp) (by simp [BkAll, bk_row, bk_rv, bk_agg]) rfl (by simp [nodupL]) ⟨rfl, rfl, ⟨rfl, _, rfl⟩, trivial⟩ (fun K hK => ?_)
  have hlen := bxL_len bx
  simp -implicitDefEqProofs only [c_clip_Clips, go_sem, ↓reduceIte, Nat.reduceEqDiff, Nat.reduceAdd, Nat.reduceSub, Nat.reduceMul, Nat.reduceLeDiff, Nat.reduceLT, reduceCtorEq, Int.reduceToNat]
  have hcall1 := sp_Len l; repeat' (first | (simp -implicitDefEqProofs only [go_sem, ↓reduceIte, Nat.reduceEqDiff, Nat.reduceAdd, Nat.reduceSub, Nat.reduceMul, Nat.reduceLeDiff, Nat.reduceLT, reduceCtorEq, Int.reduceToNat, hlen, hl, bne_self_eq_false, rc_rep]) | (with_reducible refine g_noent ?_) | (with_reducible refine g_call0 hcall1 ?_) | (with_reducible refine g_calld0 hcall1 ?_) | (refine cdS (fun hg => ?_) (fun hg => ?_) <;> try simp -implicitDefEqProofs only [hg, Bool.not_true, Bool.not_false]) | (refine gdS (fun hg => ?_) (fun hg => ?_) <;> try simp -implicitDefEqProofs only [hg, Bool.not_true, Bool.not_false]) | (refine gddS (fun hg => ?_) (fun hg => ?_) <;> try simp -implicitDefEqProofs only [hg, Bool.not_true, Bool.not_false]) | ((with_reducible apply And.intro); focus (first | trivial | omega | decide | (simp -implicitDefEqProofs only [maxLen]; omega) | (simp [maxLen, sty_len, nd_len, ndL_len, lnL_len, intsL_len, rvs_len, lensS_len]; done) | (simp [maxLen, sty_len, nd_len, ndL_len, lnL_len, intsL_len, rvs_len, lensS_len]; omega))) | fail)
  refine g_loop (ι := Nat) (fun k => [(20, .rv (.int .i64 k)), (19, .rv (.int .i64 l.length)), (7, .row 2 0 l.length), (5, .ptr 1 0), (0, .rv (kinV l)), (1, .row 0 v l.length)]) (fun k => [some (.row 21 v (rvs (bxL bx))), some (.var [.rv (.int .i64 w), .rv (.int .i64 h)]), some (.row 4 0 (rvs (rcL (rowTo l bx (vwR w h) l.length k))))]) (fun k => k ≤ l.length) (fun k => l.length - k) 0 (by simp) (by rw [← rowTo_zero]; exact ent_env (by simp [lk])) (fun k hk K' hN hX hR => ?_)
  simp -implicitDefEqProofs only [go_sem, ↓reduceIte, Nat.reduceEqDiff, Nat.reduceAdd, Nat.reduceSub, Nat.reduceMul, Nat.reduceLeDiff, Nat.reduceLT, reduceCtorEq, Int.reduceToNat]
  refine cdS (fun hg => ?_) (fun hg => ?_)
  · have hk4 : k < l.length := by simp at hg; omega
    have wu := wrap_up (k := k) (by omega)
    have hm := sp_Made l k
    have ho := sp_Of l hs k
    have hrl := rowTo_len l bx (vwR w h) hk
    have hrl2 := rcL_len (rowTo l bx (vwR w h) l.length k)
    have hk0 := rcL_getD (l := rowTo l bx (vwR w h) l.length k) (i := k) (by omega)
    generalize (rowTo l bx (vwR w h) l.length k).getD k zeroR = zk at hk0
    cases hmm : madeAt l k with
    | false =>
      rw [hmm] at hm
      have hcall2 := hm; repeat' (first | (simp -implicitDefEqProofs only [go_sem, ↓reduceIte, Nat.reduceEqDiff, Nat.reduceAdd, Nat.reduceSub, Nat.reduceMul, Nat.reduceLeDiff, Nat.reduceLT, reduceCtorEq, Int.reduceToNat, wu]) | (with_reducible refine g_noent ?_) | (with_reducible refine g_call0 hcall2 ?_) | (with_reducible refine g_calld0 hcall2 ?_) | (refine cdS (fun hg => ?_) (fun hg => ?_) <;> try simp -implicitDefEqProofs only [hg, Bool.not_true, Bool.not_false]) | (refine gdS (fun hg => ?_) (fun hg => ?_) <;> try simp -implicitDefEqProofs only [hg, Bool.not_true, Bool.not_false]) | (refine gddS (fun hg => ?_) (fun hg => ?_) <;> try simp -implicitDefEqProofs only [hg, Bool.not_true, Bool.not_false]) | ((with_reducible apply And.intro); focus (first | trivial | omega | decide | (simp -implicitDefEqProofs only [maxLen]; omega) | (simp [maxLen, sty_len, nd_len, ndL_len, lnL_len, intsL_len, rvs_len, lensS_len]; done) | (simp [maxLen, sty_len, nd_len, ndL_len, lnL_len, intsL_len, rvs_len, lensS_len]; omega))) | fail)
      refine hN (k + 1) _ _ (by omega) (by omega) ?_
      rw [rowTo_skip l bx _ hk4 (by simp [clipStep, hmm])]
      exact ent_env (by simp [lk])
    | true =>
      rw [hmm] at hm
      rcases hold_nat hs hmm with h1 | ⟨p, h1, h2, h3, h4⟩
      · rw [h1] at ho
        have e2 : ((-1 : Int) == -1) = true := rfl
        have hmt : CallR Go.Proofs.Try.prog 50 [.agg [.rv (.int .i64 0), .rv (.int .i64 0), .rv (.int .i64 w), .rv (.int .i64 h)], .agg [.rv (.int .i64 0), .rv (.int .i64 0), .rv (.int .i64 w), .rv (.int .i64 h)]] [] [] (.agg ((vwR w h).cells.map SV.rv)) := sp_rect_Meet (viewR w h) (viewR w h)
        have hcall3 := hm; have hcall4 := ho; have hcall5 := hmt; repeat' (first | (simp -implicitDefEqProofs only [go_sem, ↓reduceIte, Nat.reduceEqDiff, Nat.reduceAdd, Nat.reduceSub, Nat.reduceMul, Nat.reduceLeDiff, Nat.reduceLT, reduceCtorEq, Int.reduceToNat, e2, rcL_set, hk0, rc_tkm, rc_mlen, rc_dr, List.append_nil, hrl, hrl2, wu, rc_len]) | (with_reducible refine g_noent ?_) | (with_reducible refine g_call0 hcall3 ?_) | (with_reducible refine g_calld0 hcall3 ?_) | (with_reducible refine g_call0 hcall4 ?_) | (with_reducible refine g_calld0 hcall4 ?_) | (with_reducible refine g_call0 hcall5 ?_) | (with_reducible refine g_calld0 hcall5 ?_) | (refine cdS (fun hg => ?_) (fun hg => ?_) <;> try simp -implicitDefEqProofs only [hg, Bool.not_true, Bool.not_false]) | (refine gdS (fun hg => ?_) (fun hg => ?_) <;> try simp -implicitDefEqProofs only [hg, Bool.not_true, Bool.not_false]) | (refine gddS (fun hg => ?_) (fun hg => ?_) <;> try simp -implicitDefEqProofs only [hg, Bool.not_true, Bool.not_false]) | ((with_reducible apply And.intro); focus (first | trivial | omega | decide | (simp -implicitDefEqProofs only [maxLen]; omega) | (simp [maxLen, sty_len, nd_len, ndL_len, lnL_len, intsL_len, rvs_len, lensS_len]; done) | (simp [maxLen, sty_len, nd_len, ndL_len, lnL_len, intsL_len, rvs_len, lensS_len]; omega))) | fail)
        refine hN (k + 1) _ _ (by omega) (by omega) ?_
        rw [rowTo_set l bx _ hk4 (by simp [clipStep, hmm, h1, vwR])]
        exact ent_env (by simp [lk])
      · rw [h1] at ho
        have e2 : ((p : Int) == -1) = false := by simp
        have hst := sp_Style l p
        have hx := rcL_getD (l := rowTo l bx (vwR w h) l.length k) (i := p) (by omega)
        rw [rowTo_at _ _ _ h2] at hx
        generalize hxx : (clipTo l bx (vwR w h) k).getD p zeroR = x at *
        have e45 := sty_at45 (styAt l p)
        have hc := hnc p
        rw [hc] at e45
        have hcall6 := hm; have hcall7 := ho; have hcall8 := hst; repeat' (first | (simp -implicitDefEqProofs only [go_sem, ↓reduceIte, Nat.reduceEqDiff, Nat.reduceAdd, Nat.reduceSub, Nat.reduceMul, Nat.reduceLeDiff, Nat.reduceLT, reduceCtorEq, Int.reduceToNat, e2, e45, hx, rcL_set, hk0, rc_tkm, rc_mlen, rc_dr, List.append_nil, hrl, hrl2, wu, rc_len, rc_tk]) | (with_reducible refine g_noent ?_) | (with_reducible refine g_call0 hcall6 ?_) | (with_reducible refine g_calld0 hcall6 ?_) | (with_reducible refine g_call0 hcall7 ?_) | (with_reducible refine g_calld0 hcall7 ?_) | (with_reducible refine g_call0 hcall8 ?_) | (with_reducible refine g_calld0 hcall8 ?_) | (refine cdS (fun hg => ?_) (fun hg => ?_) <;> try simp -implicitDefEqProofs only [hg, Bool.not_true, Bool.not_false]) | (refine gdS (fun hg => ?_) (fun hg => ?_) <;> try simp -implicitDefEqProofs only [hg, Bool.not_true, Bool.not_false]) | (refine gddS (fun hg => ?_) (fun hg => ?_) <;> try simp -implicitDefEqProofs only [hg, Bool.not_true, Bool.not_false]) | ((with_reducible apply And.intro); focus (first | trivial | omega | decide | (simp -implicitDefEqProofs only [maxLen]; omega) | (simp [maxLen, sty_len, nd_len, ndL_len, lnL_len, intsL_len, rvs_len, lensS_len]; done) | (simp [maxLen, sty_len, nd_len, ndL_len, lnL_len, intsL_len, rvs_len, lensS_len]; omega))) | fail)
        refine hN (k + 1) _ _ (by omega) (by omega) ?_
        rw [rowTo_set l bx _ hk4 (by rw [← hxx]; simp [clipStep, hmm, h1, hc])]
        exact ent_env (by simp [lk])
  · have hk4 : k = l.length := by simp at hg; omega
    subst hk4
    simp -implicitDefEqProofs only [go_sem, ↓reduceIte, Nat.reduceEqDiff, Nat.reduceAdd, Nat.reduceSub, Nat.reduceMul, Nat.reduceLeDiff, Nat.reduceLT, reduceCtorEq, Int.reduceToNat]
    refine hX _ _ _ ?_
    repeat' (first | (simp -implicitDefEqProofs only [go_sem, ↓reduceIte, Nat.reduceEqDiff, Nat.reduceAdd, Nat.reduceSub, Nat.reduceMul, Nat.reduceLeDiff, Nat.reduceLT, reduceCtorEq, Int.reduceToNat]) | (with_reducible refine g_noent ?_) | (refine cdS (fun hg => ?_) (fun hg => ?_) <;> try simp -implicitDefEqProofs only [hg, Bool.not_true, Bool.not_false]) | (refine gdS (fun hg => ?_) (fun hg => ?_) <;> try simp -implicitDefEqProofs only [hg, Bool.not_true, Bool.not_false]) | (refine gddS (fun hg => ?_) (fun hg => ?_) <;> try simp -implicitDefEqProofs only [hg, Bool.not_true, Bool.not_false]) | ((with_reducible apply And.intro); focus (first | trivial | omega | decide | (simp -implicitDefEqProofs only [maxLen]; omega) | (simp [maxLen, sty_len, nd_len, ndL_len, lnL_len, intsL_len, rvs_len, lensS_len]; done) | (simp [maxLen, sty_len, nd_len, ndL_len, lnL_len, intsL_len, rvs_len, lensS_len]; omega))) | fail)
    rw [rowTo_full]
    refine (hK _ _ _ _ [] (ent_refl _ _) ?_).2
    simp -implicitDefEqProofs only [retM, List.map_cons, List.map_nil, List.append_nil]
    refine ⟨by simp [nodupL], trivial, trivial, ⟨?_, trivial⟩, trivial, ?_⟩
    · rw [show finU (lkp ([i0].zip [HB.row 21 v (rvs (bxL bx))]) i0) [] i0 = some (HB.row 21 v (rvs (bxL bx))) from by simp [finU, lkp]]
      exact ⟨rfl, rfl, rnRows_rvs.2 rfl⟩
    · exact rn_frz (xs := rcL (clipTo l bx (vwR w h) l.length)) rfl rfl (by rw [rcL_len, clipTo_len]) (rcL_one _)

abbrev oneN : List Nd := [⟨plainS, -1⟩]
theorem one_tree : treeOK oneN = true := by decide +kernel
theorem one_hold : holdAt oneN 0 = -1 := by
  have : outAt oneN 0 = false := by simp [outAt]
  have hp : parAt oneN 0 = -1 := rfl
  have hm : madeAt oneN 0 = true := one_made
  simp [holdAt, this, hm, hp]
def oneB : List Bx := [⟨true, 0, 0, 0, 0, ⟨0, 0, 0, 0⟩, ⟨0, 0, 0, 0⟩, ⟨0, 0, 0, 0⟩, ⟨0, 0, 0, 0⟩⟩]
theorem one_vw : vwR 3 4 = ⟨0, 0, 3, 4⟩ := by decide
theorem one_clip : clipTo oneN oneB (vwR 3 4) 1 = [⟨0, 0, 3, 4⟩] := by
  have h1 : madeAt oneN ((0 : Nat) : Int) = true := one_made
  have h2 : holdAt oneN ((0 : Nat) : Int) = -1 := one_hold
  simp -implicitDefEqProofs only [clipTo, clipStep, h1, h2, Bool.true_eq_false, if_false, if_true, one_vw, List.nil_append]
theorem one_noclip (p : Nat) : (styAt oneN p).clip = false := by
  unfold styAt
  split
  · match p with
    | 0 => rfl
    | p + 1 => rfl
  · rfl

theorem sp_awake22 : CallR Go.Proofs.Try.prog 14 [] [] [] (.rv (.bool true)) := by
  refine callR_G k_decoupagelaw22_awake [] _ (by simp) (by simp [BkAll, bk_agg, bkAll_map, bk_rv, bk_fn, Sty.sv, Ln.sv, Nd.sv]) (fun K hK => ?_)
  have hk := sp_kin_OfR oneN (by decide) one_chk 0 0
  have hc : CallR Go.Proofs.Try.prog 19 [.rv (kinV oneN), .row 1 0 1, .agg [.rv (.int .i64 3), .rv (.int .i64 4)]] [(1, .row 21 0 (rvs (bxL oneB)))] [] (.rv (.sl 4 [[.int .i64 0, .int .i64 0, .int .i64 3, .int .i64 4]])) := by
    have := sp_ClipsN oneN (tree_shp one_tree) (by decide) oneB one_noclip 3 4 rfl 1 0
    rw [show oneN.length = 1 from rfl, one_clip] at this
    exact this
  have e1 : ((0 : Int) == 0) = true := rfl
  have e2 : ((((1 : Nat) : Int)) == 1) = true := rfl
  have e3 : ((3 : Int) == 3) = true := rfl
  have e4 : ((4 : Int) == 4) = true := rfl
  simp -implicitDefEqProofs only [c_decoupagelaw22_awake, go_sem, ↓reduceIte, Nat.reduceEqDiff, Nat.reduceAdd, Nat.reduceSub, Nat.reduceMul, Nat.reduceLeDiff, Nat.reduceLT, reduceCtorEq, Int.reduceToNat]
  have hcall9 := sp_Plain; repeat' (first | (simp -implicitDefEqProofs only [go_sem, ↓reduceIte, Nat.reduceEqDiff, Nat.reduceAdd, Nat.reduceSub, Nat.reduceMul, Nat.reduceLeDiff, Nat.reduceLT, reduceCtorEq, Int.reduceToNat, sty_len]) | (with_reducible refine g_noent ?_) | (with_reducible refine g_call0 hcall9 ?_) | (with_reducible refine g_calld0 hcall9 ?_) | (refine cdS (fun hg => ?_) (fun hg => ?_) <;> try simp -implicitDefEqProofs only [hg, Bool.not_true, Bool.not_false]) | (refine gdS (fun hg => ?_) (fun hg => ?_) <;> try simp -implicitDefEqProofs only [hg, Bool.not_true, Bool.not_false]) | (refine gddS (fun hg => ?_) (fun hg => ?_) <;> try simp -implicitDefEqProofs only [hg, Bool.not_true, Bool.not_false]) | ((with_reducible apply And.intro); focus (first | trivial | omega | decide | (simp -implicitDefEqProofs only [maxLen]; omega) | (simp [maxLen, sty_len, nd_len, ndL_len, lnL_len, intsL_len, rvs_len, lensS_len]; done) | (simp [maxLen, sty_len, nd_len, ndL_len, lnL_len, intsL_len, rvs_len, lensS_len]; omega) | (rfl; done) | (exact ⟨rfl, by decide⟩; done))) | fail)
  refine g_call hk (pre_one rfl) trivial ?_
  repeat' (first | (simp -implicitDefEqProofs only [go_sem, ↓reduceIte, Nat.reduceEqDiff, Nat.reduceAdd, Nat.reduceSub, Nat.reduceMul, Nat.reduceLeDiff, Nat.reduceLT, reduceCtorEq, Int.reduceToNat]) | (with_reducible refine g_noent ?_) | (refine cdS (fun hg => ?_) (fun hg => ?_) <;> try simp -implicitDefEqProofs only [hg, Bool.not_true, Bool.not_false]) | (refine gdS (fun hg => ?_) (fun hg => ?_) <;> try simp -implicitDefEqProofs only [hg, Bool.not_true, Bool.not_false]) | (refine gddS (fun hg => ?_) (fun hg => ?_) <;> try simp -implicitDefEqProofs only [hg, Bool.not_true, Bool.not_false]) | ((with_reducible apply And.intro); focus (first | trivial | omega | decide | (simp -implicitDefEqProofs only [maxLen]; omega) | (simp [maxLen, sty_len, nd_len, ndL_len, lnL_len, intsL_len, rvs_len, lensS_len]; done) | (simp [maxLen, sty_len, nd_len, ndL_len, lnL_len, intsL_len, rvs_len, lensS_len]; omega))) | fail)
  refine g_call hc (pre_one rfl) trivial ?_
  repeat' (first | (simp -implicitDefEqProofs only [go_sem, ↓reduceIte, Nat.reduceEqDiff, Nat.reduceAdd, Nat.reduceSub, Nat.reduceMul, Nat.reduceLeDiff, Nat.reduceLT, reduceCtorEq, Int.reduceToNat, e1, e2, e3, e4, Bool.and_true, Bool.and_self]) | (with_reducible refine g_noent ?_) | (refine cdS (fun hg => ?_) (fun hg => ?_) <;> try simp -implicitDefEqProofs only [hg, Bool.not_true, Bool.not_false]) | (refine gdS (fun hg => ?_) (fun hg => ?_) <;> try simp -implicitDefEqProofs only [hg, Bool.not_true, Bool.not_false]) | (refine gddS (fun hg => ?_) (fun hg => ?_) <;> try simp -implicitDefEqProofs only [hg, Bool.not_true, Bool.not_false]) | ((with_reducible apply And.intro); focus (first | trivial | omega | decide | (simp -implicitDefEqProofs only [maxLen]; omega) | (simp [maxLen, sty_len, nd_len, ndL_len, lnL_len, intsL_len, rvs_len, lensS_len]; done) | (simp [maxLen, sty_len, nd_len, ndL_len, lnL_len, intsL_len, rvs_len, lensS_len]; omega))) | fail)
  exact (hK _ _ (ret_t rfl)).2

end Go.Eng


/- clip: the statements as functions: inside. -/
namespace Go.Eng
open Go

end Go.Eng


/- What comes in, as boxes and views. -/
namespace Go.Eng
open Go Go.Proofs
structure Vw where
  w : Int
  h : Int
  hw : w < 9223372036854775808
  hh : h < 9223372036854775808
theorem aggV : aggT Go.Proofs.Try.prog 25 = some true := by kernel_rfl
theorem openView {rs : List RV} (h : TyC Go.Proofs.Try.prog 2 25 rs) : ∃ v : Vw, argS Go.Proofs.Try.prog 25 rs = .agg [.rv (.int .i64 v.w), .rv (.int .i64 v.h)] := by
  have h := tyC_struct Try.underlying25 h
  obtain ⟨_, _, rfl, h1, _, _, rfl, h2, rfl⟩ := h
  obtain ⟨i, rfl, hw⟩ := tyC_int Try.underlying2 h1
  obtain ⟨j, rfl, hh⟩ := tyC_int Try.underlying2 h2
  have m : IntKind.i64.max = 9223372036854775807 := rfl
  simp [Lit.wf, m] at hw hh
  exact ⟨⟨i, j, by omega, by omega⟩, argS_agg aggV⟩
end Go.Eng
