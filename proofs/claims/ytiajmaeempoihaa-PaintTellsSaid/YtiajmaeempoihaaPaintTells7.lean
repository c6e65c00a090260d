/- Part 7 of the proof: V14, V15, KL. -/
import Derived.Test.YtiajmaeempoihaaPaintTells6
set_option linter.unusedSimpArgs false
set_option linter.unusedVariables false

/- paint: the statements as functions: parts of them. -/
namespace Go.Eng
open Go
/- decoupage/decoupagelaw25.few -/
def c_decoupagelaw25_few : AC := (.seq (.reg [⟨(some 2), .mv, [(.c (.rv (.bool false)))], none⟩]) (.seq (.seq (.reg [⟨(some 7), .mv, [(.t 0)], none⟩, ⟨(some 8), .len, [(.t 7)], none⟩, ⟨(some 9), .mv, [(.c (.rv (.int .i64 0)))], none⟩]) (.seq (.block 0 (.loop (.seq (.reg [⟨(some 10), (.ibin .lss), [(.t 9), (.t 8)], none⟩]) (.seq (.cond (.t 10) .skip (.exit 0)) (.seq (.seq (.block 1 (.seq (.reg [⟨(some 11), .mv, [(.t 9)], none⟩, ⟨(some 3), .mv, [(.t 11)], none⟩]) (.seq (.reg [⟨(some 12), .mv, [(.t 0)], none⟩, ⟨(some 13), .mv, [(.t 3)], none⟩, ⟨(some 14), (.ixs 21), [(.t 12), (.t 13)], none⟩, ⟨(some 15), (.load 21 true), [(.t 14)], none⟩, ⟨(some 4), (.alloc [(.bool false), (.int .i64 0), (.int .i64 0), (.int .i64 0), (.int .i64 0), (.int .i64 0), (.int .i64 0), (.int .i64 0), (.int .i64 0), (.int .i64 0), (.int .i64 0), (.int .i64 0), (.int .i64 0), (.int .i64 0), (.int .i64 0), (.int .i64 0), (.int .i64 0), (.int .i64 0), (.int .i64 0), (.int .i64 0), (.int .i64 0)]), [], none⟩, ⟨none, (.store 21), [(.t 4), (.t 15)], none⟩]) (.seq (.reg [⟨(some 16), (.fld 1), [(.t 4)], none⟩, ⟨(some 17), (.load 1 false), [(.t 16)], none⟩, ⟨(some 18), (.fld 2), [(.t 4)], none⟩, ⟨(some 19), (.load 1 false), [(.t 18)], none⟩, ⟨(some 20), (.fld 3), [(.t 4)], none⟩, ⟨(some 21), (.load 1 false), [(.t 20)], none⟩, ⟨(some 22), (.fld 4), [(.t 4)], none⟩, ⟨(some 23), (.load 1 false), [(.t 22)], none⟩, ⟨(some 24), (.fld 13), [(.t 4)], none⟩, ⟨(some 25), (.ixa 4 1), [(.t 24), (.c (.rv (.int .i64 0)))], none⟩, ⟨(some 26), (.load 1 false), [(.t 25)], none⟩, ⟨(some 27), (.fld 13), [(.t 4)], none⟩, ⟨(some 28), (.ixa 4 1), [(.t 27), (.c (.rv (.int .i64 1)))], none⟩, ⟨(some 29), (.load 1 false), [(.t 28)], none⟩, ⟨(some 30), (.fld 13), [(.t 4)], none⟩, ⟨(some 31), (.ixa 4 1), [(.t 30), (.c (.rv (.int .i64 2)))], none⟩, ⟨(some 32), (.load 1 false), [(.t 31)], none⟩, ⟨(some 33), (.fld 13), [(.t 4)], none⟩, ⟨(some 34), (.ixa 4 1), [(.t 33), (.c (.rv (.int .i64 3)))], none⟩, ⟨(some 35), (.load 1 false), [(.t 34)], none⟩, ⟨(some 36), (.fld 17), [(.t 4)], none⟩, ⟨(some 37), (.ixa 4 1), [(.t 36), (.c (.rv (.int .i64 0)))], none⟩, ⟨(some 38), (.load 1 false), [(.t 37)], none⟩, ⟨(some 39), (.fld 17), [(.t 4)], none⟩, ⟨(some 40), (.ixa 4 1), [(.t 39), (.c (.rv (.int .i64 1)))], none⟩, ⟨(some 41), (.load 1 false), [(.t 40)], none⟩, ⟨(some 42), (.fld 17), [(.t 4)], none⟩, ⟨(some 43), (.ixa 4 1), [(.t 42), (.c (.rv (.int .i64 2)))], none⟩, ⟨(some 44), (.load 1 false), [(.t 43)], none⟩, ⟨(some 45), (.fld 17), [(.t 4)], none⟩, ⟨(some 46), (.ixa 4 1), [(.t 45), (.c (.rv (.int .i64 3)))], none⟩, ⟨(some 47), (.load 1 false), [(.t 46)], none⟩, ⟨(some 48), (.build [(.int .i64 0), (.int .i64 0), (.int .i64 0), (.int .i64 0), (.int .i64 0), (.int .i64 0), (.int .i64 0), (.int .i64 0), (.int .i64 0), (.int .i64 0), (.int .i64 0), (.int .i64 0)] [(0, 1), (1, 1), (2, 1), (3, 1), (4, 1), (5, 1), (6, 1), (7, 1), (8, 1), (9, 1), (10, 1), (11, 1)]), [(.t 17), (.t 19), (.t 21), (.t 23), (.t 26), (.t 29), (.t 32), (.t 35), (.t 38), (.t 41), (.t 44), (.t 47)], none⟩, ⟨(some 49), .mv, [(.c (.rv (.int .i64 0)))], none⟩]) (.seq (.block 2 (.loop (.seq (.reg [⟨(some 50), (.ibin .lss), [(.t 49), (.c (.rv (.int .i64 12)))], none⟩]) (.seq (.cond (.t 50) .skip (.exit 2)) (.seq (.seq (.block 3 (.seq (.reg [⟨(some 51), (.ixv 12 1 false), [(.t 48), (.t 49)], none⟩, ⟨(some 6), .mv, [(.t 51)], none⟩]) (.seq (.reg [⟨(some 52), .mv, [(.t 6)], none⟩, ⟨(some 53), (.ibin .lss), [(.t 52), (.c (.rv (.int .i64 (-1125899906842624))))], none⟩, ⟨(some 54), .mv, [(.t 53)], none⟩, ⟨(some 55), .mv, [(.t 6)], (some (54, false))⟩, ⟨(some 56), (.ibin .gtr), [(.t 55), (.c (.rv (.int .i64 1125899906842624)))], (some (54, false))⟩, ⟨(some 57), .pick, [(.t 54), (.c (.rv (.bool true))), (.t 56)], none⟩]) (.cond (.t 57) (.seq (.reg [⟨(some 2), .mv, [(.c (.rv (.bool false)))], none⟩]) .ret) .skip)))) .ent) (.reg [⟨(some 58), (.ibin .add), [(.t 49), (.c (.rv (.int .i64 1)))], none⟩, ⟨(some 49), .mv, [(.t 58)], none⟩])))))) .ent))))) .ent) (.reg [⟨(some 59), (.ibin .add), [(.t 9), (.c (.rv (.int .i64 1)))], none⟩, ⟨(some 9), .mv, [(.t 59)], none⟩])))))) .ent)) (.seq (.reg [⟨(some 2), .mv, [(.c (.rv (.bool true)))], none⟩]) .ret)))
theorem k_decoupagelaw25_few : FnOK Go.Proofs.Try.prog 38 60 c_decoupagelaw25_few [(.t 2)] := fnOK_of (by kernel_rfl)

/- decoupage/decoupagelaw25.awake -/
def c_decoupagelaw25_awake : AC := (.seq (.reg [⟨(some 0), .mv, [(.c (.rv (.bool false)))], none⟩]) (.seq (.reg [⟨(some 5), (.call 44), [], none⟩, ⟨(some 1), (.alloc [(.bool false), (.int .i64 0), (.int .i64 0), (.int .i64 0), (.int .i64 0), (.int .i64 0), (.int .i64 0), (.int .i64 0), (.int .i64 0), (.int .i64 0), (.int .i64 0), (.int .i64 0), (.int .i64 0), (.int .i64 0), (.int .i64 0), (.int .i64 0), (.int .i64 0), (.int .i64 0), (.int .i64 0), (.int .i64 0), (.int .i64 0), (.int .i64 0), (.int .i64 0), (.int .i64 0), (.int .i64 0), (.int .i64 0), (.int .i64 0), (.int .i64 0), (.int .i64 0), (.int .i64 0), (.int .i64 0), (.int .i64 0), (.int .i64 0), (.int .i64 0), (.int .i64 0), (.int .i64 0), (.int .i64 0), (.int .i64 0), (.int .i64 0), (.int .i64 0), (.int .i64 0), (.int .i64 0), (.bool false), (.bool false), (.int .i64 0), (.bool false), (.int .i64 0), (.int .i64 0)]), [], none⟩, ⟨none, (.store 48), [(.t 1), (.t 5)], none⟩]) (.seq (.reg [⟨(some 6), (.fld 46), [(.t 1)], none⟩, ⟨none, (.store 1), [(.t 6), (.c (.rv (.int .i64 5)))], none⟩]) (.seq (.reg [⟨(some 8), (.load 48 true), [(.t 1)], none⟩, ⟨(some 9), (.build [(.bool false), (.int .i64 0), (.int .i64 0), (.int .i64 0), (.int .i64 0), (.int .i64 0), (.int .i64 0), (.int .i64 0), (.int .i64 0), (.int .i64 0), (.int .i64 0), (.int .i64 0), (.int .i64 0), (.int .i64 0), (.int .i64 0), (.int .i64 0), (.int .i64 0), (.int .i64 0), (.int .i64 0), (.int .i64 0), (.int .i64 0), (.int .i64 0), (.int .i64 0), (.int .i64 0), (.int .i64 0), (.int .i64 0), (.int .i64 0), (.int .i64 0), (.int .i64 0), (.int .i64 0), (.int .i64 0), (.int .i64 0), (.int .i64 0), (.int .i64 0), (.int .i64 0), (.int .i64 0), (.int .i64 0), (.int .i64 0), (.int .i64 0), (.int .i64 0), (.int .i64 0), (.int .i64 0), (.bool false), (.bool false), (.int .i64 0), (.bool false), (.int .i64 0), (.int .i64 0), (.int .i64 0)] [(0, 48), (48, 1)]), [(.t 8), (.c (.rv (.int .i64 (-1))))], none⟩, ⟨(some 10), (.bsl 49), [(.t 9)], none⟩, ⟨(some 11), (.call 17), [(.t 10)], none⟩, ⟨(some 7), .mv, [(.t 11)], none⟩, ⟨(some 12), (.ext 0), [(.t 7)], none⟩, ⟨(some 13), (.ext 1), [(.t 7)], none⟩, ⟨(some 2), .mv, [(.t 12)], none⟩, ⟨(some 3), .mv, [(.t 13)], none⟩]) (.seq (.reg [⟨(some 14), .mv, [(.t 2)], none⟩, ⟨(some 15), (.build [(.bool false), (.int .i64 0), (.int .i64 0), (.int .i64 0), (.int .i64 0), (.int .i64 0), (.int .i64 0), (.int .i64 0), (.int .i64 0), (.int .i64 0), (.int .i64 0), (.int .i64 0), (.int .i64 0), (.int .i64 0), (.int .i64 0), (.int .i64 0), (.int .i64 0), (.int .i64 0), (.int .i64 0), (.int .i64 0), (.int .i64 0)] [(0, 1), (3, 1), (4, 1)]), [(.c (.rv (.bool true))), (.c (.rv (.int .i64 3))), (.c (.rv (.int .i64 4)))], none⟩, ⟨(some 16), (.bsl 21), [(.t 15)], none⟩, ⟨(some 17), (.build [(.int .i64 0), (.int .i64 0), (.int .i64 0), (.int .i64 0)] [(2, 1), (3, 1)]), [(.c (.rv (.int .i64 9))), (.c (.rv (.int .i64 9)))], none⟩, ⟨(some 18), (.bsl 4), [(.t 17)], none⟩, ⟨(some 19), (.call 40), [(.t 14), (.t 16), (.t 18)], none⟩, ⟨(some 4), .mv, [(.t 19)], none⟩]) (.seq (.reg [⟨(some 20), .mv, [(.t 3)], none⟩, ⟨(some 21), (.ibin .eql), [(.t 20), (.c (.rv (.int .i64 0)))], none⟩, ⟨(some 22), .mv, [(.t 21)], none⟩, ⟨(some 23), .mv, [(.t 4)], (some (22, true))⟩, ⟨(some 24), .len, [(.t 23)], (some (22, true))⟩, ⟨(some 25), (.ibin .eql), [(.t 24), (.c (.rv (.int .i64 1)))], (some (22, true))⟩, ⟨(some 26), .pick, [(.t 22), (.t 25), (.c (.rv (.bool false)))], none⟩, ⟨(some 27), .mv, [(.t 26)], none⟩, ⟨(some 28), .mv, [(.t 4)], (some (27, true))⟩, ⟨(some 29), (.ixs 15), [(.t 28), (.c (.rv (.int .i64 0)))], (some (27, true))⟩, ⟨(some 30), (.fld 2), [(.t 29)], (some (27, true))⟩, ⟨(some 31), (.load 4 true), [(.t 30)], (some (27, true))⟩, ⟨(some 32), (.build [(.int .i64 0), (.int .i64 0), (.int .i64 0), (.int .i64 0)] [(2, 1), (3, 1)]), [(.c (.rv (.int .i64 3))), (.c (.rv (.int .i64 4)))], (some (27, true))⟩, ⟨(some 33), (.eqs false true [.i, .i, .i, .i]), [(.t 31), (.t 32)], (some (27, true))⟩, ⟨(some 34), .pick, [(.t 27), (.t 33), (.c (.rv (.bool false)))], none⟩, ⟨(some 35), .mv, [(.t 34)], none⟩, ⟨(some 36), .mv, [(.t 4)], (some (35, true))⟩, ⟨(some 37), (.ixs 15), [(.t 36), (.c (.rv (.int .i64 0)))], (some (35, true))⟩, ⟨(some 38), (.fld 14), [(.t 37)], (some (35, true))⟩, ⟨(some 39), (.load 1 false), [(.t 38)], (some (35, true))⟩, ⟨(some 40), (.ibin .eql), [(.t 39), (.c (.rv (.int .i64 5)))], (some (35, true))⟩, ⟨(some 41), .pick, [(.t 35), (.t 40), (.c (.rv (.bool false)))], none⟩, ⟨(some 0), .mv, [(.t 41)], none⟩]) .ret))))))
theorem k_decoupagelaw25_awake : FnOK Go.Proofs.Try.prog 37 42 c_decoupagelaw25_awake [(.t 0)] := fnOK_of (by kernel_rfl)


set_option maxRecDepth 10000 in
set_option maxHeartbeats 4000000 in
theorem sp_few25 (bx : List Bx) (hb : bx.length ≤ 8589934592) : CallR Go.Proofs.Try.prog 38 [.rv (.sl 21 (bxL bx))] [] [] (.rv (.bool (bx.all fewB))) := by
  refine callR_G k_decoupagelaw25_few [.rv (.sl 21 (bxL bx))] _ (by simp) (by simp [BkAll, bk_agg, bkAll_map, bk_rv, bk_fn, Sty.sv, Ln.sv, Nd.sv]) (fun K hK => ?_)
  have hlen := bxL_len bx
  simp -implicitDefEqProofs only [c_decoupagelaw25_few, go_sem]
  repeat' (first | (simp -implicitDefEqProofs only [go_sem, hlen]) | (with_reducible refine g_noent ?_) | ((first | refine cdS (fun hg => ?_) (fun hg => ?_) | refine gdS (fun hg => ?_) (fun hg => ?_) | refine gddS (fun hg => ?_) (fun hg => ?_)) <;> try simp -implicitDefEqProofs only [hg, Bool.not_true, Bool.not_false]) | ((with_reducible apply And.intro); focus (first | trivial | omega | decide | (simp -implicitDefEqProofs only [maxLen]; omega) | (simp [maxLen, sty_len, nd_len, ndL_len, lnL_len, intsL_len, rvs_len, lensS_len] <;> omega))) | fail)
  refine g_loop (ι := Nat) (fun k => [(9, .rv (.int .i64 k)), (8, .rv (.int .i64 bx.length)), (0, .rv (.sl 21 (bxL bx)))]) (fun _ => []) (fun k => k ≤ bx.length ∧ (bx.drop k).all fewB = bx.all fewB) (fun k => bx.length - k) 0 (by simp) (ent_env (by simp [lk])) (fun k hk K' hN hX hR => ?_)
  obtain ⟨hk1, hk2⟩ := hk
  simp -implicitDefEqProofs only [go_sem]
  refine cdS (fun hg => ?_) (fun hg => ?_)
  · have hk4 : k < bx.length := by simp at hg; omega
    have hx := bxL_get (l := bx) hk4
    have hr : ∀ b : Bx, (b.cells.map SV.rv)[1]? = some (.rv (.int .i64 b.x)) ∧ (b.cells.map SV.rv)[2]? = some (.rv (.int .i64 b.y)) ∧ (b.cells.map SV.rv)[3]? = some (.rv (.int .i64 b.w)) ∧ (b.cells.map SV.rv)[4]? = some (.rv (.int .i64 b.h)) := fun b => ⟨rfl, rfl, rfl, rfl⟩
    repeat' (first | (simp -implicitDefEqProofs only [go_sem, hlen, hx, Bx.cells]) | (with_reducible refine g_noent ?_) | ((first | refine cdS (fun hg => ?_) (fun hg => ?_) | refine gdS (fun hg => ?_) (fun hg => ?_) | refine gddS (fun hg => ?_) (fun hg => ?_)) <;> try simp -implicitDefEqProofs only [hg, Bool.not_true, Bool.not_false]) | ((with_reducible apply And.intro); focus (first | trivial | omega | decide | (simp -implicitDefEqProofs only [maxLen]; omega) | (simp [maxLen, sty_len, nd_len, ndL_len, lnL_len, intsL_len, rvs_len, lensS_len] <;> omega))) | fail)
    refine g_loop (ι := Nat) (fun j => [(49, .rv (.int .i64 j)), (48, .agg (numsV (bx[k]'hk4))), (9, .rv (.int .i64 k)), (8, .rv (.int .i64 bx.length)), (0, .rv (.sl 21 (bxL bx)))]) (fun _ => []) (fun j => j ≤ 12 ∧ ((bx[k]'hk4).nums.drop j).all fewN = (bx[k]'hk4).nums.all fewN) (fun j => 12 - j) 0 (by simp) ?_ (fun j hj K2 hN2 hX2 hR2 => ?_)
    · exact ent_tail (h' := []) (by simp) trivial (by
      have hc : ClS 0 (.agg (numsV (bx[k]'hk4))) := by
        have := @clS_aggrv 0 ((bx[k]'hk4).nums.map fun n => RV.int .i64 n)
        rwa [List.map_map] at this
      simp -implicitDefEqProofs only [ClEnv, lk, clS_rv, hc]
      simp [numsV, Bx.nums]
      exact hc)
    · obtain ⟨hj1, hj2⟩ := hj
      have hnl := nums_len (bx[k]'hk4)
      have hvl := numsV_len (bx[k]'hk4)
      simp -implicitDefEqProofs only [go_sem]
      refine cdS (fun hg => ?_) (fun hg => ?_)
      · have hj4 : j < (bx[k]'hk4).nums.length := by simp at hg; omega
        have hy := numsV_get _ hj4
        have wu := wrap_up (k := j) (by omega)
        generalize hn : (bx[k]'hk4).nums[j]'hj4 = n at *
        cases e1 : decide (n < -1125899906842624) with
        | true =>
          repeat' (first | (simp -implicitDefEqProofs only [go_sem, hy, e1]) | (with_reducible refine g_noent ?_) | ((first | refine cdS (fun hg => ?_) (fun hg => ?_) | refine gdS (fun hg => ?_) (fun hg => ?_) | refine gddS (fun hg => ?_) (fun hg => ?_)) <;> try simp -implicitDefEqProofs only [hg, Bool.not_true, Bool.not_false]) | ((with_reducible apply And.intro); focus (first | trivial | omega | decide | (simp -implicitDefEqProofs only [maxLen]; omega) | (simp [maxLen, sty_len, nd_len, ndL_len, lnL_len, intsL_len, rvs_len, lensS_len] <;> omega))) | fail)
          refine hR2 _ _ (hR _ _ (hK _ _ (ret_t ?_)).2)
          rw [all_fail hk4 hk2 (by rw [fewB_eq, all_fail hj4 hj2 (by rw [hn]; simp [fewN, e1])])]; rfl
        | false =>
          cases e2 : decide (n > 1125899906842624) with
          | true =>
            repeat' (first | (simp -implicitDefEqProofs only [go_sem, hy, e1, e2]) | (with_reducible refine g_noent ?_) | ((first | refine cdS (fun hg => ?_) (fun hg => ?_) | refine gdS (fun hg => ?_) (fun hg => ?_) | refine gddS (fun hg => ?_) (fun hg => ?_)) <;> try simp -implicitDefEqProofs only [hg, Bool.not_true, Bool.not_false]) | ((with_reducible apply And.intro); focus (first | trivial | omega | decide | (simp -implicitDefEqProofs only [maxLen]; omega) | (simp [maxLen, sty_len, nd_len, ndL_len, lnL_len, intsL_len, rvs_len, lensS_len] <;> omega))) | fail)
            refine hR2 _ _ (hR _ _ (hK _ _ (ret_t ?_)).2)
            rw [all_fail hk4 hk2 (by rw [fewB_eq, all_fail hj4 hj2 (by rw [hn]; simp [fewN, e1, e2])])]; rfl
          | false =>
            repeat' (first | (simp -implicitDefEqProofs only [go_sem, hy, e1, e2, wu]) | (with_reducible refine g_noent ?_) | ((first | refine cdS (fun hg => ?_) (fun hg => ?_) | refine gdS (fun hg => ?_) (fun hg => ?_) | refine gddS (fun hg => ?_) (fun hg => ?_)) <;> try simp -implicitDefEqProofs only [hg, Bool.not_true, Bool.not_false]) | ((with_reducible apply And.intro); focus (first | trivial | omega | decide | (simp -implicitDefEqProofs only [maxLen]; omega) | (simp [maxLen, sty_len, nd_len, ndL_len, lnL_len, intsL_len, rvs_len, lensS_len] <;> omega))) | fail)
            exact hN2 (j + 1) _ _ ⟨by omega, all_next hj4 hj2 (by rw [hn]; simp [fewN, e1, e2])⟩ (by omega) (ent_env (by simp [lk]))
      · have hj4 : j = 12 := by simp at hg; omega
        subst hj4
        have wu := wrap_up (k := k) (by omega)
        have hb := all_done (l := (bx[k]'hk4).nums) (by omega) hj2
        simp -implicitDefEqProofs only [go_sem]
        refine hX2 _ _ _ ?_
        repeat' (first | (simp -implicitDefEqProofs only [go_sem, wu]) | (with_reducible refine g_noent ?_) | ((first | refine cdS (fun hg => ?_) (fun hg => ?_) | refine gdS (fun hg => ?_) (fun hg => ?_) | refine gddS (fun hg => ?_) (fun hg => ?_)) <;> try simp -implicitDefEqProofs only [hg, Bool.not_true, Bool.not_false]) | ((with_reducible apply And.intro); focus (first | trivial | omega | decide | (simp -implicitDefEqProofs only [maxLen]; omega) | (simp [maxLen, sty_len, nd_len, ndL_len, lnL_len, intsL_len, rvs_len, lensS_len] <;> omega))) | fail)
        exact hN (k + 1) _ _ ⟨by omega, all_next hk4 hk2 hb⟩ (by omega) (ent_env (by simp [lk]))
  · have hk4 : k = bx.length := by simp at hg; omega
    subst hk4
    simp -implicitDefEqProofs only [go_sem]
    refine hX _ _ _ ?_
    repeat' (first | (simp -implicitDefEqProofs only [go_sem]) | (with_reducible refine g_noent ?_) | ((first | refine cdS (fun hg => ?_) (fun hg => ?_) | refine gdS (fun hg => ?_) (fun hg => ?_) | refine gddS (fun hg => ?_) (fun hg => ?_)) <;> try simp -implicitDefEqProofs only [hg, Bool.not_true, Bool.not_false]) | ((with_reducible apply And.intro); focus (first | trivial | omega | decide | (simp -implicitDefEqProofs only [maxLen]; omega) | (simp [maxLen, sty_len, nd_len, ndL_len, lnL_len, intsL_len, rvs_len, lensS_len] <;> omega))) | fail)
    refine (hK _ _ (ret_t ?_)).2
    rw [all_done (Nat.le_refl _) hk2]; rfl

set_option maxRecDepth 20000 in
set_option maxHeartbeats 4000000 in
theorem sp_paint_ItemsN (m : Nat) (l : List Nd) (hs : Shp l) (hb : l.length ≤ 1000) (bx : List Bx) (cl : List Rc) (hf : bx.all fewB = true) : CallR Go.Proofs.Try.prog 40 [.rv (kinV l), .rv (.sl 21 (bxL bx)), .rv (.sl 4 (rcL cl))] [] [(m, .row 15 (itemsI l bx cl).length (rvs (itL (itemsI l bx cl))))] (.row m (itemsI l bx cl).length (itemsI l bx cl).length) := by
  refine callR_M k_paint_Items [] [] [] [.rv (kinV l), .rv (.sl 21 (bxL bx)), .rv (.sl 4 (rcL cl))] [.rv (kinV l), .rv (.sl 21 (bxL bx)), .rv (.sl 4 (rcL cl))] _ _ (by simp) (by simp [BkAll, bk_rv]) rfl (by simp [nodupL]) (by simp [BkHs]) (fun K hK => ?_)
  have hbn := bxL_len bx
  have hcn := rcL_len cl
  have hmd := sp_Made l 0
  simp -implicitDefEqProofs only [c_paint_Items, go_sem]
  by_cases h1 : bx.length = l.length
  · have e1 : ((bx.length : Int) != (l.length : Int)) = false := by simp [h1]
    by_cases h2 : cl.length = l.length
    · have e2 : ((cl.length : Int) != (l.length : Int)) = false := by simp [h2]
      cases h0 : madeAt l 0 with
      | true =>
        rw [h0] at hmd
        have hI : itemsI l bx cl = paintI l bx cl := if_pos ⟨h1, h2, h0⟩
        rw [hI] at hK
        have hst := sp_painter_sort l hs hb bx cl 0
        have hcx := sp_context0 l hs hb bx cl h1 h2 hf h0
        generalize paintI l bx cl = X at *
        have y_1 := sp_Len l; have y_2 := hmd; have y_3 := hst; have y_4 := hcx; repeat' (first | (simp -implicitDefEqProofs only [go_sem, hbn, hcn, e1, e2]) | (with_reducible refine g_noent ?_) | (with_reducible first | refine g_call0 y_1 ?_ | refine g_calld0 y_1 ?_) | (with_reducible first | refine g_call0 y_2 ?_ | refine g_calld0 y_2 ?_) | (refine g_call y_3 (by simp [PreOK, hget]; done) (by simp [okU, uph]; done) ?_) | (refine g_calld y_3 (by simp [PreOK, hget]; done) (by simp [okU, uph]; done) ?_) | (refine g_call y_4 (by simp [PreOK, hget]; done) (by simp [okU, uph]; done) ?_) | (refine g_calld y_4 (by simp [PreOK, hget]; done) (by simp [okU, uph]; done) ?_) | ((first | refine cdS (fun hg => ?_) (fun hg => ?_) | refine gdS (fun hg => ?_) (fun hg => ?_) | refine gddS (fun hg => ?_) (fun hg => ?_)) <;> try simp -implicitDefEqProofs only [hg, Bool.not_true, Bool.not_false]) | ((with_reducible apply And.intro); focus (first | trivial | omega | decide | (simp -implicitDefEqProofs only [maxLen]; omega) | (simp [maxLen, sty_len, nd_len, ndL_len, lnL_len, intsL_len, rvs_len, lensS_len] <;> omega))) | fail)
        refine (hK _ _ _ _ [none, some m] (ent_refl _ _) ?_).2
        simp [retM, nodupL, newL, allU, keptL, retP, resL, lk, resT, RnHo, lkp, finU, hget_zero, hget_succ, hget, rnRows_rvs, rn_tup, rn_rv, rn_row, rn_ptr, rn_ifc, rn_agg, rn_dead, RnAll, ofL, rnAll_map]
      | false =>
        rw [h0] at hmd
        have hI : itemsI l bx cl = [] := if_neg (by rw [h0]; simp)
        rw [hI] at hK
        have y_5 := sp_Len l; have y_6 := hmd; repeat' (first | (simp -implicitDefEqProofs only [go_sem, hbn, hcn, e1, e2]) | (with_reducible refine g_noent ?_) | (with_reducible first | refine g_call0 y_5 ?_ | refine g_calld0 y_5 ?_) | (with_reducible first | refine g_call0 y_6 ?_ | refine g_calld0 y_6 ?_) | ((first | refine cdS (fun hg => ?_) (fun hg => ?_) | refine gdS (fun hg => ?_) (fun hg => ?_) | refine gddS (fun hg => ?_) (fun hg => ?_)) <;> try simp -implicitDefEqProofs only [hg, Bool.not_true, Bool.not_false]) | ((with_reducible apply And.intro); focus (first | trivial | omega | decide | (simp -implicitDefEqProofs only [maxLen]; omega) | (simp [maxLen, sty_len, nd_len, ndL_len, lnL_len, intsL_len, rvs_len, lensS_len] <;> omega))) | fail)
        refine (hK _ _ _ _ [some m] (ent_ghostv 6 15 0 rfl) ?_).2
        simp [retM, nodupL, newL, allU, keptL, retP, resL, lk, resT, RnHo, lkp, finU, hget_zero, hget_succ, hget, rnRows_rvs, rn_tup, rn_rv, rn_row, rn_ptr, rn_ifc, rn_agg, rn_dead, RnAll, ofL, rnAll_map]
        exact ⟨by simp [rvs, itL], fun i x y hx => by simp at hx⟩
    · have e2 : ((cl.length : Int) != (l.length : Int)) = true := by simp; omega
      have hI : itemsI l bx cl = [] := if_neg (fun h => h2 h.2.1)
      rw [hI] at hK
      have y_7 := sp_Len l; repeat' (first | (simp -implicitDefEqProofs only [go_sem, hbn, hcn, e1, e2]) | (with_reducible refine g_noent ?_) | (with_reducible first | refine g_call0 y_7 ?_ | refine g_calld0 y_7 ?_) | ((first | refine cdS (fun hg => ?_) (fun hg => ?_) | refine gdS (fun hg => ?_) (fun hg => ?_) | refine gddS (fun hg => ?_) (fun hg => ?_)) <;> try simp -implicitDefEqProofs only [hg, Bool.not_true, Bool.not_false]) | ((with_reducible apply And.intro); focus (first | trivial | omega | decide | (simp -implicitDefEqProofs only [maxLen]; omega) | (simp [maxLen, sty_len, nd_len, ndL_len, lnL_len, intsL_len, rvs_len, lensS_len] <;> omega))) | fail)
      refine (hK _ _ _ _ [some m] (ent_ghostv 6 15 0 rfl) ?_).2
      simp [retM, nodupL, newL, allU, keptL, retP, resL, lk, resT, RnHo, lkp, finU, hget_zero, hget_succ, hget, rnRows_rvs, rn_tup, rn_rv, rn_row, rn_ptr, rn_ifc, rn_agg, rn_dead, RnAll, ofL, rnAll_map]
      exact ⟨by simp [rvs, itL], fun i x y hx => by simp at hx⟩
  · have e1 : ((bx.length : Int) != (l.length : Int)) = true := by simp; omega
    have hI : itemsI l bx cl = [] := if_neg (fun h => h1 h.1)
    rw [hI] at hK
    have y_8 := sp_Len l; repeat' (first | (simp -implicitDefEqProofs only [go_sem, hbn, hcn, e1]) | (with_reducible refine g_noent ?_) | (with_reducible first | refine g_call0 y_8 ?_ | refine g_calld0 y_8 ?_) | ((first | refine cdS (fun hg => ?_) (fun hg => ?_) | refine gdS (fun hg => ?_) (fun hg => ?_) | refine gddS (fun hg => ?_) (fun hg => ?_)) <;> try simp -implicitDefEqProofs only [hg, Bool.not_true, Bool.not_false]) | ((with_reducible apply And.intro); focus (first | trivial | omega | decide | (simp -implicitDefEqProofs only [maxLen]; omega) | (simp [maxLen, sty_len, nd_len, ndL_len, lnL_len, intsL_len, rvs_len, lensS_len] <;> omega))) | fail)
    refine (hK _ _ _ _ [some m] (ent_ghostv 6 15 0 rfl) ?_).2
    simp [retM, nodupL, newL, allU, keptL, retP, resL, lk, resT, RnHo, lkp, finU, hget_zero, hget_succ, hget, rnRows_rvs, rn_tup, rn_rv, rn_row, rn_ptr, rn_ifc, rn_agg, rn_dead, RnAll, ofL, rnAll_map]
    exact ⟨by simp [rvs, itL], fun i x y hx => by simp at hx⟩

theorem flat_it (x : Itm) : ∀ r ∈ x.cells, FlatR r := by
  intro r hr
  simp -implicitDefEqProofs only [Itm.cells, List.mem_cons, List.not_mem_nil, or_false] at hr
  repeat' rcases hr with rfl | hr
  all_goals first | exact .int _ _ | (subst hr; exact .int _ _)
theorem sp_paint_ItemsO (m : Nat) (l : List Nd) (hs : Shp l) (hb : l.length ≤ 1000) (bx : List Bx) (cl : List Rc) (hf : bx.all fewB = true) (i u j v : Nat) (hi : i ≠ m) (hj : j ≠ m) : CallR Go.Proofs.Try.prog 40 [.rv (kinV l), .row i u bx.length, .row j v cl.length] [(i, .row 21 u (rvs (bxL bx))), (j, .row 4 v (rvs (rcL cl)))] [(m, .row 15 (itemsI l bx cl).length (rvs (itL (itemsI l bx cl))))] (.row m (itemsI l bx cl).length (itemsI l bx cl).length) := by
  refine callR_borrowN (args0 := [.rv (kinV l), .rv (.sl 21 (bxL bx)), .rv (.sl 4 (rcL cl))]) (sp_paint_ItemsN m l hs hb bx cl hf) rfl (fun hp' hpre k y r hy hr => ?_) (.row _ _ _) (fun q hq => ?_)
  · match k, hy, hr with
    | 0, hy, hr => cases hy; cases hr; exact rn_rv.2 rfl
    | 1, hy, hr => cases hy; cases hr; exact rn_frz (xs := bxL bx) (hpre _ (.head _)) rfl (by rw [bxL_len]) (bxL_one _)
    | 2, hy, hr => cases hy; cases hr; exact rn_frz (xs := rcL cl) (hpre _ (.tail _ (.head _))) rfl (by rw [rcL_len]) (rcL_one _)
    | k + 3, hy, hr => simp at hy
  · simp at hq; subst hq
    refine ⟨flatH_rvs fun x hx => ?_, fun p hp => ?_⟩
    · obtain ⟨n, _, rfl⟩ := List.mem_map.1 hx
      exact flat_it n
    · simp -implicitDefEqProofs only [List.mem_cons, List.not_mem_nil, or_false] at hp
      rcases hp with rfl | rfl
      · exact hi
      · exact hj

abbrev bkS : Sty := { plainS with back := 5 }
abbrev bkN : List Nd := [⟨bkS, -1⟩]
theorem bk_chk : chk bkN = 0 := by decide +kernel
theorem bk_made : madeAt bkN 0 = true := by decide +kernel
def bkB : List Bx := [⟨true, 0, 0, 3, 4, ⟨0, 0, 0, 0⟩, ⟨0, 0, 0, 0⟩, ⟨0, 0, 0, 0⟩, ⟨0, 0, 0, 0⟩⟩]
def bkI : Itm := ⟨0, 0, ⟨0, 0, 3, 4⟩, ⟨0, 0, 0, 0⟩, ⟨0, 0, 9, 9⟩, 5⟩
theorem bk_own : ownI bkN bkB [⟨0, 0, 9, 9⟩] 0 = [bkI] := by decide +kernel
theorem bk_items : itemsI bkN bkB [⟨0, 0, 9, 9⟩] = [bkI] := by
  have h : itemsI bkN bkB [⟨0, 0, 9, 9⟩] = paintI bkN bkB [⟨0, 0, 9, 9⟩] := if_pos ⟨rfl, rfl, bk_made⟩
  rw [h, ← ref_paint (tree_shp (chk_tree bk_chk)) bk_made]
  show refTo bkN bkB [⟨0, 0, 9, 9⟩] 1 = [bkI]
  have hm : madeAt bkN ((0 : Nat) : Int) = true := bk_made
  rw [refTo, if_pos hm, bk_own]; rfl
set_option maxRecDepth 20000 in
theorem sp_awake25 : CallR Go.Proofs.Try.prog 37 [] [] [] (.rv (.bool true)) := by
  refine callR_G k_decoupagelaw25_awake [] _ (by simp) (by simp [BkAll, bk_agg, bkAll_map, bk_rv, bk_fn, Sty.sv, Ln.sv, Nd.sv]) (fun K hK => ?_)
  have hk := sp_kin_OfR bkN (by decide) bk_chk 1 0
  have hc := sp_paint_ItemsO 4 bkN (tree_shp (chk_tree bk_chk)) (by decide) bkB [⟨0, 0, 9, 9⟩] (by decide) 2 0 3 0 (by decide) (by decide)
  rw [bk_items] at hc
  have e1 : ((0 : Int) == 0) = true := rfl
  have e2 : ((((1 : Nat) : Int)) == 1) = true := rfl
  have e3 : ((3 : Int) == 3) = true := rfl
  have e4 : ((4 : Int) == 4) = true := rfl
  have e5 : ((5 : Int) == 5) = true := rfl
  simp -implicitDefEqProofs only [c_decoupagelaw25_awake, go_sem]
  have y_9 := sp_Plain; repeat' (first | (simp -implicitDefEqProofs only [go_sem, sty_len]) | (with_reducible refine g_noent ?_) | (with_reducible first | refine g_call0 y_9 ?_ | refine g_calld0 y_9 ?_) | ((first | refine cdS (fun hg => ?_) (fun hg => ?_) | refine gdS (fun hg => ?_) (fun hg => ?_) | refine gddS (fun hg => ?_) (fun hg => ?_)) <;> try simp -implicitDefEqProofs only [hg, Bool.not_true, Bool.not_false]) | ((with_reducible apply And.intro); focus (first | trivial | omega | decide | (simp -implicitDefEqProofs only [maxLen]; omega) | (simp [maxLen, sty_len, nd_len, ndL_len, lnL_len, intsL_len, rvs_len, lensS_len] <;> omega) | (rfl; done) | (exact ⟨rfl, by decide⟩; done))) | fail)
  refine g_call hk (pre_one rfl) trivial ?_
  repeat' (first | (simp -implicitDefEqProofs only [go_sem]) | (with_reducible refine g_noent ?_) | ((first | refine cdS (fun hg => ?_) (fun hg => ?_) | refine gdS (fun hg => ?_) (fun hg => ?_) | refine gddS (fun hg => ?_) (fun hg => ?_)) <;> try simp -implicitDefEqProofs only [hg, Bool.not_true, Bool.not_false]) | ((with_reducible apply And.intro); focus (first | trivial | omega | decide | (simp -implicitDefEqProofs only [maxLen]; omega) | (simp [maxLen, sty_len, nd_len, ndL_len, lnL_len, intsL_len, rvs_len, lensS_len] <;> omega))) | fail)
  have hc2 : CallR Go.Proofs.Try.prog 40 [.rv (kinV bkN), .row 2 0 1, .row 3 0 1] [(2, .row 21 0 (rvs (bxL bkB))), (3, .row 4 0 (rvs (rcL [⟨0, 0, 9, 9⟩])))] [(4, .row 15 1 [bkI.cells.map SV.rv])] (.row 4 1 1) := hc
  refine g_call hc2 ?_ (by simp [okU, uph]) ?_
  · intro q hq
    simp -implicitDefEqProofs only [List.mem_cons, List.not_mem_nil, or_false] at hq
    rcases hq with rfl | rfl <;> rfl
  repeat' (first | (simp -implicitDefEqProofs only [go_sem, e1, e2, e3, e4, e5, it_len, bkI, Itm.cells, Bool.and_true, Bool.and_self]) | (with_reducible refine g_noent ?_) | ((first | refine cdS (fun hg => ?_) (fun hg => ?_) | refine gdS (fun hg => ?_) (fun hg => ?_) | refine gddS (fun hg => ?_) (fun hg => ?_)) <;> try simp -implicitDefEqProofs only [hg, Bool.not_true, Bool.not_false]) | ((with_reducible apply And.intro); focus (first | trivial | omega | decide | (simp -implicitDefEqProofs only [maxLen]; omega) | (simp [maxLen, sty_len, nd_len, ndL_len, lnL_len, intsL_len, rvs_len, lensS_len] <;> omega))) | fail)
  exact (hK _ _ (ret_t rfl)).2
end Go.Eng


/- paint: the statement on what is painted. -/
namespace Go.Eng
open Go
/- decoupage/decoupagelaw25.PaintTells -/
def c_decoupagelaw25_PaintTells : AC := (.seq (.reg [⟨(some 6), .mv, [(.c (.rv (.bool false)))], none⟩]) (.seq (.seq (.reg [⟨(some 9), (.call 37), [], none⟩, ⟨(some 10), .not, [(.t 9)], none⟩, ⟨(some 11), .mv, [(.t 10)], none⟩, ⟨(some 12), .mv, [(.t 0)], (some (11, false))⟩, ⟨(some 13), .len, [(.t 12)], (some (11, false))⟩, ⟨(some 14), (.ibin .gtr), [(.t 13), (.c (.rv (.int .i64 20)))], (some (11, false))⟩, ⟨(some 15), .pick, [(.t 11), (.c (.rv (.bool true))), (.t 14)], none⟩, ⟨(some 16), .mv, [(.t 15)], none⟩, ⟨(some 17), .mv, [(.t 1)], (some (16, false))⟩, ⟨(some 18), .len, [(.t 17)], (some (16, false))⟩, ⟨(some 19), (.ibin .gtr), [(.t 18), (.c (.rv (.int .i64 30)))], (some (16, false))⟩, ⟨(some 20), .pick, [(.t 16), (.c (.rv (.bool true))), (.t 19)], none⟩, ⟨(some 21), .mv, [(.t 20)], none⟩, ⟨(some 22), .mv, [(.t 2)], (some (21, false))⟩, ⟨(some 23), .len, [(.t 22)], (some (21, false))⟩, ⟨(some 24), (.ibin .gtr), [(.t 23), (.c (.rv (.int .i64 30)))], (some (21, false))⟩, ⟨(some 25), .pick, [(.t 21), (.c (.rv (.bool true))), (.t 24)], none⟩, ⟨(some 26), .mv, [(.t 25)], none⟩, ⟨(some 27), .mv, [(.t 1)], (some (26, false))⟩, ⟨(some 28), (.call 38), [(.t 27)], (some (26, false))⟩, ⟨(some 29), .not, [(.t 28)], (some (26, false))⟩, ⟨(some 30), .pick, [(.t 26), (.c (.rv (.bool true))), (.t 29)], none⟩, ⟨(some 31), .mv, [(.t 30)], none⟩, ⟨(some 32), .mv, [(.t 0)], (some (31, false))⟩, ⟨(some 33), (.call 16), [(.t 32)], (some (31, false))⟩, ⟨(some 34), (.ibin .neq), [(.t 33), (.c (.rv (.int .i64 0)))], (some (31, false))⟩, ⟨(some 35), .pick, [(.t 31), (.c (.rv (.bool true))), (.t 34)], none⟩]) (.cond (.t 35) (.seq (.reg [⟨(some 36), (.call 37), [], none⟩, ⟨(some 6), .mv, [(.t 36)], none⟩]) .ret) .skip)) (.seq (.reg [⟨(some 38), .mv, [(.t 0)], none⟩, ⟨(some 39), (.call 17), [(.t 38)], none⟩, ⟨(some 37), .mv, [(.t 39)], none⟩, ⟨(some 40), (.ext 0), [(.t 37)], none⟩, ⟨(some 41), (.ext 1), [(.t 37)], none⟩, ⟨(some 7), .mv, [(.t 40)], none⟩, ⟨(some 8), .mv, [(.t 41)], none⟩]) (.seq (.reg [⟨(some 42), .mv, [(.t 8)], none⟩, ⟨(some 43), (.ibin .eql), [(.t 42), (.c (.rv (.int .i64 0)))], none⟩, ⟨(some 44), .mv, [(.t 43)], none⟩, ⟨(some 45), .mv, [(.t 7)], (some (44, true))⟩, ⟨(some 46), .mv, [(.t 1)], (some (44, true))⟩, ⟨(some 47), .mv, [(.t 2)], (some (44, true))⟩, ⟨(some 48), (.call 40), [(.t 45), (.t 46), (.t 47)], (some (44, true))⟩, ⟨(some 49), .mv, [(.t 0)], (some (44, true))⟩, ⟨(some 50), .mv, [(.t 1)], (some (44, true))⟩, ⟨(some 51), .mv, [(.t 2)], (some (44, true))⟩, ⟨(some 52), (.call 41), [(.t 49), (.t 50), (.t 51)], (some (44, true))⟩, ⟨(some 53), (.call 39), [(.t 48), (.t 52)], (some (44, true))⟩, ⟨(some 54), .pick, [(.t 44), (.t 53), (.c (.rv (.bool false)))], none⟩, ⟨(some 6), .mv, [(.t 54)], none⟩]) .ret))))
theorem k_decoupagelaw25_PaintTells : FnOK Go.Proofs.Try.prog 11 55 c_decoupagelaw25_PaintTells [(.t 6)] := fnOK_of (by kernel_rfl)

set_option maxRecDepth 20000 in
set_option maxHeartbeats 4000000 in
theorem sp_PaintTells (l : List Nd) (bx : List Bx) (cl : List Rc) : CallR Go.Proofs.Try.prog 11 [.rv (.sl 49 (ndL l)), .rv (.sl 21 (bxL bx)), .rv (.sl 4 (rcL cl))] [] [] (.rv (.bool true)) := by
  refine callR_G k_decoupagelaw25_PaintTells [.rv (.sl 49 (ndL l)), .rv (.sl 21 (bxL bx)), .rv (.sl 4 (rcL cl))] _ (by simp) (by simp [BkAll, bk_agg, bkAll_map, bk_rv, bk_fn, Sty.sv, Ln.sv, Nd.sv]) (fun K hK => ?_)
  have hlen := ndL_len l
  have hbn := bxL_len bx
  have hcn := rcL_len cl
  simp -implicitDefEqProofs only [c_decoupagelaw25_PaintTells, go_sem]
  by_cases hl : l.length > 20
  · have e1 : decide ((l.length : Int) > 20) = true := decide_eq_true (by omega)
    have y_1 := sp_awake25; repeat' (first | (simp -implicitDefEqProofs only [go_sem, hlen, e1]) | (with_reducible refine g_noent ?_) | (with_reducible first | refine g_call0 y_1 ?_ | refine g_calld0 y_1 ?_) | ((first | refine cdS (fun hg => ?_) (fun hg => ?_) | refine gdS (fun hg => ?_) (fun hg => ?_) | refine gddS (fun hg => ?_) (fun hg => ?_)) <;> try simp -implicitDefEqProofs only [hg, Bool.not_true, Bool.not_false]) | ((with_reducible apply And.intro); focus (first | trivial | omega | decide | (simp -implicitDefEqProofs only [maxLen]; omega) | (simp [maxLen, sty_len, nd_len, ndL_len, lnL_len, intsL_len, rvs_len, lensS_len] <;> omega))) | fail)
    exact (hK _ _ (ret_t rfl)).2
  · have e1 : decide ((l.length : Int) > 20) = false := decide_eq_false (by omega)
    by_cases hbl : bx.length > 30
    · have e2 : decide ((bx.length : Int) > 30) = true := decide_eq_true (by omega)
      have y_2 := sp_awake25; repeat' (first | (simp -implicitDefEqProofs only [go_sem, hlen, e1, hbn, e2]) | (with_reducible refine g_noent ?_) | (with_reducible first | refine g_call0 y_2 ?_ | refine g_calld0 y_2 ?_) | ((first | refine cdS (fun hg => ?_) (fun hg => ?_) | refine gdS (fun hg => ?_) (fun hg => ?_) | refine gddS (fun hg => ?_) (fun hg => ?_)) <;> try simp -implicitDefEqProofs only [hg, Bool.not_true, Bool.not_false]) | ((with_reducible apply And.intro); focus (first | trivial | omega | decide | (simp -implicitDefEqProofs only [maxLen]; omega) | (simp [maxLen, sty_len, nd_len, ndL_len, lnL_len, intsL_len, rvs_len, lensS_len] <;> omega))) | fail)
      exact (hK _ _ (ret_t rfl)).2
    · have e2 : decide ((bx.length : Int) > 30) = false := decide_eq_false (by omega)
      by_cases hcl : cl.length > 30
      · have e3 : decide ((cl.length : Int) > 30) = true := decide_eq_true (by omega)
        have y_3 := sp_awake25; repeat' (first | (simp -implicitDefEqProofs only [go_sem, hlen, e1, hbn, e2, hcn, e3]) | (with_reducible refine g_noent ?_) | (with_reducible first | refine g_call0 y_3 ?_ | refine g_calld0 y_3 ?_) | ((first | refine cdS (fun hg => ?_) (fun hg => ?_) | refine gdS (fun hg => ?_) (fun hg => ?_) | refine gddS (fun hg => ?_) (fun hg => ?_)) <;> try simp -implicitDefEqProofs only [hg, Bool.not_true, Bool.not_false]) | ((with_reducible apply And.intro); focus (first | trivial | omega | decide | (simp -implicitDefEqProofs only [maxLen]; omega) | (simp [maxLen, sty_len, nd_len, ndL_len, lnL_len, intsL_len, rvs_len, lensS_len] <;> omega))) | fail)
        exact (hK _ _ (ret_t rfl)).2
      · have e3 : decide ((cl.length : Int) > 30) = false := decide_eq_false (by omega)
        have hfw := sp_few25 bx (by omega)
        cases hf : bx.all fewB with
        | false =>
          rw [hf] at hfw
          have y_4 := sp_awake25; have y_5 := hfw; repeat' (first | (simp -implicitDefEqProofs only [go_sem, hlen, e1, hbn, e2, hcn, e3]) | (with_reducible refine g_noent ?_) | (with_reducible first | refine g_call0 y_4 ?_ | refine g_calld0 y_4 ?_) | (with_reducible first | refine g_call0 y_5 ?_ | refine g_calld0 y_5 ?_) | ((first | refine cdS (fun hg => ?_) (fun hg => ?_) | refine gdS (fun hg => ?_) (fun hg => ?_) | refine gddS (fun hg => ?_) (fun hg => ?_)) <;> try simp -implicitDefEqProofs only [hg, Bool.not_true, Bool.not_false]) | ((with_reducible apply And.intro); focus (first | trivial | omega | decide | (simp -implicitDefEqProofs only [maxLen]; omega) | (simp [maxLen, sty_len, nd_len, ndL_len, lnL_len, intsL_len, rvs_len, lensS_len] <;> omega))) | fail)
          exact (hK _ _ (ret_t rfl)).2
        | true =>
          rw [hf] at hfw
          have hck := sp_ref07_Check l (by omega)
          by_cases hc : chk l = 0
          · rw [hc] at hck
            have e00 : ((0 : Int) != 0) = false := rfl
            have e01 : ((0 : Int) == 0) = true := rfl
            have hko := sp_kin_Of l (by omega) hc
            have ht := chk_tree hc
            have hs := tree_shp ht
            have hit := sp_paint_Items l hs (by omega) bx cl hf
            have hrf := sp_ref25_Items l ht (by omega) bx cl hf
            have hlI : (itemsI l bx cl).length ≤ 8589934592 := by
              unfold itemsI
              split
              · rename_i h
                have h1 := flat_len (l := l) (bx := bx) (cl := cl) (ctxN l (l.length + 1) 0)
                have h2 := ctx_len (l := l) (d := l.length + 1) (n := 0) (form_zero h.2.2)
                unfold paintI; omega
              · simp
            have hsm := sp_Same25 (itemsI l bx cl) hlI
            have y_6 := sp_awake25; have y_7 := hfw; have y_8 := hck; have y_9 := hko; have y_10 := hit; have y_11 := hrf; have y_12 := hsm; repeat' (first | (simp -implicitDefEqProofs only [go_sem, hlen, e1, hbn, e2, hcn, e3, e00, e01]) | (with_reducible refine g_noent ?_) | (with_reducible first | refine g_call0 y_6 ?_ | refine g_calld0 y_6 ?_) | (with_reducible first | refine g_call0 y_7 ?_ | refine g_calld0 y_7 ?_) | (with_reducible first | refine g_call0 y_8 ?_ | refine g_calld0 y_8 ?_) | (with_reducible first | refine g_call0 y_9 ?_ | refine g_calld0 y_9 ?_) | (with_reducible first | refine g_call0 y_10 ?_ | refine g_calld0 y_10 ?_) | (with_reducible first | refine g_call0 y_11 ?_ | refine g_calld0 y_11 ?_) | (with_reducible first | refine g_call0 y_12 ?_ | refine g_calld0 y_12 ?_) | ((first | refine cdS (fun hg => ?_) (fun hg => ?_) | refine gdS (fun hg => ?_) (fun hg => ?_) | refine gddS (fun hg => ?_) (fun hg => ?_)) <;> try simp -implicitDefEqProofs only [hg, Bool.not_true, Bool.not_false]) | ((with_reducible apply And.intro); focus (first | trivial | omega | decide | (simp -implicitDefEqProofs only [maxLen]; omega) | (simp [maxLen, sty_len, nd_len, ndL_len, lnL_len, intsL_len, rvs_len, lensS_len] <;> omega))) | fail)
            exact (hK _ _ (ret_t rfl)).2
          · have e00 : (chk l != 0) = true := by simpa using hc
            have y_13 := sp_awake25; have y_14 := hfw; have y_15 := hck; repeat' (first | (simp -implicitDefEqProofs only [go_sem, hlen, e1, hbn, e2, hcn, e3, e00]) | (with_reducible refine g_noent ?_) | (with_reducible first | refine g_call0 y_13 ?_ | refine g_calld0 y_13 ?_) | (with_reducible first | refine g_call0 y_14 ?_ | refine g_calld0 y_14 ?_) | (with_reducible first | refine g_call0 y_15 ?_ | refine g_calld0 y_15 ?_) | ((first | refine cdS (fun hg => ?_) (fun hg => ?_) | refine gdS (fun hg => ?_) (fun hg => ?_) | refine gddS (fun hg => ?_) (fun hg => ?_)) <;> try simp -implicitDefEqProofs only [hg, Bool.not_true, Bool.not_false]) | ((with_reducible apply And.intro); focus (first | trivial | omega | decide | (simp -implicitDefEqProofs only [maxLen]; omega) | (simp [maxLen, sty_len, nd_len, ndL_len, lnL_len, intsL_len, rvs_len, lensS_len] <;> omega))) | fail)
            exact (hK _ _ (ret_t rfl)).2

end Go.Eng


/- What comes in, as boxes and rectangles. -/
namespace Go.Eng
open Go Go.Proofs
theorem tyBoxP {n : Nat} {rs : List RV} (h : TyC Go.Proofs.Try.prog (n + 3) 89 rs) : ∃ x : Bx, rs = x.cells := by
  have h := tyC_struct Try.underlying89 h
  obtain ⟨_, _, rfl, h1, _, _, rfl, h2, _, _, rfl, h3, _, _, rfl, h4, _, _, rfl, h5, _, _, rfl, h6, _, _, rfl, h7, _, _, rfl, h8, _, _, rfl, h9, rfl⟩ := h
  obtain ⟨b1, rfl⟩ := tyBool h1
  obtain ⟨i2, rfl⟩ := tyInt64 h2
  obtain ⟨i3, rfl⟩ := tyInt64 h3
  obtain ⟨i4, rfl⟩ := tyInt64 h4
  obtain ⟨i5, rfl⟩ := tyInt64 h5
  obtain ⟨q6, rfl⟩ := tyB h6
  obtain ⟨q7, rfl⟩ := tyB h7
  obtain ⟨q8, rfl⟩ := tyB h8
  obtain ⟨q9, rfl⟩ := tyB h9
  exact ⟨⟨b1, i2, i3, i4, i5, q6, q7, q8, q9⟩, rfl⟩
theorem cellsP21 : Program.cellsOf Go.Proofs.Try.prog 89 = 21 := by kernel_rfl
theorem aggBxP : aggT Go.Proofs.Try.prog 23 = some false := by kernel_rfl
theorem openBoxesP {rs : List RV} (h : TyC Go.Proofs.Try.prog 4 23 rs) : ∃ l : List Bx, argS Go.Proofs.Try.prog 23 rs = .rv (.sl 21 (bxL l)) := by
  obtain ⟨xs, rfl, _, hx⟩ := tyC_slice Try.underlying23 h
  obtain ⟨l, rfl⟩ := list_of fun x hx' => tyBoxP (hx x hx')
  refine ⟨l, ?_⟩
  rw [argS_one aggBxP, cellsP21]; rfl
theorem tyRectP {n : Nat} {rs : List RV} (h : TyC Go.Proofs.Try.prog (n + 2) 47 rs) : ∃ x : Rc, rs = x.cells := by
  have h := tyC_struct Try.underlying47 h
  obtain ⟨_, _, rfl, h1, _, _, rfl, h2, _, _, rfl, h3, _, _, rfl, h4, rfl⟩ := h
  obtain ⟨i1, rfl⟩ := tyInt64 h1
  obtain ⟨i2, rfl⟩ := tyInt64 h2
  obtain ⟨i3, rfl⟩ := tyInt64 h3
  obtain ⟨i4, rfl⟩ := tyInt64 h4
  exact ⟨⟨i1, i2, i3, i4⟩, rfl⟩
theorem cellsP4 : Program.cellsOf Go.Proofs.Try.prog 47 = 4 := by kernel_rfl
theorem aggRcP : aggT Go.Proofs.Try.prog 34 = some false := by kernel_rfl
theorem openRectsP {rs : List RV} (h : TyC Go.Proofs.Try.prog 3 34 rs) : ∃ l : List Rc, argS Go.Proofs.Try.prog 34 rs = .rv (.sl 4 (rcL l)) := by
  obtain ⟨xs, rfl, _, hx⟩ := tyC_slice Try.underlying34 h
  obtain ⟨l, rfl⟩ := list_of fun x hx' => tyRectP (hx x hx')
  refine ⟨l, ?_⟩
  rw [argS_one aggRcP, cellsP4]; rfl
end Go.Eng
