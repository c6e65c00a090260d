/- Part 5 of the proof: K13, P4, H1, L1, L2, L3, L4, PT, P5, KF, KH. -/
import Derived.Test.YteenlielghgkdaaPreferWider4
import Derived.Test.YteenlielghgkdaaProg
import Derived.KernelRfl
set_option linter.unusedSimpArgs false
set_option linter.unusedVariables false
/- kin: what is told of a node is what the document says. -/
namespace Go.Eng
open Go
/- decoupage/decoupagelaw06.Plain -/
def c_decoupagelaw06_Plain : AC := (.seq (.reg [⟨(some 0), (.alloc [(.bool false), (.int .i64 0), (.int .i64 0), (.int .i64 0), (.int .i64 0), (.int .i64 0), (.int .i64 0), (.int .i64 0), (.int .i64 0), (.int .i64 0), (.int .i64 0), (.int .i64 0), (.int .i64 0), (.int .i64 0), (.int .i64 0), (.int .i64 0), (.int .i64 0), (.int .i64 0), (.int .i64 0), (.int .i64 0), (.int .i64 0), (.int .i64 0), (.int .i64 0), (.int .i64 0), (.int .i64 0), (.int .i64 0), (.int .i64 0), (.int .i64 0), (.int .i64 0), (.int .i64 0), (.int .i64 0), (.int .i64 0), (.int .i64 0), (.int .i64 0), (.int .i64 0), (.int .i64 0), (.int .i64 0), (.int .i64 0), (.int .i64 0), (.int .i64 0), (.int .i64 0), (.int .i64 0), (.bool false), (.bool false), (.int .i64 0), (.bool false), (.int .i64 0), (.int .i64 0)]), [], none⟩]) (.seq (.reg [⟨(some 3), (.build [(.bool false), (.int .i64 0), (.int .i64 0), (.int .i64 0), (.int .i64 0), (.int .i64 0), (.int .i64 0), (.int .i64 0), (.int .i64 0), (.int .i64 0), (.int .i64 0), (.int .i64 0), (.int .i64 0), (.int .i64 0), (.int .i64 0), (.int .i64 0), (.int .i64 0), (.int .i64 0), (.int .i64 0), (.int .i64 0), (.int .i64 0), (.int .i64 0), (.int .i64 0), (.int .i64 0), (.int .i64 0), (.int .i64 0), (.int .i64 0), (.int .i64 0), (.int .i64 0), (.int .i64 0), (.int .i64 0), (.int .i64 0), (.int .i64 0), (.int .i64 0), (.int .i64 0), (.int .i64 0), (.int .i64 0), (.int .i64 0), (.int .i64 0), (.int .i64 0), (.int .i64 0), (.int .i64 0), (.bool false), (.bool false), (.int .i64 0), (.bool false), (.int .i64 0), (.int .i64 0)] [(0, 1)]), [(.c (.rv (.bool true)))], none⟩, ⟨(some 1), (.alloc [(.bool false), (.int .i64 0), (.int .i64 0), (.int .i64 0), (.int .i64 0), (.int .i64 0), (.int .i64 0), (.int .i64 0), (.int .i64 0), (.int .i64 0), (.int .i64 0), (.int .i64 0), (.int .i64 0), (.int .i64 0), (.int .i64 0), (.int .i64 0), (.int .i64 0), (.int .i64 0), (.int .i64 0), (.int .i64 0), (.int .i64 0), (.int .i64 0), (.int .i64 0), (.int .i64 0), (.int .i64 0), (.int .i64 0), (.int .i64 0), (.int .i64 0), (.int .i64 0), (.int .i64 0), (.int .i64 0), (.int .i64 0), (.int .i64 0), (.int .i64 0), (.int .i64 0), (.int .i64 0), (.int .i64 0), (.int .i64 0), (.int .i64 0), (.int .i64 0), (.int .i64 0), (.int .i64 0), (.bool false), (.bool false), (.int .i64 0), (.bool false), (.int .i64 0), (.int .i64 0)]), [], none⟩, ⟨none, (.store 48), [(.t 1), (.t 3)], none⟩]) (.seq (.seq (.reg [⟨(some 4), .mv, [(.c (.rv (.int .i64 0)))], none⟩]) (.seq (.block 0 (.loop (.seq (.reg [⟨(some 5), (.ibin .lss), [(.t 4), (.c (.rv (.int .i64 4)))], none⟩]) (.seq (.cond (.t 5) .skip (.exit 0)) (.seq (.seq (.block 1 (.seq (.reg [⟨(some 6), .mv, [(.t 4)], none⟩, ⟨(some 2), .mv, [(.t 6)], none⟩]) (.reg [⟨(some 7), .mv, [(.t 2)], none⟩, ⟨(some 8), (.build [(.int .i64 0), (.int .i64 0)] [(0, 1)]), [(.c (.rv (.int .i64 1)))], none⟩, ⟨(some 9), (.fld 30), [(.t 1)], none⟩, ⟨(some 10), (.ixa 4 2), [(.t 9), (.t 7)], none⟩, ⟨none, (.store 2), [(.t 10), (.t 8)], none⟩]))) .ent) (.reg [⟨(some 11), (.ibin .add), [(.t 4), (.c (.rv (.int .i64 1)))], none⟩, ⟨(some 4), .mv, [(.t 11)], none⟩])))))) .ent)) (.seq (.reg [⟨(some 12), (.load 48 true), [(.t 1)], none⟩, ⟨none, (.store 48), [(.t 0), (.t 12)], none⟩]) .ret))))
theorem k_decoupagelaw06_Plain : FnOK Go.Proofs.Try.prog 54 13 c_decoupagelaw06_Plain [(.c 0 48 true)] := fnOK_of (by kernel_rfl)

def kindsB : List CK → List RV → Bool
  | [], [] => true
  | .b :: ks, .bool _ :: rs => kindsB ks rs
  | .i :: ks, .int _ _ :: rs => kindsB ks rs
  | .s :: ks, .str _ :: rs => kindsB ks rs
  | _, _ => false
/-- A style that says nothing. -/
def plainS : Sty := { (default : Sty) with shown := true, pad := ⟨⟨1, 0⟩, ⟨1, 0⟩, ⟨1, 0⟩, ⟨1, 0⟩⟩ }
def plainTo (k : Nat) : Sty := { (default : Sty) with shown := true, pad := ⟨if 0 < k then ⟨1, 0⟩ else default, if 1 < k then ⟨1, 0⟩ else default, if 2 < k then ⟨1, 0⟩ else default, if 3 < k then ⟨1, 0⟩ else default⟩ }

theorem sp_Plain : CallR Go.Proofs.Try.prog 54 [] [] [] plainS.sv := by
  refine callR_G k_decoupagelaw06_Plain [] _ (by simp) (by simp [BkAll, bk_agg, bkAll_map, bk_rv, bk_fn, Sty.sv, Ln.sv, Nd.sv]) (fun K hK => ?_)
  simp -implicitDefEqProofs only [c_decoupagelaw06_Plain, go_sem, ↓reduceIte, Nat.reduceEqDiff, Nat.reduceAdd, Nat.reduceSub, Nat.reduceMul, Nat.reduceLeDiff, Nat.reduceLT, reduceCtorEq, Int.reduceToNat]
  repeat' (first | (simp -implicitDefEqProofs only [go_sem, ↓reduceIte, Nat.reduceEqDiff, Nat.reduceAdd, Nat.reduceSub, Nat.reduceMul, Nat.reduceLeDiff, Nat.reduceLT, reduceCtorEq, Int.reduceToNat]) | (with_reducible refine g_noent ?_) | (refine cdS (fun hg => ?_) (fun hg => ?_) <;> try simp -implicitDefEqProofs only [hg, Bool.not_true, Bool.not_false]) | (refine gdS (fun hg => ?_) (fun hg => ?_) <;> try simp -implicitDefEqProofs only [hg, Bool.not_true, Bool.not_false]) | (refine gddS (fun hg => ?_) (fun hg => ?_) <;> try simp -implicitDefEqProofs only [hg, Bool.not_true, Bool.not_false]) | ((with_reducible apply And.intro); focus (first | trivial | omega | decide | (simp -implicitDefEqProofs only [maxLen]; omega) | (simp [maxLen, sty_len, nd_len, ndL_len, lnL_len, intsL_len, rvs_len, lensS_len]; done) | (simp [maxLen, sty_len, nd_len, ndL_len, lnL_len, intsL_len, rvs_len, lensS_len]; omega) | (exact ⟨rfl, by decide⟩; done))) | fail)
  refine g_loop (ι := Nat) (fun k => [(4, .rv (.int .i64 k)), (0, .ptr 0 0), (1, .ptr 1 0)]) (fun k => [some (.var ((default : Sty).cells.map .rv)), some (.var ((plainTo k).cells.map .rv))]) (fun k => k ≤ 4) (fun k => 4 - k) 0 (by simp) (ent_env (by simp [lk])) (fun k hk K' hN hX hR => ?_)
  simp -implicitDefEqProofs only [go_sem, ↓reduceIte, Nat.reduceEqDiff, Nat.reduceAdd, Nat.reduceSub, Nat.reduceMul, Nat.reduceLeDiff, Nat.reduceLT, reduceCtorEq, Int.reduceToNat]
  refine cdS (fun hg => ?_) (fun hg => ?_)
  · have : k = 0 ∨ k = 1 ∨ k = 2 ∨ k = 3 := by simp at hg; omega
    rcases this with rfl | rfl | rfl | rfl
    all_goals
      repeat' (first | (simp -implicitDefEqProofs only [go_sem, ↓reduceIte, Nat.reduceEqDiff, Nat.reduceAdd, Nat.reduceSub, Nat.reduceMul, Nat.reduceLeDiff, Nat.reduceLT, reduceCtorEq, Int.reduceToNat, sty_len, wrap_up (k := 0) (by decide), wrap_up (k := 1) (by decide), wrap_up (k := 2) (by decide), wrap_up (k := 3) (by decide)]) | (with_reducible refine g_noent ?_) | (refine cdS (fun hg => ?_) (fun hg => ?_) <;> try simp -implicitDefEqProofs only [hg, Bool.not_true, Bool.not_false]) | (refine gdS (fun hg => ?_) (fun hg => ?_) <;> try simp -implicitDefEqProofs only [hg, Bool.not_true, Bool.not_false]) | (refine gddS (fun hg => ?_) (fun hg => ?_) <;> try simp -implicitDefEqProofs only [hg, Bool.not_true, Bool.not_false]) | ((with_reducible apply And.intro); focus (first | trivial | omega | decide | (simp -implicitDefEqProofs only [maxLen]; omega) | (simp [maxLen, sty_len, nd_len, ndL_len, lnL_len, intsL_len, rvs_len, lensS_len]; done) | (simp [maxLen, sty_len, nd_len, ndL_len, lnL_len, intsL_len, rvs_len, lensS_len]; omega))) | fail)
    · exact hN 1 _ _ (by omega) (by omega) (ent_env (by simp [lk]))
    · exact hN 2 _ _ (by omega) (by omega) (ent_env (by simp [lk]))
    · exact hN 3 _ _ (by omega) (by omega) (ent_env (by simp [lk]))
    · exact hN 4 _ _ (by omega) (by omega) (ent_env (by simp [lk]))
  · have hk4 : k = 4 := by simp at hg; omega
    subst hk4
    simp -implicitDefEqProofs only [go_sem, ↓reduceIte, Nat.reduceEqDiff, Nat.reduceAdd, Nat.reduceSub, Nat.reduceMul, Nat.reduceLeDiff, Nat.reduceLT, reduceCtorEq, Int.reduceToNat]
    refine hX _ _ _ ?_
    repeat' (first | (simp -implicitDefEqProofs only [go_sem, ↓reduceIte, Nat.reduceEqDiff, Nat.reduceAdd, Nat.reduceSub, Nat.reduceMul, Nat.reduceLeDiff, Nat.reduceLT, reduceCtorEq, Int.reduceToNat, sty_len, sty_all2]) | (with_reducible refine g_noent ?_) | (refine cdS (fun hg => ?_) (fun hg => ?_) <;> try simp -implicitDefEqProofs only [hg, Bool.not_true, Bool.not_false]) | (refine gdS (fun hg => ?_) (fun hg => ?_) <;> try simp -implicitDefEqProofs only [hg, Bool.not_true, Bool.not_false]) | (refine gddS (fun hg => ?_) (fun hg => ?_) <;> try simp -implicitDefEqProofs only [hg, Bool.not_true, Bool.not_false]) | ((with_reducible apply And.intro); focus (first | trivial | omega | decide | (simp -implicitDefEqProofs only [maxLen]; omega) | (simp [maxLen, sty_len, nd_len, ndL_len, lnL_len, intsL_len, rvs_len, lensS_len]; done) | (simp [maxLen, sty_len, nd_len, ndL_len, lnL_len, intsL_len, rvs_len, lensS_len]; omega) | (rfl; done) | (exact ⟨rfl, by decide⟩; done))) | fail)
    exact (hK _ _ (ret_c (rs := plainS.cells) rfl rfl rfl)).2

end Go.Eng

/- prefer: the statements as functions: told. -/
namespace Go.Eng
open Go
/- decoupage/decoupagelaw15.awake -/
def c_decoupagelaw15_awake : AC := (.seq (.reg [⟨(some 0), .mv, [(.c (.rv (.bool false)))], none⟩]) (.seq (.reg [⟨(some 6), (.call 54), [], none⟩, ⟨(some 1), (.alloc [(.bool false), (.int .i64 0), (.int .i64 0), (.int .i64 0), (.int .i64 0), (.int .i64 0), (.int .i64 0), (.int .i64 0), (.int .i64 0), (.int .i64 0), (.int .i64 0), (.int .i64 0), (.int .i64 0), (.int .i64 0), (.int .i64 0), (.int .i64 0), (.int .i64 0), (.int .i64 0), (.int .i64 0), (.int .i64 0), (.int .i64 0), (.int .i64 0), (.int .i64 0), (.int .i64 0), (.int .i64 0), (.int .i64 0), (.int .i64 0), (.int .i64 0), (.int .i64 0), (.int .i64 0), (.int .i64 0), (.int .i64 0), (.int .i64 0), (.int .i64 0), (.int .i64 0), (.int .i64 0), (.int .i64 0), (.int .i64 0), (.int .i64 0), (.int .i64 0), (.int .i64 0), (.int .i64 0), (.bool false), (.bool false), (.int .i64 0), (.bool false), (.int .i64 0), (.int .i64 0)]), [], none⟩, ⟨none, (.store 48), [(.t 1), (.t 6)], none⟩]) (.seq (.reg [⟨(some 7), (.build [(.int .i64 0), (.int .i64 0)] [(0, 1), (1, 1)]), [(.c (.rv (.int .i64 1))), (.c (.rv (.int .i64 10)))], none⟩, ⟨(some 8), (.fld 10), [(.t 1)], none⟩, ⟨none, (.store 2), [(.t 8), (.t 7)], none⟩]) (.seq (.reg [⟨(some 10), (.load 48 true), [(.t 1)], none⟩, ⟨(some 11), (.build [(.bool false), (.int .i64 0), (.int .i64 0), (.int .i64 0), (.int .i64 0), (.int .i64 0), (.int .i64 0), (.int .i64 0), (.int .i64 0), (.int .i64 0), (.int .i64 0), (.int .i64 0), (.int .i64 0), (.int .i64 0), (.int .i64 0), (.int .i64 0), (.int .i64 0), (.int .i64 0), (.int .i64 0), (.int .i64 0), (.int .i64 0), (.int .i64 0), (.int .i64 0), (.int .i64 0), (.int .i64 0), (.int .i64 0), (.int .i64 0), (.int .i64 0), (.int .i64 0), (.int .i64 0), (.int .i64 0), (.int .i64 0), (.int .i64 0), (.int .i64 0), (.int .i64 0), (.int .i64 0), (.int .i64 0), (.int .i64 0), (.int .i64 0), (.int .i64 0), (.int .i64 0), (.int .i64 0), (.bool false), (.bool false), (.int .i64 0), (.bool false), (.int .i64 0), (.int .i64 0), (.int .i64 0)] [(0, 48), (48, 1)]), [(.t 10), (.c (.rv (.int .i64 (-1))))], none⟩, ⟨(some 12), (.bsl 49), [(.t 11)], none⟩, ⟨(some 13), (.call 17), [(.t 12)], none⟩, ⟨(some 9), .mv, [(.t 13)], none⟩, ⟨(some 14), (.ext 0), [(.t 9)], none⟩, ⟨(some 15), (.ext 1), [(.t 9)], none⟩, ⟨(some 2), .mv, [(.t 14)], none⟩, ⟨(some 3), .mv, [(.t 15)], none⟩]) (.seq (.reg [⟨(some 17), .mv, [(.t 2)], none⟩, ⟨(some 18), (.call 52), [(.t 17), (.c (.rv (.int .i64 0)))], none⟩, ⟨(some 16), .mv, [(.t 18)], none⟩, ⟨(some 19), (.ext 0), [(.t 16)], none⟩, ⟨(some 20), (.ext 1), [(.t 16)], none⟩, ⟨(some 4), .mv, [(.t 19)], none⟩, ⟨(some 5), .mv, [(.t 20)], none⟩]) (.seq (.reg [⟨(some 21), .mv, [(.t 3)], none⟩, ⟨(some 22), (.ibin .eql), [(.t 21), (.c (.rv (.int .i64 0)))], none⟩, ⟨(some 23), .mv, [(.t 22)], none⟩, ⟨(some 24), .mv, [(.t 5)], (some (23, true))⟩, ⟨(some 25), .pick, [(.t 23), (.t 24), (.c (.rv (.bool false)))], none⟩, ⟨(some 26), .mv, [(.t 25)], none⟩, ⟨(some 27), .mv, [(.t 4)], (some (26, true))⟩, ⟨(some 28), (.ibin .eql), [(.t 27), (.c (.rv (.int .i64 10)))], (some (26, true))⟩, ⟨(some 29), .pick, [(.t 26), (.t 28), (.c (.rv (.bool false)))], none⟩, ⟨(some 0), .mv, [(.t 29)], none⟩]) .ret))))))
theorem k_decoupagelaw15_awake : FnOK Go.Proofs.Try.prog 51 30 c_decoupagelaw15_awake [(.t 0)] := fnOK_of (by kernel_rfl)

def wideS (n : Int) : Sty := { plainS with width := ⟨1, n⟩ }
theorem wide_chk : chk [⟨wideS 10, -1⟩] = 0 := by decide +kernel
theorem wide_tree : treeOK [⟨wideS 10, -1⟩] = true := by decide +kernel
theorem wide_made : madeAt [⟨wideS 10, -1⟩] 0 = true := by
  simp [madeAt, inL, madeS_zero, shownL, wideS, plainS]
theorem wide_content : contentF [⟨wideS 10, -1⟩] 2 0 = (10, true) := by
  have hs : styAt [⟨wideS 10, -1⟩] 0 = wideS 10 := rfl
  rw [contentF, if_neg (by simp [wide_made]), hs]
  rfl

theorem sp_awake15 : CallR Go.Proofs.Try.prog 51 [] [] [] (.rv (.bool true)) := by
  refine callR_G k_decoupagelaw15_awake [] _ (by simp) (by simp [BkAll, bk_agg, bkAll_map, bk_rv, bk_fn, Sty.sv, Ln.sv, Nd.sv]) (fun K hK => ?_)
  have hk := sp_kin_OfR [⟨wideS 10, -1⟩] (by decide) wide_chk 1 0
  have h1 := sp_Content [⟨wideS 10, -1⟩] (tree_shp wide_tree) (by decide) 2 0 (by decide)
  rw [wide_content] at h1
  have e1 : ((0 : Int) == 0) = true := rfl
  have e2 : ((10 : Int) == 10) = true := rfl
  simp -implicitDefEqProofs only [c_decoupagelaw15_awake, go_sem, ↓reduceIte, Nat.reduceEqDiff, Nat.reduceAdd, Nat.reduceSub, Nat.reduceMul, Nat.reduceLeDiff, Nat.reduceLT, reduceCtorEq, Int.reduceToNat]
  have hcall1 := sp_Plain; repeat' (first | (simp -implicitDefEqProofs only [go_sem, ↓reduceIte, Nat.reduceEqDiff, Nat.reduceAdd, Nat.reduceSub, Nat.reduceMul, Nat.reduceLeDiff, Nat.reduceLT, reduceCtorEq, Int.reduceToNat, sty_len]) | (with_reducible refine g_noent ?_) | (with_reducible refine g_call0 hcall1 ?_) | (with_reducible refine g_calld0 hcall1 ?_) | (refine cdS (fun hg => ?_) (fun hg => ?_) <;> try simp -implicitDefEqProofs only [hg, Bool.not_true, Bool.not_false]) | (refine gdS (fun hg => ?_) (fun hg => ?_) <;> try simp -implicitDefEqProofs only [hg, Bool.not_true, Bool.not_false]) | (refine gddS (fun hg => ?_) (fun hg => ?_) <;> try simp -implicitDefEqProofs only [hg, Bool.not_true, Bool.not_false]) | ((with_reducible apply And.intro); focus (first | trivial | omega | decide | (simp -implicitDefEqProofs only [maxLen]; omega) | (simp [maxLen, sty_len, nd_len, ndL_len, lnL_len, intsL_len, rvs_len, lensS_len]; done) | (simp [maxLen, sty_len, nd_len, ndL_len, lnL_len, intsL_len, rvs_len, lensS_len]; omega) | (rfl; done) | (exact ⟨rfl, by decide⟩; done))) | fail)
  refine g_call hk (pre_one rfl) trivial ?_
  have hcall2 := h1; repeat' (first | (simp -implicitDefEqProofs only [go_sem, ↓reduceIte, Nat.reduceEqDiff, Nat.reduceAdd, Nat.reduceSub, Nat.reduceMul, Nat.reduceLeDiff, Nat.reduceLT, reduceCtorEq, Int.reduceToNat, e1, e2]) | (with_reducible refine g_noent ?_) | (with_reducible refine g_call0 hcall2 ?_) | (with_reducible refine g_calld0 hcall2 ?_) | (refine cdS (fun hg => ?_) (fun hg => ?_) <;> try simp -implicitDefEqProofs only [hg, Bool.not_true, Bool.not_false]) | (refine gdS (fun hg => ?_) (fun hg => ?_) <;> try simp -implicitDefEqProofs only [hg, Bool.not_true, Bool.not_false]) | (refine gddS (fun hg => ?_) (fun hg => ?_) <;> try simp -implicitDefEqProofs only [hg, Bool.not_true, Bool.not_false]) | ((with_reducible apply And.intro); focus (first | trivial | omega | decide | (simp -implicitDefEqProofs only [maxLen]; omega) | (simp [maxLen, sty_len, nd_len, ndL_len, lnL_len, intsL_len, rvs_len, lensS_len]; done) | (simp [maxLen, sty_len, nd_len, ndL_len, lnL_len, intsL_len, rvs_len, lensS_len]; omega))) | fail)
  exact (hK _ _ (ret_t rfl)).2

end Go.Eng

/- hold: what holds a box. -/
namespace Go.Eng
open Go
def posAt (l : List Nd) (n : Int) : Bool := madeAt l n && decide (n > 0) && ((styAt l n).position != 0)
def holdAt (l : List Nd) (n : Int) : Int := if madeAt l n = false then -1 else if outAt l n = false then parAt l n else if (styAt l n).position = 3 then -1 else fstI (posAt l) (upAt l n)

end Go.Eng

/- level: who leads, who forms, where a box belongs. -/
namespace Go.Eng
open Go
def leadAt (l : List Nd) (n : Int) : Bool := madeAt l n && ((n == 0) || posAt l n)
def formAt (l : List Nd) (n : Int) : Bool := leadAt l n && ((n == 0) || (styAt l n).hasZ)
def groupAt (l : List Nd) (n : Int) : Int := if madeAt l n = true then fstI (leadAt l) (pth l n.toNat) else -1
def ctxAt (l : List Nd) (n : Int) : Int := if madeAt l n = true then fstI (formAt l) (upAt l n) else -1
end Go.Eng

/- level: the members of a group, the parts of a context. -/
namespace Go.Eng
open Go
/-- Those among the first k that are such. -/
def selTo (q : Nat → Bool) (k : Nat) : List Nat := (List.range k).filter q
def memQ (l : List Nd) (n : Nat) (j : Nat) : Bool := decide (j ≠ n) && (groupAt l j == n)
def partQ (l : List Nd) (n : Nat) (j : Nat) : Bool := decide (j ≠ n) && leadAt l j && (ctxAt l j == n)
def membersAt (l : List Nd) (n : Int) : List Nat := if leadAt l n = true then selTo (memQ l n.toNat) l.length else []
def partsAt (l : List Nd) (n : Int) : List Nat := if formAt l n = true then selTo (partQ l n.toNat) l.length else []

def selR (q : Nat → Bool) (k : Nat) : List (Option HB) := [some (.row 1 (selTo q k).length (rvs (intsL (natsI (selTo q k)))))]
end Go.Eng

/- level: the statements as functions: told. -/
namespace Go.Eng
open Go
end Go.Eng

/- level: the statements as functions: every made thing is in one group, every leading thing in one context. -/
namespace Go.Eng
open Go
/-- How often m is in the first k lists. -/
def cntB (f : Nat → List Nat) : Nat → Nat → Nat
  | 0, _ => 0
  | k + 1, m => cntB f k m + (f k).count m
def cntL (L : Nat) (f : Nat → List Nat) (k : Nat) (xs : List Nat) : List Int := (List.range L).map fun m => ((cntB f k m + xs.count m : Nat) : Int)
theorem zero_mem {l : List Nd} (hs : Shp l) : ∀ m k, k ≤ m → k < l.length → 0 ∈ pth l k
  | _, 0, _, _ => mem_self
  | 0, k + 1, h, _ => absurd h (by omega)
  | m + 1, k + 1, h, hk => by
    have hu := hs.up (k + 1) (by omega) hk
    rw [mem_par hs.wf (by omega) hk]
    exact .inr (zero_mem hs m _ (by omega) (by omega))
def memF (l : List Nd) (n : Nat) : List Nat := membersAt l n
def partF (l : List Nd) (n : Nat) : List Nat := partsAt l n
end Go.Eng

/- prefer: one more box at the end, as plain values. -/
namespace Go.Eng
open Go
/-- The list with one box more, below the root. -/
def moreN (l : List Nd) (n : Int) : List Nd := l ++ [⟨wideS n, 0⟩]
theorem more_len (l : List Nd) (n : Int) : (moreN l n).length = l.length + 1 := by simp [moreN]
theorem more_getD {l : List Nd} {n : Int} {k : Nat} (h : k < l.length) : (moreN l n).getD k default = l.getD k default := by
  simp [moreN, List.getD_eq_getElem?_getD, List.getElem?_append_left h]
theorem more_last {l : List Nd} {n : Int} : (moreN l n).getD l.length default = ⟨wideS n, 0⟩ := by
  simp [moreN, List.getD_eq_getElem?_getD]
theorem more_par {l : List Nd} {n : Int} {k : Nat} (h : k < l.length) : parL (moreN l n) k = parL l k := by unfold parL; rw [more_getD h]
theorem more_parL {l : List Nd} {n : Int} : parL (moreN l n) l.length = 0 := by unfold parL; rw [more_last]
theorem more_pth {l : List Nd} {n : Int} : ∀ m k, k ≤ m → k < l.length → pth (moreN l n) k = pth l k
  | m, k, hm, hk => by
    by_cases hp : 0 ≤ parL l k ∧ parL l k < k
    · rw [pth_cons hp, pth_cons (by rw [more_par hk]; exact hp), more_par hk]
      match m, hm with
      | 0, hm => omega
      | m + 1, hm => rw [more_pth m _ (by omega) (by omega)]
    · rw [pth_one hp, pth_one (by rw [more_par hk]; exact hp)]
theorem more_pthE {l : List Nd} {n : Int} {k : Nat} (hk : k < l.length) : pth (moreN l n) k = pth l k := more_pth k k (Nat.le_refl _) hk
theorem more_pthL {l : List Nd} {n : Int} (h0 : 0 < l.length) : pth (moreN l n) l.length = [l.length, 0] := by
  rw [pth_cons (by rw [more_parL]; omega), more_parL]
  show l.length :: pth (moreN l n) 0 = _
  rw [pth_zero]
theorem more_shp {l : List Nd} {n : Int} (hs : Shp l) : Shp (moreN l n) := by
  refine ⟨by rw [more_len]; omega, by rw [more_par hs.pos]; exact hs.root, fun j h0 hj => ?_⟩
  rw [more_len] at hj
  by_cases h : j < l.length
  · have := hs.up j h0 h
    rw [more_par h, more_pthE (by omega)]
    exact this
  · obtain rfl : j = l.length := by omega
    rw [more_parL, more_pthE (by omega)]
    exact ⟨by omega, by omega, zero_mem hs _ (l.length - 1) (Nat.le_refl _) (by omega)⟩
theorem wide_ok {n : Int} (h : 0 ≤ n) : styOK (wideS n) = true := by
  have h1 : decide (0 ≤ n) = true := decide_eq_true h
  simp -implicitDefEqProofs only [styOK, wideS, plainS, List.all_cons, List.all_nil, h1]
  rfl
theorem wide_in {n : Int} (h : 0 ≤ n) (h2 : n ≤ 65535) : styIn (wideS n) = true := by
  have h1 : lnIn ⟨1, n⟩ = true := by
    have : inB n 1099511627776 = true := by simp [inB]; omega
    simp [lnIn, this]
  simp -implicitDefEqProofs only [styIn, lensS, wideS, plainS, List.all_append, List.all_cons, List.all_nil, h1]
  rfl
theorem chk_iff {l : List Nd} : chk l = 0 ↔ treeOK l = true ∧ l.length ≤ 65535 ∧ (∀ k, k < l.length → depth l k ≤ 256) ∧ ∀ x ∈ l, styIn x.s = true := by
  unfold chk
  cases ht : treeOK l with
  | false => simp
  | true =>
    simp -implicitDefEqProofs only [Bool.true_eq_false, if_false]
    constructor
    · intro h
      split at h
      · simp at h
      · rename_i hn
        simp -implicitDefEqProofs only [Bool.or_eq_true, decide_eq_true_eq, List.any_eq_true, List.mem_range, Bool.not_eq_true', not_or, not_exists, not_and, Bool.not_eq_false] at hn
        exact ⟨trivial, by omega, fun k hk => by have := hn.1.2 k hk; omega, fun x hx => hn.2 x hx⟩
    · rintro ⟨_, h1, h2, h3⟩
      rw [if_neg]
      simp -implicitDefEqProofs only [Bool.or_eq_true, decide_eq_true_eq, List.any_eq_true, List.mem_range, Bool.not_eq_true', not_or, not_exists, not_and, Bool.not_eq_false]
      exact ⟨⟨by omega, fun k hk => by have := h2 k hk; omega⟩, h3⟩
theorem tree_iff {l : List Nd} : treeOK l = true ↔ Shp l ∧ ∀ x ∈ l, styOK x.s = true := by
  unfold treeOK
  rw [Bool.and_eq_true, shape_iff, List.all_eq_true]
theorem more_chk {l : List Nd} {n : Int} (hc : chk l = 0) (hl : l.length ≤ 20) (h0 : 0 ≤ n) (h1 : n ≤ 65535) : chk (moreN l n) = 0 := by
  rw [chk_iff, tree_iff] at hc
  obtain ⟨⟨hs, ho⟩, _, hd, hi⟩ := hc
  rw [chk_iff, tree_iff]
  refine ⟨⟨more_shp hs, fun x hx => ?_⟩, by rw [more_len]; omega, fun k hk => ?_, fun x hx => ?_⟩
  · simp -implicitDefEqProofs only [moreN, List.mem_append, List.mem_singleton] at hx
    rcases hx with hx | rfl
    · exact ho x hx
    · exact wide_ok h0
  · rw [more_len] at hk
    by_cases h : k < l.length
    · unfold depth; rw [more_pthE h]; exact hd k h
    · obtain rfl : k = l.length := by omega
      unfold depth; rw [more_pthL hs.pos]; simp
  · simp -implicitDefEqProofs only [moreN, List.mem_append, List.mem_singleton] at hx
    rcases hx with hx | rfl
    · exact hi x hx
    · exact wide_in h0 h1
theorem more_in {l : List Nd} {n : Int} {k : Nat} (h : k ≤ l.length) : inL (moreN l n) k = true := inL_of (by rw [more_len]; omega)
theorem more_sty {l : List Nd} {n : Int} {k : Nat} (h : k < l.length) : styAt (moreN l n) k = styAt l k := by
  simp -implicitDefEqProofs only [styAt, more_in (Nat.le_of_lt h), inL_of h, if_true, Int.toNat_natCast, more_getD h]
theorem more_styL {l : List Nd} {n : Int} : styAt (moreN l n) l.length = wideS n := by
  simp -implicitDefEqProofs only [styAt, more_in (Nat.le_refl _), if_true, Int.toNat_natCast, more_last]
theorem more_shown {l : List Nd} {n : Int} {k : Nat} (h : k < l.length) : shownL (moreN l n) k = shownL l k := by unfold shownL; rw [more_getD h]
theorem more_made {l : List Nd} {n : Int} {k : Nat} (h : k < l.length) : madeAt (moreN l n) k = madeAt l k := by
  simp -implicitDefEqProofs only [madeAt, more_in (Nat.le_of_lt h), inL_of h, Int.toNat_natCast, Bool.true_and, madeS, more_pthE h]
  rw [Bool.eq_iff_iff, List.all_eq_true, List.all_eq_true]
  constructor <;> intro g x hx
  · rw [← more_shown (n := n) (by have := pth_le _ _ hx; omega)]; exact g x hx
  · rw [more_shown (by have := pth_le _ _ hx; omega)]; exact g x hx
theorem more_madeL {l : List Nd} {n : Int} (h0 : 0 < l.length) : madeAt (moreN l n) l.length = madeAt l ((0 : Nat) : Int) := by
  have h1 : shownL (moreN l n) l.length = true := by unfold shownL; rw [more_last]; rfl
  simp -implicitDefEqProofs only [madeAt, more_in (Nat.le_refl _), inL_of h0, Int.toNat_natCast, Bool.true_and, madeS, more_pthL h0, pth_zero, List.all_cons, List.all_nil, Bool.and_true, h1, more_shown h0]
theorem more_out {l : List Nd} {n : Int} {k : Nat} (h : k < l.length) : outAt (moreN l n) k = outAt l k := by simp -implicitDefEqProofs only [outAt, more_made h, more_sty h]
theorem more_outL {l : List Nd} {n : Int} : outAt (moreN l n) l.length = false := by
  have hp : (wideS n).position = 0 := rfl
  simp -implicitDefEqProofs only [outAt, more_styL, hp]; simp
theorem more_stay {l : List Nd} {n : Int} {k : Nat} (h : k < l.length) : stayAt (moreN l n) k = stayAt l k := by simp -implicitDefEqProofs only [stayAt, more_made h, more_out h]
theorem more_kids {l : List Nd} {n : Int} {p : Nat} : ∀ k, k ≤ l.length → kidsTo (moreN l n) k p = kidsTo l k p
  | 0, _ => rfl
  | k + 1, h => by rw [kidsTo_succ, kidsTo_succ, more_kids k (by omega), more_par (by omega)]
theorem more_kidsOf {l : List Nd} {n : Int} {p : Nat} (h0 : 0 < l.length) : kidsOf (moreN l n) p = kidsOf l p ++ if p = 0 then [l.length] else [] := by
  unfold kidsOf
  rw [more_len, kidsTo_succ, more_kids _ (Nat.le_refl _), more_parL]
  congr 1
  by_cases hp : p = 0
  · subst hp; rw [if_pos ⟨h0, rfl⟩, if_pos rfl]
  · rw [if_neg (by omega), if_neg hp]
theorem kids_lt {l : List Nd} {p m : Nat} (h : m ∈ kidsOf l p) : m < l.length := (mem_kids.1 h).2.1
theorem more_flow {l : List Nd} {n : Int} (h0 : 0 < l.length) {p : Nat} (hp : p < l.length) : flowAt (moreN l n) p = flowAt l p ++ if p = 0 ∧ madeAt l ((0 : Nat) : Int) = true then [l.length] else [] := by
  simp -implicitDefEqProofs only [flowAt, kidsAt, more_in (Nat.le_of_lt hp), inL_of hp, if_true, Int.toNat_natCast, more_kidsOf h0, List.filter_append]
  congr 1
  · exact List.filter_congr fun m hm => more_stay (kids_lt hm)
  · by_cases hp0 : p = 0
    · have : stayAt (moreN l n) l.length = madeAt l ((0 : Nat) : Int) := by simp -implicitDefEqProofs only [stayAt, more_madeL h0, more_outL]; simp
      rw [if_pos hp0]
      cases hm : madeAt l ((0 : Nat) : Int) with
      | true => rw [if_pos ⟨hp0, rfl⟩]; rw [hm] at this; simp [this]
      | false => rw [if_neg (by simp)]; rw [hm] at this; simp [this]
    · rw [if_neg hp0, if_neg (by omega)]; rfl
theorem goF_congr {l l' : List Nd} {g g' : Nat → Int × Bool} : ∀ {xs : List Nat}, (∀ m ∈ xs, g m = g' m ∧ styAt l m = styAt l' m) → ∀ w, goF l g xs w = goF l' g' xs w
  | [], _, _ => rfl
  | m :: r, h, w => by
    obtain ⟨h1, h2⟩ := h m (by simp)
    simp -implicitDefEqProofs only [goF, h1, h2]
    split
    · exact goF_congr (fun y hy => h y (by simp [hy])) _
    · rfl
theorem goF_app {l : List Nd} {g : Nat → Int × Bool} {m : Nat} : ∀ {xs : List Nat} (w : Int), goF l g (xs ++ [m]) w = match goF l g xs w with
    | some v => goF l g [m] v
    | none => none
  | [], _ => rfl
  | x :: r, w => by
    simp -implicitDefEqProofs only [List.cons_append, goF]
    split
    · exact goF_app _
    · rfl
theorem more_content {l : List Nd} {n : Int} (hs : Shp l) : ∀ (f : Nat) (k : Nat), 0 < k → k < l.length → contentF (moreN l n) f k = contentF l f k
  | 0, _, _, _ => rfl
  | f + 1, k, h0, hk => by
    have hf : flowAt (moreN l n) k = flowAt l k := by rw [more_flow hs.pos hk, if_neg (by omega), List.append_nil]
    simp -implicitDefEqProofs only [contentF, more_made hk, more_sty hk, hf]
    rw [goF_congr (l := moreN l n) (l' := l) (g' := fun m => contentF l f m) (fun m hm => ?_)]
    split at hm
    · simp at hm
    · have := flow_gt hs hm
      exact ⟨more_content hs f m (by omega) this.2, more_sty this.2⟩
theorem clamp_mono {a b lo hi : Int} (h : a ≤ b) : clampI a lo hi ≤ clampI b lo hi := by
  unfold clampI; (repeat' split) <;> omega
/-- One box more below the root: it prefers no less, and it fits as before. -/
theorem more_wider {l : List Nd} {n : Int} (hs : Shp l) (h0 : 0 ≤ n) (h1 : n ≤ 65535) (f : Nat) : (contentF (moreN l n) (f + 2) ((0 : Nat) : Int)).2 = (contentF l (f + 2) ((0 : Nat) : Int)).2 ∧ ((contentF l (f + 2) ((0 : Nat) : Int)).2 = true → (contentF l (f + 2) ((0 : Nat) : Int)).1 ≤ (contentF (moreN l n) (f + 2) ((0 : Nat) : Int)).1) := by
  have hp := hs.pos
  rw [contentF, contentF, more_made hp, more_sty hp]
  cases hm : madeAt l ((0 : Nat) : Int) with
  | false => simp
  | true =>
    simp -implicitDefEqProofs only [Bool.true_eq_false, if_false]
    by_cases hw : (styAt l ((0 : Nat) : Int)).width.kind = 1
    · rw [if_pos hw, if_pos hw]
      simp -implicitDefEqProofs only [goF]
      exact ⟨trivial, fun _ => Int.le_refl _⟩
    · rw [if_neg hw, if_neg hw, more_flow hp hp, if_pos ⟨rfl, hm⟩, goF_app]
      have hg := goF_congr (l := moreN l n) (l' := l) (g := fun m => contentF (moreN l n) (f + 1) m) (g' := fun m => contentF l (f + 1) m) (xs := flowAt l ((0 : Nat) : Int)) (fun m hm => by
        have := flow_gt hs hm
        exact ⟨more_content hs (f + 1) m (by omega) this.2, more_sty this.2⟩) (unitsL (styAt l ((0 : Nat) : Int)).width 0)
      rw [hg]
      have hcl : contentF (moreN l n) (f + 1) l.length = (n, true) := by
        rw [contentF, more_madeL hp, hm, if_neg (by simp), more_styL]
        have e1 : unitsL (wideS n).width 0 = n := rfl
        have e2 : unitsL (wideS n).minW 0 = 0 := rfl
        have e3 : unitsL (wideS n).maxW 1125899906842624 = 1125899906842624 := rfl
        rw [if_pos (show (wideS n).width.kind = 1 from rfl), e1, e2, e3]
        simp -implicitDefEqProofs only [goF]
        have : clampI n 0 1125899906842624 = n := by unfold clampI; (repeat' split) <;> omega
        rw [this]
      have hso : sumOK (outL n (wideS n) 2) = true := by
        have e : outL n (wideS n) 2 = [n, 0, 0, 0, 0, 0, 0] := rfl
        have hf : fitsI n = true := fits_iff.2 ⟨by omega, by omega⟩
        have h00 : fitsI 0 = true := rfl
        simp [e, sumOK, hf, h00]
      cases goF l (fun m => contentF l (f + 1) m) (flowAt l ((0 : Nat) : Int)) (unitsL (styAt l ((0 : Nat) : Int)).width 0) with
      | none => exact ⟨rfl, fun h => absurd h (by simp)⟩
      | some v =>
        simp -implicitDefEqProofs only [goF, hcl, more_styL, hso, Bool.and_self, if_true]
        refine ⟨trivial, fun _ => clamp_mono ?_⟩
        unfold mxI; split <;> omega
end Go.Eng

/- prefer: the statements as functions: wider. -/
namespace Go.Eng
open Go
/- decoupage/decoupagelaw15.PreferWider -/
def c_decoupagelaw15_PreferWider : AC := (.seq (.reg [⟨(some 4), .mv, [(.c (.rv (.bool false)))], none⟩]) (.seq (.seq (.reg [⟨(some 14), (.call 51), [], none⟩, ⟨(some 15), .not, [(.t 14)], none⟩, ⟨(some 16), .mv, [(.t 15)], none⟩, ⟨(some 17), .mv, [(.t 0)], (some (16, false))⟩, ⟨(some 18), .len, [(.t 17)], (some (16, false))⟩, ⟨(some 19), (.ibin .gtr), [(.t 18), (.c (.rv (.int .i64 20)))], (some (16, false))⟩, ⟨(some 20), .pick, [(.t 16), (.c (.rv (.bool true))), (.t 19)], none⟩, ⟨(some 21), .mv, [(.t 20)], none⟩, ⟨(some 22), .mv, [(.t 0)], (some (21, false))⟩, ⟨(some 23), (.call 21), [(.t 22)], (some (21, false))⟩, ⟨(some 24), (.ibin .neq), [(.t 23), (.c (.rv (.int .i64 0)))], (some (21, false))⟩, ⟨(some 25), .pick, [(.t 21), (.c (.rv (.bool true))), (.t 24)], none⟩]) (.cond (.t 25) (.seq (.reg [⟨(some 26), (.call 51), [], none⟩, ⟨(some 4), .mv, [(.t 26)], none⟩]) .ret) .skip)) (.seq (.reg [⟨(some 27), (.call 54), [], none⟩, ⟨(some 5), (.alloc [(.bool false), (.int .i64 0), (.int .i64 0), (.int .i64 0), (.int .i64 0), (.int .i64 0), (.int .i64 0), (.int .i64 0), (.int .i64 0), (.int .i64 0), (.int .i64 0), (.int .i64 0), (.int .i64 0), (.int .i64 0), (.int .i64 0), (.int .i64 0), (.int .i64 0), (.int .i64 0), (.int .i64 0), (.int .i64 0), (.int .i64 0), (.int .i64 0), (.int .i64 0), (.int .i64 0), (.int .i64 0), (.int .i64 0), (.int .i64 0), (.int .i64 0), (.int .i64 0), (.int .i64 0), (.int .i64 0), (.int .i64 0), (.int .i64 0), (.int .i64 0), (.int .i64 0), (.int .i64 0), (.int .i64 0), (.int .i64 0), (.int .i64 0), (.int .i64 0), (.int .i64 0), (.int .i64 0), (.bool false), (.bool false), (.int .i64 0), (.bool false), (.int .i64 0), (.int .i64 0)]), [], none⟩, ⟨none, (.store 48), [(.t 5), (.t 27)], none⟩]) (.seq (.reg [⟨(some 28), .mv, [(.t 1)], none⟩, ⟨(some 29), (.cvi .i64), [(.t 28)], none⟩, ⟨(some 30), (.build [(.int .i64 0), (.int .i64 0)] [(0, 1), (1, 1)]), [(.c (.rv (.int .i64 1))), (.t 29)], none⟩, ⟨(some 31), (.fld 10), [(.t 5)], none⟩, ⟨none, (.store 2), [(.t 31), (.t 30)], none⟩]) (.seq (.reg [⟨(some 33), .mv, [(.t 0)], none⟩, ⟨(some 34), (.call 17), [(.t 33)], none⟩, ⟨(some 32), .mv, [(.t 34)], none⟩, ⟨(some 35), (.ext 0), [(.t 32)], none⟩, ⟨(some 36), (.ext 1), [(.t 32)], none⟩, ⟨(some 6), .mv, [(.t 35)], none⟩, ⟨(some 7), .mv, [(.t 36)], none⟩]) (.seq (.regd [0, 0, 3, 0, 8, 24, 63, 127, 255, 511, 511, 1023, 4095] [⟨(some 38), (.bsl 49), [], none⟩, ⟨(some 39), .mv, [(.t 0)], none⟩, ⟨(some 40), (.app 49 384), [(.t 38), (.t 39)], none⟩, ⟨(some 41), (.load 48 true), [(.t 5)], none⟩, ⟨(some 42), (.build [(.bool false), (.int .i64 0), (.int .i64 0), (.int .i64 0), (.int .i64 0), (.int .i64 0), (.int .i64 0), (.int .i64 0), (.int .i64 0), (.int .i64 0), (.int .i64 0), (.int .i64 0), (.int .i64 0), (.int .i64 0), (.int .i64 0), (.int .i64 0), (.int .i64 0), (.int .i64 0), (.int .i64 0), (.int .i64 0), (.int .i64 0), (.int .i64 0), (.int .i64 0), (.int .i64 0), (.int .i64 0), (.int .i64 0), (.int .i64 0), (.int .i64 0), (.int .i64 0), (.int .i64 0), (.int .i64 0), (.int .i64 0), (.int .i64 0), (.int .i64 0), (.int .i64 0), (.int .i64 0), (.int .i64 0), (.int .i64 0), (.int .i64 0), (.int .i64 0), (.int .i64 0), (.int .i64 0), (.bool false), (.bool false), (.int .i64 0), (.bool false), (.int .i64 0), (.int .i64 0), (.int .i64 0)] [(0, 48)]), [(.t 41)], none⟩, ⟨(some 43), (.bsl 49), [(.t 42)], none⟩, ⟨(some 44), (.app 49 384), [(.t 40), (.t 43)], none⟩, ⟨(some 45), (.call 17), [(.t 44)], none⟩, ⟨(some 37), .mv, [(.t 45)], none⟩, ⟨(some 46), (.ext 0), [(.t 37)], none⟩, ⟨(some 47), (.ext 1), [(.t 37)], none⟩, ⟨(some 8), .mv, [(.t 46)], none⟩, ⟨(some 9), .mv, [(.t 47)], none⟩]) (.seq (.reg [⟨(some 49), .mv, [(.t 6)], none⟩, ⟨(some 50), (.call 52), [(.t 49), (.c (.rv (.int .i64 0)))], none⟩, ⟨(some 48), .mv, [(.t 50)], none⟩, ⟨(some 51), (.ext 0), [(.t 48)], none⟩, ⟨(some 52), (.ext 1), [(.t 48)], none⟩, ⟨(some 10), .mv, [(.t 51)], none⟩, ⟨(some 11), .mv, [(.t 52)], none⟩]) (.seq (.reg [⟨(some 54), .mv, [(.t 8)], none⟩, ⟨(some 55), (.call 52), [(.t 54), (.c (.rv (.int .i64 0)))], none⟩, ⟨(some 53), .mv, [(.t 55)], none⟩, ⟨(some 56), (.ext 0), [(.t 53)], none⟩, ⟨(some 57), (.ext 1), [(.t 53)], none⟩, ⟨(some 12), .mv, [(.t 56)], none⟩, ⟨(some 13), .mv, [(.t 57)], none⟩]) (.seq (.reg [⟨(some 58), .mv, [(.t 9)], none⟩, ⟨(some 59), (.ibin .eql), [(.t 58), (.c (.rv (.int .i64 0)))], none⟩, ⟨(some 60), .mv, [(.t 59)], none⟩, ⟨(some 61), .mv, [(.t 11)], (some (60, true))⟩, ⟨(some 62), .mv, [(.t 13)], (some (60, true))⟩, ⟨(some 63), (.eqb false), [(.t 61), (.t 62)], (some (60, true))⟩, ⟨(some 64), .pick, [(.t 60), (.t 63), (.c (.rv (.bool false)))], none⟩, ⟨(some 65), .mv, [(.t 64)], none⟩, ⟨(some 66), .mv, [(.t 11)], (some (65, true))⟩, ⟨(some 67), .not, [(.t 66)], (some (65, true))⟩, ⟨(some 68), .mv, [(.t 67)], (some (65, true))⟩, ⟨(some 69), .mv, [(.t 12)], (some (68, false))⟩, ⟨(some 70), .mv, [(.t 10)], (some (68, false))⟩, ⟨(some 71), (.ibin .geq), [(.t 69), (.t 70)], (some (68, false))⟩, ⟨(some 72), .pick, [(.t 68), (.c (.rv (.bool true))), (.t 71)], (some (65, true))⟩, ⟨(some 73), .pick, [(.t 65), (.t 72), (.c (.rv (.bool false)))], none⟩, ⟨(some 4), .mv, [(.t 73)], none⟩]) .ret)))))))))
theorem k_decoupagelaw15_PreferWider : FnOK Go.Proofs.Try.prog 12 74 c_decoupagelaw15_PreferWider [(.t 4)] := fnOK_of (by kernel_rfl)


set_option maxHeartbeats 2000000 in
theorem sp_PreferWider (l : List Nd) (x : {n : Int // 0 ≤ n ∧ n ≤ 65535}) : CallR Go.Proofs.Try.prog 12 [.rv (.sl 49 (ndL l)), .rv (.int .u16 x.1)] [] [] (.rv (.bool true)) := by
  obtain ⟨n, hn0, hn1⟩ := x
  refine callR_G k_decoupagelaw15_PreferWider [.rv (.sl 49 (ndL l)), .rv (.int .u16 n)] _ (by simp) (by simp [BkAll, bk_agg, bkAll_map, bk_rv, bk_fn, Sty.sv, Ln.sv, Nd.sv]) (fun K hK => ?_)
  have hlen := ndL_len l
  simp -implicitDefEqProofs only [c_decoupagelaw15_PreferWider, go_sem, ↓reduceIte, Nat.reduceEqDiff, Nat.reduceAdd, Nat.reduceSub, Nat.reduceMul, Nat.reduceLeDiff, Nat.reduceLT, reduceCtorEq, Int.reduceToNat]
  by_cases hl : l.length > 20
  · have e1 : decide ((l.length : Int) > 20) = true := decide_eq_true (by omega)
    have hcall1 := sp_awake15; repeat' (first | (simp -implicitDefEqProofs only [go_sem, ↓reduceIte, Nat.reduceEqDiff, Nat.reduceAdd, Nat.reduceSub, Nat.reduceMul, Nat.reduceLeDiff, Nat.reduceLT, reduceCtorEq, Int.reduceToNat, hlen, e1]) | (with_reducible refine g_noent ?_) | (with_reducible refine g_call0 hcall1 ?_) | (with_reducible refine g_calld0 hcall1 ?_) | (refine cdS (fun hg => ?_) (fun hg => ?_) <;> try simp -implicitDefEqProofs only [hg, Bool.not_true, Bool.not_false]) | (refine gdS (fun hg => ?_) (fun hg => ?_) <;> try simp -implicitDefEqProofs only [hg, Bool.not_true, Bool.not_false]) | (refine gddS (fun hg => ?_) (fun hg => ?_) <;> try simp -implicitDefEqProofs only [hg, Bool.not_true, Bool.not_false]) | ((with_reducible apply And.intro); focus (first | trivial | omega | decide | (simp -implicitDefEqProofs only [maxLen]; omega) | (simp [maxLen, sty_len, nd_len, ndL_len, lnL_len, intsL_len, rvs_len, lensS_len]; done) | (simp [maxLen, sty_len, nd_len, ndL_len, lnL_len, intsL_len, rvs_len, lensS_len]; omega))) | fail)
    exact (hK _ _ (ret_t rfl)).2
  · have e1 : decide ((l.length : Int) > 20) = false := decide_eq_false (by omega)
    have hb : l.length ≤ 8589934592 := by omega
    have hck := sp_ref07_Check l hb
    by_cases hc : chk l = 0
    · have ht := chk_tree hc
      have hs := tree_shp ht
      rw [hc] at hck
      have e00 : ((0 : Int) != 0) = false := rfl
      have e01 : ((0 : Int) == 0) = true := rfl
      have htk : (ndL l).take l.length = ndL l := List.take_of_length_le (by omega)
      have wn : IntKind.i64.wrap n = n := wrap_i64 (by omega) (by omega)
      have hcall2 := sp_awake15; have hcall3 := sp_Plain; have hcall4 := hck; have hcall5 := sp_kin_Of l hb hc; repeat' (first | (simp -implicitDefEqProofs only [go_sem, ↓reduceIte, Nat.reduceEqDiff, Nat.reduceAdd, Nat.reduceSub, Nat.reduceMul, Nat.reduceLeDiff, Nat.reduceLT, reduceCtorEq, Int.reduceToNat, hlen, e1, e00, wn, htk, sty_len]) | (with_reducible refine g_noent ?_) | (with_reducible refine g_call0 hcall2 ?_) | (with_reducible refine g_calld0 hcall2 ?_) | (with_reducible refine g_call0 hcall3 ?_) | (with_reducible refine g_calld0 hcall3 ?_) | (with_reducible refine g_call0 hcall4 ?_) | (with_reducible refine g_calld0 hcall4 ?_) | (with_reducible refine g_call0 hcall5 ?_) | (with_reducible refine g_calld0 hcall5 ?_) | (refine cdS (fun hg => ?_) (fun hg => ?_) <;> try simp -implicitDefEqProofs only [hg, Bool.not_true, Bool.not_false]) | (refine gdS (fun hg => ?_) (fun hg => ?_) <;> try simp -implicitDefEqProofs only [hg, Bool.not_true, Bool.not_false]) | (refine gddS (fun hg => ?_) (fun hg => ?_) <;> try simp -implicitDefEqProofs only [hg, Bool.not_true, Bool.not_false]) | ((with_reducible apply And.intro); focus (first | trivial | omega | decide | (simp -implicitDefEqProofs only [maxLen]; omega) | (simp [maxLen, sty_len, nd_len, ndL_len, lnL_len, intsL_len, rvs_len, lensS_len]; done) | (simp [maxLen, sty_len, nd_len, ndL_len, lnL_len, intsL_len, rvs_len, lensS_len]; omega) | (rfl; done) | (exact ⟨rfl, by decide⟩; done))) | fail)
      have hrow : rvs (ndL (moreN l n)) = rvs (ndL l) ++ [(⟨wideS n, 0⟩ : Nd).cells.map SV.rv] := by simp [rvs, ndL, moreN]
      have hml := more_len l n
      have hko := sp_kin_OfR (moreN l n) (by omega) (more_chk hc (by omega) hn0 hn1) 1 2
      rw [hml] at hko
      refine g_calld hko (pre_one (by rw [hrow]; rfl)) trivial ?_
      obtain ⟨k1, k2⟩ := more_wider hs hn0 hn1 l.length
      have c1 := sp_Content l hs hb (l.length + 2) ((0 : Nat) : Int) (by omega)
      have c2 := sp_Content (moreN l n) (more_shp hs) (by omega) (l.length + 2) ((0 : Nat) : Int) (by omega)
      rw [k1] at c2
      generalize contentF l (l.length + 2) ((0 : Nat) : Int) = a at *
      generalize contentF (moreN l n) (l.length + 2) ((0 : Nat) : Int) = b at *
      change CallR _ _ [_, .rv (.int .i64 0)] _ _ _ at c1
      change CallR _ _ [_, .rv (.int .i64 0)] _ _ _ at c2
      cases ha : a.2 with
      | false =>
        rw [ha] at c1 c2
        have hcall6 := c1; have hcall7 := c2; repeat' (first | (simp -implicitDefEqProofs only [go_sem, ↓reduceIte, Nat.reduceEqDiff, Nat.reduceAdd, Nat.reduceSub, Nat.reduceMul, Nat.reduceLeDiff, Nat.reduceLT, reduceCtorEq, Int.reduceToNat, e01, beq_self_eq_true]) | (with_reducible refine g_noent ?_) | (with_reducible refine g_call0 hcall6 ?_) | (with_reducible refine g_calld0 hcall6 ?_) | (with_reducible refine g_call0 hcall7 ?_) | (with_reducible refine g_calld0 hcall7 ?_) | (refine cdS (fun hg => ?_) (fun hg => ?_) <;> try simp -implicitDefEqProofs only [hg, Bool.not_true, Bool.not_false]) | (refine gdS (fun hg => ?_) (fun hg => ?_) <;> try simp -implicitDefEqProofs only [hg, Bool.not_true, Bool.not_false]) | (refine gddS (fun hg => ?_) (fun hg => ?_) <;> try simp -implicitDefEqProofs only [hg, Bool.not_true, Bool.not_false]) | ((with_reducible apply And.intro); focus (first | trivial | omega | decide | (simp -implicitDefEqProofs only [maxLen]; omega) | (simp [maxLen, sty_len, nd_len, ndL_len, lnL_len, intsL_len, rvs_len, lensS_len]; done) | (simp [maxLen, sty_len, nd_len, ndL_len, lnL_len, intsL_len, rvs_len, lensS_len]; omega))) | fail)
        exact (hK _ _ (ret_t rfl)).2
      | true =>
        rw [ha] at c1 c2
        have e5 : decide (b.1 ≥ a.1) = true := decide_eq_true (k2 ha)
        have hcall8 := c1; have hcall9 := c2; repeat' (first | (simp -implicitDefEqProofs only [go_sem, ↓reduceIte, Nat.reduceEqDiff, Nat.reduceAdd, Nat.reduceSub, Nat.reduceMul, Nat.reduceLeDiff, Nat.reduceLT, reduceCtorEq, Int.reduceToNat, e01, e5, beq_self_eq_true]) | (with_reducible refine g_noent ?_) | (with_reducible refine g_call0 hcall8 ?_) | (with_reducible refine g_calld0 hcall8 ?_) | (with_reducible refine g_call0 hcall9 ?_) | (with_reducible refine g_calld0 hcall9 ?_) | (refine cdS (fun hg => ?_) (fun hg => ?_) <;> try simp -implicitDefEqProofs only [hg, Bool.not_true, Bool.not_false]) | (refine gdS (fun hg => ?_) (fun hg => ?_) <;> try simp -implicitDefEqProofs only [hg, Bool.not_true, Bool.not_false]) | (refine gddS (fun hg => ?_) (fun hg => ?_) <;> try simp -implicitDefEqProofs only [hg, Bool.not_true, Bool.not_false]) | ((with_reducible apply And.intro); focus (first | trivial | omega | decide | (simp -implicitDefEqProofs only [maxLen]; omega) | (simp [maxLen, sty_len, nd_len, ndL_len, lnL_len, intsL_len, rvs_len, lensS_len]; done) | (simp [maxLen, sty_len, nd_len, ndL_len, lnL_len, intsL_len, rvs_len, lensS_len]; omega))) | fail)
        exact (hK _ _ (ret_t rfl)).2
    · have e00 : (chk l != 0) = true := by simpa using hc
      have hcall10 := sp_awake15; have hcall11 := hck; repeat' (first | (simp -implicitDefEqProofs only [go_sem, ↓reduceIte, Nat.reduceEqDiff, Nat.reduceAdd, Nat.reduceSub, Nat.reduceMul, Nat.reduceLeDiff, Nat.reduceLT, reduceCtorEq, Int.reduceToNat, hlen, e1, e00]) | (with_reducible refine g_noent ?_) | (with_reducible refine g_call0 hcall10 ?_) | (with_reducible refine g_calld0 hcall10 ?_) | (with_reducible refine g_call0 hcall11 ?_) | (with_reducible refine g_calld0 hcall11 ?_) | (refine cdS (fun hg => ?_) (fun hg => ?_) <;> try simp -implicitDefEqProofs only [hg, Bool.not_true, Bool.not_false]) | (refine gdS (fun hg => ?_) (fun hg => ?_) <;> try simp -implicitDefEqProofs only [hg, Bool.not_true, Bool.not_false]) | (refine gddS (fun hg => ?_) (fun hg => ?_) <;> try simp -implicitDefEqProofs only [hg, Bool.not_true, Bool.not_false]) | ((with_reducible apply And.intro); focus (first | trivial | omega | decide | (simp -implicitDefEqProofs only [maxLen]; omega) | (simp [maxLen, sty_len, nd_len, ndL_len, lnL_len, intsL_len, rvs_len, lensS_len]; done) | (simp [maxLen, sty_len, nd_len, ndL_len, lnL_len, intsL_len, rvs_len, lensS_len]; omega))) | fail)
      exact (hK _ _ (ret_t rfl)).2
end Go.Eng

/- What comes in, as nodes and numbers. -/
namespace Go.Eng
open Go Go.Proofs

theorem tyInt {n : Nat} {rs : List RV} (h : TyC Go.Proofs.Try.prog (n + 1) 3 rs) : ∃ i, rs = [.int .i64 i] := by
  obtain ⟨i, h, _⟩ := tyC_int Try.underlying3 h
  exact ⟨i, h⟩
theorem tyInt64 {n : Nat} {rs : List RV} (h : TyC Go.Proofs.Try.prog (n + 1) 2 rs) : ∃ i, rs = [.int .i64 i] := by
  obtain ⟨i, h, _⟩ := tyC_int Try.underlying2 h
  exact ⟨i, h⟩
theorem tyBool {n : Nat} {rs : List RV} (h : TyC Go.Proofs.Try.prog (n + 1) 4 rs) : ∃ b, rs = [.bool b] := by
  exact tyC_bool Try.underlying4 h
theorem tyLen {n : Nat} {rs : List RV} (h : TyC Go.Proofs.Try.prog (n + 2) 36 rs) : ∃ x : Ln, rs = x.cells := by
  have h := tyC_struct Try.underlying36 h
  obtain ⟨_, _, rfl, h1, _, _, rfl, h2, rfl⟩ := h
  obtain ⟨i, rfl⟩ := tyInt h1
  obtain ⟨j, rfl⟩ := tyInt64 h2
  exact ⟨⟨i, j⟩, rfl⟩
theorem list4 {α : Type} {xs : List α} (h : xs.length = 4) : ∃ a b c d, xs = [a, b, c, d] := by
  match xs, h with
  | [a, b, c, d], _ => exact ⟨a, b, c, d, rfl⟩
theorem tyQ {n : Nat} {rs : List RV} (h : TyC Go.Proofs.Try.prog (n + 3) 37 rs) : ∃ q : Q4 Ln, rs = q.lns := by
  obtain ⟨xs, rfl, hl, hx⟩ := tyC_array Try.underlying37 h
  obtain ⟨a, b, c, d, rfl⟩ := list4 hl
  obtain ⟨a, rfl⟩ := tyLen (hx a (by simp))
  obtain ⟨b, rfl⟩ := tyLen (hx b (by simp))
  obtain ⟨c, rfl⟩ := tyLen (hx c (by simp))
  obtain ⟨d, rfl⟩ := tyLen (hx d (by simp))
  exact ⟨⟨a, b, c, d⟩, rfl⟩
theorem tyB {n : Nat} {rs : List RV} (h : TyC Go.Proofs.Try.prog (n + 2) 38 rs) : ∃ q : Q4 Int, rs = q.ints := by
  obtain ⟨xs, rfl, hl, hx⟩ := tyC_array Try.underlying38 h
  obtain ⟨a, b, c, d, rfl⟩ := list4 hl
  obtain ⟨a, rfl⟩ := tyInt64 (hx a (by simp))
  obtain ⟨b, rfl⟩ := tyInt64 (hx b (by simp))
  obtain ⟨c, rfl⟩ := tyInt64 (hx c (by simp))
  obtain ⟨d, rfl⟩ := tyInt64 (hx d (by simp))
  exact ⟨⟨a, b, c, d⟩, rfl⟩
theorem tySty {n : Nat} {rs : List RV} (h : TyC Go.Proofs.Try.prog (n + 4) 40 rs) : ∃ s : Sty, rs = s.cells := by
  have h := tyC_struct Try.underlying40 h
  obtain ⟨_, _, rfl, h1, _, _, rfl, h2, _, _, rfl, h3, _, _, rfl, h4, _, _, rfl, h5, _, _, rfl, h6, _, _, rfl, h7, _, _, rfl, h8, _, _, rfl, h9, _, _, rfl, h10, _, _, rfl, h11, _, _, rfl, h12, _, _, rfl, h13, _, _, rfl, h14, _, _, rfl, h15, _, _, rfl, h16, _, _, rfl, h17, _, _, rfl, h18, rfl⟩ := h
  obtain ⟨b1, rfl⟩ := tyBool h1
  obtain ⟨i2, rfl⟩ := tyInt h2
  obtain ⟨q3, rfl⟩ := tyQ h3
  obtain ⟨x4, rfl⟩ := tyLen h4
  obtain ⟨x5, rfl⟩ := tyLen h5
  obtain ⟨x6, rfl⟩ := tyLen h6
  obtain ⟨x7, rfl⟩ := tyLen h7
  obtain ⟨x8, rfl⟩ := tyLen h8
  obtain ⟨x9, rfl⟩ := tyLen h9
  obtain ⟨q10, rfl⟩ := tyQ h10
  obtain ⟨q11, rfl⟩ := tyQ h11
  obtain ⟨q12, rfl⟩ := tyB h12
  obtain ⟨b13, rfl⟩ := tyBool h13
  obtain ⟨b14, rfl⟩ := tyBool h14
  obtain ⟨i15, rfl⟩ := tyInt64 h15
  obtain ⟨b16, rfl⟩ := tyBool h16
  obtain ⟨i17, rfl⟩ := tyInt64 h17
  obtain ⟨i18, rfl⟩ := tyInt64 h18
  exact ⟨⟨b1, i2, q3, x4, x5, x6, x7, x8, x9, q10, q11, q12, b13, b14, i15, b16, i17, i18⟩, rfl⟩
theorem tyNode {n : Nat} {rs : List RV} (h : TyC Go.Proofs.Try.prog (n + 5) 42 rs) : ∃ x : Nd, rs = x.cells := by
  have h := tyC_struct Try.underlying42 h
  obtain ⟨_, _, rfl, h1, _, _, rfl, h2, rfl⟩ := h
  obtain ⟨s, rfl⟩ := tySty h1
  obtain ⟨i, rfl⟩ := tyInt h2
  exact ⟨⟨s, i⟩, rfl⟩
theorem list_of {α : Type} {f : α → List RV} : ∀ {xs : List (List RV)}, (∀ x ∈ xs, ∃ a, x = f a) → ∃ l : List α, xs = l.map f
  | [], _ => ⟨[], rfl⟩
  | x :: xs, h => by
    obtain ⟨a, rfl⟩ := h x (by simp)
    obtain ⟨l, rfl⟩ := list_of (xs := xs) fun y hy => h y (by simp [hy])
    exact ⟨a :: l, rfl⟩

theorem cells49 : Program.cellsOf Go.Proofs.Try.prog 42 = 49 := by kernel_rfl
theorem aggN : aggT Go.Proofs.Try.prog 22 = some false := by kernel_rfl
theorem openNodes {rs : List RV} (h : TyC Go.Proofs.Try.prog 6 22 rs) : ∃ l : List Nd, argS Go.Proofs.Try.prog 22 rs = .rv (.sl 49 (ndL l)) := by
  obtain ⟨xs, rfl, _, hx⟩ := tyC_slice Try.underlying22 h
  obtain ⟨l, rfl⟩ := list_of fun x hx' => tyNode (hx x hx')
  refine ⟨l, ?_⟩
  rw [argS_one aggN, cells49]; rfl
end Go.Eng

/- What comes in, as a small number. -/
namespace Go.Eng
open Go Go.Proofs
theorem aggU : aggT Go.Proofs.Try.prog 57 = some false := by kernel_rfl
theorem openU16 {rs : List RV} (h : TyC Go.Proofs.Try.prog 1 57 rs) : ∃ x : {n : Int // 0 ≤ n ∧ n ≤ 65535}, argS Go.Proofs.Try.prog 57 rs = .rv (.int .u16 x.1) := by
  obtain ⟨i, rfl, hw⟩ := tyC_int Try.underlying57 h
  refine ⟨⟨i, ?_⟩, argS_one aggU⟩
  simp [Lit.wf] at hw
  have h1 : IntKind.u16.min = 0 := rfl
  have h2 : IntKind.u16.max = 65535 := rfl
  omega
end Go.Eng
