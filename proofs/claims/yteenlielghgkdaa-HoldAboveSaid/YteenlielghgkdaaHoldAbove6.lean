/- Part 6 of the proof: H2, KF. -/
import Derived.Test.YteenlielghgkdaaHoldAbove5
import Derived.Test.YteenlielghgkdaaProg
import Derived.KernelRfl
set_option linter.unusedSimpArgs false
set_option linter.unusedVariables false
/- hold: the statements as functions. -/
namespace Go.Eng
open Go
/- decoupage/decoupagelaw18.awake -/
def c_decoupagelaw18_awake : AC := (.seq (.reg [⟨(some 0), .mv, [(.c (.rv (.bool false)))], none⟩]) (.seq (.reg [⟨(some 4), (.call 54), [], none⟩, ⟨(some 1), (.alloc [(.bool false), (.int .i64 0), (.int .i64 0), (.int .i64 0), (.int .i64 0), (.int .i64 0), (.int .i64 0), (.int .i64 0), (.int .i64 0), (.int .i64 0), (.int .i64 0), (.int .i64 0), (.int .i64 0), (.int .i64 0), (.int .i64 0), (.int .i64 0), (.int .i64 0), (.int .i64 0), (.int .i64 0), (.int .i64 0), (.int .i64 0), (.int .i64 0), (.int .i64 0), (.int .i64 0), (.int .i64 0), (.int .i64 0), (.int .i64 0), (.int .i64 0), (.int .i64 0), (.int .i64 0), (.int .i64 0), (.int .i64 0), (.int .i64 0), (.int .i64 0), (.int .i64 0), (.int .i64 0), (.int .i64 0), (.int .i64 0), (.int .i64 0), (.int .i64 0), (.int .i64 0), (.int .i64 0), (.bool false), (.bool false), (.int .i64 0), (.bool false), (.int .i64 0), (.int .i64 0)]), [], none⟩, ⟨none, (.store 48), [(.t 1), (.t 4)], none⟩]) (.seq (.reg [⟨(some 5), (.fld 1), [(.t 1)], none⟩, ⟨none, (.store 1), [(.t 5), (.c (.rv (.int .i64 1)))], none⟩]) (.seq (.reg [⟨(some 7), (.load 48 true), [(.t 1)], none⟩, ⟨(some 8), (.build [(.bool false), (.int .i64 0), (.int .i64 0), (.int .i64 0), (.int .i64 0), (.int .i64 0), (.int .i64 0), (.int .i64 0), (.int .i64 0), (.int .i64 0), (.int .i64 0), (.int .i64 0), (.int .i64 0), (.int .i64 0), (.int .i64 0), (.int .i64 0), (.int .i64 0), (.int .i64 0), (.int .i64 0), (.int .i64 0), (.int .i64 0), (.int .i64 0), (.int .i64 0), (.int .i64 0), (.int .i64 0), (.int .i64 0), (.int .i64 0), (.int .i64 0), (.int .i64 0), (.int .i64 0), (.int .i64 0), (.int .i64 0), (.int .i64 0), (.int .i64 0), (.int .i64 0), (.int .i64 0), (.int .i64 0), (.int .i64 0), (.int .i64 0), (.int .i64 0), (.int .i64 0), (.int .i64 0), (.bool false), (.bool false), (.int .i64 0), (.bool false), (.int .i64 0), (.int .i64 0), (.int .i64 0)] [(0, 48), (48, 1)]), [(.t 7), (.c (.rv (.int .i64 (-1))))], none⟩, ⟨(some 9), (.load 48 true), [(.t 1)], none⟩, ⟨(some 10), (.build [(.bool false), (.int .i64 0), (.int .i64 0), (.int .i64 0), (.int .i64 0), (.int .i64 0), (.int .i64 0), (.int .i64 0), (.int .i64 0), (.int .i64 0), (.int .i64 0), (.int .i64 0), (.int .i64 0), (.int .i64 0), (.int .i64 0), (.int .i64 0), (.int .i64 0), (.int .i64 0), (.int .i64 0), (.int .i64 0), (.int .i64 0), (.int .i64 0), (.int .i64 0), (.int .i64 0), (.int .i64 0), (.int .i64 0), (.int .i64 0), (.int .i64 0), (.int .i64 0), (.int .i64 0), (.int .i64 0), (.int .i64 0), (.int .i64 0), (.int .i64 0), (.int .i64 0), (.int .i64 0), (.int .i64 0), (.int .i64 0), (.int .i64 0), (.int .i64 0), (.int .i64 0), (.int .i64 0), (.bool false), (.bool false), (.int .i64 0), (.bool false), (.int .i64 0), (.int .i64 0), (.int .i64 0)] [(0, 48)]), [(.t 9)], none⟩, ⟨(some 11), (.bsl 49), [(.t 8), (.t 10)], none⟩, ⟨(some 12), (.call 17), [(.t 11)], none⟩, ⟨(some 6), .mv, [(.t 12)], none⟩, ⟨(some 13), (.ext 0), [(.t 6)], none⟩, ⟨(some 14), (.ext 1), [(.t 6)], none⟩, ⟨(some 2), .mv, [(.t 13)], none⟩, ⟨(some 3), .mv, [(.t 14)], none⟩]) (.seq (.reg [⟨(some 15), .mv, [(.t 3)], none⟩, ⟨(some 16), (.ibin .eql), [(.t 15), (.c (.rv (.int .i64 0)))], none⟩, ⟨(some 17), .mv, [(.t 16)], none⟩, ⟨(some 18), .mv, [(.t 2)], (some (17, true))⟩, ⟨(some 19), (.call 35), [(.t 18), (.c (.rv (.int .i64 1)))], (some (17, true))⟩, ⟨(some 20), .pick, [(.t 17), (.t 19), (.c (.rv (.bool false)))], none⟩, ⟨(some 21), .mv, [(.t 20)], none⟩, ⟨(some 22), .mv, [(.t 2)], (some (21, true))⟩, ⟨(some 23), (.call 35), [(.t 22), (.c (.rv (.int .i64 0)))], (some (21, true))⟩, ⟨(some 24), .not, [(.t 23)], (some (21, true))⟩, ⟨(some 25), .pick, [(.t 21), (.t 24), (.c (.rv (.bool false)))], none⟩, ⟨(some 26), .mv, [(.t 25)], none⟩, ⟨(some 27), .mv, [(.t 2)], (some (26, true))⟩, ⟨(some 28), (.call 33), [(.t 27), (.c (.rv (.int .i64 0)))], (some (26, true))⟩, ⟨(some 29), (.ibin .eql), [(.t 28), (.c (.rv (.int .i64 (-1))))], (some (26, true))⟩, ⟨(some 30), .pick, [(.t 26), (.t 29), (.c (.rv (.bool false)))], none⟩, ⟨(some 0), .mv, [(.t 30)], none⟩]) .ret)))))
theorem k_decoupagelaw18_awake : FnOK Go.Proofs.Try.prog 32 31 c_decoupagelaw18_awake [(.t 0)] := fnOK_of (by kernel_rfl)

/- decoupage/decoupagelaw18.HoldTells -/
def c_decoupagelaw18_HoldTells : AC := (.seq (.reg [⟨(some 4), .mv, [(.c (.rv (.bool false)))], none⟩]) (.seq (.seq (.reg [⟨(some 7), (.call 32), [], none⟩, ⟨(some 8), .not, [(.t 7)], none⟩, ⟨(some 9), .mv, [(.t 8)], none⟩, ⟨(some 10), .mv, [(.t 0)], (some (9, false))⟩, ⟨(some 11), .len, [(.t 10)], (some (9, false))⟩, ⟨(some 12), (.ibin .gtr), [(.t 11), (.c (.rv (.int .i64 60)))], (some (9, false))⟩, ⟨(some 13), .pick, [(.t 9), (.c (.rv (.bool true))), (.t 12)], none⟩, ⟨(some 14), .mv, [(.t 13)], none⟩, ⟨(some 15), .mv, [(.t 0)], (some (14, false))⟩, ⟨(some 16), (.call 21), [(.t 15)], (some (14, false))⟩, ⟨(some 17), (.ibin .neq), [(.t 16), (.c (.rv (.int .i64 0)))], (some (14, false))⟩, ⟨(some 18), .pick, [(.t 14), (.c (.rv (.bool true))), (.t 17)], none⟩]) (.cond (.t 18) (.seq (.reg [⟨(some 19), (.call 32), [], none⟩, ⟨(some 4), .mv, [(.t 19)], none⟩]) .ret) .skip)) (.seq (.reg [⟨(some 21), .mv, [(.t 0)], none⟩, ⟨(some 22), (.call 17), [(.t 21)], none⟩, ⟨(some 20), .mv, [(.t 22)], none⟩, ⟨(some 23), (.ext 0), [(.t 20)], none⟩, ⟨(some 24), (.ext 1), [(.t 20)], none⟩, ⟨(some 5), .mv, [(.t 23)], none⟩, ⟨(some 6), .mv, [(.t 24)], none⟩]) (.seq (.reg [⟨(some 25), .mv, [(.t 6)], none⟩, ⟨(some 26), (.ibin .eql), [(.t 25), (.c (.rv (.int .i64 0)))], none⟩, ⟨(some 27), .mv, [(.t 26)], none⟩, ⟨(some 28), .mv, [(.t 5)], (some (27, true))⟩, ⟨(some 29), .mv, [(.t 1)], (some (27, true))⟩, ⟨(some 30), (.call 33), [(.t 28), (.t 29)], (some (27, true))⟩, ⟨(some 31), .mv, [(.t 0)], (some (27, true))⟩, ⟨(some 32), .mv, [(.t 1)], (some (27, true))⟩, ⟨(some 33), (.call 34), [(.t 31), (.t 32)], (some (27, true))⟩, ⟨(some 34), (.ibin .eql), [(.t 30), (.t 33)], (some (27, true))⟩, ⟨(some 35), .pick, [(.t 27), (.t 34), (.c (.rv (.bool false)))], none⟩, ⟨(some 36), .mv, [(.t 35)], none⟩, ⟨(some 37), .mv, [(.t 5)], (some (36, true))⟩, ⟨(some 38), .mv, [(.t 1)], (some (36, true))⟩, ⟨(some 39), (.call 35), [(.t 37), (.t 38)], (some (36, true))⟩, ⟨(some 40), .mv, [(.t 0)], (some (36, true))⟩, ⟨(some 41), .mv, [(.t 1)], (some (36, true))⟩, ⟨(some 42), (.call 36), [(.t 40), (.t 41)], (some (36, true))⟩, ⟨(some 43), (.eqb false), [(.t 39), (.t 42)], (some (36, true))⟩, ⟨(some 44), .pick, [(.t 36), (.t 43), (.c (.rv (.bool false)))], none⟩, ⟨(some 4), .mv, [(.t 44)], none⟩]) .ret))))
theorem k_decoupagelaw18_HoldTells : FnOK Go.Proofs.Try.prog 7 45 c_decoupagelaw18_HoldTells [(.t 4)] := fnOK_of (by kernel_rfl)

/- decoupage/decoupagelaw18.HoldAbove -/
def c_decoupagelaw18_HoldAbove : AC := (.seq (.reg [⟨(some 4), .mv, [(.c (.rv (.bool false)))], none⟩]) (.seq (.seq (.reg [⟨(some 9), (.call 32), [], none⟩, ⟨(some 10), .not, [(.t 9)], none⟩, ⟨(some 11), .mv, [(.t 10)], none⟩, ⟨(some 12), .mv, [(.t 0)], (some (11, false))⟩, ⟨(some 13), .len, [(.t 12)], (some (11, false))⟩, ⟨(some 14), (.ibin .gtr), [(.t 13), (.c (.rv (.int .i64 60)))], (some (11, false))⟩, ⟨(some 15), .pick, [(.t 11), (.c (.rv (.bool true))), (.t 14)], none⟩, ⟨(some 16), .mv, [(.t 15)], none⟩, ⟨(some 17), .mv, [(.t 0)], (some (16, false))⟩, ⟨(some 18), (.call 21), [(.t 17)], (some (16, false))⟩, ⟨(some 19), (.ibin .neq), [(.t 18), (.c (.rv (.int .i64 0)))], (some (16, false))⟩, ⟨(some 20), .pick, [(.t 16), (.c (.rv (.bool true))), (.t 19)], none⟩]) (.cond (.t 20) (.seq (.reg [⟨(some 21), (.call 32), [], none⟩, ⟨(some 4), .mv, [(.t 21)], none⟩]) .ret) .skip)) (.seq (.reg [⟨(some 23), .mv, [(.t 0)], none⟩, ⟨(some 24), (.call 17), [(.t 23)], none⟩, ⟨(some 22), .mv, [(.t 24)], none⟩, ⟨(some 25), (.ext 0), [(.t 22)], none⟩, ⟨(some 26), (.ext 1), [(.t 22)], none⟩, ⟨(some 5), .mv, [(.t 25)], none⟩, ⟨(some 6), .mv, [(.t 26)], none⟩]) (.seq (.reg [⟨(some 27), .mv, [(.t 5)], none⟩, ⟨(some 28), .mv, [(.t 1)], none⟩, ⟨(some 29), (.call 33), [(.t 27), (.t 28)], none⟩, ⟨(some 7), .mv, [(.t 29)], none⟩]) (.seq (.seq (.reg [⟨(some 30), .mv, [(.t 6)], none⟩, ⟨(some 31), (.ibin .neq), [(.t 30), (.c (.rv (.int .i64 0)))], none⟩, ⟨(some 32), .mv, [(.t 31)], none⟩, ⟨(some 33), .mv, [(.t 7)], (some (32, false))⟩, ⟨(some 34), (.ibin .neq), [(.t 33), (.c (.rv (.int .i64 (-1))))], (some (32, false))⟩, ⟨(some 35), .mv, [(.t 34)], (some (32, false))⟩, ⟨(some 36), .mv, [(.t 5)], (some (35, true))⟩, ⟨(some 37), .mv, [(.t 7)], (some (35, true))⟩, ⟨(some 38), .mv, [(.t 1)], (some (35, true))⟩, ⟨(some 39), (.call 19), [(.t 36), (.t 37), (.t 38)], (some (35, true))⟩, ⟨(some 40), .not, [(.t 39)], (some (35, true))⟩, ⟨(some 41), .mv, [(.t 40)], (some (35, true))⟩, ⟨(some 42), .mv, [(.t 7)], (some (41, false))⟩, ⟨(some 43), .mv, [(.t 1)], (some (41, false))⟩, ⟨(some 44), (.ibin .eql), [(.t 42), (.t 43)], (some (41, false))⟩, ⟨(some 45), .pick, [(.t 41), (.c (.rv (.bool true))), (.t 44)], (some (35, true))⟩, ⟨(some 46), .pick, [(.t 35), (.t 45), (.c (.rv (.bool false)))], (some (32, false))⟩, ⟨(some 47), .pick, [(.t 32), (.c (.rv (.bool true))), (.t 46)], none⟩]) (.cond (.t 47) (.seq (.reg [⟨(some 4), .mv, [(.c (.rv (.bool false)))], none⟩]) .ret) .skip)) (.seq (.seq (.reg [⟨(some 48), .mv, [(.t 5)], none⟩, ⟨(some 49), .mv, [(.t 1)], none⟩, ⟨(some 50), (.call 31), [(.t 48), (.t 49)], none⟩, ⟨(some 51), .not, [(.t 50)], none⟩, ⟨(some 52), .mv, [(.t 51)], none⟩, ⟨(some 53), .mv, [(.t 5)], (some (52, false))⟩, ⟨(some 54), .mv, [(.t 1)], (some (52, false))⟩, ⟨(some 55), (.call 26), [(.t 53), (.t 54)], (some (52, false))⟩, ⟨(some 56), (.fldv 1 1 false), [(.t 55)], (some (52, false))⟩, ⟨(some 57), (.ibin .neq), [(.t 56), (.c (.rv (.int .i64 2)))], (some (52, false))⟩, ⟨(some 58), .pick, [(.t 52), (.c (.rv (.bool true))), (.t 57)], none⟩]) (.cond (.t 58) (.seq (.reg [⟨(some 59), .mv, [(.t 5)], none⟩, ⟨(some 60), .mv, [(.t 1)], none⟩, ⟨(some 61), (.call 30), [(.t 59), (.t 60)], none⟩, ⟨(some 62), .mv, [(.t 61)], none⟩, ⟨(some 63), .mv, [(.t 7)], (some (62, false))⟩, ⟨(some 64), (.ibin .eql), [(.t 63), (.c (.rv (.int .i64 (-1))))], (some (62, false))⟩, ⟨(some 65), .pick, [(.t 62), (.c (.rv (.bool true))), (.t 64)], none⟩, ⟨(some 4), .mv, [(.t 65)], none⟩]) .ret) .skip)) (.seq (.seq (.reg [⟨(some 66), .mv, [(.t 5)], none⟩, ⟨(some 67), .mv, [(.t 1)], none⟩, ⟨(some 68), (.call 25), [(.t 66), (.t 67)], none⟩, ⟨(some 8), .mv, [(.t 68)], none⟩]) (.seq (.block 0 (.loop (.seq (.seq (.reg [⟨(some 69), .mv, [(.t 8)], none⟩, ⟨(some 70), .mv, [(.t 7)], none⟩, ⟨(some 71), (.ibin .neq), [(.t 69), (.t 70)], none⟩]) (.cond (.t 71) .skip (.exit 0))) (.seq (.seq (.block 1 (.seq (.reg [⟨(some 75), .mv, [(.t 8)], none⟩, ⟨(some 76), (.ibin .lss), [(.t 75), (.c (.rv (.int .i64 0)))], none⟩, ⟨(some 77), .mv, [(.t 76)], none⟩, ⟨(some 78), .mv, [(.t 5)], (some (77, false))⟩, ⟨(some 79), .mv, [(.t 8)], (some (77, false))⟩, ⟨(some 80), (.call 35), [(.t 78), (.t 79)], (some (77, false))⟩, ⟨(some 81), .pick, [(.t 77), (.c (.rv (.bool true))), (.t 80)], none⟩]) (.cond (.t 81) (.seq (.reg [⟨(some 4), .mv, [(.c (.rv (.bool false)))], none⟩]) .ret) .skip))) .ent) (.reg [⟨(some 72), .mv, [(.t 5)], none⟩, ⟨(some 73), .mv, [(.t 8)], none⟩, ⟨(some 74), (.call 25), [(.t 72), (.t 73)], none⟩, ⟨(some 8), .mv, [(.t 74)], none⟩]))))) .ent)) (.seq (.reg [⟨(some 82), .mv, [(.t 7)], none⟩, ⟨(some 83), (.ibin .eql), [(.t 82), (.c (.rv (.int .i64 (-1))))], none⟩, ⟨(some 84), .mv, [(.t 83)], none⟩, ⟨(some 85), .mv, [(.t 5)], (some (84, false))⟩, ⟨(some 86), .mv, [(.t 7)], (some (84, false))⟩, ⟨(some 87), (.call 35), [(.t 85), (.t 86)], (some (84, false))⟩, ⟨(some 88), .pick, [(.t 84), (.c (.rv (.bool true))), (.t 87)], none⟩, ⟨(some 4), .mv, [(.t 88)], none⟩]) .ret))))))))
theorem k_decoupagelaw18_HoldAbove : FnOK Go.Proofs.Try.prog 8 89 c_decoupagelaw18_HoldAbove [(.t 4)] := fnOK_of (by kernel_rfl)


def placeS : Sty := { plainS with position := 1 }
def twoN : List Nd := [⟨placeS, -1⟩, ⟨placeS, 0⟩]
theorem two_chk : chk twoN = 0 := by decide +kernel
theorem two_tree : treeOK twoN = true := by decide +kernel
theorem two_made0 : madeAt twoN 0 = true := by simp [madeAt, inL, twoN, madeS_zero, shownL, placeS, plainS]
theorem two_made1 : madeAt twoN 1 = true := by
  have h := madeS_par (l := twoN) (n := 1) (k := 2) (tree_shp two_tree).wf (by decide) (by decide)
  have h0 : madeS twoN 0 = true := by simpa [madeAt, inL, twoN] using two_made0
  have : (parL twoN 1).toNat = 0 := rfl
  rw [this, h0] at h
  have h1 : shownL twoN 1 = true := rfl
  simp [madeAt, inL, h, h1]
  simp [twoN]
theorem two_pos0 : posAt twoN 0 = false := by simp [posAt]
theorem two_pos1 : posAt twoN 1 = true := by
  have : (styAt twoN 1).position = 1 := rfl
  simp [posAt, two_made1, this]
theorem two_hold : holdAt twoN 0 = -1 := by
  have : outAt twoN 0 = false := by simp [outAt]
  have hp : parAt twoN 0 = -1 := rfl
  simp [holdAt, this, two_made0, hp]

theorem sp_awake18 : CallR Go.Proofs.Try.prog 32 [] [] [] (.rv (.bool true)) := by
  refine callR_G k_decoupagelaw18_awake [] _ (by simp) (by simp [BkAll, bk_agg, bkAll_map, bk_rv, bk_fn, Sty.sv, Ln.sv, Nd.sv]) (fun K hK => ?_)
  have hk := sp_kin_OfR twoN (by decide) two_chk 1 0
  have hp0 := sp_Positioned twoN 0
  have hp1 := sp_Positioned twoN 1
  have ho := sp_Of twoN (tree_shp two_tree) 0
  rw [two_pos0] at hp0
  rw [two_pos1] at hp1
  rw [two_hold] at ho
  have e1 : ((0 : Int) == 0) = true := rfl
  have e2 : ((-1 : Int) == -1) = true := rfl
  simp -implicitDefEqProofs only [c_decoupagelaw18_awake, go_sem, ↓reduceIte, Nat.reduceEqDiff, Nat.reduceAdd, Nat.reduceSub, Nat.reduceMul, Nat.reduceLeDiff, Nat.reduceLT, reduceCtorEq, Int.reduceToNat]
  have hcall1 := sp_Plain; repeat' (first | (simp -implicitDefEqProofs only [go_sem, ↓reduceIte, Nat.reduceEqDiff, Nat.reduceAdd, Nat.reduceSub, Nat.reduceMul, Nat.reduceLeDiff, Nat.reduceLT, reduceCtorEq, Int.reduceToNat, sty_len]) | (with_reducible refine g_noent ?_) | (with_reducible refine g_call0 hcall1 ?_) | (with_reducible refine g_calld0 hcall1 ?_) | (refine cdS (fun hg => ?_) (fun hg => ?_) <;> try simp -implicitDefEqProofs only [hg, Bool.not_true, Bool.not_false]) | (refine gdS (fun hg => ?_) (fun hg => ?_) <;> try simp -implicitDefEqProofs only [hg, Bool.not_true, Bool.not_false]) | (refine gddS (fun hg => ?_) (fun hg => ?_) <;> try simp -implicitDefEqProofs only [hg, Bool.not_true, Bool.not_false]) | ((with_reducible apply And.intro); focus (first | trivial | omega | decide | (simp -implicitDefEqProofs only [maxLen]; omega) | (simp [maxLen, sty_len, nd_len, ndL_len, lnL_len, intsL_len, rvs_len, lensS_len]; done) | (simp [maxLen, sty_len, nd_len, ndL_len, lnL_len, intsL_len, rvs_len, lensS_len]; omega) | (rfl; done) | (exact ⟨rfl, by decide⟩; done))) | fail)
  refine g_call hk (pre_one rfl) trivial ?_
  have hcall2 := hp0; have hcall3 := hp1; have hcall4 := ho; repeat' (first | (simp -implicitDefEqProofs only [go_sem, ↓reduceIte, Nat.reduceEqDiff, Nat.reduceAdd, Nat.reduceSub, Nat.reduceMul, Nat.reduceLeDiff, Nat.reduceLT, reduceCtorEq, Int.reduceToNat, e1, e2]) | (with_reducible refine g_noent ?_) | (with_reducible refine g_call0 hcall2 ?_) | (with_reducible refine g_calld0 hcall2 ?_) | (with_reducible refine g_call0 hcall3 ?_) | (with_reducible refine g_calld0 hcall3 ?_) | (with_reducible refine g_call0 hcall4 ?_) | (with_reducible refine g_calld0 hcall4 ?_) | (refine cdS (fun hg => ?_) (fun hg => ?_) <;> try simp -implicitDefEqProofs only [hg, Bool.not_true, Bool.not_false]) | (refine gdS (fun hg => ?_) (fun hg => ?_) <;> try simp -implicitDefEqProofs only [hg, Bool.not_true, Bool.not_false]) | (refine gddS (fun hg => ?_) (fun hg => ?_) <;> try simp -implicitDefEqProofs only [hg, Bool.not_true, Bool.not_false]) | ((with_reducible apply And.intro); focus (first | trivial | omega | decide | (simp -implicitDefEqProofs only [maxLen]; omega) | (simp [maxLen, sty_len, nd_len, ndL_len, lnL_len, intsL_len, rvs_len, lensS_len]; done) | (simp [maxLen, sty_len, nd_len, ndL_len, lnL_len, intsL_len, rvs_len, lensS_len]; omega))) | fail)
  exact (hK _ _ (ret_t rfl)).2

theorem hold_side {l : List Nd} (hs : Shp l) (n : Int) : holdAt l n = -1 ∨ (belowAt l (holdAt l n) n = true ∧ holdAt l n ≠ n) := by
  by_cases h1 : holdAt l n = -1
  · exact .inl h1
  · right
    cases hm : madeAt l n with
    | false => exact absurd (by simp [holdAt, hm]) h1
    | true =>
      have key : ∀ i, i < (upAt l n).length → belowAt l (atI (upAt l n) i) n = true ∧ atI (upAt l n) i ≠ n := fun i hi => by
        rw [atI_lt hi]
        obtain ⟨a, b, c⟩ := up_below hs (List.getElem_mem hi)
        exact ⟨a, b⟩
      cases ho : outAt l n with
      | false =>
        have hv : holdAt l n = atI (upAt l n) 0 := by simp [holdAt, hm, ho, up_zero hs]
        rw [hv] at h1 ⊢
        refine key 0 ?_
        apply Classical.byContradiction
        intro h
        exact h1 (atI_ge (by omega))
      | true =>
        by_cases h3 : (styAt l n).position = 3
        · exact absurd (by simp [holdAt, hm, ho, h3]) h1
        · have hv : holdAt l n = fstI (posAt l) (upAt l n) := by simp [holdAt, hm, ho, h3]
          rcases fst_cases (posAt l) (upAt l n) with ⟨h, _⟩ | ⟨i, hi, h, hp, hj⟩
          · exact absurd (hv.trans h) h1
          · rw [hv, h, ← atI_lt hi]
            exact key i hi

theorem sp_HoldTells (l : List Nd) (n : Int) : CallR Go.Proofs.Try.prog 7 [.rv (.sl 49 (ndL l)), .rv (.int .i64 n)] [] [] (.rv (.bool true)) := by
  refine callR_G k_decoupagelaw18_HoldTells [.rv (.sl 49 (ndL l)), .rv (.int .i64 n)] _ (by simp) (by simp [BkAll, bk_agg, bkAll_map, bk_rv, bk_fn, Sty.sv, Ln.sv, Nd.sv]) (fun K hK => ?_)
  have hlen := ndL_len l
  simp -implicitDefEqProofs only [c_decoupagelaw18_HoldTells, go_sem, ↓reduceIte, Nat.reduceEqDiff, Nat.reduceAdd, Nat.reduceSub, Nat.reduceMul, Nat.reduceLeDiff, Nat.reduceLT, reduceCtorEq, Int.reduceToNat]
  by_cases hl : l.length > 60
  · have e1 : decide ((l.length : Int) > 60) = true := decide_eq_true (by omega)
    have hcall5 := sp_awake18; repeat' (first | (simp -implicitDefEqProofs only [go_sem, ↓reduceIte, Nat.reduceEqDiff, Nat.reduceAdd, Nat.reduceSub, Nat.reduceMul, Nat.reduceLeDiff, Nat.reduceLT, reduceCtorEq, Int.reduceToNat, hlen, e1]) | (with_reducible refine g_noent ?_) | (with_reducible refine g_call0 hcall5 ?_) | (with_reducible refine g_calld0 hcall5 ?_) | (refine cdS (fun hg => ?_) (fun hg => ?_) <;> try simp -implicitDefEqProofs only [hg, Bool.not_true, Bool.not_false]) | (refine gdS (fun hg => ?_) (fun hg => ?_) <;> try simp -implicitDefEqProofs only [hg, Bool.not_true, Bool.not_false]) | (refine gddS (fun hg => ?_) (fun hg => ?_) <;> try simp -implicitDefEqProofs only [hg, Bool.not_true, Bool.not_false]) | ((with_reducible apply And.intro); focus (first | trivial | omega | decide | (simp -implicitDefEqProofs only [maxLen]; omega) | (simp [maxLen, sty_len, nd_len, ndL_len, lnL_len, intsL_len, rvs_len, lensS_len]; done) | (simp [maxLen, sty_len, nd_len, ndL_len, lnL_len, intsL_len, rvs_len, lensS_len]; omega))) | fail)
    exact (hK _ _ (ret_t rfl)).2
  · have e1 : decide ((l.length : Int) > 60) = false := decide_eq_false (by omega)
    have hb : l.length ≤ 8589934592 := by omega
    have hck := sp_ref07_Check l hb
    by_cases hc : chk l = 0
    · have ht := chk_tree hc
      have hs := tree_shp ht
      rw [hc] at hck
      have e00 : ((0 : Int) != 0) = false := rfl
      have e01 : ((0 : Int) == 0) = true := rfl
      have h1 := sp_Of l hs n
      have h2 := sp_ref18_Of l ht hb n
      have h3 := sp_Positioned l n
      have h4 := sp_ref18_Positioned l ht n
      have hcall6 := sp_awake18; have hcall7 := hck; have hcall8 := sp_kin_Of l hb hc; have hcall9 := h1; have hcall10 := h2; have hcall11 := h3; have hcall12 := h4; repeat' (first | (simp -implicitDefEqProofs only [go_sem, ↓reduceIte, Nat.reduceEqDiff, Nat.reduceAdd, Nat.reduceSub, Nat.reduceMul, Nat.reduceLeDiff, Nat.reduceLT, reduceCtorEq, Int.reduceToNat, hlen, e1, e00, e01, beq_self_eq_true]) | (with_reducible refine g_noent ?_) | (with_reducible refine g_call0 hcall6 ?_) | (with_reducible refine g_calld0 hcall6 ?_) | (with_reducible refine g_call0 hcall7 ?_) | (with_reducible refine g_calld0 hcall7 ?_) | (with_reducible refine g_call0 hcall8 ?_) | (with_reducible refine g_calld0 hcall8 ?_) | (with_reducible refine g_call0 hcall9 ?_) | (with_reducible refine g_calld0 hcall9 ?_) | (with_reducible refine g_call0 hcall10 ?_) | (with_reducible refine g_calld0 hcall10 ?_) | (with_reducible refine g_call0 hcall11 ?_) | (with_reducible refine g_calld0 hcall11 ?_) | (with_reducible refine g_call0 hcall12 ?_) | (with_reducible refine g_calld0 hcall12 ?_) | (refine cdS (fun hg => ?_) (fun hg => ?_) <;> try simp -implicitDefEqProofs only [hg, Bool.not_true, Bool.not_false]) | (refine gdS (fun hg => ?_) (fun hg => ?_) <;> try simp -implicitDefEqProofs only [hg, Bool.not_true, Bool.not_false]) | (refine gddS (fun hg => ?_) (fun hg => ?_) <;> try simp -implicitDefEqProofs only [hg, Bool.not_true, Bool.not_false]) | ((with_reducible apply And.intro); focus (first | trivial | omega | decide | (simp -implicitDefEqProofs only [maxLen]; omega) | (simp [maxLen, sty_len, nd_len, ndL_len, lnL_len, intsL_len, rvs_len, lensS_len]; done) | (simp [maxLen, sty_len, nd_len, ndL_len, lnL_len, intsL_len, rvs_len, lensS_len]; omega))) | fail)
      exact (hK _ _ (ret_t rfl)).2
    · have e00 : (chk l != 0) = true := by simpa using hc
      have hcall13 := sp_awake18; have hcall14 := hck; repeat' (first | (simp -implicitDefEqProofs only [go_sem, ↓reduceIte, Nat.reduceEqDiff, Nat.reduceAdd, Nat.reduceSub, Nat.reduceMul, Nat.reduceLeDiff, Nat.reduceLT, reduceCtorEq, Int.reduceToNat, hlen, e1, e00]) | (with_reducible refine g_noent ?_) | (with_reducible refine g_call0 hcall13 ?_) | (with_reducible refine g_calld0 hcall13 ?_) | (with_reducible refine g_call0 hcall14 ?_) | (with_reducible refine g_calld0 hcall14 ?_) | (refine cdS (fun hg => ?_) (fun hg => ?_) <;> try simp -implicitDefEqProofs only [hg, Bool.not_true, Bool.not_false]) | (refine gdS (fun hg => ?_) (fun hg => ?_) <;> try simp -implicitDefEqProofs only [hg, Bool.not_true, Bool.not_false]) | (refine gddS (fun hg => ?_) (fun hg => ?_) <;> try simp -implicitDefEqProofs only [hg, Bool.not_true, Bool.not_false]) | ((with_reducible apply And.intro); focus (first | trivial | omega | decide | (simp -implicitDefEqProofs only [maxLen]; omega) | (simp [maxLen, sty_len, nd_len, ndL_len, lnL_len, intsL_len, rvs_len, lensS_len]; done) | (simp [maxLen, sty_len, nd_len, ndL_len, lnL_len, intsL_len, rvs_len, lensS_len]; omega))) | fail)
      exact (hK _ _ (ret_t rfl)).2

set_option maxHeartbeats 4000000 in
theorem sp_HoldAbove (l : List Nd) (n : Int) : CallR Go.Proofs.Try.prog 8 [.rv (.sl 49 (ndL l)), .rv (.int .i64 n)] [] [] (.rv (.bool true)) := by
  refine callR_G k_decoupagelaw18_HoldAbove [.rv (.sl 49 (ndL l)), .rv (.int .i64 n)] _ (by simp) (by simp [BkAll, bk_agg, bkAll_map, bk_rv, bk_fn, Sty.sv, Ln.sv, Nd.sv]) (fun K hK => ?_)
  have hlen := ndL_len l
  simp -implicitDefEqProofs only [c_decoupagelaw18_HoldAbove, go_sem, ↓reduceIte, Nat.reduceEqDiff, Nat.reduceAdd, Nat.reduceSub, Nat.reduceMul, Nat.reduceLeDiff, Nat.reduceLT, reduceCtorEq, Int.reduceToNat]
  by_cases hl : l.length > 60
  · have e1 : decide ((l.length : Int) > 60) = true := decide_eq_true (by omega)
    have hcall15 := sp_awake18; repeat' (first | (simp -implicitDefEqProofs only [go_sem, ↓reduceIte, Nat.reduceEqDiff, Nat.reduceAdd, Nat.reduceSub, Nat.reduceMul, Nat.reduceLeDiff, Nat.reduceLT, reduceCtorEq, Int.reduceToNat, hlen, e1]) | (with_reducible refine g_noent ?_) | (with_reducible refine g_call0 hcall15 ?_) | (with_reducible refine g_calld0 hcall15 ?_) | (refine cdS (fun hg => ?_) (fun hg => ?_) <;> try simp -implicitDefEqProofs only [hg, Bool.not_true, Bool.not_false]) | (refine gdS (fun hg => ?_) (fun hg => ?_) <;> try simp -implicitDefEqProofs only [hg, Bool.not_true, Bool.not_false]) | (refine gddS (fun hg => ?_) (fun hg => ?_) <;> try simp -implicitDefEqProofs only [hg, Bool.not_true, Bool.not_false]) | ((with_reducible apply And.intro); focus (first | trivial | omega | decide | (simp -implicitDefEqProofs only [maxLen]; omega) | (simp [maxLen, sty_len, nd_len, ndL_len, lnL_len, intsL_len, rvs_len, lensS_len]; done) | (simp [maxLen, sty_len, nd_len, ndL_len, lnL_len, intsL_len, rvs_len, lensS_len]; omega))) | fail)
    exact (hK _ _ (ret_t rfl)).2
  · have e1 : decide ((l.length : Int) > 60) = false := decide_eq_false (by omega)
    have hb : l.length ≤ 8589934592 := by omega
    have hck := sp_ref07_Check l hb
    by_cases hc : chk l = 0
    · have ht := chk_tree hc
      have hs := tree_shp ht
      rw [hc] at hck
      have e00 : ((0 : Int) != 0) = false := rfl
      have h1 := sp_Of l hs n
      have h3 := sp_Out l n
      have h4 := sp_Style l n
      have h5 := sp_Made l n
      have h6 := sp_Parent l n
      have hbl := sp_Below l n (holdAt l n)
      have hfirst : ((holdAt l n != -1) = false) ∨ ((holdAt l n != -1) = true ∧ belowAt l (holdAt l n) n = true ∧ (holdAt l n == n) = false) := by
        rcases hold_side hs n with h | ⟨h, h'⟩
        · left; simp [h]
        · by_cases h9 : holdAt l n = -1
          · left; simp [h9]
          · right; exact ⟨by simp [h9], h, by simpa using h'⟩
      rcases hfirst with hf | ⟨hf, hf2, hf3⟩
      · cases ho : outAt l n with
        | false =>
          rw [ho] at h3
          cases hm : madeAt l n with
          | true =>
            rw [hm] at h5
            have hcall16 := sp_awake18; have hcall17 := hck; have hcall18 := sp_kin_Of l hb hc; have hcall19 := h1; have hcall20 := h3; have hcall21 := h4; have hcall22 := h5; have hcall23 := h6; repeat' (first | (simp -implicitDefEqProofs only [go_sem, ↓reduceIte, Nat.reduceEqDiff, Nat.reduceAdd, Nat.reduceSub, Nat.reduceMul, Nat.reduceLeDiff, Nat.reduceLT, reduceCtorEq, Int.reduceToNat, hlen, e1, e00, sty_at1, hf]) | (with_reducible refine g_noent ?_) | (with_reducible refine g_call0 hcall16 ?_) | (with_reducible refine g_calld0 hcall16 ?_) | (with_reducible refine g_call0 hcall17 ?_) | (with_reducible refine g_calld0 hcall17 ?_) | (with_reducible refine g_call0 hcall18 ?_) | (with_reducible refine g_calld0 hcall18 ?_) | (with_reducible refine g_call0 hcall19 ?_) | (with_reducible refine g_calld0 hcall19 ?_) | (with_reducible refine g_call0 hcall20 ?_) | (with_reducible refine g_calld0 hcall20 ?_) | (with_reducible refine g_call0 hcall21 ?_) | (with_reducible refine g_calld0 hcall21 ?_) | (with_reducible refine g_call0 hcall22 ?_) | (with_reducible refine g_calld0 hcall22 ?_) | (with_reducible refine g_call0 hcall23 ?_) | (with_reducible refine g_calld0 hcall23 ?_) | (refine cdS (fun hg => ?_) (fun hg => ?_) <;> try simp -implicitDefEqProofs only [hg, Bool.not_true, Bool.not_false]) | (refine gdS (fun hg => ?_) (fun hg => ?_) <;> try simp -implicitDefEqProofs only [hg, Bool.not_true, Bool.not_false]) | (refine gddS (fun hg => ?_) (fun hg => ?_) <;> try simp -implicitDefEqProofs only [hg, Bool.not_true, Bool.not_false]) | ((with_reducible apply And.intro); focus (first | trivial | omega | decide | (simp -implicitDefEqProofs only [maxLen]; omega) | (simp [maxLen, sty_len, nd_len, ndL_len, lnL_len, intsL_len, rvs_len, lensS_len]; done) | (simp [maxLen, sty_len, nd_len, ndL_len, lnL_len, intsL_len, rvs_len, lensS_len]; omega))) | fail)
            exact (hK _ _ (ret_t rfl)).2
          | false =>
            rw [hm] at h5
            have hv : (holdAt l n == -1) = true := by simp [holdAt, hm]
            have hcall24 := sp_awake18; have hcall25 := hck; have hcall26 := sp_kin_Of l hb hc; have hcall27 := h1; have hcall28 := h3; have hcall29 := h4; have hcall30 := h5; have hcall31 := h6; repeat' (first | (simp -implicitDefEqProofs only [go_sem, ↓reduceIte, Nat.reduceEqDiff, Nat.reduceAdd, Nat.reduceSub, Nat.reduceMul, Nat.reduceLeDiff, Nat.reduceLT, reduceCtorEq, Int.reduceToNat, hlen, e1, e00, sty_at1, hf, hv]) | (with_reducible refine g_noent ?_) | (with_reducible refine g_call0 hcall24 ?_) | (with_reducible refine g_calld0 hcall24 ?_) | (with_reducible refine g_call0 hcall25 ?_) | (with_reducible refine g_calld0 hcall25 ?_) | (with_reducible refine g_call0 hcall26 ?_) | (with_reducible refine g_calld0 hcall26 ?_) | (with_reducible refine g_call0 hcall27 ?_) | (with_reducible refine g_calld0 hcall27 ?_) | (with_reducible refine g_call0 hcall28 ?_) | (with_reducible refine g_calld0 hcall28 ?_) | (with_reducible refine g_call0 hcall29 ?_) | (with_reducible refine g_calld0 hcall29 ?_) | (with_reducible refine g_call0 hcall30 ?_) | (with_reducible refine g_calld0 hcall30 ?_) | (with_reducible refine g_call0 hcall31 ?_) | (with_reducible refine g_calld0 hcall31 ?_) | (refine cdS (fun hg => ?_) (fun hg => ?_) <;> try simp -implicitDefEqProofs only [hg, Bool.not_true, Bool.not_false]) | (refine gdS (fun hg => ?_) (fun hg => ?_) <;> try simp -implicitDefEqProofs only [hg, Bool.not_true, Bool.not_false]) | (refine gddS (fun hg => ?_) (fun hg => ?_) <;> try simp -implicitDefEqProofs only [hg, Bool.not_true, Bool.not_false]) | ((with_reducible apply And.intro); focus (first | trivial | omega | decide | (simp -implicitDefEqProofs only [maxLen]; omega) | (simp [maxLen, sty_len, nd_len, ndL_len, lnL_len, intsL_len, rvs_len, lensS_len]; done) | (simp [maxLen, sty_len, nd_len, ndL_len, lnL_len, intsL_len, rvs_len, lensS_len]; omega))) | fail)
            exact (hK _ _ (ret_t rfl)).2
        | true =>
          rw [ho] at h3
          have hm : madeAt l n = true := by simp [outAt] at ho; exact ho.1.1
          rw [hm] at h5
          by_cases hp : (styAt l n).position = 2
          · have e2 : ((styAt l n).position != 2) = false := by simp [hp]
            have hv : holdAt l n = fstI (posAt l) (upAt l n) := by simp [holdAt, hm, ho, hp]
            have hcall32 := sp_awake18; have hcall33 := hck; have hcall34 := sp_kin_Of l hb hc; have hcall35 := h1; have hcall36 := h3; have hcall37 := h4; have hcall38 := h5; have hcall39 := h6; repeat' (first | (simp -implicitDefEqProofs only [go_sem, ↓reduceIte, Nat.reduceEqDiff, Nat.reduceAdd, Nat.reduceSub, Nat.reduceMul, Nat.reduceLeDiff, Nat.reduceLT, reduceCtorEq, Int.reduceToNat, hlen, e1, e00, sty_at1, hf, e2]) | (with_reducible refine g_noent ?_) | (with_reducible refine g_call0 hcall32 ?_) | (with_reducible refine g_calld0 hcall32 ?_) | (with_reducible refine g_call0 hcall33 ?_) | (with_reducible refine g_calld0 hcall33 ?_) | (with_reducible refine g_call0 hcall34 ?_) | (with_reducible refine g_calld0 hcall34 ?_) | (with_reducible refine g_call0 hcall35 ?_) | (with_reducible refine g_calld0 hcall35 ?_) | (with_reducible refine g_call0 hcall36 ?_) | (with_reducible refine g_calld0 hcall36 ?_) | (with_reducible refine g_call0 hcall37 ?_) | (with_reducible refine g_calld0 hcall37 ?_) | (with_reducible refine g_call0 hcall38 ?_) | (with_reducible refine g_calld0 hcall38 ?_) | (with_reducible refine g_call0 hcall39 ?_) | (with_reducible refine g_calld0 hcall39 ?_) | (refine cdS (fun hg => ?_) (fun hg => ?_) <;> try simp -implicitDefEqProofs only [hg, Bool.not_true, Bool.not_false]) | (refine gdS (fun hg => ?_) (fun hg => ?_) <;> try simp -implicitDefEqProofs only [hg, Bool.not_true, Bool.not_false]) | (refine gddS (fun hg => ?_) (fun hg => ?_) <;> try simp -implicitDefEqProofs only [hg, Bool.not_true, Bool.not_false]) | ((with_reducible apply And.intro); focus (first | trivial | omega | decide | (simp -implicitDefEqProofs only [maxLen]; omega) | (simp [maxLen, sty_len, nd_len, ndL_len, lnL_len, intsL_len, rvs_len, lensS_len]; done) | (simp [maxLen, sty_len, nd_len, ndL_len, lnL_len, intsL_len, rvs_len, lensS_len]; omega))) | fail)
            refine g_loop (ι := Nat) (fun i => [(8, .rv (.int .i64 (atI (upAt l n) i))), (7, .rv (.int .i64 (holdAt l n))), (5, .rv (kinV l))]) (fun _ => []) (fun i => i ≤ (upAt l n).length ∧ fstI (posAt l) ((upAt l n).drop i) = fstI (posAt l) (upAt l n)) (fun i => (upAt l n).length - i) 0 (by simp) (by rw [up_zero hs]; exact ent_env (by simp [lk])) (fun i hi' K' hN hX hR => ?_)
            obtain ⟨hi1, hi2⟩ := hi'
            simp -implicitDefEqProofs only [go_sem, ↓reduceIte, Nat.reduceEqDiff, Nat.reduceAdd, Nat.reduceSub, Nat.reduceMul, Nat.reduceLeDiff, Nat.reduceLT, reduceCtorEq, Int.reduceToNat]
            refine cdS (fun hg => ?_) (fun hg => ?_)
            · have hil : i < (upAt l n).length := by
                apply Classical.byContradiction
                intro h
                rw [atI_ge (by omega), hv, fst_end (by omega) hi2] at hg
                simp at hg
              have q1 := sp_Positioned l (atI (upAt l n) i)
              have q2 := sp_Parent l (atI (upAt l n) i)
              rw [up_next hs n hil] at q2
              have hb : posAt l (atI (upAt l n) i) = false := by
                rw [Bool.eq_false_iff]
                intro hb
                rw [hv, fst_hit hil hi2 hb] at hg
                simp at hg
              rw [hb] at q1
              have e5 : decide (atI (upAt l n) i < 0) = false := decide_eq_false (by have := atI_iff.2 hil; omega)
              have hcall40 := q1; have hcall41 := q2; repeat' (first | (simp -implicitDefEqProofs only [go_sem, ↓reduceIte, Nat.reduceEqDiff, Nat.reduceAdd, Nat.reduceSub, Nat.reduceMul, Nat.reduceLeDiff, Nat.reduceLT, reduceCtorEq, Int.reduceToNat, e5]) | (with_reducible refine g_noent ?_) | (with_reducible refine g_call0 hcall40 ?_) | (with_reducible refine g_calld0 hcall40 ?_) | (with_reducible refine g_call0 hcall41 ?_) | (with_reducible refine g_calld0 hcall41 ?_) | (refine cdS (fun hg => ?_) (fun hg => ?_) <;> try simp -implicitDefEqProofs only [hg, Bool.not_true, Bool.not_false]) | (refine gdS (fun hg => ?_) (fun hg => ?_) <;> try simp -implicitDefEqProofs only [hg, Bool.not_true, Bool.not_false]) | (refine gddS (fun hg => ?_) (fun hg => ?_) <;> try simp -implicitDefEqProofs only [hg, Bool.not_true, Bool.not_false]) | ((with_reducible apply And.intro); focus (first | trivial | omega | decide | (simp -implicitDefEqProofs only [maxLen]; omega) | (simp [maxLen, sty_len, nd_len, ndL_len, lnL_len, intsL_len, rvs_len, lensS_len]; done) | (simp [maxLen, sty_len, nd_len, ndL_len, lnL_len, intsL_len, rvs_len, lensS_len]; omega))) | fail)
              exact hN (i + 1) _ _ ⟨by omega, fst_miss hil hi2 hb⟩ (by omega) (ent_env (by simp [lk]))
            · simp -implicitDefEqProofs only [go_sem, ↓reduceIte, Nat.reduceEqDiff, Nat.reduceAdd, Nat.reduceSub, Nat.reduceMul, Nat.reduceLeDiff, Nat.reduceLT, reduceCtorEq, Int.reduceToNat]
              refine hX _ _ _ ?_
              have q1 := sp_Positioned l (holdAt l n)
              rcases fst_cases (posAt l) (upAt l n) with ⟨h, _⟩ | ⟨j, hj, h, hpj, _⟩
              · have e6 : (holdAt l n == -1) = true := by rw [hv, h]; rfl
                have hcall42 := q1; repeat' (first | (simp -implicitDefEqProofs only [go_sem, ↓reduceIte, Nat.reduceEqDiff, Nat.reduceAdd, Nat.reduceSub, Nat.reduceMul, Nat.reduceLeDiff, Nat.reduceLT, reduceCtorEq, Int.reduceToNat, e6]) | (with_reducible refine g_noent ?_) | (with_reducible refine g_call0 hcall42 ?_) | (with_reducible refine g_calld0 hcall42 ?_) | (refine cdS (fun hg => ?_) (fun hg => ?_) <;> try simp -implicitDefEqProofs only [hg, Bool.not_true, Bool.not_false]) | (refine gdS (fun hg => ?_) (fun hg => ?_) <;> try simp -implicitDefEqProofs only [hg, Bool.not_true, Bool.not_false]) | (refine gddS (fun hg => ?_) (fun hg => ?_) <;> try simp -implicitDefEqProofs only [hg, Bool.not_true, Bool.not_false]) | ((with_reducible apply And.intro); focus (first | trivial | omega | decide | (simp -implicitDefEqProofs only [maxLen]; omega) | (simp [maxLen, sty_len, nd_len, ndL_len, lnL_len, intsL_len, rvs_len, lensS_len]; done) | (simp [maxLen, sty_len, nd_len, ndL_len, lnL_len, intsL_len, rvs_len, lensS_len]; omega))) | fail)
                exact (hK _ _ (ret_t rfl)).2
              · have e6 : (holdAt l n == -1) = false := by rw [hv, h]; simp
                rw [show posAt l (holdAt l n) = true by rw [hv, h]; exact hpj] at q1
                have hcall43 := q1; repeat' (first | (simp -implicitDefEqProofs only [go_sem, ↓reduceIte, Nat.reduceEqDiff, Nat.reduceAdd, Nat.reduceSub, Nat.reduceMul, Nat.reduceLeDiff, Nat.reduceLT, reduceCtorEq, Int.reduceToNat, e6]) | (with_reducible refine g_noent ?_) | (with_reducible refine g_call0 hcall43 ?_) | (with_reducible refine g_calld0 hcall43 ?_) | (refine cdS (fun hg => ?_) (fun hg => ?_) <;> try simp -implicitDefEqProofs only [hg, Bool.not_true, Bool.not_false]) | (refine gdS (fun hg => ?_) (fun hg => ?_) <;> try simp -implicitDefEqProofs only [hg, Bool.not_true, Bool.not_false]) | (refine gddS (fun hg => ?_) (fun hg => ?_) <;> try simp -implicitDefEqProofs only [hg, Bool.not_true, Bool.not_false]) | ((with_reducible apply And.intro); focus (first | trivial | omega | decide | (simp -implicitDefEqProofs only [maxLen]; omega) | (simp [maxLen, sty_len, nd_len, ndL_len, lnL_len, intsL_len, rvs_len, lensS_len]; done) | (simp [maxLen, sty_len, nd_len, ndL_len, lnL_len, intsL_len, rvs_len, lensS_len]; omega))) | fail)
                exact (hK _ _ (ret_t rfl)).2
          · have e2 : ((styAt l n).position != 2) = true := by simp [hp]
            have hcall44 := sp_awake18; have hcall45 := hck; have hcall46 := sp_kin_Of l hb hc; have hcall47 := h1; have hcall48 := h3; have hcall49 := h4; have hcall50 := h5; have hcall51 := h6; repeat' (first | (simp -implicitDefEqProofs only [go_sem, ↓reduceIte, Nat.reduceEqDiff, Nat.reduceAdd, Nat.reduceSub, Nat.reduceMul, Nat.reduceLeDiff, Nat.reduceLT, reduceCtorEq, Int.reduceToNat, hlen, e1, e00, sty_at1, hf, e2]) | (with_reducible refine g_noent ?_) | (with_reducible refine g_call0 hcall44 ?_) | (with_reducible refine g_calld0 hcall44 ?_) | (with_reducible refine g_call0 hcall45 ?_) | (with_reducible refine g_calld0 hcall45 ?_) | (with_reducible refine g_call0 hcall46 ?_) | (with_reducible refine g_calld0 hcall46 ?_) | (with_reducible refine g_call0 hcall47 ?_) | (with_reducible refine g_calld0 hcall47 ?_) | (with_reducible refine g_call0 hcall48 ?_) | (with_reducible refine g_calld0 hcall48 ?_) | (with_reducible refine g_call0 hcall49 ?_) | (with_reducible refine g_calld0 hcall49 ?_) | (with_reducible refine g_call0 hcall50 ?_) | (with_reducible refine g_calld0 hcall50 ?_) | (with_reducible refine g_call0 hcall51 ?_) | (with_reducible refine g_calld0 hcall51 ?_) | (refine cdS (fun hg => ?_) (fun hg => ?_) <;> try simp -implicitDefEqProofs only [hg, Bool.not_true, Bool.not_false]) | (refine gdS (fun hg => ?_) (fun hg => ?_) <;> try simp -implicitDefEqProofs only [hg, Bool.not_true, Bool.not_false]) | (refine gddS (fun hg => ?_) (fun hg => ?_) <;> try simp -implicitDefEqProofs only [hg, Bool.not_true, Bool.not_false]) | ((with_reducible apply And.intro); focus (first | trivial | omega | decide | (simp -implicitDefEqProofs only [maxLen]; omega) | (simp [maxLen, sty_len, nd_len, ndL_len, lnL_len, intsL_len, rvs_len, lensS_len]; done) | (simp [maxLen, sty_len, nd_len, ndL_len, lnL_len, intsL_len, rvs_len, lensS_len]; omega))) | fail)
            exact (hK _ _ (ret_t rfl)).2
      · rw [hf2] at hbl
        cases ho : outAt l n with
        | false =>
          rw [ho] at h3
          cases hm : madeAt l n with
          | true =>
            rw [hm] at h5
            have hcall52 := sp_awake18; have hcall53 := hck; have hcall54 := sp_kin_Of l hb hc; have hcall55 := h1; have hcall56 := h3; have hcall57 := h4; have hcall58 := h5; have hcall59 := h6; have hcall60 := hbl; repeat' (first | (simp -implicitDefEqProofs only [go_sem, ↓reduceIte, Nat.reduceEqDiff, Nat.reduceAdd, Nat.reduceSub, Nat.reduceMul, Nat.reduceLeDiff, Nat.reduceLT, reduceCtorEq, Int.reduceToNat, hlen, e1, e00, sty_at1, hf, hf3]) | (with_reducible refine g_noent ?_) | (with_reducible refine g_call0 hcall52 ?_) | (with_reducible refine g_calld0 hcall52 ?_) | (with_reducible refine g_call0 hcall53 ?_) | (with_reducible refine g_calld0 hcall53 ?_) | (with_reducible refine g_call0 hcall54 ?_) | (with_reducible refine g_calld0 hcall54 ?_) | (with_reducible refine g_call0 hcall55 ?_) | (with_reducible refine g_calld0 hcall55 ?_) | (with_reducible refine g_call0 hcall56 ?_) | (with_reducible refine g_calld0 hcall56 ?_) | (with_reducible refine g_call0 hcall57 ?_) | (with_reducible refine g_calld0 hcall57 ?_) | (with_reducible refine g_call0 hcall58 ?_) | (with_reducible refine g_calld0 hcall58 ?_) | (with_reducible refine g_call0 hcall59 ?_) | (with_reducible refine g_calld0 hcall59 ?_) | (with_reducible refine g_call0 hcall60 ?_) | (with_reducible refine g_calld0 hcall60 ?_) | (refine cdS (fun hg => ?_) (fun hg => ?_) <;> try simp -implicitDefEqProofs only [hg, Bool.not_true, Bool.not_false]) | (refine gdS (fun hg => ?_) (fun hg => ?_) <;> try simp -implicitDefEqProofs only [hg, Bool.not_true, Bool.not_false]) | (refine gddS (fun hg => ?_) (fun hg => ?_) <;> try simp -implicitDefEqProofs only [hg, Bool.not_true, Bool.not_false]) | ((with_reducible apply And.intro); focus (first | trivial | omega | decide | (simp -implicitDefEqProofs only [maxLen]; omega) | (simp [maxLen, sty_len, nd_len, ndL_len, lnL_len, intsL_len, rvs_len, lensS_len]; done) | (simp [maxLen, sty_len, nd_len, ndL_len, lnL_len, intsL_len, rvs_len, lensS_len]; omega))) | fail)
            exact (hK _ _ (ret_t rfl)).2
          | false =>
            rw [hm] at h5
            have hv : (holdAt l n == -1) = true := by simp [holdAt, hm]
            have hcall61 := sp_awake18; have hcall62 := hck; have hcall63 := sp_kin_Of l hb hc; have hcall64 := h1; have hcall65 := h3; have hcall66 := h4; have hcall67 := h5; have hcall68 := h6; have hcall69 := hbl; repeat' (first | (simp -implicitDefEqProofs only [go_sem, ↓reduceIte, Nat.reduceEqDiff, Nat.reduceAdd, Nat.reduceSub, Nat.reduceMul, Nat.reduceLeDiff, Nat.reduceLT, reduceCtorEq, Int.reduceToNat, hlen, e1, e00, sty_at1, hf, hf3, hv]) | (with_reducible refine g_noent ?_) | (with_reducible refine g_call0 hcall61 ?_) | (with_reducible refine g_calld0 hcall61 ?_) | (with_reducible refine g_call0 hcall62 ?_) | (with_reducible refine g_calld0 hcall62 ?_) | (with_reducible refine g_call0 hcall63 ?_) | (with_reducible refine g_calld0 hcall63 ?_) | (with_reducible refine g_call0 hcall64 ?_) | (with_reducible refine g_calld0 hcall64 ?_) | (with_reducible refine g_call0 hcall65 ?_) | (with_reducible refine g_calld0 hcall65 ?_) | (with_reducible refine g_call0 hcall66 ?_) | (with_reducible refine g_calld0 hcall66 ?_) | (with_reducible refine g_call0 hcall67 ?_) | (with_reducible refine g_calld0 hcall67 ?_) | (with_reducible refine g_call0 hcall68 ?_) | (with_reducible refine g_calld0 hcall68 ?_) | (with_reducible refine g_call0 hcall69 ?_) | (with_reducible refine g_calld0 hcall69 ?_) | (refine cdS (fun hg => ?_) (fun hg => ?_) <;> try simp -implicitDefEqProofs only [hg, Bool.not_true, Bool.not_false]) | (refine gdS (fun hg => ?_) (fun hg => ?_) <;> try simp -implicitDefEqProofs only [hg, Bool.not_true, Bool.not_false]) | (refine gddS (fun hg => ?_) (fun hg => ?_) <;> try simp -implicitDefEqProofs only [hg, Bool.not_true, Bool.not_false]) | ((with_reducible apply And.intro); focus (first | trivial | omega | decide | (simp -implicitDefEqProofs only [maxLen]; omega) | (simp [maxLen, sty_len, nd_len, ndL_len, lnL_len, intsL_len, rvs_len, lensS_len]; done) | (simp [maxLen, sty_len, nd_len, ndL_len, lnL_len, intsL_len, rvs_len, lensS_len]; omega))) | fail)
            exact (hK _ _ (ret_t rfl)).2
        | true =>
          rw [ho] at h3
          have hm : madeAt l n = true := by simp [outAt] at ho; exact ho.1.1
          rw [hm] at h5
          by_cases hp : (styAt l n).position = 2
          · have e2 : ((styAt l n).position != 2) = false := by simp [hp]
            have hv : holdAt l n = fstI (posAt l) (upAt l n) := by simp [holdAt, hm, ho, hp]
            have hcall70 := sp_awake18; have hcall71 := hck; have hcall72 := sp_kin_Of l hb hc; have hcall73 := h1; have hcall74 := h3; have hcall75 := h4; have hcall76 := h5; have hcall77 := h6; have hcall78 := hbl; repeat' (first | (simp -implicitDefEqProofs only [go_sem, ↓reduceIte, Nat.reduceEqDiff, Nat.reduceAdd, Nat.reduceSub, Nat.reduceMul, Nat.reduceLeDiff, Nat.reduceLT, reduceCtorEq, Int.reduceToNat, hlen, e1, e00, sty_at1, hf, hf3, e2]) | (with_reducible refine g_noent ?_) | (with_reducible refine g_call0 hcall70 ?_) | (with_reducible refine g_calld0 hcall70 ?_) | (with_reducible refine g_call0 hcall71 ?_) | (with_reducible refine g_calld0 hcall71 ?_) | (with_reducible refine g_call0 hcall72 ?_) | (with_reducible refine g_calld0 hcall72 ?_) | (with_reducible refine g_call0 hcall73 ?_) | (with_reducible refine g_calld0 hcall73 ?_) | (with_reducible refine g_call0 hcall74 ?_) | (with_reducible refine g_calld0 hcall74 ?_) | (with_reducible refine g_call0 hcall75 ?_) | (with_reducible refine g_calld0 hcall75 ?_) | (with_reducible refine g_call0 hcall76 ?_) | (with_reducible refine g_calld0 hcall76 ?_) | (with_reducible refine g_call0 hcall77 ?_) | (with_reducible refine g_calld0 hcall77 ?_) | (with_reducible refine g_call0 hcall78 ?_) | (with_reducible refine g_calld0 hcall78 ?_) | (refine cdS (fun hg => ?_) (fun hg => ?_) <;> try simp -implicitDefEqProofs only [hg, Bool.not_true, Bool.not_false]) | (refine gdS (fun hg => ?_) (fun hg => ?_) <;> try simp -implicitDefEqProofs only [hg, Bool.not_true, Bool.not_false]) | (refine gddS (fun hg => ?_) (fun hg => ?_) <;> try simp -implicitDefEqProofs only [hg, Bool.not_true, Bool.not_false]) | ((with_reducible apply And.intro); focus (first | trivial | omega | decide | (simp -implicitDefEqProofs only [maxLen]; omega) | (simp [maxLen, sty_len, nd_len, ndL_len, lnL_len, intsL_len, rvs_len, lensS_len]; done) | (simp [maxLen, sty_len, nd_len, ndL_len, lnL_len, intsL_len, rvs_len, lensS_len]; omega))) | fail)
            refine g_loop (ι := Nat) (fun i => [(8, .rv (.int .i64 (atI (upAt l n) i))), (7, .rv (.int .i64 (holdAt l n))), (5, .rv (kinV l))]) (fun _ => []) (fun i => i ≤ (upAt l n).length ∧ fstI (posAt l) ((upAt l n).drop i) = fstI (posAt l) (upAt l n)) (fun i => (upAt l n).length - i) 0 (by simp) (by rw [up_zero hs]; exact ent_env (by simp [lk])) (fun i hi' K' hN hX hR => ?_)
            obtain ⟨hi1, hi2⟩ := hi'
            simp -implicitDefEqProofs only [go_sem, ↓reduceIte, Nat.reduceEqDiff, Nat.reduceAdd, Nat.reduceSub, Nat.reduceMul, Nat.reduceLeDiff, Nat.reduceLT, reduceCtorEq, Int.reduceToNat]
            refine cdS (fun hg => ?_) (fun hg => ?_)
            · have hil : i < (upAt l n).length := by
                apply Classical.byContradiction
                intro h
                rw [atI_ge (by omega), hv, fst_end (by omega) hi2] at hg
                simp at hg
              have q1 := sp_Positioned l (atI (upAt l n) i)
              have q2 := sp_Parent l (atI (upAt l n) i)
              rw [up_next hs n hil] at q2
              have hb : posAt l (atI (upAt l n) i) = false := by
                rw [Bool.eq_false_iff]
                intro hb
                rw [hv, fst_hit hil hi2 hb] at hg
                simp at hg
              rw [hb] at q1
              have e5 : decide (atI (upAt l n) i < 0) = false := decide_eq_false (by have := atI_iff.2 hil; omega)
              have hcall79 := q1; have hcall80 := q2; repeat' (first | (simp -implicitDefEqProofs only [go_sem, ↓reduceIte, Nat.reduceEqDiff, Nat.reduceAdd, Nat.reduceSub, Nat.reduceMul, Nat.reduceLeDiff, Nat.reduceLT, reduceCtorEq, Int.reduceToNat, e5]) | (with_reducible refine g_noent ?_) | (with_reducible refine g_call0 hcall79 ?_) | (with_reducible refine g_calld0 hcall79 ?_) | (with_reducible refine g_call0 hcall80 ?_) | (with_reducible refine g_calld0 hcall80 ?_) | (refine cdS (fun hg => ?_) (fun hg => ?_) <;> try simp -implicitDefEqProofs only [hg, Bool.not_true, Bool.not_false]) | (refine gdS (fun hg => ?_) (fun hg => ?_) <;> try simp -implicitDefEqProofs only [hg, Bool.not_true, Bool.not_false]) | (refine gddS (fun hg => ?_) (fun hg => ?_) <;> try simp -implicitDefEqProofs only [hg, Bool.not_true, Bool.not_false]) | ((with_reducible apply And.intro); focus (first | trivial | omega | decide | (simp -implicitDefEqProofs only [maxLen]; omega) | (simp [maxLen, sty_len, nd_len, ndL_len, lnL_len, intsL_len, rvs_len, lensS_len]; done) | (simp [maxLen, sty_len, nd_len, ndL_len, lnL_len, intsL_len, rvs_len, lensS_len]; omega))) | fail)
              exact hN (i + 1) _ _ ⟨by omega, fst_miss hil hi2 hb⟩ (by omega) (ent_env (by simp [lk]))
            · simp -implicitDefEqProofs only [go_sem, ↓reduceIte, Nat.reduceEqDiff, Nat.reduceAdd, Nat.reduceSub, Nat.reduceMul, Nat.reduceLeDiff, Nat.reduceLT, reduceCtorEq, Int.reduceToNat]
              refine hX _ _ _ ?_
              have q1 := sp_Positioned l (holdAt l n)
              rcases fst_cases (posAt l) (upAt l n) with ⟨h, _⟩ | ⟨j, hj, h, hpj, _⟩
              · have e6 : (holdAt l n == -1) = true := by rw [hv, h]; rfl
                have hcall81 := q1; repeat' (first | (simp -implicitDefEqProofs only [go_sem, ↓reduceIte, Nat.reduceEqDiff, Nat.reduceAdd, Nat.reduceSub, Nat.reduceMul, Nat.reduceLeDiff, Nat.reduceLT, reduceCtorEq, Int.reduceToNat, e6]) | (with_reducible refine g_noent ?_) | (with_reducible refine g_call0 hcall81 ?_) | (with_reducible refine g_calld0 hcall81 ?_) | (refine cdS (fun hg => ?_) (fun hg => ?_) <;> try simp -implicitDefEqProofs only [hg, Bool.not_true, Bool.not_false]) | (refine gdS (fun hg => ?_) (fun hg => ?_) <;> try simp -implicitDefEqProofs only [hg, Bool.not_true, Bool.not_false]) | (refine gddS (fun hg => ?_) (fun hg => ?_) <;> try simp -implicitDefEqProofs only [hg, Bool.not_true, Bool.not_false]) | ((with_reducible apply And.intro); focus (first | trivial | omega | decide | (simp -implicitDefEqProofs only [maxLen]; omega) | (simp [maxLen, sty_len, nd_len, ndL_len, lnL_len, intsL_len, rvs_len, lensS_len]; done) | (simp [maxLen, sty_len, nd_len, ndL_len, lnL_len, intsL_len, rvs_len, lensS_len]; omega))) | fail)
                exact (hK _ _ (ret_t rfl)).2
              · have e6 : (holdAt l n == -1) = false := by rw [hv, h]; simp
                rw [show posAt l (holdAt l n) = true by rw [hv, h]; exact hpj] at q1
                have hcall82 := q1; repeat' (first | (simp -implicitDefEqProofs only [go_sem, ↓reduceIte, Nat.reduceEqDiff, Nat.reduceAdd, Nat.reduceSub, Nat.reduceMul, Nat.reduceLeDiff, Nat.reduceLT, reduceCtorEq, Int.reduceToNat, e6]) | (with_reducible refine g_noent ?_) | (with_reducible refine g_call0 hcall82 ?_) | (with_reducible refine g_calld0 hcall82 ?_) | (refine cdS (fun hg => ?_) (fun hg => ?_) <;> try simp -implicitDefEqProofs only [hg, Bool.not_true, Bool.not_false]) | (refine gdS (fun hg => ?_) (fun hg => ?_) <;> try simp -implicitDefEqProofs only [hg, Bool.not_true, Bool.not_false]) | (refine gddS (fun hg => ?_) (fun hg => ?_) <;> try simp -implicitDefEqProofs only [hg, Bool.not_true, Bool.not_false]) | ((with_reducible apply And.intro); focus (first | trivial | omega | decide | (simp -implicitDefEqProofs only [maxLen]; omega) | (simp [maxLen, sty_len, nd_len, ndL_len, lnL_len, intsL_len, rvs_len, lensS_len]; done) | (simp [maxLen, sty_len, nd_len, ndL_len, lnL_len, intsL_len, rvs_len, lensS_len]; omega))) | fail)
                exact (hK _ _ (ret_t rfl)).2
          · have e2 : ((styAt l n).position != 2) = true := by simp [hp]
            have hcall83 := sp_awake18; have hcall84 := hck; have hcall85 := sp_kin_Of l hb hc; have hcall86 := h1; have hcall87 := h3; have hcall88 := h4; have hcall89 := h5; have hcall90 := h6; have hcall91 := hbl; repeat' (first | (simp -implicitDefEqProofs only [go_sem, ↓reduceIte, Nat.reduceEqDiff, Nat.reduceAdd, Nat.reduceSub, Nat.reduceMul, Nat.reduceLeDiff, Nat.reduceLT, reduceCtorEq, Int.reduceToNat, hlen, e1, e00, sty_at1, hf, hf3, e2]) | (with_reducible refine g_noent ?_) | (with_reducible refine g_call0 hcall83 ?_) | (with_reducible refine g_calld0 hcall83 ?_) | (with_reducible refine g_call0 hcall84 ?_) | (with_reducible refine g_calld0 hcall84 ?_) | (with_reducible refine g_call0 hcall85 ?_) | (with_reducible refine g_calld0 hcall85 ?_) | (with_reducible refine g_call0 hcall86 ?_) | (with_reducible refine g_calld0 hcall86 ?_) | (with_reducible refine g_call0 hcall87 ?_) | (with_reducible refine g_calld0 hcall87 ?_) | (with_reducible refine g_call0 hcall88 ?_) | (with_reducible refine g_calld0 hcall88 ?_) | (with_reducible refine g_call0 hcall89 ?_) | (with_reducible refine g_calld0 hcall89 ?_) | (with_reducible refine g_call0 hcall90 ?_) | (with_reducible refine g_calld0 hcall90 ?_) | (with_reducible refine g_call0 hcall91 ?_) | (with_reducible refine g_calld0 hcall91 ?_) | (refine cdS (fun hg => ?_) (fun hg => ?_) <;> try simp -implicitDefEqProofs only [hg, Bool.not_true, Bool.not_false]) | (refine gdS (fun hg => ?_) (fun hg => ?_) <;> try simp -implicitDefEqProofs only [hg, Bool.not_true, Bool.not_false]) | (refine gddS (fun hg => ?_) (fun hg => ?_) <;> try simp -implicitDefEqProofs only [hg, Bool.not_true, Bool.not_false]) | ((with_reducible apply And.intro); focus (first | trivial | omega | decide | (simp -implicitDefEqProofs only [maxLen]; omega) | (simp [maxLen, sty_len, nd_len, ndL_len, lnL_len, intsL_len, rvs_len, lensS_len]; done) | (simp [maxLen, sty_len, nd_len, ndL_len, lnL_len, intsL_len, rvs_len, lensS_len]; omega))) | fail)
            exact (hK _ _ (ret_t rfl)).2
    · have e00 : (chk l != 0) = true := by simpa using hc
      have hcall92 := sp_awake18; have hcall93 := hck; repeat' (first | (simp -implicitDefEqProofs only [go_sem, ↓reduceIte, Nat.reduceEqDiff, Nat.reduceAdd, Nat.reduceSub, Nat.reduceMul, Nat.reduceLeDiff, Nat.reduceLT, reduceCtorEq, Int.reduceToNat, hlen, e1, e00]) | (with_reducible refine g_noent ?_) | (with_reducible refine g_call0 hcall92 ?_) | (with_reducible refine g_calld0 hcall92 ?_) | (with_reducible refine g_call0 hcall93 ?_) | (with_reducible refine g_calld0 hcall93 ?_) | (refine cdS (fun hg => ?_) (fun hg => ?_) <;> try simp -implicitDefEqProofs only [hg, Bool.not_true, Bool.not_false]) | (refine gdS (fun hg => ?_) (fun hg => ?_) <;> try simp -implicitDefEqProofs only [hg, Bool.not_true, Bool.not_false]) | (refine gddS (fun hg => ?_) (fun hg => ?_) <;> try simp -implicitDefEqProofs only [hg, Bool.not_true, Bool.not_false]) | ((with_reducible apply And.intro); focus (first | trivial | omega | decide | (simp -implicitDefEqProofs only [maxLen]; omega) | (simp [maxLen, sty_len, nd_len, ndL_len, lnL_len, intsL_len, rvs_len, lensS_len]; done) | (simp [maxLen, sty_len, nd_len, ndL_len, lnL_len, intsL_len, rvs_len, lensS_len]; omega))) | fail)
      exact (hK _ _ (ret_t rfl)).2
end Go.Eng

/- What comes in, as nodes and numbers. -/
namespace Go.Eng
open Go Go.Proofs

theorem tyInt {n : Nat} {rs : List RV} (h : TyC Go.Proofs.Try.prog (n + 1) 3 rs) : ∃ i, rs = [.int .i64 i] := by
  obtain ⟨i, h, _⟩ := tyC_int Try.underlying3 h
  exact ⟨i, h⟩
theorem tyInt64 {n : Nat} {rs : List RV} (h : TyC Go.Proofs.Try.prog (n + 1) 2 rs) : ∃ i, rs = [.int .i64 i] := by
  obtain ⟨i, h, _⟩ := tyC_int Try.underlying2 h
  exact ⟨i, h⟩
theorem tyBool {n : Nat} {rs : List RV} (h : TyC Go.Proofs.Try.prog (n + 1) 4 rs) : ∃ b, rs = [.bool b] := by
  exact tyC_bool Try.underlying4 h
theorem tyLen {n : Nat} {rs : List RV} (h : TyC Go.Proofs.Try.prog (n + 2) 36 rs) : ∃ x : Ln, rs = x.cells := by
  have h := tyC_struct Try.underlying36 h
  obtain ⟨_, _, rfl, h1, _, _, rfl, h2, rfl⟩ := h
  obtain ⟨i, rfl⟩ := tyInt h1
  obtain ⟨j, rfl⟩ := tyInt64 h2
  exact ⟨⟨i, j⟩, rfl⟩
theorem list4 {α : Type} {xs : List α} (h : xs.length = 4) : ∃ a b c d, xs = [a, b, c, d] := by
  match xs, h with
  | [a, b, c, d], _ => exact ⟨a, b, c, d, rfl⟩
theorem tyQ {n : Nat} {rs : List RV} (h : TyC Go.Proofs.Try.prog (n + 3) 37 rs) : ∃ q : Q4 Ln, rs = q.lns := by
  obtain ⟨xs, rfl, hl, hx⟩ := tyC_array Try.underlying37 h
  obtain ⟨a, b, c, d, rfl⟩ := list4 hl
  obtain ⟨a, rfl⟩ := tyLen (hx a (by simp))
  obtain ⟨b, rfl⟩ := tyLen (hx b (by simp))
  obtain ⟨c, rfl⟩ := tyLen (hx c (by simp))
  obtain ⟨d, rfl⟩ := tyLen (hx d (by simp))
  exact ⟨⟨a, b, c, d⟩, rfl⟩
theorem tyB {n : Nat} {rs : List RV} (h : TyC Go.Proofs.Try.prog (n + 2) 38 rs) : ∃ q : Q4 Int, rs = q.ints := by
  obtain ⟨xs, rfl, hl, hx⟩ := tyC_array Try.underlying38 h
  obtain ⟨a, b, c, d, rfl⟩ := list4 hl
  obtain ⟨a, rfl⟩ := tyInt64 (hx a (by simp))
  obtain ⟨b, rfl⟩ := tyInt64 (hx b (by simp))
  obtain ⟨c, rfl⟩ := tyInt64 (hx c (by simp))
  obtain ⟨d, rfl⟩ := tyInt64 (hx d (by simp))
  exact ⟨⟨a, b, c, d⟩, rfl⟩
theorem tySty {n : Nat} {rs : List RV} (h : TyC Go.Proofs.Try.prog (n + 4) 40 rs) : ∃ s : Sty, rs = s.cells := by
  have h := tyC_struct Try.underlying40 h
  obtain ⟨_, _, rfl, h1, _, _, rfl, h2, _, _, rfl, h3, _, _, rfl, h4, _, _, rfl, h5, _, _, rfl, h6, _, _, rfl, h7, _, _, rfl, h8, _, _, rfl, h9, _, _, rfl, h10, _, _, rfl, h11, _, _, rfl, h12, _, _, rfl, h13, _, _, rfl, h14, _, _, rfl, h15, _, _, rfl, h16, _, _, rfl, h17, _, _, rfl, h18, rfl⟩ := h
  obtain ⟨b1, rfl⟩ := tyBool h1
  obtain ⟨i2, rfl⟩ := tyInt h2
  obtain ⟨q3, rfl⟩ := tyQ h3
  obtain ⟨x4, rfl⟩ := tyLen h4
  obtain ⟨x5, rfl⟩ := tyLen h5
  obtain ⟨x6, rfl⟩ := tyLen h6
  obtain ⟨x7, rfl⟩ := tyLen h7
  obtain ⟨x8, rfl⟩ := tyLen h8
  obtain ⟨x9, rfl⟩ := tyLen h9
  obtain ⟨q10, rfl⟩ := tyQ h10
  obtain ⟨q11, rfl⟩ := tyQ h11
  obtain ⟨q12, rfl⟩ := tyB h12
  obtain ⟨b13, rfl⟩ := tyBool h13
  obtain ⟨b14, rfl⟩ := tyBool h14
  obtain ⟨i15, rfl⟩ := tyInt64 h15
  obtain ⟨b16, rfl⟩ := tyBool h16
  obtain ⟨i17, rfl⟩ := tyInt64 h17
  obtain ⟨i18, rfl⟩ := tyInt64 h18
  exact ⟨⟨b1, i2, q3, x4, x5, x6, x7, x8, x9, q10, q11, q12, b13, b14, i15, b16, i17, i18⟩, rfl⟩
theorem tyNode {n : Nat} {rs : List RV} (h : TyC Go.Proofs.Try.prog (n + 5) 42 rs) : ∃ x : Nd, rs = x.cells := by
  have h := tyC_struct Try.underlying42 h
  obtain ⟨_, _, rfl, h1, _, _, rfl, h2, rfl⟩ := h
  obtain ⟨s, rfl⟩ := tySty h1
  obtain ⟨i, rfl⟩ := tyInt h2
  exact ⟨⟨s, i⟩, rfl⟩
theorem list_of {α : Type} {f : α → List RV} : ∀ {xs : List (List RV)}, (∀ x ∈ xs, ∃ a, x = f a) → ∃ l : List α, xs = l.map f
  | [], _ => ⟨[], rfl⟩
  | x :: xs, h => by
    obtain ⟨a, rfl⟩ := h x (by simp)
    obtain ⟨l, rfl⟩ := list_of (xs := xs) fun y hy => h y (by simp [hy])
    exact ⟨a :: l, rfl⟩

theorem cells49 : Program.cellsOf Go.Proofs.Try.prog 42 = 49 := by kernel_rfl
theorem aggN : aggT Go.Proofs.Try.prog 22 = some false := by kernel_rfl
theorem aggI : aggT Go.Proofs.Try.prog 3 = some false := by kernel_rfl

theorem openNodes {rs : List RV} (h : TyC Go.Proofs.Try.prog 6 22 rs) : ∃ l : List Nd, argS Go.Proofs.Try.prog 22 rs = .rv (.sl 49 (ndL l)) := by
  obtain ⟨xs, rfl, _, hx⟩ := tyC_slice Try.underlying22 h
  obtain ⟨l, rfl⟩ := list_of fun x hx' => tyNode (hx x hx')
  refine ⟨l, ?_⟩
  rw [argS_one aggN, cells49]; rfl
theorem openInt {rs : List RV} (h : TyC Go.Proofs.Try.prog 1 3 rs) : ∃ i : Int, argS Go.Proofs.Try.prog 3 rs = .rv (.int .i64 i) := by
  obtain ⟨i, rfl⟩ := tyInt h
  exact ⟨i, argS_one aggI⟩
end Go.Eng
