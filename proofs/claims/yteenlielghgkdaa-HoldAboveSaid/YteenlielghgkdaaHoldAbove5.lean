/- Part 5 of the proof: K12, U1, H1, K9R, K13. -/
import Derived.Test.YteenlielghgkdaaHoldAbove4
set_option linter.unusedSimpArgs false
set_option linter.unusedVariables false
/- kin: the document's functions. -/
namespace Go.Eng
open Go
/- decoupage/decoupageref08.Made -/
def c_decoupageref08_Made : AC := (.seq (.reg [⟨(some 4), .mv, [(.c (.rv (.bool false)))], none⟩]) (.seq (.seq (.reg [⟨(some 5), .mv, [(.t 1)], none⟩, ⟨(some 6), (.ibin .lss), [(.t 5), (.c (.rv (.int .i64 0)))], none⟩, ⟨(some 7), .mv, [(.t 6)], none⟩, ⟨(some 8), .mv, [(.t 1)], (some (7, false))⟩, ⟨(some 9), .mv, [(.t 0)], (some (7, false))⟩, ⟨(some 10), .len, [(.t 9)], (some (7, false))⟩, ⟨(some 11), (.ibin .geq), [(.t 8), (.t 10)], (some (7, false))⟩, ⟨(some 12), .pick, [(.t 7), (.c (.rv (.bool true))), (.t 11)], none⟩]) (.cond (.t 12) (.seq (.reg [⟨(some 4), .mv, [(.c (.rv (.bool false)))], none⟩]) .ret) .skip)) (.seq (.seq (.block 0 (.loop (.seq (.seq (.reg [⟨(some 13), .mv, [(.t 1)], none⟩, ⟨(some 14), (.ibin .geq), [(.t 13), (.c (.rv (.int .i64 0)))], none⟩]) (.cond (.t 14) .skip (.exit 0))) (.seq (.block 1 (.seq (.seq (.reg [⟨(some 15), .mv, [(.t 0)], none⟩, ⟨(some 16), .mv, [(.t 1)], none⟩, ⟨(some 17), (.ixs 49), [(.t 15), (.t 16)], none⟩, ⟨(some 18), (.fld 0), [(.t 17)], none⟩, ⟨(some 19), (.fld 0), [(.t 18)], none⟩, ⟨(some 20), (.load 1 false), [(.t 19)], none⟩, ⟨(some 21), .not, [(.t 20)], none⟩]) (.cond (.t 21) (.seq (.reg [⟨(some 4), .mv, [(.c (.rv (.bool false)))], none⟩]) .ret) .skip)) (.reg [⟨(some 22), .mv, [(.t 0)], none⟩, ⟨(some 23), .mv, [(.t 1)], none⟩, ⟨(some 24), (.ixs 49), [(.t 22), (.t 23)], none⟩, ⟨(some 25), (.fld 48), [(.t 24)], none⟩, ⟨(some 26), (.load 1 false), [(.t 25)], none⟩, ⟨(some 1), .mv, [(.t 26)], none⟩]))) .ent)))) .ent) (.seq (.reg [⟨(some 4), .mv, [(.c (.rv (.bool true)))], none⟩]) .ret))))
theorem k_decoupageref08_Made : FnOK Go.Proofs.Try.prog 60 27 c_decoupageref08_Made [(.t 4)] := fnOK_of (by kernel_rfl)

/- decoupage/decoupageref08.Out -/
def c_decoupageref08_Out : AC := (.seq (.reg [⟨(some 4), .mv, [(.c (.rv (.bool false)))], none⟩]) (.seq (.reg [⟨(some 5), .mv, [(.t 1)], none⟩, ⟨(some 6), (.ibin .gtr), [(.t 5), (.c (.rv (.int .i64 0)))], none⟩, ⟨(some 7), .mv, [(.t 6)], none⟩, ⟨(some 8), .mv, [(.t 0)], (some (7, true))⟩, ⟨(some 9), .mv, [(.t 1)], (some (7, true))⟩, ⟨(some 10), (.call 60), [(.t 8), (.t 9)], (some (7, true))⟩, ⟨(some 11), .pick, [(.t 7), (.t 10), (.c (.rv (.bool false)))], none⟩, ⟨(some 12), .mv, [(.t 11)], none⟩, ⟨(some 13), .mv, [(.t 0)], (some (12, true))⟩, ⟨(some 14), .mv, [(.t 1)], (some (12, true))⟩, ⟨(some 15), (.ixs 49), [(.t 13), (.t 14)], (some (12, true))⟩, ⟨(some 16), (.fld 0), [(.t 15)], (some (12, true))⟩, ⟨(some 17), (.fld 1), [(.t 16)], (some (12, true))⟩, ⟨(some 18), (.load 1 false), [(.t 17)], (some (12, true))⟩, ⟨(some 19), (.ibin .geq), [(.t 18), (.c (.rv (.int .i64 2)))], (some (12, true))⟩, ⟨(some 20), .pick, [(.t 12), (.t 19), (.c (.rv (.bool false)))], none⟩, ⟨(some 4), .mv, [(.t 20)], none⟩]) .ret))
theorem k_decoupageref08_Out : FnOK Go.Proofs.Try.prog 68 21 c_decoupageref08_Out [(.t 4)] := fnOK_of (by kernel_rfl)

/- decoupage/decoupageref08.Kids -/
def c_decoupageref08_Kids : AC := (.seq (.reg [⟨(some 4), .mv, [(.c (.rv .nilsl))], none⟩]) (.seq (.reg [⟨(some 5), .mv, [(.c (.rv .nilsl))], none⟩]) (.seq (.seq (.reg [⟨(some 7), .mv, [(.t 0)], none⟩, ⟨(some 8), .len, [(.t 7)], none⟩, ⟨(some 9), .mv, [(.c (.rv (.int .i64 0)))], none⟩]) (.seq (.block 0 (.loop (.seq (.reg [⟨(some 10), (.ibin .lss), [(.t 9), (.t 8)], none⟩]) (.seq (.cond (.t 10) .skip (.exit 0)) (.seq (.seq (.block 1 (.seq (.reg [⟨(some 11), .mv, [(.t 9)], none⟩, ⟨(some 6), .mv, [(.t 11)], none⟩]) (.seq (.reg [⟨(some 12), .mv, [(.t 6)], none⟩, ⟨(some 13), (.ibin .gtr), [(.t 12), (.c (.rv (.int .i64 0)))], none⟩, ⟨(some 14), .mv, [(.t 13)], none⟩, ⟨(some 15), .mv, [(.t 0)], (some (14, true))⟩, ⟨(some 16), .mv, [(.t 6)], (some (14, true))⟩, ⟨(some 17), (.ixs 49), [(.t 15), (.t 16)], (some (14, true))⟩, ⟨(some 18), (.fld 48), [(.t 17)], (some (14, true))⟩, ⟨(some 19), (.load 1 false), [(.t 18)], (some (14, true))⟩, ⟨(some 20), .mv, [(.t 1)], (some (14, true))⟩, ⟨(some 21), (.ibin .eql), [(.t 19), (.t 20)], (some (14, true))⟩, ⟨(some 22), .pick, [(.t 14), (.t 21), (.c (.rv (.bool false)))], none⟩]) (.seq (.cond (.t 22) (.reg [⟨(some 23), .mv, [(.t 5)], none⟩, ⟨(some 24), .mv, [(.t 6)], none⟩, ⟨(some 25), (.bsl 1), [(.t 24)], none⟩, ⟨(some 26), (.app 1 8), [(.t 23), (.t 25)], none⟩, ⟨(some 5), .mv, [(.t 26)], none⟩]) .skip) .ent)))) .ent) (.reg [⟨(some 27), (.ibin .add), [(.t 9), (.c (.rv (.int .i64 1)))], none⟩, ⟨(some 9), .mv, [(.t 27)], none⟩])))))) .ent)) (.seq (.reg [⟨(some 28), .mv, [(.t 5)], none⟩, ⟨(some 4), .mv, [(.t 28)], none⟩]) .ret))))
theorem k_decoupageref08_Kids : FnOK Go.Proofs.Try.prog 70 29 c_decoupageref08_Kids [(.t 4)] := fnOK_of (by kernel_rfl)

/- decoupage/decoupageref08.Flow -/
def c_decoupageref08_Flow : AC := (.seq (.reg [⟨(some 4), .mv, [(.c (.rv .nilsl))], none⟩]) (.seq (.reg [⟨(some 5), .mv, [(.c (.rv .nilsl))], none⟩]) (.seq (.seq (.reg [⟨(some 7), .mv, [(.t 0)], none⟩, ⟨(some 8), .len, [(.t 7)], none⟩, ⟨(some 9), .mv, [(.c (.rv (.int .i64 0)))], none⟩]) (.seq (.block 0 (.loop (.seq (.reg [⟨(some 10), (.ibin .lss), [(.t 9), (.t 8)], none⟩]) (.seq (.cond (.t 10) .skip (.exit 0)) (.seq (.seq (.block 1 (.seq (.reg [⟨(some 11), .mv, [(.t 9)], none⟩, ⟨(some 6), .mv, [(.t 11)], none⟩]) (.seq (.reg [⟨(some 12), .mv, [(.t 6)], none⟩, ⟨(some 13), (.ibin .gtr), [(.t 12), (.c (.rv (.int .i64 0)))], none⟩, ⟨(some 14), .mv, [(.t 13)], none⟩, ⟨(some 15), .mv, [(.t 0)], (some (14, true))⟩, ⟨(some 16), .mv, [(.t 6)], (some (14, true))⟩, ⟨(some 17), (.ixs 49), [(.t 15), (.t 16)], (some (14, true))⟩, ⟨(some 18), (.fld 48), [(.t 17)], (some (14, true))⟩, ⟨(some 19), (.load 1 false), [(.t 18)], (some (14, true))⟩, ⟨(some 20), .mv, [(.t 1)], (some (14, true))⟩, ⟨(some 21), (.ibin .eql), [(.t 19), (.t 20)], (some (14, true))⟩, ⟨(some 22), .pick, [(.t 14), (.t 21), (.c (.rv (.bool false)))], none⟩, ⟨(some 23), .mv, [(.t 22)], none⟩, ⟨(some 24), .mv, [(.t 0)], (some (23, true))⟩, ⟨(some 25), .mv, [(.t 6)], (some (23, true))⟩, ⟨(some 26), (.call 60), [(.t 24), (.t 25)], (some (23, true))⟩, ⟨(some 27), .pick, [(.t 23), (.t 26), (.c (.rv (.bool false)))], none⟩, ⟨(some 28), .mv, [(.t 27)], none⟩, ⟨(some 29), .mv, [(.t 0)], (some (28, true))⟩, ⟨(some 30), .mv, [(.t 6)], (some (28, true))⟩, ⟨(some 31), (.call 68), [(.t 29), (.t 30)], (some (28, true))⟩, ⟨(some 32), .not, [(.t 31)], (some (28, true))⟩, ⟨(some 33), .pick, [(.t 28), (.t 32), (.c (.rv (.bool false)))], none⟩]) (.seq (.cond (.t 33) (.reg [⟨(some 34), .mv, [(.t 5)], none⟩, ⟨(some 35), .mv, [(.t 6)], none⟩, ⟨(some 36), (.bsl 1), [(.t 35)], none⟩, ⟨(some 37), (.app 1 8), [(.t 34), (.t 36)], none⟩, ⟨(some 5), .mv, [(.t 37)], none⟩]) .skip) .ent)))) .ent) (.reg [⟨(some 38), (.ibin .add), [(.t 9), (.c (.rv (.int .i64 1)))], none⟩, ⟨(some 9), .mv, [(.t 38)], none⟩])))))) .ent)) (.seq (.reg [⟨(some 39), .mv, [(.t 5)], none⟩, ⟨(some 4), .mv, [(.t 39)], none⟩]) .ret))))
theorem k_decoupageref08_Flow : FnOK Go.Proofs.Try.prog 71 40 c_decoupageref08_Flow [(.t 4)] := fnOK_of (by kernel_rfl)

/- decoupage/decoupageref08.Up -/
def c_decoupageref08_Up : AC := (.seq (.reg [⟨(some 4), .mv, [(.c (.rv .nilsl))], none⟩]) (.seq (.reg [⟨(some 5), .mv, [(.c (.rv .nilsl))], none⟩]) (.seq (.seq (.reg [⟨(some 7), .mv, [(.t 1)], none⟩, ⟨(some 8), (.ibin .lss), [(.t 7), (.c (.rv (.int .i64 0)))], none⟩, ⟨(some 9), .mv, [(.t 8)], none⟩, ⟨(some 10), .mv, [(.t 1)], (some (9, false))⟩, ⟨(some 11), .mv, [(.t 0)], (some (9, false))⟩, ⟨(some 12), .len, [(.t 11)], (some (9, false))⟩, ⟨(some 13), (.ibin .geq), [(.t 10), (.t 12)], (some (9, false))⟩, ⟨(some 14), .pick, [(.t 9), (.c (.rv (.bool true))), (.t 13)], none⟩]) (.cond (.t 14) (.seq (.reg [⟨(some 4), .mv, [(.c (.rv .nilsl))], none⟩]) .ret) .skip)) (.seq (.seq (.reg [⟨(some 15), .mv, [(.t 0)], none⟩, ⟨(some 16), .mv, [(.t 1)], none⟩, ⟨(some 17), (.ixs 49), [(.t 15), (.t 16)], none⟩, ⟨(some 18), (.fld 48), [(.t 17)], none⟩, ⟨(some 19), (.load 1 false), [(.t 18)], none⟩, ⟨(some 6), .mv, [(.t 19)], none⟩]) (.seq (.block 0 (.loop (.seq (.seq (.reg [⟨(some 20), .mv, [(.t 6)], none⟩, ⟨(some 21), (.ibin .geq), [(.t 20), (.c (.rv (.int .i64 0)))], none⟩]) (.cond (.t 21) .skip (.exit 0))) (.seq (.seq (.block 1 (.reg [⟨(some 27), .mv, [(.t 5)], none⟩, ⟨(some 28), .mv, [(.t 6)], none⟩, ⟨(some 29), (.bsl 1), [(.t 28)], none⟩, ⟨(some 30), (.app 1 8), [(.t 27), (.t 29)], none⟩, ⟨(some 5), .mv, [(.t 30)], none⟩])) .ent) (.reg [⟨(some 22), .mv, [(.t 0)], none⟩, ⟨(some 23), .mv, [(.t 6)], none⟩, ⟨(some 24), (.ixs 49), [(.t 22), (.t 23)], none⟩, ⟨(some 25), (.fld 48), [(.t 24)], none⟩, ⟨(some 26), (.load 1 false), [(.t 25)], none⟩, ⟨(some 6), .mv, [(.t 26)], none⟩]))))) .ent)) (.seq (.reg [⟨(some 31), .mv, [(.t 5)], none⟩, ⟨(some 4), .mv, [(.t 31)], none⟩]) .ret)))))
theorem k_decoupageref08_Up : FnOK Go.Proofs.Try.prog 72 32 c_decoupageref08_Up [(.t 4)] := fnOK_of (by kernel_rfl)

/- decoupage/decoupageref08.Below -/
def c_decoupageref08_Below : AC := (.seq (.reg [⟨(some 6), .mv, [(.c (.rv (.bool false)))], none⟩]) (.seq (.reg [⟨(some 7), .mv, [(.t 1)], none⟩, ⟨(some 8), (.ibin .geq), [(.t 7), (.c (.rv (.int .i64 0)))], none⟩, ⟨(some 9), .mv, [(.t 8)], none⟩, ⟨(some 10), .mv, [(.t 1)], (some (9, true))⟩, ⟨(some 11), .mv, [(.t 0)], (some (9, true))⟩, ⟨(some 12), .len, [(.t 11)], (some (9, true))⟩, ⟨(some 13), (.ibin .lss), [(.t 10), (.t 12)], (some (9, true))⟩, ⟨(some 14), .pick, [(.t 9), (.t 13), (.c (.rv (.bool false)))], none⟩, ⟨(some 15), .mv, [(.t 14)], none⟩, ⟨(some 16), .mv, [(.t 2)], (some (15, true))⟩, ⟨(some 17), (.ibin .geq), [(.t 16), (.c (.rv (.int .i64 0)))], (some (15, true))⟩, ⟨(some 18), .pick, [(.t 15), (.t 17), (.c (.rv (.bool false)))], none⟩, ⟨(some 19), .mv, [(.t 18)], none⟩, ⟨(some 20), .mv, [(.t 2)], (some (19, true))⟩, ⟨(some 21), .mv, [(.t 0)], (some (19, true))⟩, ⟨(some 22), .len, [(.t 21)], (some (19, true))⟩, ⟨(some 23), (.ibin .lss), [(.t 20), (.t 22)], (some (19, true))⟩, ⟨(some 24), .pick, [(.t 19), (.t 23), (.c (.rv (.bool false)))], none⟩, ⟨(some 25), .mv, [(.t 24)], none⟩, ⟨(some 26), .mv, [(.t 0)], (some (25, true))⟩, ⟨(some 27), .mv, [(.t 1)], (some (25, true))⟩, ⟨(some 28), .mv, [(.t 2)], (some (25, true))⟩, ⟨(some 29), (.call 64), [(.t 26), (.t 27), (.t 28)], (some (25, true))⟩, ⟨(some 30), .pick, [(.t 25), (.t 29), (.c (.rv (.bool false)))], none⟩, ⟨(some 6), .mv, [(.t 30)], none⟩]) .ret))
theorem k_decoupageref08_Below : FnOK Go.Proofs.Try.prog 20 31 c_decoupageref08_Below [(.t 6)] := fnOK_of (by kernel_rfl)

/- decoupage/decoupageref08.End -/
def c_decoupageref08_End : AC := (.seq (.reg [⟨(some 4), .mv, [(.c (.rv (.int .i64 0)))], none⟩]) (.seq (.reg [⟨(some 5), .mv, [(.c (.rv (.int .i64 (-1))))], none⟩]) (.seq (.seq (.reg [⟨(some 7), .mv, [(.t 0)], none⟩, ⟨(some 8), .len, [(.t 7)], none⟩, ⟨(some 9), .mv, [(.c (.rv (.int .i64 0)))], none⟩]) (.seq (.block 0 (.loop (.seq (.reg [⟨(some 10), (.ibin .lss), [(.t 9), (.t 8)], none⟩]) (.seq (.cond (.t 10) .skip (.exit 0)) (.seq (.seq (.block 1 (.seq (.reg [⟨(some 11), .mv, [(.t 9)], none⟩, ⟨(some 6), .mv, [(.t 11)], none⟩]) (.seq (.reg [⟨(some 12), .mv, [(.t 0)], none⟩, ⟨(some 13), .mv, [(.t 1)], none⟩, ⟨(some 14), .mv, [(.t 6)], none⟩, ⟨(some 15), (.call 20), [(.t 12), (.t 13), (.t 14)], none⟩]) (.seq (.cond (.t 15) (.reg [⟨(some 16), .mv, [(.t 6)], none⟩, ⟨(some 5), .mv, [(.t 16)], none⟩]) .skip) .ent)))) .ent) (.reg [⟨(some 17), (.ibin .add), [(.t 9), (.c (.rv (.int .i64 1)))], none⟩, ⟨(some 9), .mv, [(.t 17)], none⟩])))))) .ent)) (.seq (.reg [⟨(some 18), .mv, [(.t 5)], none⟩, ⟨(some 19), (.ibin .add), [(.t 18), (.c (.rv (.int .i64 1)))], none⟩, ⟨(some 4), .mv, [(.t 19)], none⟩]) .ret))))
theorem k_decoupageref08_End : FnOK Go.Proofs.Try.prog 69 20 c_decoupageref08_End [(.t 4)] := fnOK_of (by kernel_rfl)

/- decoupage/decoupageref08.Same -/
def c_decoupageref08_Same : AC := (.seq (.reg [⟨(some 4), .mv, [(.c (.rv (.bool false)))], none⟩]) (.seq (.seq (.reg [⟨(some 6), .mv, [(.t 0)], none⟩, ⟨(some 7), .len, [(.t 6)], none⟩, ⟨(some 8), .mv, [(.t 1)], none⟩, ⟨(some 9), .len, [(.t 8)], none⟩, ⟨(some 10), (.ibin .neq), [(.t 7), (.t 9)], none⟩]) (.cond (.t 10) (.seq (.reg [⟨(some 4), .mv, [(.c (.rv (.bool false)))], none⟩]) .ret) .skip)) (.seq (.seq (.reg [⟨(some 11), .mv, [(.t 0)], none⟩, ⟨(some 12), .len, [(.t 11)], none⟩, ⟨(some 13), .mv, [(.c (.rv (.int .i64 0)))], none⟩]) (.seq (.block 0 (.loop (.seq (.reg [⟨(some 14), (.ibin .lss), [(.t 13), (.t 12)], none⟩]) (.seq (.cond (.t 14) .skip (.exit 0)) (.seq (.seq (.block 1 (.seq (.reg [⟨(some 15), .mv, [(.t 13)], none⟩, ⟨(some 5), .mv, [(.t 15)], none⟩]) (.seq (.regd [0, 0, 3, 7, 0, 0, 48, 112, 255] [⟨(some 16), .mv, [(.t 0)], none⟩, ⟨(some 17), .mv, [(.t 5)], none⟩, ⟨(some 18), (.ixs 1), [(.t 16), (.t 17)], none⟩, ⟨(some 19), (.load 1 false), [(.t 18)], none⟩, ⟨(some 20), .mv, [(.t 1)], none⟩, ⟨(some 21), .mv, [(.t 5)], none⟩, ⟨(some 22), (.ixs 1), [(.t 20), (.t 21)], none⟩, ⟨(some 23), (.load 1 false), [(.t 22)], none⟩, ⟨(some 24), (.ibin .neq), [(.t 19), (.t 23)], none⟩]) (.cond (.t 24) (.seq (.reg [⟨(some 4), .mv, [(.c (.rv (.bool false)))], none⟩]) .ret) .skip)))) .ent) (.reg [⟨(some 25), (.ibin .add), [(.t 13), (.c (.rv (.int .i64 1)))], none⟩, ⟨(some 13), .mv, [(.t 25)], none⟩])))))) .ent)) (.seq (.reg [⟨(some 4), .mv, [(.c (.rv (.bool true)))], none⟩]) .ret))))
theorem k_decoupageref08_Same : FnOK Go.Proofs.Try.prog 46 26 c_decoupageref08_Same [(.t 4)] := fnOK_of (by kernel_rfl)


theorem tree_shp {l : List Nd} (ht : treeOK l = true) : Shp l := shape_iff.1 (by unfold treeOK at ht; simp -implicitDefEqProofs only [Bool.and_eq_true] at ht; exact ht.1)
theorem tree_sty {l : List Nd} (ht : treeOK l = true) {k : Nat} (hk : k < l.length) : styOK (l[k]'hk).s = true := by
  unfold treeOK at ht
  simp -implicitDefEqProofs only [Bool.and_eq_true, List.all_eq_true] at ht
  exact ht.2 _ (List.getElem_mem hk)
theorem sty_pos {s : Sty} (h : styOK s = true) : 0 ≤ s.position ∧ s.position ≤ 3 := by
  unfold styOK tailOK at h
  simp -implicitDefEqProofs only [Bool.and_eq_true, decide_eq_true_eq] at h
  exact ⟨h.2.1.1.1.1, h.2.1.1.1.2⟩
theorem chk_tree {l : List Nd} (h : chk l = 0) : treeOK l = true := by
  unfold chk at h
  cases ht : treeOK l with
  | true => rfl
  | false => rw [ht] at h; simp at h

theorem inL_cases (l : List Nd) (n : Int) : (n < 0 ∧ inL l n = false) ∨ ((l.length : Int) ≤ n ∧ 0 ≤ n ∧ inL l n = false) ∨ ∃ k : Nat, n = k ∧ k < l.length ∧ inL l n = true := by
  by_cases h0 : n < 0
  · exact .inl ⟨h0, by simp [inL]; omega⟩
  · by_cases h1 : n < l.length
    · exact .inr (.inr ⟨n.toNat, by omega, by omega, by simp [inL]; omega⟩)
    · exact .inr (.inl ⟨by omega, by omega, by simp [inL]; omega⟩)

theorem sp_ref08_Made (l : List Nd) (ht : treeOK l = true) (n : Int) : CallR Go.Proofs.Try.prog 60 [.rv (.sl 49 (ndL l)), .rv (.int .i64 n)] [] [] (.rv (.bool (madeAt l n))) := by
  refine callR_G k_decoupageref08_Made [.rv (.sl 49 (ndL l)), .rv (.int .i64 n)] _ (by simp) (by simp [BkAll, bk_agg, bkAll_map, bk_rv, bk_fn, Sty.sv, Ln.sv, Nd.sv]) (fun K hK => ?_)
  have hlen := ndL_len l
  have hs := tree_shp ht
  simp -implicitDefEqProofs only [c_decoupageref08_Made, go_sem, ↓reduceIte, Nat.reduceEqDiff, Nat.reduceAdd, Nat.reduceSub, Nat.reduceMul, Nat.reduceLeDiff, Nat.reduceLT, reduceCtorEq, Int.reduceToNat]
  rcases inL_cases l n with ⟨h1, hi⟩ | ⟨h1, h0, hi⟩ | ⟨k, rfl, hk, hi⟩
  · have e1 : decide (n < 0) = true := decide_eq_true h1
    repeat' (first | (simp -implicitDefEqProofs only [go_sem, ↓reduceIte, Nat.reduceEqDiff, Nat.reduceAdd, Nat.reduceSub, Nat.reduceMul, Nat.reduceLeDiff, Nat.reduceLT, reduceCtorEq, Int.reduceToNat, e1, hlen]) | (with_reducible refine g_noent ?_) | (refine cdS (fun hg => ?_) (fun hg => ?_) <;> try simp -implicitDefEqProofs only [hg, Bool.not_true, Bool.not_false]) | (refine gdS (fun hg => ?_) (fun hg => ?_) <;> try simp -implicitDefEqProofs only [hg, Bool.not_true, Bool.not_false]) | (refine gddS (fun hg => ?_) (fun hg => ?_) <;> try simp -implicitDefEqProofs only [hg, Bool.not_true, Bool.not_false]) | ((with_reducible apply And.intro); focus (first | trivial | omega | decide | (simp -implicitDefEqProofs only [maxLen]; omega) | (simp [maxLen, sty_len, nd_len, ndL_len, lnL_len, intsL_len, rvs_len, lensS_len]; done) | (simp [maxLen, sty_len, nd_len, ndL_len, lnL_len, intsL_len, rvs_len, lensS_len]; omega))) | fail)
    exact (hK _ _ (ret_t (by simp [madeAt, hi, lk]))).2
  · have e1 : decide (n < 0) = false := decide_eq_false (by omega)
    have e2 : decide (n ≥ (l.length : Int)) = true := decide_eq_true h1
    repeat' (first | (simp -implicitDefEqProofs only [go_sem, ↓reduceIte, Nat.reduceEqDiff, Nat.reduceAdd, Nat.reduceSub, Nat.reduceMul, Nat.reduceLeDiff, Nat.reduceLT, reduceCtorEq, Int.reduceToNat, e1, e2, hlen]) | (with_reducible refine g_noent ?_) | (refine cdS (fun hg => ?_) (fun hg => ?_) <;> try simp -implicitDefEqProofs only [hg, Bool.not_true, Bool.not_false]) | (refine gdS (fun hg => ?_) (fun hg => ?_) <;> try simp -implicitDefEqProofs only [hg, Bool.not_true, Bool.not_false]) | (refine gddS (fun hg => ?_) (fun hg => ?_) <;> try simp -implicitDefEqProofs only [hg, Bool.not_true, Bool.not_false]) | ((with_reducible apply And.intro); focus (first | trivial | omega | decide | (simp -implicitDefEqProofs only [maxLen]; omega) | (simp [maxLen, sty_len, nd_len, ndL_len, lnL_len, intsL_len, rvs_len, lensS_len]; done) | (simp [maxLen, sty_len, nd_len, ndL_len, lnL_len, intsL_len, rvs_len, lensS_len]; omega))) | fail)
    exact (hK _ _ (ret_t (by simp [madeAt, hi, lk]))).2
  · have e1 : decide ((k : Int) < 0) = false := decide_eq_false (by omega)
    have e2 : decide ((k : Int) ≥ (l.length : Int)) = false := decide_eq_false (by omega)
    repeat' (first | (simp -implicitDefEqProofs only [go_sem, ↓reduceIte, Nat.reduceEqDiff, Nat.reduceAdd, Nat.reduceSub, Nat.reduceMul, Nat.reduceLeDiff, Nat.reduceLT, reduceCtorEq, Int.reduceToNat, e1, e2, hlen]) | (with_reducible refine g_noent ?_) | (refine cdS (fun hg => ?_) (fun hg => ?_) <;> try simp -implicitDefEqProofs only [hg, Bool.not_true, Bool.not_false]) | (refine gdS (fun hg => ?_) (fun hg => ?_) <;> try simp -implicitDefEqProofs only [hg, Bool.not_true, Bool.not_false]) | (refine gddS (fun hg => ?_) (fun hg => ?_) <;> try simp -implicitDefEqProofs only [hg, Bool.not_true, Bool.not_false]) | ((with_reducible apply And.intro); focus (first | trivial | omega | decide | (simp -implicitDefEqProofs only [maxLen]; omega) | (simp [maxLen, sty_len, nd_len, ndL_len, lnL_len, intsL_len, rvs_len, lensS_len]; done) | (simp [maxLen, sty_len, nd_len, ndL_len, lnL_len, intsL_len, rvs_len, lensS_len]; omega))) | fail)
    refine g_loop (ι := Nat) (fun i => [(1, .rv (.int .i64 (atI (pth l k) i))), (0, .rv (.sl 49 (ndL l)))]) (fun _ => []) (fun i => i ≤ (pth l k).length ∧ ((pth l k).drop i).all (shownL l) = (pth l k).all (shownL l)) (fun i => (pth l k).length - i) 0 (by simp) (by rw [atI_zero]; exact ent_env (by simp [lk])) (fun i hi' K' hN hX hR => ?_)
    obtain ⟨hi1, hi2⟩ := hi'
    simp -implicitDefEqProofs only [go_sem, ↓reduceIte, Nat.reduceEqDiff, Nat.reduceAdd, Nat.reduceSub, Nat.reduceMul, Nat.reduceLeDiff, Nat.reduceLT, reduceCtorEq, Int.reduceToNat]
    refine cdS (fun hg => ?_) (fun hg => ?_)
    · have hil : i < (pth l k).length := atI_iff.1 (by simpa using hg)
      have hat := atI_lt hil
      have hlt : (pth l k)[i] < l.length := pth_lt hk hil
      have hx := ndL_get hlt
      have hpar := parL_eq hlt
      have hnx := par_at hs.wf k hk i hil
      have hsh := shownL_eq hlt
      have hs0 : ((l[(pth l k)[i]]'hlt).cells)[0]? = some (.bool (l[(pth l k)[i]]'hlt).s.shown) := rfl
      repeat' (first | (simp -implicitDefEqProofs only [go_sem, ↓reduceIte, Nat.reduceEqDiff, Nat.reduceAdd, Nat.reduceSub, Nat.reduceMul, Nat.reduceLeDiff, Nat.reduceLT, reduceCtorEq, Int.reduceToNat, hlen, nd_len, nd_drop0, hat, hx, hpar, hnx, hs0, hsh]) | (with_reducible refine g_noent ?_) | (refine cdS (fun hg => ?_) (fun hg => ?_) <;> try simp -implicitDefEqProofs only [hg, Bool.not_true, Bool.not_false]) | (refine gdS (fun hg => ?_) (fun hg => ?_) <;> try simp -implicitDefEqProofs only [hg, Bool.not_true, Bool.not_false]) | (refine gddS (fun hg => ?_) (fun hg => ?_) <;> try simp -implicitDefEqProofs only [hg, Bool.not_true, Bool.not_false]) | ((with_reducible apply And.intro); focus (first | trivial | omega | decide | (simp -implicitDefEqProofs only [maxLen]; omega) | (simp [maxLen, sty_len, nd_len, ndL_len, lnL_len, intsL_len, rvs_len, lensS_len]; done) | (simp [maxLen, sty_len, nd_len, ndL_len, lnL_len, intsL_len, rvs_len, lensS_len]; omega))) | fail)
      · refine hR _ _ (hK _ _ (ret_t ?_)).2
        have : (pth l k).all (shownL l) = false := all_fail hil hi2 (by simpa using hg)
        simp [madeAt, hi, madeS, this, lk]
      · exact hN (i + 1) _ _ ⟨by omega, all_next hil hi2 (by simpa using hg)⟩ (by omega) (ent_env (by simp [lk]))
    · have hil : ¬ i < (pth l k).length := fun h => by have := atI_iff.2 h; simp at hg; omega
      simp -implicitDefEqProofs only [go_sem, ↓reduceIte, Nat.reduceEqDiff, Nat.reduceAdd, Nat.reduceSub, Nat.reduceMul, Nat.reduceLeDiff, Nat.reduceLT, reduceCtorEq, Int.reduceToNat]
      refine hX _ _ _ ?_
      repeat' (first | (simp -implicitDefEqProofs only [go_sem, ↓reduceIte, Nat.reduceEqDiff, Nat.reduceAdd, Nat.reduceSub, Nat.reduceMul, Nat.reduceLeDiff, Nat.reduceLT, reduceCtorEq, Int.reduceToNat]) | (with_reducible refine g_noent ?_) | (refine cdS (fun hg => ?_) (fun hg => ?_) <;> try simp -implicitDefEqProofs only [hg, Bool.not_true, Bool.not_false]) | (refine gdS (fun hg => ?_) (fun hg => ?_) <;> try simp -implicitDefEqProofs only [hg, Bool.not_true, Bool.not_false]) | (refine gddS (fun hg => ?_) (fun hg => ?_) <;> try simp -implicitDefEqProofs only [hg, Bool.not_true, Bool.not_false]) | ((with_reducible apply And.intro); focus (first | trivial | omega | decide | (simp -implicitDefEqProofs only [maxLen]; omega) | (simp [maxLen, sty_len, nd_len, ndL_len, lnL_len, intsL_len, rvs_len, lensS_len]; done) | (simp [maxLen, sty_len, nd_len, ndL_len, lnL_len, intsL_len, rvs_len, lensS_len]; omega))) | fail)
      refine (hK _ _ (ret_t ?_)).2
      have := all_done (by omega) hi2
      simp [madeAt, hi, madeS, this, lk]

theorem sp_ref08_Out (l : List Nd) (ht : treeOK l = true) (n : Int) : CallR Go.Proofs.Try.prog 68 [.rv (.sl 49 (ndL l)), .rv (.int .i64 n)] [] [] (.rv (.bool (outAt l n))) := by
  refine callR_G k_decoupageref08_Out [.rv (.sl 49 (ndL l)), .rv (.int .i64 n)] _ (by simp) (by simp [BkAll, bk_agg, bkAll_map, bk_rv, bk_fn, Sty.sv, Ln.sv, Nd.sv]) (fun K hK => ?_)
  have hlen := ndL_len l
  have hm := sp_ref08_Made l ht n
  simp -implicitDefEqProofs only [c_decoupageref08_Out, go_sem, ↓reduceIte, Nat.reduceEqDiff, Nat.reduceAdd, Nat.reduceSub, Nat.reduceMul, Nat.reduceLeDiff, Nat.reduceLT, reduceCtorEq, Int.reduceToNat]
  cases hi : madeAt l n with
  | false =>
    rw [hi] at hm
    have hcall1 := hm; repeat' (first | (simp -implicitDefEqProofs only [go_sem, ↓reduceIte, Nat.reduceEqDiff, Nat.reduceAdd, Nat.reduceSub, Nat.reduceMul, Nat.reduceLeDiff, Nat.reduceLT, reduceCtorEq, Int.reduceToNat]) | (with_reducible refine g_noent ?_) | (with_reducible refine g_call0 hcall1 ?_) | (with_reducible refine g_calld0 hcall1 ?_) | (refine cdS (fun hg => ?_) (fun hg => ?_) <;> try simp -implicitDefEqProofs only [hg, Bool.not_true, Bool.not_false]) | (refine gdS (fun hg => ?_) (fun hg => ?_) <;> try simp -implicitDefEqProofs only [hg, Bool.not_true, Bool.not_false]) | (refine gddS (fun hg => ?_) (fun hg => ?_) <;> try simp -implicitDefEqProofs only [hg, Bool.not_true, Bool.not_false]) | ((with_reducible apply And.intro); focus (first | trivial | omega | decide | (simp -implicitDefEqProofs only [maxLen]; omega) | (simp [maxLen, sty_len, nd_len, ndL_len, lnL_len, intsL_len, rvs_len, lensS_len]; done) | (simp [maxLen, sty_len, nd_len, ndL_len, lnL_len, intsL_len, rvs_len, lensS_len]; omega))) | fail)
    all_goals exact (hK _ _ (ret_t (by simp [outAt, hi, lk]))).2
  | true =>
    rw [hi] at hm
    have hin : inL l n = true := by simp [madeAt] at hi; exact hi.1
    obtain ⟨k, rfl, hk⟩ := inL_nat hin
    have hx := ndL_get hk
    have hs : styAt l k = (l[k]'hk).s := by simp [styAt, hin, hk]
    obtain ⟨q1, q2⟩ := sty_pos (tree_sty ht hk)
    have hp : ((l[k]'hk).cells.drop 1)[0]? = some (.int .i64 (l[k]'hk).s.position) := rfl
    have hcall2 := hm; repeat' (first | (simp -implicitDefEqProofs only [go_sem, ↓reduceIte, Nat.reduceEqDiff, Nat.reduceAdd, Nat.reduceSub, Nat.reduceMul, Nat.reduceLeDiff, Nat.reduceLT, reduceCtorEq, Int.reduceToNat, hx, hlen, nd_len, hp]) | (with_reducible refine g_noent ?_) | (with_reducible refine g_call0 hcall2 ?_) | (with_reducible refine g_calld0 hcall2 ?_) | (refine cdS (fun hg => ?_) (fun hg => ?_) <;> try simp -implicitDefEqProofs only [hg, Bool.not_true, Bool.not_false]) | (refine gdS (fun hg => ?_) (fun hg => ?_) <;> try simp -implicitDefEqProofs only [hg, Bool.not_true, Bool.not_false]) | (refine gddS (fun hg => ?_) (fun hg => ?_) <;> try simp -implicitDefEqProofs only [hg, Bool.not_true, Bool.not_false]) | ((with_reducible apply And.intro); focus (first | trivial | omega | decide | (simp -implicitDefEqProofs only [maxLen]; omega) | (simp [maxLen, sty_len, nd_len, ndL_len, lnL_len, intsL_len, rvs_len, lensS_len]; done) | (simp [maxLen, sty_len, nd_len, ndL_len, lnL_len, intsL_len, rvs_len, lensS_len]; omega))) | fail)
    · refine (hK _ _ (ret_t ?_)).2
      simp -implicitDefEqProofs only [lk, if_true, outAt, hi, hs]
      clear hK hs hp
      simp at hg
      congr 2
      rw [Bool.eq_iff_iff]; simp; omega
    · refine (hK _ _ (ret_t ?_)).2
      simp -implicitDefEqProofs only [lk, if_true, outAt, hi, hs]
      clear hK hs hp
      simp at hg
      simp [hg]

theorem sp_ref08_Kids (l : List Nd) (hb : l.length ≤ 8589934592) (n : Nat) (hn : n < l.length) : CallR Go.Proofs.Try.prog 70 [.rv (.sl 49 (ndL l)), .rv (.int .i64 n)] [] [] (.rv (.sl 1 (intsL (natsI (kidsOf l n))))) := by
  refine callR_G k_decoupageref08_Kids [.rv (.sl 49 (ndL l)), .rv (.int .i64 n)] _ (by simp) (by simp [BkAll, bk_agg, bkAll_map, bk_rv, bk_fn, Sty.sv, Ln.sv, Nd.sv]) (fun K hK => ?_)
  have hlen := ndL_len l
  simp -implicitDefEqProofs only [c_decoupageref08_Kids, hlen, go_sem, ↓reduceIte, Nat.reduceEqDiff, Nat.reduceAdd, Nat.reduceSub, Nat.reduceMul, Nat.reduceLeDiff, Nat.reduceLT, reduceCtorEq, Int.reduceToNat]
  refine g_loop (ι := Nat) (fun k => [(9, .rv (.int .i64 k)), (8, .rv (.int .i64 l.length)), (5, .row 0 (kidsTo l k n).length (kidsTo l k n).length), (0, .rv (.sl 49 (ndL l))), (1, .rv (.int .i64 n))]) (fun k => [some (.row 1 (kidsTo l k n).length (rvs (intsL (natsI (kidsTo l k n)))))]) (fun k => k ≤ l.length) (fun k => l.length - k) 0 (by simp) ((ent_ghostv 5 1 0 rfl).trans (ent_env (by simp [lk, kidsTo_zero]))) (fun k hk K' hN hX hR => ?_)
  simp -implicitDefEqProofs only [go_sem, ↓reduceIte, Nat.reduceEqDiff, Nat.reduceAdd, Nat.reduceSub, Nat.reduceMul, Nat.reduceLeDiff, Nat.reduceLT, reduceCtorEq, Int.reduceToNat]
  refine cdS (fun hg => ?_) (fun hg => ?_)
  · have hk4 : k < l.length := by simp at hg; omega
    have hx := ndL_get hk4
    have hpk := parL_eq hk4
    have wu := wrap_up (k := k) (by omega)
    have hkl := kidsTo_len (l := l) (k := k) (p := n)
    have hs := kidsTo_succ (l := l) (k := k) (p := n)
    by_cases hc : 0 < k ∧ parL l k = n
    · rw [if_pos hc] at hs
      have e1 : decide ((k : Int) > 0) = true := decide_eq_true (by omega)
      have e2 : (parL l k == (n : Int)) = true := by simp [hc.2]
      have htl : (intsL (natsI (kidsTo l k n))).length = (kidsTo l k n).length := by simp [intsL, natsI]
      have htk : (intsL (natsI (kidsTo l k n))).take (kidsTo l k n).length = intsL (natsI (kidsTo l k n)) := List.take_of_length_le (by omega)
      have hap : natsI (kidsTo l k n) ++ [(k : Int)] = natsI (kidsTo l (k + 1) n) := by rw [hs]; simp [natsI]
      have hll : (kidsTo l (k + 1) n).length = (kidsTo l k n).length + 1 := by rw [hs]; simp
      repeat' (first | (simp -implicitDefEqProofs only [go_sem, ↓reduceIte, Nat.reduceEqDiff, Nat.reduceAdd, Nat.reduceSub, Nat.reduceMul, Nat.reduceLeDiff, Nat.reduceLT, reduceCtorEq, Int.reduceToNat, e1, e2, hlen, hx, nd_len, nd_drop0, hpk, wu, htl, htk, rvs_app1, hap]) | (with_reducible refine g_noent ?_) | (refine cdS (fun hg => ?_) (fun hg => ?_) <;> try simp -implicitDefEqProofs only [hg, Bool.not_true, Bool.not_false]) | (refine gdS (fun hg => ?_) (fun hg => ?_) <;> try simp -implicitDefEqProofs only [hg, Bool.not_true, Bool.not_false]) | (refine gddS (fun hg => ?_) (fun hg => ?_) <;> try simp -implicitDefEqProofs only [hg, Bool.not_true, Bool.not_false]) | ((with_reducible apply And.intro); focus (first | trivial | omega | decide | (simp -implicitDefEqProofs only [maxLen]; omega) | (simp [maxLen, sty_len, nd_len, ndL_len, lnL_len, intsL_len, rvs_len, lensS_len]; done) | (simp [maxLen, sty_len, nd_len, ndL_len, lnL_len, intsL_len, rvs_len, lensS_len]; omega))) | fail)
      refine hN (k + 1) _ _ (by omega) (by omega) ?_
      rw [hll]
      exact ent_tail (h' := [some (.row 1 ((kidsTo l k n).length + 1) (rvs (intsL (natsI (kidsTo l (k + 1) n)))))]) (C := [some (.row 1 0 [[.rv (.int .i64 k)]])]) (by simp) ⟨clH_rvs, trivial⟩ (by simp [ClEnv, lk, clS_rv, clS_row])
    · rw [if_neg hc, List.append_nil] at hs
      have nx : ∀ e, ClEnv 1 e [(9, .rv (.int .i64 (k + 1 : Nat))), (8, .rv (.int .i64 l.length)), (5, .row 0 (kidsTo l k n).length (kidsTo l k n).length), (0, .rv (.sl 49 (ndL l))), (1, .rv (.int .i64 n))] → K' .normal ⟨e, [some (.row 1 (kidsTo l k n).length (rvs (intsL (natsI (kidsTo l k n)))))]⟩ := fun e he => by
        refine hN (k + 1) _ _ (by omega) (by omega) ?_
        rw [hs]
        have := ent_tail (n0 := 0) (env := e) (h' := [some (.row 1 (kidsTo l k n).length (rvs (intsL (natsI (kidsTo l k n)))))]) (C := []) (by simp) ⟨clH_rvs, trivial⟩ he
        simpa using this
      by_cases h0 : 0 < k
      · have e1 : decide ((k : Int) > 0) = true := decide_eq_true (by omega)
        have e2 : (parL l k == (n : Int)) = false := by
          rw [Bool.eq_false_iff]; intro h; exact hc ⟨h0, by simpa using h⟩
        repeat' (first | (simp -implicitDefEqProofs only [go_sem, ↓reduceIte, Nat.reduceEqDiff, Nat.reduceAdd, Nat.reduceSub, Nat.reduceMul, Nat.reduceLeDiff, Nat.reduceLT, reduceCtorEq, Int.reduceToNat, e1, e2, hlen, hx, nd_len, nd_drop0, hpk, wu]) | (with_reducible refine g_noent ?_) | (refine cdS (fun hg => ?_) (fun hg => ?_) <;> try simp -implicitDefEqProofs only [hg, Bool.not_true, Bool.not_false]) | (refine gdS (fun hg => ?_) (fun hg => ?_) <;> try simp -implicitDefEqProofs only [hg, Bool.not_true, Bool.not_false]) | (refine gddS (fun hg => ?_) (fun hg => ?_) <;> try simp -implicitDefEqProofs only [hg, Bool.not_true, Bool.not_false]) | ((with_reducible apply And.intro); focus (first | trivial | omega | decide | (simp -implicitDefEqProofs only [maxLen]; omega) | (simp [maxLen, sty_len, nd_len, ndL_len, lnL_len, intsL_len, rvs_len, lensS_len]; done) | (simp [maxLen, sty_len, nd_len, ndL_len, lnL_len, intsL_len, rvs_len, lensS_len]; omega))) | fail)
        exact nx _ (by simp [ClEnv, lk, clS_rv, clS_row])
      · have e1 : decide ((k : Int) > 0) = false := decide_eq_false (by omega)
        repeat' (first | (simp -implicitDefEqProofs only [go_sem, ↓reduceIte, Nat.reduceEqDiff, Nat.reduceAdd, Nat.reduceSub, Nat.reduceMul, Nat.reduceLeDiff, Nat.reduceLT, reduceCtorEq, Int.reduceToNat, e1, wu]) | (with_reducible refine g_noent ?_) | (refine cdS (fun hg => ?_) (fun hg => ?_) <;> try simp -implicitDefEqProofs only [hg, Bool.not_true, Bool.not_false]) | (refine gdS (fun hg => ?_) (fun hg => ?_) <;> try simp -implicitDefEqProofs only [hg, Bool.not_true, Bool.not_false]) | (refine gddS (fun hg => ?_) (fun hg => ?_) <;> try simp -implicitDefEqProofs only [hg, Bool.not_true, Bool.not_false]) | ((with_reducible apply And.intro); focus (first | trivial | omega | decide | (simp -implicitDefEqProofs only [maxLen]; omega) | (simp [maxLen, sty_len, nd_len, ndL_len, lnL_len, intsL_len, rvs_len, lensS_len]; done) | (simp [maxLen, sty_len, nd_len, ndL_len, lnL_len, intsL_len, rvs_len, lensS_len]; omega))) | fail)
        exact nx _ (by simp [ClEnv, lk, clS_rv, clS_row])
  · have hk4 : k = l.length := by simp at hg; omega
    subst hk4
    simp -implicitDefEqProofs only [go_sem, ↓reduceIte, Nat.reduceEqDiff, Nat.reduceAdd, Nat.reduceSub, Nat.reduceMul, Nat.reduceLeDiff, Nat.reduceLT, reduceCtorEq, Int.reduceToNat]
    refine hX _ _ _ ?_
    repeat' (first | (simp -implicitDefEqProofs only [go_sem, ↓reduceIte, Nat.reduceEqDiff, Nat.reduceAdd, Nat.reduceSub, Nat.reduceMul, Nat.reduceLeDiff, Nat.reduceLT, reduceCtorEq, Int.reduceToNat]) | (with_reducible refine g_noent ?_) | (refine cdS (fun hg => ?_) (fun hg => ?_) <;> try simp -implicitDefEqProofs only [hg, Bool.not_true, Bool.not_false]) | (refine gdS (fun hg => ?_) (fun hg => ?_) <;> try simp -implicitDefEqProofs only [hg, Bool.not_true, Bool.not_false]) | (refine gddS (fun hg => ?_) (fun hg => ?_) <;> try simp -implicitDefEqProofs only [hg, Bool.not_true, Bool.not_false]) | ((with_reducible apply And.intro); focus (first | trivial | omega | decide | (simp -implicitDefEqProofs only [maxLen]; omega) | (simp [maxLen, sty_len, nd_len, ndL_len, lnL_len, intsL_len, rvs_len, lensS_len]; done) | (simp [maxLen, sty_len, nd_len, ndL_len, lnL_len, intsL_len, rvs_len, lensS_len]; omega))) | fail)
    exact (hK _ _ ⟨trivial, rn_frz (xs := intsL (natsI (kidsOf l n))) rfl rfl (by simp [intsL, natsI, kidsOf]) (intsL_one _)⟩).2

/-- The children in the flow among the first k nodes. -/
def flowTo (l : List Nd) (k p : Nat) : List Nat := (kidsTo l k p).filter fun (m : Nat) => stayAt l m
theorem flowTo_len {l : List Nd} {k p : Nat} : (flowTo l k p).length ≤ k := by
  have := List.length_filter_le (fun (m : Nat) => stayAt l m) (kidsTo l k p)
  have := kidsTo_len (l := l) (k := k) (p := p)
  unfold flowTo; omega

theorem sp_ref08_Flow (l : List Nd) (ht : treeOK l = true) (hb : l.length ≤ 8589934592) (n : Nat) (hn : n < l.length) : CallR Go.Proofs.Try.prog 71 [.rv (.sl 49 (ndL l)), .rv (.int .i64 n)] [] [] (.rv (.sl 1 (intsL (natsI (flowAt l n))))) := by
  refine callR_G k_decoupageref08_Flow [.rv (.sl 49 (ndL l)), .rv (.int .i64 n)] _ (by simp) (by simp [BkAll, bk_agg, bkAll_map, bk_rv, bk_fn, Sty.sv, Ln.sv, Nd.sv]) (fun K hK => ?_)
  have hlen := ndL_len l
  simp -implicitDefEqProofs only [c_decoupageref08_Flow, hlen, go_sem, ↓reduceIte, Nat.reduceEqDiff, Nat.reduceAdd, Nat.reduceSub, Nat.reduceMul, Nat.reduceLeDiff, Nat.reduceLT, reduceCtorEq, Int.reduceToNat]
  refine g_loop (ι := Nat) (fun k => [(9, .rv (.int .i64 k)), (8, .rv (.int .i64 l.length)), (5, .row 0 (flowTo l k n).length (flowTo l k n).length), (0, .rv (.sl 49 (ndL l))), (1, .rv (.int .i64 n))]) (fun k => [some (.row 1 (flowTo l k n).length (rvs (intsL (natsI (flowTo l k n)))))]) (fun k => k ≤ l.length) (fun k => l.length - k) 0 (by simp) ((ent_ghostv 5 1 0 rfl).trans (ent_env (by simp [lk, flowTo, kidsTo_zero]))) (fun k hk K' hN hX hR => ?_)
  simp -implicitDefEqProofs only [go_sem, ↓reduceIte, Nat.reduceEqDiff, Nat.reduceAdd, Nat.reduceSub, Nat.reduceMul, Nat.reduceLeDiff, Nat.reduceLT, reduceCtorEq, Int.reduceToNat]
  refine cdS (fun hg => ?_) (fun hg => ?_)
  · have hk4 : k < l.length := by simp at hg; omega
    have hx := ndL_get hk4
    have hpk := parL_eq hk4
    have wu := wrap_up (k := k) (by omega)
    have hkl := flowTo_len (l := l) (k := k) (p := n)
    have hs := kidsTo_succ (l := l) (k := k) (p := n)
    have hm := sp_ref08_Made l ht k
    have ho := sp_ref08_Out l ht k
    have stay : flowTo l (k + 1) n = flowTo l k n → ∀ e, ClEnv 1 e [(9, .rv (.int .i64 (k + 1 : Nat))), (8, .rv (.int .i64 l.length)), (5, .row 0 (flowTo l k n).length (flowTo l k n).length), (0, .rv (.sl 49 (ndL l))), (1, .rv (.int .i64 n))] → K' .normal ⟨e, [some (.row 1 (flowTo l k n).length (rvs (intsL (natsI (flowTo l k n)))))]⟩ := fun hs e he => by
        refine hN (k + 1) _ _ (by omega) (by omega) ?_
        rw [hs]
        have := ent_tail (n0 := 0) (env := e) (h' := [some (.row 1 (flowTo l k n).length (rvs (intsL (natsI (flowTo l k n)))))]) (C := []) (by simp) ⟨clH_rvs, trivial⟩ he
        simpa using this
    by_cases hc : 0 < k ∧ parL l k = n
    · rw [if_pos hc] at hs
      have e1 : decide ((k : Int) > 0) = true := decide_eq_true (by omega)
      have e2 : (parL l k == (n : Int)) = true := by simp [hc.2]
      have fs : flowTo l (k + 1) n = flowTo l k n ++ if stayAt l k = true then [k] else [] := by
        unfold flowTo
        rw [hs, List.filter_append]
        cases hst : stayAt l k <;> simp [hst]
      cases hmk : madeAt l k with
      | false =>
        rw [hmk] at hm
        have hcall3 := hm; repeat' (first | (simp -implicitDefEqProofs only [go_sem, ↓reduceIte, Nat.reduceEqDiff, Nat.reduceAdd, Nat.reduceSub, Nat.reduceMul, Nat.reduceLeDiff, Nat.reduceLT, reduceCtorEq, Int.reduceToNat, e1, e2, hlen, hx, nd_len, nd_drop0, hpk, wu]) | (with_reducible refine g_noent ?_) | (with_reducible refine g_call0 hcall3 ?_) | (with_reducible refine g_calld0 hcall3 ?_) | (refine cdS (fun hg => ?_) (fun hg => ?_) <;> try simp -implicitDefEqProofs only [hg, Bool.not_true, Bool.not_false]) | (refine gdS (fun hg => ?_) (fun hg => ?_) <;> try simp -implicitDefEqProofs only [hg, Bool.not_true, Bool.not_false]) | (refine gddS (fun hg => ?_) (fun hg => ?_) <;> try simp -implicitDefEqProofs only [hg, Bool.not_true, Bool.not_false]) | ((with_reducible apply And.intro); focus (first | trivial | omega | decide | (simp -implicitDefEqProofs only [maxLen]; omega) | (simp [maxLen, sty_len, nd_len, ndL_len, lnL_len, intsL_len, rvs_len, lensS_len]; done) | (simp [maxLen, sty_len, nd_len, ndL_len, lnL_len, intsL_len, rvs_len, lensS_len]; omega))) | fail)
        refine stay ?_ _ (by simp [ClEnv, lk, clS_rv, clS_row])
        rw [fs]; simp [stayAt, hmk]
      | true =>
        rw [hmk] at hm
        cases hok : outAt l k with
        | true =>
          rw [hok] at ho
          have hcall4 := hm; have hcall5 := ho; repeat' (first | (simp -implicitDefEqProofs only [go_sem, ↓reduceIte, Nat.reduceEqDiff, Nat.reduceAdd, Nat.reduceSub, Nat.reduceMul, Nat.reduceLeDiff, Nat.reduceLT, reduceCtorEq, Int.reduceToNat, e1, e2, hlen, hx, nd_len, nd_drop0, hpk, wu]) | (with_reducible refine g_noent ?_) | (with_reducible refine g_call0 hcall4 ?_) | (with_reducible refine g_calld0 hcall4 ?_) | (with_reducible refine g_call0 hcall5 ?_) | (with_reducible refine g_calld0 hcall5 ?_) | (refine cdS (fun hg => ?_) (fun hg => ?_) <;> try simp -implicitDefEqProofs only [hg, Bool.not_true, Bool.not_false]) | (refine gdS (fun hg => ?_) (fun hg => ?_) <;> try simp -implicitDefEqProofs only [hg, Bool.not_true, Bool.not_false]) | (refine gddS (fun hg => ?_) (fun hg => ?_) <;> try simp -implicitDefEqProofs only [hg, Bool.not_true, Bool.not_false]) | ((with_reducible apply And.intro); focus (first | trivial | omega | decide | (simp -implicitDefEqProofs only [maxLen]; omega) | (simp [maxLen, sty_len, nd_len, ndL_len, lnL_len, intsL_len, rvs_len, lensS_len]; done) | (simp [maxLen, sty_len, nd_len, ndL_len, lnL_len, intsL_len, rvs_len, lensS_len]; omega))) | fail)
          refine stay ?_ _ (by simp [ClEnv, lk, clS_rv, clS_row])
          rw [fs]; simp [stayAt, hok]
        | false =>
          rw [hok] at ho
          have hst : stayAt l k = true := by simp [stayAt, hmk, hok]
          rw [hst] at fs
          simp -implicitDefEqProofs only [if_true] at fs
          have htl : (intsL (natsI (flowTo l k n))).length = (flowTo l k n).length := by simp [intsL, natsI]
          have htk : (intsL (natsI (flowTo l k n))).take (flowTo l k n).length = intsL (natsI (flowTo l k n)) := List.take_of_length_le (by omega)
          have hap : natsI (flowTo l k n) ++ [(k : Int)] = natsI (flowTo l (k + 1) n) := by rw [fs]; simp [natsI]
          have hll : (flowTo l (k + 1) n).length = (flowTo l k n).length + 1 := by rw [fs]; simp
          have hcall6 := hm; have hcall7 := ho; repeat' (first | (simp -implicitDefEqProofs only [go_sem, ↓reduceIte, Nat.reduceEqDiff, Nat.reduceAdd, Nat.reduceSub, Nat.reduceMul, Nat.reduceLeDiff, Nat.reduceLT, reduceCtorEq, Int.reduceToNat, e1, e2, hlen, hx, nd_len, nd_drop0, hpk, wu, htl, htk, rvs_app1, hap]) | (with_reducible refine g_noent ?_) | (with_reducible refine g_call0 hcall6 ?_) | (with_reducible refine g_calld0 hcall6 ?_) | (with_reducible refine g_call0 hcall7 ?_) | (with_reducible refine g_calld0 hcall7 ?_) | (refine cdS (fun hg => ?_) (fun hg => ?_) <;> try simp -implicitDefEqProofs only [hg, Bool.not_true, Bool.not_false]) | (refine gdS (fun hg => ?_) (fun hg => ?_) <;> try simp -implicitDefEqProofs only [hg, Bool.not_true, Bool.not_false]) | (refine gddS (fun hg => ?_) (fun hg => ?_) <;> try simp -implicitDefEqProofs only [hg, Bool.not_true, Bool.not_false]) | ((with_reducible apply And.intro); focus (first | trivial | omega | decide | (simp -implicitDefEqProofs only [maxLen]; omega) | (simp [maxLen, sty_len, nd_len, ndL_len, lnL_len, intsL_len, rvs_len, lensS_len]; done) | (simp [maxLen, sty_len, nd_len, ndL_len, lnL_len, intsL_len, rvs_len, lensS_len]; omega))) | fail)
          refine hN (k + 1) _ _ (by omega) (by omega) ?_
          rw [hll]
          exact ent_tail (h' := [some (.row 1 ((flowTo l k n).length + 1) (rvs (intsL (natsI (flowTo l (k + 1) n)))))]) (C := [some (.row 1 0 [[.rv (.int .i64 k)]])]) (by simp) ⟨clH_rvs, trivial⟩ (by simp [ClEnv, lk, clS_rv, clS_row])
    · rw [if_neg hc, List.append_nil] at hs
      have hs' : flowTo l (k + 1) n = flowTo l k n := by unfold flowTo; rw [hs]
      by_cases h0 : 0 < k
      · have e1 : decide ((k : Int) > 0) = true := decide_eq_true (by omega)
        have e2 : (parL l k == (n : Int)) = false := by
          rw [Bool.eq_false_iff]; intro h; exact hc ⟨h0, by simpa using h⟩
        repeat' (first | (simp -implicitDefEqProofs only [go_sem, ↓reduceIte, Nat.reduceEqDiff, Nat.reduceAdd, Nat.reduceSub, Nat.reduceMul, Nat.reduceLeDiff, Nat.reduceLT, reduceCtorEq, Int.reduceToNat, e1, e2, hlen, hx, nd_len, nd_drop0, hpk, wu]) | (with_reducible refine g_noent ?_) | (refine cdS (fun hg => ?_) (fun hg => ?_) <;> try simp -implicitDefEqProofs only [hg, Bool.not_true, Bool.not_false]) | (refine gdS (fun hg => ?_) (fun hg => ?_) <;> try simp -implicitDefEqProofs only [hg, Bool.not_true, Bool.not_false]) | (refine gddS (fun hg => ?_) (fun hg => ?_) <;> try simp -implicitDefEqProofs only [hg, Bool.not_true, Bool.not_false]) | ((with_reducible apply And.intro); focus (first | trivial | omega | decide | (simp -implicitDefEqProofs only [maxLen]; omega) | (simp [maxLen, sty_len, nd_len, ndL_len, lnL_len, intsL_len, rvs_len, lensS_len]; done) | (simp [maxLen, sty_len, nd_len, ndL_len, lnL_len, intsL_len, rvs_len, lensS_len]; omega))) | fail)
        exact stay hs' _ (by simp [ClEnv, lk, clS_rv, clS_row])
      · have e1 : decide ((k : Int) > 0) = false := decide_eq_false (by omega)
        repeat' (first | (simp -implicitDefEqProofs only [go_sem, ↓reduceIte, Nat.reduceEqDiff, Nat.reduceAdd, Nat.reduceSub, Nat.reduceMul, Nat.reduceLeDiff, Nat.reduceLT, reduceCtorEq, Int.reduceToNat, e1, wu]) | (with_reducible refine g_noent ?_) | (refine cdS (fun hg => ?_) (fun hg => ?_) <;> try simp -implicitDefEqProofs only [hg, Bool.not_true, Bool.not_false]) | (refine gdS (fun hg => ?_) (fun hg => ?_) <;> try simp -implicitDefEqProofs only [hg, Bool.not_true, Bool.not_false]) | (refine gddS (fun hg => ?_) (fun hg => ?_) <;> try simp -implicitDefEqProofs only [hg, Bool.not_true, Bool.not_false]) | ((with_reducible apply And.intro); focus (first | trivial | omega | decide | (simp -implicitDefEqProofs only [maxLen]; omega) | (simp [maxLen, sty_len, nd_len, ndL_len, lnL_len, intsL_len, rvs_len, lensS_len]; done) | (simp [maxLen, sty_len, nd_len, ndL_len, lnL_len, intsL_len, rvs_len, lensS_len]; omega))) | fail)
        exact stay hs' _ (by simp [ClEnv, lk, clS_rv, clS_row])
  · have hk4 : k = l.length := by simp at hg; omega
    subst hk4
    have hfa : flowTo l l.length n = flowAt l n := by
      unfold flowTo flowAt kidsAt
      rw [if_pos (inL_of hn)]; rfl
    simp -implicitDefEqProofs only [go_sem, ↓reduceIte, Nat.reduceEqDiff, Nat.reduceAdd, Nat.reduceSub, Nat.reduceMul, Nat.reduceLeDiff, Nat.reduceLT, reduceCtorEq, Int.reduceToNat]
    refine hX _ _ _ ?_
    repeat' (first | (simp -implicitDefEqProofs only [go_sem, ↓reduceIte, Nat.reduceEqDiff, Nat.reduceAdd, Nat.reduceSub, Nat.reduceMul, Nat.reduceLeDiff, Nat.reduceLT, reduceCtorEq, Int.reduceToNat]) | (with_reducible refine g_noent ?_) | (refine cdS (fun hg => ?_) (fun hg => ?_) <;> try simp -implicitDefEqProofs only [hg, Bool.not_true, Bool.not_false]) | (refine gdS (fun hg => ?_) (fun hg => ?_) <;> try simp -implicitDefEqProofs only [hg, Bool.not_true, Bool.not_false]) | (refine gddS (fun hg => ?_) (fun hg => ?_) <;> try simp -implicitDefEqProofs only [hg, Bool.not_true, Bool.not_false]) | ((with_reducible apply And.intro); focus (first | trivial | omega | decide | (simp -implicitDefEqProofs only [maxLen]; omega) | (simp [maxLen, sty_len, nd_len, ndL_len, lnL_len, intsL_len, rvs_len, lensS_len]; done) | (simp [maxLen, sty_len, nd_len, ndL_len, lnL_len, intsL_len, rvs_len, lensS_len]; omega))) | fail)
    rw [hfa]
    exact (hK _ _ ⟨trivial, rn_frz (xs := intsL (natsI (flowAt l n))) rfl rfl (by simp [intsL, natsI]) (intsL_one _)⟩).2

theorem sp_ref08_Up (l : List Nd) (hs : Shp l) (hb : l.length ≤ 8589934592) (n : Int) : CallR Go.Proofs.Try.prog 72 [.rv (.sl 49 (ndL l)), .rv (.int .i64 n)] [] [] (.rv (.sl 1 (intsL (natsI (upAt l n))))) := by
  have hlen := ndL_len l
  rcases inL_cases l n with ⟨h1, hi⟩ | ⟨h1, h0, hi⟩ | ⟨k, rfl, hk, hi⟩
  · rw [show upAt l n = [] by simp [upAt, hi]]
    refine callR_nil 1 ?_
    refine callR_G k_decoupageref08_Up [.rv (.sl 49 (ndL l)), .rv (.int .i64 n)] _ (by simp) (by simp [BkAll, bk_agg, bkAll_map, bk_rv, bk_fn, Sty.sv, Ln.sv, Nd.sv]) (fun K hK => ?_)
    have e1 : decide (n < 0) = true := decide_eq_true h1
    simp -implicitDefEqProofs only [c_decoupageref08_Up, go_sem, ↓reduceIte, Nat.reduceEqDiff, Nat.reduceAdd, Nat.reduceSub, Nat.reduceMul, Nat.reduceLeDiff, Nat.reduceLT, reduceCtorEq, Int.reduceToNat]
    repeat' (first | (simp -implicitDefEqProofs only [go_sem, ↓reduceIte, Nat.reduceEqDiff, Nat.reduceAdd, Nat.reduceSub, Nat.reduceMul, Nat.reduceLeDiff, Nat.reduceLT, reduceCtorEq, Int.reduceToNat, e1, hlen]) | (with_reducible refine g_noent ?_) | (refine cdS (fun hg => ?_) (fun hg => ?_) <;> try simp -implicitDefEqProofs only [hg, Bool.not_true, Bool.not_false]) | (refine gdS (fun hg => ?_) (fun hg => ?_) <;> try simp -implicitDefEqProofs only [hg, Bool.not_true, Bool.not_false]) | (refine gddS (fun hg => ?_) (fun hg => ?_) <;> try simp -implicitDefEqProofs only [hg, Bool.not_true, Bool.not_false]) | ((with_reducible apply And.intro); focus (first | trivial | omega | decide | (simp -implicitDefEqProofs only [maxLen]; omega) | (simp [maxLen, sty_len, nd_len, ndL_len, lnL_len, intsL_len, rvs_len, lensS_len]; done) | (simp [maxLen, sty_len, nd_len, ndL_len, lnL_len, intsL_len, rvs_len, lensS_len]; omega))) | fail)
    exact (hK _ _ (ret_t rfl)).2
  · rw [show upAt l n = [] by simp [upAt, hi]]
    refine callR_nil 1 ?_
    refine callR_G k_decoupageref08_Up [.rv (.sl 49 (ndL l)), .rv (.int .i64 n)] _ (by simp) (by simp [BkAll, bk_agg, bkAll_map, bk_rv, bk_fn, Sty.sv, Ln.sv, Nd.sv]) (fun K hK => ?_)
    have e1 : decide (n < 0) = false := decide_eq_false (by omega)
    have e2 : decide (n ≥ (l.length : Int)) = true := decide_eq_true h1
    simp -implicitDefEqProofs only [c_decoupageref08_Up, go_sem, ↓reduceIte, Nat.reduceEqDiff, Nat.reduceAdd, Nat.reduceSub, Nat.reduceMul, Nat.reduceLeDiff, Nat.reduceLT, reduceCtorEq, Int.reduceToNat]
    repeat' (first | (simp -implicitDefEqProofs only [go_sem, ↓reduceIte, Nat.reduceEqDiff, Nat.reduceAdd, Nat.reduceSub, Nat.reduceMul, Nat.reduceLeDiff, Nat.reduceLT, reduceCtorEq, Int.reduceToNat, e1, e2, hlen]) | (with_reducible refine g_noent ?_) | (refine cdS (fun hg => ?_) (fun hg => ?_) <;> try simp -implicitDefEqProofs only [hg, Bool.not_true, Bool.not_false]) | (refine gdS (fun hg => ?_) (fun hg => ?_) <;> try simp -implicitDefEqProofs only [hg, Bool.not_true, Bool.not_false]) | (refine gddS (fun hg => ?_) (fun hg => ?_) <;> try simp -implicitDefEqProofs only [hg, Bool.not_true, Bool.not_false]) | ((with_reducible apply And.intro); focus (first | trivial | omega | decide | (simp -implicitDefEqProofs only [maxLen]; omega) | (simp [maxLen, sty_len, nd_len, ndL_len, lnL_len, intsL_len, rvs_len, lensS_len]; done) | (simp [maxLen, sty_len, nd_len, ndL_len, lnL_len, intsL_len, rvs_len, lensS_len]; omega))) | fail)
    exact (hK _ _ (ret_t rfl)).2
  · refine callR_G k_decoupageref08_Up [.rv (.sl 49 (ndL l)), .rv (.int .i64 k)] _ (by simp) (by simp [BkAll, bk_agg, bkAll_map, bk_rv, bk_fn, Sty.sv, Ln.sv, Nd.sv]) (fun K hK => ?_)
    have e1 : decide ((k : Int) < 0) = false := decide_eq_false (by omega)
    have e2 : decide ((k : Int) ≥ (l.length : Int)) = false := decide_eq_false (by omega)
    have hx := ndL_get hk
    have hpk := parL_eq hk
    simp -implicitDefEqProofs only [c_decoupageref08_Up, go_sem, ↓reduceIte, Nat.reduceEqDiff, Nat.reduceAdd, Nat.reduceSub, Nat.reduceMul, Nat.reduceLeDiff, Nat.reduceLT, reduceCtorEq, Int.reduceToNat]
    repeat' (first | (simp -implicitDefEqProofs only [go_sem, ↓reduceIte, Nat.reduceEqDiff, Nat.reduceAdd, Nat.reduceSub, Nat.reduceMul, Nat.reduceLeDiff, Nat.reduceLT, reduceCtorEq, Int.reduceToNat, e1, e2, hlen, hx, hpk, nd_len, nd_drop0]) | (with_reducible refine g_noent ?_) | (refine cdS (fun hg => ?_) (fun hg => ?_) <;> try simp -implicitDefEqProofs only [hg, Bool.not_true, Bool.not_false]) | (refine gdS (fun hg => ?_) (fun hg => ?_) <;> try simp -implicitDefEqProofs only [hg, Bool.not_true, Bool.not_false]) | (refine gddS (fun hg => ?_) (fun hg => ?_) <;> try simp -implicitDefEqProofs only [hg, Bool.not_true, Bool.not_false]) | ((with_reducible apply And.intro); focus (first | trivial | omega | decide | (simp -implicitDefEqProofs only [maxLen]; omega) | (simp [maxLen, sty_len, nd_len, ndL_len, lnL_len, intsL_len, rvs_len, lensS_len]; done) | (simp [maxLen, sty_len, nd_len, ndL_len, lnL_len, intsL_len, rvs_len, lensS_len]; omega))) | fail)
    have hu : upAt l k = (pth l k).drop 1 := by simp [upAt, hi]
    have hp0 : parL l k = atI (upAt l k) 0 := by
      have := par_at hs.wf k hk 0 pth_pos
      obtain ⟨r, hr⟩ := pth_head (l := l) (n := k)
      simp -implicitDefEqProofs only [hr, List.getElem_cons_zero] at this
      rw [hu, this, hr]; simp [atI]
    have hul : (upAt l k).length ≤ k := by have := pth_len (l := l) k; rw [hu]; simp; omega
    have hmem : ∀ i (h : i < (upAt l k).length), (upAt l k)[i]'h < l.length ∧ parL l ((upAt l k)[i]'h) = atI (upAt l k) (i + 1) := fun i h => by
      have hi2 : i + 1 < (pth l k).length := by rw [hu] at h; simp at h; omega
      have h1 : (upAt l k)[i]'h = (pth l k)[i + 1]'hi2 := by
        simp -implicitDefEqProofs only [hu, List.getElem_drop]; congr 1; omega
      rw [h1]
      refine ⟨pth_lt hk hi2, ?_⟩
      rw [par_at hs.wf k hk (i + 1) hi2, hu]
      unfold atI; rw [List.getElem?_drop, show 1 + (i + 1) = i + 1 + 1 by omega]
    refine g_loop (ι := Nat) (fun i => [(6, .rv (.int .i64 (atI (upAt l k) i))), (5, .row 0 i i), (0, .rv (.sl 49 (ndL l)))]) (fun i => [some (.row 1 i (rvs (intsL (natsI ((upAt l k).take i)))))]) (fun i => i ≤ (upAt l k).length) (fun i => (upAt l k).length - i) 0 (by simp) (by rw [hp0]; exact (ent_ghostv 5 1 0 rfl).trans (ent_env (by simp [lk]))) (fun i hi' K' hN hX hR => ?_)
    simp -implicitDefEqProofs only [go_sem, ↓reduceIte, Nat.reduceEqDiff, Nat.reduceAdd, Nat.reduceSub, Nat.reduceMul, Nat.reduceLeDiff, Nat.reduceLT, reduceCtorEq, Int.reduceToNat]
    refine cdS (fun hg => ?_) (fun hg => ?_)
    · have hil : i < (upAt l k).length := atI_iff.1 (by simpa using hg)
      obtain ⟨hml, hmp⟩ := hmem i hil
      have hat := atI_lt hil
      have hx := ndL_get hml
      have hpar := parL_eq hml
      have htl : (intsL (natsI ((upAt l k).take i))).length = i := by simp [intsL, natsI]; omega
      have htk : (intsL (natsI ((upAt l k).take i))).take i = intsL (natsI ((upAt l k).take i)) := List.take_of_length_le (by omega)
      have hap : natsI ((upAt l k).take i) ++ [(((upAt l k)[i]'hil : Nat) : Int)] = natsI ((upAt l k).take (i + 1)) := by
        rw [List.take_succ_eq_append_getElem hil]; simp -implicitDefEqProofs only [natsI, List.map_append, List.map_cons, List.map_nil]
      repeat' (first | (simp -implicitDefEqProofs only [go_sem, ↓reduceIte, Nat.reduceEqDiff, Nat.reduceAdd, Nat.reduceSub, Nat.reduceMul, Nat.reduceLeDiff, Nat.reduceLT, reduceCtorEq, Int.reduceToNat, htl, htk, rvs_app1, hap, hat, hx, hpar, hmp, hlen, nd_len, nd_drop0]) | (with_reducible refine g_noent ?_) | (refine cdS (fun hg => ?_) (fun hg => ?_) <;> try simp -implicitDefEqProofs only [hg, Bool.not_true, Bool.not_false]) | (refine gdS (fun hg => ?_) (fun hg => ?_) <;> try simp -implicitDefEqProofs only [hg, Bool.not_true, Bool.not_false]) | (refine gddS (fun hg => ?_) (fun hg => ?_) <;> try simp -implicitDefEqProofs only [hg, Bool.not_true, Bool.not_false]) | ((with_reducible apply And.intro); focus (first | trivial | omega | decide | (simp -implicitDefEqProofs only [maxLen]; omega) | (simp [maxLen, sty_len, nd_len, ndL_len, lnL_len, intsL_len, rvs_len, lensS_len]; done) | (simp [maxLen, sty_len, nd_len, ndL_len, lnL_len, intsL_len, rvs_len, lensS_len]; omega))) | fail)
      exact hN (i + 1) _ _ (by omega) (by omega) (ent_tail (h' := [some (.row 1 (i + 1) (rvs (intsL (natsI ((upAt l k).take (i + 1))))))]) (C := [some (.row 1 0 [[.rv (.int .i64 ((upAt l k)[i]'hil : Nat))]])]) (by simp) ⟨clH_rvs, trivial⟩ (by simp [ClEnv, lk, clS_rv, clS_row]))
    · have hil : ¬ i < (upAt l k).length := fun h => by have := atI_iff.2 h; simp at hg; omega
      obtain rfl : i = (upAt l k).length := by omega
      simp -implicitDefEqProofs only [go_sem, ↓reduceIte, Nat.reduceEqDiff, Nat.reduceAdd, Nat.reduceSub, Nat.reduceMul, Nat.reduceLeDiff, Nat.reduceLT, reduceCtorEq, Int.reduceToNat]
      refine hX _ _ _ ?_
      repeat' (first | (simp -implicitDefEqProofs only [go_sem, ↓reduceIte, Nat.reduceEqDiff, Nat.reduceAdd, Nat.reduceSub, Nat.reduceMul, Nat.reduceLeDiff, Nat.reduceLT, reduceCtorEq, Int.reduceToNat]) | (with_reducible refine g_noent ?_) | (refine cdS (fun hg => ?_) (fun hg => ?_) <;> try simp -implicitDefEqProofs only [hg, Bool.not_true, Bool.not_false]) | (refine gdS (fun hg => ?_) (fun hg => ?_) <;> try simp -implicitDefEqProofs only [hg, Bool.not_true, Bool.not_false]) | (refine gddS (fun hg => ?_) (fun hg => ?_) <;> try simp -implicitDefEqProofs only [hg, Bool.not_true, Bool.not_false]) | ((with_reducible apply And.intro); focus (first | trivial | omega | decide | (simp -implicitDefEqProofs only [maxLen]; omega) | (simp [maxLen, sty_len, nd_len, ndL_len, lnL_len, intsL_len, rvs_len, lensS_len]; done) | (simp [maxLen, sty_len, nd_len, ndL_len, lnL_len, intsL_len, rvs_len, lensS_len]; omega))) | fail)
      refine (hK _ _ ?_).2
      rw [List.take_length]
      exact ⟨trivial, rn_frz (xs := intsL (natsI (upAt l k))) rfl rfl (by simp [intsL, natsI]) (intsL_one _)⟩

theorem aboveS_mem {l : List Nd} {a n : Nat} : aboveS l (a : Int) n = true ↔ a ∈ pth l n := by
  unfold aboveS
  rw [List.any_eq_true]
  constructor
  · rintro ⟨x, h1, h2⟩
    have h3 : x = a := by simp at h2; omega
    exact h3 ▸ h1
  · intro h; exact ⟨a, h, by simp⟩

theorem below_eq {l : List Nd} (hs : Shp l) {a n : Nat} (ha : a < l.length) (hn : n < l.length) : belowAt l a n = aboveS l a n := by
  have he := hs.below ha hn
  rw [Bool.eq_iff_iff, aboveS_mem, he]
  simp -implicitDefEqProofs only [belowAt, endAt, inL_of ha, inL_of hn, if_true, Int.toNat_natCast, Bool.and_eq_true, decide_eq_true_eq, true_and]
  omega

theorem sp_ref08_Below (l : List Nd) (hs : Shp l) (hb : l.length ≤ 8589934592) (a n : Int) : CallR Go.Proofs.Try.prog 20 [.rv (.sl 49 (ndL l)), .rv (.int .i64 a), .rv (.int .i64 n)] [] [] (.rv (.bool (belowAt l a n))) := by
  have hlen := ndL_len l
  refine callR_G k_decoupageref08_Below [.rv (.sl 49 (ndL l)), .rv (.int .i64 a), .rv (.int .i64 n)] _ (by simp) (by simp [BkAll, bk_agg, bkAll_map, bk_rv, bk_fn, Sty.sv, Ln.sv, Nd.sv]) (fun K hK => ?_)
  simp -implicitDefEqProofs only [c_decoupageref08_Below, go_sem, ↓reduceIte, Nat.reduceEqDiff, Nat.reduceAdd, Nat.reduceSub, Nat.reduceMul, Nat.reduceLeDiff, Nat.reduceLT, reduceCtorEq, Int.reduceToNat]
  rcases inL_cases l a with ⟨h1, hi⟩ | ⟨h1, h0, hi⟩ | ⟨k, rfl, hk, hi⟩
  · have e1 : decide (a ≥ 0) = false := decide_eq_false (by omega)
    repeat' (first | (simp -implicitDefEqProofs only [go_sem, ↓reduceIte, Nat.reduceEqDiff, Nat.reduceAdd, Nat.reduceSub, Nat.reduceMul, Nat.reduceLeDiff, Nat.reduceLT, reduceCtorEq, Int.reduceToNat, e1, hlen]) | (with_reducible refine g_noent ?_) | (refine cdS (fun hg => ?_) (fun hg => ?_) <;> try simp -implicitDefEqProofs only [hg, Bool.not_true, Bool.not_false]) | (refine gdS (fun hg => ?_) (fun hg => ?_) <;> try simp -implicitDefEqProofs only [hg, Bool.not_true, Bool.not_false]) | (refine gddS (fun hg => ?_) (fun hg => ?_) <;> try simp -implicitDefEqProofs only [hg, Bool.not_true, Bool.not_false]) | ((with_reducible apply And.intro); focus (first | trivial | omega | decide | (simp -implicitDefEqProofs only [maxLen]; omega) | (simp [maxLen, sty_len, nd_len, ndL_len, lnL_len, intsL_len, rvs_len, lensS_len]; done) | (simp [maxLen, sty_len, nd_len, ndL_len, lnL_len, intsL_len, rvs_len, lensS_len]; omega))) | fail)
    exact (hK _ _ (ret_t (by simp [belowAt, hi, lk]))).2
  · have e1 : decide (a ≥ 0) = true := decide_eq_true h0
    have e2 : decide (a < (l.length : Int)) = false := decide_eq_false (by omega)
    repeat' (first | (simp -implicitDefEqProofs only [go_sem, ↓reduceIte, Nat.reduceEqDiff, Nat.reduceAdd, Nat.reduceSub, Nat.reduceMul, Nat.reduceLeDiff, Nat.reduceLT, reduceCtorEq, Int.reduceToNat, e1, e2, hlen]) | (with_reducible refine g_noent ?_) | (refine cdS (fun hg => ?_) (fun hg => ?_) <;> try simp -implicitDefEqProofs only [hg, Bool.not_true, Bool.not_false]) | (refine gdS (fun hg => ?_) (fun hg => ?_) <;> try simp -implicitDefEqProofs only [hg, Bool.not_true, Bool.not_false]) | (refine gddS (fun hg => ?_) (fun hg => ?_) <;> try simp -implicitDefEqProofs only [hg, Bool.not_true, Bool.not_false]) | ((with_reducible apply And.intro); focus (first | trivial | omega | decide | (simp -implicitDefEqProofs only [maxLen]; omega) | (simp [maxLen, sty_len, nd_len, ndL_len, lnL_len, intsL_len, rvs_len, lensS_len]; done) | (simp [maxLen, sty_len, nd_len, ndL_len, lnL_len, intsL_len, rvs_len, lensS_len]; omega))) | fail)
    exact (hK _ _ (ret_t (by simp [belowAt, hi, lk]))).2
  · have e1 : decide ((k : Int) ≥ 0) = true := decide_eq_true (by omega)
    have e2 : decide ((k : Int) < (l.length : Int)) = true := decide_eq_true (by omega)
    rcases inL_cases l n with ⟨h1, hj⟩ | ⟨h1, h0, hj⟩ | ⟨m, rfl, hm, hj⟩
    · have e3 : decide (n ≥ 0) = false := decide_eq_false (by omega)
      repeat' (first | (simp -implicitDefEqProofs only [go_sem, ↓reduceIte, Nat.reduceEqDiff, Nat.reduceAdd, Nat.reduceSub, Nat.reduceMul, Nat.reduceLeDiff, Nat.reduceLT, reduceCtorEq, Int.reduceToNat, e1, e2, e3, hlen]) | (with_reducible refine g_noent ?_) | (refine cdS (fun hg => ?_) (fun hg => ?_) <;> try simp -implicitDefEqProofs only [hg, Bool.not_true, Bool.not_false]) | (refine gdS (fun hg => ?_) (fun hg => ?_) <;> try simp -implicitDefEqProofs only [hg, Bool.not_true, Bool.not_false]) | (refine gddS (fun hg => ?_) (fun hg => ?_) <;> try simp -implicitDefEqProofs only [hg, Bool.not_true, Bool.not_false]) | ((with_reducible apply And.intro); focus (first | trivial | omega | decide | (simp -implicitDefEqProofs only [maxLen]; omega) | (simp [maxLen, sty_len, nd_len, ndL_len, lnL_len, intsL_len, rvs_len, lensS_len]; done) | (simp [maxLen, sty_len, nd_len, ndL_len, lnL_len, intsL_len, rvs_len, lensS_len]; omega))) | fail)
      exact (hK _ _ (ret_t (by simp [belowAt, hj, lk]))).2
    · have e3 : decide (n ≥ 0) = true := decide_eq_true h0
      have e4 : decide (n < (l.length : Int)) = false := decide_eq_false (by omega)
      repeat' (first | (simp -implicitDefEqProofs only [go_sem, ↓reduceIte, Nat.reduceEqDiff, Nat.reduceAdd, Nat.reduceSub, Nat.reduceMul, Nat.reduceLeDiff, Nat.reduceLT, reduceCtorEq, Int.reduceToNat, e1, e2, e3, e4, hlen]) | (with_reducible refine g_noent ?_) | (refine cdS (fun hg => ?_) (fun hg => ?_) <;> try simp -implicitDefEqProofs only [hg, Bool.not_true, Bool.not_false]) | (refine gdS (fun hg => ?_) (fun hg => ?_) <;> try simp -implicitDefEqProofs only [hg, Bool.not_true, Bool.not_false]) | (refine gddS (fun hg => ?_) (fun hg => ?_) <;> try simp -implicitDefEqProofs only [hg, Bool.not_true, Bool.not_false]) | ((with_reducible apply And.intro); focus (first | trivial | omega | decide | (simp -implicitDefEqProofs only [maxLen]; omega) | (simp [maxLen, sty_len, nd_len, ndL_len, lnL_len, intsL_len, rvs_len, lensS_len]; done) | (simp [maxLen, sty_len, nd_len, ndL_len, lnL_len, intsL_len, rvs_len, lensS_len]; omega))) | fail)
      exact (hK _ _ (ret_t (by simp [belowAt, hj, lk]))).2
    · have e3 : decide ((m : Int) ≥ 0) = true := decide_eq_true (by omega)
      have e4 : decide ((m : Int) < (l.length : Int)) = true := decide_eq_true (by omega)
      have hcall8 := sp_ref07_Above l k m (hs.wf.mono (by omega)) hm hb; repeat' (first | (simp -implicitDefEqProofs only [go_sem, ↓reduceIte, Nat.reduceEqDiff, Nat.reduceAdd, Nat.reduceSub, Nat.reduceMul, Nat.reduceLeDiff, Nat.reduceLT, reduceCtorEq, Int.reduceToNat, e1, e2, e3, e4, hlen]) | (with_reducible refine g_noent ?_) | (with_reducible refine g_call0 hcall8 ?_) | (with_reducible refine g_calld0 hcall8 ?_) | (refine cdS (fun hg => ?_) (fun hg => ?_) <;> try simp -implicitDefEqProofs only [hg, Bool.not_true, Bool.not_false]) | (refine gdS (fun hg => ?_) (fun hg => ?_) <;> try simp -implicitDefEqProofs only [hg, Bool.not_true, Bool.not_false]) | (refine gddS (fun hg => ?_) (fun hg => ?_) <;> try simp -implicitDefEqProofs only [hg, Bool.not_true, Bool.not_false]) | ((with_reducible apply And.intro); focus (first | trivial | omega | decide | (simp -implicitDefEqProofs only [maxLen]; omega) | (simp [maxLen, sty_len, nd_len, ndL_len, lnL_len, intsL_len, rvs_len, lensS_len]; done) | (simp [maxLen, sty_len, nd_len, ndL_len, lnL_len, intsL_len, rvs_len, lensS_len]; omega))) | fail)
      exact (hK _ _ (ret_t (by rw [below_eq hs hk hm]; rfl))).2

/-- One past the last of the first i nodes that is below n; 0 if there is none. -/
def lastTo (l : List Nd) (n : Int) (i : Nat) : Int := if inL l n = true ∧ n < i then (if (i : Int) < endAt l n then (i : Int) else endAt l n) else 0

theorem sp_ref08_End (l : List Nd) (hs : Shp l) (hb : l.length ≤ 8589934592) (n : Int) : CallR Go.Proofs.Try.prog 69 [.rv (.sl 49 (ndL l)), .rv (.int .i64 n)] [] [] (.rv (.int .i64 (endAt l n))) := by
  have hlen := ndL_len l
  refine callR_G k_decoupageref08_End [.rv (.sl 49 (ndL l)), .rv (.int .i64 n)] _ (by simp) (by simp [BkAll, bk_agg, bkAll_map, bk_rv, bk_fn, Sty.sv, Ln.sv, Nd.sv]) (fun K hK => ?_)
  simp -implicitDefEqProofs only [c_decoupageref08_End, hlen, go_sem, ↓reduceIte, Nat.reduceEqDiff, Nat.reduceAdd, Nat.reduceSub, Nat.reduceMul, Nat.reduceLeDiff, Nat.reduceLT, reduceCtorEq, Int.reduceToNat]
  have hend : ∀ k : Nat, n = k → k < l.length → endAt l n = endS l k ∧ k < endS l k ∧ endS l k ≤ l.length := fun k h1 h2 => by
    subst h1
    exact ⟨by simp [endAt, inL_of h2], (hs.end_gt h2).1, (hs.end_gt h2).2⟩
  refine g_loop (ι := Nat) (fun k => [(9, .rv (.int .i64 k)), (8, .rv (.int .i64 l.length)), (5, .rv (.int .i64 (lastTo l n k - 1))), (0, .rv (.sl 49 (ndL l))), (1, .rv (.int .i64 n))]) (fun k => []) (fun k => k ≤ l.length) (fun k => l.length - k) 0 (by simp) (ent_env (by
    have : lastTo l n 0 = 0 := by
      unfold lastTo
      rw [if_neg]
      rintro ⟨h1, h2⟩
      obtain ⟨k, rfl, _⟩ := inL_nat h1
      omega
    simp [lk, this])) (fun k hk K' hN hX hR => ?_)
  simp -implicitDefEqProofs only [go_sem, ↓reduceIte, Nat.reduceEqDiff, Nat.reduceAdd, Nat.reduceSub, Nat.reduceMul, Nat.reduceLeDiff, Nat.reduceLT, reduceCtorEq, Int.reduceToNat]
  refine cdS (fun hg => ?_) (fun hg => ?_)
  · have hk4 : k < l.length := by simp at hg; omega
    have wu := wrap_up (k := k) (by omega)
    have hbl := sp_ref08_Below l hs hb n k
    cases hbk : belowAt l n k with
    | true =>
      rw [hbk] at hbl
      have hcall9 := hbl; repeat' (first | (simp -implicitDefEqProofs only [go_sem, ↓reduceIte, Nat.reduceEqDiff, Nat.reduceAdd, Nat.reduceSub, Nat.reduceMul, Nat.reduceLeDiff, Nat.reduceLT, reduceCtorEq, Int.reduceToNat, wu]) | (with_reducible refine g_noent ?_) | (with_reducible refine g_call0 hcall9 ?_) | (with_reducible refine g_calld0 hcall9 ?_) | (refine cdS (fun hg => ?_) (fun hg => ?_) <;> try simp -implicitDefEqProofs only [hg, Bool.not_true, Bool.not_false]) | (refine gdS (fun hg => ?_) (fun hg => ?_) <;> try simp -implicitDefEqProofs only [hg, Bool.not_true, Bool.not_false]) | (refine gddS (fun hg => ?_) (fun hg => ?_) <;> try simp -implicitDefEqProofs only [hg, Bool.not_true, Bool.not_false]) | ((with_reducible apply And.intro); focus (first | trivial | omega | decide | (simp -implicitDefEqProofs only [maxLen]; omega) | (simp [maxLen, sty_len, nd_len, ndL_len, lnL_len, intsL_len, rvs_len, lensS_len]; done) | (simp [maxLen, sty_len, nd_len, ndL_len, lnL_len, intsL_len, rvs_len, lensS_len]; omega))) | fail)
      refine hN (k + 1) _ _ (by omega) (by omega) (ent_env ?_)
      have : lastTo l n (k + 1) = (k : Int) + 1 := by
        simp -implicitDefEqProofs only [belowAt, Bool.and_eq_true, decide_eq_true_eq] at hbk
        obtain ⟨⟨⟨q1, _⟩, q2⟩, q3⟩ := hbk
        unfold lastTo
        rw [if_pos ⟨q1, by omega⟩]
        split <;> omega
      simp [lk, this]
    | false =>
      rw [hbk] at hbl
      have hcall10 := hbl; repeat' (first | (simp -implicitDefEqProofs only [go_sem, ↓reduceIte, Nat.reduceEqDiff, Nat.reduceAdd, Nat.reduceSub, Nat.reduceMul, Nat.reduceLeDiff, Nat.reduceLT, reduceCtorEq, Int.reduceToNat, wu]) | (with_reducible refine g_noent ?_) | (with_reducible refine g_call0 hcall10 ?_) | (with_reducible refine g_calld0 hcall10 ?_) | (refine cdS (fun hg => ?_) (fun hg => ?_) <;> try simp -implicitDefEqProofs only [hg, Bool.not_true, Bool.not_false]) | (refine gdS (fun hg => ?_) (fun hg => ?_) <;> try simp -implicitDefEqProofs only [hg, Bool.not_true, Bool.not_false]) | (refine gddS (fun hg => ?_) (fun hg => ?_) <;> try simp -implicitDefEqProofs only [hg, Bool.not_true, Bool.not_false]) | ((with_reducible apply And.intro); focus (first | trivial | omega | decide | (simp -implicitDefEqProofs only [maxLen]; omega) | (simp [maxLen, sty_len, nd_len, ndL_len, lnL_len, intsL_len, rvs_len, lensS_len]; done) | (simp [maxLen, sty_len, nd_len, ndL_len, lnL_len, intsL_len, rvs_len, lensS_len]; omega))) | fail)
      refine hN (k + 1) _ _ (by omega) (by omega) (ent_env ?_)
      have : lastTo l n (k + 1) = lastTo l n k := by
        unfold lastTo
        cases hin : inL l n with
        | false => simp
        | true =>
          obtain ⟨m, hm1, hm2⟩ := inL_nat hin
          obtain ⟨g1, g2, g3⟩ := hend m hm1 hm2
          have hnb : ¬ ((k : Int) ≥ n ∧ (k : Int) < endAt l n) := fun ⟨a1, a2⟩ => by
            have : belowAt l n k = true := by
              simp -implicitDefEqProofs only [belowAt, hin, inL_of hk4, Bool.and_eq_true, decide_eq_true_eq]
              exact ⟨⟨⟨trivial, trivial⟩, a1⟩, a2⟩
            rw [hbk] at this; cases this
          simp -implicitDefEqProofs only [true_and]
          repeat' split
          all_goals omega
      simp [lk, this]
  · have hk4 : k = l.length := by simp at hg; omega
    subst hk4
    have hlast : lastTo l n l.length = endAt l n := by
      unfold lastTo
      cases hin : inL l n with
      | false => simp [endAt, hin]
      | true =>
        obtain ⟨m, hm1, hm2⟩ := inL_nat hin
        obtain ⟨g1, g2, g3⟩ := hend m hm1 hm2
        rw [if_pos ⟨rfl, by omega⟩]
        split <;> omega
    have hrange : 0 ≤ endAt l n ∧ endAt l n ≤ l.length := by
      cases hin : inL l n with
      | false => simp [endAt, hin]
      | true =>
        obtain ⟨m, hm1, hm2⟩ := inL_nat hin
        obtain ⟨g1, g2, g3⟩ := hend m hm1 hm2
        omega
    simp -implicitDefEqProofs only [go_sem, ↓reduceIte, Nat.reduceEqDiff, Nat.reduceAdd, Nat.reduceSub, Nat.reduceMul, Nat.reduceLeDiff, Nat.reduceLT, reduceCtorEq, Int.reduceToNat]
    refine hX _ _ _ ?_
    repeat' (first | (simp -implicitDefEqProofs only [go_sem, ↓reduceIte, Nat.reduceEqDiff, Nat.reduceAdd, Nat.reduceSub, Nat.reduceMul, Nat.reduceLeDiff, Nat.reduceLT, reduceCtorEq, Int.reduceToNat]) | (with_reducible refine g_noent ?_) | (refine cdS (fun hg => ?_) (fun hg => ?_) <;> try simp -implicitDefEqProofs only [hg, Bool.not_true, Bool.not_false]) | (refine gdS (fun hg => ?_) (fun hg => ?_) <;> try simp -implicitDefEqProofs only [hg, Bool.not_true, Bool.not_false]) | (refine gddS (fun hg => ?_) (fun hg => ?_) <;> try simp -implicitDefEqProofs only [hg, Bool.not_true, Bool.not_false]) | ((with_reducible apply And.intro); focus (first | trivial | omega | decide | (simp -implicitDefEqProofs only [maxLen]; omega) | (simp [maxLen, sty_len, nd_len, ndL_len, lnL_len, intsL_len, rvs_len, lensS_len]; done) | (simp [maxLen, sty_len, nd_len, ndL_len, lnL_len, intsL_len, rvs_len, lensS_len]; omega))) | fail)
    refine (hK _ _ (ret_t ?_)).2
    simp -implicitDefEqProofs only [lk, if_true, hlast]
    rw [wrap_i64 (by omega) (by omega)]
    congr 2; omega

theorem sp_ref08_Same (a b : List Int) (ha : a.length ≤ 8589934592) : CallR Go.Proofs.Try.prog 46 [.rv (.sl 1 (intsL a)), .rv (.sl 1 (intsL b))] [] [] (.rv (.bool (decide (a = b)))) := by
  refine callR_G k_decoupageref08_Same [.rv (.sl 1 (intsL a)), .rv (.sl 1 (intsL b))] _ (by simp) (by simp [BkAll, bk_agg, bkAll_map, bk_rv, bk_fn, Sty.sv, Ln.sv, Nd.sv]) (fun K hK => ?_)
  have hla := intsL_len a
  have hlb := intsL_len b
  simp -implicitDefEqProofs only [c_decoupageref08_Same, hla, hlb, go_sem, ↓reduceIte, Nat.reduceEqDiff, Nat.reduceAdd, Nat.reduceSub, Nat.reduceMul, Nat.reduceLeDiff, Nat.reduceLT, reduceCtorEq, Int.reduceToNat]
  by_cases hl : a.length = b.length
  · have e1 : (((a.length : Nat) : Int) != (b.length : Nat)) = false := by simp [hl]
    repeat' (first | (simp -implicitDefEqProofs only [go_sem, ↓reduceIte, Nat.reduceEqDiff, Nat.reduceAdd, Nat.reduceSub, Nat.reduceMul, Nat.reduceLeDiff, Nat.reduceLT, reduceCtorEq, Int.reduceToNat, e1, hla, hlb]) | (with_reducible refine g_noent ?_) | (refine cdS (fun hg => ?_) (fun hg => ?_) <;> try simp -implicitDefEqProofs only [hg, Bool.not_true, Bool.not_false]) | (refine gdS (fun hg => ?_) (fun hg => ?_) <;> try simp -implicitDefEqProofs only [hg, Bool.not_true, Bool.not_false]) | (refine gddS (fun hg => ?_) (fun hg => ?_) <;> try simp -implicitDefEqProofs only [hg, Bool.not_true, Bool.not_false]) | ((with_reducible apply And.intro); focus (first | trivial | omega | decide | (simp -implicitDefEqProofs only [maxLen]; omega) | (simp [maxLen, sty_len, nd_len, ndL_len, lnL_len, intsL_len, rvs_len, lensS_len]; done) | (simp [maxLen, sty_len, nd_len, ndL_len, lnL_len, intsL_len, rvs_len, lensS_len]; omega))) | fail)
    refine g_loop (ι := Nat) (fun k => [(13, .rv (.int .i64 k)), (12, .rv (.int .i64 a.length)), (0, .rv (.sl 1 (intsL a))), (1, .rv (.sl 1 (intsL b)))]) (fun k => []) (fun k => k ≤ a.length ∧ a.take k = b.take k) (fun k => a.length - k) 0 (by simp) (ent_env (by simp [lk])) (fun k hk K' hN hX hR => ?_)
    obtain ⟨hk1, hk2⟩ := hk
    simp -implicitDefEqProofs only [go_sem, ↓reduceIte, Nat.reduceEqDiff, Nat.reduceAdd, Nat.reduceSub, Nat.reduceMul, Nat.reduceLeDiff, Nat.reduceLT, reduceCtorEq, Int.reduceToNat]
    refine cdS (fun hg => ?_) (fun hg => ?_)
    · have hk4 : k < a.length := by simp at hg; omega
      have hk5 : k < b.length := by omega
      have hxa := intsL_get hk4
      have hxb := intsL_get hk5
      have wu := wrap_up (k := k) (by omega)
      repeat' (first | (simp -implicitDefEqProofs only [go_sem, ↓reduceIte, Nat.reduceEqDiff, Nat.reduceAdd, Nat.reduceSub, Nat.reduceMul, Nat.reduceLeDiff, Nat.reduceLT, reduceCtorEq, Int.reduceToNat, hxa, hxb, wu, hla, hlb]) | (with_reducible refine g_noent ?_) | (refine cdS (fun hg => ?_) (fun hg => ?_) <;> try simp -implicitDefEqProofs only [hg, Bool.not_true, Bool.not_false]) | (refine gdS (fun hg => ?_) (fun hg => ?_) <;> try simp -implicitDefEqProofs only [hg, Bool.not_true, Bool.not_false]) | (refine gddS (fun hg => ?_) (fun hg => ?_) <;> try simp -implicitDefEqProofs only [hg, Bool.not_true, Bool.not_false]) | ((with_reducible apply And.intro); focus (first | trivial | omega | decide | (simp -implicitDefEqProofs only [maxLen]; omega) | (simp [maxLen, sty_len, nd_len, ndL_len, lnL_len, intsL_len, rvs_len, lensS_len]; done) | (simp [maxLen, sty_len, nd_len, ndL_len, lnL_len, intsL_len, rvs_len, lensS_len]; omega))) | fail)
      · refine hR _ _ (hK _ _ (ret_t ?_)).2
        have : ¬ a = b := fun h => by subst h; simp at hg
        simp [this, lk]
      · refine hN (k + 1) _ _ ⟨by omega, ?_⟩ (by omega) (ent_env (by simp [lk]))
        rw [List.take_succ_eq_append_getElem hk4, List.take_succ_eq_append_getElem hk5, hk2]
        simp at hg; rw [hg]
    · have hk4 : k = a.length := by simp at hg; omega
      subst hk4
      simp -implicitDefEqProofs only [go_sem, ↓reduceIte, Nat.reduceEqDiff, Nat.reduceAdd, Nat.reduceSub, Nat.reduceMul, Nat.reduceLeDiff, Nat.reduceLT, reduceCtorEq, Int.reduceToNat]
      refine hX _ _ _ ?_
      repeat' (first | (simp -implicitDefEqProofs only [go_sem, ↓reduceIte, Nat.reduceEqDiff, Nat.reduceAdd, Nat.reduceSub, Nat.reduceMul, Nat.reduceLeDiff, Nat.reduceLT, reduceCtorEq, Int.reduceToNat]) | (with_reducible refine g_noent ?_) | (refine cdS (fun hg => ?_) (fun hg => ?_) <;> try simp -implicitDefEqProofs only [hg, Bool.not_true, Bool.not_false]) | (refine gdS (fun hg => ?_) (fun hg => ?_) <;> try simp -implicitDefEqProofs only [hg, Bool.not_true, Bool.not_false]) | (refine gddS (fun hg => ?_) (fun hg => ?_) <;> try simp -implicitDefEqProofs only [hg, Bool.not_true, Bool.not_false]) | ((with_reducible apply And.intro); focus (first | trivial | omega | decide | (simp -implicitDefEqProofs only [maxLen]; omega) | (simp [maxLen, sty_len, nd_len, ndL_len, lnL_len, intsL_len, rvs_len, lensS_len]; done) | (simp [maxLen, sty_len, nd_len, ndL_len, lnL_len, intsL_len, rvs_len, lensS_len]; omega))) | fail)
      refine (hK _ _ (ret_t ?_)).2
      have : a = b := by rw [List.take_length] at hk2; rw [hk2, hl, List.take_length]
      simp [this, lk]
  · have e1 : (((a.length : Nat) : Int) != (b.length : Nat)) = true := by simp; omega
    repeat' (first | (simp -implicitDefEqProofs only [go_sem, ↓reduceIte, Nat.reduceEqDiff, Nat.reduceAdd, Nat.reduceSub, Nat.reduceMul, Nat.reduceLeDiff, Nat.reduceLT, reduceCtorEq, Int.reduceToNat, e1, hla, hlb]) | (with_reducible refine g_noent ?_) | (refine cdS (fun hg => ?_) (fun hg => ?_) <;> try simp -implicitDefEqProofs only [hg, Bool.not_true, Bool.not_false]) | (refine gdS (fun hg => ?_) (fun hg => ?_) <;> try simp -implicitDefEqProofs only [hg, Bool.not_true, Bool.not_false]) | (refine gddS (fun hg => ?_) (fun hg => ?_) <;> try simp -implicitDefEqProofs only [hg, Bool.not_true, Bool.not_false]) | ((with_reducible apply And.intro); focus (first | trivial | omega | decide | (simp -implicitDefEqProofs only [maxLen]; omega) | (simp [maxLen, sty_len, nd_len, ndL_len, lnL_len, intsL_len, rvs_len, lensS_len]; done) | (simp [maxLen, sty_len, nd_len, ndL_len, lnL_len, intsL_len, rvs_len, lensS_len]; omega))) | fail)
    refine (hK _ _ (ret_t ?_)).2
    have : ¬ a = b := fun h => hl (by rw [h])
    simp [this, lk]
end Go.Eng

/- Ways up: the next one, the first that is such. -/
namespace Go.Eng
open Go
theorem up_zero {l : List Nd} (hs : Shp l) (n : Int) : parAt l n = atI (upAt l n) 0 := by
  cases hin : inL l n with
  | false => simp [parAt, upAt, hin, atI]
  | true =>
    obtain ⟨k, rfl, hk⟩ := inL_nat hin
    have := par_at hs.wf k hk 0 pth_pos
    obtain ⟨r, hr⟩ := pth_head (l := l) (n := k)
    simp -implicitDefEqProofs only [hr, List.getElem_cons_zero] at this
    simp -implicitDefEqProofs only [parAt, upAt, hin, if_true, Int.toNat_natCast, this, hr]
    simp [atI]
theorem up_next {l : List Nd} (hs : Shp l) (n : Int) {i : Nat} (hi : i < (upAt l n).length) : parAt l (atI (upAt l n) i) = atI (upAt l n) (i + 1) := by
  unfold upAt at hi ⊢
  split at hi
  · rename_i hin
    rw [if_pos hin]
    obtain ⟨k, rfl, hk⟩ := inL_nat hin
    simp -implicitDefEqProofs only [Int.toNat_natCast] at hi ⊢
    have hi2 : i + 1 < (pth l k).length := by simp at hi; omega
    have h1 : atI ((pth l k).drop 1) i = ((pth l k)[i + 1]'hi2 : Nat) := by
      unfold atI; rw [List.getElem?_drop, show 1 + i = i + 1 by omega, List.getElem?_eq_getElem hi2]
    have h2 : atI ((pth l k).drop 1) (i + 1) = atI (pth l k) (i + 1 + 1) := by
      unfold atI; rw [List.getElem?_drop, show 1 + (i + 1) = i + 1 + 1 by omega]
    rw [h1, h2, ← par_at hs.wf k hk (i + 1) hi2]
    have := pth_lt hk hi2
    simp [parAt, inL_of this]
  · simp at hi
theorem up_len (l : List Nd) (n : Int) : (upAt l n).length ≤ l.length := by
  unfold upAt; split
  · rename_i hin
    obtain ⟨k, rfl, hk⟩ := inL_nat hin
    have := pth_len (l := l) k
    simp; omega
  · simp
theorem atI_ne {p : List Nat} {i : Nat} : (atI p i != -1) = decide (i < p.length) := by
  by_cases h : i < p.length
  · rw [atI_lt h, decide_eq_true h]; simp
  · rw [atI_ge (by omega), decide_eq_false h]; rfl
theorem up_made {l : List Nd} (hs : Shp l) {n : Int} (hm : madeAt l n = true) {i : Nat} (hi : i < (upAt l n).length) : madeAt l (atI (upAt l n) i) = true := by
  rw [atI_lt hi]
  have hin : inL l n = true := by simp [madeAt] at hm; exact hm.1
  obtain ⟨k, rfl, hk⟩ := inL_nat hin
  have hx : upAt l k = (pth l k).drop 1 := by simp [upAt, hin]
  simp -implicitDefEqProofs only [hx] at hi ⊢
  simp -implicitDefEqProofs only [List.getElem_drop]
  have hi2 : 1 + i < (pth l k).length := by simp at hi; omega
  have hlt := pth_lt hk hi2
  have hall : (pth l k).all (shownL l) = true := by simp [madeAt] at hm; exact hm.2
  have := pth_drop (l := l) k (1 + i) hi2
  simp -implicitDefEqProofs only [madeAt, inL_of hlt, Bool.true_and, Int.toNat_natCast, madeS, ← this]
  rw [List.all_eq_true] at hall ⊢
  exact fun x hx => hall x (List.mem_of_mem_drop hx)

theorem nats_ln (xs : List Nat) : (intsL (natsI xs)).length = xs.length := by simp [intsL, natsI]
theorem nats_at {xs : List Nat} {i : Nat} (h : i < xs.length) : (intsL (natsI xs))[i]?.getD [] = [.int .i64 (atI xs i)] := by
  rw [intsL_get (by rw [natsI_len]; exact h), atI_lt h]; simp [natsI]
/-- The first of them that is such, or none. -/
def fstI (p : Int → Bool) (xs : List Nat) : Int := match xs.find? (fun (m : Nat) => p m) with
  | some k => k
  | none => -1
theorem fst_hit {p : Int → Bool} {xs : List Nat} {i : Nat} (h : i < xs.length) (he : fstI p (xs.drop i) = fstI p xs) (hp : p (atI xs i) = true) : fstI p xs = atI xs i := by
  rw [← he, atI_lt h, List.drop_eq_getElem_cons h]
  rw [atI_lt h] at hp
  simp -implicitDefEqProofs only [fstI, List.find?_cons, hp]
theorem fst_miss {p : Int → Bool} {xs : List Nat} {i : Nat} (h : i < xs.length) (he : fstI p (xs.drop i) = fstI p xs) (hp : p (atI xs i) = false) : fstI p (xs.drop (i + 1)) = fstI p xs := by
  rw [← he, List.drop_eq_getElem_cons h]
  rw [atI_lt h] at hp
  simp -implicitDefEqProofs only [fstI, List.find?_cons, hp]
theorem fst_end {p : Int → Bool} {xs : List Nat} {i : Nat} (h : xs.length ≤ i) (he : fstI p (xs.drop i) = fstI p xs) : fstI p xs = -1 := by
  rw [← he, List.drop_of_length_le h]; rfl
theorem fst_cases (p : Int → Bool) (xs : List Nat) : fstI p xs = -1 ∧ (∀ x ∈ xs, p (x : Nat) = false) ∨ ∃ i, ∃ h : i < xs.length, fstI p xs = (xs[i] : Nat) ∧ p (xs[i] : Nat) = true ∧ ∀ j, (h : j < i) → p (xs[j] : Nat) = false := by
  unfold fstI
  cases hf : xs.find? (fun (m : Nat) => p m) with
  | none => left; refine ⟨rfl, fun x hx => ?_⟩; have := List.find?_eq_none.1 hf x hx; simpa using this
  | some k =>
    right
    obtain ⟨hp, a, b, hab, hn⟩ := List.find?_eq_some_iff_append.1 hf
    subst hab
    refine ⟨a.length, by simp, by simp, by simpa using hp, fun j hj => ?_⟩
    have := hn (a[j]) (List.getElem_mem hj)
    rw [List.getElem_append_left hj]
    simpa using this
theorem up_below {l : List Nd} (hs : Shp l) {n : Int} {x : Nat} (hx : x ∈ upAt l n) : belowAt l x n = true ∧ (x : Int) ≠ n ∧ x < l.length := by
  unfold upAt at hx
  split at hx
  · rename_i hin
    obtain ⟨k, rfl, hk⟩ := inL_nat hin
    simp -implicitDefEqProofs only [Int.toNat_natCast] at hx
    have hm := List.mem_of_mem_drop hx
    have hle := pth_le _ _ hm
    have hxl : x < l.length := by omega
    obtain ⟨h1, h2⟩ := (hs.below hxl hk).1 hm
    refine ⟨by simp [belowAt, hin, inL_of hxl, endAt, h1, h2], ?_, hxl⟩
    by_cases hp : 0 ≤ parL l k ∧ parL l k < k
    · rw [pth_cons hp] at hx
      simp -implicitDefEqProofs only [List.drop_succ_cons, List.drop_zero] at hx
      have := pth_le _ _ hx
      omega
    · rw [pth_one hp] at hx; simp at hx
  · simp at hx
end Go.Eng

/- hold: what holds a box. -/
namespace Go.Eng
open Go
/- decoupage/hold.Positioned -/
def c_hold_Positioned : AC := (.seq (.reg [⟨(some 4), .mv, [(.c (.rv (.bool false)))], none⟩]) (.seq (.reg [⟨(some 5), .mv, [(.t 0)], none⟩, ⟨(some 6), .mv, [(.t 1)], none⟩, ⟨(some 7), (.call 30), [(.t 5), (.t 6)], none⟩, ⟨(some 8), .mv, [(.t 7)], none⟩, ⟨(some 9), .mv, [(.t 1)], (some (8, true))⟩, ⟨(some 10), (.ibin .gtr), [(.t 9), (.c (.rv (.int .i64 0)))], (some (8, true))⟩, ⟨(some 11), .pick, [(.t 8), (.t 10), (.c (.rv (.bool false)))], none⟩, ⟨(some 12), .mv, [(.t 11)], none⟩, ⟨(some 13), .mv, [(.t 0)], (some (12, true))⟩, ⟨(some 14), .mv, [(.t 1)], (some (12, true))⟩, ⟨(some 15), (.call 26), [(.t 13), (.t 14)], (some (12, true))⟩, ⟨(some 16), (.fldv 1 1 false), [(.t 15)], (some (12, true))⟩, ⟨(some 17), (.ibin .neq), [(.t 16), (.c (.rv (.int .i64 0)))], (some (12, true))⟩, ⟨(some 18), .pick, [(.t 12), (.t 17), (.c (.rv (.bool false)))], none⟩, ⟨(some 4), .mv, [(.t 18)], none⟩]) .ret))
theorem k_hold_Positioned : FnOK Go.Proofs.Try.prog 35 19 c_hold_Positioned [(.t 4)] := fnOK_of (by kernel_rfl)

/- decoupage/hold.Of -/
def c_hold_Of : AC := (.seq (.reg [⟨(some 4), .mv, [(.c (.rv (.int .i64 0)))], none⟩]) (.seq (.seq (.block 0 (.seq (.reg [⟨(some 7), .mv, [(.t 0)], none⟩, ⟨(some 8), .mv, [(.t 1)], none⟩, ⟨(some 9), (.call 30), [(.t 7), (.t 8)], none⟩, ⟨(some 10), .not, [(.t 9)], none⟩, ⟨(some 6), .mv, [(.t 10)], none⟩]) (.cond (.t 6) (.seq (.reg [⟨(some 4), .mv, [(.c (.rv (.int .i64 (-1))))], none⟩]) .ret) (.seq (.reg [⟨(some 12), .mv, [(.t 0)], none⟩, ⟨(some 13), .mv, [(.t 1)], none⟩, ⟨(some 14), (.call 31), [(.t 12), (.t 13)], none⟩, ⟨(some 15), .not, [(.t 14)], none⟩, ⟨(some 11), .mv, [(.t 15)], none⟩]) (.cond (.t 11) (.seq (.reg [⟨(some 16), .mv, [(.t 0)], none⟩, ⟨(some 17), .mv, [(.t 1)], none⟩, ⟨(some 18), (.call 25), [(.t 16), (.t 17)], none⟩, ⟨(some 4), .mv, [(.t 18)], none⟩]) .ret) (.seq (.reg [⟨(some 20), .mv, [(.t 0)], none⟩, ⟨(some 21), .mv, [(.t 1)], none⟩, ⟨(some 22), (.call 26), [(.t 20), (.t 21)], none⟩, ⟨(some 23), (.fldv 1 1 false), [(.t 22)], none⟩, ⟨(some 24), (.ibin .eql), [(.t 23), (.c (.rv (.int .i64 3)))], none⟩, ⟨(some 19), .mv, [(.t 24)], none⟩]) (.cond (.t 19) (.seq (.reg [⟨(some 4), .mv, [(.c (.rv (.int .i64 (-1))))], none⟩]) .ret) .skip))))))) .ent) (.seq (.seq (.reg [⟨(some 25), .mv, [(.t 0)], none⟩, ⟨(some 26), .mv, [(.t 1)], none⟩, ⟨(some 27), (.call 25), [(.t 25), (.t 26)], none⟩, ⟨(some 5), .mv, [(.t 27)], none⟩]) (.seq (.block 1 (.loop (.seq (.seq (.reg [⟨(some 28), .mv, [(.t 5)], none⟩, ⟨(some 29), (.ibin .neq), [(.t 28), (.c (.rv (.int .i64 (-1))))], none⟩]) (.cond (.t 29) .skip (.exit 1))) (.seq (.seq (.block 2 (.seq (.reg [⟨(some 33), .mv, [(.t 0)], none⟩, ⟨(some 34), .mv, [(.t 5)], none⟩, ⟨(some 35), (.call 35), [(.t 33), (.t 34)], none⟩]) (.cond (.t 35) (.seq (.reg [⟨(some 36), .mv, [(.t 5)], none⟩, ⟨(some 4), .mv, [(.t 36)], none⟩]) .ret) .skip))) .ent) (.reg [⟨(some 30), .mv, [(.t 0)], none⟩, ⟨(some 31), .mv, [(.t 5)], none⟩, ⟨(some 32), (.call 25), [(.t 30), (.t 31)], none⟩, ⟨(some 5), .mv, [(.t 32)], none⟩]))))) .ent)) (.seq (.reg [⟨(some 4), .mv, [(.c (.rv (.int .i64 (-1))))], none⟩]) .ret))))
theorem k_hold_Of : FnOK Go.Proofs.Try.prog 33 37 c_hold_Of [(.t 4)] := fnOK_of (by kernel_rfl)

/- decoupage/decoupageref18.Positioned -/
def c_decoupageref18_Positioned : AC := (.seq (.reg [⟨(some 4), .mv, [(.c (.rv (.bool false)))], none⟩]) (.seq (.reg [⟨(some 5), .mv, [(.t 1)], none⟩, ⟨(some 6), (.ibin .gtr), [(.t 5), (.c (.rv (.int .i64 0)))], none⟩, ⟨(some 7), .mv, [(.t 6)], none⟩, ⟨(some 8), .mv, [(.t 0)], (some (7, true))⟩, ⟨(some 9), .mv, [(.t 1)], (some (7, true))⟩, ⟨(some 10), (.call 60), [(.t 8), (.t 9)], (some (7, true))⟩, ⟨(some 11), .pick, [(.t 7), (.t 10), (.c (.rv (.bool false)))], none⟩, ⟨(some 12), .mv, [(.t 11)], none⟩, ⟨(some 13), .mv, [(.t 0)], (some (12, true))⟩, ⟨(some 14), .mv, [(.t 1)], (some (12, true))⟩, ⟨(some 15), (.ixs 49), [(.t 13), (.t 14)], (some (12, true))⟩, ⟨(some 16), (.fld 0), [(.t 15)], (some (12, true))⟩, ⟨(some 17), (.fld 1), [(.t 16)], (some (12, true))⟩, ⟨(some 18), (.load 1 false), [(.t 17)], (some (12, true))⟩, ⟨(some 19), (.ibin .neq), [(.t 18), (.c (.rv (.int .i64 0)))], (some (12, true))⟩, ⟨(some 20), .pick, [(.t 12), (.t 19), (.c (.rv (.bool false)))], none⟩, ⟨(some 4), .mv, [(.t 20)], none⟩]) .ret))
theorem k_decoupageref18_Positioned : FnOK Go.Proofs.Try.prog 36 21 c_decoupageref18_Positioned [(.t 4)] := fnOK_of (by kernel_rfl)

/- decoupage/decoupageref18.Of -/
def c_decoupageref18_Of : AC := (.seq (.reg [⟨(some 4), .mv, [(.c (.rv (.int .i64 0)))], none⟩]) (.seq (.seq (.reg [⟨(some 7), .mv, [(.t 1)], none⟩, ⟨(some 8), (.ibin .leq), [(.t 7), (.c (.rv (.int .i64 0)))], none⟩, ⟨(some 9), .mv, [(.t 8)], none⟩, ⟨(some 10), .mv, [(.t 0)], (some (9, false))⟩, ⟨(some 11), .mv, [(.t 1)], (some (9, false))⟩, ⟨(some 12), (.call 60), [(.t 10), (.t 11)], (some (9, false))⟩, ⟨(some 13), .not, [(.t 12)], (some (9, false))⟩, ⟨(some 14), .pick, [(.t 9), (.c (.rv (.bool true))), (.t 13)], none⟩]) (.cond (.t 14) (.seq (.reg [⟨(some 4), .mv, [(.c (.rv (.int .i64 (-1))))], none⟩]) .ret) .skip)) (.seq (.reg [⟨(some 15), .mv, [(.t 0)], none⟩, ⟨(some 16), .mv, [(.t 1)], none⟩, ⟨(some 17), (.call 72), [(.t 15), (.t 16)], none⟩, ⟨(some 5), .mv, [(.t 17)], none⟩]) (.seq (.seq (.reg [⟨(some 18), .mv, [(.t 0)], none⟩, ⟨(some 19), .mv, [(.t 1)], none⟩, ⟨(some 20), (.ixs 49), [(.t 18), (.t 19)], none⟩, ⟨(some 21), (.fld 0), [(.t 20)], none⟩, ⟨(some 22), (.fld 1), [(.t 21)], none⟩, ⟨(some 23), (.load 1 false), [(.t 22)], none⟩, ⟨(some 24), (.ibin .lss), [(.t 23), (.c (.rv (.int .i64 2)))], none⟩]) (.cond (.t 24) (.seq (.reg [⟨(some 25), .mv, [(.t 5)], none⟩, ⟨(some 26), (.ixs 1), [(.t 25), (.c (.rv (.int .i64 0)))], none⟩, ⟨(some 27), (.load 1 false), [(.t 26)], none⟩, ⟨(some 4), .mv, [(.t 27)], none⟩]) .ret) .skip)) (.seq (.seq (.reg [⟨(some 28), .mv, [(.t 5)], none⟩, ⟨(some 29), .len, [(.t 28)], none⟩, ⟨(some 30), .mv, [(.c (.rv (.int .i64 0)))], none⟩]) (.seq (.block 0 (.loop (.seq (.reg [⟨(some 31), (.ibin .lss), [(.t 30), (.t 29)], none⟩]) (.seq (.cond (.t 31) .skip (.exit 0)) (.seq (.seq (.block 1 (.seq (.reg [⟨(some 32), .mv, [(.t 30)], none⟩, ⟨(some 6), .mv, [(.t 32)], none⟩]) (.seq (.reg [⟨(some 33), .mv, [(.t 0)], none⟩, ⟨(some 34), .mv, [(.t 1)], none⟩, ⟨(some 35), (.ixs 49), [(.t 33), (.t 34)], none⟩, ⟨(some 36), (.fld 0), [(.t 35)], none⟩, ⟨(some 37), (.fld 1), [(.t 36)], none⟩, ⟨(some 38), (.load 1 false), [(.t 37)], none⟩, ⟨(some 39), (.ibin .eql), [(.t 38), (.c (.rv (.int .i64 2)))], none⟩, ⟨(some 40), .mv, [(.t 39)], none⟩, ⟨(some 41), .mv, [(.t 0)], (some (40, true))⟩, ⟨(some 42), .mv, [(.t 5)], (some (40, true))⟩, ⟨(some 43), .mv, [(.t 6)], (some (40, true))⟩, ⟨(some 44), (.ixs 1), [(.t 42), (.t 43)], (some (40, true))⟩, ⟨(some 45), (.load 1 false), [(.t 44)], (some (40, true))⟩, ⟨(some 46), (.call 36), [(.t 41), (.t 45)], (some (40, true))⟩, ⟨(some 47), .pick, [(.t 40), (.t 46), (.c (.rv (.bool false)))], none⟩]) (.cond (.t 47) (.seq (.reg [⟨(some 48), .mv, [(.t 5)], none⟩, ⟨(some 49), .mv, [(.t 6)], none⟩, ⟨(some 50), (.ixs 1), [(.t 48), (.t 49)], none⟩, ⟨(some 51), (.load 1 false), [(.t 50)], none⟩, ⟨(some 4), .mv, [(.t 51)], none⟩]) .ret) .skip)))) .ent) (.reg [⟨(some 52), (.ibin .add), [(.t 30), (.c (.rv (.int .i64 1)))], none⟩, ⟨(some 30), .mv, [(.t 52)], none⟩])))))) .ent)) (.seq (.reg [⟨(some 4), .mv, [(.c (.rv (.int .i64 (-1))))], none⟩]) .ret))))))
theorem k_decoupageref18_Of : FnOK Go.Proofs.Try.prog 34 53 c_decoupageref18_Of [(.t 4)] := fnOK_of (by kernel_rfl)


def posAt (l : List Nd) (n : Int) : Bool := madeAt l n && decide (n > 0) && ((styAt l n).position != 0)
def holdAt (l : List Nd) (n : Int) : Int := if madeAt l n = false then -1 else if outAt l n = false then parAt l n else if (styAt l n).position = 3 then -1 else fstI (posAt l) (upAt l n)

theorem sp_Positioned (l : List Nd) (n : Int) : CallR Go.Proofs.Try.prog 35 [.rv (kinV l), .rv (.int .i64 n)] [] [] (.rv (.bool (posAt l n))) := by
  refine callR_G k_hold_Positioned [.rv (kinV l), .rv (.int .i64 n)] _ (by simp) (by simp [BkAll, bk_agg, bkAll_map, bk_rv, bk_fn, Sty.sv, Ln.sv, Nd.sv]) (fun K hK => ?_)
  have hm := sp_Made l n
  have hst := sp_Style l n
  simp -implicitDefEqProofs only [c_hold_Positioned, go_sem, ↓reduceIte, Nat.reduceEqDiff, Nat.reduceAdd, Nat.reduceSub, Nat.reduceMul, Nat.reduceLeDiff, Nat.reduceLT, reduceCtorEq, Int.reduceToNat]
  cases hi : madeAt l n with
  | false =>
    rw [hi] at hm
    have hcall1 := hm; repeat' (first | (simp -implicitDefEqProofs only [go_sem, ↓reduceIte, Nat.reduceEqDiff, Nat.reduceAdd, Nat.reduceSub, Nat.reduceMul, Nat.reduceLeDiff, Nat.reduceLT, reduceCtorEq, Int.reduceToNat]) | (with_reducible refine g_noent ?_) | (with_reducible refine g_call0 hcall1 ?_) | (with_reducible refine g_calld0 hcall1 ?_) | (refine cdS (fun hg => ?_) (fun hg => ?_) <;> try simp -implicitDefEqProofs only [hg, Bool.not_true, Bool.not_false]) | (refine gdS (fun hg => ?_) (fun hg => ?_) <;> try simp -implicitDefEqProofs only [hg, Bool.not_true, Bool.not_false]) | (refine gddS (fun hg => ?_) (fun hg => ?_) <;> try simp -implicitDefEqProofs only [hg, Bool.not_true, Bool.not_false]) | ((with_reducible apply And.intro); focus (first | trivial | omega | decide | (simp -implicitDefEqProofs only [maxLen]; omega) | (simp [maxLen, sty_len, nd_len, ndL_len, lnL_len, intsL_len, rvs_len, lensS_len]; done) | (simp [maxLen, sty_len, nd_len, ndL_len, lnL_len, intsL_len, rvs_len, lensS_len]; omega))) | fail)
    exact (hK _ _ (ret_t (by simp [posAt, hi, lk]))).2
  | true =>
    rw [hi] at hm
    by_cases h0 : n > 0
    · have e1 : decide (n > 0) = true := decide_eq_true h0
      have hcall2 := hm; have hcall3 := hst; repeat' (first | (simp -implicitDefEqProofs only [go_sem, ↓reduceIte, Nat.reduceEqDiff, Nat.reduceAdd, Nat.reduceSub, Nat.reduceMul, Nat.reduceLeDiff, Nat.reduceLT, reduceCtorEq, Int.reduceToNat, e1, sty_at1]) | (with_reducible refine g_noent ?_) | (with_reducible refine g_call0 hcall2 ?_) | (with_reducible refine g_calld0 hcall2 ?_) | (with_reducible refine g_call0 hcall3 ?_) | (with_reducible refine g_calld0 hcall3 ?_) | (refine cdS (fun hg => ?_) (fun hg => ?_) <;> try simp -implicitDefEqProofs only [hg, Bool.not_true, Bool.not_false]) | (refine gdS (fun hg => ?_) (fun hg => ?_) <;> try simp -implicitDefEqProofs only [hg, Bool.not_true, Bool.not_false]) | (refine gddS (fun hg => ?_) (fun hg => ?_) <;> try simp -implicitDefEqProofs only [hg, Bool.not_true, Bool.not_false]) | ((with_reducible apply And.intro); focus (first | trivial | omega | decide | (simp -implicitDefEqProofs only [maxLen]; omega) | (simp [maxLen, sty_len, nd_len, ndL_len, lnL_len, intsL_len, rvs_len, lensS_len]; done) | (simp [maxLen, sty_len, nd_len, ndL_len, lnL_len, intsL_len, rvs_len, lensS_len]; omega))) | fail)
      exact (hK _ _ (ret_t (by simp [posAt, hi, lk, h0]))).2
    · have e1 : decide (n > 0) = false := decide_eq_false h0
      have hcall4 := hm; have hcall5 := hst; repeat' (first | (simp -implicitDefEqProofs only [go_sem, ↓reduceIte, Nat.reduceEqDiff, Nat.reduceAdd, Nat.reduceSub, Nat.reduceMul, Nat.reduceLeDiff, Nat.reduceLT, reduceCtorEq, Int.reduceToNat, e1, sty_at1]) | (with_reducible refine g_noent ?_) | (with_reducible refine g_call0 hcall4 ?_) | (with_reducible refine g_calld0 hcall4 ?_) | (with_reducible refine g_call0 hcall5 ?_) | (with_reducible refine g_calld0 hcall5 ?_) | (refine cdS (fun hg => ?_) (fun hg => ?_) <;> try simp -implicitDefEqProofs only [hg, Bool.not_true, Bool.not_false]) | (refine gdS (fun hg => ?_) (fun hg => ?_) <;> try simp -implicitDefEqProofs only [hg, Bool.not_true, Bool.not_false]) | (refine gddS (fun hg => ?_) (fun hg => ?_) <;> try simp -implicitDefEqProofs only [hg, Bool.not_true, Bool.not_false]) | ((with_reducible apply And.intro); focus (first | trivial | omega | decide | (simp -implicitDefEqProofs only [maxLen]; omega) | (simp [maxLen, sty_len, nd_len, ndL_len, lnL_len, intsL_len, rvs_len, lensS_len]; done) | (simp [maxLen, sty_len, nd_len, ndL_len, lnL_len, intsL_len, rvs_len, lensS_len]; omega))) | fail)
      exact (hK _ _ (ret_t (by simp [posAt, hi, lk, h0]))).2

theorem sp_Of (l : List Nd) (hs : Shp l) (n : Int) : CallR Go.Proofs.Try.prog 33 [.rv (kinV l), .rv (.int .i64 n)] [] [] (.rv (.int .i64 (holdAt l n))) := by
  refine callR_G k_hold_Of [.rv (kinV l), .rv (.int .i64 n)] _ (by simp) (by simp [BkAll, bk_agg, bkAll_map, bk_rv, bk_fn, Sty.sv, Ln.sv, Nd.sv]) (fun K hK => ?_)
  have hm := sp_Made l n
  have ho := sp_Out l n
  have hst := sp_Style l n
  have hpar := sp_Parent l n
  simp -implicitDefEqProofs only [c_hold_Of, go_sem, ↓reduceIte, Nat.reduceEqDiff, Nat.reduceAdd, Nat.reduceSub, Nat.reduceMul, Nat.reduceLeDiff, Nat.reduceLT, reduceCtorEq, Int.reduceToNat]
  cases hmm : madeAt l n with
  | false =>
    rw [hmm] at hm
    have hcall6 := hm; repeat' (first | (simp -implicitDefEqProofs only [go_sem, ↓reduceIte, Nat.reduceEqDiff, Nat.reduceAdd, Nat.reduceSub, Nat.reduceMul, Nat.reduceLeDiff, Nat.reduceLT, reduceCtorEq, Int.reduceToNat]) | (with_reducible refine g_noent ?_) | (with_reducible refine g_call0 hcall6 ?_) | (with_reducible refine g_calld0 hcall6 ?_) | (refine cdS (fun hg => ?_) (fun hg => ?_) <;> try simp -implicitDefEqProofs only [hg, Bool.not_true, Bool.not_false]) | (refine gdS (fun hg => ?_) (fun hg => ?_) <;> try simp -implicitDefEqProofs only [hg, Bool.not_true, Bool.not_false]) | (refine gddS (fun hg => ?_) (fun hg => ?_) <;> try simp -implicitDefEqProofs only [hg, Bool.not_true, Bool.not_false]) | ((with_reducible apply And.intro); focus (first | trivial | omega | decide | (simp -implicitDefEqProofs only [maxLen]; omega) | (simp [maxLen, sty_len, nd_len, ndL_len, lnL_len, intsL_len, rvs_len, lensS_len]; done) | (simp [maxLen, sty_len, nd_len, ndL_len, lnL_len, intsL_len, rvs_len, lensS_len]; omega))) | fail)
    exact (hK _ _ (ret_t (by simp [holdAt, hmm, lk]))).2
  | true =>
    rw [hmm] at hm
    cases hoo : outAt l n with
    | false =>
      rw [hoo] at ho
      have hcall7 := hm; have hcall8 := ho; have hcall9 := hpar; repeat' (first | (simp -implicitDefEqProofs only [go_sem, ↓reduceIte, Nat.reduceEqDiff, Nat.reduceAdd, Nat.reduceSub, Nat.reduceMul, Nat.reduceLeDiff, Nat.reduceLT, reduceCtorEq, Int.reduceToNat]) | (with_reducible refine g_noent ?_) | (with_reducible refine g_call0 hcall7 ?_) | (with_reducible refine g_calld0 hcall7 ?_) | (with_reducible refine g_call0 hcall8 ?_) | (with_reducible refine g_calld0 hcall8 ?_) | (with_reducible refine g_call0 hcall9 ?_) | (with_reducible refine g_calld0 hcall9 ?_) | (refine cdS (fun hg => ?_) (fun hg => ?_) <;> try simp -implicitDefEqProofs only [hg, Bool.not_true, Bool.not_false]) | (refine gdS (fun hg => ?_) (fun hg => ?_) <;> try simp -implicitDefEqProofs only [hg, Bool.not_true, Bool.not_false]) | (refine gddS (fun hg => ?_) (fun hg => ?_) <;> try simp -implicitDefEqProofs only [hg, Bool.not_true, Bool.not_false]) | ((with_reducible apply And.intro); focus (first | trivial | omega | decide | (simp -implicitDefEqProofs only [maxLen]; omega) | (simp [maxLen, sty_len, nd_len, ndL_len, lnL_len, intsL_len, rvs_len, lensS_len]; done) | (simp [maxLen, sty_len, nd_len, ndL_len, lnL_len, intsL_len, rvs_len, lensS_len]; omega))) | fail)
      exact (hK _ _ (ret_t (by simp [holdAt, hmm, hoo, lk]))).2
    | true =>
      rw [hoo] at ho
      by_cases h3 : (styAt l n).position = 3
      · have e3 : ((styAt l n).position == 3) = true := by simp [h3]
        have hcall10 := hm; have hcall11 := ho; have hcall12 := hst; repeat' (first | (simp -implicitDefEqProofs only [go_sem, ↓reduceIte, Nat.reduceEqDiff, Nat.reduceAdd, Nat.reduceSub, Nat.reduceMul, Nat.reduceLeDiff, Nat.reduceLT, reduceCtorEq, Int.reduceToNat, sty_at1, e3]) | (with_reducible refine g_noent ?_) | (with_reducible refine g_call0 hcall10 ?_) | (with_reducible refine g_calld0 hcall10 ?_) | (with_reducible refine g_call0 hcall11 ?_) | (with_reducible refine g_calld0 hcall11 ?_) | (with_reducible refine g_call0 hcall12 ?_) | (with_reducible refine g_calld0 hcall12 ?_) | (refine cdS (fun hg => ?_) (fun hg => ?_) <;> try simp -implicitDefEqProofs only [hg, Bool.not_true, Bool.not_false]) | (refine gdS (fun hg => ?_) (fun hg => ?_) <;> try simp -implicitDefEqProofs only [hg, Bool.not_true, Bool.not_false]) | (refine gddS (fun hg => ?_) (fun hg => ?_) <;> try simp -implicitDefEqProofs only [hg, Bool.not_true, Bool.not_false]) | ((with_reducible apply And.intro); focus (first | trivial | omega | decide | (simp -implicitDefEqProofs only [maxLen]; omega) | (simp [maxLen, sty_len, nd_len, ndL_len, lnL_len, intsL_len, rvs_len, lensS_len]; done) | (simp [maxLen, sty_len, nd_len, ndL_len, lnL_len, intsL_len, rvs_len, lensS_len]; omega))) | fail)
        exact (hK _ _ (ret_t (by simp [holdAt, hmm, hoo, h3, lk]))).2
      · have e3 : ((styAt l n).position == 3) = false := by simp [h3]
        have hv : holdAt l n = fstI (posAt l) (upAt l n) := by simp [holdAt, hmm, hoo, h3]
        rw [hv] at hK
        have hcall13 := hm; have hcall14 := ho; have hcall15 := hst; have hcall16 := hpar; repeat' (first | (simp -implicitDefEqProofs only [go_sem, ↓reduceIte, Nat.reduceEqDiff, Nat.reduceAdd, Nat.reduceSub, Nat.reduceMul, Nat.reduceLeDiff, Nat.reduceLT, reduceCtorEq, Int.reduceToNat, sty_at1, e3]) | (with_reducible refine g_noent ?_) | (with_reducible refine g_call0 hcall13 ?_) | (with_reducible refine g_calld0 hcall13 ?_) | (with_reducible refine g_call0 hcall14 ?_) | (with_reducible refine g_calld0 hcall14 ?_) | (with_reducible refine g_call0 hcall15 ?_) | (with_reducible refine g_calld0 hcall15 ?_) | (with_reducible refine g_call0 hcall16 ?_) | (with_reducible refine g_calld0 hcall16 ?_) | (refine cdS (fun hg => ?_) (fun hg => ?_) <;> try simp -implicitDefEqProofs only [hg, Bool.not_true, Bool.not_false]) | (refine gdS (fun hg => ?_) (fun hg => ?_) <;> try simp -implicitDefEqProofs only [hg, Bool.not_true, Bool.not_false]) | (refine gddS (fun hg => ?_) (fun hg => ?_) <;> try simp -implicitDefEqProofs only [hg, Bool.not_true, Bool.not_false]) | ((with_reducible apply And.intro); focus (first | trivial | omega | decide | (simp -implicitDefEqProofs only [maxLen]; omega) | (simp [maxLen, sty_len, nd_len, ndL_len, lnL_len, intsL_len, rvs_len, lensS_len]; done) | (simp [maxLen, sty_len, nd_len, ndL_len, lnL_len, intsL_len, rvs_len, lensS_len]; omega))) | fail)
        refine g_loop (ι := Nat) (fun i => [(5, .rv (.int .i64 (atI (upAt l n) i))), (0, .rv (kinV l))]) (fun _ => []) (fun i => i ≤ (upAt l n).length ∧ fstI (posAt l) ((upAt l n).drop i) = fstI (posAt l) (upAt l n)) (fun i => (upAt l n).length - i) 0 (by simp) (by rw [up_zero hs]; exact ent_env (by simp [lk])) (fun i hi' K' hN hX hR => ?_)
        obtain ⟨hi1, hi2⟩ := hi'
        simp -implicitDefEqProofs only [go_sem, ↓reduceIte, Nat.reduceEqDiff, Nat.reduceAdd, Nat.reduceSub, Nat.reduceMul, Nat.reduceLeDiff, Nat.reduceLT, reduceCtorEq, Int.reduceToNat, atI_ne]
        refine cdS (fun hg => ?_) (fun hg => ?_)
        · have hil : i < (upAt l n).length := of_decide_eq_true hg
          have hp := sp_Positioned l (atI (upAt l n) i)
          have hnx := up_next hs n hil
          have hcall := sp_Parent l (atI (upAt l n) i)
          rw [hnx] at hcall
          cases hb : posAt l (atI (upAt l n) i) with
          | true =>
            rw [hb] at hp
            have hcall17 := hp; have hcall18 := hcall; repeat' (first | (simp -implicitDefEqProofs only [go_sem, ↓reduceIte, Nat.reduceEqDiff, Nat.reduceAdd, Nat.reduceSub, Nat.reduceMul, Nat.reduceLeDiff, Nat.reduceLT, reduceCtorEq, Int.reduceToNat]) | (with_reducible refine g_noent ?_) | (with_reducible refine g_call0 hcall17 ?_) | (with_reducible refine g_calld0 hcall17 ?_) | (with_reducible refine g_call0 hcall18 ?_) | (with_reducible refine g_calld0 hcall18 ?_) | (refine cdS (fun hg => ?_) (fun hg => ?_) <;> try simp -implicitDefEqProofs only [hg, Bool.not_true, Bool.not_false]) | (refine gdS (fun hg => ?_) (fun hg => ?_) <;> try simp -implicitDefEqProofs only [hg, Bool.not_true, Bool.not_false]) | (refine gddS (fun hg => ?_) (fun hg => ?_) <;> try simp -implicitDefEqProofs only [hg, Bool.not_true, Bool.not_false]) | ((with_reducible apply And.intro); focus (first | trivial | omega | decide | (simp -implicitDefEqProofs only [maxLen]; omega) | (simp [maxLen, sty_len, nd_len, ndL_len, lnL_len, intsL_len, rvs_len, lensS_len]; done) | (simp [maxLen, sty_len, nd_len, ndL_len, lnL_len, intsL_len, rvs_len, lensS_len]; omega))) | fail)
            refine hR _ _ (hK _ _ (ret_t ?_)).2
            rw [fst_hit hil hi2 hb]; simp [lk]
          | false =>
            rw [hb] at hp
            have hcall19 := hp; have hcall20 := hcall; repeat' (first | (simp -implicitDefEqProofs only [go_sem, ↓reduceIte, Nat.reduceEqDiff, Nat.reduceAdd, Nat.reduceSub, Nat.reduceMul, Nat.reduceLeDiff, Nat.reduceLT, reduceCtorEq, Int.reduceToNat]) | (with_reducible refine g_noent ?_) | (with_reducible refine g_call0 hcall19 ?_) | (with_reducible refine g_calld0 hcall19 ?_) | (with_reducible refine g_call0 hcall20 ?_) | (with_reducible refine g_calld0 hcall20 ?_) | (refine cdS (fun hg => ?_) (fun hg => ?_) <;> try simp -implicitDefEqProofs only [hg, Bool.not_true, Bool.not_false]) | (refine gdS (fun hg => ?_) (fun hg => ?_) <;> try simp -implicitDefEqProofs only [hg, Bool.not_true, Bool.not_false]) | (refine gddS (fun hg => ?_) (fun hg => ?_) <;> try simp -implicitDefEqProofs only [hg, Bool.not_true, Bool.not_false]) | ((with_reducible apply And.intro); focus (first | trivial | omega | decide | (simp -implicitDefEqProofs only [maxLen]; omega) | (simp [maxLen, sty_len, nd_len, ndL_len, lnL_len, intsL_len, rvs_len, lensS_len]; done) | (simp [maxLen, sty_len, nd_len, ndL_len, lnL_len, intsL_len, rvs_len, lensS_len]; omega))) | fail)
            exact hN (i + 1) _ _ ⟨by omega, fst_miss hil hi2 hb⟩ (by omega) (ent_env (by simp [lk]))
        · have hil : ¬ i < (upAt l n).length := of_decide_eq_false hg
          simp -implicitDefEqProofs only [go_sem, ↓reduceIte, Nat.reduceEqDiff, Nat.reduceAdd, Nat.reduceSub, Nat.reduceMul, Nat.reduceLeDiff, Nat.reduceLT, reduceCtorEq, Int.reduceToNat]
          refine hX _ _ _ ?_
          repeat' (first | (simp -implicitDefEqProofs only [go_sem, ↓reduceIte, Nat.reduceEqDiff, Nat.reduceAdd, Nat.reduceSub, Nat.reduceMul, Nat.reduceLeDiff, Nat.reduceLT, reduceCtorEq, Int.reduceToNat]) | (with_reducible refine g_noent ?_) | (refine cdS (fun hg => ?_) (fun hg => ?_) <;> try simp -implicitDefEqProofs only [hg, Bool.not_true, Bool.not_false]) | (refine gdS (fun hg => ?_) (fun hg => ?_) <;> try simp -implicitDefEqProofs only [hg, Bool.not_true, Bool.not_false]) | (refine gddS (fun hg => ?_) (fun hg => ?_) <;> try simp -implicitDefEqProofs only [hg, Bool.not_true, Bool.not_false]) | ((with_reducible apply And.intro); focus (first | trivial | omega | decide | (simp -implicitDefEqProofs only [maxLen]; omega) | (simp [maxLen, sty_len, nd_len, ndL_len, lnL_len, intsL_len, rvs_len, lensS_len]; done) | (simp [maxLen, sty_len, nd_len, ndL_len, lnL_len, intsL_len, rvs_len, lensS_len]; omega))) | fail)
          refine (hK _ _ (ret_t ?_)).2
          rw [fst_end (by omega) hi2]; simp [lk]

theorem sp_ref18_Positioned (l : List Nd) (ht : treeOK l = true) (n : Int) : CallR Go.Proofs.Try.prog 36 [.rv (.sl 49 (ndL l)), .rv (.int .i64 n)] [] [] (.rv (.bool (posAt l n))) := by
  refine callR_G k_decoupageref18_Positioned [.rv (.sl 49 (ndL l)), .rv (.int .i64 n)] _ (by simp) (by simp [BkAll, bk_agg, bkAll_map, bk_rv, bk_fn, Sty.sv, Ln.sv, Nd.sv]) (fun K hK => ?_)
  have hlen := ndL_len l
  have hm := sp_ref08_Made l ht n
  simp -implicitDefEqProofs only [c_decoupageref18_Positioned, go_sem, ↓reduceIte, Nat.reduceEqDiff, Nat.reduceAdd, Nat.reduceSub, Nat.reduceMul, Nat.reduceLeDiff, Nat.reduceLT, reduceCtorEq, Int.reduceToNat]
  by_cases h0 : n > 0
  · have e1 : decide (n > 0) = true := decide_eq_true h0
    cases hi : madeAt l n with
    | false =>
      rw [hi] at hm
      have hcall21 := hm; repeat' (first | (simp -implicitDefEqProofs only [go_sem, ↓reduceIte, Nat.reduceEqDiff, Nat.reduceAdd, Nat.reduceSub, Nat.reduceMul, Nat.reduceLeDiff, Nat.reduceLT, reduceCtorEq, Int.reduceToNat, e1]) | (with_reducible refine g_noent ?_) | (with_reducible refine g_call0 hcall21 ?_) | (with_reducible refine g_calld0 hcall21 ?_) | (refine cdS (fun hg => ?_) (fun hg => ?_) <;> try simp -implicitDefEqProofs only [hg, Bool.not_true, Bool.not_false]) | (refine gdS (fun hg => ?_) (fun hg => ?_) <;> try simp -implicitDefEqProofs only [hg, Bool.not_true, Bool.not_false]) | (refine gddS (fun hg => ?_) (fun hg => ?_) <;> try simp -implicitDefEqProofs only [hg, Bool.not_true, Bool.not_false]) | ((with_reducible apply And.intro); focus (first | trivial | omega | decide | (simp -implicitDefEqProofs only [maxLen]; omega) | (simp [maxLen, sty_len, nd_len, ndL_len, lnL_len, intsL_len, rvs_len, lensS_len]; done) | (simp [maxLen, sty_len, nd_len, ndL_len, lnL_len, intsL_len, rvs_len, lensS_len]; omega))) | fail)
      exact (hK _ _ (ret_t (by simp [posAt, hi, lk]))).2
    | true =>
      rw [hi] at hm
      have hin : inL l n = true := by simp [madeAt] at hi; exact hi.1
      obtain ⟨k, rfl, hk⟩ := inL_nat hin
      have hx := ndL_get hk
      have hsx : styAt l k = (l[k]'hk).s := by simp [styAt, hin, hk]
      have hp : ((l[k]'hk).cells.drop 1)[0]? = some (.int .i64 (l[k]'hk).s.position) := rfl
      have hcall22 := hm; repeat' (first | (simp -implicitDefEqProofs only [go_sem, ↓reduceIte, Nat.reduceEqDiff, Nat.reduceAdd, Nat.reduceSub, Nat.reduceMul, Nat.reduceLeDiff, Nat.reduceLT, reduceCtorEq, Int.reduceToNat, e1, hx, hlen, nd_len, hp]) | (with_reducible refine g_noent ?_) | (with_reducible refine g_call0 hcall22 ?_) | (with_reducible refine g_calld0 hcall22 ?_) | (refine cdS (fun hg => ?_) (fun hg => ?_) <;> try simp -implicitDefEqProofs only [hg, Bool.not_true, Bool.not_false]) | (refine gdS (fun hg => ?_) (fun hg => ?_) <;> try simp -implicitDefEqProofs only [hg, Bool.not_true, Bool.not_false]) | (refine gddS (fun hg => ?_) (fun hg => ?_) <;> try simp -implicitDefEqProofs only [hg, Bool.not_true, Bool.not_false]) | ((with_reducible apply And.intro); focus (first | trivial | omega | decide | (simp -implicitDefEqProofs only [maxLen]; omega) | (simp [maxLen, sty_len, nd_len, ndL_len, lnL_len, intsL_len, rvs_len, lensS_len]; done) | (simp [maxLen, sty_len, nd_len, ndL_len, lnL_len, intsL_len, rvs_len, lensS_len]; omega))) | fail)
      exact (hK _ _ (ret_t (by simp [posAt, hi, lk, hsx]; omega))).2
  · have e1 : decide (n > 0) = false := decide_eq_false h0
    repeat' (first | (simp -implicitDefEqProofs only [go_sem, ↓reduceIte, Nat.reduceEqDiff, Nat.reduceAdd, Nat.reduceSub, Nat.reduceMul, Nat.reduceLeDiff, Nat.reduceLT, reduceCtorEq, Int.reduceToNat, e1]) | (with_reducible refine g_noent ?_) | (refine cdS (fun hg => ?_) (fun hg => ?_) <;> try simp -implicitDefEqProofs only [hg, Bool.not_true, Bool.not_false]) | (refine gdS (fun hg => ?_) (fun hg => ?_) <;> try simp -implicitDefEqProofs only [hg, Bool.not_true, Bool.not_false]) | (refine gddS (fun hg => ?_) (fun hg => ?_) <;> try simp -implicitDefEqProofs only [hg, Bool.not_true, Bool.not_false]) | ((with_reducible apply And.intro); focus (first | trivial | omega | decide | (simp -implicitDefEqProofs only [maxLen]; omega) | (simp [maxLen, sty_len, nd_len, ndL_len, lnL_len, intsL_len, rvs_len, lensS_len]; done) | (simp [maxLen, sty_len, nd_len, ndL_len, lnL_len, intsL_len, rvs_len, lensS_len]; omega))) | fail)
    exact (hK _ _ (ret_t (by simp [posAt, lk, h0]))).2

theorem sp_ref18_Of (l : List Nd) (ht : treeOK l = true) (hb : l.length ≤ 8589934592) (n : Int) : CallR Go.Proofs.Try.prog 34 [.rv (.sl 49 (ndL l)), .rv (.int .i64 n)] [] [] (.rv (.int .i64 (holdAt l n))) := by
  refine callR_G k_decoupageref18_Of [.rv (.sl 49 (ndL l)), .rv (.int .i64 n)] _ (by simp) (by simp [BkAll, bk_agg, bkAll_map, bk_rv, bk_fn, Sty.sv, Ln.sv, Nd.sv]) (fun K hK => ?_)
  have hs := tree_shp ht
  have hlen := ndL_len l
  have hm := sp_ref08_Made l ht n
  have hup := sp_ref08_Up l hs hb n
  have ful := up_len l n
  simp -implicitDefEqProofs only [c_decoupageref18_Of, go_sem, ↓reduceIte, Nat.reduceEqDiff, Nat.reduceAdd, Nat.reduceSub, Nat.reduceMul, Nat.reduceLeDiff, Nat.reduceLT, reduceCtorEq, Int.reduceToNat]
  by_cases h0 : n ≤ 0
  · have e1 : decide (n ≤ 0) = true := decide_eq_true h0
    have hv : holdAt l n = -1 := by
      have ho : outAt l n = false := by simp [outAt]; omega
      simp -implicitDefEqProofs only [holdAt, ho]
      rcases inL_cases l n with ⟨h1, hi⟩ | ⟨h1, h2, hi⟩ | ⟨k, rfl, hk, hi⟩
      · simp [parAt, hi]
      · simp [parAt, hi]
      · obtain rfl : k = 0 := by omega
        simp [parAt, hi, hs.root]
    repeat' (first | (simp -implicitDefEqProofs only [go_sem, ↓reduceIte, Nat.reduceEqDiff, Nat.reduceAdd, Nat.reduceSub, Nat.reduceMul, Nat.reduceLeDiff, Nat.reduceLT, reduceCtorEq, Int.reduceToNat, e1]) | (with_reducible refine g_noent ?_) | (refine cdS (fun hg => ?_) (fun hg => ?_) <;> try simp -implicitDefEqProofs only [hg, Bool.not_true, Bool.not_false]) | (refine gdS (fun hg => ?_) (fun hg => ?_) <;> try simp -implicitDefEqProofs only [hg, Bool.not_true, Bool.not_false]) | (refine gddS (fun hg => ?_) (fun hg => ?_) <;> try simp -implicitDefEqProofs only [hg, Bool.not_true, Bool.not_false]) | ((with_reducible apply And.intro); focus (first | trivial | omega | decide | (simp -implicitDefEqProofs only [maxLen]; omega) | (simp [maxLen, sty_len, nd_len, ndL_len, lnL_len, intsL_len, rvs_len, lensS_len]; done) | (simp [maxLen, sty_len, nd_len, ndL_len, lnL_len, intsL_len, rvs_len, lensS_len]; omega))) | fail)
    exact (hK _ _ (ret_t (by simp [hv, lk]))).2
  · have e1 : decide (n ≤ 0) = false := decide_eq_false h0
    cases hmm : madeAt l n with
    | false =>
      rw [hmm] at hm
      have hcall23 := hm; repeat' (first | (simp -implicitDefEqProofs only [go_sem, ↓reduceIte, Nat.reduceEqDiff, Nat.reduceAdd, Nat.reduceSub, Nat.reduceMul, Nat.reduceLeDiff, Nat.reduceLT, reduceCtorEq, Int.reduceToNat, e1]) | (with_reducible refine g_noent ?_) | (with_reducible refine g_call0 hcall23 ?_) | (with_reducible refine g_calld0 hcall23 ?_) | (refine cdS (fun hg => ?_) (fun hg => ?_) <;> try simp -implicitDefEqProofs only [hg, Bool.not_true, Bool.not_false]) | (refine gdS (fun hg => ?_) (fun hg => ?_) <;> try simp -implicitDefEqProofs only [hg, Bool.not_true, Bool.not_false]) | (refine gddS (fun hg => ?_) (fun hg => ?_) <;> try simp -implicitDefEqProofs only [hg, Bool.not_true, Bool.not_false]) | ((with_reducible apply And.intro); focus (first | trivial | omega | decide | (simp -implicitDefEqProofs only [maxLen]; omega) | (simp [maxLen, sty_len, nd_len, ndL_len, lnL_len, intsL_len, rvs_len, lensS_len]; done) | (simp [maxLen, sty_len, nd_len, ndL_len, lnL_len, intsL_len, rvs_len, lensS_len]; omega))) | fail)
      exact (hK _ _ (ret_t (by simp [holdAt, hmm, lk]))).2
    | true =>
      rw [hmm] at hm
      have hin : inL l n = true := by simp [madeAt] at hmm; exact hmm.1
      obtain ⟨k, rfl, hk⟩ := inL_nat hin
      have hx := ndL_get hk
      have hsx : styAt l k = (l[k]'hk).s := by simp [styAt, hin, hk]
      have hp : ((l[k]'hk).cells.drop 1)[0]? = some (.int .i64 (l[k]'hk).s.position) := rfl
      obtain ⟨q1, q2⟩ := sty_pos (tree_sty ht hk)
      have hul : 0 < (upAt l k).length := by
        have := hs.up k (by omega) hk
        have h2 := up_zero hs k
        rw [show parAt l k = parL l k by simp [parAt, hin]] at h2
        exact atI_iff.1 (by rw [← h2]; exact this.1)
      have ha0 := nats_at hul
      have hln := nats_ln (upAt l k)
      by_cases h2 : (l[k]'hk).s.position < 2
      · have e2 : decide ((l[k]'hk).s.position < 2) = true := decide_eq_true h2
        have ho : outAt l k = false := by simp [outAt, hsx]; omega
        have hcall24 := hm; have hcall25 := hup; repeat' (first | (simp -implicitDefEqProofs only [go_sem, ↓reduceIte, Nat.reduceEqDiff, Nat.reduceAdd, Nat.reduceSub, Nat.reduceMul, Nat.reduceLeDiff, Nat.reduceLT, reduceCtorEq, Int.reduceToNat, e1, e2, hx, hlen, nd_len, hp, ha0, hln]) | (with_reducible refine g_noent ?_) | (with_reducible refine g_call0 hcall24 ?_) | (with_reducible refine g_calld0 hcall24 ?_) | (with_reducible refine g_call0 hcall25 ?_) | (with_reducible refine g_calld0 hcall25 ?_) | (refine cdS (fun hg => ?_) (fun hg => ?_) <;> try simp -implicitDefEqProofs only [hg, Bool.not_true, Bool.not_false]) | (refine gdS (fun hg => ?_) (fun hg => ?_) <;> try simp -implicitDefEqProofs only [hg, Bool.not_true, Bool.not_false]) | (refine gddS (fun hg => ?_) (fun hg => ?_) <;> try simp -implicitDefEqProofs only [hg, Bool.not_true, Bool.not_false]) | ((with_reducible apply And.intro); focus (first | trivial | omega | decide | (simp -implicitDefEqProofs only [maxLen]; omega) | (simp [maxLen, sty_len, nd_len, ndL_len, lnL_len, intsL_len, rvs_len, lensS_len]; done) | (simp [maxLen, sty_len, nd_len, ndL_len, lnL_len, intsL_len, rvs_len, lensS_len]; omega))) | fail)
        refine (hK _ _ (ret_t ?_)).2
        simp [holdAt, hmm, ho, lk, up_zero hs]
      · have e2 : decide ((l[k]'hk).s.position < 2) = false := decide_eq_false h2
        have ho : outAt l k = true := by simp [outAt, hsx, hmm]; omega
        have hcall26 := hm; have hcall27 := hup; repeat' (first | (simp -implicitDefEqProofs only [go_sem, ↓reduceIte, Nat.reduceEqDiff, Nat.reduceAdd, Nat.reduceSub, Nat.reduceMul, Nat.reduceLeDiff, Nat.reduceLT, reduceCtorEq, Int.reduceToNat, e1, e2, hx, hlen, nd_len, hp, hln]) | (with_reducible refine g_noent ?_) | (with_reducible refine g_call0 hcall26 ?_) | (with_reducible refine g_calld0 hcall26 ?_) | (with_reducible refine g_call0 hcall27 ?_) | (with_reducible refine g_calld0 hcall27 ?_) | (refine cdS (fun hg => ?_) (fun hg => ?_) <;> try simp -implicitDefEqProofs only [hg, Bool.not_true, Bool.not_false]) | (refine gdS (fun hg => ?_) (fun hg => ?_) <;> try simp -implicitDefEqProofs only [hg, Bool.not_true, Bool.not_false]) | (refine gddS (fun hg => ?_) (fun hg => ?_) <;> try simp -implicitDefEqProofs only [hg, Bool.not_true, Bool.not_false]) | ((with_reducible apply And.intro); focus (first | trivial | omega | decide | (simp -implicitDefEqProofs only [maxLen]; omega) | (simp [maxLen, sty_len, nd_len, ndL_len, lnL_len, intsL_len, rvs_len, lensS_len]; done) | (simp [maxLen, sty_len, nd_len, ndL_len, lnL_len, intsL_len, rvs_len, lensS_len]; omega))) | fail)
        refine g_loop (ι := Nat) (fun i => [(30, .rv (.int .i64 i)), (29, .rv (.int .i64 (upAt l k).length)), (5, .rv (.sl 1 (intsL (natsI (upAt l k))))), (0, .rv (.sl 49 (ndL l))), (1, .rv (.int .i64 k))]) (fun _ => []) (fun i => i ≤ (upAt l k).length ∧ ((l[k]'hk).s.position = 2 → fstI (posAt l) ((upAt l k).drop i) = fstI (posAt l) (upAt l k))) (fun i => (upAt l k).length - i) 0 (by simp) (ent_env (by simp [lk])) (fun i hi' K' hN hX hR => ?_)
        obtain ⟨hi1, hi2⟩ := hi'
        simp -implicitDefEqProofs only [go_sem, ↓reduceIte, Nat.reduceEqDiff, Nat.reduceAdd, Nat.reduceSub, Nat.reduceMul, Nat.reduceLeDiff, Nat.reduceLT, reduceCtorEq, Int.reduceToNat]
        refine cdS (fun hg => ?_) (fun hg => ?_)
        · have hil : i < (upAt l k).length := by simp at hg; omega
          have hpos := sp_ref18_Positioned l ht (atI (upAt l k) i)
          have hai := nats_at hil
          have wu := wrap_up (k := i) (by omega)
          by_cases h3 : (l[k]'hk).s.position = 2
          · have e3 : ((l[k]'hk).s.position == 2) = true := by simp [h3]
            have hv : holdAt l k = fstI (posAt l) (upAt l k) := by simp [holdAt, hmm, ho, hsx, h3]
            cases hb : posAt l (atI (upAt l k) i) with
            | true =>
              rw [hb] at hpos
              have hcall28 := hpos; repeat' (first | (simp -implicitDefEqProofs only [go_sem, ↓reduceIte, Nat.reduceEqDiff, Nat.reduceAdd, Nat.reduceSub, Nat.reduceMul, Nat.reduceLeDiff, Nat.reduceLT, reduceCtorEq, Int.reduceToNat, e3, hx, hlen, nd_len, hp, hln, hai, wu]) | (with_reducible refine g_noent ?_) | (with_reducible refine g_call0 hcall28 ?_) | (with_reducible refine g_calld0 hcall28 ?_) | (refine cdS (fun hg => ?_) (fun hg => ?_) <;> try simp -implicitDefEqProofs only [hg, Bool.not_true, Bool.not_false]) | (refine gdS (fun hg => ?_) (fun hg => ?_) <;> try simp -implicitDefEqProofs only [hg, Bool.not_true, Bool.not_false]) | (refine gddS (fun hg => ?_) (fun hg => ?_) <;> try simp -implicitDefEqProofs only [hg, Bool.not_true, Bool.not_false]) | ((with_reducible apply And.intro); focus (first | trivial | omega | decide | (simp -implicitDefEqProofs only [maxLen]; omega) | (simp [maxLen, sty_len, nd_len, ndL_len, lnL_len, intsL_len, rvs_len, lensS_len]; done) | (simp [maxLen, sty_len, nd_len, ndL_len, lnL_len, intsL_len, rvs_len, lensS_len]; omega))) | fail)
              refine hR _ _ (hK _ _ (ret_t ?_)).2
              rw [hv, fst_hit hil (hi2 h3) hb]; simp [lk]
            | false =>
              rw [hb] at hpos
              have hcall29 := hpos; repeat' (first | (simp -implicitDefEqProofs only [go_sem, ↓reduceIte, Nat.reduceEqDiff, Nat.reduceAdd, Nat.reduceSub, Nat.reduceMul, Nat.reduceLeDiff, Nat.reduceLT, reduceCtorEq, Int.reduceToNat, e3, hx, hlen, nd_len, hp, hln, hai, wu]) | (with_reducible refine g_noent ?_) | (with_reducible refine g_call0 hcall29 ?_) | (with_reducible refine g_calld0 hcall29 ?_) | (refine cdS (fun hg => ?_) (fun hg => ?_) <;> try simp -implicitDefEqProofs only [hg, Bool.not_true, Bool.not_false]) | (refine gdS (fun hg => ?_) (fun hg => ?_) <;> try simp -implicitDefEqProofs only [hg, Bool.not_true, Bool.not_false]) | (refine gddS (fun hg => ?_) (fun hg => ?_) <;> try simp -implicitDefEqProofs only [hg, Bool.not_true, Bool.not_false]) | ((with_reducible apply And.intro); focus (first | trivial | omega | decide | (simp -implicitDefEqProofs only [maxLen]; omega) | (simp [maxLen, sty_len, nd_len, ndL_len, lnL_len, intsL_len, rvs_len, lensS_len]; done) | (simp [maxLen, sty_len, nd_len, ndL_len, lnL_len, intsL_len, rvs_len, lensS_len]; omega))) | fail)
              exact hN (i + 1) _ _ ⟨by omega, fun _ => fst_miss hil (hi2 h3) hb⟩ (by omega) (ent_env (by simp [lk]))
          · have e3 : ((l[k]'hk).s.position == 2) = false := by simp [h3]
            have hcall30 := hpos; repeat' (first | (simp -implicitDefEqProofs only [go_sem, ↓reduceIte, Nat.reduceEqDiff, Nat.reduceAdd, Nat.reduceSub, Nat.reduceMul, Nat.reduceLeDiff, Nat.reduceLT, reduceCtorEq, Int.reduceToNat, e3, hx, hlen, nd_len, hp, hln, hai, wu]) | (with_reducible refine g_noent ?_) | (with_reducible refine g_call0 hcall30 ?_) | (with_reducible refine g_calld0 hcall30 ?_) | (refine cdS (fun hg => ?_) (fun hg => ?_) <;> try simp -implicitDefEqProofs only [hg, Bool.not_true, Bool.not_false]) | (refine gdS (fun hg => ?_) (fun hg => ?_) <;> try simp -implicitDefEqProofs only [hg, Bool.not_true, Bool.not_false]) | (refine gddS (fun hg => ?_) (fun hg => ?_) <;> try simp -implicitDefEqProofs only [hg, Bool.not_true, Bool.not_false]) | ((with_reducible apply And.intro); focus (first | trivial | omega | decide | (simp -implicitDefEqProofs only [maxLen]; omega) | (simp [maxLen, sty_len, nd_len, ndL_len, lnL_len, intsL_len, rvs_len, lensS_len]; done) | (simp [maxLen, sty_len, nd_len, ndL_len, lnL_len, intsL_len, rvs_len, lensS_len]; omega))) | fail)
            exact hN (i + 1) _ _ ⟨by omega, fun h => absurd h h3⟩ (by omega) (ent_env (by simp [lk]))
        · have hil : ¬ i < (upAt l k).length := by simp at hg; omega
          simp -implicitDefEqProofs only [go_sem, ↓reduceIte, Nat.reduceEqDiff, Nat.reduceAdd, Nat.reduceSub, Nat.reduceMul, Nat.reduceLeDiff, Nat.reduceLT, reduceCtorEq, Int.reduceToNat]
          refine hX _ _ _ ?_
          repeat' (first | (simp -implicitDefEqProofs only [go_sem, ↓reduceIte, Nat.reduceEqDiff, Nat.reduceAdd, Nat.reduceSub, Nat.reduceMul, Nat.reduceLeDiff, Nat.reduceLT, reduceCtorEq, Int.reduceToNat]) | (with_reducible refine g_noent ?_) | (refine cdS (fun hg => ?_) (fun hg => ?_) <;> try simp -implicitDefEqProofs only [hg, Bool.not_true, Bool.not_false]) | (refine gdS (fun hg => ?_) (fun hg => ?_) <;> try simp -implicitDefEqProofs only [hg, Bool.not_true, Bool.not_false]) | (refine gddS (fun hg => ?_) (fun hg => ?_) <;> try simp -implicitDefEqProofs only [hg, Bool.not_true, Bool.not_false]) | ((with_reducible apply And.intro); focus (first | trivial | omega | decide | (simp -implicitDefEqProofs only [maxLen]; omega) | (simp [maxLen, sty_len, nd_len, ndL_len, lnL_len, intsL_len, rvs_len, lensS_len]; done) | (simp [maxLen, sty_len, nd_len, ndL_len, lnL_len, intsL_len, rvs_len, lensS_len]; omega))) | fail)
          refine (hK _ _ (ret_t ?_)).2
          by_cases h3 : (l[k]'hk).s.position = 2
          · have hv : holdAt l k = fstI (posAt l) (upAt l k) := by simp [holdAt, hmm, ho, hsx, h3]
            rw [hv, fst_end (by omega) (hi2 h3)]; simp [lk]
          · have hv : holdAt l k = -1 := by
              have : (l[k]'hk).s.position = 3 := by omega
              simp [holdAt, hmm, ho, hsx, this]
            rw [hv]; simp [lk]
end Go.Eng

/- kin: of a list that is the caller's own. -/
namespace Go.Eng
open Go

theorem flat_cells (s : Sty) : ∀ r ∈ s.cells, FlatR r := by
  intro r hr
  simp -implicitDefEqProofs only [Sty.cells, List.mem_cons, List.not_mem_nil, or_false] at hr
  repeat' rcases hr with rfl | hr
  all_goals first | exact .int _ _ | exact .bool _ | (subst hr; exact .int _ _)
theorem flat_nd (x : Nd) : ∀ r ∈ x.cells, FlatR r := by
  intro r hr
  rcases List.mem_append.1 hr with hr | hr
  · exact flat_cells _ r hr
  · simp at hr; rw [hr]; exact .int _ _
theorem flatH_rvs {e v : Nat} {xs : List (List RV)} (h : ∀ x ∈ xs, ∀ r ∈ x, FlatR r) : FlatH (.row e v (rvs xs)) := by
  refine .row _ _ _ (fun i x j y hx hy => ?_)
  unfold rvs at hx
  rw [List.getElem?_map] at hx
  cases hq : xs[i]? with
  | none => simp [hq] at hx
  | some z =>
    simp [hq] at hx
    subst hx
    rw [List.getElem?_map] at hy
    cases hr : z[j]? with
    | none => simp [hr] at hy
    | some r => simp [hr] at hy; subst hy; exact .rv _ (h z (List.mem_of_getElem? hq) r (List.mem_of_getElem? hr))
theorem sp_Clone_NodeR (l : List Nd) (hb : l.length ≤ 8589934592) (i v m : Nat) (hne : i ≠ m) : CallR Go.Proofs.Try.prog 62 [.row i v l.length] [(i, .row 49 v (rvs (ndL l)))] [(m, .row 49 1 (rvs (ndL l)))] (.row m 1 l.length) := by
  have h := sp_Clone_Node (ndL l) m (by rw [ndL_len]; exact hb)
  rw [ndL_len] at h
  refine callR_lend (rs := [.sl 49 (ndL l)]) h (fun hp hpre => ⟨?_, trivial⟩) rfl (.row _ _ _) (fun q hq => ?_)
  · exact fz_rows (hpre _ (.head _)) rfl (by simp [ndL]) (ndL_one l)
  · simp at hq; subst hq
    refine ⟨flatH_rvs fun x hx => ?_, by simpa using hne⟩
    obtain ⟨n, _, rfl⟩ := List.mem_map.1 hx
    exact flat_nd n

theorem nd_sv49m (x : Nd) : (x.cells.map SV.rv).take 49 = x.cells.map SV.rv := rfl
def kTabR (l : List Nd) (k : Nat) : List (List SV) := (List.range l.length).map fun p => [.row (p + 7) (kidsTo l k p).length (kidsTo l k p).length]
def kRowsR (l : List Nd) (k : Nat) : List (Option HB) := (List.range l.length).map fun p => some (.row 1 (kidsTo l k p).length (rvs (intsL (natsI (kidsTo l k p)))))
theorem kTab_lenR (l : List Nd) (k : Nat) : (kTabR l k).length = l.length := by simp [kTabR]
theorem kRows_lenR (l : List Nd) (k : Nat) : (kRowsR l k).length = l.length := by simp [kRowsR]
theorem kTab_getR {l : List Nd} {k p : Nat} (hp : p < l.length) : (kTabR l k)[p]?.getD [] = [.row (p + 7) (kidsTo l k p).length (kidsTo l k p).length] := by simp [kTabR, hp]
theorem kRows_getR {l : List Nd} {k p : Nat} {C : List (Option HB)} (hp : p < l.length) : hget (kRowsR l k ++ C) p = some (.row 1 (kidsTo l k p).length (rvs (intsL (natsI (kidsTo l k p))))) := by
  unfold hget
  rw [List.getElem?_append_left (by rw [kRows_lenR]; exact hp)]
  simp [kRowsR, hp]
theorem kRows_endR {l : List Nd} {k : Nat} {x : Option HB} {C : List (Option HB)} : hget (kRowsR l k ++ x :: C) l.length = x := by
  unfold hget
  rw [List.getElem?_append_right (by rw [kRows_lenR]; exact Nat.le_refl _), kRows_lenR]
  simp
theorem kRows_end1R {l : List Nd} {k : Nat} {x y : Option HB} {C : List (Option HB)} : hget (kRowsR l k ++ x :: y :: C) (l.length + 1) = y := by
  unfold hget
  rw [List.getElem?_append_right (by rw [kRows_lenR]; omega), kRows_lenR, show l.length + 1 - l.length = 1 by omega]
  simp
theorem kRows_end2R {l : List Nd} {k p : Nat} {hb : Option HB} {x y : Option HB} {C : List (Option HB)} : hget ((kRowsR l k).set p hb ++ x :: C) l.length = x := by
  unfold hget
  rw [List.getElem?_append_right (by rw [List.length_set, kRows_lenR]; exact Nat.le_refl _), List.length_set, kRows_lenR]
  simp
theorem kRows_setER {l : List Nd} {k : Nat} {x y : Option HB} {C : List (Option HB)} : (kRowsR l k ++ x :: C).set l.length y = kRowsR l k ++ y :: C := by
  rw [List.set_append_right _ _ (by rw [kRows_lenR]; exact Nat.le_refl _), kRows_lenR, Nat.sub_self]; rfl
theorem kRows_setPR {l : List Nd} {k p : Nat} {y : Option HB} {C : List (Option HB)} (hp : p < l.length) : (kRowsR l k ++ C).set p y = (kRowsR l k).set p y ++ C := by
  rw [List.set_append_left _ _ (by rw [kRows_lenR]; exact hp)]
theorem kRows_zeroR (l : List Nd) : kRowsR l 0 = ghRows l.length 1 := by
  refine List.ext_getElem (by simp [kRowsR, ghRows]) (fun i h1 h2 => ?_)
  simp [kRowsR, ghRows, kidsTo_zero, natsI, intsL, rvs]
theorem kTab_zeroR (l : List Nd) : kTabR l 0 = ghTab 7 l.length l.length := by
  refine List.ext_getElem (by simp [kTabR, ghTab]) (fun i h1 h2 => ?_)
  simp [kTabR] at h1
  simp [kTabR, ghTab, kidsTo_zero, h1]; omega
theorem kRows_nextR {l : List Nd} {k p : Nat} (h0 : 0 < k) (hp : parL l k = p) (hl : p < l.length) :
    (kRowsR l k).set p (some (.row 1 ((kidsTo l k p).length + 1) (rvs (intsL (natsI (kidsTo l k p) ++ [(k : Int)]))))) = kRowsR l (k + 1) := by
  refine List.ext_getElem (by simp [kRowsR]) (fun i h1 h2 => ?_)
  simp -implicitDefEqProofs only [List.getElem_set, kRowsR, List.getElem_map, List.getElem_range, kidsTo_succ]
  by_cases h : p = i
  · subst h; simp [h0, hp, natsI]
  · rw [if_neg h, if_neg (by rw [hp]; omega)]; simp
theorem kTab_nextR {l : List Nd} {k p : Nat} (h0 : 0 < k) (hp : parL l k = p) (hl : p < l.length) :
    (kTabR l k).set p [.row (p + 7) ((kidsTo l k p).length + 1) ((kidsTo l k p).length + 1)] = kTabR l (k + 1) := by
  refine List.ext_getElem (by simp [kTabR]) (fun i h1 h2 => ?_)
  simp -implicitDefEqProofs only [List.getElem_set, kTabR, List.getElem_map, List.getElem_range, kidsTo_succ]
  by_cases h : p = i
  · subst h; simp [h0, hp]
  · rw [if_neg h, if_neg (by rw [hp]; omega)]; simp
theorem kRows_firstR (l : List Nd) : kRowsR l 1 = kRowsR l 0 := by
  refine List.ext_getElem (by simp [kRowsR]) (fun i h1 h2 => ?_)
  simp [kRowsR, kidsTo, List.range_succ]
theorem kTab_firstR (l : List Nd) : kTabR l 1 = kTabR l 0 := by
  refine List.ext_getElem (by simp [kTabR]) (fun i h1 h2 => ?_)
  simp [kTabR, kidsTo, List.range_succ]

def kHeapR (v : Nat) (l : List Nd) (k : Nat) (es ds : List Int) (bs : List Bool) : List (Option HB) := some (.row 49 v (rvs (ndL l))) :: some (.row 49 1 (rvs (ndL l))) :: some (.row 1 0 (kTabR l k)) :: some (.row 1 0 (rvs (intsL es))) :: some (.row 1 0 (rvs (intsL ds))) :: some (.row 1 0 (rvs (boolL bs))) :: some (.var [.row 1 1 l.length, .row 2 0 l.length, .row 3 0 l.length, .row 4 0 l.length, .row 5 0 l.length]) :: kRowsR l k
theorem kHeap_lenR {v : Nat} {l : List Nd} {k : Nat} {es ds : List Int} {bs : List Bool} : (kHeapR v l k es ds bs).length = l.length + 7 := by simp [kHeapR, kRows_lenR]
theorem kHeap_clR {v : Nat} {l : List Nd} {k : Nat} {es ds : List Int} {bs : List Bool} : AllSome (ClH (l.length + 7)) (kHeapR v l k es ds bs) := by
  refine ⟨clH_rvs, clH_rvs, fun i x hx => ?_, clH_rvs, clH_rvs, clH_rvs, by simp [ClH, ClA, clS_row], AllSome.of fun j x hx => ?_⟩
  · obtain ⟨hl, rfl⟩ := List.getElem?_eq_some_iff.1 hx
    simp [kTab_lenR] at hl
    simp [kTabR, ClA, clS_row, hl]
  · obtain ⟨hl, rfl⟩ := List.getElem?_eq_some_iff.1 hx
    exact ⟨.row 1 (kidsTo l k j).length (rvs (intsL (natsI (kidsTo l k j)))), by simp [kRowsR], clH_rvs⟩
theorem kHeap_tailR {v : Nat} {l : List Nd} {k : Nat} {es ds : List Int} {bs : List Bool} {env env' : List (Nat × SV)} {C : List (Option HB)} (he : ClEnv (l.length + 7) env env') : Ent 1 ⟨env, kHeapR v l k es ds bs ++ C⟩ ⟨env', kHeapR v l k es ds bs⟩ :=
  ent_tail (by rw [kHeap_lenR]; omega) (by rw [kHeap_lenR]; exact kHeap_clR) (by rw [kHeap_lenR]; exact he)

theorem kin_fzR (v : Nat) (l : List Nd) {τ : Nat → Option Nat} (hτ : ∀ j, 0 < j → τ j = none) : Fz τ (hget (kHeapR v l l.length (endsL l) (depTo l l.length) (madeTo l l.length))) (.ptr 6 0) (kinV l) := by
  refine .ptr 6 [.row 1 1 l.length, .row 2 0 l.length, .row 3 0 l.length, .row 4 0 l.length, .row 5 0 l.length] _ (hτ _ (by decide)) rfl rfl (fun i r hr => ?_) (fun i x r hx hr => ?_)
  · match i with
    | 0 => cases hr; rfl
    | 1 => cases hr; rfl
    | 2 => cases hr; rfl
    | 3 => cases hr; rfl
    | 4 => cases hr; rfl
    | i + 5 => simp at hr
  · match i with
    | 0 => cases hx; cases hr; exact fz_rows rfl (hτ _ (by decide)) (by simp [ndL]) (ndL_one l)
    | 1 =>
      cases hx; cases hr
      refine .row 2 1 0 l.length (kTabR l l.length) (kidsL l) (hτ _ (by decide)) rfl (by simp [kidsL]) (by rw [kTab_lenR]; exact Nat.le_refl _) (fun i x r hx hr => ?_) (fun i r k q hr hq => ?_) (fun i x r k y q hx hr hy hq => ?_)
      · obtain ⟨_, rfl⟩ := List.getElem?_eq_some_iff.1 hx
        obtain ⟨_, rfl⟩ := List.getElem?_eq_some_iff.1 hr
        simp [kTabR, kidsL]
      · obtain ⟨_, rfl⟩ := List.getElem?_eq_some_iff.1 hr
        have := List.mem_of_getElem? hq
        simp [kidsL] at this
        rw [this]; rfl
      · obtain ⟨hl, rfl⟩ := List.getElem?_eq_some_iff.1 hx
        obtain ⟨_, rfl⟩ := List.getElem?_eq_some_iff.1 hr
        rw [kTab_lenR] at hl
        cases k with
        | succ k => simp [kTabR] at hy
        | zero =>
          simp [kTabR] at hy
          simp [kidsL] at hq
          subst hy; subst hq
          refine fz_rows (xs := intsL (natsI (kidsOf l i))) ?_ (hτ _ (by omega)) (by simp [intsL, natsI, kidsOf]) (intsL_one _)
          have := kRows_getR (k := l.length) (C := []) hl
          rw [List.append_nil] at this
          exact this
    | 2 => cases hx; cases hr; exact fz_rows rfl (hτ _ (by decide)) (by simp [intsL, endsL]) (intsL_one _)
    | 3 => cases hx; cases hr; exact fz_rows rfl (hτ _ (by decide)) (by simp [intsL, depTo]) (intsL_one _)
    | 4 => cases hx; cases hr; exact fz_rows rfl (hτ _ (by decide)) (by simp [boolL, madeTo]) (boolL_one _)
    | i + 5 => simp at hx

set_option maxRecDepth 20000 in
set_option maxHeartbeats 8000000 in
theorem sp_kin_OfR (l : List Nd) (hb : l.length ≤ 8589934592) (hc : chk l = 0) (i0 v : Nat) : CallR Go.Proofs.Try.prog 17 [.row i0 v l.length] [(i0, .row 49 v (rvs (ndL l)))] [] (.tup [.rv (kinV l), .rv (.int .i64 0)]) := by
  refine callR_M k_kin_Of [i0] [.row 49 v (rvs (ndL l))] [.row 49 v (rvs (ndL l))] [.row 0 v l.length] [.row i0 v l.length] _ _ (by simp) (by simp [BkAll, bk_row]) rfl (by simp [nodupL]) ⟨rfl, rfl, ⟨rfl, _, rfl⟩, trivial⟩ (fun K hK => ?_)
  have hlen := ndL_len l
  have hck0 := sp_tree_Check l hb
  rw [hc] at hck0
  have hck := lend1 (id := 0) (v := v) (n := l.length) (bs := []) hck0 (.int _ _) (by simp [ndL]) (ndL_one l)
  have ht : treeOK l = true := by
    unfold chk at hc
    cases h : treeOK l with
    | true => rfl
    | false => rw [h] at hc; simp at hc
  have hs : Shp l := shape_iff.1 (by unfold treeOK at ht; simp -implicitDefEqProofs only [Bool.and_eq_true] at ht; exact ht.1)
  have e00 : (((0 : Int)) != 0) = false := rfl
  simp -implicitDefEqProofs only [c_kin_Of, go_sem, ↓reduceIte, Nat.reduceEqDiff, Nat.reduceAdd, Nat.reduceSub, Nat.reduceMul, Nat.reduceLeDiff, Nat.reduceLT, reduceCtorEq, Int.reduceToNat]
  have hb2 : (ndL l).length ≤ 8589934592 := by rw [hlen]; exact hb
  have hcall1 := hck; have hcall2 := sp_Clone_NodeR l hb 0 v 1 (by decide); repeat' (first | (simp -implicitDefEqProofs only [go_sem, ↓reduceIte, Nat.reduceEqDiff, Nat.reduceAdd, Nat.reduceSub, Nat.reduceMul, Nat.reduceLeDiff, Nat.reduceLT, reduceCtorEq, Int.reduceToNat, e00, hlen, rvs_rep1, rvs_repB]) | (with_reducible refine g_noent ?_) | (refine g_call hcall1 (by simp [PreOK, hget]; done) (by simp [okU, uph]; done) ?_) | (refine g_calld hcall1 (by simp [PreOK, hget]; done) (by simp [okU, uph]; done) ?_) | (refine g_call hcall2 (by simp [PreOK, hget]; done) (by simp [okU, uph]; done) ?_) | (refine g_calld hcall2 (by simp [PreOK, hget]; done) (by simp [okU, uph]; done) ?_) | (refine cdS (fun hg => ?_) (fun hg => ?_) <;> try simp -implicitDefEqProofs only [hg, Bool.not_true, Bool.not_false]) | (refine gdS (fun hg => ?_) (fun hg => ?_) <;> try simp -implicitDefEqProofs only [hg, Bool.not_true, Bool.not_false]) | (refine gddS (fun hg => ?_) (fun hg => ?_) <;> try simp -implicitDefEqProofs only [hg, Bool.not_true, Bool.not_false]) | ((with_reducible apply And.intro); focus (first | trivial | omega | decide | (simp -implicitDefEqProofs only [maxLen]; omega) | (simp [maxLen, sty_len, nd_len, ndL_len, lnL_len, intsL_len, rvs_len, lensS_len]; done) | (simp [maxLen, sty_len, nd_len, ndL_len, lnL_len, intsL_len, rvs_len, lensS_len]; omega))) | fail)
  have hkt : ∀ n : Nat, kTabR l 0 = ghTab 7 l.length l.length := fun _ => kTab_zeroR l
  let ev : Nat → List (Nat × SV) := fun k => [(33, .rv (.int .i64 k)), (32, .rv (.int .i64 l.length)), (31, .row 0 v l.length), (5, .ptr 6 0), (0, .row 0 v l.length)]
  refine g_loop (ι := Nat) (fun k => [(33, .rv (.int .i64 k)), (32, .rv (.int .i64 l.length)), (31, .row 0 v l.length), (5, .ptr 6 0), (0, .row 0 v l.length)]) (fun k => some (.row 49 v (rvs (ndL l))) :: some (.row 49 1 (rvs (ndL l))) :: some (.row 1 0 (kTabR l k)) :: some (.row 1 0 (rvs (intsL (List.replicate l.length 0)))) :: some (.row 1 0 (rvs (intsL (depTo l k)))) :: some (.row 1 0 (rvs (boolL (madeTo l k)))) :: some (.var [.row 1 1 l.length, .row 2 0 l.length, .row 3 0 l.length, .row 4 0 l.length, .row 5 0 l.length]) :: kRowsR l k) (fun k => k ≤ l.length) (fun k => l.length - k) 0 (by simp) ?_ (fun k hk K' hN hX hR => ?_)
  · refine (ent_env (env' := [(33, .rv (.int .i64 0)), (32, .rv (.int .i64 l.length)), (31, .row 0 v l.length), (5, .ptr 6 0), (0, .row 0 v l.length)]) (by simp [lk])).trans ?_
    rw [kTab_zeroR, kRows_zeroR, depTo_zero, madeTo_zero]
    exact ent_ghosts (r := 2) (v := 0) (n := l.length) (e := 1) rfl
  simp -implicitDefEqProofs only [go_sem, ↓reduceIte, Nat.reduceEqDiff, Nat.reduceAdd, Nat.reduceSub, Nat.reduceMul, Nat.reduceLeDiff, Nat.reduceLT, reduceCtorEq, Int.reduceToNat]
  refine cdS (fun hg => ?_) (fun hg => ?_)
  · have hk4 : k < l.length := by simp at hg; omega
    have hx := ndL_get hk4
    have krl := kRows_lenR l k
    have hdl := depTo_len l k
    have hdd := intsL_len (depTo l k)
    have hd1 := intsL_getD (l := depTo l k) (i := k) (by omega)
    have hml := madeTo_len l k
    have hmm := boolL_len (madeTo l k)
    have hm1 := boolL_getD (bs := madeTo l k) (i := k) (by omega)
    have hsh := shownL_eq hk4
    have e1 : (l.length = l.length + 1) = False := eq_false (by omega)
    have e2 : (l.length = l.length + 2) = False := eq_false (by omega)
    have hds := depTo_set hk4
    have hds2 := depTo_set2 hk4
    have wu := wrap_up (k := k) (by omega)
    by_cases hk0 : 0 < k
    · have hgt : decide ((k : Int) > 0) = true := decide_eq_true (by omega)
      obtain ⟨p1, p2⟩ := hs.wf.2 k hk0 hk4
      obtain ⟨p, hp⟩ : ∃ p : Nat, parL l k = p := ⟨(parL l k).toNat, by omega⟩
      have hpl : p < l.length := by omega
      have q0 : (p = l.length) = False := eq_false (by omega)
      have q1 : (p = l.length + 1) = False := eq_false (by omega)
      have q2 : (p = l.length + 2) = False := eq_false (by omega)
      have hpk := parL_eq hk4
      have hds3 : (depTo l k).set k 1 = (depTo l k).set k 1 := rfl
      have hdsl : ((depTo l k).set k 1).length = l.length := by simp [hdl]
      have hdsl2 := intsL_len ((depTo l k).set k 1)
      have hdp := intsL_getD (l := (depTo l k).set k 1) (i := p) (by omega)
      have hdk := intsL_getD (l := (depTo l k).set k 1) (i := k) (by omega)
      rw [depTo_get (by omega) (by omega)] at hdp
      have hdep := depth_par hs.wf hk0 hk4
      rw [hp, Int.toNat_natCast] at hdep
      have wd := wrap_up (k := depth l p) (by have := pth_len (l := l) p; unfold depth; omega)
      rw [← hdep] at wd
      obtain ⟨b, hsv⟩ : ∃ b, shownL l k = b := ⟨_, rfl⟩
      have hmp := boolL_getD (bs := (madeTo l k).set k b) (i := p) (by simp [hml]; omega)
      have hmk := boolL_getD (bs := (madeTo l k).set k b) (i := k) (by simp [hml]; omega)
      rw [madeTo_get (by omega) (by omega)] at hmp
      have hmsl : ((madeTo l k).set k b).length = l.length := by simp [hml]
      have hmsl2 := boolL_len ((madeTo l k).set k b)
      have hms : ((madeTo l k).set k b).set k (b && madeS l p) = madeTo l (k + 1) := by
        have := madeS_par hs.wf hk0 hk4
        rw [hp, Int.toNat_natCast, hsv] at this
        rw [List.set_set, ← this, madeTo_set hk4]
      have hktl := kTab_lenR l k
      have hktg := kTab_getR (k := k) hpl
      have hkrg := fun C => kRows_getR (k := k) (C := C) hpl
      have hkn := kRows_nextR hk0 hp hpl
      have htn := kTab_nextR hk0 hp hpl
      have hsp := fun (y : Option HB) C => kRows_setPR (k := k) (y := y) (C := C) hpl
      have hkl : (natsI (kidsTo l k p)).length = (kidsTo l k p).length := by simp [natsI]
      have hkl2 := intsL_len (natsI (kidsTo l k p))
      have htk : (intsL (natsI (kidsTo l k p))).take (kidsTo l k p).length = intsL (natsI (kidsTo l k p)) := List.take_of_length_le (by rw [hkl2, hkl]; exact Nat.le_refl _)
      have hkk := kidsTo_len (l := l) (k := k) (p := p)
      cases b
      all_goals simp -implicitDefEqProofs only [Bool.false_and, Bool.true_and] at hms
      · repeat' (first | (simp -implicitDefEqProofs only [go_sem, ↓reduceIte, Nat.reduceEqDiff, Nat.reduceAdd, Nat.reduceSub, Nat.reduceMul, Nat.reduceLeDiff, Nat.reduceLT, reduceCtorEq, Int.reduceToNat, hlen, hx, krl, nd_len, nd_sv48, nd_sv49m, Nat.add_assoc, kRows_endR, List.append_assoc, hdl, hdd, hd1, hml, hmm, hm1, rvs_set1, rvs_setB, nd_at0, hsh, hsv, e1, e2, kRows_setER, hgt, hpk, hp, nd_atp, hktl, hktg, hkrg, q0, q1, q2, hsp, kRows_end1R, kRows_end2R, hkl, hkl2, htk, rvs_app1, hkn, htn, hdsl, hdsl2, hdp, hdk, wd, hds2, wu, hmp, hmk, hmsl, hmsl2]) | (with_reducible refine g_noent ?_) | (refine cdS (fun hg => ?_) (fun hg => ?_) <;> try simp -implicitDefEqProofs only [hg, Bool.not_true, Bool.not_false]) | (refine gdS (fun hg => ?_) (fun hg => ?_) <;> try simp -implicitDefEqProofs only [hg, Bool.not_true, Bool.not_false]) | (refine gddS (fun hg => ?_) (fun hg => ?_) <;> try simp -implicitDefEqProofs only [hg, Bool.not_true, Bool.not_false]) | ((with_reducible apply And.intro); focus (first | trivial | omega | decide | (simp -implicitDefEqProofs only [maxLen]; omega) | (simp [maxLen, sty_len, nd_len, ndL_len, lnL_len, intsL_len, rvs_len, lensS_len]; done) | (simp [maxLen, sty_len, nd_len, ndL_len, lnL_len, intsL_len, rvs_len, lensS_len]; omega) | (simp (decide := true) [compatB, compatB1, apartT, disj, Nat.testBit, q0, q1, q2]; done))) | fail)
        rw [hms]
        exact hN (k + 1) _ _ (by omega) (by omega) (kHeap_tailR (v := v) (l := l) (k := k + 1) (by simp [ClEnv, lk, clS_rv, clS_ptr, clS_row]))
      · repeat' (first | (simp -implicitDefEqProofs only [go_sem, ↓reduceIte, Nat.reduceEqDiff, Nat.reduceAdd, Nat.reduceSub, Nat.reduceMul, Nat.reduceLeDiff, Nat.reduceLT, reduceCtorEq, Int.reduceToNat, hlen, hx, krl, nd_len, nd_sv48, nd_sv49m, Nat.add_assoc, kRows_endR, List.append_assoc, hdl, hdd, hd1, hml, hmm, hm1, rvs_set1, rvs_setB, nd_at0, hsh, hsv, e1, e2, kRows_setER, hgt, hpk, hp, nd_atp, hktl, hktg, hkrg, q0, q1, q2, hsp, kRows_end1R, kRows_end2R, hkl, hkl2, htk, rvs_app1, hkn, htn, hdsl, hdsl2, hdp, hdk, wd, hds2, wu, hmp, hmk, hmsl, hmsl2]) | (with_reducible refine g_noent ?_) | (refine cdS (fun hg => ?_) (fun hg => ?_) <;> try simp -implicitDefEqProofs only [hg, Bool.not_true, Bool.not_false]) | (refine gdS (fun hg => ?_) (fun hg => ?_) <;> try simp -implicitDefEqProofs only [hg, Bool.not_true, Bool.not_false]) | (refine gddS (fun hg => ?_) (fun hg => ?_) <;> try simp -implicitDefEqProofs only [hg, Bool.not_true, Bool.not_false]) | ((with_reducible apply And.intro); focus (first | trivial | omega | decide | (simp -implicitDefEqProofs only [maxLen]; omega) | (simp [maxLen, sty_len, nd_len, ndL_len, lnL_len, intsL_len, rvs_len, lensS_len]; done) | (simp [maxLen, sty_len, nd_len, ndL_len, lnL_len, intsL_len, rvs_len, lensS_len]; omega) | (simp (decide := true) [compatB, compatB1, apartT, disj, Nat.testBit, q0, q1, q2]; done))) | fail)
        rw [hms]
        exact hN (k + 1) _ _ (by omega) (by omega) (kHeap_tailR (v := v) (l := l) (k := k + 1) (by simp [ClEnv, lk, clS_rv, clS_ptr, clS_row]))
    · obtain rfl : k = 0 := by omega
      have hgt : decide (((0 : Nat) : Int) > 0) = false := rfl
      rw [depth_zero] at hds
      have hms := madeTo_set hk4
      rw [madeS_zero] at hms
      have hds1 : (depTo l 0).set 0 1 = depTo l (0 + 1) := hds
      repeat' (first | (simp -implicitDefEqProofs only [go_sem, ↓reduceIte, Nat.reduceEqDiff, Nat.reduceAdd, Nat.reduceSub, Nat.reduceMul, Nat.reduceLeDiff, Nat.reduceLT, reduceCtorEq, Int.reduceToNat, hlen, hx, krl, nd_len, nd_sv48, nd_sv49m, Nat.add_assoc, kRows_endR, List.append_assoc, hdl, hdd, hd1, hml, hmm, hm1, rvs_set1, rvs_setB, nd_at0, hsh, e1, e2, kRows_setER, hgt, wu, hms, hds1]) | (with_reducible refine g_noent ?_) | (refine cdS (fun hg => ?_) (fun hg => ?_) <;> try simp -implicitDefEqProofs only [hg, Bool.not_true, Bool.not_false]) | (refine gdS (fun hg => ?_) (fun hg => ?_) <;> try simp -implicitDefEqProofs only [hg, Bool.not_true, Bool.not_false]) | (refine gddS (fun hg => ?_) (fun hg => ?_) <;> try simp -implicitDefEqProofs only [hg, Bool.not_true, Bool.not_false]) | ((with_reducible apply And.intro); focus (first | trivial | omega | decide | (simp -implicitDefEqProofs only [maxLen]; omega) | (simp [maxLen, sty_len, nd_len, ndL_len, lnL_len, intsL_len, rvs_len, lensS_len]; done) | (simp [maxLen, sty_len, nd_len, ndL_len, lnL_len, intsL_len, rvs_len, lensS_len]; omega))) | fail)
      refine hN 1 _ _ (by omega) (by omega) ?_
      rw [kTab_firstR, kRows_firstR]
      exact kHeap_tailR (v := v) (l := l) (k := 0) (es := List.replicate l.length 0) (ds := depTo l (0 + 1)) (bs := madeTo l (0 + 1)) (C := [some (.var ((l[0]'hk4).cells.map .rv))]) (by simp [ClEnv, lk, clS_rv, clS_ptr, clS_row])
  · have hk4 : k = l.length := by simp at hg; omega
    subst hk4
    simp -implicitDefEqProofs only [go_sem, ↓reduceIte, Nat.reduceEqDiff, Nat.reduceAdd, Nat.reduceSub, Nat.reduceMul, Nat.reduceLeDiff, Nat.reduceLT, reduceCtorEq, Int.reduceToNat]
    refine hX _ _ _ ?_
    have wl := wrap_dn hs.pos (by omega)
    repeat' (first | (simp -implicitDefEqProofs only [go_sem, ↓reduceIte, Nat.reduceEqDiff, Nat.reduceAdd, Nat.reduceSub, Nat.reduceMul, Nat.reduceLeDiff, Nat.reduceLT, reduceCtorEq, Int.reduceToNat, hlen, wl]) | (with_reducible refine g_noent ?_) | (refine cdS (fun hg => ?_) (fun hg => ?_) <;> try simp -implicitDefEqProofs only [hg, Bool.not_true, Bool.not_false]) | (refine gdS (fun hg => ?_) (fun hg => ?_) <;> try simp -implicitDefEqProofs only [hg, Bool.not_true, Bool.not_false]) | (refine gddS (fun hg => ?_) (fun hg => ?_) <;> try simp -implicitDefEqProofs only [hg, Bool.not_true, Bool.not_false]) | ((with_reducible apply And.intro); focus (first | trivial | omega | decide | (simp -implicitDefEqProofs only [maxLen]; omega) | (simp [maxLen, sty_len, nd_len, ndL_len, lnL_len, intsL_len, rvs_len, lensS_len]; done) | (simp [maxLen, sty_len, nd_len, ndL_len, lnL_len, intsL_len, rvs_len, lensS_len]; omega))) | fail)
    clear hN hX hR
    refine g_loop (ι := Nat) (fun k => [(8, .rv (.int .i64 ((k : Int) - 1))), (5, .ptr 6 0)]) (fun k => kHeapR v l l.length (endTo l k) (depTo l l.length) (madeTo l l.length)) (fun k => k ≤ l.length) (fun k => k) l.length (Nat.le_refl _) (by rw [endTo_top]; exact ent_env (by simp [lk]; have := hs.pos; omega)) (fun k hk K' hN hX hR => ?_)
    simp -implicitDefEqProofs only [kHeapR, go_sem, ↓reduceIte, Nat.reduceEqDiff, Nat.reduceAdd, Nat.reduceSub, Nat.reduceMul, Nat.reduceLeDiff, Nat.reduceLT, reduceCtorEq, Int.reduceToNat]
    refine cdS (fun hg => ?_) (fun hg => ?_)
    · have hk0 : 0 < k := by simp at hg; omega
      obtain ⟨j, rfl⟩ : ∃ j, k = j + 1 := ⟨k - 1, by omega⟩
      have ej : (((j + 1 : Nat) : Int) - 1) = (j : Int) := by omega
      have wj := wrap_up (k := j) (by omega)
      have hjl : j < l.length := by omega
      have hel := endTo_len l (j + 1)
      have hell := intsL_len (endTo l (j + 1))
      have he1 := intsL_getD (l := endTo l (j + 1)) (i := j) (by omega)
      have hktl := kTab_lenR l l.length
      have hktg := kTab_getR (k := l.length) hjl
      have hkrg := kRows_getR (k := l.length) (C := []) hjl
      simp -implicitDefEqProofs only [List.append_nil] at hkrg
      have hkl : (natsI (kidsTo l l.length j)).length = (kidsTo l l.length j).length := by simp [natsI]
      have hkl2 := intsL_len (natsI (kidsTo l l.length j))
      have hkk := kidsTo_len (l := l) (k := l.length) (p := j)
      have hsl : ((endTo l (j + 1)).set j ((j + 1 : Nat) : Int)).length = l.length := by simp [hel]
      have hsll := intsL_len ((endTo l (j + 1)).set j ((j + 1 : Nat) : Int))
      have hse := endTo_set (l := l) (k := j + 1) (by omega) (by omega)
      simp -implicitDefEqProofs only [Nat.add_sub_cancel] at hse
      have wd : IntKind.i64.wrap ((j : Int) - 1) = ((j : Int) - 1) := wrap_i64 (by omega) (by omega)
      by_cases hk1 : kidsTo l l.length j = []
      · have hm0 : decide ((((kidsTo l l.length j).length : Nat) : Int) > 0) = false := by rw [hk1]; rfl
        have he := endS_leaf hk1
        rw [he] at hse
        repeat' (first | (simp -implicitDefEqProofs only [go_sem, ↓reduceIte, Nat.reduceEqDiff, Nat.reduceAdd, Nat.reduceSub, Nat.reduceMul, Nat.reduceLeDiff, Nat.reduceLT, reduceCtorEq, Int.reduceToNat, hel, hell, he1, hktl, hktg, hkrg, ej, wj, hm0, rvs_set1, hse, wd]) | (with_reducible refine g_noent ?_) | (refine cdS (fun hg => ?_) (fun hg => ?_) <;> try simp -implicitDefEqProofs only [hg, Bool.not_true, Bool.not_false]) | (refine gdS (fun hg => ?_) (fun hg => ?_) <;> try simp -implicitDefEqProofs only [hg, Bool.not_true, Bool.not_false]) | (refine gddS (fun hg => ?_) (fun hg => ?_) <;> try simp -implicitDefEqProofs only [hg, Bool.not_true, Bool.not_false]) | ((with_reducible apply And.intro); focus (first | trivial | omega | decide | (simp -implicitDefEqProofs only [maxLen]; omega) | (simp [maxLen, sty_len, nd_len, ndL_len, lnL_len, intsL_len, rvs_len, lensS_len]; done) | (simp [maxLen, sty_len, nd_len, ndL_len, lnL_len, intsL_len, rvs_len, lensS_len]; omega))) | fail)
        refine hN j _ _ (by omega) (by omega) (ent_env (by simp [lk]))
      · obtain ⟨c, hc⟩ : ∃ c, (kidsTo l l.length j).getLast? = some c := by
          cases h : (kidsTo l l.length j).getLast? with
          | none => exact absurd (List.getLast?_eq_none_iff.1 h) hk1
          | some c => exact ⟨c, rfl⟩
        have hpos : 0 < (kidsTo l l.length j).length := List.length_pos_iff.2 hk1
        have hm0 : decide ((((kidsTo l l.length j).length : Nat) : Int) > 0) = true := decide_eq_true (by omega)
        have hcm : c ∈ kidsOf l j := List.mem_of_getLast? hc
        obtain ⟨c1, c2, c3⟩ := mem_kids.1 hcm
        have hcj : j < c := by have := (hs.wf.2 c c1 c2).2; omega
        have he := endS_last hc hcj c2
        rw [he] at hse
        have wm := wrap_dn hpos (by omega)
        have hcg : (natsI (kidsTo l l.length j)).getD ((kidsTo l l.length j).length - 1) 0 = (c : Int) := by
          rw [List.getLast?_eq_getElem?] at hc
          simp [natsI, List.getD_eq_getElem?_getD, hc]
        have hcx := intsL_getD (l := natsI (kidsTo l l.length j)) (i := (kidsTo l l.length j).length - 1) (by omega)
        rw [hcg] at hcx
        have hec := intsL_getD (l := (endTo l (j + 1)).set j ((j + 1 : Nat) : Int)) (i := c) (by omega)
        have hev := endTo_get (l := l) (k := j + 1) (j := c) (v := ((j + 1 : Nat) : Int)) (by omega) (by omega) c2
        simp -implicitDefEqProofs only [Nat.add_sub_cancel] at hev
        rw [hev] at hec
        have hej := intsL_getD (l := (endTo l (j + 1)).set j ((j + 1 : Nat) : Int)) (i := j) (by omega)
        have hset : ((endTo l (j + 1)).set j ((j + 1 : Nat) : Int)).set j (endS l c) = endTo l j := by rw [List.set_set, hse]
        repeat' (first | (simp -implicitDefEqProofs only [go_sem, ↓reduceIte, Nat.reduceEqDiff, Nat.reduceAdd, Nat.reduceSub, Nat.reduceMul, Nat.reduceLeDiff, Nat.reduceLT, reduceCtorEq, Int.reduceToNat, hel, hell, he1, hktl, hktg, hkrg, ej, wj, hm0, rvs_set1, wd, wm, hcx, hec, hej, hset, hsl, hsll, hkl, hkl2]) | (with_reducible refine g_noent ?_) | (refine cdS (fun hg => ?_) (fun hg => ?_) <;> try simp -implicitDefEqProofs only [hg, Bool.not_true, Bool.not_false]) | (refine gdS (fun hg => ?_) (fun hg => ?_) <;> try simp -implicitDefEqProofs only [hg, Bool.not_true, Bool.not_false]) | (refine gddS (fun hg => ?_) (fun hg => ?_) <;> try simp -implicitDefEqProofs only [hg, Bool.not_true, Bool.not_false]) | ((with_reducible apply And.intro); focus (first | trivial | omega | decide | (simp -implicitDefEqProofs only [maxLen]; omega) | (simp [maxLen, sty_len, nd_len, ndL_len, lnL_len, intsL_len, rvs_len, lensS_len]; done) | (simp [maxLen, sty_len, nd_len, ndL_len, lnL_len, intsL_len, rvs_len, lensS_len]; omega))) | fail)
        refine hN j _ _ (by omega) (by omega) (ent_env (by simp [lk]))
    · obtain rfl : k = 0 := by simp at hg; omega
      simp -implicitDefEqProofs only [go_sem, ↓reduceIte, Nat.reduceEqDiff, Nat.reduceAdd, Nat.reduceSub, Nat.reduceMul, Nat.reduceLeDiff, Nat.reduceLT, reduceCtorEq, Int.reduceToNat]
      refine hX _ _ _ ?_
      repeat' (first | (simp -implicitDefEqProofs only [go_sem, ↓reduceIte, Nat.reduceEqDiff, Nat.reduceAdd, Nat.reduceSub, Nat.reduceMul, Nat.reduceLeDiff, Nat.reduceLT, reduceCtorEq, Int.reduceToNat]) | (with_reducible refine g_noent ?_) | (refine cdS (fun hg => ?_) (fun hg => ?_) <;> try simp -implicitDefEqProofs only [hg, Bool.not_true, Bool.not_false]) | (refine gdS (fun hg => ?_) (fun hg => ?_) <;> try simp -implicitDefEqProofs only [hg, Bool.not_true, Bool.not_false]) | (refine gddS (fun hg => ?_) (fun hg => ?_) <;> try simp -implicitDefEqProofs only [hg, Bool.not_true, Bool.not_false]) | ((with_reducible apply And.intro); focus (first | trivial | omega | decide | (simp -implicitDefEqProofs only [maxLen]; omega) | (simp [maxLen, sty_len, nd_len, ndL_len, lnL_len, intsL_len, rvs_len, lensS_len]; done) | (simp [maxLen, sty_len, nd_len, ndL_len, lnL_len, intsL_len, rvs_len, lensS_len]; omega))) | fail)
      refine (hK _ _ _ _ [] (ent_refl _ _) ?_).2
      rw [endTo_zero]
      simp -implicitDefEqProofs only [retM, List.map_cons, List.map_nil, List.append_nil]
      refine ⟨by simp [nodupL], trivial, trivial, ⟨?_, trivial⟩, trivial, rn_tup.2 ⟨?_, rn_rv.2 rfl, trivial⟩⟩
      · rw [show finU (lkp ([i0].zip [HB.row 49 v (rvs (ndL l))]) i0) [] i0 = some (HB.row 49 v (rvs (ndL l))) from by simp [finU, lkp]]
        exact ⟨rfl, rfl, rnRows_rvs.2 rfl⟩
      · exact .fz _ _ (kin_fzR v l (fun j hj => by cases j with
          | zero => omega
          | succ j => rfl))


theorem sp_kin_OfR_bad (l : List Nd) (hb : l.length ≤ 8589934592) (hc : chk l ≠ 0) (i0 v : Nat) : CallR Go.Proofs.Try.prog 17 [.row i0 v l.length] [(i0, .row 49 v (rvs (ndL l)))] [] (.tup [.rv .nilp, .rv (.int .i64 (chk l))]) :=
  lend1t (bs := []) (rs := [.nilp, .int .i64 (chk l)]) (sp_kin_Of_bad l hb hc) (by
    intro r hr
    simp at hr
    rcases hr with rfl | rfl
    · exact .nilp
    · exact .int _ _) (by simp [ndL]) (ndL_one l)
end Go.Eng

/- kin: what is told of a node is what the document says. -/
namespace Go.Eng
open Go
/- decoupage/decoupagelaw06.Plain -/
def c_decoupagelaw06_Plain : AC := (.seq (.reg [⟨(some 0), (.alloc [(.bool false), (.int .i64 0), (.int .i64 0), (.int .i64 0), (.int .i64 0), (.int .i64 0), (.int .i64 0), (.int .i64 0), (.int .i64 0), (.int .i64 0), (.int .i64 0), (.int .i64 0), (.int .i64 0), (.int .i64 0), (.int .i64 0), (.int .i64 0), (.int .i64 0), (.int .i64 0), (.int .i64 0), (.int .i64 0), (.int .i64 0), (.int .i64 0), (.int .i64 0), (.int .i64 0), (.int .i64 0), (.int .i64 0), (.int .i64 0), (.int .i64 0), (.int .i64 0), (.int .i64 0), (.int .i64 0), (.int .i64 0), (.int .i64 0), (.int .i64 0), (.int .i64 0), (.int .i64 0), (.int .i64 0), (.int .i64 0), (.int .i64 0), (.int .i64 0), (.int .i64 0), (.int .i64 0), (.bool false), (.bool false), (.int .i64 0), (.bool false), (.int .i64 0), (.int .i64 0)]), [], none⟩]) (.seq (.reg [⟨(some 3), (.build [(.bool false), (.int .i64 0), (.int .i64 0), (.int .i64 0), (.int .i64 0), (.int .i64 0), (.int .i64 0), (.int .i64 0), (.int .i64 0), (.int .i64 0), (.int .i64 0), (.int .i64 0), (.int .i64 0), (.int .i64 0), (.int .i64 0), (.int .i64 0), (.int .i64 0), (.int .i64 0), (.int .i64 0), (.int .i64 0), (.int .i64 0), (.int .i64 0), (.int .i64 0), (.int .i64 0), (.int .i64 0), (.int .i64 0), (.int .i64 0), (.int .i64 0), (.int .i64 0), (.int .i64 0), (.int .i64 0), (.int .i64 0), (.int .i64 0), (.int .i64 0), (.int .i64 0), (.int .i64 0), (.int .i64 0), (.int .i64 0), (.int .i64 0), (.int .i64 0), (.int .i64 0), (.int .i64 0), (.bool false), (.bool false), (.int .i64 0), (.bool false), (.int .i64 0), (.int .i64 0)] [(0, 1)]), [(.c (.rv (.bool true)))], none⟩, ⟨(some 1), (.alloc [(.bool false), (.int .i64 0), (.int .i64 0), (.int .i64 0), (.int .i64 0), (.int .i64 0), (.int .i64 0), (.int .i64 0), (.int .i64 0), (.int .i64 0), (.int .i64 0), (.int .i64 0), (.int .i64 0), (.int .i64 0), (.int .i64 0), (.int .i64 0), (.int .i64 0), (.int .i64 0), (.int .i64 0), (.int .i64 0), (.int .i64 0), (.int .i64 0), (.int .i64 0), (.int .i64 0), (.int .i64 0), (.int .i64 0), (.int .i64 0), (.int .i64 0), (.int .i64 0), (.int .i64 0), (.int .i64 0), (.int .i64 0), (.int .i64 0), (.int .i64 0), (.int .i64 0), (.int .i64 0), (.int .i64 0), (.int .i64 0), (.int .i64 0), (.int .i64 0), (.int .i64 0), (.int .i64 0), (.bool false), (.bool false), (.int .i64 0), (.bool false), (.int .i64 0), (.int .i64 0)]), [], none⟩, ⟨none, (.store 48), [(.t 1), (.t 3)], none⟩]) (.seq (.seq (.reg [⟨(some 4), .mv, [(.c (.rv (.int .i64 0)))], none⟩]) (.seq (.block 0 (.loop (.seq (.reg [⟨(some 5), (.ibin .lss), [(.t 4), (.c (.rv (.int .i64 4)))], none⟩]) (.seq (.cond (.t 5) .skip (.exit 0)) (.seq (.seq (.block 1 (.seq (.reg [⟨(some 6), .mv, [(.t 4)], none⟩, ⟨(some 2), .mv, [(.t 6)], none⟩]) (.reg [⟨(some 7), .mv, [(.t 2)], none⟩, ⟨(some 8), (.build [(.int .i64 0), (.int .i64 0)] [(0, 1)]), [(.c (.rv (.int .i64 1)))], none⟩, ⟨(some 9), (.fld 30), [(.t 1)], none⟩, ⟨(some 10), (.ixa 4 2), [(.t 9), (.t 7)], none⟩, ⟨none, (.store 2), [(.t 10), (.t 8)], none⟩]))) .ent) (.reg [⟨(some 11), (.ibin .add), [(.t 4), (.c (.rv (.int .i64 1)))], none⟩, ⟨(some 4), .mv, [(.t 11)], none⟩])))))) .ent)) (.seq (.reg [⟨(some 12), (.load 48 true), [(.t 1)], none⟩, ⟨none, (.store 48), [(.t 0), (.t 12)], none⟩]) .ret))))
theorem k_decoupagelaw06_Plain : FnOK Go.Proofs.Try.prog 54 13 c_decoupagelaw06_Plain [(.c 0 48 true)] := fnOK_of (by kernel_rfl)

/- decoupage/decoupagelaw08.awake -/
def c_decoupagelaw08_awake : AC := (.seq (.reg [⟨(some 0), .mv, [(.c (.rv (.bool false)))], none⟩]) (.seq (.reg [⟨(some 4), (.call 54), [], none⟩, ⟨(some 5), (.build [(.bool false), (.int .i64 0), (.int .i64 0), (.int .i64 0), (.int .i64 0), (.int .i64 0), (.int .i64 0), (.int .i64 0), (.int .i64 0), (.int .i64 0), (.int .i64 0), (.int .i64 0), (.int .i64 0), (.int .i64 0), (.int .i64 0), (.int .i64 0), (.int .i64 0), (.int .i64 0), (.int .i64 0), (.int .i64 0), (.int .i64 0), (.int .i64 0), (.int .i64 0), (.int .i64 0), (.int .i64 0), (.int .i64 0), (.int .i64 0), (.int .i64 0), (.int .i64 0), (.int .i64 0), (.int .i64 0), (.int .i64 0), (.int .i64 0), (.int .i64 0), (.int .i64 0), (.int .i64 0), (.int .i64 0), (.int .i64 0), (.int .i64 0), (.int .i64 0), (.int .i64 0), (.int .i64 0), (.bool false), (.bool false), (.int .i64 0), (.bool false), (.int .i64 0), (.int .i64 0), (.int .i64 0)] [(0, 48), (48, 1)]), [(.t 4), (.c (.rv (.int .i64 (-1))))], none⟩, ⟨(some 6), (.bsl 49), [(.t 5)], none⟩, ⟨(some 7), (.call 17), [(.t 6)], none⟩, ⟨(some 3), .mv, [(.t 7)], none⟩, ⟨(some 8), (.ext 0), [(.t 3)], none⟩, ⟨(some 9), (.ext 1), [(.t 3)], none⟩, ⟨(some 1), .mv, [(.t 8)], none⟩, ⟨(some 2), .mv, [(.t 9)], none⟩]) (.seq (.reg [⟨(some 10), .mv, [(.t 2)], none⟩, ⟨(some 11), (.ibin .eql), [(.t 10), (.c (.rv (.int .i64 0)))], none⟩, ⟨(some 12), .mv, [(.t 11)], none⟩, ⟨(some 13), .mv, [(.t 1)], (some (12, true))⟩, ⟨(some 14), (.call 23), [(.t 13)], (some (12, true))⟩, ⟨(some 15), (.ibin .eql), [(.t 14), (.c (.rv (.int .i64 1)))], (some (12, true))⟩, ⟨(some 16), .pick, [(.t 12), (.t 15), (.c (.rv (.bool false)))], none⟩, ⟨(some 17), .mv, [(.t 16)], none⟩, ⟨(some 18), .mv, [(.t 1)], (some (17, true))⟩, ⟨(some 19), (.call 18), [(.t 18), (.c (.rv (.int .i64 0)))], (some (17, true))⟩, ⟨(some 20), (.ibin .eql), [(.t 19), (.c (.rv (.int .i64 1)))], (some (17, true))⟩, ⟨(some 21), .pick, [(.t 17), (.t 20), (.c (.rv (.bool false)))], none⟩, ⟨(some 22), .mv, [(.t 21)], none⟩, ⟨(some 23), .mv, [(.t 1)], (some (22, true))⟩, ⟨(some 24), (.call 30), [(.t 23), (.c (.rv (.int .i64 0)))], (some (22, true))⟩, ⟨(some 25), .pick, [(.t 22), (.t 24), (.c (.rv (.bool false)))], none⟩, ⟨(some 0), .mv, [(.t 25)], none⟩]) .ret)))
theorem k_decoupagelaw08_awake : FnOK Go.Proofs.Try.prog 16 26 c_decoupagelaw08_awake [(.t 0)] := fnOK_of (by kernel_rfl)

/- decoupage/decoupagelaw08.one -/
def c_decoupagelaw08_one : AC := (.seq (.reg [⟨(some 6), .mv, [(.c (.rv (.bool false)))], none⟩]) (.seq (.reg [⟨(some 7), .mv, [(.c (.rv (.int .i64 (-1))))], none⟩, ⟨(some 8), .mv, [(.c (.rv (.int .i64 0)))], none⟩]) (.seq (.reg [⟨(some 9), (.alloc [(.bool false), (.int .i64 0), (.int .i64 0), (.int .i64 0), (.int .i64 0), (.int .i64 0), (.int .i64 0), (.int .i64 0), (.int .i64 0), (.int .i64 0), (.int .i64 0), (.int .i64 0), (.int .i64 0), (.int .i64 0), (.int .i64 0), (.int .i64 0), (.int .i64 0), (.int .i64 0), (.int .i64 0), (.int .i64 0), (.int .i64 0), (.int .i64 0), (.int .i64 0), (.int .i64 0), (.int .i64 0), (.int .i64 0), (.int .i64 0), (.int .i64 0), (.int .i64 0), (.int .i64 0), (.int .i64 0), (.int .i64 0), (.int .i64 0), (.int .i64 0), (.int .i64 0), (.int .i64 0), (.int .i64 0), (.int .i64 0), (.int .i64 0), (.int .i64 0), (.int .i64 0), (.int .i64 0), (.bool false), (.bool false), (.int .i64 0), (.bool false), (.int .i64 0), (.int .i64 0)]), [], none⟩]) (.seq (.seq (.reg [⟨(some 11), .mv, [(.t 2)], none⟩, ⟨(some 12), (.ibin .geq), [(.t 11), (.c (.rv (.int .i64 0)))], none⟩, ⟨(some 13), .mv, [(.t 12)], none⟩, ⟨(some 14), .mv, [(.t 2)], (some (13, true))⟩, ⟨(some 15), .mv, [(.t 1)], (some (13, true))⟩, ⟨(some 16), .len, [(.t 15)], (some (13, true))⟩, ⟨(some 17), (.ibin .lss), [(.t 14), (.t 16)], (some (13, true))⟩, ⟨(some 18), .pick, [(.t 13), (.t 17), (.c (.rv (.bool false)))], none⟩]) (.seq (.cond (.t 18) (.regd [0, 0, 3, 7, 15, 0, 0, 96, 224, 480, 0, 0, 3072, 7199, 16383, 32767] [⟨(some 19), .mv, [(.t 1)], none⟩, ⟨(some 20), .mv, [(.t 2)], none⟩, ⟨(some 21), (.ixs 49), [(.t 19), (.t 20)], none⟩, ⟨(some 22), (.fld 48), [(.t 21)], none⟩, ⟨(some 23), (.load 1 false), [(.t 22)], none⟩, ⟨(some 24), .mv, [(.t 1)], none⟩, ⟨(some 25), .mv, [(.t 2)], none⟩, ⟨(some 26), (.ixs 49), [(.t 24), (.t 25)], none⟩, ⟨(some 27), (.fld 0), [(.t 26)], none⟩, ⟨(some 28), (.load 48 true), [(.t 27)], none⟩, ⟨(some 29), .mv, [(.t 1)], none⟩, ⟨(some 30), .mv, [(.t 2)], none⟩, ⟨(some 31), (.call 67), [(.t 29), (.t 30)], none⟩, ⟨(some 7), .mv, [(.t 23)], none⟩, ⟨none, (.store 48), [(.t 9), (.t 28)], none⟩, ⟨(some 8), .mv, [(.t 31)], none⟩]) .skip) .ent)) (.seq (.seq (.regd [0, 0, 3, 0, 15, 31, 63, 63, 255, 63, 1023, 2047, 4095, 8191, 8191, 32767, 8191, 131071, 262143, 524287, 1048575, 1048575, 4194303, 1048575, 1048575, 33554431, 67108863, 134217727, 268435455, 536870911, 536870911, 2147483647, 536870911, 536870911, 17179869183, 34359738367, 68719476735, 137438953471, 274877906943, 274877906943, 1099511627775, 274877906943, 274877906943, 8796093022207, 17592186044415, 35184372088831] [⟨(some 32), .mv, [(.t 0)], none⟩, ⟨(some 33), .mv, [(.t 2)], none⟩, ⟨(some 34), (.call 25), [(.t 32), (.t 33)], none⟩, ⟨(some 35), .mv, [(.t 7)], none⟩, ⟨(some 36), (.ibin .neq), [(.t 34), (.t 35)], none⟩, ⟨(some 37), .mv, [(.t 36)], none⟩, ⟨(some 38), .mv, [(.t 0)], (some (37, false))⟩, ⟨(some 39), .mv, [(.t 2)], (some (37, false))⟩, ⟨(some 40), (.call 26), [(.t 38), (.t 39)], (some (37, false))⟩, ⟨(some 41), (.load 48 true), [(.t 9)], (some (37, false))⟩, ⟨(some 42), (.eqs true true [.b, .i, .i, .i, .i, .i, .i, .i, .i, .i, .i, .i, .i, .i, .i, .i, .i, .i, .i, .i, .i, .i, .i, .i, .i, .i, .i, .i, .i, .i, .i, .i, .i, .i, .i, .i, .i, .i, .i, .i, .i, .i, .b, .b, .i, .b, .i, .i]), [(.t 40), (.t 41)], (some (37, false))⟩, ⟨(some 43), .pick, [(.t 37), (.c (.rv (.bool true))), (.t 42)], none⟩, ⟨(some 44), .mv, [(.t 43)], none⟩, ⟨(some 45), .mv, [(.t 0)], (some (44, false))⟩, ⟨(some 46), .mv, [(.t 2)], (some (44, false))⟩, ⟨(some 47), (.call 29), [(.t 45), (.t 46)], (some (44, false))⟩, ⟨(some 48), .mv, [(.t 8)], (some (44, false))⟩, ⟨(some 49), (.ibin .neq), [(.t 47), (.t 48)], (some (44, false))⟩, ⟨(some 50), .pick, [(.t 44), (.c (.rv (.bool true))), (.t 49)], none⟩, ⟨(some 51), .mv, [(.t 50)], none⟩, ⟨(some 52), .mv, [(.t 0)], (some (51, false))⟩, ⟨(some 53), .mv, [(.t 2)], (some (51, false))⟩, ⟨(some 54), (.call 30), [(.t 52), (.t 53)], (some (51, false))⟩, ⟨(some 55), .mv, [(.t 1)], (some (51, false))⟩, ⟨(some 56), .mv, [(.t 2)], (some (51, false))⟩, ⟨(some 57), (.call 60), [(.t 55), (.t 56)], (some (51, false))⟩, ⟨(some 58), (.eqb true), [(.t 54), (.t 57)], (some (51, false))⟩, ⟨(some 59), .pick, [(.t 51), (.c (.rv (.bool true))), (.t 58)], none⟩, ⟨(some 60), .mv, [(.t 59)], none⟩, ⟨(some 61), .mv, [(.t 0)], (some (60, false))⟩, ⟨(some 62), .mv, [(.t 2)], (some (60, false))⟩, ⟨(some 63), (.call 31), [(.t 61), (.t 62)], (some (60, false))⟩, ⟨(some 64), .mv, [(.t 1)], (some (60, false))⟩, ⟨(some 65), .mv, [(.t 2)], (some (60, false))⟩, ⟨(some 66), (.call 68), [(.t 64), (.t 65)], (some (60, false))⟩, ⟨(some 67), (.eqb true), [(.t 63), (.t 66)], (some (60, false))⟩, ⟨(some 68), .pick, [(.t 60), (.c (.rv (.bool true))), (.t 67)], none⟩, ⟨(some 69), .mv, [(.t 68)], none⟩, ⟨(some 70), .mv, [(.t 0)], (some (69, false))⟩, ⟨(some 71), .mv, [(.t 2)], (some (69, false))⟩, ⟨(some 72), (.call 18), [(.t 70), (.t 71)], (some (69, false))⟩, ⟨(some 73), .mv, [(.t 1)], (some (69, false))⟩, ⟨(some 74), .mv, [(.t 2)], (some (69, false))⟩, ⟨(some 75), (.call 69), [(.t 73), (.t 74)], (some (69, false))⟩, ⟨(some 76), (.ibin .neq), [(.t 72), (.t 75)], (some (69, false))⟩, ⟨(some 77), .pick, [(.t 69), (.c (.rv (.bool true))), (.t 76)], none⟩]) (.cond (.t 77) (.seq (.reg [⟨(some 6), .mv, [(.c (.rv (.bool false)))], none⟩]) .ret) .skip)) (.seq (.reg [⟨(some 78), .mv, [(.t 2)], none⟩, ⟨(some 79), (.ibin .geq), [(.t 78), (.c (.rv (.int .i64 0)))], none⟩, ⟨(some 80), .mv, [(.t 79)], none⟩, ⟨(some 81), .mv, [(.t 2)], (some (80, true))⟩, ⟨(some 82), .mv, [(.t 1)], (some (80, true))⟩, ⟨(some 83), .len, [(.t 82)], (some (80, true))⟩, ⟨(some 84), (.ibin .lss), [(.t 81), (.t 83)], (some (80, true))⟩, ⟨(some 85), .pick, [(.t 80), (.t 84), (.c (.rv (.bool false)))], none⟩, ⟨(some 10), .mv, [(.t 85)], none⟩]) (.seq (.reg [⟨(some 86), .mv, [(.t 10)], none⟩, ⟨(some 87), .not, [(.t 86)], none⟩, ⟨(some 88), .mv, [(.t 87)], none⟩, ⟨(some 89), .mv, [(.t 0)], (some (88, true))⟩, ⟨(some 90), .mv, [(.t 2)], (some (88, true))⟩, ⟨(some 91), (.call 24), [(.t 89), (.t 90)], (some (88, true))⟩, ⟨(some 92), .len, [(.t 91)], (some (88, true))⟩, ⟨(some 93), .mv, [(.t 0)], (some (88, true))⟩, ⟨(some 94), .mv, [(.t 2)], (some (88, true))⟩, ⟨(some 95), (.call 27), [(.t 93), (.t 94)], (some (88, true))⟩, ⟨(some 96), .len, [(.t 95)], (some (88, true))⟩, ⟨(some 97), (.ibin .add), [(.t 92), (.t 96)], (some (88, true))⟩, ⟨(some 98), .mv, [(.t 0)], (some (88, true))⟩, ⟨(some 99), .mv, [(.t 2)], (some (88, true))⟩, ⟨(some 100), (.call 28), [(.t 98), (.t 99)], (some (88, true))⟩, ⟨(some 101), .len, [(.t 100)], (some (88, true))⟩, ⟨(some 102), (.ibin .add), [(.t 97), (.t 101)], (some (88, true))⟩, ⟨(some 103), (.ibin .eql), [(.t 102), (.c (.rv (.int .i64 0)))], (some (88, true))⟩, ⟨(some 104), .pick, [(.t 88), (.t 103), (.c (.rv (.bool false)))], none⟩, ⟨(some 105), .mv, [(.t 104)], none⟩, ⟨(some 106), .mv, [(.t 10)], (some (105, false))⟩, ⟨(some 107), .mv, [(.t 106)], (some (105, false))⟩, ⟨(some 108), .mv, [(.t 0)], (some (107, true))⟩, ⟨(some 109), .mv, [(.t 2)], (some (107, true))⟩, ⟨(some 110), (.call 24), [(.t 108), (.t 109)], (some (107, true))⟩, ⟨(some 111), .mv, [(.t 1)], (some (107, true))⟩, ⟨(some 112), .mv, [(.t 2)], (some (107, true))⟩, ⟨(some 113), (.call 70), [(.t 111), (.t 112)], (some (107, true))⟩, ⟨(some 114), (.call 46), [(.t 110), (.t 113)], (some (107, true))⟩, ⟨(some 115), .pick, [(.t 107), (.t 114), (.c (.rv (.bool false)))], (some (105, false))⟩, ⟨(some 116), .mv, [(.t 115)], (some (105, false))⟩, ⟨(some 117), .mv, [(.t 0)], (some (116, true))⟩, ⟨(some 118), .mv, [(.t 2)], (some (116, true))⟩, ⟨(some 119), (.call 27), [(.t 117), (.t 118)], (some (116, true))⟩, ⟨(some 120), .mv, [(.t 1)], (some (116, true))⟩, ⟨(some 121), .mv, [(.t 2)], (some (116, true))⟩, ⟨(some 122), (.call 71), [(.t 120), (.t 121)], (some (116, true))⟩, ⟨(some 123), (.call 46), [(.t 119), (.t 122)], (some (116, true))⟩, ⟨(some 124), .pick, [(.t 116), (.t 123), (.c (.rv (.bool false)))], (some (105, false))⟩, ⟨(some 125), .mv, [(.t 124)], (some (105, false))⟩, ⟨(some 126), .mv, [(.t 0)], (some (125, true))⟩, ⟨(some 127), .mv, [(.t 2)], (some (125, true))⟩, ⟨(some 128), (.call 28), [(.t 126), (.t 127)], (some (125, true))⟩, ⟨(some 129), .mv, [(.t 1)], (some (125, true))⟩, ⟨(some 130), .mv, [(.t 2)], (some (125, true))⟩, ⟨(some 131), (.call 72), [(.t 129), (.t 130)], (some (125, true))⟩, ⟨(some 132), (.call 46), [(.t 128), (.t 131)], (some (125, true))⟩, ⟨(some 133), .pick, [(.t 125), (.t 132), (.c (.rv (.bool false)))], (some (105, false))⟩, ⟨(some 134), .pick, [(.t 105), (.c (.rv (.bool true))), (.t 133)], none⟩, ⟨(some 6), .mv, [(.t 134)], none⟩]) .ret)))))))
theorem k_decoupagelaw08_one : FnOK Go.Proofs.Try.prog 22 135 c_decoupagelaw08_one [(.t 6)] := fnOK_of (by kernel_rfl)


def kindsB : List CK → List RV → Bool
  | [], [] => true
  | .b :: ks, .bool _ :: rs => kindsB ks rs
  | .i :: ks, .int _ _ :: rs => kindsB ks rs
  | .s :: ks, .str _ :: rs => kindsB ks rs
  | _, _ => false
theorem cellsEq_refl : ∀ {ks : List CK} {rs : List RV}, kindsB ks rs = true → ∃ p : Prop, p ∧ cellsEq ks (rs.map .rv) (rs.map .rv) = some (p, true)
  | [], [], _ => ⟨True, trivial, rfl⟩
  | .b :: ks, .bool b :: rs, h => by
    obtain ⟨p, h1, h2⟩ := cellsEq_refl (ks := ks) (rs := rs) h
    exact ⟨True ∧ p, ⟨trivial, h1⟩, by simp -implicitDefEqProofs only [List.map_cons, cellsEq, cellEq, h2, beq_self_eq_true, Bool.and_true]⟩
  | .i :: ks, .int k n :: rs, h => by
    obtain ⟨p, h1, h2⟩ := cellsEq_refl (ks := ks) (rs := rs) h
    exact ⟨True ∧ p, ⟨trivial, h1⟩, by simp -implicitDefEqProofs only [List.map_cons, cellsEq, cellEq, h2, beq_self_eq_true, Bool.and_true]⟩
  | .s :: ks, .str s :: rs, h => by
    obtain ⟨p, h1, h2⟩ := cellsEq_refl (ks := ks) (rs := rs) h
    exact ⟨True ∧ p, ⟨trivial, h1⟩, by simp -implicitDefEqProofs only [List.map_cons, cellsEq, cellEq, h2, beq_self_eq_true, Bool.and_true]⟩
  | [], _ :: _, h => by simp [kindsB] at h
  | _ :: _, [], h => by simp [kindsB] at h
  | .b :: _, .int _ _ :: _, h => by simp [kindsB] at h
  | .b :: _, .str _ :: _, h => by simp [kindsB] at h
  | .i :: _, .bool _ :: _, h => by simp [kindsB] at h
  | .i :: _, .str _ :: _, h => by simp [kindsB] at h
  | .s :: _, .bool _ :: _, h => by simp [kindsB] at h
  | .s :: _, .int _ _ :: _, h => by simp [kindsB] at h
  | .b :: _, .sl _ _ :: _, h => by simp [kindsB] at h
  | .b :: _, .rop _ :: _, h => by simp [kindsB] at h
  | .b :: _, .nilp :: _, h => by simp [kindsB] at h
  | .b :: _, .nilsl :: _, h => by simp [kindsB] at h
  | .b :: _, .nili :: _, h => by simp [kindsB] at h
  | .b :: _, .nilf :: _, h => by simp [kindsB] at h
  | .b :: _, .slz :: _, h => by simp [kindsB] at h
  | .b :: _, .ifc _ _ :: _, h => by simp [kindsB] at h
  | .b :: _, .agg _ :: _, h => by simp [kindsB] at h
  | .b :: _, .fn _ _ :: _, h => by simp [kindsB] at h
  | .i :: _, .sl _ _ :: _, h => by simp [kindsB] at h
  | .i :: _, .rop _ :: _, h => by simp [kindsB] at h
  | .i :: _, .nilp :: _, h => by simp [kindsB] at h
  | .i :: _, .nilsl :: _, h => by simp [kindsB] at h
  | .i :: _, .nili :: _, h => by simp [kindsB] at h
  | .i :: _, .nilf :: _, h => by simp [kindsB] at h
  | .i :: _, .slz :: _, h => by simp [kindsB] at h
  | .i :: _, .ifc _ _ :: _, h => by simp [kindsB] at h
  | .i :: _, .agg _ :: _, h => by simp [kindsB] at h
  | .i :: _, .fn _ _ :: _, h => by simp [kindsB] at h
  | .s :: _, .sl _ _ :: _, h => by simp [kindsB] at h
  | .s :: _, .rop _ :: _, h => by simp [kindsB] at h
  | .s :: _, .nilp :: _, h => by simp [kindsB] at h
  | .s :: _, .nilsl :: _, h => by simp [kindsB] at h
  | .s :: _, .nili :: _, h => by simp [kindsB] at h
  | .s :: _, .nilf :: _, h => by simp [kindsB] at h
  | .s :: _, .slz :: _, h => by simp [kindsB] at h
  | .s :: _, .ifc _ _ :: _, h => by simp [kindsB] at h
  | .s :: _, .agg _ :: _, h => by simp [kindsB] at h
  | .s :: _, .fn _ _ :: _, h => by simp [kindsB] at h
theorem sty_eqs (s : Sty) : ∃ p : Prop, p ∧ cellsEq [.b, .i, .i, .i, .i, .i, .i, .i, .i, .i, .i, .i, .i, .i, .i, .i, .i, .i, .i, .i, .i, .i, .i, .i, .i, .i, .i, .i, .i, .i, .i, .i, .i, .i, .i, .i, .i, .i, .i, .i, .i, .i, .b, .b, .i, .b, .i, .i] (s.cells.map .rv) (s.cells.map .rv) = some (p, true) := cellsEq_refl rfl
theorem sty_zero : (default : Sty).cells = [.bool false, .int .i64 0, .int .i64 0, .int .i64 0, .int .i64 0, .int .i64 0, .int .i64 0, .int .i64 0, .int .i64 0, .int .i64 0, .int .i64 0, .int .i64 0, .int .i64 0, .int .i64 0, .int .i64 0, .int .i64 0, .int .i64 0, .int .i64 0, .int .i64 0, .int .i64 0, .int .i64 0, .int .i64 0, .int .i64 0, .int .i64 0, .int .i64 0, .int .i64 0, .int .i64 0, .int .i64 0, .int .i64 0, .int .i64 0, .int .i64 0, .int .i64 0, .int .i64 0, .int .i64 0, .int .i64 0, .int .i64 0, .int .i64 0, .int .i64 0, .int .i64 0, .int .i64 0, .int .i64 0, .int .i64 0, .bool false, .bool false, .int .i64 0, .bool false, .int .i64 0, .int .i64 0] := rfl
theorem sty_zerom : [SV.rv (.bool false), SV.rv (.int .i64 0), SV.rv (.int .i64 0), SV.rv (.int .i64 0), SV.rv (.int .i64 0), SV.rv (.int .i64 0), SV.rv (.int .i64 0), SV.rv (.int .i64 0), SV.rv (.int .i64 0), SV.rv (.int .i64 0), SV.rv (.int .i64 0), SV.rv (.int .i64 0), SV.rv (.int .i64 0), SV.rv (.int .i64 0), SV.rv (.int .i64 0), SV.rv (.int .i64 0), SV.rv (.int .i64 0), SV.rv (.int .i64 0), SV.rv (.int .i64 0), SV.rv (.int .i64 0), SV.rv (.int .i64 0), SV.rv (.int .i64 0), SV.rv (.int .i64 0), SV.rv (.int .i64 0), SV.rv (.int .i64 0), SV.rv (.int .i64 0), SV.rv (.int .i64 0), SV.rv (.int .i64 0), SV.rv (.int .i64 0), SV.rv (.int .i64 0), SV.rv (.int .i64 0), SV.rv (.int .i64 0), SV.rv (.int .i64 0), SV.rv (.int .i64 0), SV.rv (.int .i64 0), SV.rv (.int .i64 0), SV.rv (.int .i64 0), SV.rv (.int .i64 0), SV.rv (.int .i64 0), SV.rv (.int .i64 0), SV.rv (.int .i64 0), SV.rv (.int .i64 0), SV.rv (.bool false), SV.rv (.bool false), SV.rv (.int .i64 0), SV.rv (.bool false), SV.rv (.int .i64 0), SV.rv (.int .i64 0)] = (default : Sty).cells.map SV.rv := rfl

/-- A style that says nothing. -/
def plainS : Sty := { (default : Sty) with shown := true, pad := ⟨⟨1, 0⟩, ⟨1, 0⟩, ⟨1, 0⟩, ⟨1, 0⟩⟩ }
def plainTo (k : Nat) : Sty := { (default : Sty) with shown := true, pad := ⟨if 0 < k then ⟨1, 0⟩ else default, if 1 < k then ⟨1, 0⟩ else default, if 2 < k then ⟨1, 0⟩ else default, if 3 < k then ⟨1, 0⟩ else default⟩ }

theorem sp_Plain : CallR Go.Proofs.Try.prog 54 [] [] [] plainS.sv := by
  refine callR_G k_decoupagelaw06_Plain [] _ (by simp) (by simp [BkAll, bk_agg, bkAll_map, bk_rv, bk_fn, Sty.sv, Ln.sv, Nd.sv]) (fun K hK => ?_)
  simp -implicitDefEqProofs only [c_decoupagelaw06_Plain, go_sem, ↓reduceIte, Nat.reduceEqDiff, Nat.reduceAdd, Nat.reduceSub, Nat.reduceMul, Nat.reduceLeDiff, Nat.reduceLT, reduceCtorEq, Int.reduceToNat]
  repeat' (first | (simp -implicitDefEqProofs only [go_sem, ↓reduceIte, Nat.reduceEqDiff, Nat.reduceAdd, Nat.reduceSub, Nat.reduceMul, Nat.reduceLeDiff, Nat.reduceLT, reduceCtorEq, Int.reduceToNat]) | (with_reducible refine g_noent ?_) | (refine cdS (fun hg => ?_) (fun hg => ?_) <;> try simp -implicitDefEqProofs only [hg, Bool.not_true, Bool.not_false]) | (refine gdS (fun hg => ?_) (fun hg => ?_) <;> try simp -implicitDefEqProofs only [hg, Bool.not_true, Bool.not_false]) | (refine gddS (fun hg => ?_) (fun hg => ?_) <;> try simp -implicitDefEqProofs only [hg, Bool.not_true, Bool.not_false]) | ((with_reducible apply And.intro); focus (first | trivial | omega | decide | (simp -implicitDefEqProofs only [maxLen]; omega) | (simp [maxLen, sty_len, nd_len, ndL_len, lnL_len, intsL_len, rvs_len, lensS_len]; done) | (simp [maxLen, sty_len, nd_len, ndL_len, lnL_len, intsL_len, rvs_len, lensS_len]; omega) | (exact ⟨rfl, by decide⟩; done))) | fail)
  refine g_loop (ι := Nat) (fun k => [(4, .rv (.int .i64 k)), (0, .ptr 0 0), (1, .ptr 1 0)]) (fun k => [some (.var ((default : Sty).cells.map .rv)), some (.var ((plainTo k).cells.map .rv))]) (fun k => k ≤ 4) (fun k => 4 - k) 0 (by simp) (ent_env (by simp [lk])) (fun k hk K' hN hX hR => ?_)
  simp -implicitDefEqProofs only [go_sem, ↓reduceIte, Nat.reduceEqDiff, Nat.reduceAdd, Nat.reduceSub, Nat.reduceMul, Nat.reduceLeDiff, Nat.reduceLT, reduceCtorEq, Int.reduceToNat]
  refine cdS (fun hg => ?_) (fun hg => ?_)
  · have : k = 0 ∨ k = 1 ∨ k = 2 ∨ k = 3 := by simp at hg; omega
    rcases this with rfl | rfl | rfl | rfl
    all_goals
      repeat' (first | (simp -implicitDefEqProofs only [go_sem, ↓reduceIte, Nat.reduceEqDiff, Nat.reduceAdd, Nat.reduceSub, Nat.reduceMul, Nat.reduceLeDiff, Nat.reduceLT, reduceCtorEq, Int.reduceToNat, sty_len, wrap_up (k := 0) (by decide), wrap_up (k := 1) (by decide), wrap_up (k := 2) (by decide), wrap_up (k := 3) (by decide)]) | (with_reducible refine g_noent ?_) | (refine cdS (fun hg => ?_) (fun hg => ?_) <;> try simp -implicitDefEqProofs only [hg, Bool.not_true, Bool.not_false]) | (refine gdS (fun hg => ?_) (fun hg => ?_) <;> try simp -implicitDefEqProofs only [hg, Bool.not_true, Bool.not_false]) | (refine gddS (fun hg => ?_) (fun hg => ?_) <;> try simp -implicitDefEqProofs only [hg, Bool.not_true, Bool.not_false]) | ((with_reducible apply And.intro); focus (first | trivial | omega | decide | (simp -implicitDefEqProofs only [maxLen]; omega) | (simp [maxLen, sty_len, nd_len, ndL_len, lnL_len, intsL_len, rvs_len, lensS_len]; done) | (simp [maxLen, sty_len, nd_len, ndL_len, lnL_len, intsL_len, rvs_len, lensS_len]; omega))) | fail)
    · exact hN 1 _ _ (by omega) (by omega) (ent_env (by simp [lk]))
    · exact hN 2 _ _ (by omega) (by omega) (ent_env (by simp [lk]))
    · exact hN 3 _ _ (by omega) (by omega) (ent_env (by simp [lk]))
    · exact hN 4 _ _ (by omega) (by omega) (ent_env (by simp [lk]))
  · have hk4 : k = 4 := by simp at hg; omega
    subst hk4
    simp -implicitDefEqProofs only [go_sem, ↓reduceIte, Nat.reduceEqDiff, Nat.reduceAdd, Nat.reduceSub, Nat.reduceMul, Nat.reduceLeDiff, Nat.reduceLT, reduceCtorEq, Int.reduceToNat]
    refine hX _ _ _ ?_
    repeat' (first | (simp -implicitDefEqProofs only [go_sem, ↓reduceIte, Nat.reduceEqDiff, Nat.reduceAdd, Nat.reduceSub, Nat.reduceMul, Nat.reduceLeDiff, Nat.reduceLT, reduceCtorEq, Int.reduceToNat, sty_len, sty_all2]) | (with_reducible refine g_noent ?_) | (refine cdS (fun hg => ?_) (fun hg => ?_) <;> try simp -implicitDefEqProofs only [hg, Bool.not_true, Bool.not_false]) | (refine gdS (fun hg => ?_) (fun hg => ?_) <;> try simp -implicitDefEqProofs only [hg, Bool.not_true, Bool.not_false]) | (refine gddS (fun hg => ?_) (fun hg => ?_) <;> try simp -implicitDefEqProofs only [hg, Bool.not_true, Bool.not_false]) | ((with_reducible apply And.intro); focus (first | trivial | omega | decide | (simp -implicitDefEqProofs only [maxLen]; omega) | (simp [maxLen, sty_len, nd_len, ndL_len, lnL_len, intsL_len, rvs_len, lensS_len]; done) | (simp [maxLen, sty_len, nd_len, ndL_len, lnL_len, intsL_len, rvs_len, lensS_len]; omega) | (rfl; done) | (exact ⟨rfl, by decide⟩; done))) | fail)
    exact (hK _ _ (ret_c (rs := plainS.cells) rfl rfl rfl)).2

theorem one_chk : chk [⟨plainS, -1⟩] = 0 := by decide +kernel
theorem one_lists : kidsOf [⟨plainS, -1⟩] 0 = [] := by decide
theorem one_end : endAt [⟨plainS, -1⟩] 0 = 1 := by
  have : endS [⟨plainS, -1⟩] 0 = 1 := endS_leaf one_lists
  simp [endAt, inL, this]
theorem one_made : madeAt [⟨plainS, -1⟩] 0 = true := by
  simp [madeAt, inL, madeS_zero, shownL, plainS]

theorem sp_awake08 : CallR Go.Proofs.Try.prog 16 [] [] [] (.rv (.bool true)) := by
  refine callR_G k_decoupagelaw08_awake [] _ (by simp) (by simp [BkAll, bk_agg, bkAll_map, bk_rv, bk_fn, Sty.sv, Ln.sv, Nd.sv]) (fun K hK => ?_)
  have hk := sp_kin_OfR [⟨plainS, -1⟩] (by decide) one_chk 0 0
  have hl := sp_Len [⟨plainS, -1⟩]
  have he := sp_End [⟨plainS, -1⟩] 0
  have hm := sp_Made [⟨plainS, -1⟩] 0
  rw [one_end] at he
  rw [one_made] at hm
  have e1 : ((0 : Int) == 0) = true := rfl
  have e2 : (((1 : Nat) : Int) == 1) = true := rfl
  have e3 : ((1 : Int) == 1) = true := rfl
  have hz : (plainS.cells.map SV.rv) ++ [SV.rv (.int .i64 (-1))] = (⟨plainS, -1⟩ : Nd).cells.map SV.rv := rfl
  simp -implicitDefEqProofs only [c_decoupagelaw08_awake, go_sem, ↓reduceIte, Nat.reduceEqDiff, Nat.reduceAdd, Nat.reduceSub, Nat.reduceMul, Nat.reduceLeDiff, Nat.reduceLT, reduceCtorEq, Int.reduceToNat]
  have hcall1 := sp_Plain; repeat' (first | (simp -implicitDefEqProofs only [go_sem, ↓reduceIte, Nat.reduceEqDiff, Nat.reduceAdd, Nat.reduceSub, Nat.reduceMul, Nat.reduceLeDiff, Nat.reduceLT, reduceCtorEq, Int.reduceToNat, sty_len]) | (with_reducible refine g_noent ?_) | (with_reducible refine g_call0 hcall1 ?_) | (with_reducible refine g_calld0 hcall1 ?_) | (refine cdS (fun hg => ?_) (fun hg => ?_) <;> try simp -implicitDefEqProofs only [hg, Bool.not_true, Bool.not_false]) | (refine gdS (fun hg => ?_) (fun hg => ?_) <;> try simp -implicitDefEqProofs only [hg, Bool.not_true, Bool.not_false]) | (refine gddS (fun hg => ?_) (fun hg => ?_) <;> try simp -implicitDefEqProofs only [hg, Bool.not_true, Bool.not_false]) | ((with_reducible apply And.intro); focus (first | trivial | omega | decide | (simp -implicitDefEqProofs only [maxLen]; omega) | (simp [maxLen, sty_len, nd_len, ndL_len, lnL_len, intsL_len, rvs_len, lensS_len]; done) | (simp [maxLen, sty_len, nd_len, ndL_len, lnL_len, intsL_len, rvs_len, lensS_len]; omega))) | fail)
  refine g_call hk (pre_one rfl) trivial ?_
  have hcall2 := hl; have hcall3 := he; have hcall4 := hm; repeat' (first | (simp -implicitDefEqProofs only [go_sem, ↓reduceIte, Nat.reduceEqDiff, Nat.reduceAdd, Nat.reduceSub, Nat.reduceMul, Nat.reduceLeDiff, Nat.reduceLT, reduceCtorEq, Int.reduceToNat, e1, e2, e3]) | (with_reducible refine g_noent ?_) | (with_reducible refine g_call0 hcall2 ?_) | (with_reducible refine g_calld0 hcall2 ?_) | (with_reducible refine g_call0 hcall3 ?_) | (with_reducible refine g_calld0 hcall3 ?_) | (with_reducible refine g_call0 hcall4 ?_) | (with_reducible refine g_calld0 hcall4 ?_) | (refine cdS (fun hg => ?_) (fun hg => ?_) <;> try simp -implicitDefEqProofs only [hg, Bool.not_true, Bool.not_false]) | (refine gdS (fun hg => ?_) (fun hg => ?_) <;> try simp -implicitDefEqProofs only [hg, Bool.not_true, Bool.not_false]) | (refine gddS (fun hg => ?_) (fun hg => ?_) <;> try simp -implicitDefEqProofs only [hg, Bool.not_true, Bool.not_false]) | ((with_reducible apply And.intro); focus (first | trivial | omega | decide | (simp -implicitDefEqProofs only [maxLen]; omega) | (simp [maxLen, sty_len, nd_len, ndL_len, lnL_len, intsL_len, rvs_len, lensS_len]; done) | (simp [maxLen, sty_len, nd_len, ndL_len, lnL_len, intsL_len, rvs_len, lensS_len]; omega))) | fail)
  exact (hK _ _ (ret_t rfl)).2

theorem endAt_out {l : List Nd} {n : Int} (h : inL l n = false) : endAt l n = 0 := by simp [endAt, h]
theorem natsI_nil : intsL (natsI []) = [] := rfl

set_option maxRecDepth 20000 in
set_option maxHeartbeats 8000000 in
theorem sp_one (l : List Nd) (ht : treeOK l = true) (hb : l.length ≤ 8589934592) (n : Int) : CallR Go.Proofs.Try.prog 22 [.rv (kinV l), .rv (.sl 49 (ndL l)), .rv (.int .i64 n)] [] [] (.rv (.bool true)) := by
  refine callR_G k_decoupagelaw08_one [.rv (kinV l), .rv (.sl 49 (ndL l)), .rv (.int .i64 n)] _ (by simp) (by simp [BkAll, bk_agg, bkAll_map, bk_rv, bk_fn, Sty.sv, Ln.sv, Nd.sv]) (fun K hK => ?_)
  have hs := tree_shp ht
  have hlen := ndL_len l
  have hpar := sp_Parent l n
  have hst := sp_Style l n
  have hdp := sp_Deep l n
  have hmd := sp_Made l n
  have hmr := sp_ref08_Made l ht n
  have hou := sp_Out l n
  have hor := sp_ref08_Out l ht n
  have hen := sp_End l n
  have her := sp_ref08_End l hs hb n
  have hki := sp_KidsP l n hb
  have hfl := sp_FlowP l n hb
  have hup := sp_Up l n hs hb
  have same : ∀ a : List Nat, a.length ≤ 8589934592 → CallR Go.Proofs.Try.prog 46 [.rv (.sl 1 (intsL (natsI a))), .rv (.sl 1 (intsL (natsI a)))] [] [] (.rv (.bool true)) := fun a ha => by
    simpa using sp_ref08_Same (natsI a) (natsI a) (by rw [natsI_len]; exact ha)
  simp -implicitDefEqProofs only [c_decoupagelaw08_one, go_sem, ↓reduceIte, Nat.reduceEqDiff, Nat.reduceAdd, Nat.reduceSub, Nat.reduceMul, Nat.reduceLeDiff, Nat.reduceLT, reduceCtorEq, Int.reduceToNat]
  rcases inL_cases l n with ⟨h1, hi⟩ | ⟨h1, h0, hi⟩ | ⟨k, rfl, hk, hi⟩
  · have k0 : kidsAt l n = [] := by simp [kidsAt, hi]
    have f0 : flowAt l n = [] := by simp [flowAt, k0]
    have u0 : upAt l n = [] := by simp [upAt, hi]
    have p0 : parAt l n = -1 := by simp [parAt, hi]
    have s0 : styAt l n = default := by simp [styAt, hi]
    have d0 : deepAt l n = 0 := by simp [deepAt, hi]
    rw [k0, natsI_nil] at hki
    rw [f0, natsI_nil] at hfl
    rw [u0, natsI_nil] at hup
    rw [p0] at hpar
    rw [s0] at hst
    rw [d0] at hdp
    obtain ⟨pe, hpe, heq⟩ := sty_eqs (default : Sty)
    have w0 : IntKind.i64.wrap (((0 : Nat) : Int) + ((0 : Nat) : Int)) = ((0 : Nat) : Int) := by decide
    have b0 : (((0 : Nat) : Int) == 0) = true := rfl
    have e1 : decide (n ≥ 0) = false := decide_eq_false (by omega)
    have hcall5 := hpar; have hcall6 := hst; have hcall7 := hdp; have hcall8 := hmd; have hcall9 := hmr; have hcall10 := hou; have hcall11 := hor; have hcall12 := hen; have hcall13 := her; have hcall14 := hki; have hcall15 := hfl; have hcall16 := hup; repeat' (first | (simp -implicitDefEqProofs only [go_sem, ↓reduceIte, Nat.reduceEqDiff, Nat.reduceAdd, Nat.reduceSub, Nat.reduceMul, Nat.reduceLeDiff, Nat.reduceLT, reduceCtorEq, Int.reduceToNat, e1, hlen, bne_self_eq_false, beq_self_eq_true, sty_zerom, sty_all2, heq, w0, b0, sty_len]) | (with_reducible refine g_noent ?_) | (with_reducible refine g_call0 hcall5 ?_) | (with_reducible refine g_calld0 hcall5 ?_) | (with_reducible refine g_call0 hcall6 ?_) | (with_reducible refine g_calld0 hcall6 ?_) | (with_reducible refine g_call0 hcall7 ?_) | (with_reducible refine g_calld0 hcall7 ?_) | (with_reducible refine g_call0 hcall8 ?_) | (with_reducible refine g_calld0 hcall8 ?_) | (with_reducible refine g_call0 hcall9 ?_) | (with_reducible refine g_calld0 hcall9 ?_) | (with_reducible refine g_call0 hcall10 ?_) | (with_reducible refine g_calld0 hcall10 ?_) | (with_reducible refine g_call0 hcall11 ?_) | (with_reducible refine g_calld0 hcall11 ?_) | (with_reducible refine g_call0 hcall12 ?_) | (with_reducible refine g_calld0 hcall12 ?_) | (with_reducible refine g_call0 hcall13 ?_) | (with_reducible refine g_calld0 hcall13 ?_) | (with_reducible refine g_call0 hcall14 ?_) | (with_reducible refine g_calld0 hcall14 ?_) | (with_reducible refine g_call0 hcall15 ?_) | (with_reducible refine g_calld0 hcall15 ?_) | (with_reducible refine g_call0 hcall16 ?_) | (with_reducible refine g_calld0 hcall16 ?_) | (refine cdS (fun hg => ?_) (fun hg => ?_) <;> try simp -implicitDefEqProofs only [hg, Bool.not_true, Bool.not_false]) | (refine gdS (fun hg => ?_) (fun hg => ?_) <;> try simp -implicitDefEqProofs only [hg, Bool.not_true, Bool.not_false]) | (refine gddS (fun hg => ?_) (fun hg => ?_) <;> try simp -implicitDefEqProofs only [hg, Bool.not_true, Bool.not_false]) | ((with_reducible apply And.intro); focus (first | trivial | omega | decide | (simp -implicitDefEqProofs only [maxLen]; omega) | (simp [maxLen, sty_len, nd_len, ndL_len, lnL_len, intsL_len, rvs_len, lensS_len]; done) | (simp [maxLen, sty_len, nd_len, ndL_len, lnL_len, intsL_len, rvs_len, lensS_len]; omega))) | fail)
    exact (hK _ _ (ret_t rfl)).2
  · have k0 : kidsAt l n = [] := by simp [kidsAt, hi]
    have f0 : flowAt l n = [] := by simp [flowAt, k0]
    have u0 : upAt l n = [] := by simp [upAt, hi]
    have p0 : parAt l n = -1 := by simp [parAt, hi]
    have s0 : styAt l n = default := by simp [styAt, hi]
    have d0 : deepAt l n = 0 := by simp [deepAt, hi]
    rw [k0, natsI_nil] at hki
    rw [f0, natsI_nil] at hfl
    rw [u0, natsI_nil] at hup
    rw [p0] at hpar
    rw [s0] at hst
    rw [d0] at hdp
    obtain ⟨pe, hpe, heq⟩ := sty_eqs (default : Sty)
    have w0 : IntKind.i64.wrap (((0 : Nat) : Int) + ((0 : Nat) : Int)) = ((0 : Nat) : Int) := by decide
    have b0 : (((0 : Nat) : Int) == 0) = true := rfl
    have e1 : decide (n ≥ 0) = true := decide_eq_true (by omega)
    have e2 : decide (n < (l.length : Int)) = false := decide_eq_false (by omega)
    have hcall17 := hpar; have hcall18 := hst; have hcall19 := hdp; have hcall20 := hmd; have hcall21 := hmr; have hcall22 := hou; have hcall23 := hor; have hcall24 := hen; have hcall25 := her; have hcall26 := hki; have hcall27 := hfl; have hcall28 := hup; repeat' (first | (simp -implicitDefEqProofs only [go_sem, ↓reduceIte, Nat.reduceEqDiff, Nat.reduceAdd, Nat.reduceSub, Nat.reduceMul, Nat.reduceLeDiff, Nat.reduceLT, reduceCtorEq, Int.reduceToNat, e1, e2, hlen, bne_self_eq_false, beq_self_eq_true, sty_zerom, sty_all2, heq, w0, b0, sty_len]) | (with_reducible refine g_noent ?_) | (with_reducible refine g_call0 hcall17 ?_) | (with_reducible refine g_calld0 hcall17 ?_) | (with_reducible refine g_call0 hcall18 ?_) | (with_reducible refine g_calld0 hcall18 ?_) | (with_reducible refine g_call0 hcall19 ?_) | (with_reducible refine g_calld0 hcall19 ?_) | (with_reducible refine g_call0 hcall20 ?_) | (with_reducible refine g_calld0 hcall20 ?_) | (with_reducible refine g_call0 hcall21 ?_) | (with_reducible refine g_calld0 hcall21 ?_) | (with_reducible refine g_call0 hcall22 ?_) | (with_reducible refine g_calld0 hcall22 ?_) | (with_reducible refine g_call0 hcall23 ?_) | (with_reducible refine g_calld0 hcall23 ?_) | (with_reducible refine g_call0 hcall24 ?_) | (with_reducible refine g_calld0 hcall24 ?_) | (with_reducible refine g_call0 hcall25 ?_) | (with_reducible refine g_calld0 hcall25 ?_) | (with_reducible refine g_call0 hcall26 ?_) | (with_reducible refine g_calld0 hcall26 ?_) | (with_reducible refine g_call0 hcall27 ?_) | (with_reducible refine g_calld0 hcall27 ?_) | (with_reducible refine g_call0 hcall28 ?_) | (with_reducible refine g_calld0 hcall28 ?_) | (refine cdS (fun hg => ?_) (fun hg => ?_) <;> try simp -implicitDefEqProofs only [hg, Bool.not_true, Bool.not_false]) | (refine gdS (fun hg => ?_) (fun hg => ?_) <;> try simp -implicitDefEqProofs only [hg, Bool.not_true, Bool.not_false]) | (refine gddS (fun hg => ?_) (fun hg => ?_) <;> try simp -implicitDefEqProofs only [hg, Bool.not_true, Bool.not_false]) | ((with_reducible apply And.intro); focus (first | trivial | omega | decide | (simp -implicitDefEqProofs only [maxLen]; omega) | (simp [maxLen, sty_len, nd_len, ndL_len, lnL_len, intsL_len, rvs_len, lensS_len]; done) | (simp [maxLen, sty_len, nd_len, ndL_len, lnL_len, intsL_len, rvs_len, lensS_len]; omega))) | fail)
    exact (hK _ _ (ret_t rfl)).2
  · have e1 : decide ((k : Int) ≥ 0) = true := decide_eq_true (by omega)
    have e2 : decide ((k : Int) < (l.length : Int)) = true := decide_eq_true (by omega)
    have p0 : parAt l k = parL l k := by simp [parAt, hi]
    have s0 : styAt l k = (l[k]'hk).s := by simp [styAt, hi, hk]
    have d0 : deepAt l k = depth l k := by simp [deepAt, hi]
    have k0 : kidsAt l k = kidsOf l k := by simp [kidsAt, hi]
    rw [p0] at hpar
    rw [s0] at hst
    rw [d0] at hdp
    rw [k0] at hki
    obtain ⟨pe, hpe, heq⟩ := sty_eqs (l[k]'hk).s
    have hx := ndL_get hk
    have hpk := parL_eq hk
    have hkr := sp_ref08_Kids l hb k hk
    have hfr := sp_ref08_Flow l ht hb k hk
    have hur := sp_ref08_Up l hs hb k
    have hrd := sp_ref07_Deep l k (hs.wf.mono (by omega)) hk hb
    have sk := same (kidsOf l k) (by have := kidsTo_len (l := l) (k := l.length) (p := k); unfold kidsOf; omega)
    have sf := same (flowAt l k) (by have := List.length_filter_le (fun (m : Nat) => stayAt l m) (kidsAt l k); have := kidsAt_len l k; unfold flowAt; omega)
    have su := same (upAt l k) (by unfold upAt; rw [hi]; have := pth_len (l := l) k; simp; omega)
    have hcall29 := hpar; have hcall30 := hst; have hcall31 := hdp; have hcall32 := hrd; have hcall33 := hmd; have hcall34 := hmr; have hcall35 := hou; have hcall36 := hor; have hcall37 := hen; have hcall38 := her; have hcall39 := hki; have hcall40 := hfl; have hcall41 := hup; have hcall42 := hkr; have hcall43 := hfr; have hcall44 := hur; have hcall45 := sk; have hcall46 := sf; have hcall47 := su; repeat' (first | (simp -implicitDefEqProofs only [go_sem, ↓reduceIte, Nat.reduceEqDiff, Nat.reduceAdd, Nat.reduceSub, Nat.reduceMul, Nat.reduceLeDiff, Nat.reduceLT, reduceCtorEq, Int.reduceToNat, e1, e2, hlen, hx, hpk, nd_len, nd_drop0, nd_st, bne_self_eq_false, beq_self_eq_true, sty_all2, heq, sty_len]) | (with_reducible refine g_noent ?_) | (with_reducible refine g_call0 hcall29 ?_) | (with_reducible refine g_calld0 hcall29 ?_) | (with_reducible refine g_call0 hcall30 ?_) | (with_reducible refine g_calld0 hcall30 ?_) | (with_reducible refine g_call0 hcall31 ?_) | (with_reducible refine g_calld0 hcall31 ?_) | (with_reducible refine g_call0 hcall32 ?_) | (with_reducible refine g_calld0 hcall32 ?_) | (with_reducible refine g_call0 hcall33 ?_) | (with_reducible refine g_calld0 hcall33 ?_) | (with_reducible refine g_call0 hcall34 ?_) | (with_reducible refine g_calld0 hcall34 ?_) | (with_reducible refine g_call0 hcall35 ?_) | (with_reducible refine g_calld0 hcall35 ?_) | (with_reducible refine g_call0 hcall36 ?_) | (with_reducible refine g_calld0 hcall36 ?_) | (with_reducible refine g_call0 hcall37 ?_) | (with_reducible refine g_calld0 hcall37 ?_) | (with_reducible refine g_call0 hcall38 ?_) | (with_reducible refine g_calld0 hcall38 ?_) | (with_reducible refine g_call0 hcall39 ?_) | (with_reducible refine g_calld0 hcall39 ?_) | (with_reducible refine g_call0 hcall40 ?_) | (with_reducible refine g_calld0 hcall40 ?_) | (with_reducible refine g_call0 hcall41 ?_) | (with_reducible refine g_calld0 hcall41 ?_) | (with_reducible refine g_call0 hcall42 ?_) | (with_reducible refine g_calld0 hcall42 ?_) | (with_reducible refine g_call0 hcall43 ?_) | (with_reducible refine g_calld0 hcall43 ?_) | (with_reducible refine g_call0 hcall44 ?_) | (with_reducible refine g_calld0 hcall44 ?_) | (with_reducible refine g_call0 hcall45 ?_) | (with_reducible refine g_calld0 hcall45 ?_) | (with_reducible refine g_call0 hcall46 ?_) | (with_reducible refine g_calld0 hcall46 ?_) | (with_reducible refine g_call0 hcall47 ?_) | (with_reducible refine g_calld0 hcall47 ?_) | (refine cdS (fun hg => ?_) (fun hg => ?_) <;> try simp -implicitDefEqProofs only [hg, Bool.not_true, Bool.not_false]) | (refine gdS (fun hg => ?_) (fun hg => ?_) <;> try simp -implicitDefEqProofs only [hg, Bool.not_true, Bool.not_false]) | (refine gddS (fun hg => ?_) (fun hg => ?_) <;> try simp -implicitDefEqProofs only [hg, Bool.not_true, Bool.not_false]) | ((with_reducible apply And.intro); focus (first | trivial | omega | decide | (simp -implicitDefEqProofs only [maxLen]; omega) | (simp [maxLen, sty_len, nd_len, ndL_len, lnL_len, intsL_len, rvs_len, lensS_len]; done) | (simp [maxLen, sty_len, nd_len, ndL_len, lnL_len, intsL_len, rvs_len, lensS_len]; omega))) | fail)
    exact (hK _ _ (ret_t rfl)).2
end Go.Eng
