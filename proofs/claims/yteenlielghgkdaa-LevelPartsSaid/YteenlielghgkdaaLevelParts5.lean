/- Part 5 of the proof: K12, U1, H1, L1. -/
import Derived.Test.YteenlielghgkdaaLevelParts4
set_option linter.unusedSimpArgs false
set_option linter.unusedVariables false
/- kin: the document's functions. -/
namespace Go.Eng
open Go
/- decoupage/decoupageref08.Made -/
def c_decoupageref08_Made : AC := (.seq (.reg [⟨(some 4), .mv, [(.c (.rv (.bool false)))], none⟩]) (.seq (.seq (.reg [⟨(some 5), .mv, [(.t 1)], none⟩, ⟨(some 6), (.ibin .lss), [(.t 5), (.c (.rv (.int .i64 0)))], none⟩, ⟨(some 7), .mv, [(.t 6)], none⟩, ⟨(some 8), .mv, [(.t 1)], (some (7, false))⟩, ⟨(some 9), .mv, [(.t 0)], (some (7, false))⟩, ⟨(some 10), .len, [(.t 9)], (some (7, false))⟩, ⟨(some 11), (.ibin .geq), [(.t 8), (.t 10)], (some (7, false))⟩, ⟨(some 12), .pick, [(.t 7), (.c (.rv (.bool true))), (.t 11)], none⟩]) (.cond (.t 12) (.seq (.reg [⟨(some 4), .mv, [(.c (.rv (.bool false)))], none⟩]) .ret) .skip)) (.seq (.seq (.block 0 (.loop (.seq (.seq (.reg [⟨(some 13), .mv, [(.t 1)], none⟩, ⟨(some 14), (.ibin .geq), [(.t 13), (.c (.rv (.int .i64 0)))], none⟩]) (.cond (.t 14) .skip (.exit 0))) (.seq (.block 1 (.seq (.seq (.reg [⟨(some 15), .mv, [(.t 0)], none⟩, ⟨(some 16), .mv, [(.t 1)], none⟩, ⟨(some 17), (.ixs 49), [(.t 15), (.t 16)], none⟩, ⟨(some 18), (.fld 0), [(.t 17)], none⟩, ⟨(some 19), (.fld 0), [(.t 18)], none⟩, ⟨(some 20), (.load 1 false), [(.t 19)], none⟩, ⟨(some 21), .not, [(.t 20)], none⟩]) (.cond (.t 21) (.seq (.reg [⟨(some 4), .mv, [(.c (.rv (.bool false)))], none⟩]) .ret) .skip)) (.reg [⟨(some 22), .mv, [(.t 0)], none⟩, ⟨(some 23), .mv, [(.t 1)], none⟩, ⟨(some 24), (.ixs 49), [(.t 22), (.t 23)], none⟩, ⟨(some 25), (.fld 48), [(.t 24)], none⟩, ⟨(some 26), (.load 1 false), [(.t 25)], none⟩, ⟨(some 1), .mv, [(.t 26)], none⟩]))) .ent)))) .ent) (.seq (.reg [⟨(some 4), .mv, [(.c (.rv (.bool true)))], none⟩]) .ret))))
theorem k_decoupageref08_Made : FnOK Go.Proofs.Try.prog 60 27 c_decoupageref08_Made [(.t 4)] := fnOK_of (by kernel_rfl)

/- decoupage/decoupageref08.Out -/
def c_decoupageref08_Out : AC := (.seq (.reg [⟨(some 4), .mv, [(.c (.rv (.bool false)))], none⟩]) (.seq (.reg [⟨(some 5), .mv, [(.t 1)], none⟩, ⟨(some 6), (.ibin .gtr), [(.t 5), (.c (.rv (.int .i64 0)))], none⟩, ⟨(some 7), .mv, [(.t 6)], none⟩, ⟨(some 8), .mv, [(.t 0)], (some (7, true))⟩, ⟨(some 9), .mv, [(.t 1)], (some (7, true))⟩, ⟨(some 10), (.call 60), [(.t 8), (.t 9)], (some (7, true))⟩, ⟨(some 11), .pick, [(.t 7), (.t 10), (.c (.rv (.bool false)))], none⟩, ⟨(some 12), .mv, [(.t 11)], none⟩, ⟨(some 13), .mv, [(.t 0)], (some (12, true))⟩, ⟨(some 14), .mv, [(.t 1)], (some (12, true))⟩, ⟨(some 15), (.ixs 49), [(.t 13), (.t 14)], (some (12, true))⟩, ⟨(some 16), (.fld 0), [(.t 15)], (some (12, true))⟩, ⟨(some 17), (.fld 1), [(.t 16)], (some (12, true))⟩, ⟨(some 18), (.load 1 false), [(.t 17)], (some (12, true))⟩, ⟨(some 19), (.ibin .geq), [(.t 18), (.c (.rv (.int .i64 2)))], (some (12, true))⟩, ⟨(some 20), .pick, [(.t 12), (.t 19), (.c (.rv (.bool false)))], none⟩, ⟨(some 4), .mv, [(.t 20)], none⟩]) .ret))
theorem k_decoupageref08_Out : FnOK Go.Proofs.Try.prog 68 21 c_decoupageref08_Out [(.t 4)] := fnOK_of (by kernel_rfl)

/- decoupage/decoupageref08.Kids -/
def c_decoupageref08_Kids : AC := (.seq (.reg [⟨(some 4), .mv, [(.c (.rv .nilsl))], none⟩]) (.seq (.reg [⟨(some 5), .mv, [(.c (.rv .nilsl))], none⟩]) (.seq (.seq (.reg [⟨(some 7), .mv, [(.t 0)], none⟩, ⟨(some 8), .len, [(.t 7)], none⟩, ⟨(some 9), .mv, [(.c (.rv (.int .i64 0)))], none⟩]) (.seq (.block 0 (.loop (.seq (.reg [⟨(some 10), (.ibin .lss), [(.t 9), (.t 8)], none⟩]) (.seq (.cond (.t 10) .skip (.exit 0)) (.seq (.seq (.block 1 (.seq (.reg [⟨(some 11), .mv, [(.t 9)], none⟩, ⟨(some 6), .mv, [(.t 11)], none⟩]) (.seq (.reg [⟨(some 12), .mv, [(.t 6)], none⟩, ⟨(some 13), (.ibin .gtr), [(.t 12), (.c (.rv (.int .i64 0)))], none⟩, ⟨(some 14), .mv, [(.t 13)], none⟩, ⟨(some 15), .mv, [(.t 0)], (some (14, true))⟩, ⟨(some 16), .mv, [(.t 6)], (some (14, true))⟩, ⟨(some 17), (.ixs 49), [(.t 15), (.t 16)], (some (14, true))⟩, ⟨(some 18), (.fld 48), [(.t 17)], (some (14, true))⟩, ⟨(some 19), (.load 1 false), [(.t 18)], (some (14, true))⟩, ⟨(some 20), .mv, [(.t 1)], (some (14, true))⟩, ⟨(some 21), (.ibin .eql), [(.t 19), (.t 20)], (some (14, true))⟩, ⟨(some 22), .pick, [(.t 14), (.t 21), (.c (.rv (.bool false)))], none⟩]) (.seq (.cond (.t 22) (.reg [⟨(some 23), .mv, [(.t 5)], none⟩, ⟨(some 24), .mv, [(.t 6)], none⟩, ⟨(some 25), (.bsl 1), [(.t 24)], none⟩, ⟨(some 26), (.app 1 8), [(.t 23), (.t 25)], none⟩, ⟨(some 5), .mv, [(.t 26)], none⟩]) .skip) .ent)))) .ent) (.reg [⟨(some 27), (.ibin .add), [(.t 9), (.c (.rv (.int .i64 1)))], none⟩, ⟨(some 9), .mv, [(.t 27)], none⟩])))))) .ent)) (.seq (.reg [⟨(some 28), .mv, [(.t 5)], none⟩, ⟨(some 4), .mv, [(.t 28)], none⟩]) .ret))))
theorem k_decoupageref08_Kids : FnOK Go.Proofs.Try.prog 70 29 c_decoupageref08_Kids [(.t 4)] := fnOK_of (by kernel_rfl)

/- decoupage/decoupageref08.Flow -/
def c_decoupageref08_Flow : AC := (.seq (.reg [⟨(some 4), .mv, [(.c (.rv .nilsl))], none⟩]) (.seq (.reg [⟨(some 5), .mv, [(.c (.rv .nilsl))], none⟩]) (.seq (.seq (.reg [⟨(some 7), .mv, [(.t 0)], none⟩, ⟨(some 8), .len, [(.t 7)], none⟩, ⟨(some 9), .mv, [(.c (.rv (.int .i64 0)))], none⟩]) (.seq (.block 0 (.loop (.seq (.reg [⟨(some 10), (.ibin .lss), [(.t 9), (.t 8)], none⟩]) (.seq (.cond (.t 10) .skip (.exit 0)) (.seq (.seq (.block 1 (.seq (.reg [⟨(some 11), .mv, [(.t 9)], none⟩, ⟨(some 6), .mv, [(.t 11)], none⟩]) (.seq (.reg [⟨(some 12), .mv, [(.t 6)], none⟩, ⟨(some 13), (.ibin .gtr), [(.t 12), (.c (.rv (.int .i64 0)))], none⟩, ⟨(some 14), .mv, [(.t 13)], none⟩, ⟨(some 15), .mv, [(.t 0)], (some (14, true))⟩, ⟨(some 16), .mv, [(.t 6)], (some (14, true))⟩, ⟨(some 17), (.ixs 49), [(.t 15), (.t 16)], (some (14, true))⟩, ⟨(some 18), (.fld 48), [(.t 17)], (some (14, true))⟩, ⟨(some 19), (.load 1 false), [(.t 18)], (some (14, true))⟩, ⟨(some 20), .mv, [(.t 1)], (some (14, true))⟩, ⟨(some 21), (.ibin .eql), [(.t 19), (.t 20)], (some (14, true))⟩, ⟨(some 22), .pick, [(.t 14), (.t 21), (.c (.rv (.bool false)))], none⟩, ⟨(some 23), .mv, [(.t 22)], none⟩, ⟨(some 24), .mv, [(.t 0)], (some (23, true))⟩, ⟨(some 25), .mv, [(.t 6)], (some (23, true))⟩, ⟨(some 26), (.call 60), [(.t 24), (.t 25)], (some (23, true))⟩, ⟨(some 27), .pick, [(.t 23), (.t 26), (.c (.rv (.bool false)))], none⟩, ⟨(some 28), .mv, [(.t 27)], none⟩, ⟨(some 29), .mv, [(.t 0)], (some (28, true))⟩, ⟨(some 30), .mv, [(.t 6)], (some (28, true))⟩, ⟨(some 31), (.call 68), [(.t 29), (.t 30)], (some (28, true))⟩, ⟨(some 32), .not, [(.t 31)], (some (28, true))⟩, ⟨(some 33), .pick, [(.t 28), (.t 32), (.c (.rv (.bool false)))], none⟩]) (.seq (.cond (.t 33) (.reg [⟨(some 34), .mv, [(.t 5)], none⟩, ⟨(some 35), .mv, [(.t 6)], none⟩, ⟨(some 36), (.bsl 1), [(.t 35)], none⟩, ⟨(some 37), (.app 1 8), [(.t 34), (.t 36)], none⟩, ⟨(some 5), .mv, [(.t 37)], none⟩]) .skip) .ent)))) .ent) (.reg [⟨(some 38), (.ibin .add), [(.t 9), (.c (.rv (.int .i64 1)))], none⟩, ⟨(some 9), .mv, [(.t 38)], none⟩])))))) .ent)) (.seq (.reg [⟨(some 39), .mv, [(.t 5)], none⟩, ⟨(some 4), .mv, [(.t 39)], none⟩]) .ret))))
theorem k_decoupageref08_Flow : FnOK Go.Proofs.Try.prog 71 40 c_decoupageref08_Flow [(.t 4)] := fnOK_of (by kernel_rfl)

/- decoupage/decoupageref08.Up -/
def c_decoupageref08_Up : AC := (.seq (.reg [⟨(some 4), .mv, [(.c (.rv .nilsl))], none⟩]) (.seq (.reg [⟨(some 5), .mv, [(.c (.rv .nilsl))], none⟩]) (.seq (.seq (.reg [⟨(some 7), .mv, [(.t 1)], none⟩, ⟨(some 8), (.ibin .lss), [(.t 7), (.c (.rv (.int .i64 0)))], none⟩, ⟨(some 9), .mv, [(.t 8)], none⟩, ⟨(some 10), .mv, [(.t 1)], (some (9, false))⟩, ⟨(some 11), .mv, [(.t 0)], (some (9, false))⟩, ⟨(some 12), .len, [(.t 11)], (some (9, false))⟩, ⟨(some 13), (.ibin .geq), [(.t 10), (.t 12)], (some (9, false))⟩, ⟨(some 14), .pick, [(.t 9), (.c (.rv (.bool true))), (.t 13)], none⟩]) (.cond (.t 14) (.seq (.reg [⟨(some 4), .mv, [(.c (.rv .nilsl))], none⟩]) .ret) .skip)) (.seq (.seq (.reg [⟨(some 15), .mv, [(.t 0)], none⟩, ⟨(some 16), .mv, [(.t 1)], none⟩, ⟨(some 17), (.ixs 49), [(.t 15), (.t 16)], none⟩, ⟨(some 18), (.fld 48), [(.t 17)], none⟩, ⟨(some 19), (.load 1 false), [(.t 18)], none⟩, ⟨(some 6), .mv, [(.t 19)], none⟩]) (.seq (.block 0 (.loop (.seq (.seq (.reg [⟨(some 20), .mv, [(.t 6)], none⟩, ⟨(some 21), (.ibin .geq), [(.t 20), (.c (.rv (.int .i64 0)))], none⟩]) (.cond (.t 21) .skip (.exit 0))) (.seq (.seq (.block 1 (.reg [⟨(some 27), .mv, [(.t 5)], none⟩, ⟨(some 28), .mv, [(.t 6)], none⟩, ⟨(some 29), (.bsl 1), [(.t 28)], none⟩, ⟨(some 30), (.app 1 8), [(.t 27), (.t 29)], none⟩, ⟨(some 5), .mv, [(.t 30)], none⟩])) .ent) (.reg [⟨(some 22), .mv, [(.t 0)], none⟩, ⟨(some 23), .mv, [(.t 6)], none⟩, ⟨(some 24), (.ixs 49), [(.t 22), (.t 23)], none⟩, ⟨(some 25), (.fld 48), [(.t 24)], none⟩, ⟨(some 26), (.load 1 false), [(.t 25)], none⟩, ⟨(some 6), .mv, [(.t 26)], none⟩]))))) .ent)) (.seq (.reg [⟨(some 31), .mv, [(.t 5)], none⟩, ⟨(some 4), .mv, [(.t 31)], none⟩]) .ret)))))
theorem k_decoupageref08_Up : FnOK Go.Proofs.Try.prog 72 32 c_decoupageref08_Up [(.t 4)] := fnOK_of (by kernel_rfl)

/- decoupage/decoupageref08.Below -/
def c_decoupageref08_Below : AC := (.seq (.reg [⟨(some 6), .mv, [(.c (.rv (.bool false)))], none⟩]) (.seq (.reg [⟨(some 7), .mv, [(.t 1)], none⟩, ⟨(some 8), (.ibin .geq), [(.t 7), (.c (.rv (.int .i64 0)))], none⟩, ⟨(some 9), .mv, [(.t 8)], none⟩, ⟨(some 10), .mv, [(.t 1)], (some (9, true))⟩, ⟨(some 11), .mv, [(.t 0)], (some (9, true))⟩, ⟨(some 12), .len, [(.t 11)], (some (9, true))⟩, ⟨(some 13), (.ibin .lss), [(.t 10), (.t 12)], (some (9, true))⟩, ⟨(some 14), .pick, [(.t 9), (.t 13), (.c (.rv (.bool false)))], none⟩, ⟨(some 15), .mv, [(.t 14)], none⟩, ⟨(some 16), .mv, [(.t 2)], (some (15, true))⟩, ⟨(some 17), (.ibin .geq), [(.t 16), (.c (.rv (.int .i64 0)))], (some (15, true))⟩, ⟨(some 18), .pick, [(.t 15), (.t 17), (.c (.rv (.bool false)))], none⟩, ⟨(some 19), .mv, [(.t 18)], none⟩, ⟨(some 20), .mv, [(.t 2)], (some (19, true))⟩, ⟨(some 21), .mv, [(.t 0)], (some (19, true))⟩, ⟨(some 22), .len, [(.t 21)], (some (19, true))⟩, ⟨(some 23), (.ibin .lss), [(.t 20), (.t 22)], (some (19, true))⟩, ⟨(some 24), .pick, [(.t 19), (.t 23), (.c (.rv (.bool false)))], none⟩, ⟨(some 25), .mv, [(.t 24)], none⟩, ⟨(some 26), .mv, [(.t 0)], (some (25, true))⟩, ⟨(some 27), .mv, [(.t 1)], (some (25, true))⟩, ⟨(some 28), .mv, [(.t 2)], (some (25, true))⟩, ⟨(some 29), (.call 64), [(.t 26), (.t 27), (.t 28)], (some (25, true))⟩, ⟨(some 30), .pick, [(.t 25), (.t 29), (.c (.rv (.bool false)))], none⟩, ⟨(some 6), .mv, [(.t 30)], none⟩]) .ret))
theorem k_decoupageref08_Below : FnOK Go.Proofs.Try.prog 20 31 c_decoupageref08_Below [(.t 6)] := fnOK_of (by kernel_rfl)

/- decoupage/decoupageref08.End -/
def c_decoupageref08_End : AC := (.seq (.reg [⟨(some 4), .mv, [(.c (.rv (.int .i64 0)))], none⟩]) (.seq (.reg [⟨(some 5), .mv, [(.c (.rv (.int .i64 (-1))))], none⟩]) (.seq (.seq (.reg [⟨(some 7), .mv, [(.t 0)], none⟩, ⟨(some 8), .len, [(.t 7)], none⟩, ⟨(some 9), .mv, [(.c (.rv (.int .i64 0)))], none⟩]) (.seq (.block 0 (.loop (.seq (.reg [⟨(some 10), (.ibin .lss), [(.t 9), (.t 8)], none⟩]) (.seq (.cond (.t 10) .skip (.exit 0)) (.seq (.seq (.block 1 (.seq (.reg [⟨(some 11), .mv, [(.t 9)], none⟩, ⟨(some 6), .mv, [(.t 11)], none⟩]) (.seq (.reg [⟨(some 12), .mv, [(.t 0)], none⟩, ⟨(some 13), .mv, [(.t 1)], none⟩, ⟨(some 14), .mv, [(.t 6)], none⟩, ⟨(some 15), (.call 20), [(.t 12), (.t 13), (.t 14)], none⟩]) (.seq (.cond (.t 15) (.reg [⟨(some 16), .mv, [(.t 6)], none⟩, ⟨(some 5), .mv, [(.t 16)], none⟩]) .skip) .ent)))) .ent) (.reg [⟨(some 17), (.ibin .add), [(.t 9), (.c (.rv (.int .i64 1)))], none⟩, ⟨(some 9), .mv, [(.t 17)], none⟩])))))) .ent)) (.seq (.reg [⟨(some 18), .mv, [(.t 5)], none⟩, ⟨(some 19), (.ibin .add), [(.t 18), (.c (.rv (.int .i64 1)))], none⟩, ⟨(some 4), .mv, [(.t 19)], none⟩]) .ret))))
theorem k_decoupageref08_End : FnOK Go.Proofs.Try.prog 69 20 c_decoupageref08_End [(.t 4)] := fnOK_of (by kernel_rfl)

/- decoupage/decoupageref08.Same -/
def c_decoupageref08_Same : AC := (.seq (.reg [⟨(some 4), .mv, [(.c (.rv (.bool false)))], none⟩]) (.seq (.seq (.reg [⟨(some 6), .mv, [(.t 0)], none⟩, ⟨(some 7), .len, [(.t 6)], none⟩, ⟨(some 8), .mv, [(.t 1)], none⟩, ⟨(some 9), .len, [(.t 8)], none⟩, ⟨(some 10), (.ibin .neq), [(.t 7), (.t 9)], none⟩]) (.cond (.t 10) (.seq (.reg [⟨(some 4), .mv, [(.c (.rv (.bool false)))], none⟩]) .ret) .skip)) (.seq (.seq (.reg [⟨(some 11), .mv, [(.t 0)], none⟩, ⟨(some 12), .len, [(.t 11)], none⟩, ⟨(some 13), .mv, [(.c (.rv (.int .i64 0)))], none⟩]) (.seq (.block 0 (.loop (.seq (.reg [⟨(some 14), (.ibin .lss), [(.t 13), (.t 12)], none⟩]) (.seq (.cond (.t 14) .skip (.exit 0)) (.seq (.seq (.block 1 (.seq (.reg [⟨(some 15), .mv, [(.t 13)], none⟩, ⟨(some 5), .mv, [(.t 15)], none⟩]) (.seq (.regd [0, 0, 3, 7, 0, 0, 48, 112, 255] [⟨(some 16), .mv, [(.t 0)], none⟩, ⟨(some 17), .mv, [(.t 5)], none⟩, ⟨(some 18), (.ixs 1), [(.t 16), (.t 17)], none⟩, ⟨(some 19), (.load 1 false), [(.t 18)], none⟩, ⟨(some 20), .mv, [(.t 1)], none⟩, ⟨(some 21), .mv, [(.t 5)], none⟩, ⟨(some 22), (.ixs 1), [(.t 20), (.t 21)], none⟩, ⟨(some 23), (.load 1 false), [(.t 22)], none⟩, ⟨(some 24), (.ibin .neq), [(.t 19), (.t 23)], none⟩]) (.cond (.t 24) (.seq (.reg [⟨(some 4), .mv, [(.c (.rv (.bool false)))], none⟩]) .ret) .skip)))) .ent) (.reg [⟨(some 25), (.ibin .add), [(.t 13), (.c (.rv (.int .i64 1)))], none⟩, ⟨(some 13), .mv, [(.t 25)], none⟩])))))) .ent)) (.seq (.reg [⟨(some 4), .mv, [(.c (.rv (.bool true)))], none⟩]) .ret))))
theorem k_decoupageref08_Same : FnOK Go.Proofs.Try.prog 46 26 c_decoupageref08_Same [(.t 4)] := fnOK_of (by kernel_rfl)


theorem tree_shp {l : List Nd} (ht : treeOK l = true) : Shp l := shape_iff.1 (by unfold treeOK at ht; simp -implicitDefEqProofs only [Bool.and_eq_true] at ht; exact ht.1)
theorem tree_sty {l : List Nd} (ht : treeOK l = true) {k : Nat} (hk : k < l.length) : styOK (l[k]'hk).s = true := by
  unfold treeOK at ht
  simp -implicitDefEqProofs only [Bool.and_eq_true, List.all_eq_true] at ht
  exact ht.2 _ (List.getElem_mem hk)
theorem sty_pos {s : Sty} (h : styOK s = true) : 0 ≤ s.position ∧ s.position ≤ 3 := by
  unfold styOK tailOK at h
  simp -implicitDefEqProofs only [Bool.and_eq_true, decide_eq_true_eq] at h
  exact ⟨h.2.1.1.1.1, h.2.1.1.1.2⟩
theorem chk_tree {l : List Nd} (h : chk l = 0) : treeOK l = true := by
  unfold chk at h
  cases ht : treeOK l with
  | true => rfl
  | false => rw [ht] at h; simp at h

theorem inL_cases (l : List Nd) (n : Int) : (n < 0 ∧ inL l n = false) ∨ ((l.length : Int) ≤ n ∧ 0 ≤ n ∧ inL l n = false) ∨ ∃ k : Nat, n = k ∧ k < l.length ∧ inL l n = true := by
  by_cases h0 : n < 0
  · exact .inl ⟨h0, by simp [inL]; omega⟩
  · by_cases h1 : n < l.length
    · exact .inr (.inr ⟨n.toNat, by omega, by omega, by simp [inL]; omega⟩)
    · exact .inr (.inl ⟨by omega, by omega, by simp [inL]; omega⟩)

theorem sp_ref08_Made (l : List Nd) (ht : treeOK l = true) (n : Int) : CallR Go.Proofs.Try.prog 60 [.rv (.sl 49 (ndL l)), .rv (.int .i64 n)] [] [] (.rv (.bool (madeAt l n))) := by
  refine callR_G k_decoupageref08_Made [.rv (.sl 49 (ndL l)), .rv (.int .i64 n)] _ (by simp) (by simp [BkAll, bk_agg, bkAll_map, bk_rv, bk_fn, Sty.sv, Ln.sv, Nd.sv]) (fun K hK => ?_)
  have hlen := ndL_len l
  have hs := tree_shp ht
  simp -implicitDefEqProofs only [c_decoupageref08_Made, go_sem, ↓reduceIte, Nat.reduceEqDiff, Nat.reduceAdd, Nat.reduceSub, Nat.reduceMul, Nat.reduceLeDiff, Nat.reduceLT, reduceCtorEq, Int.reduceToNat]
  rcases inL_cases l n with ⟨h1, hi⟩ | ⟨h1, h0, hi⟩ | ⟨k, rfl, hk, hi⟩
  · have e1 : decide (n < 0) = true := decide_eq_true h1
    repeat' (first | (simp -implicitDefEqProofs only [go_sem, ↓reduceIte, Nat.reduceEqDiff, Nat.reduceAdd, Nat.reduceSub, Nat.reduceMul, Nat.reduceLeDiff, Nat.reduceLT, reduceCtorEq, Int.reduceToNat, e1, hlen]) | (with_reducible refine g_noent ?_) | (refine cdS (fun hg => ?_) (fun hg => ?_) <;> try simp -implicitDefEqProofs only [hg, Bool.not_true, Bool.not_false]) | (refine gdS (fun hg => ?_) (fun hg => ?_) <;> try simp -implicitDefEqProofs only [hg, Bool.not_true, Bool.not_false]) | (refine gddS (fun hg => ?_) (fun hg => ?_) <;> try simp -implicitDefEqProofs only [hg, Bool.not_true, Bool.not_false]) | ((with_reducible apply And.intro); focus (first | trivial | omega | decide | (simp -implicitDefEqProofs only [maxLen]; omega) | (simp [maxLen, sty_len, nd_len, ndL_len, lnL_len, intsL_len, rvs_len, lensS_len]; done) | (simp [maxLen, sty_len, nd_len, ndL_len, lnL_len, intsL_len, rvs_len, lensS_len]; omega))) | fail)
    exact (hK _ _ (ret_t (by simp [madeAt, hi, lk]))).2
  · have e1 : decide (n < 0) = false := decide_eq_false (by omega)
    have e2 : decide (n ≥ (l.length : Int)) = true := decide_eq_true h1
    repeat' (first | (simp -implicitDefEqProofs only [go_sem, ↓reduceIte, Nat.reduceEqDiff, Nat.reduceAdd, Nat.reduceSub, Nat.reduceMul, Nat.reduceLeDiff, Nat.reduceLT, reduceCtorEq, Int.reduceToNat, e1, e2, hlen]) | (with_reducible refine g_noent ?_) | (refine cdS (fun hg => ?_) (fun hg => ?_) <;> try simp -implicitDefEqProofs only [hg, Bool.not_true, Bool.not_false]) | (refine gdS (fun hg => ?_) (fun hg => ?_) <;> try simp -implicitDefEqProofs only [hg, Bool.not_true, Bool.not_false]) | (refine gddS (fun hg => ?_) (fun hg => ?_) <;> try simp -implicitDefEqProofs only [hg, Bool.not_true, Bool.not_false]) | ((with_reducible apply And.intro); focus (first | trivial | omega | decide | (simp -implicitDefEqProofs only [maxLen]; omega) | (simp [maxLen, sty_len, nd_len, ndL_len, lnL_len, intsL_len, rvs_len, lensS_len]; done) | (simp [maxLen, sty_len, nd_len, ndL_len, lnL_len, intsL_len, rvs_len, lensS_len]; omega))) | fail)
    exact (hK _ _ (ret_t (by simp [madeAt, hi, lk]))).2
  · have e1 : decide ((k : Int) < 0) = false := decide_eq_false (by omega)
    have e2 : decide ((k : Int) ≥ (l.length : Int)) = false := decide_eq_false (by omega)
    repeat' (first | (simp -implicitDefEqProofs only [go_sem, ↓reduceIte, Nat.reduceEqDiff, Nat.reduceAdd, Nat.reduceSub, Nat.reduceMul, Nat.reduceLeDiff, Nat.reduceLT, reduceCtorEq, Int.reduceToNat, e1, e2, hlen]) | (with_reducible refine g_noent ?_) | (refine cdS (fun hg => ?_) (fun hg => ?_) <;> try simp -implicitDefEqProofs only [hg, Bool.not_true, Bool.not_false]) | (refine gdS (fun hg => ?_) (fun hg => ?_) <;> try simp -implicitDefEqProofs only [hg, Bool.not_true, Bool.not_false]) | (refine gddS (fun hg => ?_) (fun hg => ?_) <;> try simp -implicitDefEqProofs only [hg, Bool.not_true, Bool.not_false]) | ((with_reducible apply And.intro); focus (first | trivial | omega | decide | (simp -implicitDefEqProofs only [maxLen]; omega) | (simp [maxLen, sty_len, nd_len, ndL_len, lnL_len, intsL_len, rvs_len, lensS_len]; done) | (simp [maxLen, sty_len, nd_len, ndL_len, lnL_len, intsL_len, rvs_len, lensS_len]; omega))) | fail)
    refine g_loop (ι := Nat) (fun i => [(1, .rv (.int .i64 (atI (pth l k) i))), (0, .rv (.sl 49 (ndL l)))]) (fun _ => []) (fun i => i ≤ (pth l k).length ∧ ((pth l k).drop i).all (shownL l) = (pth l k).all (shownL l)) (fun i => (pth l k).length - i) 0 (by simp) (by rw [atI_zero]; exact ent_env (by simp [lk])) (fun i hi' K' hN hX hR => ?_)
    obtain ⟨hi1, hi2⟩ := hi'
    simp -implicitDefEqProofs only [go_sem, ↓reduceIte, Nat.reduceEqDiff, Nat.reduceAdd, Nat.reduceSub, Nat.reduceMul, Nat.reduceLeDiff, Nat.reduceLT, reduceCtorEq, Int.reduceToNat]
    refine cdS (fun hg => ?_) (fun hg => ?_)
    · have hil : i < (pth l k).length := atI_iff.1 (by simpa using hg)
      have hat := atI_lt hil
      have hlt : (pth l k)[i] < l.length := pth_lt hk hil
      have hx := ndL_get hlt
      have hpar := parL_eq hlt
      have hnx := par_at hs.wf k hk i hil
      have hsh := shownL_eq hlt
      have hs0 : ((l[(pth l k)[i]]'hlt).cells)[0]? = some (.bool (l[(pth l k)[i]]'hlt).s.shown) := rfl
      repeat' (first | (simp -implicitDefEqProofs only [go_sem, ↓reduceIte, Nat.reduceEqDiff, Nat.reduceAdd, Nat.reduceSub, Nat.reduceMul, Nat.reduceLeDiff, Nat.reduceLT, reduceCtorEq, Int.reduceToNat, hlen, nd_len, nd_drop0, hat, hx, hpar, hnx, hs0, hsh]) | (with_reducible refine g_noent ?_) | (refine cdS (fun hg => ?_) (fun hg => ?_) <;> try simp -implicitDefEqProofs only [hg, Bool.not_true, Bool.not_false]) | (refine gdS (fun hg => ?_) (fun hg => ?_) <;> try simp -implicitDefEqProofs only [hg, Bool.not_true, Bool.not_false]) | (refine gddS (fun hg => ?_) (fun hg => ?_) <;> try simp -implicitDefEqProofs only [hg, Bool.not_true, Bool.not_false]) | ((with_reducible apply And.intro); focus (first | trivial | omega | decide | (simp -implicitDefEqProofs only [maxLen]; omega) | (simp [maxLen, sty_len, nd_len, ndL_len, lnL_len, intsL_len, rvs_len, lensS_len]; done) | (simp [maxLen, sty_len, nd_len, ndL_len, lnL_len, intsL_len, rvs_len, lensS_len]; omega))) | fail)
      · refine hR _ _ (hK _ _ (ret_t ?_)).2
        have : (pth l k).all (shownL l) = false := all_fail hil hi2 (by simpa using hg)
        simp [madeAt, hi, madeS, this, lk]
      · exact hN (i + 1) _ _ ⟨by omega, all_next hil hi2 (by simpa using hg)⟩ (by omega) (ent_env (by simp [lk]))
    · have hil : ¬ i < (pth l k).length := fun h => by have := atI_iff.2 h; simp at hg; omega
      simp -implicitDefEqProofs only [go_sem, ↓reduceIte, Nat.reduceEqDiff, Nat.reduceAdd, Nat.reduceSub, Nat.reduceMul, Nat.reduceLeDiff, Nat.reduceLT, reduceCtorEq, Int.reduceToNat]
      refine hX _ _ _ ?_
      repeat' (first | (simp -implicitDefEqProofs only [go_sem, ↓reduceIte, Nat.reduceEqDiff, Nat.reduceAdd, Nat.reduceSub, Nat.reduceMul, Nat.reduceLeDiff, Nat.reduceLT, reduceCtorEq, Int.reduceToNat]) | (with_reducible refine g_noent ?_) | (refine cdS (fun hg => ?_) (fun hg => ?_) <;> try simp -implicitDefEqProofs only [hg, Bool.not_true, Bool.not_false]) | (refine gdS (fun hg => ?_) (fun hg => ?_) <;> try simp -implicitDefEqProofs only [hg, Bool.not_true, Bool.not_false]) | (refine gddS (fun hg => ?_) (fun hg => ?_) <;> try simp -implicitDefEqProofs only [hg, Bool.not_true, Bool.not_false]) | ((with_reducible apply And.intro); focus (first | trivial | omega | decide | (simp -implicitDefEqProofs only [maxLen]; omega) | (simp [maxLen, sty_len, nd_len, ndL_len, lnL_len, intsL_len, rvs_len, lensS_len]; done) | (simp [maxLen, sty_len, nd_len, ndL_len, lnL_len, intsL_len, rvs_len, lensS_len]; omega))) | fail)
      refine (hK _ _ (ret_t ?_)).2
      have := all_done (by omega) hi2
      simp [madeAt, hi, madeS, this, lk]

theorem sp_ref08_Out (l : List Nd) (ht : treeOK l = true) (n : Int) : CallR Go.Proofs.Try.prog 68 [.rv (.sl 49 (ndL l)), .rv (.int .i64 n)] [] [] (.rv (.bool (outAt l n))) := by
  refine callR_G k_decoupageref08_Out [.rv (.sl 49 (ndL l)), .rv (.int .i64 n)] _ (by simp) (by simp [BkAll, bk_agg, bkAll_map, bk_rv, bk_fn, Sty.sv, Ln.sv, Nd.sv]) (fun K hK => ?_)
  have hlen := ndL_len l
  have hm := sp_ref08_Made l ht n
  simp -implicitDefEqProofs only [c_decoupageref08_Out, go_sem, ↓reduceIte, Nat.reduceEqDiff, Nat.reduceAdd, Nat.reduceSub, Nat.reduceMul, Nat.reduceLeDiff, Nat.reduceLT, reduceCtorEq, Int.reduceToNat]
  cases hi : madeAt l n with
  | false =>
    rw [hi] at hm
    have hcall1 := hm; repeat' (first | (simp -implicitDefEqProofs only [go_sem, ↓reduceIte, Nat.reduceEqDiff, Nat.reduceAdd, Nat.reduceSub, Nat.reduceMul, Nat.reduceLeDiff, Nat.reduceLT, reduceCtorEq, Int.reduceToNat]) | (with_reducible refine g_noent ?_) | (with_reducible refine g_call0 hcall1 ?_) | (with_reducible refine g_calld0 hcall1 ?_) | (refine cdS (fun hg => ?_) (fun hg => ?_) <;> try simp -implicitDefEqProofs only [hg, Bool.not_true, Bool.not_false]) | (refine gdS (fun hg => ?_) (fun hg => ?_) <;> try simp -implicitDefEqProofs only [hg, Bool.not_true, Bool.not_false]) | (refine gddS (fun hg => ?_) (fun hg => ?_) <;> try simp -implicitDefEqProofs only [hg, Bool.not_true, Bool.not_false]) | ((with_reducible apply And.intro); focus (first | trivial | omega | decide | (simp -implicitDefEqProofs only [maxLen]; omega) | (simp [maxLen, sty_len, nd_len, ndL_len, lnL_len, intsL_len, rvs_len, lensS_len]; done) | (simp [maxLen, sty_len, nd_len, ndL_len, lnL_len, intsL_len, rvs_len, lensS_len]; omega))) | fail)
    all_goals exact (hK _ _ (ret_t (by simp [outAt, hi, lk]))).2
  | true =>
    rw [hi] at hm
    have hin : inL l n = true := by simp [madeAt] at hi; exact hi.1
    obtain ⟨k, rfl, hk⟩ := inL_nat hin
    have hx := ndL_get hk
    have hs : styAt l k = (l[k]'hk).s := by simp [styAt, hin, hk]
    obtain ⟨q1, q2⟩ := sty_pos (tree_sty ht hk)
    have hp : ((l[k]'hk).cells.drop 1)[0]? = some (.int .i64 (l[k]'hk).s.position) := rfl
    have hcall2 := hm; repeat' (first | (simp -implicitDefEqProofs only [go_sem, ↓reduceIte, Nat.reduceEqDiff, Nat.reduceAdd, Nat.reduceSub, Nat.reduceMul, Nat.reduceLeDiff, Nat.reduceLT, reduceCtorEq, Int.reduceToNat, hx, hlen, nd_len, hp]) | (with_reducible refine g_noent ?_) | (with_reducible refine g_call0 hcall2 ?_) | (with_reducible refine g_calld0 hcall2 ?_) | (refine cdS (fun hg => ?_) (fun hg => ?_) <;> try simp -implicitDefEqProofs only [hg, Bool.not_true, Bool.not_false]) | (refine gdS (fun hg => ?_) (fun hg => ?_) <;> try simp -implicitDefEqProofs only [hg, Bool.not_true, Bool.not_false]) | (refine gddS (fun hg => ?_) (fun hg => ?_) <;> try simp -implicitDefEqProofs only [hg, Bool.not_true, Bool.not_false]) | ((with_reducible apply And.intro); focus (first | trivial | omega | decide | (simp -implicitDefEqProofs only [maxLen]; omega) | (simp [maxLen, sty_len, nd_len, ndL_len, lnL_len, intsL_len, rvs_len, lensS_len]; done) | (simp [maxLen, sty_len, nd_len, ndL_len, lnL_len, intsL_len, rvs_len, lensS_len]; omega))) | fail)
    · refine (hK _ _ (ret_t ?_)).2
      simp -implicitDefEqProofs only [lk, if_true, outAt, hi, hs]
      clear hK hs hp
      simp at hg
      congr 2
      rw [Bool.eq_iff_iff]; simp; omega
    · refine (hK _ _ (ret_t ?_)).2
      simp -implicitDefEqProofs only [lk, if_true, outAt, hi, hs]
      clear hK hs hp
      simp at hg
      simp [hg]

theorem sp_ref08_Kids (l : List Nd) (hb : l.length ≤ 8589934592) (n : Nat) (hn : n < l.length) : CallR Go.Proofs.Try.prog 70 [.rv (.sl 49 (ndL l)), .rv (.int .i64 n)] [] [] (.rv (.sl 1 (intsL (natsI (kidsOf l n))))) := by
  refine callR_G k_decoupageref08_Kids [.rv (.sl 49 (ndL l)), .rv (.int .i64 n)] _ (by simp) (by simp [BkAll, bk_agg, bkAll_map, bk_rv, bk_fn, Sty.sv, Ln.sv, Nd.sv]) (fun K hK => ?_)
  have hlen := ndL_len l
  simp -implicitDefEqProofs only [c_decoupageref08_Kids, hlen, go_sem, ↓reduceIte, Nat.reduceEqDiff, Nat.reduceAdd, Nat.reduceSub, Nat.reduceMul, Nat.reduceLeDiff, Nat.reduceLT, reduceCtorEq, Int.reduceToNat]
  refine g_loop (ι := Nat) (fun k => [(9, .rv (.int .i64 k)), (8, .rv (.int .i64 l.length)), (5, .row 0 (kidsTo l k n).length (kidsTo l k n).length), (0, .rv (.sl 49 (ndL l))), (1, .rv (.int .i64 n))]) (fun k => [some (.row 1 (kidsTo l k n).length (rvs (intsL (natsI (kidsTo l k n)))))]) (fun k => k ≤ l.length) (fun k => l.length - k) 0 (by simp) ((ent_ghostv 5 1 0 rfl).trans (ent_env (by simp [lk, kidsTo_zero]))) (fun k hk K' hN hX hR => ?_)
  simp -implicitDefEqProofs only [go_sem, ↓reduceIte, Nat.reduceEqDiff, Nat.reduceAdd, Nat.reduceSub, Nat.reduceMul, Nat.reduceLeDiff, Nat.reduceLT, reduceCtorEq, Int.reduceToNat]
  refine cdS (fun hg => ?_) (fun hg => ?_)
  · have hk4 : k < l.length := by simp at hg; omega
    have hx := ndL_get hk4
    have hpk := parL_eq hk4
    have wu := wrap_up (k := k) (by omega)
    have hkl := kidsTo_len (l := l) (k := k) (p := n)
    have hs := kidsTo_succ (l := l) (k := k) (p := n)
    by_cases hc : 0 < k ∧ parL l k = n
    · rw [if_pos hc] at hs
      have e1 : decide ((k : Int) > 0) = true := decide_eq_true (by omega)
      have e2 : (parL l k == (n : Int)) = true := by simp [hc.2]
      have htl : (intsL (natsI (kidsTo l k n))).length = (kidsTo l k n).length := by simp [intsL, natsI]
      have htk : (intsL (natsI (kidsTo l k n))).take (kidsTo l k n).length = intsL (natsI (kidsTo l k n)) := List.take_of_length_le (by omega)
      have hap : natsI (kidsTo l k n) ++ [(k : Int)] = natsI (kidsTo l (k + 1) n) := by rw [hs]; simp [natsI]
      have hll : (kidsTo l (k + 1) n).length = (kidsTo l k n).length + 1 := by rw [hs]; simp
      repeat' (first | (simp -implicitDefEqProofs only [go_sem, ↓reduceIte, Nat.reduceEqDiff, Nat.reduceAdd, Nat.reduceSub, Nat.reduceMul, Nat.reduceLeDiff, Nat.reduceLT, reduceCtorEq, Int.reduceToNat, e1, e2, hlen, hx, nd_len, nd_drop0, hpk, wu, htl, htk, rvs_app1, hap]) | (with_reducible refine g_noent ?_) | (refine cdS (fun hg => ?_) (fun hg => ?_) <;> try simp -implicitDefEqProofs only [hg, Bool.not_true, Bool.not_false]) | (refine gdS (fun hg => ?_) (fun hg => ?_) <;> try simp -implicitDefEqProofs only [hg, Bool.not_true, Bool.not_false]) | (refine gddS (fun hg => ?_) (fun hg => ?_) <;> try simp -implicitDefEqProofs only [hg, Bool.not_true, Bool.not_false]) | ((with_reducible apply And.intro); focus (first | trivial | omega | decide | (simp -implicitDefEqProofs only [maxLen]; omega) | (simp [maxLen, sty_len, nd_len, ndL_len, lnL_len, intsL_len, rvs_len, lensS_len]; done) | (simp [maxLen, sty_len, nd_len, ndL_len, lnL_len, intsL_len, rvs_len, lensS_len]; omega))) | fail)
      refine hN (k + 1) _ _ (by omega) (by omega) ?_
      rw [hll]
      exact ent_tail (h' := [some (.row 1 ((kidsTo l k n).length + 1) (rvs (intsL (natsI (kidsTo l (k + 1) n)))))]) (C := [some (.row 1 0 [[.rv (.int .i64 k)]])]) (by simp) ⟨clH_rvs, trivial⟩ (by simp [ClEnv, lk, clS_rv, clS_row])
    · rw [if_neg hc, List.append_nil] at hs
      have nx : ∀ e, ClEnv 1 e [(9, .rv (.int .i64 (k + 1 : Nat))), (8, .rv (.int .i64 l.length)), (5, .row 0 (kidsTo l k n).length (kidsTo l k n).length), (0, .rv (.sl 49 (ndL l))), (1, .rv (.int .i64 n))] → K' .normal ⟨e, [some (.row 1 (kidsTo l k n).length (rvs (intsL (natsI (kidsTo l k n)))))]⟩ := fun e he => by
        refine hN (k + 1) _ _ (by omega) (by omega) ?_
        rw [hs]
        have := ent_tail (n0 := 0) (env := e) (h' := [some (.row 1 (kidsTo l k n).length (rvs (intsL (natsI (kidsTo l k n)))))]) (C := []) (by simp) ⟨clH_rvs, trivial⟩ he
        simpa using this
      by_cases h0 : 0 < k
      · have e1 : decide ((k : Int) > 0) = true := decide_eq_true (by omega)
        have e2 : (parL l k == (n : Int)) = false := by
          rw [Bool.eq_false_iff]; intro h; exact hc ⟨h0, by simpa using h⟩
        repeat' (first | (simp -implicitDefEqProofs only [go_sem, ↓reduceIte, Nat.reduceEqDiff, Nat.reduceAdd, Nat.reduceSub, Nat.reduceMul, Nat.reduceLeDiff, Nat.reduceLT, reduceCtorEq, Int.reduceToNat, e1, e2, hlen, hx, nd_len, nd_drop0, hpk, wu]) | (with_reducible refine g_noent ?_) | (refine cdS (fun hg => ?_) (fun hg => ?_) <;> try simp -implicitDefEqProofs only [hg, Bool.not_true, Bool.not_false]) | (refine gdS (fun hg => ?_) (fun hg => ?_) <;> try simp -implicitDefEqProofs only [hg, Bool.not_true, Bool.not_false]) | (refine gddS (fun hg => ?_) (fun hg => ?_) <;> try simp -implicitDefEqProofs only [hg, Bool.not_true, Bool.not_false]) | ((with_reducible apply And.intro); focus (first | trivial | omega | decide | (simp -implicitDefEqProofs only [maxLen]; omega) | (simp [maxLen, sty_len, nd_len, ndL_len, lnL_len, intsL_len, rvs_len, lensS_len]; done) | (simp [maxLen, sty_len, nd_len, ndL_len, lnL_len, intsL_len, rvs_len, lensS_len]; omega))) | fail)
        exact nx _ (by simp [ClEnv, lk, clS_rv, clS_row])
      · have e1 : decide ((k : Int) > 0) = false := decide_eq_false (by omega)
        repeat' (first | (simp -implicitDefEqProofs only [go_sem, ↓reduceIte, Nat.reduceEqDiff, Nat.reduceAdd, Nat.reduceSub, Nat.reduceMul, Nat.reduceLeDiff, Nat.reduceLT, reduceCtorEq, Int.reduceToNat, e1, wu]) | (with_reducible refine g_noent ?_) | (refine cdS (fun hg => ?_) (fun hg => ?_) <;> try simp -implicitDefEqProofs only [hg, Bool.not_true, Bool.not_false]) | (refine gdS (fun hg => ?_) (fun hg => ?_) <;> try simp -implicitDefEqProofs only [hg, Bool.not_true, Bool.not_false]) | (refine gddS (fun hg => ?_) (fun hg => ?_) <;> try simp -implicitDefEqProofs only [hg, Bool.not_true, Bool.not_false]) | ((with_reducible apply And.intro); focus (first | trivial | omega | decide | (simp -implicitDefEqProofs only [maxLen]; omega) | (simp [maxLen, sty_len, nd_len, ndL_len, lnL_len, intsL_len, rvs_len, lensS_len]; done) | (simp [maxLen, sty_len, nd_len, ndL_len, lnL_len, intsL_len, rvs_len, lensS_len]; omega))) | fail)
        exact nx _ (by simp [ClEnv, lk, clS_rv, clS_row])
  · have hk4 : k = l.length := by simp at hg; omega
    subst hk4
    simp -implicitDefEqProofs only [go_sem, ↓reduceIte, Nat.reduceEqDiff, Nat.reduceAdd, Nat.reduceSub, Nat.reduceMul, Nat.reduceLeDiff, Nat.reduceLT, reduceCtorEq, Int.reduceToNat]
    refine hX _ _ _ ?_
    repeat' (first | (simp -implicitDefEqProofs only [go_sem, ↓reduceIte, Nat.reduceEqDiff, Nat.reduceAdd, Nat.reduceSub, Nat.reduceMul, Nat.reduceLeDiff, Nat.reduceLT, reduceCtorEq, Int.reduceToNat]) | (with_reducible refine g_noent ?_) | (refine cdS (fun hg => ?_) (fun hg => ?_) <;> try simp -implicitDefEqProofs only [hg, Bool.not_true, Bool.not_false]) | (refine gdS (fun hg => ?_) (fun hg => ?_) <;> try simp -implicitDefEqProofs only [hg, Bool.not_true, Bool.not_false]) | (refine gddS (fun hg => ?_) (fun hg => ?_) <;> try simp -implicitDefEqProofs only [hg, Bool.not_true, Bool.not_false]) | ((with_reducible apply And.intro); focus (first | trivial | omega | decide | (simp -implicitDefEqProofs only [maxLen]; omega) | (simp [maxLen, sty_len, nd_len, ndL_len, lnL_len, intsL_len, rvs_len, lensS_len]; done) | (simp [maxLen, sty_len, nd_len, ndL_len, lnL_len, intsL_len, rvs_len, lensS_len]; omega))) | fail)
    exact (hK _ _ ⟨trivial, rn_frz (xs := intsL (natsI (kidsOf l n))) rfl rfl (by simp [intsL, natsI, kidsOf]) (intsL_one _)⟩).2

/-- The children in the flow among the first k nodes. -/
def flowTo (l : List Nd) (k p : Nat) : List Nat := (kidsTo l k p).filter fun (m : Nat) => stayAt l m
theorem flowTo_len {l : List Nd} {k p : Nat} : (flowTo l k p).length ≤ k := by
  have := List.length_filter_le (fun (m : Nat) => stayAt l m) (kidsTo l k p)
  have := kidsTo_len (l := l) (k := k) (p := p)
  unfold flowTo; omega

theorem sp_ref08_Flow (l : List Nd) (ht : treeOK l = true) (hb : l.length ≤ 8589934592) (n : Nat) (hn : n < l.length) : CallR Go.Proofs.Try.prog 71 [.rv (.sl 49 (ndL l)), .rv (.int .i64 n)] [] [] (.rv (.sl 1 (intsL (natsI (flowAt l n))))) := by
  refine callR_G k_decoupageref08_Flow [.rv (.sl 49 (ndL l)), .rv (.int .i64 n)] _ (by simp) (by simp [BkAll, bk_agg, bkAll_map, bk_rv, bk_fn, Sty.sv, Ln.sv, Nd.sv]) (fun K hK => ?_)
  have hlen := ndL_len l
  simp -implicitDefEqProofs only [c_decoupageref08_Flow, hlen, go_sem, ↓reduceIte, Nat.reduceEqDiff, Nat.reduceAdd, Nat.reduceSub, Nat.reduceMul, Nat.reduceLeDiff, Nat.reduceLT, reduceCtorEq, Int.reduceToNat]
  refine g_loop (ι := Nat) (fun k => [(9, .rv (.int .i64 k)), (8, .rv (.int .i64 l.length)), (5, .row 0 (flowTo l k n).length (flowTo l k n).length), (0, .rv (.sl 49 (ndL l))), (1, .rv (.int .i64 n))]) (fun k => [some (.row 1 (flowTo l k n).length (rvs (intsL (natsI (flowTo l k n)))))]) (fun k => k ≤ l.length) (fun k => l.length - k) 0 (by simp) ((ent_ghostv 5 1 0 rfl).trans (ent_env (by simp [lk, flowTo, kidsTo_zero]))) (fun k hk K' hN hX hR => ?_)
  simp -implicitDefEqProofs only [go_sem, ↓reduceIte, Nat.reduceEqDiff, Nat.reduceAdd, Nat.reduceSub, Nat.reduceMul, Nat.reduceLeDiff, Nat.reduceLT, reduceCtorEq, Int.reduceToNat]
  refine cdS (fun hg => ?_) (fun hg => ?_)
  · have hk4 : k < l.length := by simp at hg; omega
    have hx := ndL_get hk4
    have hpk := parL_eq hk4
    have wu := wrap_up (k := k) (by omega)
    have hkl := flowTo_len (l := l) (k := k) (p := n)
    have hs := kidsTo_succ (l := l) (k := k) (p := n)
    have hm := sp_ref08_Made l ht k
    have ho := sp_ref08_Out l ht k
    have stay : flowTo l (k + 1) n = flowTo l k n → ∀ e, ClEnv 1 e [(9, .rv (.int .i64 (k + 1 : Nat))), (8, .rv (.int .i64 l.length)), (5, .row 0 (flowTo l k n).length (flowTo l k n).length), (0, .rv (.sl 49 (ndL l))), (1, .rv (.int .i64 n))] → K' .normal ⟨e, [some (.row 1 (flowTo l k n).length (rvs (intsL (natsI (flowTo l k n)))))]⟩ := fun hs e he => by
        refine hN (k + 1) _ _ (by omega) (by omega) ?_
        rw [hs]
        have := ent_tail (n0 := 0) (env := e) (h' := [some (.row 1 (flowTo l k n).length (rvs (intsL (natsI (flowTo l k n)))))]) (C := []) (by simp) ⟨clH_rvs, trivial⟩ he
        simpa using this
    by_cases hc : 0 < k ∧ parL l k = n
    · rw [if_pos hc] at hs
      have e1 : decide ((k : Int) > 0) = true := decide_eq_true (by omega)
      have e2 : (parL l k == (n : Int)) = true := by simp [hc.2]
      have fs : flowTo l (k + 1) n = flowTo l k n ++ if stayAt l k = true then [k] else [] := by
        unfold flowTo
        rw [hs, List.filter_append]
        cases hst : stayAt l k <;> simp [hst]
      cases hmk : madeAt l k with
      | false =>
        rw [hmk] at hm
        have hcall3 := hm; repeat' (first | (simp -implicitDefEqProofs only [go_sem, ↓reduceIte, Nat.reduceEqDiff, Nat.reduceAdd, Nat.reduceSub, Nat.reduceMul, Nat.reduceLeDiff, Nat.reduceLT, reduceCtorEq, Int.reduceToNat, e1, e2, hlen, hx, nd_len, nd_drop0, hpk, wu]) | (with_reducible refine g_noent ?_) | (with_reducible refine g_call0 hcall3 ?_) | (with_reducible refine g_calld0 hcall3 ?_) | (refine cdS (fun hg => ?_) (fun hg => ?_) <;> try simp -implicitDefEqProofs only [hg, Bool.not_true, Bool.not_false]) | (refine gdS (fun hg => ?_) (fun hg => ?_) <;> try simp -implicitDefEqProofs only [hg, Bool.not_true, Bool.not_false]) | (refine gddS (fun hg => ?_) (fun hg => ?_) <;> try simp -implicitDefEqProofs only [hg, Bool.not_true, Bool.not_false]) | ((with_reducible apply And.intro); focus (first | trivial | omega | decide | (simp -implicitDefEqProofs only [maxLen]; omega) | (simp [maxLen, sty_len, nd_len, ndL_len, lnL_len, intsL_len, rvs_len, lensS_len]; done) | (simp [maxLen, sty_len, nd_len, ndL_len, lnL_len, intsL_len, rvs_len, lensS_len]; omega))) | fail)
        refine stay ?_ _ (by simp [ClEnv, lk, clS_rv, clS_row])
        rw [fs]; simp [stayAt, hmk]
      | true =>
        rw [hmk] at hm
        cases hok : outAt l k with
        | true =>
          rw [hok] at ho
          have hcall4 := hm; have hcall5 := ho; repeat' (first | (simp -implicitDefEqProofs only [go_sem, ↓reduceIte, Nat.reduceEqDiff, Nat.reduceAdd, Nat.reduceSub, Nat.reduceMul, Nat.reduceLeDiff, Nat.reduceLT, reduceCtorEq, Int.reduceToNat, e1, e2, hlen, hx, nd_len, nd_drop0, hpk, wu]) | (with_reducible refine g_noent ?_) | (with_reducible refine g_call0 hcall4 ?_) | (with_reducible refine g_calld0 hcall4 ?_) | (with_reducible refine g_call0 hcall5 ?_) | (with_reducible refine g_calld0 hcall5 ?_) | (refine cdS (fun hg => ?_) (fun hg => ?_) <;> try simp -implicitDefEqProofs only [hg, Bool.not_true, Bool.not_false]) | (refine gdS (fun hg => ?_) (fun hg => ?_) <;> try simp -implicitDefEqProofs only [hg, Bool.not_true, Bool.not_false]) | (refine gddS (fun hg => ?_) (fun hg => ?_) <;> try simp -implicitDefEqProofs only [hg, Bool.not_true, Bool.not_false]) | ((with_reducible apply And.intro); focus (first | trivial | omega | decide | (simp -implicitDefEqProofs only [maxLen]; omega) | (simp [maxLen, sty_len, nd_len, ndL_len, lnL_len, intsL_len, rvs_len, lensS_len]; done) | (simp [maxLen, sty_len, nd_len, ndL_len, lnL_len, intsL_len, rvs_len, lensS_len]; omega))) | fail)
          refine stay ?_ _ (by simp [ClEnv, lk, clS_rv, clS_row])
          rw [fs]; simp [stayAt, hok]
        | false =>
          rw [hok] at ho
          have hst : stayAt l k = true := by simp [stayAt, hmk, hok]
          rw [hst] at fs
          simp -implicitDefEqProofs only [if_true] at fs
          have htl : (intsL (natsI (flowTo l k n))).length = (flowTo l k n).length := by simp [intsL, natsI]
          have htk : (intsL (natsI (flowTo l k n))).take (flowTo l k n).length = intsL (natsI (flowTo l k n)) := List.take_of_length_le (by omega)
          have hap : natsI (flowTo l k n) ++ [(k : Int)] = natsI (flowTo l (k + 1) n) := by rw [fs]; simp [natsI]
          have hll : (flowTo l (k + 1) n).length = (flowTo l k n).length + 1 := by rw [fs]; simp
          have hcall6 := hm; have hcall7 := ho; repeat' (first | (simp -implicitDefEqProofs only [go_sem, ↓reduceIte, Nat.reduceEqDiff, Nat.reduceAdd, Nat.reduceSub, Nat.reduceMul, Nat.reduceLeDiff, Nat.reduceLT, reduceCtorEq, Int.reduceToNat, e1, e2, hlen, hx, nd_len, nd_drop0, hpk, wu, htl, htk, rvs_app1, hap]) | (with_reducible refine g_noent ?_) | (with_reducible refine g_call0 hcall6 ?_) | (with_reducible refine g_calld0 hcall6 ?_) | (with_reducible refine g_call0 hcall7 ?_) | (with_reducible refine g_calld0 hcall7 ?_) | (refine cdS (fun hg => ?_) (fun hg => ?_) <;> try simp -implicitDefEqProofs only [hg, Bool.not_true, Bool.not_false]) | (refine gdS (fun hg => ?_) (fun hg => ?_) <;> try simp -implicitDefEqProofs only [hg, Bool.not_true, Bool.not_false]) | (refine gddS (fun hg => ?_) (fun hg => ?_) <;> try simp -implicitDefEqProofs only [hg, Bool.not_true, Bool.not_false]) | ((with_reducible apply And.intro); focus (first | trivial | omega | decide | (simp -implicitDefEqProofs only [maxLen]; omega) | (simp [maxLen, sty_len, nd_len, ndL_len, lnL_len, intsL_len, rvs_len, lensS_len]; done) | (simp [maxLen, sty_len, nd_len, ndL_len, lnL_len, intsL_len, rvs_len, lensS_len]; omega))) | fail)
          refine hN (k + 1) _ _ (by omega) (by omega) ?_
          rw [hll]
          exact ent_tail (h' := [some (.row 1 ((flowTo l k n).length + 1) (rvs (intsL (natsI (flowTo l (k + 1) n)))))]) (C := [some (.row 1 0 [[.rv (.int .i64 k)]])]) (by simp) ⟨clH_rvs, trivial⟩ (by simp [ClEnv, lk, clS_rv, clS_row])
    · rw [if_neg hc, List.append_nil] at hs
      have hs' : flowTo l (k + 1) n = flowTo l k n := by unfold flowTo; rw [hs]
      by_cases h0 : 0 < k
      · have e1 : decide ((k : Int) > 0) = true := decide_eq_true (by omega)
        have e2 : (parL l k == (n : Int)) = false := by
          rw [Bool.eq_false_iff]; intro h; exact hc ⟨h0, by simpa using h⟩
        repeat' (first | (simp -implicitDefEqProofs only [go_sem, ↓reduceIte, Nat.reduceEqDiff, Nat.reduceAdd, Nat.reduceSub, Nat.reduceMul, Nat.reduceLeDiff, Nat.reduceLT, reduceCtorEq, Int.reduceToNat, e1, e2, hlen, hx, nd_len, nd_drop0, hpk, wu]) | (with_reducible refine g_noent ?_) | (refine cdS (fun hg => ?_) (fun hg => ?_) <;> try simp -implicitDefEqProofs only [hg, Bool.not_true, Bool.not_false]) | (refine gdS (fun hg => ?_) (fun hg => ?_) <;> try simp -implicitDefEqProofs only [hg, Bool.not_true, Bool.not_false]) | (refine gddS (fun hg => ?_) (fun hg => ?_) <;> try simp -implicitDefEqProofs only [hg, Bool.not_true, Bool.not_false]) | ((with_reducible apply And.intro); focus (first | trivial | omega | decide | (simp -implicitDefEqProofs only [maxLen]; omega) | (simp [maxLen, sty_len, nd_len, ndL_len, lnL_len, intsL_len, rvs_len, lensS_len]; done) | (simp [maxLen, sty_len, nd_len, ndL_len, lnL_len, intsL_len, rvs_len, lensS_len]; omega))) | fail)
        exact stay hs' _ (by simp [ClEnv, lk, clS_rv, clS_row])
      · have e1 : decide ((k : Int) > 0) = false := decide_eq_false (by omega)
        repeat' (first | (simp -implicitDefEqProofs only [go_sem, ↓reduceIte, Nat.reduceEqDiff, Nat.reduceAdd, Nat.reduceSub, Nat.reduceMul, Nat.reduceLeDiff, Nat.reduceLT, reduceCtorEq, Int.reduceToNat, e1, wu]) | (with_reducible refine g_noent ?_) | (refine cdS (fun hg => ?_) (fun hg => ?_) <;> try simp -implicitDefEqProofs only [hg, Bool.not_true, Bool.not_false]) | (refine gdS (fun hg => ?_) (fun hg => ?_) <;> try simp -implicitDefEqProofs only [hg, Bool.not_true, Bool.not_false]) | (refine gddS (fun hg => ?_) (fun hg => ?_) <;> try simp -implicitDefEqProofs only [hg, Bool.not_true, Bool.not_false]) | ((with_reducible apply And.intro); focus (first | trivial | omega | decide | (simp -implicitDefEqProofs only [maxLen]; omega) | (simp [maxLen, sty_len, nd_len, ndL_len, lnL_len, intsL_len, rvs_len, lensS_len]; done) | (simp [maxLen, sty_len, nd_len, ndL_len, lnL_len, intsL_len, rvs_len, lensS_len]; omega))) | fail)
        exact stay hs' _ (by simp [ClEnv, lk, clS_rv, clS_row])
  · have hk4 : k = l.length := by simp at hg; omega
    subst hk4
    have hfa : flowTo l l.length n = flowAt l n := by
      unfold flowTo flowAt kidsAt
      rw [if_pos (inL_of hn)]; rfl
    simp -implicitDefEqProofs only [go_sem, ↓reduceIte, Nat.reduceEqDiff, Nat.reduceAdd, Nat.reduceSub, Nat.reduceMul, Nat.reduceLeDiff, Nat.reduceLT, reduceCtorEq, Int.reduceToNat]
    refine hX _ _ _ ?_
    repeat' (first | (simp -implicitDefEqProofs only [go_sem, ↓reduceIte, Nat.reduceEqDiff, Nat.reduceAdd, Nat.reduceSub, Nat.reduceMul, Nat.reduceLeDiff, Nat.reduceLT, reduceCtorEq, Int.reduceToNat]) | (with_reducible refine g_noent ?_) | (refine cdS (fun hg => ?_) (fun hg => ?_) <;> try simp -implicitDefEqProofs only [hg, Bool.not_true, Bool.not_false]) | (refine gdS (fun hg => ?_) (fun hg => ?_) <;> try simp -implicitDefEqProofs only [hg, Bool.not_true, Bool.not_false]) | (refine gddS (fun hg => ?_) (fun hg => ?_) <;> try simp -implicitDefEqProofs only [hg, Bool.not_true, Bool.not_false]) | ((with_reducible apply And.intro); focus (first | trivial | omega | decide | (simp -implicitDefEqProofs only [maxLen]; omega) | (simp [maxLen, sty_len, nd_len, ndL_len, lnL_len, intsL_len, rvs_len, lensS_len]; done) | (simp [maxLen, sty_len, nd_len, ndL_len, lnL_len, intsL_len, rvs_len, lensS_len]; omega))) | fail)
    rw [hfa]
    exact (hK _ _ ⟨trivial, rn_frz (xs := intsL (natsI (flowAt l n))) rfl rfl (by simp [intsL, natsI]) (intsL_one _)⟩).2

theorem sp_ref08_Up (l : List Nd) (hs : Shp l) (hb : l.length ≤ 8589934592) (n : Int) : CallR Go.Proofs.Try.prog 72 [.rv (.sl 49 (ndL l)), .rv (.int .i64 n)] [] [] (.rv (.sl 1 (intsL (natsI (upAt l n))))) := by
  have hlen := ndL_len l
  rcases inL_cases l n with ⟨h1, hi⟩ | ⟨h1, h0, hi⟩ | ⟨k, rfl, hk, hi⟩
  · rw [show upAt l n = [] by simp [upAt, hi]]
    refine callR_nil 1 ?_
    refine callR_G k_decoupageref08_Up [.rv (.sl 49 (ndL l)), .rv (.int .i64 n)] _ (by simp) (by simp [BkAll, bk_agg, bkAll_map, bk_rv, bk_fn, Sty.sv, Ln.sv, Nd.sv]) (fun K hK => ?_)
    have e1 : decide (n < 0) = true := decide_eq_true h1
    simp -implicitDefEqProofs only [c_decoupageref08_Up, go_sem, ↓reduceIte, Nat.reduceEqDiff, Nat.reduceAdd, Nat.reduceSub, Nat.reduceMul, Nat.reduceLeDiff, Nat.reduceLT, reduceCtorEq, Int.reduceToNat]
    repeat' (first | (simp -implicitDefEqProofs only [go_sem, ↓reduceIte, Nat.reduceEqDiff, Nat.reduceAdd, Nat.reduceSub, Nat.reduceMul, Nat.reduceLeDiff, Nat.reduceLT, reduceCtorEq, Int.reduceToNat, e1, hlen]) | (with_reducible refine g_noent ?_) | (refine cdS (fun hg => ?_) (fun hg => ?_) <;> try simp -implicitDefEqProofs only [hg, Bool.not_true, Bool.not_false]) | (refine gdS (fun hg => ?_) (fun hg => ?_) <;> try simp -implicitDefEqProofs only [hg, Bool.not_true, Bool.not_false]) | (refine gddS (fun hg => ?_) (fun hg => ?_) <;> try simp -implicitDefEqProofs only [hg, Bool.not_true, Bool.not_false]) | ((with_reducible apply And.intro); focus (first | trivial | omega | decide | (simp -implicitDefEqProofs only [maxLen]; omega) | (simp [maxLen, sty_len, nd_len, ndL_len, lnL_len, intsL_len, rvs_len, lensS_len]; done) | (simp [maxLen, sty_len, nd_len, ndL_len, lnL_len, intsL_len, rvs_len, lensS_len]; omega))) | fail)
    exact (hK _ _ (ret_t rfl)).2
  · rw [show upAt l n = [] by simp [upAt, hi]]
    refine callR_nil 1 ?_
    refine callR_G k_decoupageref08_Up [.rv (.sl 49 (ndL l)), .rv (.int .i64 n)] _ (by simp) (by simp [BkAll, bk_agg, bkAll_map, bk_rv, bk_fn, Sty.sv, Ln.sv, Nd.sv]) (fun K hK => ?_)
    have e1 : decide (n < 0) = false := decide_eq_false (by omega)
    have e2 : decide (n ≥ (l.length : Int)) = true := decide_eq_true h1
    simp -implicitDefEqProofs only [c_decoupageref08_Up, go_sem, ↓reduceIte, Nat.reduceEqDiff, Nat.reduceAdd, Nat.reduceSub, Nat.reduceMul, Nat.reduceLeDiff, Nat.reduceLT, reduceCtorEq, Int.reduceToNat]
    repeat' (first | (simp -implicitDefEqProofs only [go_sem, ↓reduceIte, Nat.reduceEqDiff, Nat.reduceAdd, Nat.reduceSub, Nat.reduceMul, Nat.reduceLeDiff, Nat.reduceLT, reduceCtorEq, Int.reduceToNat, e1, e2, hlen]) | (with_reducible refine g_noent ?_) | (refine cdS (fun hg => ?_) (fun hg => ?_) <;> try simp -implicitDefEqProofs only [hg, Bool.not_true, Bool.not_false]) | (refine gdS (fun hg => ?_) (fun hg => ?_) <;> try simp -implicitDefEqProofs only [hg, Bool.not_true, Bool.not_false]) | (refine gddS (fun hg => ?_) (fun hg => ?_) <;> try simp -implicitDefEqProofs only [hg, Bool.not_true, Bool.not_false]) | ((with_reducible apply And.intro); focus (first | trivial | omega | decide | (simp -implicitDefEqProofs only [maxLen]; omega) | (simp [maxLen, sty_len, nd_len, ndL_len, lnL_len, intsL_len, rvs_len, lensS_len]; done) | (simp [maxLen, sty_len, nd_len, ndL_len, lnL_len, intsL_len, rvs_len, lensS_len]; omega))) | fail)
    exact (hK _ _ (ret_t rfl)).2
  · refine callR_G k_decoupageref08_Up [.rv (.sl 49 (ndL l)), .rv (.int .i64 k)] _ (by simp) (by simp [BkAll, bk_agg, bkAll_map, bk_rv, bk_fn, Sty.sv, Ln.sv, Nd.sv]) (fun K hK => ?_)
    have e1 : decide ((k : Int) < 0) = false := decide_eq_false (by omega)
    have e2 : decide ((k : Int) ≥ (l.length : Int)) = false := decide_eq_false (by omega)
    have hx := ndL_get hk
    have hpk := parL_eq hk
    simp -implicitDefEqProofs only [c_decoupageref08_Up, go_sem, ↓reduceIte, Nat.reduceEqDiff, Nat.reduceAdd, Nat.reduceSub, Nat.reduceMul, Nat.reduceLeDiff, Nat.reduceLT, reduceCtorEq, Int.reduceToNat]
    repeat' (first | (simp -implicitDefEqProofs only [go_sem, ↓reduceIte, Nat.reduceEqDiff, Nat.reduceAdd, Nat.reduceSub, Nat.reduceMul, Nat.reduceLeDiff, Nat.reduceLT, reduceCtorEq, Int.reduceToNat, e1, e2, hlen, hx, hpk, nd_len, nd_drop0]) | (with_reducible refine g_noent ?_) | (refine cdS (fun hg => ?_) (fun hg => ?_) <;> try simp -implicitDefEqProofs only [hg, Bool.not_true, Bool.not_false]) | (refine gdS (fun hg => ?_) (fun hg => ?_) <;> try simp -implicitDefEqProofs only [hg, Bool.not_true, Bool.not_false]) | (refine gddS (fun hg => ?_) (fun hg => ?_) <;> try simp -implicitDefEqProofs only [hg, Bool.not_true, Bool.not_false]) | ((with_reducible apply And.intro); focus (first | trivial | omega | decide | (simp -implicitDefEqProofs only [maxLen]; omega) | (simp [maxLen, sty_len, nd_len, ndL_len, lnL_len, intsL_len, rvs_len, lensS_len]; done) | (simp [maxLen, sty_len, nd_len, ndL_len, lnL_len, intsL_len, rvs_len, lensS_len]; omega))) | fail)
    have hu : upAt l k = (pth l k).drop 1 := by simp [upAt, hi]
    have hp0 : parL l k = atI (upAt l k) 0 := by
      have := par_at hs.wf k hk 0 pth_pos
      obtain ⟨r, hr⟩ := pth_head (l := l) (n := k)
      simp -implicitDefEqProofs only [hr, List.getElem_cons_zero] at this
      rw [hu, this, hr]; simp [atI]
    have hul : (upAt l k).length ≤ k := by have := pth_len (l := l) k; rw [hu]; simp; omega
    have hmem : ∀ i (h : i < (upAt l k).length), (upAt l k)[i]'h < l.length ∧ parL l ((upAt l k)[i]'h) = atI (upAt l k) (i + 1) := fun i h => by
      have hi2 : i + 1 < (pth l k).length := by rw [hu] at h; simp at h; omega
      have h1 : (upAt l k)[i]'h = (pth l k)[i + 1]'hi2 := by
        simp -implicitDefEqProofs only [hu, List.getElem_drop]; congr 1; omega
      rw [h1]
      refine ⟨pth_lt hk hi2, ?_⟩
      rw [par_at hs.wf k hk (i + 1) hi2, hu]
      unfold atI; rw [List.getElem?_drop, show 1 + (i + 1) = i + 1 + 1 by omega]
    refine g_loop (ι := Nat) (fun i => [(6, .rv (.int .i64 (atI (upAt l k) i))), (5, .row 0 i i), (0, .rv (.sl 49 (ndL l)))]) (fun i => [some (.row 1 i (rvs (intsL (natsI ((upAt l k).take i)))))]) (fun i => i ≤ (upAt l k).length) (fun i => (upAt l k).length - i) 0 (by simp) (by rw [hp0]; exact (ent_ghostv 5 1 0 rfl).trans (ent_env (by simp [lk]))) (fun i hi' K' hN hX hR => ?_)
    simp -implicitDefEqProofs only [go_sem, ↓reduceIte, Nat.reduceEqDiff, Nat.reduceAdd, Nat.reduceSub, Nat.reduceMul, Nat.reduceLeDiff, Nat.reduceLT, reduceCtorEq, Int.reduceToNat]
    refine cdS (fun hg => ?_) (fun hg => ?_)
    · have hil : i < (upAt l k).length := atI_iff.1 (by simpa using hg)
      obtain ⟨hml, hmp⟩ := hmem i hil
      have hat := atI_lt hil
      have hx := ndL_get hml
      have hpar := parL_eq hml
      have htl : (intsL (natsI ((upAt l k).take i))).length = i := by simp [intsL, natsI]; omega
      have htk : (intsL (natsI ((upAt l k).take i))).take i = intsL (natsI ((upAt l k).take i)) := List.take_of_length_le (by omega)
      have hap : natsI ((upAt l k).take i) ++ [(((upAt l k)[i]'hil : Nat) : Int)] = natsI ((upAt l k).take (i + 1)) := by
        rw [List.take_succ_eq_append_getElem hil]; simp -implicitDefEqProofs only [natsI, List.map_append, List.map_cons, List.map_nil]
      repeat' (first | (simp -implicitDefEqProofs only [go_sem, ↓reduceIte, Nat.reduceEqDiff, Nat.reduceAdd, Nat.reduceSub, Nat.reduceMul, Nat.reduceLeDiff, Nat.reduceLT, reduceCtorEq, Int.reduceToNat, htl, htk, rvs_app1, hap, hat, hx, hpar, hmp, hlen, nd_len, nd_drop0]) | (with_reducible refine g_noent ?_) | (refine cdS (fun hg => ?_) (fun hg => ?_) <;> try simp -implicitDefEqProofs only [hg, Bool.not_true, Bool.not_false]) | (refine gdS (fun hg => ?_) (fun hg => ?_) <;> try simp -implicitDefEqProofs only [hg, Bool.not_true, Bool.not_false]) | (refine gddS (fun hg => ?_) (fun hg => ?_) <;> try simp -implicitDefEqProofs only [hg, Bool.not_true, Bool.not_false]) | ((with_reducible apply And.intro); focus (first | trivial | omega | decide | (simp -implicitDefEqProofs only [maxLen]; omega) | (simp [maxLen, sty_len, nd_len, ndL_len, lnL_len, intsL_len, rvs_len, lensS_len]; done) | (simp [maxLen, sty_len, nd_len, ndL_len, lnL_len, intsL_len, rvs_len, lensS_len]; omega))) | fail)
      exact hN (i + 1) _ _ (by omega) (by omega) (ent_tail (h' := [some (.row 1 (i + 1) (rvs (intsL (natsI ((upAt l k).take (i + 1))))))]) (C := [some (.row 1 0 [[.rv (.int .i64 ((upAt l k)[i]'hil : Nat))]])]) (by simp) ⟨clH_rvs, trivial⟩ (by simp [ClEnv, lk, clS_rv, clS_row]))
    · have hil : ¬ i < (upAt l k).length := fun h => by have := atI_iff.2 h; simp at hg; omega
      obtain rfl : i = (upAt l k).length := by omega
      simp -implicitDefEqProofs only [go_sem, ↓reduceIte, Nat.reduceEqDiff, Nat.reduceAdd, Nat.reduceSub, Nat.reduceMul, Nat.reduceLeDiff, Nat.reduceLT, reduceCtorEq, Int.reduceToNat]
      refine hX _ _ _ ?_
      repeat' (first | (simp -implicitDefEqProofs only [go_sem, ↓reduceIte, Nat.reduceEqDiff, Nat.reduceAdd, Nat.reduceSub, Nat.reduceMul, Nat.reduceLeDiff, Nat.reduceLT, reduceCtorEq, Int.reduceToNat]) | (with_reducible refine g_noent ?_) | (refine cdS (fun hg => ?_) (fun hg => ?_) <;> try simp -implicitDefEqProofs only [hg, Bool.not_true, Bool.not_false]) | (refine gdS (fun hg => ?_) (fun hg => ?_) <;> try simp -implicitDefEqProofs only [hg, Bool.not_true, Bool.not_false]) | (refine gddS (fun hg => ?_) (fun hg => ?_) <;> try simp -implicitDefEqProofs only [hg, Bool.not_true, Bool.not_false]) | ((with_reducible apply And.intro); focus (first | trivial | omega | decide | (simp -implicitDefEqProofs only [maxLen]; omega) | (simp [maxLen, sty_len, nd_len, ndL_len, lnL_len, intsL_len, rvs_len, lensS_len]; done) | (simp [maxLen, sty_len, nd_len, ndL_len, lnL_len, intsL_len, rvs_len, lensS_len]; omega))) | fail)
      refine (hK _ _ ?_).2
      rw [List.take_length]
      exact ⟨trivial, rn_frz (xs := intsL (natsI (upAt l k))) rfl rfl (by simp [intsL, natsI]) (intsL_one _)⟩

theorem aboveS_mem {l : List Nd} {a n : Nat} : aboveS l (a : Int) n = true ↔ a ∈ pth l n := by
  unfold aboveS
  rw [List.any_eq_true]
  constructor
  · rintro ⟨x, h1, h2⟩
    have h3 : x = a := by simp at h2; omega
    exact h3 ▸ h1
  · intro h; exact ⟨a, h, by simp⟩

theorem below_eq {l : List Nd} (hs : Shp l) {a n : Nat} (ha : a < l.length) (hn : n < l.length) : belowAt l a n = aboveS l a n := by
  have he := hs.below ha hn
  rw [Bool.eq_iff_iff, aboveS_mem, he]
  simp -implicitDefEqProofs only [belowAt, endAt, inL_of ha, inL_of hn, if_true, Int.toNat_natCast, Bool.and_eq_true, decide_eq_true_eq, true_and]
  omega

theorem sp_ref08_Below (l : List Nd) (hs : Shp l) (hb : l.length ≤ 8589934592) (a n : Int) : CallR Go.Proofs.Try.prog 20 [.rv (.sl 49 (ndL l)), .rv (.int .i64 a), .rv (.int .i64 n)] [] [] (.rv (.bool (belowAt l a n))) := by
  have hlen := ndL_len l
  refine callR_G k_decoupageref08_Below [.rv (.sl 49 (ndL l)), .rv (.int .i64 a), .rv (.int .i64 n)] _ (by simp) (by simp [BkAll, bk_agg, bkAll_map, bk_rv, bk_fn, Sty.sv, Ln.sv, Nd.sv]) (fun K hK => ?_)
  simp -implicitDefEqProofs only [c_decoupageref08_Below, go_sem, ↓reduceIte, Nat.reduceEqDiff, Nat.reduceAdd, Nat.reduceSub, Nat.reduceMul, Nat.reduceLeDiff, Nat.reduceLT, reduceCtorEq, Int.reduceToNat]
  rcases inL_cases l a with ⟨h1, hi⟩ | ⟨h1, h0, hi⟩ | ⟨k, rfl, hk, hi⟩
  · have e1 : decide (a ≥ 0) = false := decide_eq_false (by omega)
    repeat' (first | (simp -implicitDefEqProofs only [go_sem, ↓reduceIte, Nat.reduceEqDiff, Nat.reduceAdd, Nat.reduceSub, Nat.reduceMul, Nat.reduceLeDiff, Nat.reduceLT, reduceCtorEq, Int.reduceToNat, e1, hlen]) | (with_reducible refine g_noent ?_) | (refine cdS (fun hg => ?_) (fun hg => ?_) <;> try simp -implicitDefEqProofs only [hg, Bool.not_true, Bool.not_false]) | (refine gdS (fun hg => ?_) (fun hg => ?_) <;> try simp -implicitDefEqProofs only [hg, Bool.not_true, Bool.not_false]) | (refine gddS (fun hg => ?_) (fun hg => ?_) <;> try simp -implicitDefEqProofs only [hg, Bool.not_true, Bool.not_false]) | ((with_reducible apply And.intro); focus (first | trivial | omega | decide | (simp -implicitDefEqProofs only [maxLen]; omega) | (simp [maxLen, sty_len, nd_len, ndL_len, lnL_len, intsL_len, rvs_len, lensS_len]; done) | (simp [maxLen, sty_len, nd_len, ndL_len, lnL_len, intsL_len, rvs_len, lensS_len]; omega))) | fail)
    exact (hK _ _ (ret_t (by simp [belowAt, hi, lk]))).2
  · have e1 : decide (a ≥ 0) = true := decide_eq_true h0
    have e2 : decide (a < (l.length : Int)) = false := decide_eq_false (by omega)
    repeat' (first | (simp -implicitDefEqProofs only [go_sem, ↓reduceIte, Nat.reduceEqDiff, Nat.reduceAdd, Nat.reduceSub, Nat.reduceMul, Nat.reduceLeDiff, Nat.reduceLT, reduceCtorEq, Int.reduceToNat, e1, e2, hlen]) | (with_reducible refine g_noent ?_) | (refine cdS (fun hg => ?_) (fun hg => ?_) <;> try simp -implicitDefEqProofs only [hg, Bool.not_true, Bool.not_false]) | (refine gdS (fun hg => ?_) (fun hg => ?_) <;> try simp -implicitDefEqProofs only [hg, Bool.not_true, Bool.not_false]) | (refine gddS (fun hg => ?_) (fun hg => ?_) <;> try simp -implicitDefEqProofs only [hg, Bool.not_true, Bool.not_false]) | ((with_reducible apply And.intro); focus (first | trivial | omega | decide | (simp -implicitDefEqProofs only [maxLen]; omega) | (simp [maxLen, sty_len, nd_len, ndL_len, lnL_len, intsL_len, rvs_len, lensS_len]; done) | (simp [maxLen, sty_len, nd_len, ndL_len, lnL_len, intsL_len, rvs_len, lensS_len]; omega))) | fail)
    exact (hK _ _ (ret_t (by simp [belowAt, hi, lk]))).2
  · have e1 : decide ((k : Int) ≥ 0) = true := decide_eq_true (by omega)
    have e2 : decide ((k : Int) < (l.length : Int)) = true := decide_eq_true (by omega)
    rcases inL_cases l n with ⟨h1, hj⟩ | ⟨h1, h0, hj⟩ | ⟨m, rfl, hm, hj⟩
    · have e3 : decide (n ≥ 0) = false := decide_eq_false (by omega)
      repeat' (first | (simp -implicitDefEqProofs only [go_sem, ↓reduceIte, Nat.reduceEqDiff, Nat.reduceAdd, Nat.reduceSub, Nat.reduceMul, Nat.reduceLeDiff, Nat.reduceLT, reduceCtorEq, Int.reduceToNat, e1, e2, e3, hlen]) | (with_reducible refine g_noent ?_) | (refine cdS (fun hg => ?_) (fun hg => ?_) <;> try simp -implicitDefEqProofs only [hg, Bool.not_true, Bool.not_false]) | (refine gdS (fun hg => ?_) (fun hg => ?_) <;> try simp -implicitDefEqProofs only [hg, Bool.not_true, Bool.not_false]) | (refine gddS (fun hg => ?_) (fun hg => ?_) <;> try simp -implicitDefEqProofs only [hg, Bool.not_true, Bool.not_false]) | ((with_reducible apply And.intro); focus (first | trivial | omega | decide | (simp -implicitDefEqProofs only [maxLen]; omega) | (simp [maxLen, sty_len, nd_len, ndL_len, lnL_len, intsL_len, rvs_len, lensS_len]; done) | (simp [maxLen, sty_len, nd_len, ndL_len, lnL_len, intsL_len, rvs_len, lensS_len]; omega))) | fail)
      exact (hK _ _ (ret_t (by simp [belowAt, hj, lk]))).2
    · have e3 : decide (n ≥ 0) = true := decide_eq_true h0
      have e4 : decide (n < (l.length : Int)) = false := decide_eq_false (by omega)
      repeat' (first | (simp -implicitDefEqProofs only [go_sem, ↓reduceIte, Nat.reduceEqDiff, Nat.reduceAdd, Nat.reduceSub, Nat.reduceMul, Nat.reduceLeDiff, Nat.reduceLT, reduceCtorEq, Int.reduceToNat, e1, e2, e3, e4, hlen]) | (with_reducible refine g_noent ?_) | (refine cdS (fun hg => ?_) (fun hg => ?_) <;> try simp -implicitDefEqProofs only [hg, Bool.not_true, Bool.not_false]) | (refine gdS (fun hg => ?_) (fun hg => ?_) <;> try simp -implicitDefEqProofs only [hg, Bool.not_true, Bool.not_false]) | (refine gddS (fun hg => ?_) (fun hg => ?_) <;> try simp -implicitDefEqProofs only [hg, Bool.not_true, Bool.not_false]) | ((with_reducible apply And.intro); focus (first | trivial | omega | decide | (simp -implicitDefEqProofs only [maxLen]; omega) | (simp [maxLen, sty_len, nd_len, ndL_len, lnL_len, intsL_len, rvs_len, lensS_len]; done) | (simp [maxLen, sty_len, nd_len, ndL_len, lnL_len, intsL_len, rvs_len, lensS_len]; omega))) | fail)
      exact (hK _ _ (ret_t (by simp [belowAt, hj, lk]))).2
    · have e3 : decide ((m : Int) ≥ 0) = true := decide_eq_true (by omega)
      have e4 : decide ((m : Int) < (l.length : Int)) = true := decide_eq_true (by omega)
      have hcall8 := sp_ref07_Above l k m (hs.wf.mono (by omega)) hm hb; repeat' (first | (simp -implicitDefEqProofs only [go_sem, ↓reduceIte, Nat.reduceEqDiff, Nat.reduceAdd, Nat.reduceSub, Nat.reduceMul, Nat.reduceLeDiff, Nat.reduceLT, reduceCtorEq, Int.reduceToNat, e1, e2, e3, e4, hlen]) | (with_reducible refine g_noent ?_) | (with_reducible refine g_call0 hcall8 ?_) | (with_reducible refine g_calld0 hcall8 ?_) | (refine cdS (fun hg => ?_) (fun hg => ?_) <;> try simp -implicitDefEqProofs only [hg, Bool.not_true, Bool.not_false]) | (refine gdS (fun hg => ?_) (fun hg => ?_) <;> try simp -implicitDefEqProofs only [hg, Bool.not_true, Bool.not_false]) | (refine gddS (fun hg => ?_) (fun hg => ?_) <;> try simp -implicitDefEqProofs only [hg, Bool.not_true, Bool.not_false]) | ((with_reducible apply And.intro); focus (first | trivial | omega | decide | (simp -implicitDefEqProofs only [maxLen]; omega) | (simp [maxLen, sty_len, nd_len, ndL_len, lnL_len, intsL_len, rvs_len, lensS_len]; done) | (simp [maxLen, sty_len, nd_len, ndL_len, lnL_len, intsL_len, rvs_len, lensS_len]; omega))) | fail)
      exact (hK _ _ (ret_t (by rw [below_eq hs hk hm]; rfl))).2

/-- One past the last of the first i nodes that is below n; 0 if there is none. -/
def lastTo (l : List Nd) (n : Int) (i : Nat) : Int := if inL l n = true ∧ n < i then (if (i : Int) < endAt l n then (i : Int) else endAt l n) else 0

theorem sp_ref08_End (l : List Nd) (hs : Shp l) (hb : l.length ≤ 8589934592) (n : Int) : CallR Go.Proofs.Try.prog 69 [.rv (.sl 49 (ndL l)), .rv (.int .i64 n)] [] [] (.rv (.int .i64 (endAt l n))) := by
  have hlen := ndL_len l
  refine callR_G k_decoupageref08_End [.rv (.sl 49 (ndL l)), .rv (.int .i64 n)] _ (by simp) (by simp [BkAll, bk_agg, bkAll_map, bk_rv, bk_fn, Sty.sv, Ln.sv, Nd.sv]) (fun K hK => ?_)
  simp -implicitDefEqProofs only [c_decoupageref08_End, hlen, go_sem, ↓reduceIte, Nat.reduceEqDiff, Nat.reduceAdd, Nat.reduceSub, Nat.reduceMul, Nat.reduceLeDiff, Nat.reduceLT, reduceCtorEq, Int.reduceToNat]
  have hend : ∀ k : Nat, n = k → k < l.length → endAt l n = endS l k ∧ k < endS l k ∧ endS l k ≤ l.length := fun k h1 h2 => by
    subst h1
    exact ⟨by simp [endAt, inL_of h2], (hs.end_gt h2).1, (hs.end_gt h2).2⟩
  refine g_loop (ι := Nat) (fun k => [(9, .rv (.int .i64 k)), (8, .rv (.int .i64 l.length)), (5, .rv (.int .i64 (lastTo l n k - 1))), (0, .rv (.sl 49 (ndL l))), (1, .rv (.int .i64 n))]) (fun k => []) (fun k => k ≤ l.length) (fun k => l.length - k) 0 (by simp) (ent_env (by
    have : lastTo l n 0 = 0 := by
      unfold lastTo
      rw [if_neg]
      rintro ⟨h1, h2⟩
      obtain ⟨k, rfl, _⟩ := inL_nat h1
      omega
    simp [lk, this])) (fun k hk K' hN hX hR => ?_)
  simp -implicitDefEqProofs only [go_sem, ↓reduceIte, Nat.reduceEqDiff, Nat.reduceAdd, Nat.reduceSub, Nat.reduceMul, Nat.reduceLeDiff, Nat.reduceLT, reduceCtorEq, Int.reduceToNat]
  refine cdS (fun hg => ?_) (fun hg => ?_)
  · have hk4 : k < l.length := by simp at hg; omega
    have wu := wrap_up (k := k) (by omega)
    have hbl := sp_ref08_Below l hs hb n k
    cases hbk : belowAt l n k with
    | true =>
      rw [hbk] at hbl
      have hcall9 := hbl; repeat' (first | (simp -implicitDefEqProofs only [go_sem, ↓reduceIte, Nat.reduceEqDiff, Nat.reduceAdd, Nat.reduceSub, Nat.reduceMul, Nat.reduceLeDiff, Nat.reduceLT, reduceCtorEq, Int.reduceToNat, wu]) | (with_reducible refine g_noent ?_) | (with_reducible refine g_call0 hcall9 ?_) | (with_reducible refine g_calld0 hcall9 ?_) | (refine cdS (fun hg => ?_) (fun hg => ?_) <;> try simp -implicitDefEqProofs only [hg, Bool.not_true, Bool.not_false]) | (refine gdS (fun hg => ?_) (fun hg => ?_) <;> try simp -implicitDefEqProofs only [hg, Bool.not_true, Bool.not_false]) | (refine gddS (fun hg => ?_) (fun hg => ?_) <;> try simp -implicitDefEqProofs only [hg, Bool.not_true, Bool.not_false]) | ((with_reducible apply And.intro); focus (first | trivial | omega | decide | (simp -implicitDefEqProofs only [maxLen]; omega) | (simp [maxLen, sty_len, nd_len, ndL_len, lnL_len, intsL_len, rvs_len, lensS_len]; done) | (simp [maxLen, sty_len, nd_len, ndL_len, lnL_len, intsL_len, rvs_len, lensS_len]; omega))) | fail)
      refine hN (k + 1) _ _ (by omega) (by omega) (ent_env ?_)
      have : lastTo l n (k + 1) = (k : Int) + 1 := by
        simp -implicitDefEqProofs only [belowAt, Bool.and_eq_true, decide_eq_true_eq] at hbk
        obtain ⟨⟨⟨q1, _⟩, q2⟩, q3⟩ := hbk
        unfold lastTo
        rw [if_pos ⟨q1, by omega⟩]
        split <;> omega
      simp [lk, this]
    | false =>
      rw [hbk] at hbl
      have hcall10 := hbl; repeat' (first | (simp -implicitDefEqProofs only [go_sem, ↓reduceIte, Nat.reduceEqDiff, Nat.reduceAdd, Nat.reduceSub, Nat.reduceMul, Nat.reduceLeDiff, Nat.reduceLT, reduceCtorEq, Int.reduceToNat, wu]) | (with_reducible refine g_noent ?_) | (with_reducible refine g_call0 hcall10 ?_) | (with_reducible refine g_calld0 hcall10 ?_) | (refine cdS (fun hg => ?_) (fun hg => ?_) <;> try simp -implicitDefEqProofs only [hg, Bool.not_true, Bool.not_false]) | (refine gdS (fun hg => ?_) (fun hg => ?_) <;> try simp -implicitDefEqProofs only [hg, Bool.not_true, Bool.not_false]) | (refine gddS (fun hg => ?_) (fun hg => ?_) <;> try simp -implicitDefEqProofs only [hg, Bool.not_true, Bool.not_false]) | ((with_reducible apply And.intro); focus (first | trivial | omega | decide | (simp -implicitDefEqProofs only [maxLen]; omega) | (simp [maxLen, sty_len, nd_len, ndL_len, lnL_len, intsL_len, rvs_len, lensS_len]; done) | (simp [maxLen, sty_len, nd_len, ndL_len, lnL_len, intsL_len, rvs_len, lensS_len]; omega))) | fail)
      refine hN (k + 1) _ _ (by omega) (by omega) (ent_env ?_)
      have : lastTo l n (k + 1) = lastTo l n k := by
        unfold lastTo
        cases hin : inL l n with
        | false => simp
        | true =>
          obtain ⟨m, hm1, hm2⟩ := inL_nat hin
          obtain ⟨g1, g2, g3⟩ := hend m hm1 hm2
          have hnb : ¬ ((k : Int) ≥ n ∧ (k : Int) < endAt l n) := fun ⟨a1, a2⟩ => by
            have : belowAt l n k = true := by
              simp -implicitDefEqProofs only [belowAt, hin, inL_of hk4, Bool.and_eq_true, decide_eq_true_eq]
              exact ⟨⟨⟨trivial, trivial⟩, a1⟩, a2⟩
            rw [hbk] at this; cases this
          simp -implicitDefEqProofs only [true_and]
          repeat' split
          all_goals omega
      simp [lk, this]
  · have hk4 : k = l.length := by simp at hg; omega
    subst hk4
    have hlast : lastTo l n l.length = endAt l n := by
      unfold lastTo
      cases hin : inL l n with
      | false => simp [endAt, hin]
      | true =>
        obtain ⟨m, hm1, hm2⟩ := inL_nat hin
        obtain ⟨g1, g2, g3⟩ := hend m hm1 hm2
        rw [if_pos ⟨rfl, by omega⟩]
        split <;> omega
    have hrange : 0 ≤ endAt l n ∧ endAt l n ≤ l.length := by
      cases hin : inL l n with
      | false => simp [endAt, hin]
      | true =>
        obtain ⟨m, hm1, hm2⟩ := inL_nat hin
        obtain ⟨g1, g2, g3⟩ := hend m hm1 hm2
        omega
    simp -implicitDefEqProofs only [go_sem, ↓reduceIte, Nat.reduceEqDiff, Nat.reduceAdd, Nat.reduceSub, Nat.reduceMul, Nat.reduceLeDiff, Nat.reduceLT, reduceCtorEq, Int.reduceToNat]
    refine hX _ _ _ ?_
    repeat' (first | (simp -implicitDefEqProofs only [go_sem, ↓reduceIte, Nat.reduceEqDiff, Nat.reduceAdd, Nat.reduceSub, Nat.reduceMul, Nat.reduceLeDiff, Nat.reduceLT, reduceCtorEq, Int.reduceToNat]) | (with_reducible refine g_noent ?_) | (refine cdS (fun hg => ?_) (fun hg => ?_) <;> try simp -implicitDefEqProofs only [hg, Bool.not_true, Bool.not_false]) | (refine gdS (fun hg => ?_) (fun hg => ?_) <;> try simp -implicitDefEqProofs only [hg, Bool.not_true, Bool.not_false]) | (refine gddS (fun hg => ?_) (fun hg => ?_) <;> try simp -implicitDefEqProofs only [hg, Bool.not_true, Bool.not_false]) | ((with_reducible apply And.intro); focus (first | trivial | omega | decide | (simp -implicitDefEqProofs only [maxLen]; omega) | (simp [maxLen, sty_len, nd_len, ndL_len, lnL_len, intsL_len, rvs_len, lensS_len]; done) | (simp [maxLen, sty_len, nd_len, ndL_len, lnL_len, intsL_len, rvs_len, lensS_len]; omega))) | fail)
    refine (hK _ _ (ret_t ?_)).2
    simp -implicitDefEqProofs only [lk, if_true, hlast]
    rw [wrap_i64 (by omega) (by omega)]
    congr 2; omega

theorem sp_ref08_Same (a b : List Int) (ha : a.length ≤ 8589934592) : CallR Go.Proofs.Try.prog 46 [.rv (.sl 1 (intsL a)), .rv (.sl 1 (intsL b))] [] [] (.rv (.bool (decide (a = b)))) := by
  refine callR_G k_decoupageref08_Same [.rv (.sl 1 (intsL a)), .rv (.sl 1 (intsL b))] _ (by simp) (by simp [BkAll, bk_agg, bkAll_map, bk_rv, bk_fn, Sty.sv, Ln.sv, Nd.sv]) (fun K hK => ?_)
  have hla := intsL_len a
  have hlb := intsL_len b
  simp -implicitDefEqProofs only [c_decoupageref08_Same, hla, hlb, go_sem, ↓reduceIte, Nat.reduceEqDiff, Nat.reduceAdd, Nat.reduceSub, Nat.reduceMul, Nat.reduceLeDiff, Nat.reduceLT, reduceCtorEq, Int.reduceToNat]
  by_cases hl : a.length = b.length
  · have e1 : (((a.length : Nat) : Int) != (b.length : Nat)) = false := by simp [hl]
    repeat' (first | (simp -implicitDefEqProofs only [go_sem, ↓reduceIte, Nat.reduceEqDiff, Nat.reduceAdd, Nat.reduceSub, Nat.reduceMul, Nat.reduceLeDiff, Nat.reduceLT, reduceCtorEq, Int.reduceToNat, e1, hla, hlb]) | (with_reducible refine g_noent ?_) | (refine cdS (fun hg => ?_) (fun hg => ?_) <;> try simp -implicitDefEqProofs only [hg, Bool.not_true, Bool.not_false]) | (refine gdS (fun hg => ?_) (fun hg => ?_) <;> try simp -implicitDefEqProofs only [hg, Bool.not_true, Bool.not_false]) | (refine gddS (fun hg => ?_) (fun hg => ?_) <;> try simp -implicitDefEqProofs only [hg, Bool.not_true, Bool.not_false]) | ((with_reducible apply And.intro); focus (first | trivial | omega | decide | (simp -implicitDefEqProofs only [maxLen]; omega) | (simp [maxLen, sty_len, nd_len, ndL_len, lnL_len, intsL_len, rvs_len, lensS_len]; done) | (simp [maxLen, sty_len, nd_len, ndL_len, lnL_len, intsL_len, rvs_len, lensS_len]; omega))) | fail)
    refine g_loop (ι := Nat) (fun k => [(13, .rv (.int .i64 k)), (12, .rv (.int .i64 a.length)), (0, .rv (.sl 1 (intsL a))), (1, .rv (.sl 1 (intsL b)))]) (fun k => []) (fun k => k ≤ a.length ∧ a.take k = b.take k) (fun k => a.length - k) 0 (by simp) (ent_env (by simp [lk])) (fun k hk K' hN hX hR => ?_)
    obtain ⟨hk1, hk2⟩ := hk
    simp -implicitDefEqProofs only [go_sem, ↓reduceIte, Nat.reduceEqDiff, Nat.reduceAdd, Nat.reduceSub, Nat.reduceMul, Nat.reduceLeDiff, Nat.reduceLT, reduceCtorEq, Int.reduceToNat]
    refine cdS (fun hg => ?_) (fun hg => ?_)
    · have hk4 : k < a.length := by simp at hg; omega
      have hk5 : k < b.length := by omega
      have hxa := intsL_get hk4
      have hxb := intsL_get hk5
      have wu := wrap_up (k := k) (by omega)
      repeat' (first | (simp -implicitDefEqProofs only [go_sem, ↓reduceIte, Nat.reduceEqDiff, Nat.reduceAdd, Nat.reduceSub, Nat.reduceMul, Nat.reduceLeDiff, Nat.reduceLT, reduceCtorEq, Int.reduceToNat, hxa, hxb, wu, hla, hlb]) | (with_reducible refine g_noent ?_) | (refine cdS (fun hg => ?_) (fun hg => ?_) <;> try simp -implicitDefEqProofs only [hg, Bool.not_true, Bool.not_false]) | (refine gdS (fun hg => ?_) (fun hg => ?_) <;> try simp -implicitDefEqProofs only [hg, Bool.not_true, Bool.not_false]) | (refine gddS (fun hg => ?_) (fun hg => ?_) <;> try simp -implicitDefEqProofs only [hg, Bool.not_true, Bool.not_false]) | ((with_reducible apply And.intro); focus (first | trivial | omega | decide | (simp -implicitDefEqProofs only [maxLen]; omega) | (simp [maxLen, sty_len, nd_len, ndL_len, lnL_len, intsL_len, rvs_len, lensS_len]; done) | (simp [maxLen, sty_len, nd_len, ndL_len, lnL_len, intsL_len, rvs_len, lensS_len]; omega))) | fail)
      · refine hR _ _ (hK _ _ (ret_t ?_)).2
        have : ¬ a = b := fun h => by subst h; simp at hg
        simp [this, lk]
      · refine hN (k + 1) _ _ ⟨by omega, ?_⟩ (by omega) (ent_env (by simp [lk]))
        rw [List.take_succ_eq_append_getElem hk4, List.take_succ_eq_append_getElem hk5, hk2]
        simp at hg; rw [hg]
    · have hk4 : k = a.length := by simp at hg; omega
      subst hk4
      simp -implicitDefEqProofs only [go_sem, ↓reduceIte, Nat.reduceEqDiff, Nat.reduceAdd, Nat.reduceSub, Nat.reduceMul, Nat.reduceLeDiff, Nat.reduceLT, reduceCtorEq, Int.reduceToNat]
      refine hX _ _ _ ?_
      repeat' (first | (simp -implicitDefEqProofs only [go_sem, ↓reduceIte, Nat.reduceEqDiff, Nat.reduceAdd, Nat.reduceSub, Nat.reduceMul, Nat.reduceLeDiff, Nat.reduceLT, reduceCtorEq, Int.reduceToNat]) | (with_reducible refine g_noent ?_) | (refine cdS (fun hg => ?_) (fun hg => ?_) <;> try simp -implicitDefEqProofs only [hg, Bool.not_true, Bool.not_false]) | (refine gdS (fun hg => ?_) (fun hg => ?_) <;> try simp -implicitDefEqProofs only [hg, Bool.not_true, Bool.not_false]) | (refine gddS (fun hg => ?_) (fun hg => ?_) <;> try simp -implicitDefEqProofs only [hg, Bool.not_true, Bool.not_false]) | ((with_reducible apply And.intro); focus (first | trivial | omega | decide | (simp -implicitDefEqProofs only [maxLen]; omega) | (simp [maxLen, sty_len, nd_len, ndL_len, lnL_len, intsL_len, rvs_len, lensS_len]; done) | (simp [maxLen, sty_len, nd_len, ndL_len, lnL_len, intsL_len, rvs_len, lensS_len]; omega))) | fail)
      refine (hK _ _ (ret_t ?_)).2
      have : a = b := by rw [List.take_length] at hk2; rw [hk2, hl, List.take_length]
      simp [this, lk]
  · have e1 : (((a.length : Nat) : Int) != (b.length : Nat)) = true := by simp; omega
    repeat' (first | (simp -implicitDefEqProofs only [go_sem, ↓reduceIte, Nat.reduceEqDiff, Nat.reduceAdd, Nat.reduceSub, Nat.reduceMul, Nat.reduceLeDiff, Nat.reduceLT, reduceCtorEq, Int.reduceToNat, e1, hla, hlb]) | (with_reducible refine g_noent ?_) | (refine cdS (fun hg => ?_) (fun hg => ?_) <;> try simp -implicitDefEqProofs only [hg, Bool.not_true, Bool.not_false]) | (refine gdS (fun hg => ?_) (fun hg => ?_) <;> try simp -implicitDefEqProofs only [hg, Bool.not_true, Bool.not_false]) | (refine gddS (fun hg => ?_) (fun hg => ?_) <;> try simp -implicitDefEqProofs only [hg, Bool.not_true, Bool.not_false]) | ((with_reducible apply And.intro); focus (first | trivial | omega | decide | (simp -implicitDefEqProofs only [maxLen]; omega) | (simp [maxLen, sty_len, nd_len, ndL_len, lnL_len, intsL_len, rvs_len, lensS_len]; done) | (simp [maxLen, sty_len, nd_len, ndL_len, lnL_len, intsL_len, rvs_len, lensS_len]; omega))) | fail)
    refine (hK _ _ (ret_t ?_)).2
    have : ¬ a = b := fun h => hl (by rw [h])
    simp [this, lk]
end Go.Eng

/- Ways up: the next one, the first that is such. -/
namespace Go.Eng
open Go
theorem up_zero {l : List Nd} (hs : Shp l) (n : Int) : parAt l n = atI (upAt l n) 0 := by
  cases hin : inL l n with
  | false => simp [parAt, upAt, hin, atI]
  | true =>
    obtain ⟨k, rfl, hk⟩ := inL_nat hin
    have := par_at hs.wf k hk 0 pth_pos
    obtain ⟨r, hr⟩ := pth_head (l := l) (n := k)
    simp -implicitDefEqProofs only [hr, List.getElem_cons_zero] at this
    simp -implicitDefEqProofs only [parAt, upAt, hin, if_true, Int.toNat_natCast, this, hr]
    simp [atI]
theorem up_next {l : List Nd} (hs : Shp l) (n : Int) {i : Nat} (hi : i < (upAt l n).length) : parAt l (atI (upAt l n) i) = atI (upAt l n) (i + 1) := by
  unfold upAt at hi ⊢
  split at hi
  · rename_i hin
    rw [if_pos hin]
    obtain ⟨k, rfl, hk⟩ := inL_nat hin
    simp -implicitDefEqProofs only [Int.toNat_natCast] at hi ⊢
    have hi2 : i + 1 < (pth l k).length := by simp at hi; omega
    have h1 : atI ((pth l k).drop 1) i = ((pth l k)[i + 1]'hi2 : Nat) := by
      unfold atI; rw [List.getElem?_drop, show 1 + i = i + 1 by omega, List.getElem?_eq_getElem hi2]
    have h2 : atI ((pth l k).drop 1) (i + 1) = atI (pth l k) (i + 1 + 1) := by
      unfold atI; rw [List.getElem?_drop, show 1 + (i + 1) = i + 1 + 1 by omega]
    rw [h1, h2, ← par_at hs.wf k hk (i + 1) hi2]
    have := pth_lt hk hi2
    simp [parAt, inL_of this]
  · simp at hi
theorem up_len (l : List Nd) (n : Int) : (upAt l n).length ≤ l.length := by
  unfold upAt; split
  · rename_i hin
    obtain ⟨k, rfl, hk⟩ := inL_nat hin
    have := pth_len (l := l) k
    simp; omega
  · simp
theorem atI_ne {p : List Nat} {i : Nat} : (atI p i != -1) = decide (i < p.length) := by
  by_cases h : i < p.length
  · rw [atI_lt h, decide_eq_true h]; simp
  · rw [atI_ge (by omega), decide_eq_false h]; rfl
theorem up_made {l : List Nd} (hs : Shp l) {n : Int} (hm : madeAt l n = true) {i : Nat} (hi : i < (upAt l n).length) : madeAt l (atI (upAt l n) i) = true := by
  rw [atI_lt hi]
  have hin : inL l n = true := by simp [madeAt] at hm; exact hm.1
  obtain ⟨k, rfl, hk⟩ := inL_nat hin
  have hx : upAt l k = (pth l k).drop 1 := by simp [upAt, hin]
  simp -implicitDefEqProofs only [hx] at hi ⊢
  simp -implicitDefEqProofs only [List.getElem_drop]
  have hi2 : 1 + i < (pth l k).length := by simp at hi; omega
  have hlt := pth_lt hk hi2
  have hall : (pth l k).all (shownL l) = true := by simp [madeAt] at hm; exact hm.2
  have := pth_drop (l := l) k (1 + i) hi2
  simp -implicitDefEqProofs only [madeAt, inL_of hlt, Bool.true_and, Int.toNat_natCast, madeS, ← this]
  rw [List.all_eq_true] at hall ⊢
  exact fun x hx => hall x (List.mem_of_mem_drop hx)

theorem nats_ln (xs : List Nat) : (intsL (natsI xs)).length = xs.length := by simp [intsL, natsI]
theorem nats_at {xs : List Nat} {i : Nat} (h : i < xs.length) : (intsL (natsI xs))[i]?.getD [] = [.int .i64 (atI xs i)] := by
  rw [intsL_get (by rw [natsI_len]; exact h), atI_lt h]; simp [natsI]
/-- The first of them that is such, or none. -/
def fstI (p : Int → Bool) (xs : List Nat) : Int := match xs.find? (fun (m : Nat) => p m) with
  | some k => k
  | none => -1
theorem fst_hit {p : Int → Bool} {xs : List Nat} {i : Nat} (h : i < xs.length) (he : fstI p (xs.drop i) = fstI p xs) (hp : p (atI xs i) = true) : fstI p xs = atI xs i := by
  rw [← he, atI_lt h, List.drop_eq_getElem_cons h]
  rw [atI_lt h] at hp
  simp -implicitDefEqProofs only [fstI, List.find?_cons, hp]
theorem fst_miss {p : Int → Bool} {xs : List Nat} {i : Nat} (h : i < xs.length) (he : fstI p (xs.drop i) = fstI p xs) (hp : p (atI xs i) = false) : fstI p (xs.drop (i + 1)) = fstI p xs := by
  rw [← he, List.drop_eq_getElem_cons h]
  rw [atI_lt h] at hp
  simp -implicitDefEqProofs only [fstI, List.find?_cons, hp]
theorem fst_end {p : Int → Bool} {xs : List Nat} {i : Nat} (h : xs.length ≤ i) (he : fstI p (xs.drop i) = fstI p xs) : fstI p xs = -1 := by
  rw [← he, List.drop_of_length_le h]; rfl
theorem fst_cases (p : Int → Bool) (xs : List Nat) : fstI p xs = -1 ∧ (∀ x ∈ xs, p (x : Nat) = false) ∨ ∃ i, ∃ h : i < xs.length, fstI p xs = (xs[i] : Nat) ∧ p (xs[i] : Nat) = true ∧ ∀ j, (h : j < i) → p (xs[j] : Nat) = false := by
  unfold fstI
  cases hf : xs.find? (fun (m : Nat) => p m) with
  | none => left; refine ⟨rfl, fun x hx => ?_⟩; have := List.find?_eq_none.1 hf x hx; simpa using this
  | some k =>
    right
    obtain ⟨hp, a, b, hab, hn⟩ := List.find?_eq_some_iff_append.1 hf
    subst hab
    refine ⟨a.length, by simp, by simp, by simpa using hp, fun j hj => ?_⟩
    have := hn (a[j]) (List.getElem_mem hj)
    rw [List.getElem_append_left hj]
    simpa using this
theorem up_below {l : List Nd} (hs : Shp l) {n : Int} {x : Nat} (hx : x ∈ upAt l n) : belowAt l x n = true ∧ (x : Int) ≠ n ∧ x < l.length := by
  unfold upAt at hx
  split at hx
  · rename_i hin
    obtain ⟨k, rfl, hk⟩ := inL_nat hin
    simp -implicitDefEqProofs only [Int.toNat_natCast] at hx
    have hm := List.mem_of_mem_drop hx
    have hle := pth_le _ _ hm
    have hxl : x < l.length := by omega
    obtain ⟨h1, h2⟩ := (hs.below hxl hk).1 hm
    refine ⟨by simp [belowAt, hin, inL_of hxl, endAt, h1, h2], ?_, hxl⟩
    by_cases hp : 0 ≤ parL l k ∧ parL l k < k
    · rw [pth_cons hp] at hx
      simp -implicitDefEqProofs only [List.drop_succ_cons, List.drop_zero] at hx
      have := pth_le _ _ hx
      omega
    · rw [pth_one hp] at hx; simp at hx
  · simp at hx
end Go.Eng

/- hold: what holds a box. -/
namespace Go.Eng
open Go
/- decoupage/hold.Positioned -/
def c_hold_Positioned : AC := (.seq (.reg [⟨(some 4), .mv, [(.c (.rv (.bool false)))], none⟩]) (.seq (.reg [⟨(some 5), .mv, [(.t 0)], none⟩, ⟨(some 6), .mv, [(.t 1)], none⟩, ⟨(some 7), (.call 30), [(.t 5), (.t 6)], none⟩, ⟨(some 8), .mv, [(.t 7)], none⟩, ⟨(some 9), .mv, [(.t 1)], (some (8, true))⟩, ⟨(some 10), (.ibin .gtr), [(.t 9), (.c (.rv (.int .i64 0)))], (some (8, true))⟩, ⟨(some 11), .pick, [(.t 8), (.t 10), (.c (.rv (.bool false)))], none⟩, ⟨(some 12), .mv, [(.t 11)], none⟩, ⟨(some 13), .mv, [(.t 0)], (some (12, true))⟩, ⟨(some 14), .mv, [(.t 1)], (some (12, true))⟩, ⟨(some 15), (.call 26), [(.t 13), (.t 14)], (some (12, true))⟩, ⟨(some 16), (.fldv 1 1 false), [(.t 15)], (some (12, true))⟩, ⟨(some 17), (.ibin .neq), [(.t 16), (.c (.rv (.int .i64 0)))], (some (12, true))⟩, ⟨(some 18), .pick, [(.t 12), (.t 17), (.c (.rv (.bool false)))], none⟩, ⟨(some 4), .mv, [(.t 18)], none⟩]) .ret))
theorem k_hold_Positioned : FnOK Go.Proofs.Try.prog 35 19 c_hold_Positioned [(.t 4)] := fnOK_of (by kernel_rfl)

/- decoupage/hold.Of -/
def c_hold_Of : AC := (.seq (.reg [⟨(some 4), .mv, [(.c (.rv (.int .i64 0)))], none⟩]) (.seq (.seq (.block 0 (.seq (.reg [⟨(some 7), .mv, [(.t 0)], none⟩, ⟨(some 8), .mv, [(.t 1)], none⟩, ⟨(some 9), (.call 30), [(.t 7), (.t 8)], none⟩, ⟨(some 10), .not, [(.t 9)], none⟩, ⟨(some 6), .mv, [(.t 10)], none⟩]) (.cond (.t 6) (.seq (.reg [⟨(some 4), .mv, [(.c (.rv (.int .i64 (-1))))], none⟩]) .ret) (.seq (.reg [⟨(some 12), .mv, [(.t 0)], none⟩, ⟨(some 13), .mv, [(.t 1)], none⟩, ⟨(some 14), (.call 31), [(.t 12), (.t 13)], none⟩, ⟨(some 15), .not, [(.t 14)], none⟩, ⟨(some 11), .mv, [(.t 15)], none⟩]) (.cond (.t 11) (.seq (.reg [⟨(some 16), .mv, [(.t 0)], none⟩, ⟨(some 17), .mv, [(.t 1)], none⟩, ⟨(some 18), (.call 25), [(.t 16), (.t 17)], none⟩, ⟨(some 4), .mv, [(.t 18)], none⟩]) .ret) (.seq (.reg [⟨(some 20), .mv, [(.t 0)], none⟩, ⟨(some 21), .mv, [(.t 1)], none⟩, ⟨(some 22), (.call 26), [(.t 20), (.t 21)], none⟩, ⟨(some 23), (.fldv 1 1 false), [(.t 22)], none⟩, ⟨(some 24), (.ibin .eql), [(.t 23), (.c (.rv (.int .i64 3)))], none⟩, ⟨(some 19), .mv, [(.t 24)], none⟩]) (.cond (.t 19) (.seq (.reg [⟨(some 4), .mv, [(.c (.rv (.int .i64 (-1))))], none⟩]) .ret) .skip))))))) .ent) (.seq (.seq (.reg [⟨(some 25), .mv, [(.t 0)], none⟩, ⟨(some 26), .mv, [(.t 1)], none⟩, ⟨(some 27), (.call 25), [(.t 25), (.t 26)], none⟩, ⟨(some 5), .mv, [(.t 27)], none⟩]) (.seq (.block 1 (.loop (.seq (.seq (.reg [⟨(some 28), .mv, [(.t 5)], none⟩, ⟨(some 29), (.ibin .neq), [(.t 28), (.c (.rv (.int .i64 (-1))))], none⟩]) (.cond (.t 29) .skip (.exit 1))) (.seq (.seq (.block 2 (.seq (.reg [⟨(some 33), .mv, [(.t 0)], none⟩, ⟨(some 34), .mv, [(.t 5)], none⟩, ⟨(some 35), (.call 35), [(.t 33), (.t 34)], none⟩]) (.cond (.t 35) (.seq (.reg [⟨(some 36), .mv, [(.t 5)], none⟩, ⟨(some 4), .mv, [(.t 36)], none⟩]) .ret) .skip))) .ent) (.reg [⟨(some 30), .mv, [(.t 0)], none⟩, ⟨(some 31), .mv, [(.t 5)], none⟩, ⟨(some 32), (.call 25), [(.t 30), (.t 31)], none⟩, ⟨(some 5), .mv, [(.t 32)], none⟩]))))) .ent)) (.seq (.reg [⟨(some 4), .mv, [(.c (.rv (.int .i64 (-1))))], none⟩]) .ret))))
theorem k_hold_Of : FnOK Go.Proofs.Try.prog 33 37 c_hold_Of [(.t 4)] := fnOK_of (by kernel_rfl)

/- decoupage/decoupageref18.Positioned -/
def c_decoupageref18_Positioned : AC := (.seq (.reg [⟨(some 4), .mv, [(.c (.rv (.bool false)))], none⟩]) (.seq (.reg [⟨(some 5), .mv, [(.t 1)], none⟩, ⟨(some 6), (.ibin .gtr), [(.t 5), (.c (.rv (.int .i64 0)))], none⟩, ⟨(some 7), .mv, [(.t 6)], none⟩, ⟨(some 8), .mv, [(.t 0)], (some (7, true))⟩, ⟨(some 9), .mv, [(.t 1)], (some (7, true))⟩, ⟨(some 10), (.call 60), [(.t 8), (.t 9)], (some (7, true))⟩, ⟨(some 11), .pick, [(.t 7), (.t 10), (.c (.rv (.bool false)))], none⟩, ⟨(some 12), .mv, [(.t 11)], none⟩, ⟨(some 13), .mv, [(.t 0)], (some (12, true))⟩, ⟨(some 14), .mv, [(.t 1)], (some (12, true))⟩, ⟨(some 15), (.ixs 49), [(.t 13), (.t 14)], (some (12, true))⟩, ⟨(some 16), (.fld 0), [(.t 15)], (some (12, true))⟩, ⟨(some 17), (.fld 1), [(.t 16)], (some (12, true))⟩, ⟨(some 18), (.load 1 false), [(.t 17)], (some (12, true))⟩, ⟨(some 19), (.ibin .neq), [(.t 18), (.c (.rv (.int .i64 0)))], (some (12, true))⟩, ⟨(some 20), .pick, [(.t 12), (.t 19), (.c (.rv (.bool false)))], none⟩, ⟨(some 4), .mv, [(.t 20)], none⟩]) .ret))
theorem k_decoupageref18_Positioned : FnOK Go.Proofs.Try.prog 36 21 c_decoupageref18_Positioned [(.t 4)] := fnOK_of (by kernel_rfl)

/- decoupage/decoupageref18.Of -/
def c_decoupageref18_Of : AC := (.seq (.reg [⟨(some 4), .mv, [(.c (.rv (.int .i64 0)))], none⟩]) (.seq (.seq (.reg [⟨(some 7), .mv, [(.t 1)], none⟩, ⟨(some 8), (.ibin .leq), [(.t 7), (.c (.rv (.int .i64 0)))], none⟩, ⟨(some 9), .mv, [(.t 8)], none⟩, ⟨(some 10), .mv, [(.t 0)], (some (9, false))⟩, ⟨(some 11), .mv, [(.t 1)], (some (9, false))⟩, ⟨(some 12), (.call 60), [(.t 10), (.t 11)], (some (9, false))⟩, ⟨(some 13), .not, [(.t 12)], (some (9, false))⟩, ⟨(some 14), .pick, [(.t 9), (.c (.rv (.bool true))), (.t 13)], none⟩]) (.cond (.t 14) (.seq (.reg [⟨(some 4), .mv, [(.c (.rv (.int .i64 (-1))))], none⟩]) .ret) .skip)) (.seq (.reg [⟨(some 15), .mv, [(.t 0)], none⟩, ⟨(some 16), .mv, [(.t 1)], none⟩, ⟨(some 17), (.call 72), [(.t 15), (.t 16)], none⟩, ⟨(some 5), .mv, [(.t 17)], none⟩]) (.seq (.seq (.reg [⟨(some 18), .mv, [(.t 0)], none⟩, ⟨(some 19), .mv, [(.t 1)], none⟩, ⟨(some 20), (.ixs 49), [(.t 18), (.t 19)], none⟩, ⟨(some 21), (.fld 0), [(.t 20)], none⟩, ⟨(some 22), (.fld 1), [(.t 21)], none⟩, ⟨(some 23), (.load 1 false), [(.t 22)], none⟩, ⟨(some 24), (.ibin .lss), [(.t 23), (.c (.rv (.int .i64 2)))], none⟩]) (.cond (.t 24) (.seq (.reg [⟨(some 25), .mv, [(.t 5)], none⟩, ⟨(some 26), (.ixs 1), [(.t 25), (.c (.rv (.int .i64 0)))], none⟩, ⟨(some 27), (.load 1 false), [(.t 26)], none⟩, ⟨(some 4), .mv, [(.t 27)], none⟩]) .ret) .skip)) (.seq (.seq (.reg [⟨(some 28), .mv, [(.t 5)], none⟩, ⟨(some 29), .len, [(.t 28)], none⟩, ⟨(some 30), .mv, [(.c (.rv (.int .i64 0)))], none⟩]) (.seq (.block 0 (.loop (.seq (.reg [⟨(some 31), (.ibin .lss), [(.t 30), (.t 29)], none⟩]) (.seq (.cond (.t 31) .skip (.exit 0)) (.seq (.seq (.block 1 (.seq (.reg [⟨(some 32), .mv, [(.t 30)], none⟩, ⟨(some 6), .mv, [(.t 32)], none⟩]) (.seq (.reg [⟨(some 33), .mv, [(.t 0)], none⟩, ⟨(some 34), .mv, [(.t 1)], none⟩, ⟨(some 35), (.ixs 49), [(.t 33), (.t 34)], none⟩, ⟨(some 36), (.fld 0), [(.t 35)], none⟩, ⟨(some 37), (.fld 1), [(.t 36)], none⟩, ⟨(some 38), (.load 1 false), [(.t 37)], none⟩, ⟨(some 39), (.ibin .eql), [(.t 38), (.c (.rv (.int .i64 2)))], none⟩, ⟨(some 40), .mv, [(.t 39)], none⟩, ⟨(some 41), .mv, [(.t 0)], (some (40, true))⟩, ⟨(some 42), .mv, [(.t 5)], (some (40, true))⟩, ⟨(some 43), .mv, [(.t 6)], (some (40, true))⟩, ⟨(some 44), (.ixs 1), [(.t 42), (.t 43)], (some (40, true))⟩, ⟨(some 45), (.load 1 false), [(.t 44)], (some (40, true))⟩, ⟨(some 46), (.call 36), [(.t 41), (.t 45)], (some (40, true))⟩, ⟨(some 47), .pick, [(.t 40), (.t 46), (.c (.rv (.bool false)))], none⟩]) (.cond (.t 47) (.seq (.reg [⟨(some 48), .mv, [(.t 5)], none⟩, ⟨(some 49), .mv, [(.t 6)], none⟩, ⟨(some 50), (.ixs 1), [(.t 48), (.t 49)], none⟩, ⟨(some 51), (.load 1 false), [(.t 50)], none⟩, ⟨(some 4), .mv, [(.t 51)], none⟩]) .ret) .skip)))) .ent) (.reg [⟨(some 52), (.ibin .add), [(.t 30), (.c (.rv (.int .i64 1)))], none⟩, ⟨(some 30), .mv, [(.t 52)], none⟩])))))) .ent)) (.seq (.reg [⟨(some 4), .mv, [(.c (.rv (.int .i64 (-1))))], none⟩]) .ret))))))
theorem k_decoupageref18_Of : FnOK Go.Proofs.Try.prog 34 53 c_decoupageref18_Of [(.t 4)] := fnOK_of (by kernel_rfl)


def posAt (l : List Nd) (n : Int) : Bool := madeAt l n && decide (n > 0) && ((styAt l n).position != 0)
def holdAt (l : List Nd) (n : Int) : Int := if madeAt l n = false then -1 else if outAt l n = false then parAt l n else if (styAt l n).position = 3 then -1 else fstI (posAt l) (upAt l n)

theorem sp_Positioned (l : List Nd) (n : Int) : CallR Go.Proofs.Try.prog 35 [.rv (kinV l), .rv (.int .i64 n)] [] [] (.rv (.bool (posAt l n))) := by
  refine callR_G k_hold_Positioned [.rv (kinV l), .rv (.int .i64 n)] _ (by simp) (by simp [BkAll, bk_agg, bkAll_map, bk_rv, bk_fn, Sty.sv, Ln.sv, Nd.sv]) (fun K hK => ?_)
  have hm := sp_Made l n
  have hst := sp_Style l n
  simp -implicitDefEqProofs only [c_hold_Positioned, go_sem, ↓reduceIte, Nat.reduceEqDiff, Nat.reduceAdd, Nat.reduceSub, Nat.reduceMul, Nat.reduceLeDiff, Nat.reduceLT, reduceCtorEq, Int.reduceToNat]
  cases hi : madeAt l n with
  | false =>
    rw [hi] at hm
    have hcall1 := hm; repeat' (first | (simp -implicitDefEqProofs only [go_sem, ↓reduceIte, Nat.reduceEqDiff, Nat.reduceAdd, Nat.reduceSub, Nat.reduceMul, Nat.reduceLeDiff, Nat.reduceLT, reduceCtorEq, Int.reduceToNat]) | (with_reducible refine g_noent ?_) | (with_reducible refine g_call0 hcall1 ?_) | (with_reducible refine g_calld0 hcall1 ?_) | (refine cdS (fun hg => ?_) (fun hg => ?_) <;> try simp -implicitDefEqProofs only [hg, Bool.not_true, Bool.not_false]) | (refine gdS (fun hg => ?_) (fun hg => ?_) <;> try simp -implicitDefEqProofs only [hg, Bool.not_true, Bool.not_false]) | (refine gddS (fun hg => ?_) (fun hg => ?_) <;> try simp -implicitDefEqProofs only [hg, Bool.not_true, Bool.not_false]) | ((with_reducible apply And.intro); focus (first | trivial | omega | decide | (simp -implicitDefEqProofs only [maxLen]; omega) | (simp [maxLen, sty_len, nd_len, ndL_len, lnL_len, intsL_len, rvs_len, lensS_len]; done) | (simp [maxLen, sty_len, nd_len, ndL_len, lnL_len, intsL_len, rvs_len, lensS_len]; omega))) | fail)
    exact (hK _ _ (ret_t (by simp [posAt, hi, lk]))).2
  | true =>
    rw [hi] at hm
    by_cases h0 : n > 0
    · have e1 : decide (n > 0) = true := decide_eq_true h0
      have hcall2 := hm; have hcall3 := hst; repeat' (first | (simp -implicitDefEqProofs only [go_sem, ↓reduceIte, Nat.reduceEqDiff, Nat.reduceAdd, Nat.reduceSub, Nat.reduceMul, Nat.reduceLeDiff, Nat.reduceLT, reduceCtorEq, Int.reduceToNat, e1, sty_at1]) | (with_reducible refine g_noent ?_) | (with_reducible refine g_call0 hcall2 ?_) | (with_reducible refine g_calld0 hcall2 ?_) | (with_reducible refine g_call0 hcall3 ?_) | (with_reducible refine g_calld0 hcall3 ?_) | (refine cdS (fun hg => ?_) (fun hg => ?_) <;> try simp -implicitDefEqProofs only [hg, Bool.not_true, Bool.not_false]) | (refine gdS (fun hg => ?_) (fun hg => ?_) <;> try simp -implicitDefEqProofs only [hg, Bool.not_true, Bool.not_false]) | (refine gddS (fun hg => ?_) (fun hg => ?_) <;> try simp -implicitDefEqProofs only [hg, Bool.not_true, Bool.not_false]) | ((with_reducible apply And.intro); focus (first | trivial | omega | decide | (simp -implicitDefEqProofs only [maxLen]; omega) | (simp [maxLen, sty_len, nd_len, ndL_len, lnL_len, intsL_len, rvs_len, lensS_len]; done) | (simp [maxLen, sty_len, nd_len, ndL_len, lnL_len, intsL_len, rvs_len, lensS_len]; omega))) | fail)
      exact (hK _ _ (ret_t (by simp [posAt, hi, lk, h0]))).2
    · have e1 : decide (n > 0) = false := decide_eq_false h0
      have hcall4 := hm; have hcall5 := hst; repeat' (first | (simp -implicitDefEqProofs only [go_sem, ↓reduceIte, Nat.reduceEqDiff, Nat.reduceAdd, Nat.reduceSub, Nat.reduceMul, Nat.reduceLeDiff, Nat.reduceLT, reduceCtorEq, Int.reduceToNat, e1, sty_at1]) | (with_reducible refine g_noent ?_) | (with_reducible refine g_call0 hcall4 ?_) | (with_reducible refine g_calld0 hcall4 ?_) | (with_reducible refine g_call0 hcall5 ?_) | (with_reducible refine g_calld0 hcall5 ?_) | (refine cdS (fun hg => ?_) (fun hg => ?_) <;> try simp -implicitDefEqProofs only [hg, Bool.not_true, Bool.not_false]) | (refine gdS (fun hg => ?_) (fun hg => ?_) <;> try simp -implicitDefEqProofs only [hg, Bool.not_true, Bool.not_false]) | (refine gddS (fun hg => ?_) (fun hg => ?_) <;> try simp -implicitDefEqProofs only [hg, Bool.not_true, Bool.not_false]) | ((with_reducible apply And.intro); focus (first | trivial | omega | decide | (simp -implicitDefEqProofs only [maxLen]; omega) | (simp [maxLen, sty_len, nd_len, ndL_len, lnL_len, intsL_len, rvs_len, lensS_len]; done) | (simp [maxLen, sty_len, nd_len, ndL_len, lnL_len, intsL_len, rvs_len, lensS_len]; omega))) | fail)
      exact (hK _ _ (ret_t (by simp [posAt, hi, lk, h0]))).2

theorem sp_Of (l : List Nd) (hs : Shp l) (n : Int) : CallR Go.Proofs.Try.prog 33 [.rv (kinV l), .rv (.int .i64 n)] [] [] (.rv (.int .i64 (holdAt l n))) := by
  refine callR_G k_hold_Of [.rv (kinV l), .rv (.int .i64 n)] _ (by simp) (by simp [BkAll, bk_agg, bkAll_map, bk_rv, bk_fn, Sty.sv, Ln.sv, Nd.sv]) (fun K hK => ?_)
  have hm := sp_Made l n
  have ho := sp_Out l n
  have hst := sp_Style l n
  have hpar := sp_Parent l n
  simp -implicitDefEqProofs only [c_hold_Of, go_sem, ↓reduceIte, Nat.reduceEqDiff, Nat.reduceAdd, Nat.reduceSub, Nat.reduceMul, Nat.reduceLeDiff, Nat.reduceLT, reduceCtorEq, Int.reduceToNat]
  cases hmm : madeAt l n with
  | false =>
    rw [hmm] at hm
    have hcall6 := hm; repeat' (first | (simp -implicitDefEqProofs only [go_sem, ↓reduceIte, Nat.reduceEqDiff, Nat.reduceAdd, Nat.reduceSub, Nat.reduceMul, Nat.reduceLeDiff, Nat.reduceLT, reduceCtorEq, Int.reduceToNat]) | (with_reducible refine g_noent ?_) | (with_reducible refine g_call0 hcall6 ?_) | (with_reducible refine g_calld0 hcall6 ?_) | (refine cdS (fun hg => ?_) (fun hg => ?_) <;> try simp -implicitDefEqProofs only [hg, Bool.not_true, Bool.not_false]) | (refine gdS (fun hg => ?_) (fun hg => ?_) <;> try simp -implicitDefEqProofs only [hg, Bool.not_true, Bool.not_false]) | (refine gddS (fun hg => ?_) (fun hg => ?_) <;> try simp -implicitDefEqProofs only [hg, Bool.not_true, Bool.not_false]) | ((with_reducible apply And.intro); focus (first | trivial | omega | decide | (simp -implicitDefEqProofs only [maxLen]; omega) | (simp [maxLen, sty_len, nd_len, ndL_len, lnL_len, intsL_len, rvs_len, lensS_len]; done) | (simp [maxLen, sty_len, nd_len, ndL_len, lnL_len, intsL_len, rvs_len, lensS_len]; omega))) | fail)
    exact (hK _ _ (ret_t (by simp [holdAt, hmm, lk]))).2
  | true =>
    rw [hmm] at hm
    cases hoo : outAt l n with
    | false =>
      rw [hoo] at ho
      have hcall7 := hm; have hcall8 := ho; have hcall9 := hpar; repeat' (first | (simp -implicitDefEqProofs only [go_sem, ↓reduceIte, Nat.reduceEqDiff, Nat.reduceAdd, Nat.reduceSub, Nat.reduceMul, Nat.reduceLeDiff, Nat.reduceLT, reduceCtorEq, Int.reduceToNat]) | (with_reducible refine g_noent ?_) | (with_reducible refine g_call0 hcall7 ?_) | (with_reducible refine g_calld0 hcall7 ?_) | (with_reducible refine g_call0 hcall8 ?_) | (with_reducible refine g_calld0 hcall8 ?_) | (with_reducible refine g_call0 hcall9 ?_) | (with_reducible refine g_calld0 hcall9 ?_) | (refine cdS (fun hg => ?_) (fun hg => ?_) <;> try simp -implicitDefEqProofs only [hg, Bool.not_true, Bool.not_false]) | (refine gdS (fun hg => ?_) (fun hg => ?_) <;> try simp -implicitDefEqProofs only [hg, Bool.not_true, Bool.not_false]) | (refine gddS (fun hg => ?_) (fun hg => ?_) <;> try simp -implicitDefEqProofs only [hg, Bool.not_true, Bool.not_false]) | ((with_reducible apply And.intro); focus (first | trivial | omega | decide | (simp -implicitDefEqProofs only [maxLen]; omega) | (simp [maxLen, sty_len, nd_len, ndL_len, lnL_len, intsL_len, rvs_len, lensS_len]; done) | (simp [maxLen, sty_len, nd_len, ndL_len, lnL_len, intsL_len, rvs_len, lensS_len]; omega))) | fail)
      exact (hK _ _ (ret_t (by simp [holdAt, hmm, hoo, lk]))).2
    | true =>
      rw [hoo] at ho
      by_cases h3 : (styAt l n).position = 3
      · have e3 : ((styAt l n).position == 3) = true := by simp [h3]
        have hcall10 := hm; have hcall11 := ho; have hcall12 := hst; repeat' (first | (simp -implicitDefEqProofs only [go_sem, ↓reduceIte, Nat.reduceEqDiff, Nat.reduceAdd, Nat.reduceSub, Nat.reduceMul, Nat.reduceLeDiff, Nat.reduceLT, reduceCtorEq, Int.reduceToNat, sty_at1, e3]) | (with_reducible refine g_noent ?_) | (with_reducible refine g_call0 hcall10 ?_) | (with_reducible refine g_calld0 hcall10 ?_) | (with_reducible refine g_call0 hcall11 ?_) | (with_reducible refine g_calld0 hcall11 ?_) | (with_reducible refine g_call0 hcall12 ?_) | (with_reducible refine g_calld0 hcall12 ?_) | (refine cdS (fun hg => ?_) (fun hg => ?_) <;> try simp -implicitDefEqProofs only [hg, Bool.not_true, Bool.not_false]) | (refine gdS (fun hg => ?_) (fun hg => ?_) <;> try simp -implicitDefEqProofs only [hg, Bool.not_true, Bool.not_false]) | (refine gddS (fun hg => ?_) (fun hg => ?_) <;> try simp -implicitDefEqProofs only [hg, Bool.not_true, Bool.not_false]) | ((with_reducible apply And.intro); focus (first | trivial | omega | decide | (simp -implicitDefEqProofs only [maxLen]; omega) | (simp [maxLen, sty_len, nd_len, ndL_len, lnL_len, intsL_len, rvs_len, lensS_len]; done) | (simp [maxLen, sty_len, nd_len, ndL_len, lnL_len, intsL_len, rvs_len, lensS_len]; omega))) | fail)
        exact (hK _ _ (ret_t (by simp [holdAt, hmm, hoo, h3, lk]))).2
      · have e3 : ((styAt l n).position == 3) = false := by simp [h3]
        have hv : holdAt l n = fstI (posAt l) (upAt l n) := by simp [holdAt, hmm, hoo, h3]
        rw [hv] at hK
        have hcall13 := hm; have hcall14 := ho; have hcall15 := hst; have hcall16 := hpar; repeat' (first | (simp -implicitDefEqProofs only [go_sem, ↓reduceIte, Nat.reduceEqDiff, Nat.reduceAdd, Nat.reduceSub, Nat.reduceMul, Nat.reduceLeDiff, Nat.reduceLT, reduceCtorEq, Int.reduceToNat, sty_at1, e3]) | (with_reducible refine g_noent ?_) | (with_reducible refine g_call0 hcall13 ?_) | (with_reducible refine g_calld0 hcall13 ?_) | (with_reducible refine g_call0 hcall14 ?_) | (with_reducible refine g_calld0 hcall14 ?_) | (with_reducible refine g_call0 hcall15 ?_) | (with_reducible refine g_calld0 hcall15 ?_) | (with_reducible refine g_call0 hcall16 ?_) | (with_reducible refine g_calld0 hcall16 ?_) | (refine cdS (fun hg => ?_) (fun hg => ?_) <;> try simp -implicitDefEqProofs only [hg, Bool.not_true, Bool.not_false]) | (refine gdS (fun hg => ?_) (fun hg => ?_) <;> try simp -implicitDefEqProofs only [hg, Bool.not_true, Bool.not_false]) | (refine gddS (fun hg => ?_) (fun hg => ?_) <;> try simp -implicitDefEqProofs only [hg, Bool.not_true, Bool.not_false]) | ((with_reducible apply And.intro); focus (first | trivial | omega | decide | (simp -implicitDefEqProofs only [maxLen]; omega) | (simp [maxLen, sty_len, nd_len, ndL_len, lnL_len, intsL_len, rvs_len, lensS_len]; done) | (simp [maxLen, sty_len, nd_len, ndL_len, lnL_len, intsL_len, rvs_len, lensS_len]; omega))) | fail)
        refine g_loop (ι := Nat) (fun i => [(5, .rv (.int .i64 (atI (upAt l n) i))), (0, .rv (kinV l))]) (fun _ => []) (fun i => i ≤ (upAt l n).length ∧ fstI (posAt l) ((upAt l n).drop i) = fstI (posAt l) (upAt l n)) (fun i => (upAt l n).length - i) 0 (by simp) (by rw [up_zero hs]; exact ent_env (by simp [lk])) (fun i hi' K' hN hX hR => ?_)
        obtain ⟨hi1, hi2⟩ := hi'
        simp -implicitDefEqProofs only [go_sem, ↓reduceIte, Nat.reduceEqDiff, Nat.reduceAdd, Nat.reduceSub, Nat.reduceMul, Nat.reduceLeDiff, Nat.reduceLT, reduceCtorEq, Int.reduceToNat, atI_ne]
        refine cdS (fun hg => ?_) (fun hg => ?_)
        · have hil : i < (upAt l n).length := of_decide_eq_true hg
          have hp := sp_Positioned l (atI (upAt l n) i)
          have hnx := up_next hs n hil
          have hcall := sp_Parent l (atI (upAt l n) i)
          rw [hnx] at hcall
          cases hb : posAt l (atI (upAt l n) i) with
          | true =>
            rw [hb] at hp
            have hcall17 := hp; have hcall18 := hcall; repeat' (first | (simp -implicitDefEqProofs only [go_sem, ↓reduceIte, Nat.reduceEqDiff, Nat.reduceAdd, Nat.reduceSub, Nat.reduceMul, Nat.reduceLeDiff, Nat.reduceLT, reduceCtorEq, Int.reduceToNat]) | (with_reducible refine g_noent ?_) | (with_reducible refine g_call0 hcall17 ?_) | (with_reducible refine g_calld0 hcall17 ?_) | (with_reducible refine g_call0 hcall18 ?_) | (with_reducible refine g_calld0 hcall18 ?_) | (refine cdS (fun hg => ?_) (fun hg => ?_) <;> try simp -implicitDefEqProofs only [hg, Bool.not_true, Bool.not_false]) | (refine gdS (fun hg => ?_) (fun hg => ?_) <;> try simp -implicitDefEqProofs only [hg, Bool.not_true, Bool.not_false]) | (refine gddS (fun hg => ?_) (fun hg => ?_) <;> try simp -implicitDefEqProofs only [hg, Bool.not_true, Bool.not_false]) | ((with_reducible apply And.intro); focus (first | trivial | omega | decide | (simp -implicitDefEqProofs only [maxLen]; omega) | (simp [maxLen, sty_len, nd_len, ndL_len, lnL_len, intsL_len, rvs_len, lensS_len]; done) | (simp [maxLen, sty_len, nd_len, ndL_len, lnL_len, intsL_len, rvs_len, lensS_len]; omega))) | fail)
            refine hR _ _ (hK _ _ (ret_t ?_)).2
            rw [fst_hit hil hi2 hb]; simp [lk]
          | false =>
            rw [hb] at hp
            have hcall19 := hp; have hcall20 := hcall; repeat' (first | (simp -implicitDefEqProofs only [go_sem, ↓reduceIte, Nat.reduceEqDiff, Nat.reduceAdd, Nat.reduceSub, Nat.reduceMul, Nat.reduceLeDiff, Nat.reduceLT, reduceCtorEq, Int.reduceToNat]) | (with_reducible refine g_noent ?_) | (with_reducible refine g_call0 hcall19 ?_) | (with_reducible refine g_calld0 hcall19 ?_) | (with_reducible refine g_call0 hcall20 ?_) | (with_reducible refine g_calld0 hcall20 ?_) | (refine cdS (fun hg => ?_) (fun hg => ?_) <;> try simp -implicitDefEqProofs only [hg, Bool.not_true, Bool.not_false]) | (refine gdS (fun hg => ?_) (fun hg => ?_) <;> try simp -implicitDefEqProofs only [hg, Bool.not_true, Bool.not_false]) | (refine gddS (fun hg => ?_) (fun hg => ?_) <;> try simp -implicitDefEqProofs only [hg, Bool.not_true, Bool.not_false]) | ((with_reducible apply And.intro); focus (first | trivial | omega | decide | (simp -implicitDefEqProofs only [maxLen]; omega) | (simp [maxLen, sty_len, nd_len, ndL_len, lnL_len, intsL_len, rvs_len, lensS_len]; done) | (simp [maxLen, sty_len, nd_len, ndL_len, lnL_len, intsL_len, rvs_len, lensS_len]; omega))) | fail)
            exact hN (i + 1) _ _ ⟨by omega, fst_miss hil hi2 hb⟩ (by omega) (ent_env (by simp [lk]))
        · have hil : ¬ i < (upAt l n).length := of_decide_eq_false hg
          simp -implicitDefEqProofs only [go_sem, ↓reduceIte, Nat.reduceEqDiff, Nat.reduceAdd, Nat.reduceSub, Nat.reduceMul, Nat.reduceLeDiff, Nat.reduceLT, reduceCtorEq, Int.reduceToNat]
          refine hX _ _ _ ?_
          repeat' (first | (simp -implicitDefEqProofs only [go_sem, ↓reduceIte, Nat.reduceEqDiff, Nat.reduceAdd, Nat.reduceSub, Nat.reduceMul, Nat.reduceLeDiff, Nat.reduceLT, reduceCtorEq, Int.reduceToNat]) | (with_reducible refine g_noent ?_) | (refine cdS (fun hg => ?_) (fun hg => ?_) <;> try simp -implicitDefEqProofs only [hg, Bool.not_true, Bool.not_false]) | (refine gdS (fun hg => ?_) (fun hg => ?_) <;> try simp -implicitDefEqProofs only [hg, Bool.not_true, Bool.not_false]) | (refine gddS (fun hg => ?_) (fun hg => ?_) <;> try simp -implicitDefEqProofs only [hg, Bool.not_true, Bool.not_false]) | ((with_reducible apply And.intro); focus (first | trivial | omega | decide | (simp -implicitDefEqProofs only [maxLen]; omega) | (simp [maxLen, sty_len, nd_len, ndL_len, lnL_len, intsL_len, rvs_len, lensS_len]; done) | (simp [maxLen, sty_len, nd_len, ndL_len, lnL_len, intsL_len, rvs_len, lensS_len]; omega))) | fail)
          refine (hK _ _ (ret_t ?_)).2
          rw [fst_end (by omega) hi2]; simp [lk]

theorem sp_ref18_Positioned (l : List Nd) (ht : treeOK l = true) (n : Int) : CallR Go.Proofs.Try.prog 36 [.rv (.sl 49 (ndL l)), .rv (.int .i64 n)] [] [] (.rv (.bool (posAt l n))) := by
  refine callR_G k_decoupageref18_Positioned [.rv (.sl 49 (ndL l)), .rv (.int .i64 n)] _ (by simp) (by simp [BkAll, bk_agg, bkAll_map, bk_rv, bk_fn, Sty.sv, Ln.sv, Nd.sv]) (fun K hK => ?_)
  have hlen := ndL_len l
  have hm := sp_ref08_Made l ht n
  simp -implicitDefEqProofs only [c_decoupageref18_Positioned, go_sem, ↓reduceIte, Nat.reduceEqDiff, Nat.reduceAdd, Nat.reduceSub, Nat.reduceMul, Nat.reduceLeDiff, Nat.reduceLT, reduceCtorEq, Int.reduceToNat]
  by_cases h0 : n > 0
  · have e1 : decide (n > 0) = true := decide_eq_true h0
    cases hi : madeAt l n with
    | false =>
      rw [hi] at hm
      have hcall21 := hm; repeat' (first | (simp -implicitDefEqProofs only [go_sem, ↓reduceIte, Nat.reduceEqDiff, Nat.reduceAdd, Nat.reduceSub, Nat.reduceMul, Nat.reduceLeDiff, Nat.reduceLT, reduceCtorEq, Int.reduceToNat, e1]) | (with_reducible refine g_noent ?_) | (with_reducible refine g_call0 hcall21 ?_) | (with_reducible refine g_calld0 hcall21 ?_) | (refine cdS (fun hg => ?_) (fun hg => ?_) <;> try simp -implicitDefEqProofs only [hg, Bool.not_true, Bool.not_false]) | (refine gdS (fun hg => ?_) (fun hg => ?_) <;> try simp -implicitDefEqProofs only [hg, Bool.not_true, Bool.not_false]) | (refine gddS (fun hg => ?_) (fun hg => ?_) <;> try simp -implicitDefEqProofs only [hg, Bool.not_true, Bool.not_false]) | ((with_reducible apply And.intro); focus (first | trivial | omega | decide | (simp -implicitDefEqProofs only [maxLen]; omega) | (simp [maxLen, sty_len, nd_len, ndL_len, lnL_len, intsL_len, rvs_len, lensS_len]; done) | (simp [maxLen, sty_len, nd_len, ndL_len, lnL_len, intsL_len, rvs_len, lensS_len]; omega))) | fail)
      exact (hK _ _ (ret_t (by simp [posAt, hi, lk]))).2
    | true =>
      rw [hi] at hm
      have hin : inL l n = true := by simp [madeAt] at hi; exact hi.1
      obtain ⟨k, rfl, hk⟩ := inL_nat hin
      have hx := ndL_get hk
      have hsx : styAt l k = (l[k]'hk).s := by simp [styAt, hin, hk]
      have hp : ((l[k]'hk).cells.drop 1)[0]? = some (.int .i64 (l[k]'hk).s.position) := rfl
      have hcall22 := hm; repeat' (first | (simp -implicitDefEqProofs only [go_sem, ↓reduceIte, Nat.reduceEqDiff, Nat.reduceAdd, Nat.reduceSub, Nat.reduceMul, Nat.reduceLeDiff, Nat.reduceLT, reduceCtorEq, Int.reduceToNat, e1, hx, hlen, nd_len, hp]) | (with_reducible refine g_noent ?_) | (with_reducible refine g_call0 hcall22 ?_) | (with_reducible refine g_calld0 hcall22 ?_) | (refine cdS (fun hg => ?_) (fun hg => ?_) <;> try simp -implicitDefEqProofs only [hg, Bool.not_true, Bool.not_false]) | (refine gdS (fun hg => ?_) (fun hg => ?_) <;> try simp -implicitDefEqProofs only [hg, Bool.not_true, Bool.not_false]) | (refine gddS (fun hg => ?_) (fun hg => ?_) <;> try simp -implicitDefEqProofs only [hg, Bool.not_true, Bool.not_false]) | ((with_reducible apply And.intro); focus (first | trivial | omega | decide | (simp -implicitDefEqProofs only [maxLen]; omega) | (simp [maxLen, sty_len, nd_len, ndL_len, lnL_len, intsL_len, rvs_len, lensS_len]; done) | (simp [maxLen, sty_len, nd_len, ndL_len, lnL_len, intsL_len, rvs_len, lensS_len]; omega))) | fail)
      exact (hK _ _ (ret_t (by simp [posAt, hi, lk, hsx]; omega))).2
  · have e1 : decide (n > 0) = false := decide_eq_false h0
    repeat' (first | (simp -implicitDefEqProofs only [go_sem, ↓reduceIte, Nat.reduceEqDiff, Nat.reduceAdd, Nat.reduceSub, Nat.reduceMul, Nat.reduceLeDiff, Nat.reduceLT, reduceCtorEq, Int.reduceToNat, e1]) | (with_reducible refine g_noent ?_) | (refine cdS (fun hg => ?_) (fun hg => ?_) <;> try simp -implicitDefEqProofs only [hg, Bool.not_true, Bool.not_false]) | (refine gdS (fun hg => ?_) (fun hg => ?_) <;> try simp -implicitDefEqProofs only [hg, Bool.not_true, Bool.not_false]) | (refine gddS (fun hg => ?_) (fun hg => ?_) <;> try simp -implicitDefEqProofs only [hg, Bool.not_true, Bool.not_false]) | ((with_reducible apply And.intro); focus (first | trivial | omega | decide | (simp -implicitDefEqProofs only [maxLen]; omega) | (simp [maxLen, sty_len, nd_len, ndL_len, lnL_len, intsL_len, rvs_len, lensS_len]; done) | (simp [maxLen, sty_len, nd_len, ndL_len, lnL_len, intsL_len, rvs_len, lensS_len]; omega))) | fail)
    exact (hK _ _ (ret_t (by simp [posAt, lk, h0]))).2

theorem sp_ref18_Of (l : List Nd) (ht : treeOK l = true) (hb : l.length ≤ 8589934592) (n : Int) : CallR Go.Proofs.Try.prog 34 [.rv (.sl 49 (ndL l)), .rv (.int .i64 n)] [] [] (.rv (.int .i64 (holdAt l n))) := by
  refine callR_G k_decoupageref18_Of [.rv (.sl 49 (ndL l)), .rv (.int .i64 n)] _ (by simp) (by simp [BkAll, bk_agg, bkAll_map, bk_rv, bk_fn, Sty.sv, Ln.sv, Nd.sv]) (fun K hK => ?_)
  have hs := tree_shp ht
  have hlen := ndL_len l
  have hm := sp_ref08_Made l ht n
  have hup := sp_ref08_Up l hs hb n
  have ful := up_len l n
  simp -implicitDefEqProofs only [c_decoupageref18_Of, go_sem, ↓reduceIte, Nat.reduceEqDiff, Nat.reduceAdd, Nat.reduceSub, Nat.reduceMul, Nat.reduceLeDiff, Nat.reduceLT, reduceCtorEq, Int.reduceToNat]
  by_cases h0 : n ≤ 0
  · have e1 : decide (n ≤ 0) = true := decide_eq_true h0
    have hv : holdAt l n = -1 := by
      have ho : outAt l n = false := by simp [outAt]; omega
      simp -implicitDefEqProofs only [holdAt, ho]
      rcases inL_cases l n with ⟨h1, hi⟩ | ⟨h1, h2, hi⟩ | ⟨k, rfl, hk, hi⟩
      · simp [parAt, hi]
      · simp [parAt, hi]
      · obtain rfl : k = 0 := by omega
        simp [parAt, hi, hs.root]
    repeat' (first | (simp -implicitDefEqProofs only [go_sem, ↓reduceIte, Nat.reduceEqDiff, Nat.reduceAdd, Nat.reduceSub, Nat.reduceMul, Nat.reduceLeDiff, Nat.reduceLT, reduceCtorEq, Int.reduceToNat, e1]) | (with_reducible refine g_noent ?_) | (refine cdS (fun hg => ?_) (fun hg => ?_) <;> try simp -implicitDefEqProofs only [hg, Bool.not_true, Bool.not_false]) | (refine gdS (fun hg => ?_) (fun hg => ?_) <;> try simp -implicitDefEqProofs only [hg, Bool.not_true, Bool.not_false]) | (refine gddS (fun hg => ?_) (fun hg => ?_) <;> try simp -implicitDefEqProofs only [hg, Bool.not_true, Bool.not_false]) | ((with_reducible apply And.intro); focus (first | trivial | omega | decide | (simp -implicitDefEqProofs only [maxLen]; omega) | (simp [maxLen, sty_len, nd_len, ndL_len, lnL_len, intsL_len, rvs_len, lensS_len]; done) | (simp [maxLen, sty_len, nd_len, ndL_len, lnL_len, intsL_len, rvs_len, lensS_len]; omega))) | fail)
    exact (hK _ _ (ret_t (by simp [hv, lk]))).2
  · have e1 : decide (n ≤ 0) = false := decide_eq_false h0
    cases hmm : madeAt l n with
    | false =>
      rw [hmm] at hm
      have hcall23 := hm; repeat' (first | (simp -implicitDefEqProofs only [go_sem, ↓reduceIte, Nat.reduceEqDiff, Nat.reduceAdd, Nat.reduceSub, Nat.reduceMul, Nat.reduceLeDiff, Nat.reduceLT, reduceCtorEq, Int.reduceToNat, e1]) | (with_reducible refine g_noent ?_) | (with_reducible refine g_call0 hcall23 ?_) | (with_reducible refine g_calld0 hcall23 ?_) | (refine cdS (fun hg => ?_) (fun hg => ?_) <;> try simp -implicitDefEqProofs only [hg, Bool.not_true, Bool.not_false]) | (refine gdS (fun hg => ?_) (fun hg => ?_) <;> try simp -implicitDefEqProofs only [hg, Bool.not_true, Bool.not_false]) | (refine gddS (fun hg => ?_) (fun hg => ?_) <;> try simp -implicitDefEqProofs only [hg, Bool.not_true, Bool.not_false]) | ((with_reducible apply And.intro); focus (first | trivial | omega | decide | (simp -implicitDefEqProofs only [maxLen]; omega) | (simp [maxLen, sty_len, nd_len, ndL_len, lnL_len, intsL_len, rvs_len, lensS_len]; done) | (simp [maxLen, sty_len, nd_len, ndL_len, lnL_len, intsL_len, rvs_len, lensS_len]; omega))) | fail)
      exact (hK _ _ (ret_t (by simp [holdAt, hmm, lk]))).2
    | true =>
      rw [hmm] at hm
      have hin : inL l n = true := by simp [madeAt] at hmm; exact hmm.1
      obtain ⟨k, rfl, hk⟩ := inL_nat hin
      have hx := ndL_get hk
      have hsx : styAt l k = (l[k]'hk).s := by simp [styAt, hin, hk]
      have hp : ((l[k]'hk).cells.drop 1)[0]? = some (.int .i64 (l[k]'hk).s.position) := rfl
      obtain ⟨q1, q2⟩ := sty_pos (tree_sty ht hk)
      have hul : 0 < (upAt l k).length := by
        have := hs.up k (by omega) hk
        have h2 := up_zero hs k
        rw [show parAt l k = parL l k by simp [parAt, hin]] at h2
        exact atI_iff.1 (by rw [← h2]; exact this.1)
      have ha0 := nats_at hul
      have hln := nats_ln (upAt l k)
      by_cases h2 : (l[k]'hk).s.position < 2
      · have e2 : decide ((l[k]'hk).s.position < 2) = true := decide_eq_true h2
        have ho : outAt l k = false := by simp [outAt, hsx]; omega
        have hcall24 := hm; have hcall25 := hup; repeat' (first | (simp -implicitDefEqProofs only [go_sem, ↓reduceIte, Nat.reduceEqDiff, Nat.reduceAdd, Nat.reduceSub, Nat.reduceMul, Nat.reduceLeDiff, Nat.reduceLT, reduceCtorEq, Int.reduceToNat, e1, e2, hx, hlen, nd_len, hp, ha0, hln]) | (with_reducible refine g_noent ?_) | (with_reducible refine g_call0 hcall24 ?_) | (with_reducible refine g_calld0 hcall24 ?_) | (with_reducible refine g_call0 hcall25 ?_) | (with_reducible refine g_calld0 hcall25 ?_) | (refine cdS (fun hg => ?_) (fun hg => ?_) <;> try simp -implicitDefEqProofs only [hg, Bool.not_true, Bool.not_false]) | (refine gdS (fun hg => ?_) (fun hg => ?_) <;> try simp -implicitDefEqProofs only [hg, Bool.not_true, Bool.not_false]) | (refine gddS (fun hg => ?_) (fun hg => ?_) <;> try simp -implicitDefEqProofs only [hg, Bool.not_true, Bool.not_false]) | ((with_reducible apply And.intro); focus (first | trivial | omega | decide | (simp -implicitDefEqProofs only [maxLen]; omega) | (simp [maxLen, sty_len, nd_len, ndL_len, lnL_len, intsL_len, rvs_len, lensS_len]; done) | (simp [maxLen, sty_len, nd_len, ndL_len, lnL_len, intsL_len, rvs_len, lensS_len]; omega))) | fail)
        refine (hK _ _ (ret_t ?_)).2
        simp [holdAt, hmm, ho, lk, up_zero hs]
      · have e2 : decide ((l[k]'hk).s.position < 2) = false := decide_eq_false h2
        have ho : outAt l k = true := by simp [outAt, hsx, hmm]; omega
        have hcall26 := hm; have hcall27 := hup; repeat' (first | (simp -implicitDefEqProofs only [go_sem, ↓reduceIte, Nat.reduceEqDiff, Nat.reduceAdd, Nat.reduceSub, Nat.reduceMul, Nat.reduceLeDiff, Nat.reduceLT, reduceCtorEq, Int.reduceToNat, e1, e2, hx, hlen, nd_len, hp, hln]) | (with_reducible refine g_noent ?_) | (with_reducible refine g_call0 hcall26 ?_) | (with_reducible refine g_calld0 hcall26 ?_) | (with_reducible refine g_call0 hcall27 ?_) | (with_reducible refine g_calld0 hcall27 ?_) | (refine cdS (fun hg => ?_) (fun hg => ?_) <;> try simp -implicitDefEqProofs only [hg, Bool.not_true, Bool.not_false]) | (refine gdS (fun hg => ?_) (fun hg => ?_) <;> try simp -implicitDefEqProofs only [hg, Bool.not_true, Bool.not_false]) | (refine gddS (fun hg => ?_) (fun hg => ?_) <;> try simp -implicitDefEqProofs only [hg, Bool.not_true, Bool.not_false]) | ((with_reducible apply And.intro); focus (first | trivial | omega | decide | (simp -implicitDefEqProofs only [maxLen]; omega) | (simp [maxLen, sty_len, nd_len, ndL_len, lnL_len, intsL_len, rvs_len, lensS_len]; done) | (simp [maxLen, sty_len, nd_len, ndL_len, lnL_len, intsL_len, rvs_len, lensS_len]; omega))) | fail)
        refine g_loop (ι := Nat) (fun i => [(30, .rv (.int .i64 i)), (29, .rv (.int .i64 (upAt l k).length)), (5, .rv (.sl 1 (intsL (natsI (upAt l k))))), (0, .rv (.sl 49 (ndL l))), (1, .rv (.int .i64 k))]) (fun _ => []) (fun i => i ≤ (upAt l k).length ∧ ((l[k]'hk).s.position = 2 → fstI (posAt l) ((upAt l k).drop i) = fstI (posAt l) (upAt l k))) (fun i => (upAt l k).length - i) 0 (by simp) (ent_env (by simp [lk])) (fun i hi' K' hN hX hR => ?_)
        obtain ⟨hi1, hi2⟩ := hi'
        simp -implicitDefEqProofs only [go_sem, ↓reduceIte, Nat.reduceEqDiff, Nat.reduceAdd, Nat.reduceSub, Nat.reduceMul, Nat.reduceLeDiff, Nat.reduceLT, reduceCtorEq, Int.reduceToNat]
        refine cdS (fun hg => ?_) (fun hg => ?_)
        · have hil : i < (upAt l k).length := by simp at hg; omega
          have hpos := sp_ref18_Positioned l ht (atI (upAt l k) i)
          have hai := nats_at hil
          have wu := wrap_up (k := i) (by omega)
          by_cases h3 : (l[k]'hk).s.position = 2
          · have e3 : ((l[k]'hk).s.position == 2) = true := by simp [h3]
            have hv : holdAt l k = fstI (posAt l) (upAt l k) := by simp [holdAt, hmm, ho, hsx, h3]
            cases hb : posAt l (atI (upAt l k) i) with
            | true =>
              rw [hb] at hpos
              have hcall28 := hpos; repeat' (first | (simp -implicitDefEqProofs only [go_sem, ↓reduceIte, Nat.reduceEqDiff, Nat.reduceAdd, Nat.reduceSub, Nat.reduceMul, Nat.reduceLeDiff, Nat.reduceLT, reduceCtorEq, Int.reduceToNat, e3, hx, hlen, nd_len, hp, hln, hai, wu]) | (with_reducible refine g_noent ?_) | (with_reducible refine g_call0 hcall28 ?_) | (with_reducible refine g_calld0 hcall28 ?_) | (refine cdS (fun hg => ?_) (fun hg => ?_) <;> try simp -implicitDefEqProofs only [hg, Bool.not_true, Bool.not_false]) | (refine gdS (fun hg => ?_) (fun hg => ?_) <;> try simp -implicitDefEqProofs only [hg, Bool.not_true, Bool.not_false]) | (refine gddS (fun hg => ?_) (fun hg => ?_) <;> try simp -implicitDefEqProofs only [hg, Bool.not_true, Bool.not_false]) | ((with_reducible apply And.intro); focus (first | trivial | omega | decide | (simp -implicitDefEqProofs only [maxLen]; omega) | (simp [maxLen, sty_len, nd_len, ndL_len, lnL_len, intsL_len, rvs_len, lensS_len]; done) | (simp [maxLen, sty_len, nd_len, ndL_len, lnL_len, intsL_len, rvs_len, lensS_len]; omega))) | fail)
              refine hR _ _ (hK _ _ (ret_t ?_)).2
              rw [hv, fst_hit hil (hi2 h3) hb]; simp [lk]
            | false =>
              rw [hb] at hpos
              have hcall29 := hpos; repeat' (first | (simp -implicitDefEqProofs only [go_sem, ↓reduceIte, Nat.reduceEqDiff, Nat.reduceAdd, Nat.reduceSub, Nat.reduceMul, Nat.reduceLeDiff, Nat.reduceLT, reduceCtorEq, Int.reduceToNat, e3, hx, hlen, nd_len, hp, hln, hai, wu]) | (with_reducible refine g_noent ?_) | (with_reducible refine g_call0 hcall29 ?_) | (with_reducible refine g_calld0 hcall29 ?_) | (refine cdS (fun hg => ?_) (fun hg => ?_) <;> try simp -implicitDefEqProofs only [hg, Bool.not_true, Bool.not_false]) | (refine gdS (fun hg => ?_) (fun hg => ?_) <;> try simp -implicitDefEqProofs only [hg, Bool.not_true, Bool.not_false]) | (refine gddS (fun hg => ?_) (fun hg => ?_) <;> try simp -implicitDefEqProofs only [hg, Bool.not_true, Bool.not_false]) | ((with_reducible apply And.intro); focus (first | trivial | omega | decide | (simp -implicitDefEqProofs only [maxLen]; omega) | (simp [maxLen, sty_len, nd_len, ndL_len, lnL_len, intsL_len, rvs_len, lensS_len]; done) | (simp [maxLen, sty_len, nd_len, ndL_len, lnL_len, intsL_len, rvs_len, lensS_len]; omega))) | fail)
              exact hN (i + 1) _ _ ⟨by omega, fun _ => fst_miss hil (hi2 h3) hb⟩ (by omega) (ent_env (by simp [lk]))
          · have e3 : ((l[k]'hk).s.position == 2) = false := by simp [h3]
            have hcall30 := hpos; repeat' (first | (simp -implicitDefEqProofs only [go_sem, ↓reduceIte, Nat.reduceEqDiff, Nat.reduceAdd, Nat.reduceSub, Nat.reduceMul, Nat.reduceLeDiff, Nat.reduceLT, reduceCtorEq, Int.reduceToNat, e3, hx, hlen, nd_len, hp, hln, hai, wu]) | (with_reducible refine g_noent ?_) | (with_reducible refine g_call0 hcall30 ?_) | (with_reducible refine g_calld0 hcall30 ?_) | (refine cdS (fun hg => ?_) (fun hg => ?_) <;> try simp -implicitDefEqProofs only [hg, Bool.not_true, Bool.not_false]) | (refine gdS (fun hg => ?_) (fun hg => ?_) <;> try simp -implicitDefEqProofs only [hg, Bool.not_true, Bool.not_false]) | (refine gddS (fun hg => ?_) (fun hg => ?_) <;> try simp -implicitDefEqProofs only [hg, Bool.not_true, Bool.not_false]) | ((with_reducible apply And.intro); focus (first | trivial | omega | decide | (simp -implicitDefEqProofs only [maxLen]; omega) | (simp [maxLen, sty_len, nd_len, ndL_len, lnL_len, intsL_len, rvs_len, lensS_len]; done) | (simp [maxLen, sty_len, nd_len, ndL_len, lnL_len, intsL_len, rvs_len, lensS_len]; omega))) | fail)
            exact hN (i + 1) _ _ ⟨by omega, fun h => absurd h h3⟩ (by omega) (ent_env (by simp [lk]))
        · have hil : ¬ i < (upAt l k).length := by simp at hg; omega
          simp -implicitDefEqProofs only [go_sem, ↓reduceIte, Nat.reduceEqDiff, Nat.reduceAdd, Nat.reduceSub, Nat.reduceMul, Nat.reduceLeDiff, Nat.reduceLT, reduceCtorEq, Int.reduceToNat]
          refine hX _ _ _ ?_
          repeat' (first | (simp -implicitDefEqProofs only [go_sem, ↓reduceIte, Nat.reduceEqDiff, Nat.reduceAdd, Nat.reduceSub, Nat.reduceMul, Nat.reduceLeDiff, Nat.reduceLT, reduceCtorEq, Int.reduceToNat]) | (with_reducible refine g_noent ?_) | (refine cdS (fun hg => ?_) (fun hg => ?_) <;> try simp -implicitDefEqProofs only [hg, Bool.not_true, Bool.not_false]) | (refine gdS (fun hg => ?_) (fun hg => ?_) <;> try simp -implicitDefEqProofs only [hg, Bool.not_true, Bool.not_false]) | (refine gddS (fun hg => ?_) (fun hg => ?_) <;> try simp -implicitDefEqProofs only [hg, Bool.not_true, Bool.not_false]) | ((with_reducible apply And.intro); focus (first | trivial | omega | decide | (simp -implicitDefEqProofs only [maxLen]; omega) | (simp [maxLen, sty_len, nd_len, ndL_len, lnL_len, intsL_len, rvs_len, lensS_len]; done) | (simp [maxLen, sty_len, nd_len, ndL_len, lnL_len, intsL_len, rvs_len, lensS_len]; omega))) | fail)
          refine (hK _ _ (ret_t ?_)).2
          by_cases h3 : (l[k]'hk).s.position = 2
          · have hv : holdAt l k = fstI (posAt l) (upAt l k) := by simp [holdAt, hmm, ho, hsx, h3]
            rw [hv, fst_end (by omega) (hi2 h3)]; simp [lk]
          · have hv : holdAt l k = -1 := by
              have : (l[k]'hk).s.position = 3 := by omega
              simp [holdAt, hmm, ho, hsx, this]
            rw [hv]; simp [lk]
end Go.Eng

/- level: who leads, who forms, where a box belongs. -/
namespace Go.Eng
open Go
/- decoupage/level.Leads -/
def c_level_Leads : AC := (.seq (.reg [⟨(some 4), .mv, [(.c (.rv (.bool false)))], none⟩]) (.seq (.reg [⟨(some 5), .mv, [(.t 0)], none⟩, ⟨(some 6), .mv, [(.t 1)], none⟩, ⟨(some 7), (.call 30), [(.t 5), (.t 6)], none⟩, ⟨(some 8), .mv, [(.t 7)], none⟩, ⟨(some 9), .mv, [(.t 1)], (some (8, true))⟩, ⟨(some 10), (.ibin .eql), [(.t 9), (.c (.rv (.int .i64 0)))], (some (8, true))⟩, ⟨(some 11), .mv, [(.t 10)], (some (8, true))⟩, ⟨(some 12), .mv, [(.t 0)], (some (11, false))⟩, ⟨(some 13), .mv, [(.t 1)], (some (11, false))⟩, ⟨(some 14), (.call 35), [(.t 12), (.t 13)], (some (11, false))⟩, ⟨(some 15), .pick, [(.t 11), (.c (.rv (.bool true))), (.t 14)], (some (8, true))⟩, ⟨(some 16), .pick, [(.t 8), (.t 15), (.c (.rv (.bool false)))], none⟩, ⟨(some 4), .mv, [(.t 16)], none⟩]) .ret))
theorem k_level_Leads : FnOK Go.Proofs.Try.prog 38 17 c_level_Leads [(.t 4)] := fnOK_of (by kernel_rfl)

/- decoupage/level.Forms -/
def c_level_Forms : AC := (.seq (.reg [⟨(some 4), .mv, [(.c (.rv (.bool false)))], none⟩]) (.seq (.reg [⟨(some 5), .mv, [(.t 0)], none⟩, ⟨(some 6), .mv, [(.t 1)], none⟩, ⟨(some 7), (.call 38), [(.t 5), (.t 6)], none⟩, ⟨(some 8), .mv, [(.t 7)], none⟩, ⟨(some 9), .mv, [(.t 1)], (some (8, true))⟩, ⟨(some 10), (.ibin .eql), [(.t 9), (.c (.rv (.int .i64 0)))], (some (8, true))⟩, ⟨(some 11), .mv, [(.t 10)], (some (8, true))⟩, ⟨(some 12), .mv, [(.t 0)], (some (11, false))⟩, ⟨(some 13), .mv, [(.t 1)], (some (11, false))⟩, ⟨(some 14), (.call 26), [(.t 12), (.t 13)], (some (11, false))⟩, ⟨(some 15), (.fldv 43 1 false), [(.t 14)], (some (11, false))⟩, ⟨(some 16), .pick, [(.t 11), (.c (.rv (.bool true))), (.t 15)], (some (8, true))⟩, ⟨(some 17), .pick, [(.t 8), (.t 16), (.c (.rv (.bool false)))], none⟩, ⟨(some 4), .mv, [(.t 17)], none⟩]) .ret))
theorem k_level_Forms : FnOK Go.Proofs.Try.prog 40 18 c_level_Forms [(.t 4)] := fnOK_of (by kernel_rfl)

/- decoupage/level.Group -/
def c_level_Group : AC := (.seq (.reg [⟨(some 4), .mv, [(.c (.rv (.int .i64 0)))], none⟩]) (.seq (.seq (.reg [⟨(some 5), .mv, [(.t 0)], none⟩, ⟨(some 6), .mv, [(.t 1)], none⟩, ⟨(some 7), (.call 30), [(.t 5), (.t 6)], none⟩, ⟨(some 8), .not, [(.t 7)], none⟩]) (.cond (.t 8) (.seq (.reg [⟨(some 4), .mv, [(.c (.rv (.int .i64 (-1))))], none⟩]) .ret) .skip)) (.seq (.seq (.block 0 (.loop (.seq (.seq (.reg [⟨(some 9), .mv, [(.t 0)], none⟩, ⟨(some 10), .mv, [(.t 1)], none⟩, ⟨(some 11), (.call 38), [(.t 9), (.t 10)], none⟩, ⟨(some 12), .not, [(.t 11)], none⟩]) (.cond (.t 12) .skip (.exit 0))) (.seq (.block 1 (.reg [⟨(some 13), .mv, [(.t 0)], none⟩, ⟨(some 14), .mv, [(.t 1)], none⟩, ⟨(some 15), (.call 25), [(.t 13), (.t 14)], none⟩, ⟨(some 1), .mv, [(.t 15)], none⟩])) .ent)))) .ent) (.seq (.reg [⟨(some 16), .mv, [(.t 1)], none⟩, ⟨(some 4), .mv, [(.t 16)], none⟩]) .ret))))
theorem k_level_Group : FnOK Go.Proofs.Try.prog 42 17 c_level_Group [(.t 4)] := fnOK_of (by kernel_rfl)

/- decoupage/level.Context -/
def c_level_Context : AC := (.seq (.reg [⟨(some 4), .mv, [(.c (.rv (.int .i64 0)))], none⟩]) (.seq (.seq (.reg [⟨(some 6), .mv, [(.t 0)], none⟩, ⟨(some 7), .mv, [(.t 1)], none⟩, ⟨(some 8), (.call 30), [(.t 6), (.t 7)], none⟩, ⟨(some 9), .not, [(.t 8)], none⟩]) (.cond (.t 9) (.seq (.reg [⟨(some 4), .mv, [(.c (.rv (.int .i64 (-1))))], none⟩]) .ret) .skip)) (.seq (.seq (.reg [⟨(some 10), .mv, [(.t 0)], none⟩, ⟨(some 11), .mv, [(.t 1)], none⟩, ⟨(some 12), (.call 25), [(.t 10), (.t 11)], none⟩, ⟨(some 5), .mv, [(.t 12)], none⟩]) (.seq (.block 0 (.loop (.seq (.seq (.reg [⟨(some 13), .mv, [(.t 5)], none⟩, ⟨(some 14), (.ibin .neq), [(.t 13), (.c (.rv (.int .i64 (-1))))], none⟩]) (.cond (.t 14) .skip (.exit 0))) (.seq (.seq (.block 1 (.seq (.reg [⟨(some 18), .mv, [(.t 0)], none⟩, ⟨(some 19), .mv, [(.t 5)], none⟩, ⟨(some 20), (.call 40), [(.t 18), (.t 19)], none⟩]) (.cond (.t 20) (.seq (.reg [⟨(some 21), .mv, [(.t 5)], none⟩, ⟨(some 4), .mv, [(.t 21)], none⟩]) .ret) .skip))) .ent) (.reg [⟨(some 15), .mv, [(.t 0)], none⟩, ⟨(some 16), .mv, [(.t 5)], none⟩, ⟨(some 17), (.call 25), [(.t 15), (.t 16)], none⟩, ⟨(some 5), .mv, [(.t 17)], none⟩]))))) .ent)) (.seq (.reg [⟨(some 4), .mv, [(.c (.rv (.int .i64 (-1))))], none⟩]) .ret))))
theorem k_level_Context : FnOK Go.Proofs.Try.prog 44 22 c_level_Context [(.t 4)] := fnOK_of (by kernel_rfl)

/- decoupage/decoupageref23.Leads -/
def c_decoupageref23_Leads : AC := (.seq (.reg [⟨(some 4), .mv, [(.c (.rv (.bool false)))], none⟩]) (.seq (.reg [⟨(some 5), .mv, [(.t 1)], none⟩, ⟨(some 6), (.ibin .eql), [(.t 5), (.c (.rv (.int .i64 0)))], none⟩, ⟨(some 7), .mv, [(.t 6)], none⟩, ⟨(some 8), .mv, [(.t 0)], (some (7, true))⟩, ⟨(some 9), (.call 60), [(.t 8), (.c (.rv (.int .i64 0)))], (some (7, true))⟩, ⟨(some 10), .pick, [(.t 7), (.t 9), (.c (.rv (.bool false)))], none⟩, ⟨(some 11), .mv, [(.t 10)], none⟩, ⟨(some 12), .mv, [(.t 0)], (some (11, false))⟩, ⟨(some 13), .mv, [(.t 1)], (some (11, false))⟩, ⟨(some 14), (.call 36), [(.t 12), (.t 13)], (some (11, false))⟩, ⟨(some 15), .pick, [(.t 11), (.c (.rv (.bool true))), (.t 14)], none⟩, ⟨(some 4), .mv, [(.t 15)], none⟩]) .ret))
theorem k_decoupageref23_Leads : FnOK Go.Proofs.Try.prog 39 16 c_decoupageref23_Leads [(.t 4)] := fnOK_of (by kernel_rfl)

/- decoupage/decoupageref23.Forms -/
def c_decoupageref23_Forms : AC := (.seq (.reg [⟨(some 4), .mv, [(.c (.rv (.bool false)))], none⟩]) (.seq (.reg [⟨(some 5), .mv, [(.t 0)], none⟩, ⟨(some 6), .mv, [(.t 1)], none⟩, ⟨(some 7), (.call 39), [(.t 5), (.t 6)], none⟩, ⟨(some 8), .mv, [(.t 7)], none⟩, ⟨(some 9), .mv, [(.t 1)], (some (8, true))⟩, ⟨(some 10), (.ibin .eql), [(.t 9), (.c (.rv (.int .i64 0)))], (some (8, true))⟩, ⟨(some 11), .mv, [(.t 10)], (some (8, true))⟩, ⟨(some 12), .mv, [(.t 0)], (some (11, false))⟩, ⟨(some 13), .mv, [(.t 1)], (some (11, false))⟩, ⟨(some 14), (.ixs 49), [(.t 12), (.t 13)], (some (11, false))⟩, ⟨(some 15), (.fld 0), [(.t 14)], (some (11, false))⟩, ⟨(some 16), (.fld 43), [(.t 15)], (some (11, false))⟩, ⟨(some 17), (.load 1 false), [(.t 16)], (some (11, false))⟩, ⟨(some 18), .pick, [(.t 11), (.c (.rv (.bool true))), (.t 17)], (some (8, true))⟩, ⟨(some 19), .pick, [(.t 8), (.t 18), (.c (.rv (.bool false)))], none⟩, ⟨(some 4), .mv, [(.t 19)], none⟩]) .ret))
theorem k_decoupageref23_Forms : FnOK Go.Proofs.Try.prog 41 20 c_decoupageref23_Forms [(.t 4)] := fnOK_of (by kernel_rfl)

/- decoupage/decoupageref23.Group -/
def c_decoupageref23_Group : AC := (.seq (.reg [⟨(some 4), .mv, [(.c (.rv (.int .i64 0)))], none⟩]) (.seq (.seq (.reg [⟨(some 7), .mv, [(.t 0)], none⟩, ⟨(some 8), .mv, [(.t 1)], none⟩, ⟨(some 9), (.call 60), [(.t 7), (.t 8)], none⟩, ⟨(some 10), .not, [(.t 9)], none⟩]) (.cond (.t 10) (.seq (.reg [⟨(some 4), .mv, [(.c (.rv (.int .i64 (-1))))], none⟩]) .ret) .skip)) (.seq (.reg [⟨(some 11), .mv, [(.t 1)], none⟩, ⟨(some 12), (.bsl 1), [(.t 11)], none⟩, ⟨(some 13), .mv, [(.t 0)], none⟩, ⟨(some 14), .mv, [(.t 1)], none⟩, ⟨(some 15), (.call 72), [(.t 13), (.t 14)], none⟩, ⟨(some 16), (.app 1 8), [(.t 12), (.t 15)], none⟩, ⟨(some 5), .mv, [(.t 16)], none⟩]) (.seq (.seq (.reg [⟨(some 17), .mv, [(.t 5)], none⟩, ⟨(some 18), .len, [(.t 17)], none⟩, ⟨(some 19), .mv, [(.c (.rv (.int .i64 0)))], none⟩]) (.seq (.block 0 (.loop (.seq (.reg [⟨(some 20), (.ibin .lss), [(.t 19), (.t 18)], none⟩]) (.seq (.cond (.t 20) .skip (.exit 0)) (.seq (.seq (.block 1 (.seq (.reg [⟨(some 21), .mv, [(.t 19)], none⟩, ⟨(some 6), .mv, [(.t 21)], none⟩]) (.seq (.reg [⟨(some 22), .mv, [(.t 0)], none⟩, ⟨(some 23), .mv, [(.t 5)], none⟩, ⟨(some 24), .mv, [(.t 6)], none⟩, ⟨(some 25), (.ixs 1), [(.t 23), (.t 24)], none⟩, ⟨(some 26), (.load 1 false), [(.t 25)], none⟩, ⟨(some 27), (.call 39), [(.t 22), (.t 26)], none⟩]) (.cond (.t 27) (.seq (.reg [⟨(some 28), .mv, [(.t 5)], none⟩, ⟨(some 29), .mv, [(.t 6)], none⟩, ⟨(some 30), (.ixs 1), [(.t 28), (.t 29)], none⟩, ⟨(some 31), (.load 1 false), [(.t 30)], none⟩, ⟨(some 4), .mv, [(.t 31)], none⟩]) .ret) .skip)))) .ent) (.reg [⟨(some 32), (.ibin .add), [(.t 19), (.c (.rv (.int .i64 1)))], none⟩, ⟨(some 19), .mv, [(.t 32)], none⟩])))))) .ent)) (.seq (.reg [⟨(some 4), .mv, [(.c (.rv (.int .i64 (-1))))], none⟩]) .ret)))))
theorem k_decoupageref23_Group : FnOK Go.Proofs.Try.prog 43 33 c_decoupageref23_Group [(.t 4)] := fnOK_of (by kernel_rfl)

/- decoupage/decoupageref23.Context -/
def c_decoupageref23_Context : AC := (.seq (.reg [⟨(some 4), .mv, [(.c (.rv (.int .i64 0)))], none⟩]) (.seq (.seq (.reg [⟨(some 7), .mv, [(.t 0)], none⟩, ⟨(some 8), .mv, [(.t 1)], none⟩, ⟨(some 9), (.call 60), [(.t 7), (.t 8)], none⟩, ⟨(some 10), .not, [(.t 9)], none⟩]) (.cond (.t 10) (.seq (.reg [⟨(some 4), .mv, [(.c (.rv (.int .i64 (-1))))], none⟩]) .ret) .skip)) (.seq (.reg [⟨(some 11), .mv, [(.t 0)], none⟩, ⟨(some 12), .mv, [(.t 1)], none⟩, ⟨(some 13), (.call 72), [(.t 11), (.t 12)], none⟩, ⟨(some 5), .mv, [(.t 13)], none⟩]) (.seq (.seq (.reg [⟨(some 14), .mv, [(.t 5)], none⟩, ⟨(some 15), .len, [(.t 14)], none⟩, ⟨(some 16), .mv, [(.c (.rv (.int .i64 0)))], none⟩]) (.seq (.block 0 (.loop (.seq (.reg [⟨(some 17), (.ibin .lss), [(.t 16), (.t 15)], none⟩]) (.seq (.cond (.t 17) .skip (.exit 0)) (.seq (.seq (.block 1 (.seq (.reg [⟨(some 18), .mv, [(.t 16)], none⟩, ⟨(some 6), .mv, [(.t 18)], none⟩]) (.seq (.reg [⟨(some 19), .mv, [(.t 0)], none⟩, ⟨(some 20), .mv, [(.t 5)], none⟩, ⟨(some 21), .mv, [(.t 6)], none⟩, ⟨(some 22), (.ixs 1), [(.t 20), (.t 21)], none⟩, ⟨(some 23), (.load 1 false), [(.t 22)], none⟩, ⟨(some 24), (.call 41), [(.t 19), (.t 23)], none⟩]) (.cond (.t 24) (.seq (.reg [⟨(some 25), .mv, [(.t 5)], none⟩, ⟨(some 26), .mv, [(.t 6)], none⟩, ⟨(some 27), (.ixs 1), [(.t 25), (.t 26)], none⟩, ⟨(some 28), (.load 1 false), [(.t 27)], none⟩, ⟨(some 4), .mv, [(.t 28)], none⟩]) .ret) .skip)))) .ent) (.reg [⟨(some 29), (.ibin .add), [(.t 16), (.c (.rv (.int .i64 1)))], none⟩, ⟨(some 16), .mv, [(.t 29)], none⟩])))))) .ent)) (.seq (.reg [⟨(some 4), .mv, [(.c (.rv (.int .i64 (-1))))], none⟩]) .ret)))))
theorem k_decoupageref23_Context : FnOK Go.Proofs.Try.prog 45 30 c_decoupageref23_Context [(.t 4)] := fnOK_of (by kernel_rfl)


def leadAt (l : List Nd) (n : Int) : Bool := madeAt l n && ((n == 0) || posAt l n)
def formAt (l : List Nd) (n : Int) : Bool := leadAt l n && ((n == 0) || (styAt l n).hasZ)
def groupAt (l : List Nd) (n : Int) : Int := if madeAt l n = true then fstI (leadAt l) (pth l n.toNat) else -1
def ctxAt (l : List Nd) (n : Int) : Int := if madeAt l n = true then fstI (formAt l) (upAt l n) else -1
theorem pos_made {l : List Nd} {n : Int} (h : posAt l n = true) : madeAt l n = true := by simp [posAt] at h; exact h.1.1
theorem lead_made {l : List Nd} {n : Int} (h : leadAt l n = true) : madeAt l n = true := by simp [leadAt] at h; exact h.1

theorem sp_Leads (l : List Nd) (n : Int) : CallR Go.Proofs.Try.prog 38 [.rv (kinV l), .rv (.int .i64 n)] [] [] (.rv (.bool (leadAt l n))) := by
  refine callR_G k_level_Leads [.rv (kinV l), .rv (.int .i64 n)] _ (by simp) (by simp [BkAll, bk_agg, bkAll_map, bk_rv, bk_fn, Sty.sv, Ln.sv, Nd.sv]) (fun K hK => ?_)
  have hm := sp_Made l n
  have hp := sp_Positioned l n
  simp -implicitDefEqProofs only [c_level_Leads, go_sem, ↓reduceIte, Nat.reduceEqDiff, Nat.reduceAdd, Nat.reduceSub, Nat.reduceMul, Nat.reduceLeDiff, Nat.reduceLT, reduceCtorEq, Int.reduceToNat]
  cases hi : madeAt l n with
  | false =>
    rw [hi] at hm
    have hcall1 := hm; repeat' (first | (simp -implicitDefEqProofs only [go_sem, ↓reduceIte, Nat.reduceEqDiff, Nat.reduceAdd, Nat.reduceSub, Nat.reduceMul, Nat.reduceLeDiff, Nat.reduceLT, reduceCtorEq, Int.reduceToNat]) | (with_reducible refine g_noent ?_) | (with_reducible refine g_call0 hcall1 ?_) | (with_reducible refine g_calld0 hcall1 ?_) | (refine cdS (fun hg => ?_) (fun hg => ?_) <;> try simp -implicitDefEqProofs only [hg, Bool.not_true, Bool.not_false]) | (refine gdS (fun hg => ?_) (fun hg => ?_) <;> try simp -implicitDefEqProofs only [hg, Bool.not_true, Bool.not_false]) | (refine gddS (fun hg => ?_) (fun hg => ?_) <;> try simp -implicitDefEqProofs only [hg, Bool.not_true, Bool.not_false]) | ((with_reducible apply And.intro); focus (first | trivial | omega | decide | (simp -implicitDefEqProofs only [maxLen]; omega) | (simp [maxLen, sty_len, nd_len, ndL_len, lnL_len, intsL_len, rvs_len, lensS_len]; done) | (simp [maxLen, sty_len, nd_len, ndL_len, lnL_len, intsL_len, rvs_len, lensS_len]; omega))) | fail)
    exact (hK _ _ (ret_t (by simp [leadAt, hi, lk]))).2
  | true =>
    rw [hi] at hm
    cases e1 : n == 0 with
    | true =>
      have hcall2 := hm; have hcall3 := hp; repeat' (first | (simp -implicitDefEqProofs only [go_sem, ↓reduceIte, Nat.reduceEqDiff, Nat.reduceAdd, Nat.reduceSub, Nat.reduceMul, Nat.reduceLeDiff, Nat.reduceLT, reduceCtorEq, Int.reduceToNat, e1]) | (with_reducible refine g_noent ?_) | (with_reducible refine g_call0 hcall2 ?_) | (with_reducible refine g_calld0 hcall2 ?_) | (with_reducible refine g_call0 hcall3 ?_) | (with_reducible refine g_calld0 hcall3 ?_) | (refine cdS (fun hg => ?_) (fun hg => ?_) <;> try simp -implicitDefEqProofs only [hg, Bool.not_true, Bool.not_false]) | (refine gdS (fun hg => ?_) (fun hg => ?_) <;> try simp -implicitDefEqProofs only [hg, Bool.not_true, Bool.not_false]) | (refine gddS (fun hg => ?_) (fun hg => ?_) <;> try simp -implicitDefEqProofs only [hg, Bool.not_true, Bool.not_false]) | ((with_reducible apply And.intro); focus (first | trivial | omega | decide | (simp -implicitDefEqProofs only [maxLen]; omega) | (simp [maxLen, sty_len, nd_len, ndL_len, lnL_len, intsL_len, rvs_len, lensS_len]; done) | (simp [maxLen, sty_len, nd_len, ndL_len, lnL_len, intsL_len, rvs_len, lensS_len]; omega))) | fail)
      exact (hK _ _ (ret_t (by simp [leadAt, hi, lk, e1]))).2
    | false =>
      have hcall4 := hm; have hcall5 := hp; repeat' (first | (simp -implicitDefEqProofs only [go_sem, ↓reduceIte, Nat.reduceEqDiff, Nat.reduceAdd, Nat.reduceSub, Nat.reduceMul, Nat.reduceLeDiff, Nat.reduceLT, reduceCtorEq, Int.reduceToNat, e1]) | (with_reducible refine g_noent ?_) | (with_reducible refine g_call0 hcall4 ?_) | (with_reducible refine g_calld0 hcall4 ?_) | (with_reducible refine g_call0 hcall5 ?_) | (with_reducible refine g_calld0 hcall5 ?_) | (refine cdS (fun hg => ?_) (fun hg => ?_) <;> try simp -implicitDefEqProofs only [hg, Bool.not_true, Bool.not_false]) | (refine gdS (fun hg => ?_) (fun hg => ?_) <;> try simp -implicitDefEqProofs only [hg, Bool.not_true, Bool.not_false]) | (refine gddS (fun hg => ?_) (fun hg => ?_) <;> try simp -implicitDefEqProofs only [hg, Bool.not_true, Bool.not_false]) | ((with_reducible apply And.intro); focus (first | trivial | omega | decide | (simp -implicitDefEqProofs only [maxLen]; omega) | (simp [maxLen, sty_len, nd_len, ndL_len, lnL_len, intsL_len, rvs_len, lensS_len]; done) | (simp [maxLen, sty_len, nd_len, ndL_len, lnL_len, intsL_len, rvs_len, lensS_len]; omega))) | fail)
      exact (hK _ _ (ret_t (by simp [leadAt, hi, lk, e1]))).2

theorem sp_Forms (l : List Nd) (n : Int) : CallR Go.Proofs.Try.prog 40 [.rv (kinV l), .rv (.int .i64 n)] [] [] (.rv (.bool (formAt l n))) := by
  refine callR_G k_level_Forms [.rv (kinV l), .rv (.int .i64 n)] _ (by simp) (by simp [BkAll, bk_agg, bkAll_map, bk_rv, bk_fn, Sty.sv, Ln.sv, Nd.sv]) (fun K hK => ?_)
  have hm := sp_Leads l n
  have hst := sp_Style l n
  simp -implicitDefEqProofs only [c_level_Forms, go_sem, ↓reduceIte, Nat.reduceEqDiff, Nat.reduceAdd, Nat.reduceSub, Nat.reduceMul, Nat.reduceLeDiff, Nat.reduceLT, reduceCtorEq, Int.reduceToNat]
  cases hi : leadAt l n with
  | false =>
    rw [hi] at hm
    have hcall6 := hm; repeat' (first | (simp -implicitDefEqProofs only [go_sem, ↓reduceIte, Nat.reduceEqDiff, Nat.reduceAdd, Nat.reduceSub, Nat.reduceMul, Nat.reduceLeDiff, Nat.reduceLT, reduceCtorEq, Int.reduceToNat]) | (with_reducible refine g_noent ?_) | (with_reducible refine g_call0 hcall6 ?_) | (with_reducible refine g_calld0 hcall6 ?_) | (refine cdS (fun hg => ?_) (fun hg => ?_) <;> try simp -implicitDefEqProofs only [hg, Bool.not_true, Bool.not_false]) | (refine gdS (fun hg => ?_) (fun hg => ?_) <;> try simp -implicitDefEqProofs only [hg, Bool.not_true, Bool.not_false]) | (refine gddS (fun hg => ?_) (fun hg => ?_) <;> try simp -implicitDefEqProofs only [hg, Bool.not_true, Bool.not_false]) | ((with_reducible apply And.intro); focus (first | trivial | omega | decide | (simp -implicitDefEqProofs only [maxLen]; omega) | (simp [maxLen, sty_len, nd_len, ndL_len, lnL_len, intsL_len, rvs_len, lensS_len]; done) | (simp [maxLen, sty_len, nd_len, ndL_len, lnL_len, intsL_len, rvs_len, lensS_len]; omega))) | fail)
    exact (hK _ _ (ret_t (by simp [formAt, hi, lk]))).2
  | true =>
    rw [hi] at hm
    cases e1 : n == 0 with
    | true =>
      have hcall7 := hm; have hcall8 := hst; repeat' (first | (simp -implicitDefEqProofs only [go_sem, ↓reduceIte, Nat.reduceEqDiff, Nat.reduceAdd, Nat.reduceSub, Nat.reduceMul, Nat.reduceLeDiff, Nat.reduceLT, reduceCtorEq, Int.reduceToNat, e1]) | (with_reducible refine g_noent ?_) | (with_reducible refine g_call0 hcall7 ?_) | (with_reducible refine g_calld0 hcall7 ?_) | (with_reducible refine g_call0 hcall8 ?_) | (with_reducible refine g_calld0 hcall8 ?_) | (refine cdS (fun hg => ?_) (fun hg => ?_) <;> try simp -implicitDefEqProofs only [hg, Bool.not_true, Bool.not_false]) | (refine gdS (fun hg => ?_) (fun hg => ?_) <;> try simp -implicitDefEqProofs only [hg, Bool.not_true, Bool.not_false]) | (refine gddS (fun hg => ?_) (fun hg => ?_) <;> try simp -implicitDefEqProofs only [hg, Bool.not_true, Bool.not_false]) | ((with_reducible apply And.intro); focus (first | trivial | omega | decide | (simp -implicitDefEqProofs only [maxLen]; omega) | (simp [maxLen, sty_len, nd_len, ndL_len, lnL_len, intsL_len, rvs_len, lensS_len]; done) | (simp [maxLen, sty_len, nd_len, ndL_len, lnL_len, intsL_len, rvs_len, lensS_len]; omega))) | fail)
      exact (hK _ _ (ret_t (by simp [formAt, hi, lk, e1]))).2
    | false =>
      have hcall9 := hm; have hcall10 := hst; repeat' (first | (simp -implicitDefEqProofs only [go_sem, ↓reduceIte, Nat.reduceEqDiff, Nat.reduceAdd, Nat.reduceSub, Nat.reduceMul, Nat.reduceLeDiff, Nat.reduceLT, reduceCtorEq, Int.reduceToNat, e1, sty_at43]) | (with_reducible refine g_noent ?_) | (with_reducible refine g_call0 hcall9 ?_) | (with_reducible refine g_calld0 hcall9 ?_) | (with_reducible refine g_call0 hcall10 ?_) | (with_reducible refine g_calld0 hcall10 ?_) | (refine cdS (fun hg => ?_) (fun hg => ?_) <;> try simp -implicitDefEqProofs only [hg, Bool.not_true, Bool.not_false]) | (refine gdS (fun hg => ?_) (fun hg => ?_) <;> try simp -implicitDefEqProofs only [hg, Bool.not_true, Bool.not_false]) | (refine gddS (fun hg => ?_) (fun hg => ?_) <;> try simp -implicitDefEqProofs only [hg, Bool.not_true, Bool.not_false]) | ((with_reducible apply And.intro); focus (first | trivial | omega | decide | (simp -implicitDefEqProofs only [maxLen]; omega) | (simp [maxLen, sty_len, nd_len, ndL_len, lnL_len, intsL_len, rvs_len, lensS_len]; done) | (simp [maxLen, sty_len, nd_len, ndL_len, lnL_len, intsL_len, rvs_len, lensS_len]; omega))) | fail)
      exact (hK _ _ (ret_t (by simp [formAt, hi, lk, e1]))).2

theorem sp_ref23_Leads (l : List Nd) (ht : treeOK l = true) (n : Int) : CallR Go.Proofs.Try.prog 39 [.rv (.sl 49 (ndL l)), .rv (.int .i64 n)] [] [] (.rv (.bool (leadAt l n))) := by
  refine callR_G k_decoupageref23_Leads [.rv (.sl 49 (ndL l)), .rv (.int .i64 n)] _ (by simp) (by simp [BkAll, bk_agg, bkAll_map, bk_rv, bk_fn, Sty.sv, Ln.sv, Nd.sv]) (fun K hK => ?_)
  have hm := sp_ref08_Made l ht 0
  have hp := sp_ref18_Positioned l ht n
  simp -implicitDefEqProofs only [c_decoupageref23_Leads, go_sem, ↓reduceIte, Nat.reduceEqDiff, Nat.reduceAdd, Nat.reduceSub, Nat.reduceMul, Nat.reduceLeDiff, Nat.reduceLT, reduceCtorEq, Int.reduceToNat]
  cases e1 : n == 0 with
  | true =>
    obtain rfl : n = 0 := by simpa using e1
    cases hi : madeAt l 0 with
    | false =>
      rw [hi] at hm
      have hp0 : posAt l 0 = false := by simp [posAt]
      rw [hp0] at hp
      have hcall11 := hm; have hcall12 := hp; repeat' (first | (simp -implicitDefEqProofs only [go_sem, ↓reduceIte, Nat.reduceEqDiff, Nat.reduceAdd, Nat.reduceSub, Nat.reduceMul, Nat.reduceLeDiff, Nat.reduceLT, reduceCtorEq, Int.reduceToNat, e1]) | (with_reducible refine g_noent ?_) | (with_reducible refine g_call0 hcall11 ?_) | (with_reducible refine g_calld0 hcall11 ?_) | (with_reducible refine g_call0 hcall12 ?_) | (with_reducible refine g_calld0 hcall12 ?_) | (refine cdS (fun hg => ?_) (fun hg => ?_) <;> try simp -implicitDefEqProofs only [hg, Bool.not_true, Bool.not_false]) | (refine gdS (fun hg => ?_) (fun hg => ?_) <;> try simp -implicitDefEqProofs only [hg, Bool.not_true, Bool.not_false]) | (refine gddS (fun hg => ?_) (fun hg => ?_) <;> try simp -implicitDefEqProofs only [hg, Bool.not_true, Bool.not_false]) | ((with_reducible apply And.intro); focus (first | trivial | omega | decide | (simp -implicitDefEqProofs only [maxLen]; omega) | (simp [maxLen, sty_len, nd_len, ndL_len, lnL_len, intsL_len, rvs_len, lensS_len]; done) | (simp [maxLen, sty_len, nd_len, ndL_len, lnL_len, intsL_len, rvs_len, lensS_len]; omega))) | fail)
      exact (hK _ _ (ret_t (by simp [leadAt, hi, lk]))).2
    | true =>
      rw [hi] at hm
      have hcall13 := hm; have hcall14 := hp; repeat' (first | (simp -implicitDefEqProofs only [go_sem, ↓reduceIte, Nat.reduceEqDiff, Nat.reduceAdd, Nat.reduceSub, Nat.reduceMul, Nat.reduceLeDiff, Nat.reduceLT, reduceCtorEq, Int.reduceToNat, e1]) | (with_reducible refine g_noent ?_) | (with_reducible refine g_call0 hcall13 ?_) | (with_reducible refine g_calld0 hcall13 ?_) | (with_reducible refine g_call0 hcall14 ?_) | (with_reducible refine g_calld0 hcall14 ?_) | (refine cdS (fun hg => ?_) (fun hg => ?_) <;> try simp -implicitDefEqProofs only [hg, Bool.not_true, Bool.not_false]) | (refine gdS (fun hg => ?_) (fun hg => ?_) <;> try simp -implicitDefEqProofs only [hg, Bool.not_true, Bool.not_false]) | (refine gddS (fun hg => ?_) (fun hg => ?_) <;> try simp -implicitDefEqProofs only [hg, Bool.not_true, Bool.not_false]) | ((with_reducible apply And.intro); focus (first | trivial | omega | decide | (simp -implicitDefEqProofs only [maxLen]; omega) | (simp [maxLen, sty_len, nd_len, ndL_len, lnL_len, intsL_len, rvs_len, lensS_len]; done) | (simp [maxLen, sty_len, nd_len, ndL_len, lnL_len, intsL_len, rvs_len, lensS_len]; omega))) | fail)
      exact (hK _ _ (ret_t (by simp [leadAt, hi, lk]))).2
  | false =>
    have hcall15 := hm; have hcall16 := hp; repeat' (first | (simp -implicitDefEqProofs only [go_sem, ↓reduceIte, Nat.reduceEqDiff, Nat.reduceAdd, Nat.reduceSub, Nat.reduceMul, Nat.reduceLeDiff, Nat.reduceLT, reduceCtorEq, Int.reduceToNat, e1]) | (with_reducible refine g_noent ?_) | (with_reducible refine g_call0 hcall15 ?_) | (with_reducible refine g_calld0 hcall15 ?_) | (with_reducible refine g_call0 hcall16 ?_) | (with_reducible refine g_calld0 hcall16 ?_) | (refine cdS (fun hg => ?_) (fun hg => ?_) <;> try simp -implicitDefEqProofs only [hg, Bool.not_true, Bool.not_false]) | (refine gdS (fun hg => ?_) (fun hg => ?_) <;> try simp -implicitDefEqProofs only [hg, Bool.not_true, Bool.not_false]) | (refine gddS (fun hg => ?_) (fun hg => ?_) <;> try simp -implicitDefEqProofs only [hg, Bool.not_true, Bool.not_false]) | ((with_reducible apply And.intro); focus (first | trivial | omega | decide | (simp -implicitDefEqProofs only [maxLen]; omega) | (simp [maxLen, sty_len, nd_len, ndL_len, lnL_len, intsL_len, rvs_len, lensS_len]; done) | (simp [maxLen, sty_len, nd_len, ndL_len, lnL_len, intsL_len, rvs_len, lensS_len]; omega))) | fail)
    refine (hK _ _ (ret_t ?_)).2
    have : leadAt l n = posAt l n := by
      cases h : posAt l n with
      | true => simp [leadAt, h, pos_made h]
      | false => simp [leadAt, h, e1]
    simp [this, lk]

theorem sp_ref23_Forms (l : List Nd) (ht : treeOK l = true) (n : Int) : CallR Go.Proofs.Try.prog 41 [.rv (.sl 49 (ndL l)), .rv (.int .i64 n)] [] [] (.rv (.bool (formAt l n))) := by
  refine callR_G k_decoupageref23_Forms [.rv (.sl 49 (ndL l)), .rv (.int .i64 n)] _ (by simp) (by simp [BkAll, bk_agg, bkAll_map, bk_rv, bk_fn, Sty.sv, Ln.sv, Nd.sv]) (fun K hK => ?_)
  have hlen := ndL_len l
  have hm := sp_ref23_Leads l ht n
  simp -implicitDefEqProofs only [c_decoupageref23_Forms, go_sem, ↓reduceIte, Nat.reduceEqDiff, Nat.reduceAdd, Nat.reduceSub, Nat.reduceMul, Nat.reduceLeDiff, Nat.reduceLT, reduceCtorEq, Int.reduceToNat]
  cases hi : leadAt l n with
  | false =>
    rw [hi] at hm
    have hcall17 := hm; repeat' (first | (simp -implicitDefEqProofs only [go_sem, ↓reduceIte, Nat.reduceEqDiff, Nat.reduceAdd, Nat.reduceSub, Nat.reduceMul, Nat.reduceLeDiff, Nat.reduceLT, reduceCtorEq, Int.reduceToNat]) | (with_reducible refine g_noent ?_) | (with_reducible refine g_call0 hcall17 ?_) | (with_reducible refine g_calld0 hcall17 ?_) | (refine cdS (fun hg => ?_) (fun hg => ?_) <;> try simp -implicitDefEqProofs only [hg, Bool.not_true, Bool.not_false]) | (refine gdS (fun hg => ?_) (fun hg => ?_) <;> try simp -implicitDefEqProofs only [hg, Bool.not_true, Bool.not_false]) | (refine gddS (fun hg => ?_) (fun hg => ?_) <;> try simp -implicitDefEqProofs only [hg, Bool.not_true, Bool.not_false]) | ((with_reducible apply And.intro); focus (first | trivial | omega | decide | (simp -implicitDefEqProofs only [maxLen]; omega) | (simp [maxLen, sty_len, nd_len, ndL_len, lnL_len, intsL_len, rvs_len, lensS_len]; done) | (simp [maxLen, sty_len, nd_len, ndL_len, lnL_len, intsL_len, rvs_len, lensS_len]; omega))) | fail)
    exact (hK _ _ (ret_t (by simp [formAt, hi, lk]))).2
  | true =>
    rw [hi] at hm
    cases e1 : n == 0 with
    | true =>
      have hcall18 := hm; repeat' (first | (simp -implicitDefEqProofs only [go_sem, ↓reduceIte, Nat.reduceEqDiff, Nat.reduceAdd, Nat.reduceSub, Nat.reduceMul, Nat.reduceLeDiff, Nat.reduceLT, reduceCtorEq, Int.reduceToNat, e1]) | (with_reducible refine g_noent ?_) | (with_reducible refine g_call0 hcall18 ?_) | (with_reducible refine g_calld0 hcall18 ?_) | (refine cdS (fun hg => ?_) (fun hg => ?_) <;> try simp -implicitDefEqProofs only [hg, Bool.not_true, Bool.not_false]) | (refine gdS (fun hg => ?_) (fun hg => ?_) <;> try simp -implicitDefEqProofs only [hg, Bool.not_true, Bool.not_false]) | (refine gddS (fun hg => ?_) (fun hg => ?_) <;> try simp -implicitDefEqProofs only [hg, Bool.not_true, Bool.not_false]) | ((with_reducible apply And.intro); focus (first | trivial | omega | decide | (simp -implicitDefEqProofs only [maxLen]; omega) | (simp [maxLen, sty_len, nd_len, ndL_len, lnL_len, intsL_len, rvs_len, lensS_len]; done) | (simp [maxLen, sty_len, nd_len, ndL_len, lnL_len, intsL_len, rvs_len, lensS_len]; omega))) | fail)
      exact (hK _ _ (ret_t (by simp [formAt, hi, lk, e1]))).2
    | false =>
      have hmm := lead_made hi
      have hin : inL l n = true := by simp [madeAt] at hmm; exact hmm.1
      obtain ⟨k, rfl, hk⟩ := inL_nat hin
      have hx := ndL_get hk
      have hsx : styAt l k = (l[k]'hk).s := by simp [styAt, hin, hk]
      have hp : ((l[k]'hk).cells.drop 43)[0]? = some (.bool (l[k]'hk).s.hasZ) := rfl
      have hcall19 := hm; repeat' (first | (simp -implicitDefEqProofs only [go_sem, ↓reduceIte, Nat.reduceEqDiff, Nat.reduceAdd, Nat.reduceSub, Nat.reduceMul, Nat.reduceLeDiff, Nat.reduceLT, reduceCtorEq, Int.reduceToNat, e1, hx, hlen, nd_len, hp]) | (with_reducible refine g_noent ?_) | (with_reducible refine g_call0 hcall19 ?_) | (with_reducible refine g_calld0 hcall19 ?_) | (refine cdS (fun hg => ?_) (fun hg => ?_) <;> try simp -implicitDefEqProofs only [hg, Bool.not_true, Bool.not_false]) | (refine gdS (fun hg => ?_) (fun hg => ?_) <;> try simp -implicitDefEqProofs only [hg, Bool.not_true, Bool.not_false]) | (refine gddS (fun hg => ?_) (fun hg => ?_) <;> try simp -implicitDefEqProofs only [hg, Bool.not_true, Bool.not_false]) | ((with_reducible apply And.intro); focus (first | trivial | omega | decide | (simp -implicitDefEqProofs only [maxLen]; omega) | (simp [maxLen, sty_len, nd_len, ndL_len, lnL_len, intsL_len, rvs_len, lensS_len]; done) | (simp [maxLen, sty_len, nd_len, ndL_len, lnL_len, intsL_len, rvs_len, lensS_len]; omega))) | fail)
      exact (hK _ _ (ret_t (by simp [formAt, hi, lk, hsx, e1]))).2

/-- A made thing's way to the root holds one that leads. -/
theorem lead_root {l : List Nd} (hs : Shp l) {k : Nat} (hk : k < l.length) (hm : madeS l k = true) {i : Nat} (hi : i < (pth l k).length) (hl : leadAt l (atI (pth l k) i) = false) : i + 1 < (pth l k).length := by
  have hlt := pth_lt hk hi
  have hpar := par_at hs.wf k hk i hi
  apply Classical.byContradiction
  intro h
  rw [atI_ge (by omega)] at hpar
  by_cases h0 : (pth l k)[i] = 0
  · have hmd := pth_drop (l := l) k i hi
    rw [atI_lt hi, h0] at hl
    have : madeAt l 0 = true := by
      have : madeS l 0 = true := by
        unfold madeS at hm ⊢
        rw [List.all_eq_true] at hm ⊢
        rw [h0] at hmd
        rw [← hmd]
        exact fun x hx => hm x (List.mem_of_mem_drop hx)
      have h2 : inL l ((0 : Nat) : Int) = true := inL_of (by omega)
      have h3 : inL l 0 = true := h2
      simp [madeAt, h3, this]
    simp [leadAt, this] at hl
  · have := hs.up _ (by omega) hlt
    omega

theorem sp_Group (l : List Nd) (hs : Shp l) (n : Int) : CallR Go.Proofs.Try.prog 42 [.rv (kinV l), .rv (.int .i64 n)] [] [] (.rv (.int .i64 (groupAt l n))) := by
  refine callR_G k_level_Group [.rv (kinV l), .rv (.int .i64 n)] _ (by simp) (by simp [BkAll, bk_agg, bkAll_map, bk_rv, bk_fn, Sty.sv, Ln.sv, Nd.sv]) (fun K hK => ?_)
  have hm := sp_Made l n
  simp -implicitDefEqProofs only [c_level_Group, go_sem, ↓reduceIte, Nat.reduceEqDiff, Nat.reduceAdd, Nat.reduceSub, Nat.reduceMul, Nat.reduceLeDiff, Nat.reduceLT, reduceCtorEq, Int.reduceToNat]
  cases hi : madeAt l n with
  | false =>
    rw [hi] at hm
    have hcall20 := hm; repeat' (first | (simp -implicitDefEqProofs only [go_sem, ↓reduceIte, Nat.reduceEqDiff, Nat.reduceAdd, Nat.reduceSub, Nat.reduceMul, Nat.reduceLeDiff, Nat.reduceLT, reduceCtorEq, Int.reduceToNat]) | (with_reducible refine g_noent ?_) | (with_reducible refine g_call0 hcall20 ?_) | (with_reducible refine g_calld0 hcall20 ?_) | (refine cdS (fun hg => ?_) (fun hg => ?_) <;> try simp -implicitDefEqProofs only [hg, Bool.not_true, Bool.not_false]) | (refine gdS (fun hg => ?_) (fun hg => ?_) <;> try simp -implicitDefEqProofs only [hg, Bool.not_true, Bool.not_false]) | (refine gddS (fun hg => ?_) (fun hg => ?_) <;> try simp -implicitDefEqProofs only [hg, Bool.not_true, Bool.not_false]) | ((with_reducible apply And.intro); focus (first | trivial | omega | decide | (simp -implicitDefEqProofs only [maxLen]; omega) | (simp [maxLen, sty_len, nd_len, ndL_len, lnL_len, intsL_len, rvs_len, lensS_len]; done) | (simp [maxLen, sty_len, nd_len, ndL_len, lnL_len, intsL_len, rvs_len, lensS_len]; omega))) | fail)
    exact (hK _ _ (ret_t (by simp [groupAt, hi, lk]))).2
  | true =>
    rw [hi] at hm
    have hin : inL l n = true := by simp [madeAt] at hi; exact hi.1
    obtain ⟨k, rfl, hk⟩ := inL_nat hin
    have hms : madeS l k = true := by simp [madeAt] at hi; exact hi.2
    have hv : groupAt l k = fstI (leadAt l) (pth l k) := by simp [groupAt, hi]
    rw [hv] at hK
    have hcall21 := hm; repeat' (first | (simp -implicitDefEqProofs only [go_sem, ↓reduceIte, Nat.reduceEqDiff, Nat.reduceAdd, Nat.reduceSub, Nat.reduceMul, Nat.reduceLeDiff, Nat.reduceLT, reduceCtorEq, Int.reduceToNat]) | (with_reducible refine g_noent ?_) | (with_reducible refine g_call0 hcall21 ?_) | (with_reducible refine g_calld0 hcall21 ?_) | (refine cdS (fun hg => ?_) (fun hg => ?_) <;> try simp -implicitDefEqProofs only [hg, Bool.not_true, Bool.not_false]) | (refine gdS (fun hg => ?_) (fun hg => ?_) <;> try simp -implicitDefEqProofs only [hg, Bool.not_true, Bool.not_false]) | (refine gddS (fun hg => ?_) (fun hg => ?_) <;> try simp -implicitDefEqProofs only [hg, Bool.not_true, Bool.not_false]) | ((with_reducible apply And.intro); focus (first | trivial | omega | decide | (simp -implicitDefEqProofs only [maxLen]; omega) | (simp [maxLen, sty_len, nd_len, ndL_len, lnL_len, intsL_len, rvs_len, lensS_len]; done) | (simp [maxLen, sty_len, nd_len, ndL_len, lnL_len, intsL_len, rvs_len, lensS_len]; omega))) | fail)
    refine g_loop (ι := Nat) (fun i => [(1, .rv (.int .i64 (atI (pth l k) i))), (0, .rv (kinV l))]) (fun _ => []) (fun i => i < (pth l k).length ∧ fstI (leadAt l) ((pth l k).drop i) = fstI (leadAt l) (pth l k)) (fun i => (pth l k).length - i) 0 ⟨pth_pos, by simp⟩ (by rw [atI_zero]; exact ent_env (by simp [lk])) (fun i hi' K' hN hX hR => ?_)
    obtain ⟨hi1, hi2⟩ := hi'
    have hp := sp_Leads l (atI (pth l k) i)
    have hcall := sp_Parent l (atI (pth l k) i)
    have hlt := pth_lt hk hi1
    have hpar : parAt l (atI (pth l k) i) = atI (pth l k) (i + 1) := by
      rw [atI_lt hi1, ← par_at hs.wf k hk i hi1]; simp [parAt, inL_of hlt]
    rw [hpar] at hcall
    cases hb : leadAt l (atI (pth l k) i) with
    | true =>
      rw [hb] at hp
      simp -implicitDefEqProofs only [go_sem, ↓reduceIte, Nat.reduceEqDiff, Nat.reduceAdd, Nat.reduceSub, Nat.reduceMul, Nat.reduceLeDiff, Nat.reduceLT, reduceCtorEq, Int.reduceToNat]
      have hcall22 := hp; have hcall23 := hcall; repeat' (first | (simp -implicitDefEqProofs only [go_sem, ↓reduceIte, Nat.reduceEqDiff, Nat.reduceAdd, Nat.reduceSub, Nat.reduceMul, Nat.reduceLeDiff, Nat.reduceLT, reduceCtorEq, Int.reduceToNat]) | (with_reducible refine g_noent ?_) | (with_reducible refine g_call0 hcall22 ?_) | (with_reducible refine g_calld0 hcall22 ?_) | (with_reducible refine g_call0 hcall23 ?_) | (with_reducible refine g_calld0 hcall23 ?_) | (refine cdS (fun hg => ?_) (fun hg => ?_) <;> try simp -implicitDefEqProofs only [hg, Bool.not_true, Bool.not_false]) | (refine gdS (fun hg => ?_) (fun hg => ?_) <;> try simp -implicitDefEqProofs only [hg, Bool.not_true, Bool.not_false]) | (refine gddS (fun hg => ?_) (fun hg => ?_) <;> try simp -implicitDefEqProofs only [hg, Bool.not_true, Bool.not_false]) | ((with_reducible apply And.intro); focus (first | trivial | omega | decide | (simp -implicitDefEqProofs only [maxLen]; omega) | (simp [maxLen, sty_len, nd_len, ndL_len, lnL_len, intsL_len, rvs_len, lensS_len]; done) | (simp [maxLen, sty_len, nd_len, ndL_len, lnL_len, intsL_len, rvs_len, lensS_len]; omega))) | fail)
      refine hX _ _ _ ?_
      repeat' (first | (simp -implicitDefEqProofs only [go_sem, ↓reduceIte, Nat.reduceEqDiff, Nat.reduceAdd, Nat.reduceSub, Nat.reduceMul, Nat.reduceLeDiff, Nat.reduceLT, reduceCtorEq, Int.reduceToNat]) | (with_reducible refine g_noent ?_) | (refine cdS (fun hg => ?_) (fun hg => ?_) <;> try simp -implicitDefEqProofs only [hg, Bool.not_true, Bool.not_false]) | (refine gdS (fun hg => ?_) (fun hg => ?_) <;> try simp -implicitDefEqProofs only [hg, Bool.not_true, Bool.not_false]) | (refine gddS (fun hg => ?_) (fun hg => ?_) <;> try simp -implicitDefEqProofs only [hg, Bool.not_true, Bool.not_false]) | ((with_reducible apply And.intro); focus (first | trivial | omega | decide | (simp -implicitDefEqProofs only [maxLen]; omega) | (simp [maxLen, sty_len, nd_len, ndL_len, lnL_len, intsL_len, rvs_len, lensS_len]; done) | (simp [maxLen, sty_len, nd_len, ndL_len, lnL_len, intsL_len, rvs_len, lensS_len]; omega))) | fail)
      refine (hK _ _ (ret_t ?_)).2
      rw [fst_hit hi1 hi2 hb]; simp [lk]
    | false =>
      rw [hb] at hp
      simp -implicitDefEqProofs only [go_sem, ↓reduceIte, Nat.reduceEqDiff, Nat.reduceAdd, Nat.reduceSub, Nat.reduceMul, Nat.reduceLeDiff, Nat.reduceLT, reduceCtorEq, Int.reduceToNat]
      have hcall24 := hp; have hcall25 := hcall; repeat' (first | (simp -implicitDefEqProofs only [go_sem, ↓reduceIte, Nat.reduceEqDiff, Nat.reduceAdd, Nat.reduceSub, Nat.reduceMul, Nat.reduceLeDiff, Nat.reduceLT, reduceCtorEq, Int.reduceToNat]) | (with_reducible refine g_noent ?_) | (with_reducible refine g_call0 hcall24 ?_) | (with_reducible refine g_calld0 hcall24 ?_) | (with_reducible refine g_call0 hcall25 ?_) | (with_reducible refine g_calld0 hcall25 ?_) | (refine cdS (fun hg => ?_) (fun hg => ?_) <;> try simp -implicitDefEqProofs only [hg, Bool.not_true, Bool.not_false]) | (refine gdS (fun hg => ?_) (fun hg => ?_) <;> try simp -implicitDefEqProofs only [hg, Bool.not_true, Bool.not_false]) | (refine gddS (fun hg => ?_) (fun hg => ?_) <;> try simp -implicitDefEqProofs only [hg, Bool.not_true, Bool.not_false]) | ((with_reducible apply And.intro); focus (first | trivial | omega | decide | (simp -implicitDefEqProofs only [maxLen]; omega) | (simp [maxLen, sty_len, nd_len, ndL_len, lnL_len, intsL_len, rvs_len, lensS_len]; done) | (simp [maxLen, sty_len, nd_len, ndL_len, lnL_len, intsL_len, rvs_len, lensS_len]; omega))) | fail)
      exact hN (i + 1) _ _ ⟨lead_root hs hk hms hi1 hb, fst_miss hi1 hi2 hb⟩ (by omega) (ent_env (by simp [lk]))

theorem sp_Context (l : List Nd) (hs : Shp l) (n : Int) : CallR Go.Proofs.Try.prog 44 [.rv (kinV l), .rv (.int .i64 n)] [] [] (.rv (.int .i64 (ctxAt l n))) := by
  refine callR_G k_level_Context [.rv (kinV l), .rv (.int .i64 n)] _ (by simp) (by simp [BkAll, bk_agg, bkAll_map, bk_rv, bk_fn, Sty.sv, Ln.sv, Nd.sv]) (fun K hK => ?_)
  have hm := sp_Made l n
  have hpar := sp_Parent l n
  simp -implicitDefEqProofs only [c_level_Context, go_sem, ↓reduceIte, Nat.reduceEqDiff, Nat.reduceAdd, Nat.reduceSub, Nat.reduceMul, Nat.reduceLeDiff, Nat.reduceLT, reduceCtorEq, Int.reduceToNat]
  cases hmm : madeAt l n with
  | false =>
    rw [hmm] at hm
    have hcall26 := hm; repeat' (first | (simp -implicitDefEqProofs only [go_sem, ↓reduceIte, Nat.reduceEqDiff, Nat.reduceAdd, Nat.reduceSub, Nat.reduceMul, Nat.reduceLeDiff, Nat.reduceLT, reduceCtorEq, Int.reduceToNat]) | (with_reducible refine g_noent ?_) | (with_reducible refine g_call0 hcall26 ?_) | (with_reducible refine g_calld0 hcall26 ?_) | (refine cdS (fun hg => ?_) (fun hg => ?_) <;> try simp -implicitDefEqProofs only [hg, Bool.not_true, Bool.not_false]) | (refine gdS (fun hg => ?_) (fun hg => ?_) <;> try simp -implicitDefEqProofs only [hg, Bool.not_true, Bool.not_false]) | (refine gddS (fun hg => ?_) (fun hg => ?_) <;> try simp -implicitDefEqProofs only [hg, Bool.not_true, Bool.not_false]) | ((with_reducible apply And.intro); focus (first | trivial | omega | decide | (simp -implicitDefEqProofs only [maxLen]; omega) | (simp [maxLen, sty_len, nd_len, ndL_len, lnL_len, intsL_len, rvs_len, lensS_len]; done) | (simp [maxLen, sty_len, nd_len, ndL_len, lnL_len, intsL_len, rvs_len, lensS_len]; omega))) | fail)
    exact (hK _ _ (ret_t (by simp [ctxAt, hmm, lk]))).2
  | true =>
    rw [hmm] at hm
    have hv : ctxAt l n = fstI (formAt l) (upAt l n) := by simp [ctxAt, hmm]
    rw [hv] at hK
    have hcall27 := hm; have hcall28 := hpar; repeat' (first | (simp -implicitDefEqProofs only [go_sem, ↓reduceIte, Nat.reduceEqDiff, Nat.reduceAdd, Nat.reduceSub, Nat.reduceMul, Nat.reduceLeDiff, Nat.reduceLT, reduceCtorEq, Int.reduceToNat]) | (with_reducible refine g_noent ?_) | (with_reducible refine g_call0 hcall27 ?_) | (with_reducible refine g_calld0 hcall27 ?_) | (with_reducible refine g_call0 hcall28 ?_) | (with_reducible refine g_calld0 hcall28 ?_) | (refine cdS (fun hg => ?_) (fun hg => ?_) <;> try simp -implicitDefEqProofs only [hg, Bool.not_true, Bool.not_false]) | (refine gdS (fun hg => ?_) (fun hg => ?_) <;> try simp -implicitDefEqProofs only [hg, Bool.not_true, Bool.not_false]) | (refine gddS (fun hg => ?_) (fun hg => ?_) <;> try simp -implicitDefEqProofs only [hg, Bool.not_true, Bool.not_false]) | ((with_reducible apply And.intro); focus (first | trivial | omega | decide | (simp -implicitDefEqProofs only [maxLen]; omega) | (simp [maxLen, sty_len, nd_len, ndL_len, lnL_len, intsL_len, rvs_len, lensS_len]; done) | (simp [maxLen, sty_len, nd_len, ndL_len, lnL_len, intsL_len, rvs_len, lensS_len]; omega))) | fail)
    refine g_loop (ι := Nat) (fun i => [(5, .rv (.int .i64 (atI (upAt l n) i))), (0, .rv (kinV l))]) (fun _ => []) (fun i => i ≤ (upAt l n).length ∧ fstI (formAt l) ((upAt l n).drop i) = fstI (formAt l) (upAt l n)) (fun i => (upAt l n).length - i) 0 (by simp) (by rw [up_zero hs]; exact ent_env (by simp [lk])) (fun i hi' K' hN hX hR => ?_)
    obtain ⟨hi1, hi2⟩ := hi'
    simp -implicitDefEqProofs only [go_sem, ↓reduceIte, Nat.reduceEqDiff, Nat.reduceAdd, Nat.reduceSub, Nat.reduceMul, Nat.reduceLeDiff, Nat.reduceLT, reduceCtorEq, Int.reduceToNat, atI_ne]
    refine cdS (fun hg => ?_) (fun hg => ?_)
    · have hil : i < (upAt l n).length := of_decide_eq_true hg
      have hp := sp_Forms l (atI (upAt l n) i)
      have hnx := up_next hs n hil
      have hcall := sp_Parent l (atI (upAt l n) i)
      rw [hnx] at hcall
      cases hb : formAt l (atI (upAt l n) i) with
      | true =>
        rw [hb] at hp
        have hcall29 := hp; have hcall30 := hcall; repeat' (first | (simp -implicitDefEqProofs only [go_sem, ↓reduceIte, Nat.reduceEqDiff, Nat.reduceAdd, Nat.reduceSub, Nat.reduceMul, Nat.reduceLeDiff, Nat.reduceLT, reduceCtorEq, Int.reduceToNat]) | (with_reducible refine g_noent ?_) | (with_reducible refine g_call0 hcall29 ?_) | (with_reducible refine g_calld0 hcall29 ?_) | (with_reducible refine g_call0 hcall30 ?_) | (with_reducible refine g_calld0 hcall30 ?_) | (refine cdS (fun hg => ?_) (fun hg => ?_) <;> try simp -implicitDefEqProofs only [hg, Bool.not_true, Bool.not_false]) | (refine gdS (fun hg => ?_) (fun hg => ?_) <;> try simp -implicitDefEqProofs only [hg, Bool.not_true, Bool.not_false]) | (refine gddS (fun hg => ?_) (fun hg => ?_) <;> try simp -implicitDefEqProofs only [hg, Bool.not_true, Bool.not_false]) | ((with_reducible apply And.intro); focus (first | trivial | omega | decide | (simp -implicitDefEqProofs only [maxLen]; omega) | (simp [maxLen, sty_len, nd_len, ndL_len, lnL_len, intsL_len, rvs_len, lensS_len]; done) | (simp [maxLen, sty_len, nd_len, ndL_len, lnL_len, intsL_len, rvs_len, lensS_len]; omega))) | fail)
        refine hR _ _ (hK _ _ (ret_t ?_)).2
        rw [fst_hit hil hi2 hb]; simp [lk]
      | false =>
        rw [hb] at hp
        have hcall31 := hp; have hcall32 := hcall; repeat' (first | (simp -implicitDefEqProofs only [go_sem, ↓reduceIte, Nat.reduceEqDiff, Nat.reduceAdd, Nat.reduceSub, Nat.reduceMul, Nat.reduceLeDiff, Nat.reduceLT, reduceCtorEq, Int.reduceToNat]) | (with_reducible refine g_noent ?_) | (with_reducible refine g_call0 hcall31 ?_) | (with_reducible refine g_calld0 hcall31 ?_) | (with_reducible refine g_call0 hcall32 ?_) | (with_reducible refine g_calld0 hcall32 ?_) | (refine cdS (fun hg => ?_) (fun hg => ?_) <;> try simp -implicitDefEqProofs only [hg, Bool.not_true, Bool.not_false]) | (refine gdS (fun hg => ?_) (fun hg => ?_) <;> try simp -implicitDefEqProofs only [hg, Bool.not_true, Bool.not_false]) | (refine gddS (fun hg => ?_) (fun hg => ?_) <;> try simp -implicitDefEqProofs only [hg, Bool.not_true, Bool.not_false]) | ((with_reducible apply And.intro); focus (first | trivial | omega | decide | (simp -implicitDefEqProofs only [maxLen]; omega) | (simp [maxLen, sty_len, nd_len, ndL_len, lnL_len, intsL_len, rvs_len, lensS_len]; done) | (simp [maxLen, sty_len, nd_len, ndL_len, lnL_len, intsL_len, rvs_len, lensS_len]; omega))) | fail)
        exact hN (i + 1) _ _ ⟨by omega, fst_miss hil hi2 hb⟩ (by omega) (ent_env (by simp [lk]))
    · have hil : ¬ i < (upAt l n).length := of_decide_eq_false hg
      simp -implicitDefEqProofs only [go_sem, ↓reduceIte, Nat.reduceEqDiff, Nat.reduceAdd, Nat.reduceSub, Nat.reduceMul, Nat.reduceLeDiff, Nat.reduceLT, reduceCtorEq, Int.reduceToNat]
      refine hX _ _ _ ?_
      repeat' (first | (simp -implicitDefEqProofs only [go_sem, ↓reduceIte, Nat.reduceEqDiff, Nat.reduceAdd, Nat.reduceSub, Nat.reduceMul, Nat.reduceLeDiff, Nat.reduceLT, reduceCtorEq, Int.reduceToNat]) | (with_reducible refine g_noent ?_) | (refine cdS (fun hg => ?_) (fun hg => ?_) <;> try simp -implicitDefEqProofs only [hg, Bool.not_true, Bool.not_false]) | (refine gdS (fun hg => ?_) (fun hg => ?_) <;> try simp -implicitDefEqProofs only [hg, Bool.not_true, Bool.not_false]) | (refine gddS (fun hg => ?_) (fun hg => ?_) <;> try simp -implicitDefEqProofs only [hg, Bool.not_true, Bool.not_false]) | ((with_reducible apply And.intro); focus (first | trivial | omega | decide | (simp -implicitDefEqProofs only [maxLen]; omega) | (simp [maxLen, sty_len, nd_len, ndL_len, lnL_len, intsL_len, rvs_len, lensS_len]; done) | (simp [maxLen, sty_len, nd_len, ndL_len, lnL_len, intsL_len, rvs_len, lensS_len]; omega))) | fail)
      refine (hK _ _ (ret_t ?_)).2
      rw [fst_end (by omega) hi2]; simp [lk]

theorem sp_ref23_Context (l : List Nd) (ht : treeOK l = true) (hb : l.length ≤ 8589934592) (n : Int) : CallR Go.Proofs.Try.prog 45 [.rv (.sl 49 (ndL l)), .rv (.int .i64 n)] [] [] (.rv (.int .i64 (ctxAt l n))) := by
  refine callR_G k_decoupageref23_Context [.rv (.sl 49 (ndL l)), .rv (.int .i64 n)] _ (by simp) (by simp [BkAll, bk_agg, bkAll_map, bk_rv, bk_fn, Sty.sv, Ln.sv, Nd.sv]) (fun K hK => ?_)
  have hs := tree_shp ht
  have hm := sp_ref08_Made l ht n
  have hup := sp_ref08_Up l hs hb n
  have ful := up_len l n
  have hln := nats_ln (upAt l n)
  simp -implicitDefEqProofs only [c_decoupageref23_Context, go_sem, ↓reduceIte, Nat.reduceEqDiff, Nat.reduceAdd, Nat.reduceSub, Nat.reduceMul, Nat.reduceLeDiff, Nat.reduceLT, reduceCtorEq, Int.reduceToNat]
  cases hmm : madeAt l n with
  | false =>
    rw [hmm] at hm
    have hcall33 := hm; repeat' (first | (simp -implicitDefEqProofs only [go_sem, ↓reduceIte, Nat.reduceEqDiff, Nat.reduceAdd, Nat.reduceSub, Nat.reduceMul, Nat.reduceLeDiff, Nat.reduceLT, reduceCtorEq, Int.reduceToNat]) | (with_reducible refine g_noent ?_) | (with_reducible refine g_call0 hcall33 ?_) | (with_reducible refine g_calld0 hcall33 ?_) | (refine cdS (fun hg => ?_) (fun hg => ?_) <;> try simp -implicitDefEqProofs only [hg, Bool.not_true, Bool.not_false]) | (refine gdS (fun hg => ?_) (fun hg => ?_) <;> try simp -implicitDefEqProofs only [hg, Bool.not_true, Bool.not_false]) | (refine gddS (fun hg => ?_) (fun hg => ?_) <;> try simp -implicitDefEqProofs only [hg, Bool.not_true, Bool.not_false]) | ((with_reducible apply And.intro); focus (first | trivial | omega | decide | (simp -implicitDefEqProofs only [maxLen]; omega) | (simp [maxLen, sty_len, nd_len, ndL_len, lnL_len, intsL_len, rvs_len, lensS_len]; done) | (simp [maxLen, sty_len, nd_len, ndL_len, lnL_len, intsL_len, rvs_len, lensS_len]; omega))) | fail)
    exact (hK _ _ (ret_t (by simp [ctxAt, hmm, lk]))).2
  | true =>
    rw [hmm] at hm
    have hv : ctxAt l n = fstI (formAt l) (upAt l n) := by simp [ctxAt, hmm]
    rw [hv] at hK
    have hcall34 := hm; have hcall35 := hup; repeat' (first | (simp -implicitDefEqProofs only [go_sem, ↓reduceIte, Nat.reduceEqDiff, Nat.reduceAdd, Nat.reduceSub, Nat.reduceMul, Nat.reduceLeDiff, Nat.reduceLT, reduceCtorEq, Int.reduceToNat, hln]) | (with_reducible refine g_noent ?_) | (with_reducible refine g_call0 hcall34 ?_) | (with_reducible refine g_calld0 hcall34 ?_) | (with_reducible refine g_call0 hcall35 ?_) | (with_reducible refine g_calld0 hcall35 ?_) | (refine cdS (fun hg => ?_) (fun hg => ?_) <;> try simp -implicitDefEqProofs only [hg, Bool.not_true, Bool.not_false]) | (refine gdS (fun hg => ?_) (fun hg => ?_) <;> try simp -implicitDefEqProofs only [hg, Bool.not_true, Bool.not_false]) | (refine gddS (fun hg => ?_) (fun hg => ?_) <;> try simp -implicitDefEqProofs only [hg, Bool.not_true, Bool.not_false]) | ((with_reducible apply And.intro); focus (first | trivial | omega | decide | (simp -implicitDefEqProofs only [maxLen]; omega) | (simp [maxLen, sty_len, nd_len, ndL_len, lnL_len, intsL_len, rvs_len, lensS_len]; done) | (simp [maxLen, sty_len, nd_len, ndL_len, lnL_len, intsL_len, rvs_len, lensS_len]; omega))) | fail)
    refine g_loop (ι := Nat) (fun i => [(16, .rv (.int .i64 i)), (15, .rv (.int .i64 (upAt l n).length)), (5, .rv (.sl 1 (intsL (natsI (upAt l n))))), (0, .rv (.sl 49 (ndL l)))]) (fun _ => []) (fun i => i ≤ (upAt l n).length ∧ fstI (formAt l) ((upAt l n).drop i) = fstI (formAt l) (upAt l n)) (fun i => (upAt l n).length - i) 0 (by simp) (ent_env (by simp [lk])) (fun i hi' K' hN hX hR => ?_)
    obtain ⟨hi1, hi2⟩ := hi'
    simp -implicitDefEqProofs only [go_sem, ↓reduceIte, Nat.reduceEqDiff, Nat.reduceAdd, Nat.reduceSub, Nat.reduceMul, Nat.reduceLeDiff, Nat.reduceLT, reduceCtorEq, Int.reduceToNat]
    refine cdS (fun hg => ?_) (fun hg => ?_)
    · have hil : i < (upAt l n).length := by simp at hg; omega
      have hp := sp_ref23_Forms l ht (atI (upAt l n) i)
      have hai := nats_at hil
      have wu := wrap_up (k := i) (by omega)
      cases hb : formAt l (atI (upAt l n) i) with
      | true =>
        rw [hb] at hp
        have hcall36 := hp; repeat' (first | (simp -implicitDefEqProofs only [go_sem, ↓reduceIte, Nat.reduceEqDiff, Nat.reduceAdd, Nat.reduceSub, Nat.reduceMul, Nat.reduceLeDiff, Nat.reduceLT, reduceCtorEq, Int.reduceToNat, hai, hln, wu]) | (with_reducible refine g_noent ?_) | (with_reducible refine g_call0 hcall36 ?_) | (with_reducible refine g_calld0 hcall36 ?_) | (refine cdS (fun hg => ?_) (fun hg => ?_) <;> try simp -implicitDefEqProofs only [hg, Bool.not_true, Bool.not_false]) | (refine gdS (fun hg => ?_) (fun hg => ?_) <;> try simp -implicitDefEqProofs only [hg, Bool.not_true, Bool.not_false]) | (refine gddS (fun hg => ?_) (fun hg => ?_) <;> try simp -implicitDefEqProofs only [hg, Bool.not_true, Bool.not_false]) | ((with_reducible apply And.intro); focus (first | trivial | omega | decide | (simp -implicitDefEqProofs only [maxLen]; omega) | (simp [maxLen, sty_len, nd_len, ndL_len, lnL_len, intsL_len, rvs_len, lensS_len]; done) | (simp [maxLen, sty_len, nd_len, ndL_len, lnL_len, intsL_len, rvs_len, lensS_len]; omega))) | fail)
        refine hR _ _ (hK _ _ (ret_t ?_)).2
        rw [fst_hit hil hi2 hb]; simp [lk]
      | false =>
        rw [hb] at hp
        have hcall37 := hp; repeat' (first | (simp -implicitDefEqProofs only [go_sem, ↓reduceIte, Nat.reduceEqDiff, Nat.reduceAdd, Nat.reduceSub, Nat.reduceMul, Nat.reduceLeDiff, Nat.reduceLT, reduceCtorEq, Int.reduceToNat, hai, hln, wu]) | (with_reducible refine g_noent ?_) | (with_reducible refine g_call0 hcall37 ?_) | (with_reducible refine g_calld0 hcall37 ?_) | (refine cdS (fun hg => ?_) (fun hg => ?_) <;> try simp -implicitDefEqProofs only [hg, Bool.not_true, Bool.not_false]) | (refine gdS (fun hg => ?_) (fun hg => ?_) <;> try simp -implicitDefEqProofs only [hg, Bool.not_true, Bool.not_false]) | (refine gddS (fun hg => ?_) (fun hg => ?_) <;> try simp -implicitDefEqProofs only [hg, Bool.not_true, Bool.not_false]) | ((with_reducible apply And.intro); focus (first | trivial | omega | decide | (simp -implicitDefEqProofs only [maxLen]; omega) | (simp [maxLen, sty_len, nd_len, ndL_len, lnL_len, intsL_len, rvs_len, lensS_len]; done) | (simp [maxLen, sty_len, nd_len, ndL_len, lnL_len, intsL_len, rvs_len, lensS_len]; omega))) | fail)
        exact hN (i + 1) _ _ ⟨by omega, fst_miss hil hi2 hb⟩ (by omega) (ent_env (by simp [lk]))
    · have hil : ¬ i < (upAt l n).length := by simp at hg; omega
      simp -implicitDefEqProofs only [go_sem, ↓reduceIte, Nat.reduceEqDiff, Nat.reduceAdd, Nat.reduceSub, Nat.reduceMul, Nat.reduceLeDiff, Nat.reduceLT, reduceCtorEq, Int.reduceToNat]
      refine hX _ _ _ ?_
      repeat' (first | (simp -implicitDefEqProofs only [go_sem, ↓reduceIte, Nat.reduceEqDiff, Nat.reduceAdd, Nat.reduceSub, Nat.reduceMul, Nat.reduceLeDiff, Nat.reduceLT, reduceCtorEq, Int.reduceToNat]) | (with_reducible refine g_noent ?_) | (refine cdS (fun hg => ?_) (fun hg => ?_) <;> try simp -implicitDefEqProofs only [hg, Bool.not_true, Bool.not_false]) | (refine gdS (fun hg => ?_) (fun hg => ?_) <;> try simp -implicitDefEqProofs only [hg, Bool.not_true, Bool.not_false]) | (refine gddS (fun hg => ?_) (fun hg => ?_) <;> try simp -implicitDefEqProofs only [hg, Bool.not_true, Bool.not_false]) | ((with_reducible apply And.intro); focus (first | trivial | omega | decide | (simp -implicitDefEqProofs only [maxLen]; omega) | (simp [maxLen, sty_len, nd_len, ndL_len, lnL_len, intsL_len, rvs_len, lensS_len]; done) | (simp [maxLen, sty_len, nd_len, ndL_len, lnL_len, intsL_len, rvs_len, lensS_len]; omega))) | fail)
      refine (hK _ _ (ret_t ?_)).2
      rw [fst_end (by omega) hi2]; simp [lk]

theorem sp_ref23_Group (l : List Nd) (ht : treeOK l = true) (hb : l.length ≤ 8589934592) (n : Int) : CallR Go.Proofs.Try.prog 43 [.rv (.sl 49 (ndL l)), .rv (.int .i64 n)] [] [] (.rv (.int .i64 (groupAt l n))) := by
  refine callR_G k_decoupageref23_Group [.rv (.sl 49 (ndL l)), .rv (.int .i64 n)] _ (by simp) (by simp [BkAll, bk_agg, bkAll_map, bk_rv, bk_fn, Sty.sv, Ln.sv, Nd.sv]) (fun K hK => ?_)
  have hs := tree_shp ht
  have hm := sp_ref08_Made l ht n
  have hup := sp_ref08_Up l hs hb n
  simp -implicitDefEqProofs only [c_decoupageref23_Group, go_sem, ↓reduceIte, Nat.reduceEqDiff, Nat.reduceAdd, Nat.reduceSub, Nat.reduceMul, Nat.reduceLeDiff, Nat.reduceLT, reduceCtorEq, Int.reduceToNat]
  cases hmm : madeAt l n with
  | false =>
    rw [hmm] at hm
    have hcall38 := hm; repeat' (first | (simp -implicitDefEqProofs only [go_sem, ↓reduceIte, Nat.reduceEqDiff, Nat.reduceAdd, Nat.reduceSub, Nat.reduceMul, Nat.reduceLeDiff, Nat.reduceLT, reduceCtorEq, Int.reduceToNat]) | (with_reducible refine g_noent ?_) | (with_reducible refine g_call0 hcall38 ?_) | (with_reducible refine g_calld0 hcall38 ?_) | (refine cdS (fun hg => ?_) (fun hg => ?_) <;> try simp -implicitDefEqProofs only [hg, Bool.not_true, Bool.not_false]) | (refine gdS (fun hg => ?_) (fun hg => ?_) <;> try simp -implicitDefEqProofs only [hg, Bool.not_true, Bool.not_false]) | (refine gddS (fun hg => ?_) (fun hg => ?_) <;> try simp -implicitDefEqProofs only [hg, Bool.not_true, Bool.not_false]) | ((with_reducible apply And.intro); focus (first | trivial | omega | decide | (simp -implicitDefEqProofs only [maxLen]; omega) | (simp [maxLen, sty_len, nd_len, ndL_len, lnL_len, intsL_len, rvs_len, lensS_len]; done) | (simp [maxLen, sty_len, nd_len, ndL_len, lnL_len, intsL_len, rvs_len, lensS_len]; omega))) | fail)
    exact (hK _ _ (ret_t (by simp [groupAt, hmm, lk]))).2
  | true =>
    rw [hmm] at hm
    have hin : inL l n = true := by simp [madeAt] at hmm; exact hmm.1
    obtain ⟨k, rfl, hk⟩ := inL_nat hin
    have hv : groupAt l k = fstI (leadAt l) (pth l k) := by simp [groupAt, hmm]
    rw [hv] at hK
    have hpl := pth_len (l := l) k
    have hln := nats_ln (pth l k)
    have hjoin : [SV.rv (.int .i64 k)] :: rvs (intsL (natsI (upAt l k))) = rvs (intsL (natsI (pth l k))) := by
      obtain ⟨r, hr⟩ := pth_head (l := l) (n := k)
      simp [upAt, hin, hr, intsL, natsI, rvs]
    have hlj : (upAt l k).length + 1 = (pth l k).length := by
      obtain ⟨r, hr⟩ := pth_head (l := l) (n := k)
      simp [upAt, hin, hr]
    have hlj2 : 1 + (upAt l k).length = (pth l k).length := by omega
    have hcall39 := hm; have hcall40 := hup; repeat' (first | (simp -implicitDefEqProofs only [go_sem, ↓reduceIte, Nat.reduceEqDiff, Nat.reduceAdd, Nat.reduceSub, Nat.reduceMul, Nat.reduceLeDiff, Nat.reduceLT, reduceCtorEq, Int.reduceToNat, nats_ln, hjoin, hlj2]) | (with_reducible refine g_noent ?_) | (with_reducible refine g_call0 hcall39 ?_) | (with_reducible refine g_calld0 hcall39 ?_) | (with_reducible refine g_call0 hcall40 ?_) | (with_reducible refine g_calld0 hcall40 ?_) | (refine cdS (fun hg => ?_) (fun hg => ?_) <;> try simp -implicitDefEqProofs only [hg, Bool.not_true, Bool.not_false]) | (refine gdS (fun hg => ?_) (fun hg => ?_) <;> try simp -implicitDefEqProofs only [hg, Bool.not_true, Bool.not_false]) | (refine gddS (fun hg => ?_) (fun hg => ?_) <;> try simp -implicitDefEqProofs only [hg, Bool.not_true, Bool.not_false]) | ((with_reducible apply And.intro); focus (first | trivial | omega | decide | (simp -implicitDefEqProofs only [maxLen]; omega) | (simp [maxLen, sty_len, nd_len, ndL_len, lnL_len, intsL_len, rvs_len, lensS_len]; done) | (simp [maxLen, sty_len, nd_len, ndL_len, lnL_len, intsL_len, rvs_len, lensS_len]; omega))) | fail)
    refine g_loop (ι := Nat) (fun i => [(19, .rv (.int .i64 i)), (18, .rv (.int .i64 (pth l k).length)), (5, .row 0 1 (pth l k).length), (0, .rv (.sl 49 (ndL l)))]) (fun _ => [some (.row 1 1 (rvs (intsL (natsI (pth l k)))))]) (fun i => i ≤ (pth l k).length ∧ fstI (leadAt l) ((pth l k).drop i) = fstI (leadAt l) (pth l k)) (fun i => (pth l k).length - i) 0 (by simp) (ent_env (by simp [lk])) (fun i hi' K' hN hX hR => ?_)
    obtain ⟨hi1, hi2⟩ := hi'
    simp -implicitDefEqProofs only [go_sem, ↓reduceIte, Nat.reduceEqDiff, Nat.reduceAdd, Nat.reduceSub, Nat.reduceMul, Nat.reduceLeDiff, Nat.reduceLT, reduceCtorEq, Int.reduceToNat]
    refine cdS (fun hg => ?_) (fun hg => ?_)
    · have hil : i < (pth l k).length := by simp at hg; omega
      have hp := sp_ref23_Leads l ht (atI (pth l k) i)
      have hai := nats_at hil
      have wu := wrap_up (k := i) (by omega)
      cases hb : leadAt l (atI (pth l k) i) with
      | true =>
        rw [hb] at hp
        have hcall41 := hp; repeat' (first | (simp -implicitDefEqProofs only [go_sem, ↓reduceIte, Nat.reduceEqDiff, Nat.reduceAdd, Nat.reduceSub, Nat.reduceMul, Nat.reduceLeDiff, Nat.reduceLT, reduceCtorEq, Int.reduceToNat, hai, hln, wu]) | (with_reducible refine g_noent ?_) | (with_reducible refine g_call0 hcall41 ?_) | (with_reducible refine g_calld0 hcall41 ?_) | (refine cdS (fun hg => ?_) (fun hg => ?_) <;> try simp -implicitDefEqProofs only [hg, Bool.not_true, Bool.not_false]) | (refine gdS (fun hg => ?_) (fun hg => ?_) <;> try simp -implicitDefEqProofs only [hg, Bool.not_true, Bool.not_false]) | (refine gddS (fun hg => ?_) (fun hg => ?_) <;> try simp -implicitDefEqProofs only [hg, Bool.not_true, Bool.not_false]) | ((with_reducible apply And.intro); focus (first | trivial | omega | decide | (simp -implicitDefEqProofs only [maxLen]; omega) | (simp [maxLen, sty_len, nd_len, ndL_len, lnL_len, intsL_len, rvs_len, lensS_len]; done) | (simp [maxLen, sty_len, nd_len, ndL_len, lnL_len, intsL_len, rvs_len, lensS_len]; omega))) | fail)
        refine hR _ _ (hK _ _ (ret_t ?_)).2
        rw [fst_hit hil hi2 hb]; simp [lk]
      | false =>
        rw [hb] at hp
        have hcall42 := hp; repeat' (first | (simp -implicitDefEqProofs only [go_sem, ↓reduceIte, Nat.reduceEqDiff, Nat.reduceAdd, Nat.reduceSub, Nat.reduceMul, Nat.reduceLeDiff, Nat.reduceLT, reduceCtorEq, Int.reduceToNat, hai, hln, wu]) | (with_reducible refine g_noent ?_) | (with_reducible refine g_call0 hcall42 ?_) | (with_reducible refine g_calld0 hcall42 ?_) | (refine cdS (fun hg => ?_) (fun hg => ?_) <;> try simp -implicitDefEqProofs only [hg, Bool.not_true, Bool.not_false]) | (refine gdS (fun hg => ?_) (fun hg => ?_) <;> try simp -implicitDefEqProofs only [hg, Bool.not_true, Bool.not_false]) | (refine gddS (fun hg => ?_) (fun hg => ?_) <;> try simp -implicitDefEqProofs only [hg, Bool.not_true, Bool.not_false]) | ((with_reducible apply And.intro); focus (first | trivial | omega | decide | (simp -implicitDefEqProofs only [maxLen]; omega) | (simp [maxLen, sty_len, nd_len, ndL_len, lnL_len, intsL_len, rvs_len, lensS_len]; done) | (simp [maxLen, sty_len, nd_len, ndL_len, lnL_len, intsL_len, rvs_len, lensS_len]; omega))) | fail)
        exact hN (i + 1) _ _ ⟨by omega, fst_miss hil hi2 hb⟩ (by omega) (ent_env (by simp [lk]))
    · have hil : ¬ i < (pth l k).length := by simp at hg; omega
      simp -implicitDefEqProofs only [go_sem, ↓reduceIte, Nat.reduceEqDiff, Nat.reduceAdd, Nat.reduceSub, Nat.reduceMul, Nat.reduceLeDiff, Nat.reduceLT, reduceCtorEq, Int.reduceToNat]
      refine hX _ _ _ ?_
      repeat' (first | (simp -implicitDefEqProofs only [go_sem, ↓reduceIte, Nat.reduceEqDiff, Nat.reduceAdd, Nat.reduceSub, Nat.reduceMul, Nat.reduceLeDiff, Nat.reduceLT, reduceCtorEq, Int.reduceToNat]) | (with_reducible refine g_noent ?_) | (refine cdS (fun hg => ?_) (fun hg => ?_) <;> try simp -implicitDefEqProofs only [hg, Bool.not_true, Bool.not_false]) | (refine gdS (fun hg => ?_) (fun hg => ?_) <;> try simp -implicitDefEqProofs only [hg, Bool.not_true, Bool.not_false]) | (refine gddS (fun hg => ?_) (fun hg => ?_) <;> try simp -implicitDefEqProofs only [hg, Bool.not_true, Bool.not_false]) | ((with_reducible apply And.intro); focus (first | trivial | omega | decide | (simp -implicitDefEqProofs only [maxLen]; omega) | (simp [maxLen, sty_len, nd_len, ndL_len, lnL_len, intsL_len, rvs_len, lensS_len]; done) | (simp [maxLen, sty_len, nd_len, ndL_len, lnL_len, intsL_len, rvs_len, lensS_len]; omega))) | fail)
      refine (hK _ _ (ret_t ?_)).2
      rw [fst_end (by omega) hi2]; simp [lk]
end Go.Eng
