/- Part 5 of the proof: P2, P3, K9R, K13, P4, KF. -/
import Derived.Test.YteenlielghgkdaaPreferTells4
import Derived.Test.YteenlielghgkdaaProg
import Derived.KernelRfl
set_option linter.unusedSimpArgs false
set_option linter.unusedVariables false
/- prefer: what a box's content prefers. -/
namespace Go.Eng
open Go
/- decoupage/prefer.outer -/
def c_prefer_outer : AC := (.seq (.reg [⟨(some 4), .mv, [(.c (.rv (.int .i64 0)))], none⟩, ⟨(some 5), .mv, [(.c (.rv (.bool false)))], none⟩]) (.seq (.reg [⟨(some 15), .mv, [(.t 0)], none⟩, ⟨(some 16), .mv, [(.t 1)], none⟩, ⟨(some 17), (.call 52), [(.t 15), (.t 16)], none⟩, ⟨(some 14), .mv, [(.t 17)], none⟩, ⟨(some 18), (.ext 0), [(.t 14)], none⟩, ⟨(some 19), (.ext 1), [(.t 14)], none⟩, ⟨(some 6), .mv, [(.t 18)], none⟩, ⟨(some 7), .mv, [(.t 19)], none⟩]) (.seq (.reg [⟨(some 20), .mv, [(.t 0)], none⟩, ⟨(some 21), .mv, [(.t 1)], none⟩, ⟨(some 22), (.call 26), [(.t 20), (.t 21)], none⟩, ⟨(some 8), (.alloc [(.bool false), (.int .i64 0), (.int .i64 0), (.int .i64 0), (.int .i64 0), (.int .i64 0), (.int .i64 0), (.int .i64 0), (.int .i64 0), (.int .i64 0), (.int .i64 0), (.int .i64 0), (.int .i64 0), (.int .i64 0), (.int .i64 0), (.int .i64 0), (.int .i64 0), (.int .i64 0), (.int .i64 0), (.int .i64 0), (.int .i64 0), (.int .i64 0), (.int .i64 0), (.int .i64 0), (.int .i64 0), (.int .i64 0), (.int .i64 0), (.int .i64 0), (.int .i64 0), (.int .i64 0), (.int .i64 0), (.int .i64 0), (.int .i64 0), (.int .i64 0), (.int .i64 0), (.int .i64 0), (.int .i64 0), (.int .i64 0), (.int .i64 0), (.int .i64 0), (.int .i64 0), (.int .i64 0), (.bool false), (.bool false), (.int .i64 0), (.bool false), (.int .i64 0), (.int .i64 0)]), [], none⟩, ⟨none, (.store 48), [(.t 8), (.t 22)], none⟩]) (.seq (.reg [⟨(some 23), .mv, [(.t 6)], none⟩, ⟨(some 24), (.bsl 1), [(.t 23)], none⟩, ⟨(some 9), .mv, [(.t 24)], none⟩]) (.seq (.seq (.reg [⟨(some 25), (.bsl 1), [(.c (.rv (.int .i64 3))), (.c (.rv (.int .i64 1)))], none⟩, ⟨(some 26), .len, [(.t 25)], none⟩, ⟨(some 27), .mv, [(.c (.rv (.int .i64 0)))], none⟩]) (.seq (.block 0 (.loop (.seq (.reg [⟨(some 28), (.ibin .lss), [(.t 27), (.t 26)], none⟩]) (.seq (.cond (.t 28) .skip (.exit 0)) (.seq (.seq (.block 1 (.seq (.reg [⟨(some 29), (.ixs 1), [(.t 25), (.t 27)], none⟩, ⟨(some 30), (.load 1 false), [(.t 29)], none⟩, ⟨(some 11), .mv, [(.t 30)], none⟩]) (.regd [0, 0, 0, 6, 14, 30, 0, 0, 192, 448, 1022, 0, 0, 6144, 14336, 32766, 65535, 131071] [⟨(some 31), .mv, [(.t 9)], none⟩, ⟨(some 32), .mv, [(.t 11)], none⟩, ⟨(some 33), (.fld 22), [(.t 8)], none⟩, ⟨(some 34), (.ixa 4 2), [(.t 33), (.t 32)], none⟩, ⟨(some 35), (.load 2 true), [(.t 34)], none⟩, ⟨(some 36), (.call 76), [(.t 35), (.c (.rv (.int .i64 0)))], none⟩, ⟨(some 37), .mv, [(.t 11)], none⟩, ⟨(some 38), (.fld 30), [(.t 8)], none⟩, ⟨(some 39), (.ixa 4 2), [(.t 38), (.t 37)], none⟩, ⟨(some 40), (.load 2 true), [(.t 39)], none⟩, ⟨(some 41), (.call 76), [(.t 40), (.c (.rv (.int .i64 0)))], none⟩, ⟨(some 42), .mv, [(.t 11)], none⟩, ⟨(some 43), (.fld 38), [(.t 8)], none⟩, ⟨(some 44), (.ixa 4 1), [(.t 43), (.t 42)], none⟩, ⟨(some 45), (.load 1 false), [(.t 44)], none⟩, ⟨(some 46), (.bsl 1), [(.t 36), (.t 41), (.t 45)], none⟩, ⟨(some 47), (.app 1 8), [(.t 31), (.t 46)], none⟩, ⟨(some 9), .mv, [(.t 47)], none⟩]))) .ent) (.reg [⟨(some 48), (.ibin .add), [(.t 27), (.c (.rv (.int .i64 1)))], none⟩, ⟨(some 27), .mv, [(.t 48)], none⟩])))))) .ent)) (.seq (.reg [⟨(some 50), .mv, [(.t 9)], none⟩, ⟨(some 51), (.call 98), [(.t 50)], none⟩, ⟨(some 49), .mv, [(.t 51)], none⟩, ⟨(some 52), (.ext 0), [(.t 49)], none⟩, ⟨(some 53), (.ext 1), [(.t 49)], none⟩, ⟨(some 12), .mv, [(.t 52)], none⟩, ⟨(some 13), .mv, [(.t 53)], none⟩]) (.seq (.reg [⟨(some 54), .mv, [(.t 12)], none⟩, ⟨(some 55), .mv, [(.t 7)], none⟩, ⟨(some 56), .mv, [(.t 55)], none⟩, ⟨(some 57), .mv, [(.t 13)], (some (56, true))⟩, ⟨(some 58), .pick, [(.t 56), (.t 57), (.c (.rv (.bool false)))], none⟩, ⟨(some 4), .mv, [(.t 54)], none⟩, ⟨(some 5), .mv, [(.t 58)], none⟩]) .ret)))))))
theorem k_prefer_outer : FnOK Go.Proofs.Try.prog 77 59 c_prefer_outer [(.t 4), (.t 5)] := fnOK_of (by kernel_rfl)

/- decoupage/prefer.Content -/
def c_prefer_Content : AC := (.seq (.reg [⟨(some 4), .mv, [(.c (.rv (.int .i64 0)))], none⟩, ⟨(some 5), .mv, [(.c (.rv (.bool false)))], none⟩]) (.seq (.seq (.reg [⟨(some 12), .mv, [(.t 0)], none⟩, ⟨(some 13), .mv, [(.t 1)], none⟩, ⟨(some 14), (.call 30), [(.t 12), (.t 13)], none⟩, ⟨(some 15), .not, [(.t 14)], none⟩]) (.cond (.t 15) (.seq (.reg [⟨(some 4), .mv, [(.c (.rv (.int .i64 0)))], none⟩, ⟨(some 5), .mv, [(.c (.rv (.bool false)))], none⟩]) .ret) .skip)) (.seq (.reg [⟨(some 16), .mv, [(.t 0)], none⟩, ⟨(some 17), .mv, [(.t 1)], none⟩, ⟨(some 18), (.call 26), [(.t 16), (.t 17)], none⟩, ⟨(some 6), (.alloc [(.bool false), (.int .i64 0), (.int .i64 0), (.int .i64 0), (.int .i64 0), (.int .i64 0), (.int .i64 0), (.int .i64 0), (.int .i64 0), (.int .i64 0), (.int .i64 0), (.int .i64 0), (.int .i64 0), (.int .i64 0), (.int .i64 0), (.int .i64 0), (.int .i64 0), (.int .i64 0), (.int .i64 0), (.int .i64 0), (.int .i64 0), (.int .i64 0), (.int .i64 0), (.int .i64 0), (.int .i64 0), (.int .i64 0), (.int .i64 0), (.int .i64 0), (.int .i64 0), (.int .i64 0), (.int .i64 0), (.int .i64 0), (.int .i64 0), (.int .i64 0), (.int .i64 0), (.int .i64 0), (.int .i64 0), (.int .i64 0), (.int .i64 0), (.int .i64 0), (.int .i64 0), (.int .i64 0), (.bool false), (.bool false), (.int .i64 0), (.bool false), (.int .i64 0), (.int .i64 0)]), [], none⟩, ⟨none, (.store 48), [(.t 6), (.t 18)], none⟩]) (.seq (.reg [⟨(some 19), (.fld 10), [(.t 6)], none⟩, ⟨(some 20), (.load 2 true), [(.t 19)], none⟩, ⟨(some 21), (.call 76), [(.t 20), (.c (.rv (.int .i64 0)))], none⟩, ⟨(some 7), .mv, [(.t 21)], none⟩]) (.seq (.seq (.reg [⟨(some 22), (.fld 10), [(.t 6)], none⟩, ⟨(some 23), (.fld 0), [(.t 22)], none⟩, ⟨(some 24), (.load 1 false), [(.t 23)], none⟩, ⟨(some 25), (.ibin .neq), [(.t 24), (.c (.rv (.int .i64 1)))], none⟩]) (.seq (.cond (.t 25) (.seq (.reg [⟨(some 26), .mv, [(.t 0)], none⟩, ⟨(some 27), .mv, [(.t 1)], none⟩, ⟨(some 28), (.call 27), [(.t 26), (.t 27)], none⟩, ⟨(some 29), .len, [(.t 28)], none⟩, ⟨(some 30), .mv, [(.c (.rv (.int .i64 0)))], none⟩]) (.seq (.block 0 (.loop (.seq (.reg [⟨(some 31), (.ibin .lss), [(.t 30), (.t 29)], none⟩]) (.seq (.cond (.t 31) .skip (.exit 0)) (.seq (.seq (.block 1 (.seq (.reg [⟨(some 32), (.ixs 1), [(.t 28), (.t 30)], none⟩, ⟨(some 33), (.load 1 false), [(.t 32)], none⟩, ⟨(some 9), .mv, [(.t 33)], none⟩]) (.seq (.reg [⟨(some 35), .mv, [(.t 0)], none⟩, ⟨(some 36), .mv, [(.t 9)], none⟩, ⟨(some 37), (.call 77), [(.t 35), (.t 36)], none⟩, ⟨(some 34), .mv, [(.t 37)], none⟩, ⟨(some 38), (.ext 0), [(.t 34)], none⟩, ⟨(some 39), (.ext 1), [(.t 34)], none⟩, ⟨(some 10), .mv, [(.t 38)], none⟩, ⟨(some 11), .mv, [(.t 39)], none⟩]) (.seq (.seq (.reg [⟨(some 40), .mv, [(.t 11)], none⟩, ⟨(some 41), .not, [(.t 40)], none⟩]) (.cond (.t 41) (.seq (.reg [⟨(some 4), .mv, [(.c (.rv (.int .i64 0)))], none⟩, ⟨(some 5), .mv, [(.c (.rv (.bool false)))], none⟩]) .ret) .skip)) (.reg [⟨(some 42), .mv, [(.t 7)], none⟩, ⟨(some 43), .mv, [(.t 10)], none⟩, ⟨(some 44), .mx, [(.t 42), (.t 43)], none⟩, ⟨(some 7), .mv, [(.t 44)], none⟩]))))) .ent) (.reg [⟨(some 45), (.ibin .add), [(.t 30), (.c (.rv (.int .i64 1)))], none⟩, ⟨(some 30), .mv, [(.t 45)], none⟩])))))) .ent)) .skip) .ent)) (.seq (.regd [0, 0, 2, 6, 0, 16, 62, 127, 255, 511] [⟨(some 46), .mv, [(.t 7)], none⟩, ⟨(some 47), (.fld 14), [(.t 6)], none⟩, ⟨(some 48), (.load 2 true), [(.t 47)], none⟩, ⟨(some 49), (.call 76), [(.t 48), (.c (.rv (.int .i64 0)))], none⟩, ⟨(some 50), (.fld 16), [(.t 6)], none⟩, ⟨(some 51), (.load 2 true), [(.t 50)], none⟩, ⟨(some 52), (.call 76), [(.t 51), (.c (.rv (.int .i64 1125899906842624)))], none⟩, ⟨(some 53), (.call 78), [(.t 46), (.t 49), (.t 52)], none⟩, ⟨(some 4), .mv, [(.t 53)], none⟩, ⟨(some 5), .mv, [(.c (.rv (.bool true)))], none⟩]) .ret))))))
theorem k_prefer_Content : FnOK Go.Proofs.Try.prog 52 54 c_prefer_Content [(.t 4), (.t 5)] := fnOK_of (by kernel_rfl)



/-- What is around a box, behind w: the first of it. -/
def outL (w : Int) (s : Sty) (k : Nat) : List Int := [w] ++ (if 0 < k then [unitsL s.margin.d 0, unitsL s.pad.d 0, s.border.d] else []) ++ (if 1 < k then [unitsL s.margin.b 0, unitsL s.pad.b 0, s.border.b] else [])
theorem outL_len {w : Int} {s : Sty} {k : Nat} (h : k ≤ 2) : (outL w s k).length = 1 + 3 * k := by
  have : k = 0 ∨ k = 1 ∨ k = 2 := by omega
  rcases this with rfl | rfl | rfl <;> rfl
theorem outL_0 {w : Int} {s : Sty} : rvs (intsL (outL w s 0)) ++ [[SV.rv (.int .i64 (unitsL s.margin.d 0))], [.rv (.int .i64 (unitsL s.pad.d 0))], [.rv (.int .i64 s.border.d)]] = rvs (intsL (outL w s 1)) := rfl
theorem outL_1 {w : Int} {s : Sty} : rvs (intsL (outL w s 1)) ++ [[SV.rv (.int .i64 (unitsL s.margin.b 0))], [.rv (.int .i64 (unitsL s.pad.b 0))], [.rv (.int .i64 s.border.b)]] = rvs (intsL (outL w s 2)) := rfl
theorem sty_mb (s : Sty) : ((s.cells.map SV.rv).drop 24).take 2 = [.rv (.int .i64 s.margin.b.kind), .rv (.int .i64 s.margin.b.n)] := rfl
theorem sty_md (s : Sty) : ((s.cells.map SV.rv).drop 28).take 2 = [.rv (.int .i64 s.margin.d.kind), .rv (.int .i64 s.margin.d.n)] := rfl
theorem sty_pb (s : Sty) : ((s.cells.map SV.rv).drop 32).take 2 = [.rv (.int .i64 s.pad.b.kind), .rv (.int .i64 s.pad.b.n)] := rfl
theorem sty_pd (s : Sty) : ((s.cells.map SV.rv).drop 36).take 2 = [.rv (.int .i64 s.pad.d.kind), .rv (.int .i64 s.pad.d.n)] := rfl
theorem sty_bb (s : Sty) : (s.cells.map SV.rv)[39]? = some (.rv (.int .i64 s.border.b)) := rfl
theorem sty_bd (s : Sty) : (s.cells.map SV.rv)[41]? = some (.rv (.int .i64 s.border.d)) := rfl
theorem sty_w2 (s : Sty) : ((s.cells.map SV.rv).drop 10).take 2 = [.rv (.int .i64 s.width.kind), .rv (.int .i64 s.width.n)] := rfl
theorem sty_lo (s : Sty) : ((s.cells.map SV.rv).drop 14).take 2 = [.rv (.int .i64 s.minW.kind), .rv (.int .i64 s.minW.n)] := rfl
theorem sty_hi (s : Sty) : ((s.cells.map SV.rv).drop 16).take 2 = [.rv (.int .i64 s.maxW.kind), .rv (.int .i64 s.maxW.n)] := rfl

set_option maxHeartbeats 2000000 in
theorem sp_outer (l : List Nd) (n : Int) (w : Int) (ok : Bool) (hC : CallR Go.Proofs.Try.prog 52 [.rv (kinV l), .rv (.int .i64 n)] [] [] (.tup [.rv (.int .i64 w), .rv (.bool ok)])) :
    CallR Go.Proofs.Try.prog 77 [.rv (kinV l), .rv (.int .i64 n)] [] [] (.tup [.rv (.int .i64 (sumV (outL w (styAt l n) 2))), .rv (.bool (ok && sumOK (outL w (styAt l n) 2)))]) := by
  refine callR_G k_prefer_outer [.rv (kinV l), .rv (.int .i64 n)] _ (by simp) (by simp [BkAll, bk_agg, bkAll_map, bk_rv, bk_fn, Sty.sv, Ln.sv, Nd.sv]) (fun K hK => ?_)
  have hst := sp_Style l n
  generalize styAt l n = s at *
  simp -implicitDefEqProofs only [c_prefer_outer, go_sem, ↓reduceIte, Nat.reduceEqDiff, Nat.reduceAdd, Nat.reduceSub, Nat.reduceMul, Nat.reduceLeDiff, Nat.reduceLT, reduceCtorEq, Int.reduceToNat]
  have hcall1 := hC; have hcall2 := hst; repeat' (first | (simp -implicitDefEqProofs only [go_sem, ↓reduceIte, Nat.reduceEqDiff, Nat.reduceAdd, Nat.reduceSub, Nat.reduceMul, Nat.reduceLeDiff, Nat.reduceLT, reduceCtorEq, Int.reduceToNat, sty_len]) | (with_reducible refine g_noent ?_) | (with_reducible refine g_call0 hcall1 ?_) | (with_reducible refine g_calld0 hcall1 ?_) | (with_reducible refine g_call0 hcall2 ?_) | (with_reducible refine g_calld0 hcall2 ?_) | (refine cdS (fun hg => ?_) (fun hg => ?_) <;> try simp -implicitDefEqProofs only [hg, Bool.not_true, Bool.not_false]) | (refine gdS (fun hg => ?_) (fun hg => ?_) <;> try simp -implicitDefEqProofs only [hg, Bool.not_true, Bool.not_false]) | (refine gddS (fun hg => ?_) (fun hg => ?_) <;> try simp -implicitDefEqProofs only [hg, Bool.not_true, Bool.not_false]) | ((with_reducible apply And.intro); focus (first | trivial | omega | decide | (simp -implicitDefEqProofs only [maxLen]; omega) | (simp [maxLen, sty_len, nd_len, ndL_len, lnL_len, intsL_len, rvs_len, lensS_len]; done) | (simp [maxLen, sty_len, nd_len, ndL_len, lnL_len, intsL_len, rvs_len, lensS_len]; omega) | (exact ⟨rfl, by decide⟩; done))) | fail)
  refine g_loop (ι := Nat) (fun k => [(27, .rv (.int .i64 k)), (26, .rv (.int .i64 (2 : Nat))), (25, .row 2 0 2), (9, .row 1 k (1 + 3 * k)), (8, .ptr 0 0), (6, .rv (.int .i64 w)), (7, .rv (.bool ok))]) (fun k => [some (.var (s.cells.map .rv)), some (.row 1 k (rvs (intsL (outL w s k)))), some (.row 1 0 [[.rv (.int .i64 3)], [.rv (.int .i64 1)]])]) (fun k => k ≤ 2) (fun k => 2 - k) 0 (by decide) (ent_env (by simp [lk])) (fun k hk K' hN hX hR => ?_)
  simp -implicitDefEqProofs only [go_sem, ↓reduceIte, Nat.reduceEqDiff, Nat.reduceAdd, Nat.reduceSub, Nat.reduceMul, Nat.reduceLeDiff, Nat.reduceLT, reduceCtorEq, Int.reduceToNat]
  refine cdS (fun hg => ?_) (fun hg => ?_)
  · have : k = 0 ∨ k = 1 := by simp at hg; omega
    rcases this with rfl | rfl
    · have h0l : (intsL (outL w s 0)).length = 1 := rfl
      have h0t : (intsL (outL w s 0)).take 1 = intsL (outL w s 0) := rfl
      have hcall3 := sp_units s.margin.d 0; have hcall4 := sp_units s.pad.d 0; repeat' (first | (simp -implicitDefEqProofs only [go_sem, ↓reduceIte, Nat.reduceEqDiff, Nat.reduceAdd, Nat.reduceSub, Nat.reduceMul, Nat.reduceLeDiff, Nat.reduceLT, reduceCtorEq, Int.reduceToNat, wrap_up (k := 0) (by decide), sty_md, sty_pd, sty_bd, sty_len, outL_0, h0l, h0t]) | (with_reducible refine g_noent ?_) | (with_reducible refine g_call0 hcall3 ?_) | (with_reducible refine g_calld0 hcall3 ?_) | (with_reducible refine g_call0 hcall4 ?_) | (with_reducible refine g_calld0 hcall4 ?_) | (refine cdS (fun hg => ?_) (fun hg => ?_) <;> try simp -implicitDefEqProofs only [hg, Bool.not_true, Bool.not_false]) | (refine gdS (fun hg => ?_) (fun hg => ?_) <;> try simp -implicitDefEqProofs only [hg, Bool.not_true, Bool.not_false]) | (refine gddS (fun hg => ?_) (fun hg => ?_) <;> try simp -implicitDefEqProofs only [hg, Bool.not_true, Bool.not_false]) | ((with_reducible apply And.intro); focus (first | trivial | omega | decide | (simp -implicitDefEqProofs only [maxLen]; omega) | (simp [maxLen, sty_len, nd_len, ndL_len, lnL_len, intsL_len, rvs_len, lensS_len]; done) | (simp [maxLen, sty_len, nd_len, ndL_len, lnL_len, intsL_len, rvs_len, lensS_len]; omega) | (exact ⟨rfl, by decide⟩; done))) | fail)
      exact hN 1 _ _ (by decide) (by decide) (ent_tail (h' := [some (.var (s.cells.map .rv)), some (.row 1 1 (rvs (intsL (outL w s 1)))), some (.row 1 0 [[.rv (.int .i64 3)], [.rv (.int .i64 1)]])]) (by simp) ⟨clA_map, clH_rvs, clH_rvs (xs := [[.int .i64 3], [.int .i64 1]]), trivial⟩ (by simp [ClEnv, lk, clS_rv, clS_row, clS_ptr]))
    · have h0l : (intsL (outL w s 1)).length = 4 := rfl
      have h0t : (intsL (outL w s 1)).take 4 = intsL (outL w s 1) := rfl
      have hcall5 := sp_units s.margin.b 0; have hcall6 := sp_units s.pad.b 0; repeat' (first | (simp -implicitDefEqProofs only [go_sem, ↓reduceIte, Nat.reduceEqDiff, Nat.reduceAdd, Nat.reduceSub, Nat.reduceMul, Nat.reduceLeDiff, Nat.reduceLT, reduceCtorEq, Int.reduceToNat, wrap_up (k := 1) (by decide), sty_mb, sty_pb, sty_bb, sty_len, outL_1, h0l, h0t]) | (with_reducible refine g_noent ?_) | (with_reducible refine g_call0 hcall5 ?_) | (with_reducible refine g_calld0 hcall5 ?_) | (with_reducible refine g_call0 hcall6 ?_) | (with_reducible refine g_calld0 hcall6 ?_) | (refine cdS (fun hg => ?_) (fun hg => ?_) <;> try simp -implicitDefEqProofs only [hg, Bool.not_true, Bool.not_false]) | (refine gdS (fun hg => ?_) (fun hg => ?_) <;> try simp -implicitDefEqProofs only [hg, Bool.not_true, Bool.not_false]) | (refine gddS (fun hg => ?_) (fun hg => ?_) <;> try simp -implicitDefEqProofs only [hg, Bool.not_true, Bool.not_false]) | ((with_reducible apply And.intro); focus (first | trivial | omega | decide | (simp -implicitDefEqProofs only [maxLen]; omega) | (simp [maxLen, sty_len, nd_len, ndL_len, lnL_len, intsL_len, rvs_len, lensS_len]; done) | (simp [maxLen, sty_len, nd_len, ndL_len, lnL_len, intsL_len, rvs_len, lensS_len]; omega) | (exact ⟨rfl, by decide⟩; done))) | fail)
      exact hN 2 _ _ (by decide) (by decide) (ent_tail (h' := [some (.var (s.cells.map .rv)), some (.row 1 2 (rvs (intsL (outL w s 2)))), some (.row 1 0 [[.rv (.int .i64 3)], [.rv (.int .i64 1)]])]) (by simp) ⟨clA_map, clH_rvs, clH_rvs (xs := [[.int .i64 3], [.int .i64 1]]), trivial⟩ (by simp [ClEnv, lk, clS_rv, clS_row, clS_ptr]))
  · obtain rfl : k = 2 := by simp at hg; omega
    simp -implicitDefEqProofs only [go_sem, ↓reduceIte, Nat.reduceEqDiff, Nat.reduceAdd, Nat.reduceSub, Nat.reduceMul, Nat.reduceLeDiff, Nat.reduceLT, reduceCtorEq, Int.reduceToNat]
    refine hX _ _ _ ?_
    have hsum := sp_fix_Sum (outL w s 2) (by rw [outL_len (by decide)]; decide)
    have hq := lend1t (id := 1) (v := 2) (n := 7) (bs := []) (rs := [.int .i64 (sumV (outL w s 2)), .bool (sumOK (outL w s 2))]) hsum (by simp; exact ⟨.int _ _, .bool _⟩) (by rw [intsL_len, outL_len (by decide)]) (intsL_one _)
    cases ok with
    | false =>
      have hcall7 := hq; repeat' (first | (simp -implicitDefEqProofs only [go_sem, ↓reduceIte, Nat.reduceEqDiff, Nat.reduceAdd, Nat.reduceSub, Nat.reduceMul, Nat.reduceLeDiff, Nat.reduceLT, reduceCtorEq, Int.reduceToNat]) | (with_reducible refine g_noent ?_) | (refine g_call hcall7 (by simp [PreOK, hget]; done) (by simp [okU, uph]; done) ?_) | (refine g_calld hcall7 (by simp [PreOK, hget]; done) (by simp [okU, uph]; done) ?_) | (refine cdS (fun hg => ?_) (fun hg => ?_) <;> try simp -implicitDefEqProofs only [hg, Bool.not_true, Bool.not_false]) | (refine gdS (fun hg => ?_) (fun hg => ?_) <;> try simp -implicitDefEqProofs only [hg, Bool.not_true, Bool.not_false]) | (refine gddS (fun hg => ?_) (fun hg => ?_) <;> try simp -implicitDefEqProofs only [hg, Bool.not_true, Bool.not_false]) | ((with_reducible apply And.intro); focus (first | trivial | omega | decide | (simp -implicitDefEqProofs only [maxLen]; omega) | (simp [maxLen, sty_len, nd_len, ndL_len, lnL_len, intsL_len, rvs_len, lensS_len]; done) | (simp [maxLen, sty_len, nd_len, ndL_len, lnL_len, intsL_len, rvs_len, lensS_len]; omega))) | fail)
      refine (hK _ _ ?_).2
      exact ret_t2 (by simp [lk]) (by simp [lk])
    | true =>
      have hcall8 := hq; repeat' (first | (simp -implicitDefEqProofs only [go_sem, ↓reduceIte, Nat.reduceEqDiff, Nat.reduceAdd, Nat.reduceSub, Nat.reduceMul, Nat.reduceLeDiff, Nat.reduceLT, reduceCtorEq, Int.reduceToNat]) | (with_reducible refine g_noent ?_) | (refine g_call hcall8 (by simp [PreOK, hget]; done) (by simp [okU, uph]; done) ?_) | (refine g_calld hcall8 (by simp [PreOK, hget]; done) (by simp [okU, uph]; done) ?_) | (refine cdS (fun hg => ?_) (fun hg => ?_) <;> try simp -implicitDefEqProofs only [hg, Bool.not_true, Bool.not_false]) | (refine gdS (fun hg => ?_) (fun hg => ?_) <;> try simp -implicitDefEqProofs only [hg, Bool.not_true, Bool.not_false]) | (refine gddS (fun hg => ?_) (fun hg => ?_) <;> try simp -implicitDefEqProofs only [hg, Bool.not_true, Bool.not_false]) | ((with_reducible apply And.intro); focus (first | trivial | omega | decide | (simp -implicitDefEqProofs only [maxLen]; omega) | (simp [maxLen, sty_len, nd_len, ndL_len, lnL_len, intsL_len, rvs_len, lensS_len]; done) | (simp [maxLen, sty_len, nd_len, ndL_len, lnL_len, intsL_len, rvs_len, lensS_len]; omega))) | fail)
      refine (hK _ _ ?_).2
      exact ret_t2 (by simp [lk]) (by simp [lk])

def mxI (w x : Int) : Int := if x > w then x else w
def goF (l : List Nd) (g : Nat → Int × Bool) : List Nat → Int → Option Int
  | [], w => some w
  | m :: r, w => if ((g m).2 && sumOK (outL (g m).1 (styAt l m) 2)) = true then goF l g r (mxI w (outL (g m).1 (styAt l m) 2).sum) else none
/-- What a box's content prefers; n: more than enough. -/
def contentF (l : List Nd) : Nat → Int → Int × Bool
  | 0, _ => (0, false)
  | f + 1, n => if madeAt l n = false then (0, false) else match goF l (fun m => contentF l f m) (if (styAt l n).width.kind = 1 then [] else flowAt l n) (unitsL (styAt l n).width 0) with
    | some w => (clampI w (unitsL (styAt l n).minW 0) (unitsL (styAt l n).maxW 1125899906842624), true)
    | none => (0, false)
theorem content_no {l : List Nd} {n : Int} (h : madeAt l n = false) : ∀ f, contentF l f n = (0, false)
  | 0 => rfl
  | f + 1 => by simp [contentF, h]
theorem flow_gt {l : List Nd} (hs : Shp l) {n : Int} {m : Nat} (h : m ∈ flowAt l n) : n < m ∧ m < l.length := by
  have h := (List.mem_filter.1 h).1
  unfold kidsAt at h
  split at h
  · rename_i hin
    obtain ⟨k, rfl, hk⟩ := inL_nat hin
    obtain ⟨h1, h2, h3⟩ := mem_kids.1 h
    have := hs.up m h1 h2
    simp -implicitDefEqProofs only [Int.toNat_natCast] at h3
    omega
  · simp at h
theorem flow_len (l : List Nd) (n : Int) : (flowAt l n).length ≤ l.length := by
  have h1 := List.length_filter_le (fun (m : Nat) => stayAt l m) (kidsAt l n)
  have h2 := kidsAt_len l n
  unfold flowAt; omega
theorem goF_drop {l : List Nd} {g : Nat → Int × Bool} {xs : List Nat} {i : Nat} (h : i < xs.length) (w : Int) : goF l g (xs.drop i) w = if ((g xs[i]).2 && sumOK (outL (g xs[i]).1 (styAt l xs[i]) 2)) = true then goF l g (xs.drop (i + 1)) (mxI w (outL (g xs[i]).1 (styAt l xs[i]) 2).sum) else none := by
  rw [List.drop_eq_getElem_cons h]; rfl

set_option maxHeartbeats 4000000 in
theorem sp_Content (l : List Nd) (hs : Shp l) (hb : l.length ≤ 8589934592) : ∀ (f : Nat) (n : Int), (l.length : Int) < n + f → CallR Go.Proofs.Try.prog 52 [.rv (kinV l), .rv (.int .i64 n)] [] [] (.tup [.rv (.int .i64 (contentF l f n).1), .rv (.bool (contentF l f n).2)]) := by
  intro f
  induction f with
  | zero =>
    intro n hn
    have hmm : madeAt l n = false := by
      have : inL l n = false := by simp [inL]; omega
      simp [madeAt, this]
    have hm := sp_Made l n
    rw [hmm] at hm
    rw [content_no hmm]
    refine callR_G k_prefer_Content [.rv (kinV l), .rv (.int .i64 n)] _ (by simp) (by simp [BkAll, bk_agg, bkAll_map, bk_rv, bk_fn, Sty.sv, Ln.sv, Nd.sv]) (fun K hK => ?_)
    simp -implicitDefEqProofs only [c_prefer_Content, go_sem, ↓reduceIte, Nat.reduceEqDiff, Nat.reduceAdd, Nat.reduceSub, Nat.reduceMul, Nat.reduceLeDiff, Nat.reduceLT, reduceCtorEq, Int.reduceToNat]
    have hcall9 := hm; repeat' (first | (simp -implicitDefEqProofs only [go_sem, ↓reduceIte, Nat.reduceEqDiff, Nat.reduceAdd, Nat.reduceSub, Nat.reduceMul, Nat.reduceLeDiff, Nat.reduceLT, reduceCtorEq, Int.reduceToNat]) | (with_reducible refine g_noent ?_) | (with_reducible refine g_call0 hcall9 ?_) | (with_reducible refine g_calld0 hcall9 ?_) | (refine cdS (fun hg => ?_) (fun hg => ?_) <;> try simp -implicitDefEqProofs only [hg, Bool.not_true, Bool.not_false]) | (refine gdS (fun hg => ?_) (fun hg => ?_) <;> try simp -implicitDefEqProofs only [hg, Bool.not_true, Bool.not_false]) | (refine gddS (fun hg => ?_) (fun hg => ?_) <;> try simp -implicitDefEqProofs only [hg, Bool.not_true, Bool.not_false]) | ((with_reducible apply And.intro); focus (first | trivial | omega | decide | (simp -implicitDefEqProofs only [maxLen]; omega) | (simp [maxLen, sty_len, nd_len, ndL_len, lnL_len, intsL_len, rvs_len, lensS_len]; done) | (simp [maxLen, sty_len, nd_len, ndL_len, lnL_len, intsL_len, rvs_len, lensS_len]; omega))) | fail)
    exact (hK _ _ (ret_t2 rfl rfl)).2
  | succ f ih =>
    intro n hn
    have hm := sp_Made l n
    cases hmm : madeAt l n with
    | false =>
      rw [hmm] at hm
      rw [content_no hmm]
      refine callR_G k_prefer_Content [.rv (kinV l), .rv (.int .i64 n)] _ (by simp) (by simp [BkAll, bk_agg, bkAll_map, bk_rv, bk_fn, Sty.sv, Ln.sv, Nd.sv]) (fun K hK => ?_)
      simp -implicitDefEqProofs only [c_prefer_Content, go_sem, ↓reduceIte, Nat.reduceEqDiff, Nat.reduceAdd, Nat.reduceSub, Nat.reduceMul, Nat.reduceLeDiff, Nat.reduceLT, reduceCtorEq, Int.reduceToNat]
      have hcall10 := hm; repeat' (first | (simp -implicitDefEqProofs only [go_sem, ↓reduceIte, Nat.reduceEqDiff, Nat.reduceAdd, Nat.reduceSub, Nat.reduceMul, Nat.reduceLeDiff, Nat.reduceLT, reduceCtorEq, Int.reduceToNat]) | (with_reducible refine g_noent ?_) | (with_reducible refine g_call0 hcall10 ?_) | (with_reducible refine g_calld0 hcall10 ?_) | (refine cdS (fun hg => ?_) (fun hg => ?_) <;> try simp -implicitDefEqProofs only [hg, Bool.not_true, Bool.not_false]) | (refine gdS (fun hg => ?_) (fun hg => ?_) <;> try simp -implicitDefEqProofs only [hg, Bool.not_true, Bool.not_false]) | (refine gddS (fun hg => ?_) (fun hg => ?_) <;> try simp -implicitDefEqProofs only [hg, Bool.not_true, Bool.not_false]) | ((with_reducible apply And.intro); focus (first | trivial | omega | decide | (simp -implicitDefEqProofs only [maxLen]; omega) | (simp [maxLen, sty_len, nd_len, ndL_len, lnL_len, intsL_len, rvs_len, lensS_len]; done) | (simp [maxLen, sty_len, nd_len, ndL_len, lnL_len, intsL_len, rvs_len, lensS_len]; omega))) | fail)
      exact (hK _ _ (ret_t2 rfl rfl)).2
    | true =>
      rw [hmm] at hm
      refine callR_G k_prefer_Content [.rv (kinV l), .rv (.int .i64 n)] _ (by simp) (by simp [BkAll, bk_agg, bkAll_map, bk_rv, bk_fn, Sty.sv, Ln.sv, Nd.sv]) (fun K hK => ?_)
      have hst := sp_Style l n
      have hfl := sp_FlowP l n hb
      have hv : contentF l (f + 1) n = match goF l (fun m => contentF l f m) (if (styAt l n).width.kind = 1 then [] else flowAt l n) (unitsL (styAt l n).width 0) with
        | some w => (clampI w (unitsL (styAt l n).minW 0) (unitsL (styAt l n).maxW 1125899906842624), true)
        | none => (0, false) := by simp [contentF, hmm]
      rw [hv] at hK
      have hgt := fun m => flow_gt (n := n) (m := m) hs
      have hfn := flow_len l n
      generalize styAt l n = s at *
      simp -implicitDefEqProofs only [c_prefer_Content, go_sem, ↓reduceIte, Nat.reduceEqDiff, Nat.reduceAdd, Nat.reduceSub, Nat.reduceMul, Nat.reduceLeDiff, Nat.reduceLT, reduceCtorEq, Int.reduceToNat]
      by_cases hw : s.width.kind = 1
      · have e1 : (s.width.kind != 1) = false := by simp [hw]
        rw [if_pos hw] at hK
        simp -implicitDefEqProofs only [goF] at hK
        have hcall11 := hm; have hcall12 := hst; have hcall13 := sp_units s.width 0; have hcall14 := sp_units s.minW 0; have hcall15 := sp_units s.maxW 1125899906842624; have hcall16 := sp_fix_Clamp (unitsL s.width 0) (unitsL s.minW 0) (unitsL s.maxW 1125899906842624); repeat' (first | (simp -implicitDefEqProofs only [go_sem, ↓reduceIte, Nat.reduceEqDiff, Nat.reduceAdd, Nat.reduceSub, Nat.reduceMul, Nat.reduceLeDiff, Nat.reduceLT, reduceCtorEq, Int.reduceToNat, sty_len, sty_w2, sty_at10, sty_lo, sty_hi, e1]) | (with_reducible refine g_noent ?_) | (with_reducible refine g_call0 hcall11 ?_) | (with_reducible refine g_calld0 hcall11 ?_) | (with_reducible refine g_call0 hcall12 ?_) | (with_reducible refine g_calld0 hcall12 ?_) | (with_reducible refine g_call0 hcall13 ?_) | (with_reducible refine g_calld0 hcall13 ?_) | (with_reducible refine g_call0 hcall14 ?_) | (with_reducible refine g_calld0 hcall14 ?_) | (with_reducible refine g_call0 hcall15 ?_) | (with_reducible refine g_calld0 hcall15 ?_) | (with_reducible refine g_call0 hcall16 ?_) | (with_reducible refine g_calld0 hcall16 ?_) | (refine cdS (fun hg => ?_) (fun hg => ?_) <;> try simp -implicitDefEqProofs only [hg, Bool.not_true, Bool.not_false]) | (refine gdS (fun hg => ?_) (fun hg => ?_) <;> try simp -implicitDefEqProofs only [hg, Bool.not_true, Bool.not_false]) | (refine gddS (fun hg => ?_) (fun hg => ?_) <;> try simp -implicitDefEqProofs only [hg, Bool.not_true, Bool.not_false]) | ((with_reducible apply And.intro); focus (first | trivial | omega | decide | (simp -implicitDefEqProofs only [maxLen]; omega) | (simp [maxLen, sty_len, nd_len, ndL_len, lnL_len, intsL_len, rvs_len, lensS_len]; done) | (simp [maxLen, sty_len, nd_len, ndL_len, lnL_len, intsL_len, rvs_len, lensS_len]; omega) | (exact ⟨rfl, by decide⟩; done))) | fail)
        exact (hK _ _ (ret_t2 rfl rfl)).2
      · have e1 : (s.width.kind != 1) = true := by simp [hw]
        rw [if_neg hw] at hK
        generalize hX : flowAt l n = X at *
        have hln := nats_ln X
        have hcall17 := hm; have hcall18 := hst; have hcall19 := hfl; have hcall20 := sp_units s.width 0; repeat' (first | (simp -implicitDefEqProofs only [go_sem, ↓reduceIte, Nat.reduceEqDiff, Nat.reduceAdd, Nat.reduceSub, Nat.reduceMul, Nat.reduceLeDiff, Nat.reduceLT, reduceCtorEq, Int.reduceToNat, hln, sty_len, sty_w2, sty_at10, e1]) | (with_reducible refine g_noent ?_) | (with_reducible refine g_call0 hcall17 ?_) | (with_reducible refine g_calld0 hcall17 ?_) | (with_reducible refine g_call0 hcall18 ?_) | (with_reducible refine g_calld0 hcall18 ?_) | (with_reducible refine g_call0 hcall19 ?_) | (with_reducible refine g_calld0 hcall19 ?_) | (with_reducible refine g_call0 hcall20 ?_) | (with_reducible refine g_calld0 hcall20 ?_) | (refine cdS (fun hg => ?_) (fun hg => ?_) <;> try simp -implicitDefEqProofs only [hg, Bool.not_true, Bool.not_false]) | (refine gdS (fun hg => ?_) (fun hg => ?_) <;> try simp -implicitDefEqProofs only [hg, Bool.not_true, Bool.not_false]) | (refine gddS (fun hg => ?_) (fun hg => ?_) <;> try simp -implicitDefEqProofs only [hg, Bool.not_true, Bool.not_false]) | ((with_reducible apply And.intro); focus (first | trivial | omega | decide | (simp -implicitDefEqProofs only [maxLen]; omega) | (simp [maxLen, sty_len, nd_len, ndL_len, lnL_len, intsL_len, rvs_len, lensS_len]; done) | (simp [maxLen, sty_len, nd_len, ndL_len, lnL_len, intsL_len, rvs_len, lensS_len]; omega) | (exact ⟨rfl, by decide⟩; done))) | fail)
        refine g_loop (ι := Nat × Int) (fun q => [(30, .rv (.int .i64 q.1)), (29, .rv (.int .i64 X.length)), (28, .rv (.sl 1 (intsL (natsI X)))), (6, .ptr 0 0), (7, .rv (.int .i64 q.2)), (0, .rv (kinV l))]) (fun _ => [some (.var (s.cells.map .rv))]) (fun q => q.1 ≤ X.length ∧ goF l (fun m => contentF l f m) (X.drop q.1) q.2 = goF l (fun m => contentF l f m) X (unitsL s.width 0)) (fun q => X.length - q.1) (0, unitsL s.width 0) ⟨by simp, rfl⟩ (ent_env (by simp [lk])) (fun q hq K' hN hX' hR => ?_)
        obtain ⟨i, w⟩ := q
        obtain ⟨q1, q2⟩ := hq
        dsimp only at q1 q2 ⊢
        simp -implicitDefEqProofs only [go_sem, ↓reduceIte, Nat.reduceEqDiff, Nat.reduceAdd, Nat.reduceSub, Nat.reduceMul, Nat.reduceLeDiff, Nat.reduceLT, reduceCtorEq, Int.reduceToNat]
        refine cdS (fun hg => ?_) (fun hg => ?_)
        · have hi4 : i < X.length := by simp at hg; omega
          have wu := wrap_up (k := i) (by omega)
          have hx := nats_at hi4
          have hd := goF_drop (l := l) (g := fun m => contentF l f m) hi4 w
          have hmn := hgt X[i] (List.getElem_mem hi4)
          have hC := ih (X[i] : Nat) (by omega)
          have hO := sp_outer l (X[i] : Nat) _ _ hC
          rw [atI_lt hi4] at hx
          generalize contentF l f (X[i] : Nat) = c at hd hO
          cases hok : (c.2 && sumOK (outL c.1 (styAt l (X[i] : Nat)) 2)) with
          | false =>
            rw [hok] at hd hO
            simp -implicitDefEqProofs only [Bool.false_eq_true, if_false] at hd
            rw [q2.symm.trans hd] at hK
            have hcall21 := hO; repeat' (first | (simp -implicitDefEqProofs only [go_sem, ↓reduceIte, Nat.reduceEqDiff, Nat.reduceAdd, Nat.reduceSub, Nat.reduceMul, Nat.reduceLeDiff, Nat.reduceLT, reduceCtorEq, Int.reduceToNat, hx, hln, wu]) | (with_reducible refine g_noent ?_) | (with_reducible refine g_call0 hcall21 ?_) | (with_reducible refine g_calld0 hcall21 ?_) | (refine cdS (fun hg => ?_) (fun hg => ?_) <;> try simp -implicitDefEqProofs only [hg, Bool.not_true, Bool.not_false]) | (refine gdS (fun hg => ?_) (fun hg => ?_) <;> try simp -implicitDefEqProofs only [hg, Bool.not_true, Bool.not_false]) | (refine gddS (fun hg => ?_) (fun hg => ?_) <;> try simp -implicitDefEqProofs only [hg, Bool.not_true, Bool.not_false]) | ((with_reducible apply And.intro); focus (first | trivial | omega | decide | (simp -implicitDefEqProofs only [maxLen]; omega) | (simp [maxLen, sty_len, nd_len, ndL_len, lnL_len, intsL_len, rvs_len, lensS_len]; done) | (simp [maxLen, sty_len, nd_len, ndL_len, lnL_len, intsL_len, rvs_len, lensS_len]; omega))) | fail)
            exact hR _ _ (hK _ _ (ret_t2 rfl rfl)).2
          | true =>
            rw [hok] at hd hO
            simp -implicitDefEqProofs only [if_true] at hd
            have hso : sumV (outL c.1 (styAt l (X[i] : Nat)) 2) = (outL c.1 (styAt l (X[i] : Nat)) 2).sum := by
              simp -implicitDefEqProofs only [Bool.and_eq_true] at hok; simp [sumV, hok.2]
            rw [hso] at hO
            have hcall22 := hO; repeat' (first | (simp -implicitDefEqProofs only [go_sem, ↓reduceIte, Nat.reduceEqDiff, Nat.reduceAdd, Nat.reduceSub, Nat.reduceMul, Nat.reduceLeDiff, Nat.reduceLT, reduceCtorEq, Int.reduceToNat, hx, hln, wu]) | (with_reducible refine g_noent ?_) | (with_reducible refine g_call0 hcall22 ?_) | (with_reducible refine g_calld0 hcall22 ?_) | (refine cdS (fun hg => ?_) (fun hg => ?_) <;> try simp -implicitDefEqProofs only [hg, Bool.not_true, Bool.not_false]) | (refine gdS (fun hg => ?_) (fun hg => ?_) <;> try simp -implicitDefEqProofs only [hg, Bool.not_true, Bool.not_false]) | (refine gddS (fun hg => ?_) (fun hg => ?_) <;> try simp -implicitDefEqProofs only [hg, Bool.not_true, Bool.not_false]) | ((with_reducible apply And.intro); focus (first | trivial | omega | decide | (simp -implicitDefEqProofs only [maxLen]; omega) | (simp [maxLen, sty_len, nd_len, ndL_len, lnL_len, intsL_len, rvs_len, lensS_len]; done) | (simp [maxLen, sty_len, nd_len, ndL_len, lnL_len, intsL_len, rvs_len, lensS_len]; omega))) | fail)
            exact hN (i + 1, mxI w (outL c.1 (styAt l (X[i] : Nat)) 2).sum) _ _ ⟨by dsimp only; omega, by dsimp only; rw [← hd]; exact q2⟩ (by dsimp only; omega) (ent_env (by simp [lk, mxI]))
        · have hi4 : i = X.length := by simp at hg; omega
          subst hi4
          rw [List.drop_length] at q2
          simp -implicitDefEqProofs only [goF] at q2
          rw [← q2] at hK
          simp -implicitDefEqProofs only [go_sem, ↓reduceIte, Nat.reduceEqDiff, Nat.reduceAdd, Nat.reduceSub, Nat.reduceMul, Nat.reduceLeDiff, Nat.reduceLT, reduceCtorEq, Int.reduceToNat]
          refine hX' _ _ _ ?_
          have hcall23 := sp_units s.minW 0; have hcall24 := sp_units s.maxW 1125899906842624; have hcall25 := sp_fix_Clamp w (unitsL s.minW 0) (unitsL s.maxW 1125899906842624); repeat' (first | (simp -implicitDefEqProofs only [go_sem, ↓reduceIte, Nat.reduceEqDiff, Nat.reduceAdd, Nat.reduceSub, Nat.reduceMul, Nat.reduceLeDiff, Nat.reduceLT, reduceCtorEq, Int.reduceToNat, sty_len, sty_lo, sty_hi]) | (with_reducible refine g_noent ?_) | (with_reducible refine g_call0 hcall23 ?_) | (with_reducible refine g_calld0 hcall23 ?_) | (with_reducible refine g_call0 hcall24 ?_) | (with_reducible refine g_calld0 hcall24 ?_) | (with_reducible refine g_call0 hcall25 ?_) | (with_reducible refine g_calld0 hcall25 ?_) | (refine cdS (fun hg => ?_) (fun hg => ?_) <;> try simp -implicitDefEqProofs only [hg, Bool.not_true, Bool.not_false]) | (refine gdS (fun hg => ?_) (fun hg => ?_) <;> try simp -implicitDefEqProofs only [hg, Bool.not_true, Bool.not_false]) | (refine gddS (fun hg => ?_) (fun hg => ?_) <;> try simp -implicitDefEqProofs only [hg, Bool.not_true, Bool.not_false]) | ((with_reducible apply And.intro); focus (first | trivial | omega | decide | (simp -implicitDefEqProofs only [maxLen]; omega) | (simp [maxLen, sty_len, nd_len, ndL_len, lnL_len, intsL_len, rvs_len, lensS_len]; done) | (simp [maxLen, sty_len, nd_len, ndL_len, lnL_len, intsL_len, rvs_len, lensS_len]; omega) | (exact ⟨rfl, by decide⟩; done))) | fail)
          exact (hK _ _ (ret_t2 rfl rfl)).2
end Go.Eng

/- prefer: the document's function. -/
namespace Go.Eng
open Go
/- decoupage/decoupageref15.Content -/
def c_decoupageref15_Content : AC := (.seq (.reg [⟨(some 4), .mv, [(.c (.rv (.int .i64 0)))], none⟩, ⟨(some 5), .mv, [(.c (.rv (.bool false)))], none⟩]) (.seq (.seq (.reg [⟨(some 15), .mv, [(.t 0)], none⟩, ⟨(some 16), .mv, [(.t 1)], none⟩, ⟨(some 17), (.call 60), [(.t 15), (.t 16)], none⟩, ⟨(some 18), .not, [(.t 17)], none⟩]) (.cond (.t 18) (.seq (.reg [⟨(some 4), .mv, [(.c (.rv (.int .i64 0)))], none⟩, ⟨(some 5), .mv, [(.c (.rv (.bool false)))], none⟩]) .ret) .skip)) (.seq (.reg [⟨(some 19), .mv, [(.t 0)], none⟩, ⟨(some 20), .mv, [(.t 1)], none⟩, ⟨(some 21), (.ixs 49), [(.t 19), (.t 20)], none⟩, ⟨(some 22), (.fld 0), [(.t 21)], none⟩, ⟨(some 23), (.load 48 true), [(.t 22)], none⟩, ⟨(some 6), (.alloc [(.bool false), (.int .i64 0), (.int .i64 0), (.int .i64 0), (.int .i64 0), (.int .i64 0), (.int .i64 0), (.int .i64 0), (.int .i64 0), (.int .i64 0), (.int .i64 0), (.int .i64 0), (.int .i64 0), (.int .i64 0), (.int .i64 0), (.int .i64 0), (.int .i64 0), (.int .i64 0), (.int .i64 0), (.int .i64 0), (.int .i64 0), (.int .i64 0), (.int .i64 0), (.int .i64 0), (.int .i64 0), (.int .i64 0), (.int .i64 0), (.int .i64 0), (.int .i64 0), (.int .i64 0), (.int .i64 0), (.int .i64 0), (.int .i64 0), (.int .i64 0), (.int .i64 0), (.int .i64 0), (.int .i64 0), (.int .i64 0), (.int .i64 0), (.int .i64 0), (.int .i64 0), (.int .i64 0), (.bool false), (.bool false), (.int .i64 0), (.bool false), (.int .i64 0), (.int .i64 0)]), [], none⟩, ⟨none, (.store 48), [(.t 6), (.t 23)], none⟩]) (.seq (.reg [⟨(some 7), .mv, [(.c (.rv (.int .i64 0)))], none⟩]) (.seq (.reg [⟨(some 24), .mv, [(.t 0)], none⟩, ⟨(some 25), .mv, [(.t 1)], none⟩, ⟨(some 26), (.call 71), [(.t 24), (.t 25)], none⟩, ⟨(some 8), .mv, [(.t 26)], none⟩]) (.seq (.seq (.reg [⟨(some 27), (.fld 10), [(.t 6)], none⟩, ⟨(some 28), (.fld 0), [(.t 27)], none⟩, ⟨(some 29), (.load 1 false), [(.t 28)], none⟩, ⟨(some 30), (.ibin .eql), [(.t 29), (.c (.rv (.int .i64 1)))], none⟩]) (.seq (.cond (.t 30) (.reg [⟨(some 31), (.fld 10), [(.t 6)], none⟩, ⟨(some 32), (.fld 1), [(.t 31)], none⟩, ⟨(some 33), (.load 1 false), [(.t 32)], none⟩, ⟨(some 7), .mv, [(.t 33)], none⟩, ⟨(some 8), .mv, [(.c (.rv .nilsl))], none⟩]) .skip) .ent)) (.seq (.seq (.reg [⟨(some 34), .mv, [(.t 8)], none⟩, ⟨(some 35), .len, [(.t 34)], none⟩, ⟨(some 36), .mv, [(.c (.rv (.int .i64 0)))], none⟩]) (.seq (.block 0 (.loop (.seq (.reg [⟨(some 37), (.ibin .lss), [(.t 36), (.t 35)], none⟩]) (.seq (.cond (.t 37) .skip (.exit 0)) (.seq (.seq (.block 1 (.seq (.reg [⟨(some 38), .mv, [(.t 36)], none⟩, ⟨(some 9), .mv, [(.t 38)], none⟩]) (.seq (.reg [⟨(some 39), .mv, [(.t 0)], none⟩, ⟨(some 40), .mv, [(.t 8)], none⟩, ⟨(some 41), .mv, [(.t 9)], none⟩, ⟨(some 42), (.ixs 1), [(.t 40), (.t 41)], none⟩, ⟨(some 43), (.load 1 false), [(.t 42)], none⟩, ⟨(some 44), (.ixs 49), [(.t 39), (.t 43)], none⟩, ⟨(some 45), (.fld 0), [(.t 44)], none⟩, ⟨(some 46), (.load 48 true), [(.t 45)], none⟩, ⟨(some 10), (.alloc [(.bool false), (.int .i64 0), (.int .i64 0), (.int .i64 0), (.int .i64 0), (.int .i64 0), (.int .i64 0), (.int .i64 0), (.int .i64 0), (.int .i64 0), (.int .i64 0), (.int .i64 0), (.int .i64 0), (.int .i64 0), (.int .i64 0), (.int .i64 0), (.int .i64 0), (.int .i64 0), (.int .i64 0), (.int .i64 0), (.int .i64 0), (.int .i64 0), (.int .i64 0), (.int .i64 0), (.int .i64 0), (.int .i64 0), (.int .i64 0), (.int .i64 0), (.int .i64 0), (.int .i64 0), (.int .i64 0), (.int .i64 0), (.int .i64 0), (.int .i64 0), (.int .i64 0), (.int .i64 0), (.int .i64 0), (.int .i64 0), (.int .i64 0), (.int .i64 0), (.int .i64 0), (.int .i64 0), (.bool false), (.bool false), (.int .i64 0), (.bool false), (.int .i64 0), (.int .i64 0)]), [], none⟩, ⟨none, (.store 48), [(.t 10), (.t 46)], none⟩]) (.seq (.reg [⟨(some 48), .mv, [(.t 0)], none⟩, ⟨(some 49), .mv, [(.t 8)], none⟩, ⟨(some 50), .mv, [(.t 9)], none⟩, ⟨(some 51), (.ixs 1), [(.t 49), (.t 50)], none⟩, ⟨(some 52), (.load 1 false), [(.t 51)], none⟩, ⟨(some 53), (.call 53), [(.t 48), (.t 52)], none⟩, ⟨(some 47), .mv, [(.t 53)], none⟩, ⟨(some 54), (.ext 0), [(.t 47)], none⟩, ⟨(some 55), (.ext 1), [(.t 47)], none⟩, ⟨(some 11), .mv, [(.t 54)], none⟩, ⟨(some 12), .mv, [(.t 55)], none⟩]) (.seq (.regd [0, 1, 3, 7, 0, 16, 48, 0, 128, 384, 911, 0, 0, 4096, 12288, 30607, 0, 65536, 196608, 0, 524288, 1572864, 3733391, 8388607, 16777215, 33554431, 67108863, 67108863, 134217727, 536870911] [⟨(some 57), (.fld 22), [(.t 10)], none⟩, ⟨(some 58), (.ixa 4 2), [(.t 57), (.c (.rv (.int .i64 3)))], none⟩, ⟨(some 59), (.load 2 true), [(.t 58)], none⟩, ⟨(some 60), (.call 80), [(.t 59), (.c (.rv (.int .i64 0)))], none⟩, ⟨(some 61), (.fld 38), [(.t 10)], none⟩, ⟨(some 62), (.ixa 4 1), [(.t 61), (.c (.rv (.int .i64 3)))], none⟩, ⟨(some 63), (.load 1 false), [(.t 62)], none⟩, ⟨(some 64), (.fld 30), [(.t 10)], none⟩, ⟨(some 65), (.ixa 4 2), [(.t 64), (.c (.rv (.int .i64 3)))], none⟩, ⟨(some 66), (.load 2 true), [(.t 65)], none⟩, ⟨(some 67), (.call 80), [(.t 66), (.c (.rv (.int .i64 0)))], none⟩, ⟨(some 68), .mv, [(.t 11)], none⟩, ⟨(some 69), (.fld 30), [(.t 10)], none⟩, ⟨(some 70), (.ixa 4 2), [(.t 69), (.c (.rv (.int .i64 1)))], none⟩, ⟨(some 71), (.load 2 true), [(.t 70)], none⟩, ⟨(some 72), (.call 80), [(.t 71), (.c (.rv (.int .i64 0)))], none⟩, ⟨(some 73), (.fld 38), [(.t 10)], none⟩, ⟨(some 74), (.ixa 4 1), [(.t 73), (.c (.rv (.int .i64 1)))], none⟩, ⟨(some 75), (.load 1 false), [(.t 74)], none⟩, ⟨(some 76), (.fld 22), [(.t 10)], none⟩, ⟨(some 77), (.ixa 4 2), [(.t 76), (.c (.rv (.int .i64 1)))], none⟩, ⟨(some 78), (.load 2 true), [(.t 77)], none⟩, ⟨(some 79), (.call 80), [(.t 78), (.c (.rv (.int .i64 0)))], none⟩, ⟨(some 80), (.bsl 1), [(.t 60), (.t 63), (.t 67), (.t 68), (.t 72), (.t 75), (.t 79)], none⟩, ⟨(some 81), (.call 79), [(.t 80)], none⟩, ⟨(some 56), .mv, [(.t 81)], none⟩, ⟨(some 82), (.ext 0), [(.t 56)], none⟩, ⟨(some 83), (.ext 1), [(.t 56)], none⟩, ⟨(some 13), .mv, [(.t 82)], none⟩, ⟨(some 14), .mv, [(.t 83)], none⟩]) (.seq (.seq (.reg [⟨(some 84), .mv, [(.t 12)], none⟩, ⟨(some 85), .not, [(.t 84)], none⟩, ⟨(some 86), .mv, [(.t 85)], none⟩, ⟨(some 87), .mv, [(.t 14)], (some (86, false))⟩, ⟨(some 88), .not, [(.t 87)], (some (86, false))⟩, ⟨(some 89), .pick, [(.t 86), (.c (.rv (.bool true))), (.t 88)], none⟩]) (.cond (.t 89) (.seq (.reg [⟨(some 4), .mv, [(.c (.rv (.int .i64 0)))], none⟩, ⟨(some 5), .mv, [(.c (.rv (.bool false)))], none⟩]) .ret) .skip)) (.seq (.reg [⟨(some 90), .mv, [(.t 13)], none⟩, ⟨(some 91), .mv, [(.t 7)], none⟩, ⟨(some 92), (.ibin .gtr), [(.t 90), (.t 91)], none⟩]) (.seq (.cond (.t 92) (.reg [⟨(some 93), .mv, [(.t 13)], none⟩, ⟨(some 7), .mv, [(.t 93)], none⟩]) .skip) .ent)))))))) .ent) (.reg [⟨(some 94), (.ibin .add), [(.t 36), (.c (.rv (.int .i64 1)))], none⟩, ⟨(some 36), .mv, [(.t 94)], none⟩])))))) .ent)) (.seq (.regd [0, 0, 2, 6, 0, 16, 62, 127, 255, 511] [⟨(some 95), .mv, [(.t 7)], none⟩, ⟨(some 96), (.fld 14), [(.t 6)], none⟩, ⟨(some 97), (.load 2 true), [(.t 96)], none⟩, ⟨(some 98), (.call 80), [(.t 97), (.c (.rv (.int .i64 0)))], none⟩, ⟨(some 99), (.fld 16), [(.t 6)], none⟩, ⟨(some 100), (.load 2 true), [(.t 99)], none⟩, ⟨(some 101), (.call 80), [(.t 100), (.c (.rv (.int .i64 1125899906842624)))], none⟩, ⟨(some 102), (.call 81), [(.t 95), (.t 98), (.t 101)], none⟩, ⟨(some 4), .mv, [(.t 102)], none⟩, ⟨(some 5), .mv, [(.c (.rv (.bool true)))], none⟩]) .ret))))))))
theorem k_decoupageref15_Content : FnOK Go.Proofs.Try.prog 53 103 c_decoupageref15_Content [(.t 4), (.t 5)] := fnOK_of (by kernel_rfl)


def refL (w : Int) (s : Sty) : List Int := [unitsL s.margin.d 0, s.border.d, unitsL s.pad.d 0, w, unitsL s.pad.b 0, s.border.b, unitsL s.margin.b 0]
theorem refL_sum (w : Int) (s : Sty) : (refL w s).sum = (outL w s 2).sum := by
  simp [refL, outL]; omega
theorem refL_ok (w : Int) (s : Sty) : sumOK (refL w s) = sumOK (outL w s 2) := by
  unfold sumOK
  rw [refL_sum]
  congr 1
  rw [Bool.eq_iff_iff]
  simp [refL, outL]
  constructor <;> (rintro ⟨h1, h2, h3, h4, h5, h6, h7⟩; simp_all)
theorem refL_v (w : Int) (s : Sty) : sumV (refL w s) = sumV (outL w s 2) := by unfold sumV; rw [refL_ok, refL_sum]

set_option maxHeartbeats 4000000 in
theorem sp_ref15_Content (l : List Nd) (ht : treeOK l = true) (hb : l.length ≤ 8589934592) : ∀ (f : Nat) (n : Int), (l.length : Int) < n + f → CallR Go.Proofs.Try.prog 53 [.rv (.sl 49 (ndL l)), .rv (.int .i64 n)] [] [] (.tup [.rv (.int .i64 (contentF l f n).1), .rv (.bool (contentF l f n).2)]) := by
  have hs := tree_shp ht
  have hlen := ndL_len l
  intro f
  induction f with
  | zero =>
    intro n hn
    have hmm : madeAt l n = false := by
      have : inL l n = false := by simp [inL]; omega
      simp [madeAt, this]
    have hm := sp_ref08_Made l ht n
    rw [hmm] at hm
    rw [content_no hmm]
    refine callR_G k_decoupageref15_Content [.rv (.sl 49 (ndL l)), .rv (.int .i64 n)] _ (by simp) (by simp [BkAll, bk_agg, bkAll_map, bk_rv, bk_fn, Sty.sv, Ln.sv, Nd.sv]) (fun K hK => ?_)
    simp -implicitDefEqProofs only [c_decoupageref15_Content, go_sem, ↓reduceIte, Nat.reduceEqDiff, Nat.reduceAdd, Nat.reduceSub, Nat.reduceMul, Nat.reduceLeDiff, Nat.reduceLT, reduceCtorEq, Int.reduceToNat]
    have hcall1 := hm; repeat' (first | (simp -implicitDefEqProofs only [go_sem, ↓reduceIte, Nat.reduceEqDiff, Nat.reduceAdd, Nat.reduceSub, Nat.reduceMul, Nat.reduceLeDiff, Nat.reduceLT, reduceCtorEq, Int.reduceToNat]) | (with_reducible refine g_noent ?_) | (with_reducible refine g_call0 hcall1 ?_) | (with_reducible refine g_calld0 hcall1 ?_) | (refine cdS (fun hg => ?_) (fun hg => ?_) <;> try simp -implicitDefEqProofs only [hg, Bool.not_true, Bool.not_false]) | (refine gdS (fun hg => ?_) (fun hg => ?_) <;> try simp -implicitDefEqProofs only [hg, Bool.not_true, Bool.not_false]) | (refine gddS (fun hg => ?_) (fun hg => ?_) <;> try simp -implicitDefEqProofs only [hg, Bool.not_true, Bool.not_false]) | ((with_reducible apply And.intro); focus (first | trivial | omega | decide | (simp -implicitDefEqProofs only [maxLen]; omega) | (simp [maxLen, sty_len, nd_len, ndL_len, lnL_len, intsL_len, rvs_len, lensS_len]; done) | (simp [maxLen, sty_len, nd_len, ndL_len, lnL_len, intsL_len, rvs_len, lensS_len]; omega))) | fail)
    exact (hK _ _ (ret_t2 rfl rfl)).2
  | succ f ih =>
    intro n hn
    have hm := sp_ref08_Made l ht n
    cases hmm : madeAt l n with
    | false =>
      rw [hmm] at hm
      rw [content_no hmm]
      refine callR_G k_decoupageref15_Content [.rv (.sl 49 (ndL l)), .rv (.int .i64 n)] _ (by simp) (by simp [BkAll, bk_agg, bkAll_map, bk_rv, bk_fn, Sty.sv, Ln.sv, Nd.sv]) (fun K hK => ?_)
      simp -implicitDefEqProofs only [c_decoupageref15_Content, go_sem, ↓reduceIte, Nat.reduceEqDiff, Nat.reduceAdd, Nat.reduceSub, Nat.reduceMul, Nat.reduceLeDiff, Nat.reduceLT, reduceCtorEq, Int.reduceToNat]
      have hcall2 := hm; repeat' (first | (simp -implicitDefEqProofs only [go_sem, ↓reduceIte, Nat.reduceEqDiff, Nat.reduceAdd, Nat.reduceSub, Nat.reduceMul, Nat.reduceLeDiff, Nat.reduceLT, reduceCtorEq, Int.reduceToNat]) | (with_reducible refine g_noent ?_) | (with_reducible refine g_call0 hcall2 ?_) | (with_reducible refine g_calld0 hcall2 ?_) | (refine cdS (fun hg => ?_) (fun hg => ?_) <;> try simp -implicitDefEqProofs only [hg, Bool.not_true, Bool.not_false]) | (refine gdS (fun hg => ?_) (fun hg => ?_) <;> try simp -implicitDefEqProofs only [hg, Bool.not_true, Bool.not_false]) | (refine gddS (fun hg => ?_) (fun hg => ?_) <;> try simp -implicitDefEqProofs only [hg, Bool.not_true, Bool.not_false]) | ((with_reducible apply And.intro); focus (first | trivial | omega | decide | (simp -implicitDefEqProofs only [maxLen]; omega) | (simp [maxLen, sty_len, nd_len, ndL_len, lnL_len, intsL_len, rvs_len, lensS_len]; done) | (simp [maxLen, sty_len, nd_len, ndL_len, lnL_len, intsL_len, rvs_len, lensS_len]; omega))) | fail)
      exact (hK _ _ (ret_t2 rfl rfl)).2
    | true =>
      rw [hmm] at hm
      obtain ⟨k, rfl, hk⟩ := inL_nat (by simp [madeAt] at hmm; exact hmm.1)
      refine callR_G k_decoupageref15_Content [.rv (.sl 49 (ndL l)), .rv (.int .i64 k)] _ (by simp) (by simp [BkAll, bk_agg, bkAll_map, bk_rv, bk_fn, Sty.sv, Ln.sv, Nd.sv]) (fun K hK => ?_)
      have hx0 := ndL_get hk
      have hfl := sp_ref08_Flow l ht hb k hk
      have hsx : styAt l k = (l[k]'hk).s := by simp [styAt, inL_of hk, hk]
      have hv : contentF l (f + 1) k = match goF l (fun m => contentF l f m) (if (styAt l k).width.kind = 1 then [] else flowAt l k) (unitsL (styAt l k).width 0) with
        | some w => (clampI w (unitsL (styAt l k).minW 0) (unitsL (styAt l k).maxW 1125899906842624), true)
        | none => (0, false) := by rw [contentF, if_neg (by simp [hmm])]; try rfl
      rw [hv] at hK
      have hgt := fun m => flow_gt (n := (k : Int)) (m := m) hs
      have hfn := flow_len l k
      have hns := nd_style (l[k]'hk)
      rw [hsx] at hK
      generalize (l[k]'hk).s = s at *
      generalize (l[k]'hk) = x at *
      simp -implicitDefEqProofs only [c_decoupageref15_Content, go_sem, ↓reduceIte, Nat.reduceEqDiff, Nat.reduceAdd, Nat.reduceSub, Nat.reduceMul, Nat.reduceLeDiff, Nat.reduceLT, reduceCtorEq, Int.reduceToNat]
      by_cases hw : s.width.kind = 1
      · have e1 : (s.width.kind == 1) = true := by simp [hw]
        rw [if_pos hw] at hK
        simp -implicitDefEqProofs only [goF] at hK
        have hcall3 := hm; have hcall4 := hfl; repeat' (first | (simp -implicitDefEqProofs only [go_sem, ↓reduceIte, Nat.reduceEqDiff, Nat.reduceAdd, Nat.reduceSub, Nat.reduceMul, Nat.reduceLeDiff, Nat.reduceLT, reduceCtorEq, Int.reduceToNat, hx0, hlen, nd_len, nd_st, hns, sty_len, sty_w2, sty_at10, sty_at11, sty_lo, sty_hi, e1]) | (with_reducible refine g_noent ?_) | (with_reducible refine g_call0 hcall3 ?_) | (with_reducible refine g_calld0 hcall3 ?_) | (with_reducible refine g_call0 hcall4 ?_) | (with_reducible refine g_calld0 hcall4 ?_) | (refine cdS (fun hg => ?_) (fun hg => ?_) <;> try simp -implicitDefEqProofs only [hg, Bool.not_true, Bool.not_false]) | (refine gdS (fun hg => ?_) (fun hg => ?_) <;> try simp -implicitDefEqProofs only [hg, Bool.not_true, Bool.not_false]) | (refine gddS (fun hg => ?_) (fun hg => ?_) <;> try simp -implicitDefEqProofs only [hg, Bool.not_true, Bool.not_false]) | ((with_reducible apply And.intro); focus (first | trivial | omega | decide | (simp -implicitDefEqProofs only [maxLen]; omega) | (simp [maxLen, sty_len, nd_len, ndL_len, lnL_len, intsL_len, rvs_len, lensS_len]; done) | (simp [maxLen, sty_len, nd_len, ndL_len, lnL_len, intsL_len, rvs_len, lensS_len]; omega) | (exact ⟨rfl, by decide⟩; done))) | fail)
        have hu : unitsL s.width 0 = s.width.n := by simp [unitsL, hw]
        rw [hu] at hK
        refine g_loop (ι := Unit) (fun _ => [(36, .rv (.int .i64 0)), (35, .rv (.int .i64 (0 : Nat))), (6, .ptr 0 0), (7, .rv (.int .i64 s.width.n))]) (fun _ => [some (.var (s.cells.map .rv))]) (fun _ => True) (fun _ => 0) () trivial (ent_env (by simp [lk])) (fun _ _ K' hN hX' hR => ?_)
        simp -implicitDefEqProofs only [go_sem, ↓reduceIte, Nat.reduceEqDiff, Nat.reduceAdd, Nat.reduceSub, Nat.reduceMul, Nat.reduceLeDiff, Nat.reduceLT, reduceCtorEq, Int.reduceToNat]
        have e0 : decide ((0 : Int) < ((0 : Nat) : Int)) = false := rfl
        repeat' (first | (simp -implicitDefEqProofs only [go_sem, ↓reduceIte, Nat.reduceEqDiff, Nat.reduceAdd, Nat.reduceSub, Nat.reduceMul, Nat.reduceLeDiff, Nat.reduceLT, reduceCtorEq, Int.reduceToNat, e0]) | (with_reducible refine g_noent ?_) | (refine cdS (fun hg => ?_) (fun hg => ?_) <;> try simp -implicitDefEqProofs only [hg, Bool.not_true, Bool.not_false]) | (refine gdS (fun hg => ?_) (fun hg => ?_) <;> try simp -implicitDefEqProofs only [hg, Bool.not_true, Bool.not_false]) | (refine gddS (fun hg => ?_) (fun hg => ?_) <;> try simp -implicitDefEqProofs only [hg, Bool.not_true, Bool.not_false]) | ((with_reducible apply And.intro); focus (first | trivial | omega | decide | (simp -implicitDefEqProofs only [maxLen]; omega) | (simp [maxLen, sty_len, nd_len, ndL_len, lnL_len, intsL_len, rvs_len, lensS_len]; done) | (simp [maxLen, sty_len, nd_len, ndL_len, lnL_len, intsL_len, rvs_len, lensS_len]; omega))) | fail)
        refine hX' _ _ _ ?_
        have hcall5 := sp_ref15_units s.minW 0; have hcall6 := sp_ref15_units s.maxW 1125899906842624; have hcall7 := sp_ref01_Clamp s.width.n (unitsL s.minW 0) (unitsL s.maxW 1125899906842624); repeat' (first | (simp -implicitDefEqProofs only [go_sem, ↓reduceIte, Nat.reduceEqDiff, Nat.reduceAdd, Nat.reduceSub, Nat.reduceMul, Nat.reduceLeDiff, Nat.reduceLT, reduceCtorEq, Int.reduceToNat, sty_len, sty_lo, sty_hi]) | (with_reducible refine g_noent ?_) | (with_reducible refine g_call0 hcall5 ?_) | (with_reducible refine g_calld0 hcall5 ?_) | (with_reducible refine g_call0 hcall6 ?_) | (with_reducible refine g_calld0 hcall6 ?_) | (with_reducible refine g_call0 hcall7 ?_) | (with_reducible refine g_calld0 hcall7 ?_) | (refine cdS (fun hg => ?_) (fun hg => ?_) <;> try simp -implicitDefEqProofs only [hg, Bool.not_true, Bool.not_false]) | (refine gdS (fun hg => ?_) (fun hg => ?_) <;> try simp -implicitDefEqProofs only [hg, Bool.not_true, Bool.not_false]) | (refine gddS (fun hg => ?_) (fun hg => ?_) <;> try simp -implicitDefEqProofs only [hg, Bool.not_true, Bool.not_false]) | ((with_reducible apply And.intro); focus (first | trivial | omega | decide | (simp -implicitDefEqProofs only [maxLen]; omega) | (simp [maxLen, sty_len, nd_len, ndL_len, lnL_len, intsL_len, rvs_len, lensS_len]; done) | (simp [maxLen, sty_len, nd_len, ndL_len, lnL_len, intsL_len, rvs_len, lensS_len]; omega) | (exact ⟨rfl, by decide⟩; done))) | fail)
        exact (hK _ _ (ret_t2 rfl rfl)).2
      · have e1 : (s.width.kind == 1) = false := by simp [hw]
        rw [if_neg hw] at hK
        have hu : unitsL s.width 0 = 0 := by simp [unitsL, hw]
        rw [hu] at hK
        generalize hX : flowAt l k = X at *
        have hln := nats_ln X
        have hcall8 := hm; have hcall9 := hfl; repeat' (first | (simp -implicitDefEqProofs only [go_sem, ↓reduceIte, Nat.reduceEqDiff, Nat.reduceAdd, Nat.reduceSub, Nat.reduceMul, Nat.reduceLeDiff, Nat.reduceLT, reduceCtorEq, Int.reduceToNat, hx0, hlen, hln, nd_len, nd_st, hns, sty_len, sty_w2, sty_at10, sty_at11, sty_lo, sty_hi, e1]) | (with_reducible refine g_noent ?_) | (with_reducible refine g_call0 hcall8 ?_) | (with_reducible refine g_calld0 hcall8 ?_) | (with_reducible refine g_call0 hcall9 ?_) | (with_reducible refine g_calld0 hcall9 ?_) | (refine cdS (fun hg => ?_) (fun hg => ?_) <;> try simp -implicitDefEqProofs only [hg, Bool.not_true, Bool.not_false]) | (refine gdS (fun hg => ?_) (fun hg => ?_) <;> try simp -implicitDefEqProofs only [hg, Bool.not_true, Bool.not_false]) | (refine gddS (fun hg => ?_) (fun hg => ?_) <;> try simp -implicitDefEqProofs only [hg, Bool.not_true, Bool.not_false]) | ((with_reducible apply And.intro); focus (first | trivial | omega | decide | (simp -implicitDefEqProofs only [maxLen]; omega) | (simp [maxLen, sty_len, nd_len, ndL_len, lnL_len, intsL_len, rvs_len, lensS_len]; done) | (simp [maxLen, sty_len, nd_len, ndL_len, lnL_len, intsL_len, rvs_len, lensS_len]; omega) | (exact ⟨rfl, by decide⟩; done))) | fail)
        refine g_loop (ι := Nat × Int) (fun q => [(36, .rv (.int .i64 q.1)), (35, .rv (.int .i64 X.length)), (8, .rv (.sl 1 (intsL (natsI X)))), (6, .ptr 0 0), (7, .rv (.int .i64 q.2)), (0, .rv (.sl 49 (ndL l)))]) (fun _ => [some (.var (s.cells.map .rv))]) (fun q => q.1 ≤ X.length ∧ goF l (fun m => contentF l f m) (X.drop q.1) q.2 = goF l (fun m => contentF l f m) X 0) (fun q => X.length - q.1) (0, 0) ⟨by simp, rfl⟩ (ent_env (by simp [lk])) (fun q hq K' hN hX' hR => ?_)
        obtain ⟨i, w⟩ := q
        obtain ⟨q1, q2⟩ := hq
        dsimp only at q1 q2 ⊢
        simp -implicitDefEqProofs only [go_sem, ↓reduceIte, Nat.reduceEqDiff, Nat.reduceAdd, Nat.reduceSub, Nat.reduceMul, Nat.reduceLeDiff, Nat.reduceLT, reduceCtorEq, Int.reduceToNat]
        refine cdS (fun hg => ?_) (fun hg => ?_)
        · have hi4 : i < X.length := by simp at hg; omega
          have wu := wrap_up (k := i) (by omega)
          have hx := nats_at hi4
          have hd := goF_drop (l := l) (g := fun m => contentF l f m) hi4 w
          have hmn := hgt X[i] (List.getElem_mem hi4)
          have hC := ih (X[i] : Nat) (by omega)
          rw [atI_lt hi4] at hx
          have hx2 := ndL_get hmn.2
          have hns2 := nd_style (l[X[i]]'hmn.2)
          have hsx2 : styAt l (X[i] : Nat) = (l[X[i]]'hmn.2).s := by simp [styAt, inL_of hmn.2, hmn.2]
          rw [hsx2] at hd
          generalize contentF l f (X[i] : Nat) = c at hd hC
          generalize (l[X[i]]'hmn.2).s = z at hd hns2
          generalize (l[X[i]]'hmn.2) = y at hx2 hns2
          have hsum := sp_ref01_Sum (refL c.1 z) (by simp [refL])
          rw [refL_v, refL_ok] at hsum
          have hq : CallR Go.Proofs.Try.prog 79 [.row 2 0 7] [(2, .row 1 0 [[.rv (.int .i64 (unitsL z.margin.d 0))], [.rv (.int .i64 z.border.d)], [.rv (.int .i64 (unitsL z.pad.d 0))], [.rv (.int .i64 c.1)], [.rv (.int .i64 (unitsL z.pad.b 0))], [.rv (.int .i64 z.border.b)], [.rv (.int .i64 (unitsL z.margin.b 0))]])] [] (.tup [.rv (.int .i64 (sumV (outL c.1 z 2))), .rv (.bool (sumOK (outL c.1 z 2)))]) := lend1t (id := 2) (v := 0) (n := 7) (bs := []) (rs := [.int .i64 (sumV (outL c.1 z 2)), .bool (sumOK (outL c.1 z 2))]) hsum (by simp; exact ⟨.int _ _, .bool _⟩) rfl (intsL_one _)
          cases hc2 : c.2 with
          | false =>
            rw [hc2] at hC
            simp -implicitDefEqProofs only [hc2, Bool.false_and, Bool.false_eq_true, if_false] at hd
            rw [q2.symm.trans hd] at hK
            have hcall10 := hC; have hcall11 := sp_ref15_units z.margin.d 0; have hcall12 := sp_ref15_units z.margin.b 0; have hcall13 := sp_ref15_units z.pad.d 0; have hcall14 := sp_ref15_units z.pad.b 0; have hcall15 := hq; repeat' (first | (simp -implicitDefEqProofs only [go_sem, ↓reduceIte, Nat.reduceEqDiff, Nat.reduceAdd, Nat.reduceSub, Nat.reduceMul, Nat.reduceLeDiff, Nat.reduceLT, reduceCtorEq, Int.reduceToNat, hx, hln, hx2, hlen, nd_len, nd_st, hns2, sty_len, sty_mb, sty_md, sty_pb, sty_pd, sty_bb, sty_bd, wu]) | (with_reducible refine g_noent ?_) | (with_reducible refine g_call0 hcall10 ?_) | (with_reducible refine g_calld0 hcall10 ?_) | (with_reducible refine g_call0 hcall11 ?_) | (with_reducible refine g_calld0 hcall11 ?_) | (with_reducible refine g_call0 hcall12 ?_) | (with_reducible refine g_calld0 hcall12 ?_) | (with_reducible refine g_call0 hcall13 ?_) | (with_reducible refine g_calld0 hcall13 ?_) | (with_reducible refine g_call0 hcall14 ?_) | (with_reducible refine g_calld0 hcall14 ?_) | (refine g_call hcall15 (by simp [PreOK, hget]; done) (by simp [okU, uph]; done) ?_) | (refine g_calld hcall15 (by simp [PreOK, hget]; done) (by simp [okU, uph]; done) ?_) | (refine cdS (fun hg => ?_) (fun hg => ?_) <;> try simp -implicitDefEqProofs only [hg, Bool.not_true, Bool.not_false]) | (refine gdS (fun hg => ?_) (fun hg => ?_) <;> try simp -implicitDefEqProofs only [hg, Bool.not_true, Bool.not_false]) | (refine gddS (fun hg => ?_) (fun hg => ?_) <;> try simp -implicitDefEqProofs only [hg, Bool.not_true, Bool.not_false]) | ((with_reducible apply And.intro); focus (first | trivial | omega | decide | (simp -implicitDefEqProofs only [maxLen]; omega) | (simp [maxLen, sty_len, nd_len, ndL_len, lnL_len, intsL_len, rvs_len, lensS_len]; done) | (simp [maxLen, sty_len, nd_len, ndL_len, lnL_len, intsL_len, rvs_len, lensS_len]; omega) | (exact ⟨rfl, by decide⟩; done))) | fail)
            exact hR _ _ (hK _ _ (ret_t2 rfl rfl)).2
          | true =>
            rw [hc2] at hC
            cases hso : sumOK (outL c.1 z 2) with
            | false =>
              rw [hso] at hq
              simp -implicitDefEqProofs only [hc2, hso, Bool.true_and, Bool.false_eq_true, if_false] at hd
              rw [q2.symm.trans hd] at hK
              have hcall16 := hC; have hcall17 := sp_ref15_units z.margin.d 0; have hcall18 := sp_ref15_units z.margin.b 0; have hcall19 := sp_ref15_units z.pad.d 0; have hcall20 := sp_ref15_units z.pad.b 0; have hcall21 := hq; repeat' (first | (simp -implicitDefEqProofs only [go_sem, ↓reduceIte, Nat.reduceEqDiff, Nat.reduceAdd, Nat.reduceSub, Nat.reduceMul, Nat.reduceLeDiff, Nat.reduceLT, reduceCtorEq, Int.reduceToNat, hx, hln, hx2, hlen, nd_len, nd_st, hns2, sty_len, sty_mb, sty_md, sty_pb, sty_pd, sty_bb, sty_bd, wu]) | (with_reducible refine g_noent ?_) | (with_reducible refine g_call0 hcall16 ?_) | (with_reducible refine g_calld0 hcall16 ?_) | (with_reducible refine g_call0 hcall17 ?_) | (with_reducible refine g_calld0 hcall17 ?_) | (with_reducible refine g_call0 hcall18 ?_) | (with_reducible refine g_calld0 hcall18 ?_) | (with_reducible refine g_call0 hcall19 ?_) | (with_reducible refine g_calld0 hcall19 ?_) | (with_reducible refine g_call0 hcall20 ?_) | (with_reducible refine g_calld0 hcall20 ?_) | (refine g_call hcall21 (by simp [PreOK, hget]; done) (by simp [okU, uph]; done) ?_) | (refine g_calld hcall21 (by simp [PreOK, hget]; done) (by simp [okU, uph]; done) ?_) | (refine cdS (fun hg => ?_) (fun hg => ?_) <;> try simp -implicitDefEqProofs only [hg, Bool.not_true, Bool.not_false]) | (refine gdS (fun hg => ?_) (fun hg => ?_) <;> try simp -implicitDefEqProofs only [hg, Bool.not_true, Bool.not_false]) | (refine gddS (fun hg => ?_) (fun hg => ?_) <;> try simp -implicitDefEqProofs only [hg, Bool.not_true, Bool.not_false]) | ((with_reducible apply And.intro); focus (first | trivial | omega | decide | (simp -implicitDefEqProofs only [maxLen]; omega) | (simp [maxLen, sty_len, nd_len, ndL_len, lnL_len, intsL_len, rvs_len, lensS_len]; done) | (simp [maxLen, sty_len, nd_len, ndL_len, lnL_len, intsL_len, rvs_len, lensS_len]; omega) | (exact ⟨rfl, by decide⟩; done))) | fail)
              exact hR _ _ (hK _ _ (ret_t2 rfl rfl)).2
            | true =>
              rw [hso, show sumV (outL c.1 z 2) = (outL c.1 z 2).sum by simp [sumV, hso]] at hq
              simp -implicitDefEqProofs only [hc2, hso, Bool.true_and, if_true] at hd
              by_cases hgw : (outL c.1 z 2).sum > w
              · have e5 : decide ((outL c.1 z 2).sum > w) = true := decide_eq_true hgw
                have hmx : mxI w (outL c.1 z 2).sum = (outL c.1 z 2).sum := if_pos hgw
                rw [hmx] at hd
                have hcall22 := hC; have hcall23 := sp_ref15_units z.margin.d 0; have hcall24 := sp_ref15_units z.margin.b 0; have hcall25 := sp_ref15_units z.pad.d 0; have hcall26 := sp_ref15_units z.pad.b 0; have hcall27 := hq; repeat' (first | (simp -implicitDefEqProofs only [go_sem, ↓reduceIte, Nat.reduceEqDiff, Nat.reduceAdd, Nat.reduceSub, Nat.reduceMul, Nat.reduceLeDiff, Nat.reduceLT, reduceCtorEq, Int.reduceToNat, hx, hln, hx2, hlen, nd_len, nd_st, hns2, sty_len, sty_mb, sty_md, sty_pb, sty_pd, sty_bb, sty_bd, wu, e5]) | (with_reducible refine g_noent ?_) | (with_reducible refine g_call0 hcall22 ?_) | (with_reducible refine g_calld0 hcall22 ?_) | (with_reducible refine g_call0 hcall23 ?_) | (with_reducible refine g_calld0 hcall23 ?_) | (with_reducible refine g_call0 hcall24 ?_) | (with_reducible refine g_calld0 hcall24 ?_) | (with_reducible refine g_call0 hcall25 ?_) | (with_reducible refine g_calld0 hcall25 ?_) | (with_reducible refine g_call0 hcall26 ?_) | (with_reducible refine g_calld0 hcall26 ?_) | (refine g_call hcall27 (by simp [PreOK, hget]; done) (by simp [okU, uph]; done) ?_) | (refine g_calld hcall27 (by simp [PreOK, hget]; done) (by simp [okU, uph]; done) ?_) | (refine cdS (fun hg => ?_) (fun hg => ?_) <;> try simp -implicitDefEqProofs only [hg, Bool.not_true, Bool.not_false]) | (refine gdS (fun hg => ?_) (fun hg => ?_) <;> try simp -implicitDefEqProofs only [hg, Bool.not_true, Bool.not_false]) | (refine gddS (fun hg => ?_) (fun hg => ?_) <;> try simp -implicitDefEqProofs only [hg, Bool.not_true, Bool.not_false]) | ((with_reducible apply And.intro); focus (first | trivial | omega | decide | (simp -implicitDefEqProofs only [maxLen]; omega) | (simp [maxLen, sty_len, nd_len, ndL_len, lnL_len, intsL_len, rvs_len, lensS_len]; done) | (simp [maxLen, sty_len, nd_len, ndL_len, lnL_len, intsL_len, rvs_len, lensS_len]; omega) | (exact ⟨rfl, by decide⟩; done))) | fail)
                exact hN (i + 1, (outL c.1 z 2).sum) _ _ ⟨by dsimp only; omega, by dsimp only; rw [← hd]; exact q2⟩ (by dsimp only; omega) (ent_tail (h' := [some (.var (s.cells.map .rv))]) (by simp) ⟨clA_map, trivial⟩ (by simp [ClEnv, lk, clS_rv, clS_ptr]))
              · have e5 : decide ((outL c.1 z 2).sum > w) = false := decide_eq_false hgw
                have hmx : mxI w (outL c.1 z 2).sum = w := if_neg hgw
                rw [hmx] at hd
                have hcall28 := hC; have hcall29 := sp_ref15_units z.margin.d 0; have hcall30 := sp_ref15_units z.margin.b 0; have hcall31 := sp_ref15_units z.pad.d 0; have hcall32 := sp_ref15_units z.pad.b 0; have hcall33 := hq; repeat' (first | (simp -implicitDefEqProofs only [go_sem, ↓reduceIte, Nat.reduceEqDiff, Nat.reduceAdd, Nat.reduceSub, Nat.reduceMul, Nat.reduceLeDiff, Nat.reduceLT, reduceCtorEq, Int.reduceToNat, hx, hln, hx2, hlen, nd_len, nd_st, hns2, sty_len, sty_mb, sty_md, sty_pb, sty_pd, sty_bb, sty_bd, wu, e5]) | (with_reducible refine g_noent ?_) | (with_reducible refine g_call0 hcall28 ?_) | (with_reducible refine g_calld0 hcall28 ?_) | (with_reducible refine g_call0 hcall29 ?_) | (with_reducible refine g_calld0 hcall29 ?_) | (with_reducible refine g_call0 hcall30 ?_) | (with_reducible refine g_calld0 hcall30 ?_) | (with_reducible refine g_call0 hcall31 ?_) | (with_reducible refine g_calld0 hcall31 ?_) | (with_reducible refine g_call0 hcall32 ?_) | (with_reducible refine g_calld0 hcall32 ?_) | (refine g_call hcall33 (by simp [PreOK, hget]; done) (by simp [okU, uph]; done) ?_) | (refine g_calld hcall33 (by simp [PreOK, hget]; done) (by simp [okU, uph]; done) ?_) | (refine cdS (fun hg => ?_) (fun hg => ?_) <;> try simp -implicitDefEqProofs only [hg, Bool.not_true, Bool.not_false]) | (refine gdS (fun hg => ?_) (fun hg => ?_) <;> try simp -implicitDefEqProofs only [hg, Bool.not_true, Bool.not_false]) | (refine gddS (fun hg => ?_) (fun hg => ?_) <;> try simp -implicitDefEqProofs only [hg, Bool.not_true, Bool.not_false]) | ((with_reducible apply And.intro); focus (first | trivial | omega | decide | (simp -implicitDefEqProofs only [maxLen]; omega) | (simp [maxLen, sty_len, nd_len, ndL_len, lnL_len, intsL_len, rvs_len, lensS_len]; done) | (simp [maxLen, sty_len, nd_len, ndL_len, lnL_len, intsL_len, rvs_len, lensS_len]; omega) | (exact ⟨rfl, by decide⟩; done))) | fail)
                exact hN (i + 1, w) _ _ ⟨by dsimp only; omega, by dsimp only; rw [← hd]; exact q2⟩ (by dsimp only; omega) (ent_tail (h' := [some (.var (s.cells.map .rv))]) (by simp) ⟨clA_map, trivial⟩ (by simp [ClEnv, lk, clS_rv, clS_ptr]))
        · have hi4 : i = X.length := by simp at hg; omega
          subst hi4
          rw [List.drop_length] at q2
          simp -implicitDefEqProofs only [goF] at q2
          rw [← q2] at hK
          simp -implicitDefEqProofs only [go_sem, ↓reduceIte, Nat.reduceEqDiff, Nat.reduceAdd, Nat.reduceSub, Nat.reduceMul, Nat.reduceLeDiff, Nat.reduceLT, reduceCtorEq, Int.reduceToNat]
          refine hX' _ _ _ ?_
          have hcall34 := sp_ref15_units s.minW 0; have hcall35 := sp_ref15_units s.maxW 1125899906842624; have hcall36 := sp_ref01_Clamp w (unitsL s.minW 0) (unitsL s.maxW 1125899906842624); repeat' (first | (simp -implicitDefEqProofs only [go_sem, ↓reduceIte, Nat.reduceEqDiff, Nat.reduceAdd, Nat.reduceSub, Nat.reduceMul, Nat.reduceLeDiff, Nat.reduceLT, reduceCtorEq, Int.reduceToNat, sty_len, sty_lo, sty_hi]) | (with_reducible refine g_noent ?_) | (with_reducible refine g_call0 hcall34 ?_) | (with_reducible refine g_calld0 hcall34 ?_) | (with_reducible refine g_call0 hcall35 ?_) | (with_reducible refine g_calld0 hcall35 ?_) | (with_reducible refine g_call0 hcall36 ?_) | (with_reducible refine g_calld0 hcall36 ?_) | (refine cdS (fun hg => ?_) (fun hg => ?_) <;> try simp -implicitDefEqProofs only [hg, Bool.not_true, Bool.not_false]) | (refine gdS (fun hg => ?_) (fun hg => ?_) <;> try simp -implicitDefEqProofs only [hg, Bool.not_true, Bool.not_false]) | (refine gddS (fun hg => ?_) (fun hg => ?_) <;> try simp -implicitDefEqProofs only [hg, Bool.not_true, Bool.not_false]) | ((with_reducible apply And.intro); focus (first | trivial | omega | decide | (simp -implicitDefEqProofs only [maxLen]; omega) | (simp [maxLen, sty_len, nd_len, ndL_len, lnL_len, intsL_len, rvs_len, lensS_len]; done) | (simp [maxLen, sty_len, nd_len, ndL_len, lnL_len, intsL_len, rvs_len, lensS_len]; omega) | (exact ⟨rfl, by decide⟩; done))) | fail)
          exact (hK _ _ (ret_t2 rfl rfl)).2
end Go.Eng

/- kin: of a list that is the caller's own. -/
namespace Go.Eng
open Go

theorem flat_cells (s : Sty) : ∀ r ∈ s.cells, FlatR r := by
  intro r hr
  simp -implicitDefEqProofs only [Sty.cells, List.mem_cons, List.not_mem_nil, or_false] at hr
  repeat' rcases hr with rfl | hr
  all_goals first | exact .int _ _ | exact .bool _ | (subst hr; exact .int _ _)
theorem flat_nd (x : Nd) : ∀ r ∈ x.cells, FlatR r := by
  intro r hr
  rcases List.mem_append.1 hr with hr | hr
  · exact flat_cells _ r hr
  · simp at hr; rw [hr]; exact .int _ _
theorem flatH_rvs {e v : Nat} {xs : List (List RV)} (h : ∀ x ∈ xs, ∀ r ∈ x, FlatR r) : FlatH (.row e v (rvs xs)) := by
  refine .row _ _ _ (fun i x j y hx hy => ?_)
  unfold rvs at hx
  rw [List.getElem?_map] at hx
  cases hq : xs[i]? with
  | none => simp [hq] at hx
  | some z =>
    simp [hq] at hx
    subst hx
    rw [List.getElem?_map] at hy
    cases hr : z[j]? with
    | none => simp [hr] at hy
    | some r => simp [hr] at hy; subst hy; exact .rv _ (h z (List.mem_of_getElem? hq) r (List.mem_of_getElem? hr))
theorem sp_Clone_NodeR (l : List Nd) (hb : l.length ≤ 8589934592) (i v m : Nat) (hne : i ≠ m) : CallR Go.Proofs.Try.prog 62 [.row i v l.length] [(i, .row 49 v (rvs (ndL l)))] [(m, .row 49 1 (rvs (ndL l)))] (.row m 1 l.length) := by
  have h := sp_Clone_Node (ndL l) m (by rw [ndL_len]; exact hb)
  rw [ndL_len] at h
  refine callR_lend (rs := [.sl 49 (ndL l)]) h (fun hp hpre => ⟨?_, trivial⟩) rfl (.row _ _ _) (fun q hq => ?_)
  · exact fz_rows (hpre _ (.head _)) rfl (by simp [ndL]) (ndL_one l)
  · simp at hq; subst hq
    refine ⟨flatH_rvs fun x hx => ?_, by simpa using hne⟩
    obtain ⟨n, _, rfl⟩ := List.mem_map.1 hx
    exact flat_nd n

theorem nd_sv49m (x : Nd) : (x.cells.map SV.rv).take 49 = x.cells.map SV.rv := rfl
def kTabR (l : List Nd) (k : Nat) : List (List SV) := (List.range l.length).map fun p => [.row (p + 7) (kidsTo l k p).length (kidsTo l k p).length]
def kRowsR (l : List Nd) (k : Nat) : List (Option HB) := (List.range l.length).map fun p => some (.row 1 (kidsTo l k p).length (rvs (intsL (natsI (kidsTo l k p)))))
theorem kTab_lenR (l : List Nd) (k : Nat) : (kTabR l k).length = l.length := by simp [kTabR]
theorem kRows_lenR (l : List Nd) (k : Nat) : (kRowsR l k).length = l.length := by simp [kRowsR]
theorem kTab_getR {l : List Nd} {k p : Nat} (hp : p < l.length) : (kTabR l k)[p]?.getD [] = [.row (p + 7) (kidsTo l k p).length (kidsTo l k p).length] := by simp [kTabR, hp]
theorem kRows_getR {l : List Nd} {k p : Nat} {C : List (Option HB)} (hp : p < l.length) : hget (kRowsR l k ++ C) p = some (.row 1 (kidsTo l k p).length (rvs (intsL (natsI (kidsTo l k p))))) := by
  unfold hget
  rw [List.getElem?_append_left (by rw [kRows_lenR]; exact hp)]
  simp [kRowsR, hp]
theorem kRows_endR {l : List Nd} {k : Nat} {x : Option HB} {C : List (Option HB)} : hget (kRowsR l k ++ x :: C) l.length = x := by
  unfold hget
  rw [List.getElem?_append_right (by rw [kRows_lenR]; exact Nat.le_refl _), kRows_lenR]
  simp
theorem kRows_end1R {l : List Nd} {k : Nat} {x y : Option HB} {C : List (Option HB)} : hget (kRowsR l k ++ x :: y :: C) (l.length + 1) = y := by
  unfold hget
  rw [List.getElem?_append_right (by rw [kRows_lenR]; omega), kRows_lenR, show l.length + 1 - l.length = 1 by omega]
  simp
theorem kRows_end2R {l : List Nd} {k p : Nat} {hb : Option HB} {x y : Option HB} {C : List (Option HB)} : hget ((kRowsR l k).set p hb ++ x :: C) l.length = x := by
  unfold hget
  rw [List.getElem?_append_right (by rw [List.length_set, kRows_lenR]; exact Nat.le_refl _), List.length_set, kRows_lenR]
  simp
theorem kRows_setER {l : List Nd} {k : Nat} {x y : Option HB} {C : List (Option HB)} : (kRowsR l k ++ x :: C).set l.length y = kRowsR l k ++ y :: C := by
  rw [List.set_append_right _ _ (by rw [kRows_lenR]; exact Nat.le_refl _), kRows_lenR, Nat.sub_self]; rfl
theorem kRows_setPR {l : List Nd} {k p : Nat} {y : Option HB} {C : List (Option HB)} (hp : p < l.length) : (kRowsR l k ++ C).set p y = (kRowsR l k).set p y ++ C := by
  rw [List.set_append_left _ _ (by rw [kRows_lenR]; exact hp)]
theorem kRows_zeroR (l : List Nd) : kRowsR l 0 = ghRows l.length 1 := by
  refine List.ext_getElem (by simp [kRowsR, ghRows]) (fun i h1 h2 => ?_)
  simp [kRowsR, ghRows, kidsTo_zero, natsI, intsL, rvs]
theorem kTab_zeroR (l : List Nd) : kTabR l 0 = ghTab 7 l.length l.length := by
  refine List.ext_getElem (by simp [kTabR, ghTab]) (fun i h1 h2 => ?_)
  simp [kTabR] at h1
  simp [kTabR, ghTab, kidsTo_zero, h1]; omega
theorem kRows_nextR {l : List Nd} {k p : Nat} (h0 : 0 < k) (hp : parL l k = p) (hl : p < l.length) :
    (kRowsR l k).set p (some (.row 1 ((kidsTo l k p).length + 1) (rvs (intsL (natsI (kidsTo l k p) ++ [(k : Int)]))))) = kRowsR l (k + 1) := by
  refine List.ext_getElem (by simp [kRowsR]) (fun i h1 h2 => ?_)
  simp -implicitDefEqProofs only [List.getElem_set, kRowsR, List.getElem_map, List.getElem_range, kidsTo_succ]
  by_cases h : p = i
  · subst h; simp [h0, hp, natsI]
  · rw [if_neg h, if_neg (by rw [hp]; omega)]; simp
theorem kTab_nextR {l : List Nd} {k p : Nat} (h0 : 0 < k) (hp : parL l k = p) (hl : p < l.length) :
    (kTabR l k).set p [.row (p + 7) ((kidsTo l k p).length + 1) ((kidsTo l k p).length + 1)] = kTabR l (k + 1) := by
  refine List.ext_getElem (by simp [kTabR]) (fun i h1 h2 => ?_)
  simp -implicitDefEqProofs only [List.getElem_set, kTabR, List.getElem_map, List.getElem_range, kidsTo_succ]
  by_cases h : p = i
  · subst h; simp [h0, hp]
  · rw [if_neg h, if_neg (by rw [hp]; omega)]; simp
theorem kRows_firstR (l : List Nd) : kRowsR l 1 = kRowsR l 0 := by
  refine List.ext_getElem (by simp [kRowsR]) (fun i h1 h2 => ?_)
  simp [kRowsR, kidsTo, List.range_succ]
theorem kTab_firstR (l : List Nd) : kTabR l 1 = kTabR l 0 := by
  refine List.ext_getElem (by simp [kTabR]) (fun i h1 h2 => ?_)
  simp [kTabR, kidsTo, List.range_succ]

def kHeapR (v : Nat) (l : List Nd) (k : Nat) (es ds : List Int) (bs : List Bool) : List (Option HB) := some (.row 49 v (rvs (ndL l))) :: some (.row 49 1 (rvs (ndL l))) :: some (.row 1 0 (kTabR l k)) :: some (.row 1 0 (rvs (intsL es))) :: some (.row 1 0 (rvs (intsL ds))) :: some (.row 1 0 (rvs (boolL bs))) :: some (.var [.row 1 1 l.length, .row 2 0 l.length, .row 3 0 l.length, .row 4 0 l.length, .row 5 0 l.length]) :: kRowsR l k
theorem kHeap_lenR {v : Nat} {l : List Nd} {k : Nat} {es ds : List Int} {bs : List Bool} : (kHeapR v l k es ds bs).length = l.length + 7 := by simp [kHeapR, kRows_lenR]
theorem kHeap_clR {v : Nat} {l : List Nd} {k : Nat} {es ds : List Int} {bs : List Bool} : AllSome (ClH (l.length + 7)) (kHeapR v l k es ds bs) := by
  refine ⟨clH_rvs, clH_rvs, fun i x hx => ?_, clH_rvs, clH_rvs, clH_rvs, by simp [ClH, ClA, clS_row], AllSome.of fun j x hx => ?_⟩
  · obtain ⟨hl, rfl⟩ := List.getElem?_eq_some_iff.1 hx
    simp [kTab_lenR] at hl
    simp [kTabR, ClA, clS_row, hl]
  · obtain ⟨hl, rfl⟩ := List.getElem?_eq_some_iff.1 hx
    exact ⟨.row 1 (kidsTo l k j).length (rvs (intsL (natsI (kidsTo l k j)))), by simp [kRowsR], clH_rvs⟩
theorem kHeap_tailR {v : Nat} {l : List Nd} {k : Nat} {es ds : List Int} {bs : List Bool} {env env' : List (Nat × SV)} {C : List (Option HB)} (he : ClEnv (l.length + 7) env env') : Ent 1 ⟨env, kHeapR v l k es ds bs ++ C⟩ ⟨env', kHeapR v l k es ds bs⟩ :=
  ent_tail (by rw [kHeap_lenR]; omega) (by rw [kHeap_lenR]; exact kHeap_clR) (by rw [kHeap_lenR]; exact he)

theorem kin_fzR (v : Nat) (l : List Nd) {τ : Nat → Option Nat} (hτ : ∀ j, 0 < j → τ j = none) : Fz τ (hget (kHeapR v l l.length (endsL l) (depTo l l.length) (madeTo l l.length))) (.ptr 6 0) (kinV l) := by
  refine .ptr 6 [.row 1 1 l.length, .row 2 0 l.length, .row 3 0 l.length, .row 4 0 l.length, .row 5 0 l.length] _ (hτ _ (by decide)) rfl rfl (fun i r hr => ?_) (fun i x r hx hr => ?_)
  · match i with
    | 0 => cases hr; rfl
    | 1 => cases hr; rfl
    | 2 => cases hr; rfl
    | 3 => cases hr; rfl
    | 4 => cases hr; rfl
    | i + 5 => simp at hr
  · match i with
    | 0 => cases hx; cases hr; exact fz_rows rfl (hτ _ (by decide)) (by simp [ndL]) (ndL_one l)
    | 1 =>
      cases hx; cases hr
      refine .row 2 1 0 l.length (kTabR l l.length) (kidsL l) (hτ _ (by decide)) rfl (by simp [kidsL]) (by rw [kTab_lenR]; exact Nat.le_refl _) (fun i x r hx hr => ?_) (fun i r k q hr hq => ?_) (fun i x r k y q hx hr hy hq => ?_)
      · obtain ⟨_, rfl⟩ := List.getElem?_eq_some_iff.1 hx
        obtain ⟨_, rfl⟩ := List.getElem?_eq_some_iff.1 hr
        simp [kTabR, kidsL]
      · obtain ⟨_, rfl⟩ := List.getElem?_eq_some_iff.1 hr
        have := List.mem_of_getElem? hq
        simp [kidsL] at this
        rw [this]; rfl
      · obtain ⟨hl, rfl⟩ := List.getElem?_eq_some_iff.1 hx
        obtain ⟨_, rfl⟩ := List.getElem?_eq_some_iff.1 hr
        rw [kTab_lenR] at hl
        cases k with
        | succ k => simp [kTabR] at hy
        | zero =>
          simp [kTabR] at hy
          simp [kidsL] at hq
          subst hy; subst hq
          refine fz_rows (xs := intsL (natsI (kidsOf l i))) ?_ (hτ _ (by omega)) (by simp [intsL, natsI, kidsOf]) (intsL_one _)
          have := kRows_getR (k := l.length) (C := []) hl
          rw [List.append_nil] at this
          exact this
    | 2 => cases hx; cases hr; exact fz_rows rfl (hτ _ (by decide)) (by simp [intsL, endsL]) (intsL_one _)
    | 3 => cases hx; cases hr; exact fz_rows rfl (hτ _ (by decide)) (by simp [intsL, depTo]) (intsL_one _)
    | 4 => cases hx; cases hr; exact fz_rows rfl (hτ _ (by decide)) (by simp [boolL, madeTo]) (boolL_one _)
    | i + 5 => simp at hx

set_option maxRecDepth 20000 in
set_option maxHeartbeats 8000000 in
theorem sp_kin_OfR (l : List Nd) (hb : l.length ≤ 8589934592) (hc : chk l = 0) (i0 v : Nat) : CallR Go.Proofs.Try.prog 17 [.row i0 v l.length] [(i0, .row 49 v (rvs (ndL l)))] [] (.tup [.rv (kinV l), .rv (.int .i64 0)]) := by
  refine callR_M k_kin_Of [i0] [.row 49 v (rvs (ndL l))] [.row 49 v (rvs (ndL l))] [.row 0 v l.length] [.row i0 v l.length] _ _ (by simp) (by simp [BkAll, bk_row]) rfl (by simp [nodupL]) ⟨rfl, rfl, ⟨rfl, _, rfl⟩, trivial⟩ (fun K hK => ?_)
  have hlen := ndL_len l
  have hck0 := sp_tree_Check l hb
  rw [hc] at hck0
  have hck := lend1 (id := 0) (v := v) (n := l.length) (bs := []) hck0 (.int _ _) (by simp [ndL]) (ndL_one l)
  have ht : treeOK l = true := by
    unfold chk at hc
    cases h : treeOK l with
    | true => rfl
    | false => rw [h] at hc; simp at hc
  have hs : Shp l := shape_iff.1 (by unfold treeOK at ht; simp -implicitDefEqProofs only [Bool.and_eq_true] at ht; exact ht.1)
  have e00 : (((0 : Int)) != 0) = false := rfl
  simp -implicitDefEqProofs only [c_kin_Of, go_sem, ↓reduceIte, Nat.reduceEqDiff, Nat.reduceAdd, Nat.reduceSub, Nat.reduceMul, Nat.reduceLeDiff, Nat.reduceLT, reduceCtorEq, Int.reduceToNat]
  have hb2 : (ndL l).length ≤ 8589934592 := by rw [hlen]; exact hb
  have hcall1 := hck; have hcall2 := sp_Clone_NodeR l hb 0 v 1 (by decide); repeat' (first | (simp -implicitDefEqProofs only [go_sem, ↓reduceIte, Nat.reduceEqDiff, Nat.reduceAdd, Nat.reduceSub, Nat.reduceMul, Nat.reduceLeDiff, Nat.reduceLT, reduceCtorEq, Int.reduceToNat, e00, hlen, rvs_rep1, rvs_repB]) | (with_reducible refine g_noent ?_) | (refine g_call hcall1 (by simp [PreOK, hget]; done) (by simp [okU, uph]; done) ?_) | (refine g_calld hcall1 (by simp [PreOK, hget]; done) (by simp [okU, uph]; done) ?_) | (refine g_call hcall2 (by simp [PreOK, hget]; done) (by simp [okU, uph]; done) ?_) | (refine g_calld hcall2 (by simp [PreOK, hget]; done) (by simp [okU, uph]; done) ?_) | (refine cdS (fun hg => ?_) (fun hg => ?_) <;> try simp -implicitDefEqProofs only [hg, Bool.not_true, Bool.not_false]) | (refine gdS (fun hg => ?_) (fun hg => ?_) <;> try simp -implicitDefEqProofs only [hg, Bool.not_true, Bool.not_false]) | (refine gddS (fun hg => ?_) (fun hg => ?_) <;> try simp -implicitDefEqProofs only [hg, Bool.not_true, Bool.not_false]) | ((with_reducible apply And.intro); focus (first | trivial | omega | decide | (simp -implicitDefEqProofs only [maxLen]; omega) | (simp [maxLen, sty_len, nd_len, ndL_len, lnL_len, intsL_len, rvs_len, lensS_len]; done) | (simp [maxLen, sty_len, nd_len, ndL_len, lnL_len, intsL_len, rvs_len, lensS_len]; omega))) | fail)
  have hkt : ∀ n : Nat, kTabR l 0 = ghTab 7 l.length l.length := fun _ => kTab_zeroR l
  let ev : Nat → List (Nat × SV) := fun k => [(33, .rv (.int .i64 k)), (32, .rv (.int .i64 l.length)), (31, .row 0 v l.length), (5, .ptr 6 0), (0, .row 0 v l.length)]
  refine g_loop (ι := Nat) (fun k => [(33, .rv (.int .i64 k)), (32, .rv (.int .i64 l.length)), (31, .row 0 v l.length), (5, .ptr 6 0), (0, .row 0 v l.length)]) (fun k => some (.row 49 v (rvs (ndL l))) :: some (.row 49 1 (rvs (ndL l))) :: some (.row 1 0 (kTabR l k)) :: some (.row 1 0 (rvs (intsL (List.replicate l.length 0)))) :: some (.row 1 0 (rvs (intsL (depTo l k)))) :: some (.row 1 0 (rvs (boolL (madeTo l k)))) :: some (.var [.row 1 1 l.length, .row 2 0 l.length, .row 3 0 l.length, .row 4 0 l.length, .row 5 0 l.length]) :: kRowsR l k) (fun k => k ≤ l.length) (fun k => l.length - k) 0 (by simp) ?_ (fun k hk K' hN hX hR => ?_)
  · refine (ent_env (env' := [(33, .rv (.int .i64 0)), (32, .rv (.int .i64 l.length)), (31, .row 0 v l.length), (5, .ptr 6 0), (0, .row 0 v l.length)]) (by simp [lk])).trans ?_
    rw [kTab_zeroR, kRows_zeroR, depTo_zero, madeTo_zero]
    exact ent_ghosts (r := 2) (v := 0) (n := l.length) (e := 1) rfl
  simp -implicitDefEqProofs only [go_sem, ↓reduceIte, Nat.reduceEqDiff, Nat.reduceAdd, Nat.reduceSub, Nat.reduceMul, Nat.reduceLeDiff, Nat.reduceLT, reduceCtorEq, Int.reduceToNat]
  refine cdS (fun hg => ?_) (fun hg => ?_)
  · have hk4 : k < l.length := by simp at hg; omega
    have hx := ndL_get hk4
    have krl := kRows_lenR l k
    have hdl := depTo_len l k
    have hdd := intsL_len (depTo l k)
    have hd1 := intsL_getD (l := depTo l k) (i := k) (by omega)
    have hml := madeTo_len l k
    have hmm := boolL_len (madeTo l k)
    have hm1 := boolL_getD (bs := madeTo l k) (i := k) (by omega)
    have hsh := shownL_eq hk4
    have e1 : (l.length = l.length + 1) = False := eq_false (by omega)
    have e2 : (l.length = l.length + 2) = False := eq_false (by omega)
    have hds := depTo_set hk4
    have hds2 := depTo_set2 hk4
    have wu := wrap_up (k := k) (by omega)
    by_cases hk0 : 0 < k
    · have hgt : decide ((k : Int) > 0) = true := decide_eq_true (by omega)
      obtain ⟨p1, p2⟩ := hs.wf.2 k hk0 hk4
      obtain ⟨p, hp⟩ : ∃ p : Nat, parL l k = p := ⟨(parL l k).toNat, by omega⟩
      have hpl : p < l.length := by omega
      have q0 : (p = l.length) = False := eq_false (by omega)
      have q1 : (p = l.length + 1) = False := eq_false (by omega)
      have q2 : (p = l.length + 2) = False := eq_false (by omega)
      have hpk := parL_eq hk4
      have hds3 : (depTo l k).set k 1 = (depTo l k).set k 1 := rfl
      have hdsl : ((depTo l k).set k 1).length = l.length := by simp [hdl]
      have hdsl2 := intsL_len ((depTo l k).set k 1)
      have hdp := intsL_getD (l := (depTo l k).set k 1) (i := p) (by omega)
      have hdk := intsL_getD (l := (depTo l k).set k 1) (i := k) (by omega)
      rw [depTo_get (by omega) (by omega)] at hdp
      have hdep := depth_par hs.wf hk0 hk4
      rw [hp, Int.toNat_natCast] at hdep
      have wd := wrap_up (k := depth l p) (by have := pth_len (l := l) p; unfold depth; omega)
      rw [← hdep] at wd
      obtain ⟨b, hsv⟩ : ∃ b, shownL l k = b := ⟨_, rfl⟩
      have hmp := boolL_getD (bs := (madeTo l k).set k b) (i := p) (by simp [hml]; omega)
      have hmk := boolL_getD (bs := (madeTo l k).set k b) (i := k) (by simp [hml]; omega)
      rw [madeTo_get (by omega) (by omega)] at hmp
      have hmsl : ((madeTo l k).set k b).length = l.length := by simp [hml]
      have hmsl2 := boolL_len ((madeTo l k).set k b)
      have hms : ((madeTo l k).set k b).set k (b && madeS l p) = madeTo l (k + 1) := by
        have := madeS_par hs.wf hk0 hk4
        rw [hp, Int.toNat_natCast, hsv] at this
        rw [List.set_set, ← this, madeTo_set hk4]
      have hktl := kTab_lenR l k
      have hktg := kTab_getR (k := k) hpl
      have hkrg := fun C => kRows_getR (k := k) (C := C) hpl
      have hkn := kRows_nextR hk0 hp hpl
      have htn := kTab_nextR hk0 hp hpl
      have hsp := fun (y : Option HB) C => kRows_setPR (k := k) (y := y) (C := C) hpl
      have hkl : (natsI (kidsTo l k p)).length = (kidsTo l k p).length := by simp [natsI]
      have hkl2 := intsL_len (natsI (kidsTo l k p))
      have htk : (intsL (natsI (kidsTo l k p))).take (kidsTo l k p).length = intsL (natsI (kidsTo l k p)) := List.take_of_length_le (by rw [hkl2, hkl]; exact Nat.le_refl _)
      have hkk := kidsTo_len (l := l) (k := k) (p := p)
      cases b
      all_goals simp -implicitDefEqProofs only [Bool.false_and, Bool.true_and] at hms
      · repeat' (first | (simp -implicitDefEqProofs only [go_sem, ↓reduceIte, Nat.reduceEqDiff, Nat.reduceAdd, Nat.reduceSub, Nat.reduceMul, Nat.reduceLeDiff, Nat.reduceLT, reduceCtorEq, Int.reduceToNat, hlen, hx, krl, nd_len, nd_sv48, nd_sv49m, Nat.add_assoc, kRows_endR, List.append_assoc, hdl, hdd, hd1, hml, hmm, hm1, rvs_set1, rvs_setB, nd_at0, hsh, hsv, e1, e2, kRows_setER, hgt, hpk, hp, nd_atp, hktl, hktg, hkrg, q0, q1, q2, hsp, kRows_end1R, kRows_end2R, hkl, hkl2, htk, rvs_app1, hkn, htn, hdsl, hdsl2, hdp, hdk, wd, hds2, wu, hmp, hmk, hmsl, hmsl2]) | (with_reducible refine g_noent ?_) | (refine cdS (fun hg => ?_) (fun hg => ?_) <;> try simp -implicitDefEqProofs only [hg, Bool.not_true, Bool.not_false]) | (refine gdS (fun hg => ?_) (fun hg => ?_) <;> try simp -implicitDefEqProofs only [hg, Bool.not_true, Bool.not_false]) | (refine gddS (fun hg => ?_) (fun hg => ?_) <;> try simp -implicitDefEqProofs only [hg, Bool.not_true, Bool.not_false]) | ((with_reducible apply And.intro); focus (first | trivial | omega | decide | (simp -implicitDefEqProofs only [maxLen]; omega) | (simp [maxLen, sty_len, nd_len, ndL_len, lnL_len, intsL_len, rvs_len, lensS_len]; done) | (simp [maxLen, sty_len, nd_len, ndL_len, lnL_len, intsL_len, rvs_len, lensS_len]; omega) | (simp (decide := true) [compatB, compatB1, apartT, disj, Nat.testBit, q0, q1, q2]; done))) | fail)
        rw [hms]
        exact hN (k + 1) _ _ (by omega) (by omega) (kHeap_tailR (v := v) (l := l) (k := k + 1) (by simp [ClEnv, lk, clS_rv, clS_ptr, clS_row]))
      · repeat' (first | (simp -implicitDefEqProofs only [go_sem, ↓reduceIte, Nat.reduceEqDiff, Nat.reduceAdd, Nat.reduceSub, Nat.reduceMul, Nat.reduceLeDiff, Nat.reduceLT, reduceCtorEq, Int.reduceToNat, hlen, hx, krl, nd_len, nd_sv48, nd_sv49m, Nat.add_assoc, kRows_endR, List.append_assoc, hdl, hdd, hd1, hml, hmm, hm1, rvs_set1, rvs_setB, nd_at0, hsh, hsv, e1, e2, kRows_setER, hgt, hpk, hp, nd_atp, hktl, hktg, hkrg, q0, q1, q2, hsp, kRows_end1R, kRows_end2R, hkl, hkl2, htk, rvs_app1, hkn, htn, hdsl, hdsl2, hdp, hdk, wd, hds2, wu, hmp, hmk, hmsl, hmsl2]) | (with_reducible refine g_noent ?_) | (refine cdS (fun hg => ?_) (fun hg => ?_) <;> try simp -implicitDefEqProofs only [hg, Bool.not_true, Bool.not_false]) | (refine gdS (fun hg => ?_) (fun hg => ?_) <;> try simp -implicitDefEqProofs only [hg, Bool.not_true, Bool.not_false]) | (refine gddS (fun hg => ?_) (fun hg => ?_) <;> try simp -implicitDefEqProofs only [hg, Bool.not_true, Bool.not_false]) | ((with_reducible apply And.intro); focus (first | trivial | omega | decide | (simp -implicitDefEqProofs only [maxLen]; omega) | (simp [maxLen, sty_len, nd_len, ndL_len, lnL_len, intsL_len, rvs_len, lensS_len]; done) | (simp [maxLen, sty_len, nd_len, ndL_len, lnL_len, intsL_len, rvs_len, lensS_len]; omega) | (simp (decide := true) [compatB, compatB1, apartT, disj, Nat.testBit, q0, q1, q2]; done))) | fail)
        rw [hms]
        exact hN (k + 1) _ _ (by omega) (by omega) (kHeap_tailR (v := v) (l := l) (k := k + 1) (by simp [ClEnv, lk, clS_rv, clS_ptr, clS_row]))
    · obtain rfl : k = 0 := by omega
      have hgt : decide (((0 : Nat) : Int) > 0) = false := rfl
      rw [depth_zero] at hds
      have hms := madeTo_set hk4
      rw [madeS_zero] at hms
      have hds1 : (depTo l 0).set 0 1 = depTo l (0 + 1) := hds
      repeat' (first | (simp -implicitDefEqProofs only [go_sem, ↓reduceIte, Nat.reduceEqDiff, Nat.reduceAdd, Nat.reduceSub, Nat.reduceMul, Nat.reduceLeDiff, Nat.reduceLT, reduceCtorEq, Int.reduceToNat, hlen, hx, krl, nd_len, nd_sv48, nd_sv49m, Nat.add_assoc, kRows_endR, List.append_assoc, hdl, hdd, hd1, hml, hmm, hm1, rvs_set1, rvs_setB, nd_at0, hsh, e1, e2, kRows_setER, hgt, wu, hms, hds1]) | (with_reducible refine g_noent ?_) | (refine cdS (fun hg => ?_) (fun hg => ?_) <;> try simp -implicitDefEqProofs only [hg, Bool.not_true, Bool.not_false]) | (refine gdS (fun hg => ?_) (fun hg => ?_) <;> try simp -implicitDefEqProofs only [hg, Bool.not_true, Bool.not_false]) | (refine gddS (fun hg => ?_) (fun hg => ?_) <;> try simp -implicitDefEqProofs only [hg, Bool.not_true, Bool.not_false]) | ((with_reducible apply And.intro); focus (first | trivial | omega | decide | (simp -implicitDefEqProofs only [maxLen]; omega) | (simp [maxLen, sty_len, nd_len, ndL_len, lnL_len, intsL_len, rvs_len, lensS_len]; done) | (simp [maxLen, sty_len, nd_len, ndL_len, lnL_len, intsL_len, rvs_len, lensS_len]; omega))) | fail)
      refine hN 1 _ _ (by omega) (by omega) ?_
      rw [kTab_firstR, kRows_firstR]
      exact kHeap_tailR (v := v) (l := l) (k := 0) (es := List.replicate l.length 0) (ds := depTo l (0 + 1)) (bs := madeTo l (0 + 1)) (C := [some (.var ((l[0]'hk4).cells.map .rv))]) (by simp [ClEnv, lk, clS_rv, clS_ptr, clS_row])
  · have hk4 : k = l.length := by simp at hg; omega
    subst hk4
    simp -implicitDefEqProofs only [go_sem, ↓reduceIte, Nat.reduceEqDiff, Nat.reduceAdd, Nat.reduceSub, Nat.reduceMul, Nat.reduceLeDiff, Nat.reduceLT, reduceCtorEq, Int.reduceToNat]
    refine hX _ _ _ ?_
    have wl := wrap_dn hs.pos (by omega)
    repeat' (first | (simp -implicitDefEqProofs only [go_sem, ↓reduceIte, Nat.reduceEqDiff, Nat.reduceAdd, Nat.reduceSub, Nat.reduceMul, Nat.reduceLeDiff, Nat.reduceLT, reduceCtorEq, Int.reduceToNat, hlen, wl]) | (with_reducible refine g_noent ?_) | (refine cdS (fun hg => ?_) (fun hg => ?_) <;> try simp -implicitDefEqProofs only [hg, Bool.not_true, Bool.not_false]) | (refine gdS (fun hg => ?_) (fun hg => ?_) <;> try simp -implicitDefEqProofs only [hg, Bool.not_true, Bool.not_false]) | (refine gddS (fun hg => ?_) (fun hg => ?_) <;> try simp -implicitDefEqProofs only [hg, Bool.not_true, Bool.not_false]) | ((with_reducible apply And.intro); focus (first | trivial | omega | decide | (simp -implicitDefEqProofs only [maxLen]; omega) | (simp [maxLen, sty_len, nd_len, ndL_len, lnL_len, intsL_len, rvs_len, lensS_len]; done) | (simp [maxLen, sty_len, nd_len, ndL_len, lnL_len, intsL_len, rvs_len, lensS_len]; omega))) | fail)
    clear hN hX hR
    refine g_loop (ι := Nat) (fun k => [(8, .rv (.int .i64 ((k : Int) - 1))), (5, .ptr 6 0)]) (fun k => kHeapR v l l.length (endTo l k) (depTo l l.length) (madeTo l l.length)) (fun k => k ≤ l.length) (fun k => k) l.length (Nat.le_refl _) (by rw [endTo_top]; exact ent_env (by simp [lk]; have := hs.pos; omega)) (fun k hk K' hN hX hR => ?_)
    simp -implicitDefEqProofs only [kHeapR, go_sem, ↓reduceIte, Nat.reduceEqDiff, Nat.reduceAdd, Nat.reduceSub, Nat.reduceMul, Nat.reduceLeDiff, Nat.reduceLT, reduceCtorEq, Int.reduceToNat]
    refine cdS (fun hg => ?_) (fun hg => ?_)
    · have hk0 : 0 < k := by simp at hg; omega
      obtain ⟨j, rfl⟩ : ∃ j, k = j + 1 := ⟨k - 1, by omega⟩
      have ej : (((j + 1 : Nat) : Int) - 1) = (j : Int) := by omega
      have wj := wrap_up (k := j) (by omega)
      have hjl : j < l.length := by omega
      have hel := endTo_len l (j + 1)
      have hell := intsL_len (endTo l (j + 1))
      have he1 := intsL_getD (l := endTo l (j + 1)) (i := j) (by omega)
      have hktl := kTab_lenR l l.length
      have hktg := kTab_getR (k := l.length) hjl
      have hkrg := kRows_getR (k := l.length) (C := []) hjl
      simp -implicitDefEqProofs only [List.append_nil] at hkrg
      have hkl : (natsI (kidsTo l l.length j)).length = (kidsTo l l.length j).length := by simp [natsI]
      have hkl2 := intsL_len (natsI (kidsTo l l.length j))
      have hkk := kidsTo_len (l := l) (k := l.length) (p := j)
      have hsl : ((endTo l (j + 1)).set j ((j + 1 : Nat) : Int)).length = l.length := by simp [hel]
      have hsll := intsL_len ((endTo l (j + 1)).set j ((j + 1 : Nat) : Int))
      have hse := endTo_set (l := l) (k := j + 1) (by omega) (by omega)
      simp -implicitDefEqProofs only [Nat.add_sub_cancel] at hse
      have wd : IntKind.i64.wrap ((j : Int) - 1) = ((j : Int) - 1) := wrap_i64 (by omega) (by omega)
      by_cases hk1 : kidsTo l l.length j = []
      · have hm0 : decide ((((kidsTo l l.length j).length : Nat) : Int) > 0) = false := by rw [hk1]; rfl
        have he := endS_leaf hk1
        rw [he] at hse
        repeat' (first | (simp -implicitDefEqProofs only [go_sem, ↓reduceIte, Nat.reduceEqDiff, Nat.reduceAdd, Nat.reduceSub, Nat.reduceMul, Nat.reduceLeDiff, Nat.reduceLT, reduceCtorEq, Int.reduceToNat, hel, hell, he1, hktl, hktg, hkrg, ej, wj, hm0, rvs_set1, hse, wd]) | (with_reducible refine g_noent ?_) | (refine cdS (fun hg => ?_) (fun hg => ?_) <;> try simp -implicitDefEqProofs only [hg, Bool.not_true, Bool.not_false]) | (refine gdS (fun hg => ?_) (fun hg => ?_) <;> try simp -implicitDefEqProofs only [hg, Bool.not_true, Bool.not_false]) | (refine gddS (fun hg => ?_) (fun hg => ?_) <;> try simp -implicitDefEqProofs only [hg, Bool.not_true, Bool.not_false]) | ((with_reducible apply And.intro); focus (first | trivial | omega | decide | (simp -implicitDefEqProofs only [maxLen]; omega) | (simp [maxLen, sty_len, nd_len, ndL_len, lnL_len, intsL_len, rvs_len, lensS_len]; done) | (simp [maxLen, sty_len, nd_len, ndL_len, lnL_len, intsL_len, rvs_len, lensS_len]; omega))) | fail)
        refine hN j _ _ (by omega) (by omega) (ent_env (by simp [lk]))
      · obtain ⟨c, hc⟩ : ∃ c, (kidsTo l l.length j).getLast? = some c := by
          cases h : (kidsTo l l.length j).getLast? with
          | none => exact absurd (List.getLast?_eq_none_iff.1 h) hk1
          | some c => exact ⟨c, rfl⟩
        have hpos : 0 < (kidsTo l l.length j).length := List.length_pos_iff.2 hk1
        have hm0 : decide ((((kidsTo l l.length j).length : Nat) : Int) > 0) = true := decide_eq_true (by omega)
        have hcm : c ∈ kidsOf l j := List.mem_of_getLast? hc
        obtain ⟨c1, c2, c3⟩ := mem_kids.1 hcm
        have hcj : j < c := by have := (hs.wf.2 c c1 c2).2; omega
        have he := endS_last hc hcj c2
        rw [he] at hse
        have wm := wrap_dn hpos (by omega)
        have hcg : (natsI (kidsTo l l.length j)).getD ((kidsTo l l.length j).length - 1) 0 = (c : Int) := by
          rw [List.getLast?_eq_getElem?] at hc
          simp [natsI, List.getD_eq_getElem?_getD, hc]
        have hcx := intsL_getD (l := natsI (kidsTo l l.length j)) (i := (kidsTo l l.length j).length - 1) (by omega)
        rw [hcg] at hcx
        have hec := intsL_getD (l := (endTo l (j + 1)).set j ((j + 1 : Nat) : Int)) (i := c) (by omega)
        have hev := endTo_get (l := l) (k := j + 1) (j := c) (v := ((j + 1 : Nat) : Int)) (by omega) (by omega) c2
        simp -implicitDefEqProofs only [Nat.add_sub_cancel] at hev
        rw [hev] at hec
        have hej := intsL_getD (l := (endTo l (j + 1)).set j ((j + 1 : Nat) : Int)) (i := j) (by omega)
        have hset : ((endTo l (j + 1)).set j ((j + 1 : Nat) : Int)).set j (endS l c) = endTo l j := by rw [List.set_set, hse]
        repeat' (first | (simp -implicitDefEqProofs only [go_sem, ↓reduceIte, Nat.reduceEqDiff, Nat.reduceAdd, Nat.reduceSub, Nat.reduceMul, Nat.reduceLeDiff, Nat.reduceLT, reduceCtorEq, Int.reduceToNat, hel, hell, he1, hktl, hktg, hkrg, ej, wj, hm0, rvs_set1, wd, wm, hcx, hec, hej, hset, hsl, hsll, hkl, hkl2]) | (with_reducible refine g_noent ?_) | (refine cdS (fun hg => ?_) (fun hg => ?_) <;> try simp -implicitDefEqProofs only [hg, Bool.not_true, Bool.not_false]) | (refine gdS (fun hg => ?_) (fun hg => ?_) <;> try simp -implicitDefEqProofs only [hg, Bool.not_true, Bool.not_false]) | (refine gddS (fun hg => ?_) (fun hg => ?_) <;> try simp -implicitDefEqProofs only [hg, Bool.not_true, Bool.not_false]) | ((with_reducible apply And.intro); focus (first | trivial | omega | decide | (simp -implicitDefEqProofs only [maxLen]; omega) | (simp [maxLen, sty_len, nd_len, ndL_len, lnL_len, intsL_len, rvs_len, lensS_len]; done) | (simp [maxLen, sty_len, nd_len, ndL_len, lnL_len, intsL_len, rvs_len, lensS_len]; omega))) | fail)
        refine hN j _ _ (by omega) (by omega) (ent_env (by simp [lk]))
    · obtain rfl : k = 0 := by simp at hg; omega
      simp -implicitDefEqProofs only [go_sem, ↓reduceIte, Nat.reduceEqDiff, Nat.reduceAdd, Nat.reduceSub, Nat.reduceMul, Nat.reduceLeDiff, Nat.reduceLT, reduceCtorEq, Int.reduceToNat]
      refine hX _ _ _ ?_
      repeat' (first | (simp -implicitDefEqProofs only [go_sem, ↓reduceIte, Nat.reduceEqDiff, Nat.reduceAdd, Nat.reduceSub, Nat.reduceMul, Nat.reduceLeDiff, Nat.reduceLT, reduceCtorEq, Int.reduceToNat]) | (with_reducible refine g_noent ?_) | (refine cdS (fun hg => ?_) (fun hg => ?_) <;> try simp -implicitDefEqProofs only [hg, Bool.not_true, Bool.not_false]) | (refine gdS (fun hg => ?_) (fun hg => ?_) <;> try simp -implicitDefEqProofs only [hg, Bool.not_true, Bool.not_false]) | (refine gddS (fun hg => ?_) (fun hg => ?_) <;> try simp -implicitDefEqProofs only [hg, Bool.not_true, Bool.not_false]) | ((with_reducible apply And.intro); focus (first | trivial | omega | decide | (simp -implicitDefEqProofs only [maxLen]; omega) | (simp [maxLen, sty_len, nd_len, ndL_len, lnL_len, intsL_len, rvs_len, lensS_len]; done) | (simp [maxLen, sty_len, nd_len, ndL_len, lnL_len, intsL_len, rvs_len, lensS_len]; omega))) | fail)
      refine (hK _ _ _ _ [] (ent_refl _ _) ?_).2
      rw [endTo_zero]
      simp -implicitDefEqProofs only [retM, List.map_cons, List.map_nil, List.append_nil]
      refine ⟨by simp [nodupL], trivial, trivial, ⟨?_, trivial⟩, trivial, rn_tup.2 ⟨?_, rn_rv.2 rfl, trivial⟩⟩
      · rw [show finU (lkp ([i0].zip [HB.row 49 v (rvs (ndL l))]) i0) [] i0 = some (HB.row 49 v (rvs (ndL l))) from by simp [finU, lkp]]
        exact ⟨rfl, rfl, rnRows_rvs.2 rfl⟩
      · exact .fz _ _ (kin_fzR v l (fun j hj => by cases j with
          | zero => omega
          | succ j => rfl))


end Go.Eng

/- kin: what is told of a node is what the document says. -/
namespace Go.Eng
open Go
/- decoupage/decoupagelaw06.Plain -/
def c_decoupagelaw06_Plain : AC := (.seq (.reg [⟨(some 0), (.alloc [(.bool false), (.int .i64 0), (.int .i64 0), (.int .i64 0), (.int .i64 0), (.int .i64 0), (.int .i64 0), (.int .i64 0), (.int .i64 0), (.int .i64 0), (.int .i64 0), (.int .i64 0), (.int .i64 0), (.int .i64 0), (.int .i64 0), (.int .i64 0), (.int .i64 0), (.int .i64 0), (.int .i64 0), (.int .i64 0), (.int .i64 0), (.int .i64 0), (.int .i64 0), (.int .i64 0), (.int .i64 0), (.int .i64 0), (.int .i64 0), (.int .i64 0), (.int .i64 0), (.int .i64 0), (.int .i64 0), (.int .i64 0), (.int .i64 0), (.int .i64 0), (.int .i64 0), (.int .i64 0), (.int .i64 0), (.int .i64 0), (.int .i64 0), (.int .i64 0), (.int .i64 0), (.int .i64 0), (.bool false), (.bool false), (.int .i64 0), (.bool false), (.int .i64 0), (.int .i64 0)]), [], none⟩]) (.seq (.reg [⟨(some 3), (.build [(.bool false), (.int .i64 0), (.int .i64 0), (.int .i64 0), (.int .i64 0), (.int .i64 0), (.int .i64 0), (.int .i64 0), (.int .i64 0), (.int .i64 0), (.int .i64 0), (.int .i64 0), (.int .i64 0), (.int .i64 0), (.int .i64 0), (.int .i64 0), (.int .i64 0), (.int .i64 0), (.int .i64 0), (.int .i64 0), (.int .i64 0), (.int .i64 0), (.int .i64 0), (.int .i64 0), (.int .i64 0), (.int .i64 0), (.int .i64 0), (.int .i64 0), (.int .i64 0), (.int .i64 0), (.int .i64 0), (.int .i64 0), (.int .i64 0), (.int .i64 0), (.int .i64 0), (.int .i64 0), (.int .i64 0), (.int .i64 0), (.int .i64 0), (.int .i64 0), (.int .i64 0), (.int .i64 0), (.bool false), (.bool false), (.int .i64 0), (.bool false), (.int .i64 0), (.int .i64 0)] [(0, 1)]), [(.c (.rv (.bool true)))], none⟩, ⟨(some 1), (.alloc [(.bool false), (.int .i64 0), (.int .i64 0), (.int .i64 0), (.int .i64 0), (.int .i64 0), (.int .i64 0), (.int .i64 0), (.int .i64 0), (.int .i64 0), (.int .i64 0), (.int .i64 0), (.int .i64 0), (.int .i64 0), (.int .i64 0), (.int .i64 0), (.int .i64 0), (.int .i64 0), (.int .i64 0), (.int .i64 0), (.int .i64 0), (.int .i64 0), (.int .i64 0), (.int .i64 0), (.int .i64 0), (.int .i64 0), (.int .i64 0), (.int .i64 0), (.int .i64 0), (.int .i64 0), (.int .i64 0), (.int .i64 0), (.int .i64 0), (.int .i64 0), (.int .i64 0), (.int .i64 0), (.int .i64 0), (.int .i64 0), (.int .i64 0), (.int .i64 0), (.int .i64 0), (.int .i64 0), (.bool false), (.bool false), (.int .i64 0), (.bool false), (.int .i64 0), (.int .i64 0)]), [], none⟩, ⟨none, (.store 48), [(.t 1), (.t 3)], none⟩]) (.seq (.seq (.reg [⟨(some 4), .mv, [(.c (.rv (.int .i64 0)))], none⟩]) (.seq (.block 0 (.loop (.seq (.reg [⟨(some 5), (.ibin .lss), [(.t 4), (.c (.rv (.int .i64 4)))], none⟩]) (.seq (.cond (.t 5) .skip (.exit 0)) (.seq (.seq (.block 1 (.seq (.reg [⟨(some 6), .mv, [(.t 4)], none⟩, ⟨(some 2), .mv, [(.t 6)], none⟩]) (.reg [⟨(some 7), .mv, [(.t 2)], none⟩, ⟨(some 8), (.build [(.int .i64 0), (.int .i64 0)] [(0, 1)]), [(.c (.rv (.int .i64 1)))], none⟩, ⟨(some 9), (.fld 30), [(.t 1)], none⟩, ⟨(some 10), (.ixa 4 2), [(.t 9), (.t 7)], none⟩, ⟨none, (.store 2), [(.t 10), (.t 8)], none⟩]))) .ent) (.reg [⟨(some 11), (.ibin .add), [(.t 4), (.c (.rv (.int .i64 1)))], none⟩, ⟨(some 4), .mv, [(.t 11)], none⟩])))))) .ent)) (.seq (.reg [⟨(some 12), (.load 48 true), [(.t 1)], none⟩, ⟨none, (.store 48), [(.t 0), (.t 12)], none⟩]) .ret))))
theorem k_decoupagelaw06_Plain : FnOK Go.Proofs.Try.prog 54 13 c_decoupagelaw06_Plain [(.c 0 48 true)] := fnOK_of (by kernel_rfl)

def kindsB : List CK → List RV → Bool
  | [], [] => true
  | .b :: ks, .bool _ :: rs => kindsB ks rs
  | .i :: ks, .int _ _ :: rs => kindsB ks rs
  | .s :: ks, .str _ :: rs => kindsB ks rs
  | _, _ => false
/-- A style that says nothing. -/
def plainS : Sty := { (default : Sty) with shown := true, pad := ⟨⟨1, 0⟩, ⟨1, 0⟩, ⟨1, 0⟩, ⟨1, 0⟩⟩ }
def plainTo (k : Nat) : Sty := { (default : Sty) with shown := true, pad := ⟨if 0 < k then ⟨1, 0⟩ else default, if 1 < k then ⟨1, 0⟩ else default, if 2 < k then ⟨1, 0⟩ else default, if 3 < k then ⟨1, 0⟩ else default⟩ }

theorem sp_Plain : CallR Go.Proofs.Try.prog 54 [] [] [] plainS.sv := by
  refine callR_G k_decoupagelaw06_Plain [] _ (by simp) (by simp [BkAll, bk_agg, bkAll_map, bk_rv, bk_fn, Sty.sv, Ln.sv, Nd.sv]) (fun K hK => ?_)
  simp -implicitDefEqProofs only [c_decoupagelaw06_Plain, go_sem, ↓reduceIte, Nat.reduceEqDiff, Nat.reduceAdd, Nat.reduceSub, Nat.reduceMul, Nat.reduceLeDiff, Nat.reduceLT, reduceCtorEq, Int.reduceToNat]
  repeat' (first | (simp -implicitDefEqProofs only [go_sem, ↓reduceIte, Nat.reduceEqDiff, Nat.reduceAdd, Nat.reduceSub, Nat.reduceMul, Nat.reduceLeDiff, Nat.reduceLT, reduceCtorEq, Int.reduceToNat]) | (with_reducible refine g_noent ?_) | (refine cdS (fun hg => ?_) (fun hg => ?_) <;> try simp -implicitDefEqProofs only [hg, Bool.not_true, Bool.not_false]) | (refine gdS (fun hg => ?_) (fun hg => ?_) <;> try simp -implicitDefEqProofs only [hg, Bool.not_true, Bool.not_false]) | (refine gddS (fun hg => ?_) (fun hg => ?_) <;> try simp -implicitDefEqProofs only [hg, Bool.not_true, Bool.not_false]) | ((with_reducible apply And.intro); focus (first | trivial | omega | decide | (simp -implicitDefEqProofs only [maxLen]; omega) | (simp [maxLen, sty_len, nd_len, ndL_len, lnL_len, intsL_len, rvs_len, lensS_len]; done) | (simp [maxLen, sty_len, nd_len, ndL_len, lnL_len, intsL_len, rvs_len, lensS_len]; omega) | (exact ⟨rfl, by decide⟩; done))) | fail)
  refine g_loop (ι := Nat) (fun k => [(4, .rv (.int .i64 k)), (0, .ptr 0 0), (1, .ptr 1 0)]) (fun k => [some (.var ((default : Sty).cells.map .rv)), some (.var ((plainTo k).cells.map .rv))]) (fun k => k ≤ 4) (fun k => 4 - k) 0 (by simp) (ent_env (by simp [lk])) (fun k hk K' hN hX hR => ?_)
  simp -implicitDefEqProofs only [go_sem, ↓reduceIte, Nat.reduceEqDiff, Nat.reduceAdd, Nat.reduceSub, Nat.reduceMul, Nat.reduceLeDiff, Nat.reduceLT, reduceCtorEq, Int.reduceToNat]
  refine cdS (fun hg => ?_) (fun hg => ?_)
  · have : k = 0 ∨ k = 1 ∨ k = 2 ∨ k = 3 := by simp at hg; omega
    rcases this with rfl | rfl | rfl | rfl
    all_goals
      repeat' (first | (simp -implicitDefEqProofs only [go_sem, ↓reduceIte, Nat.reduceEqDiff, Nat.reduceAdd, Nat.reduceSub, Nat.reduceMul, Nat.reduceLeDiff, Nat.reduceLT, reduceCtorEq, Int.reduceToNat, sty_len, wrap_up (k := 0) (by decide), wrap_up (k := 1) (by decide), wrap_up (k := 2) (by decide), wrap_up (k := 3) (by decide)]) | (with_reducible refine g_noent ?_) | (refine cdS (fun hg => ?_) (fun hg => ?_) <;> try simp -implicitDefEqProofs only [hg, Bool.not_true, Bool.not_false]) | (refine gdS (fun hg => ?_) (fun hg => ?_) <;> try simp -implicitDefEqProofs only [hg, Bool.not_true, Bool.not_false]) | (refine gddS (fun hg => ?_) (fun hg => ?_) <;> try simp -implicitDefEqProofs only [hg, Bool.not_true, Bool.not_false]) | ((with_reducible apply And.intro); focus (first | trivial | omega | decide | (simp -implicitDefEqProofs only [maxLen]; omega) | (simp [maxLen, sty_len, nd_len, ndL_len, lnL_len, intsL_len, rvs_len, lensS_len]; done) | (simp [maxLen, sty_len, nd_len, ndL_len, lnL_len, intsL_len, rvs_len, lensS_len]; omega))) | fail)
    · exact hN 1 _ _ (by omega) (by omega) (ent_env (by simp [lk]))
    · exact hN 2 _ _ (by omega) (by omega) (ent_env (by simp [lk]))
    · exact hN 3 _ _ (by omega) (by omega) (ent_env (by simp [lk]))
    · exact hN 4 _ _ (by omega) (by omega) (ent_env (by simp [lk]))
  · have hk4 : k = 4 := by simp at hg; omega
    subst hk4
    simp -implicitDefEqProofs only [go_sem, ↓reduceIte, Nat.reduceEqDiff, Nat.reduceAdd, Nat.reduceSub, Nat.reduceMul, Nat.reduceLeDiff, Nat.reduceLT, reduceCtorEq, Int.reduceToNat]
    refine hX _ _ _ ?_
    repeat' (first | (simp -implicitDefEqProofs only [go_sem, ↓reduceIte, Nat.reduceEqDiff, Nat.reduceAdd, Nat.reduceSub, Nat.reduceMul, Nat.reduceLeDiff, Nat.reduceLT, reduceCtorEq, Int.reduceToNat, sty_len, sty_all2]) | (with_reducible refine g_noent ?_) | (refine cdS (fun hg => ?_) (fun hg => ?_) <;> try simp -implicitDefEqProofs only [hg, Bool.not_true, Bool.not_false]) | (refine gdS (fun hg => ?_) (fun hg => ?_) <;> try simp -implicitDefEqProofs only [hg, Bool.not_true, Bool.not_false]) | (refine gddS (fun hg => ?_) (fun hg => ?_) <;> try simp -implicitDefEqProofs only [hg, Bool.not_true, Bool.not_false]) | ((with_reducible apply And.intro); focus (first | trivial | omega | decide | (simp -implicitDefEqProofs only [maxLen]; omega) | (simp [maxLen, sty_len, nd_len, ndL_len, lnL_len, intsL_len, rvs_len, lensS_len]; done) | (simp [maxLen, sty_len, nd_len, ndL_len, lnL_len, intsL_len, rvs_len, lensS_len]; omega) | (rfl; done) | (exact ⟨rfl, by decide⟩; done))) | fail)
    exact (hK _ _ (ret_c (rs := plainS.cells) rfl rfl rfl)).2

end Go.Eng

/- prefer: the statements as functions: told. -/
namespace Go.Eng
open Go
/- decoupage/decoupagelaw15.awake -/
def c_decoupagelaw15_awake : AC := (.seq (.reg [⟨(some 0), .mv, [(.c (.rv (.bool false)))], none⟩]) (.seq (.reg [⟨(some 6), (.call 54), [], none⟩, ⟨(some 1), (.alloc [(.bool false), (.int .i64 0), (.int .i64 0), (.int .i64 0), (.int .i64 0), (.int .i64 0), (.int .i64 0), (.int .i64 0), (.int .i64 0), (.int .i64 0), (.int .i64 0), (.int .i64 0), (.int .i64 0), (.int .i64 0), (.int .i64 0), (.int .i64 0), (.int .i64 0), (.int .i64 0), (.int .i64 0), (.int .i64 0), (.int .i64 0), (.int .i64 0), (.int .i64 0), (.int .i64 0), (.int .i64 0), (.int .i64 0), (.int .i64 0), (.int .i64 0), (.int .i64 0), (.int .i64 0), (.int .i64 0), (.int .i64 0), (.int .i64 0), (.int .i64 0), (.int .i64 0), (.int .i64 0), (.int .i64 0), (.int .i64 0), (.int .i64 0), (.int .i64 0), (.int .i64 0), (.int .i64 0), (.bool false), (.bool false), (.int .i64 0), (.bool false), (.int .i64 0), (.int .i64 0)]), [], none⟩, ⟨none, (.store 48), [(.t 1), (.t 6)], none⟩]) (.seq (.reg [⟨(some 7), (.build [(.int .i64 0), (.int .i64 0)] [(0, 1), (1, 1)]), [(.c (.rv (.int .i64 1))), (.c (.rv (.int .i64 10)))], none⟩, ⟨(some 8), (.fld 10), [(.t 1)], none⟩, ⟨none, (.store 2), [(.t 8), (.t 7)], none⟩]) (.seq (.reg [⟨(some 10), (.load 48 true), [(.t 1)], none⟩, ⟨(some 11), (.build [(.bool false), (.int .i64 0), (.int .i64 0), (.int .i64 0), (.int .i64 0), (.int .i64 0), (.int .i64 0), (.int .i64 0), (.int .i64 0), (.int .i64 0), (.int .i64 0), (.int .i64 0), (.int .i64 0), (.int .i64 0), (.int .i64 0), (.int .i64 0), (.int .i64 0), (.int .i64 0), (.int .i64 0), (.int .i64 0), (.int .i64 0), (.int .i64 0), (.int .i64 0), (.int .i64 0), (.int .i64 0), (.int .i64 0), (.int .i64 0), (.int .i64 0), (.int .i64 0), (.int .i64 0), (.int .i64 0), (.int .i64 0), (.int .i64 0), (.int .i64 0), (.int .i64 0), (.int .i64 0), (.int .i64 0), (.int .i64 0), (.int .i64 0), (.int .i64 0), (.int .i64 0), (.int .i64 0), (.bool false), (.bool false), (.int .i64 0), (.bool false), (.int .i64 0), (.int .i64 0), (.int .i64 0)] [(0, 48), (48, 1)]), [(.t 10), (.c (.rv (.int .i64 (-1))))], none⟩, ⟨(some 12), (.bsl 49), [(.t 11)], none⟩, ⟨(some 13), (.call 17), [(.t 12)], none⟩, ⟨(some 9), .mv, [(.t 13)], none⟩, ⟨(some 14), (.ext 0), [(.t 9)], none⟩, ⟨(some 15), (.ext 1), [(.t 9)], none⟩, ⟨(some 2), .mv, [(.t 14)], none⟩, ⟨(some 3), .mv, [(.t 15)], none⟩]) (.seq (.reg [⟨(some 17), .mv, [(.t 2)], none⟩, ⟨(some 18), (.call 52), [(.t 17), (.c (.rv (.int .i64 0)))], none⟩, ⟨(some 16), .mv, [(.t 18)], none⟩, ⟨(some 19), (.ext 0), [(.t 16)], none⟩, ⟨(some 20), (.ext 1), [(.t 16)], none⟩, ⟨(some 4), .mv, [(.t 19)], none⟩, ⟨(some 5), .mv, [(.t 20)], none⟩]) (.seq (.reg [⟨(some 21), .mv, [(.t 3)], none⟩, ⟨(some 22), (.ibin .eql), [(.t 21), (.c (.rv (.int .i64 0)))], none⟩, ⟨(some 23), .mv, [(.t 22)], none⟩, ⟨(some 24), .mv, [(.t 5)], (some (23, true))⟩, ⟨(some 25), .pick, [(.t 23), (.t 24), (.c (.rv (.bool false)))], none⟩, ⟨(some 26), .mv, [(.t 25)], none⟩, ⟨(some 27), .mv, [(.t 4)], (some (26, true))⟩, ⟨(some 28), (.ibin .eql), [(.t 27), (.c (.rv (.int .i64 10)))], (some (26, true))⟩, ⟨(some 29), .pick, [(.t 26), (.t 28), (.c (.rv (.bool false)))], none⟩, ⟨(some 0), .mv, [(.t 29)], none⟩]) .ret))))))
theorem k_decoupagelaw15_awake : FnOK Go.Proofs.Try.prog 51 30 c_decoupagelaw15_awake [(.t 0)] := fnOK_of (by kernel_rfl)

/- decoupage/decoupagelaw15.PreferTells -/
def c_decoupagelaw15_PreferTells : AC := (.seq (.reg [⟨(some 4), .mv, [(.c (.rv (.bool false)))], none⟩]) (.seq (.seq (.reg [⟨(some 11), (.call 51), [], none⟩, ⟨(some 12), .not, [(.t 11)], none⟩, ⟨(some 13), .mv, [(.t 12)], none⟩, ⟨(some 14), .mv, [(.t 0)], (some (13, false))⟩, ⟨(some 15), .len, [(.t 14)], (some (13, false))⟩, ⟨(some 16), (.ibin .gtr), [(.t 15), (.c (.rv (.int .i64 30)))], (some (13, false))⟩, ⟨(some 17), .pick, [(.t 13), (.c (.rv (.bool true))), (.t 16)], none⟩, ⟨(some 18), .mv, [(.t 17)], none⟩, ⟨(some 19), .mv, [(.t 0)], (some (18, false))⟩, ⟨(some 20), (.call 21), [(.t 19)], (some (18, false))⟩, ⟨(some 21), (.ibin .neq), [(.t 20), (.c (.rv (.int .i64 0)))], (some (18, false))⟩, ⟨(some 22), .pick, [(.t 18), (.c (.rv (.bool true))), (.t 21)], none⟩]) (.cond (.t 22) (.seq (.reg [⟨(some 23), (.call 51), [], none⟩, ⟨(some 4), .mv, [(.t 23)], none⟩]) .ret) .skip)) (.seq (.reg [⟨(some 25), .mv, [(.t 0)], none⟩, ⟨(some 26), (.call 17), [(.t 25)], none⟩, ⟨(some 24), .mv, [(.t 26)], none⟩, ⟨(some 27), (.ext 0), [(.t 24)], none⟩, ⟨(some 28), (.ext 1), [(.t 24)], none⟩, ⟨(some 5), .mv, [(.t 27)], none⟩, ⟨(some 6), .mv, [(.t 28)], none⟩]) (.seq (.reg [⟨(some 30), .mv, [(.t 5)], none⟩, ⟨(some 31), .mv, [(.t 1)], none⟩, ⟨(some 32), (.call 52), [(.t 30), (.t 31)], none⟩, ⟨(some 29), .mv, [(.t 32)], none⟩, ⟨(some 33), (.ext 0), [(.t 29)], none⟩, ⟨(some 34), (.ext 1), [(.t 29)], none⟩, ⟨(some 7), .mv, [(.t 33)], none⟩, ⟨(some 8), .mv, [(.t 34)], none⟩]) (.seq (.reg [⟨(some 36), .mv, [(.t 0)], none⟩, ⟨(some 37), .mv, [(.t 1)], none⟩, ⟨(some 38), (.call 53), [(.t 36), (.t 37)], none⟩, ⟨(some 35), .mv, [(.t 38)], none⟩, ⟨(some 39), (.ext 0), [(.t 35)], none⟩, ⟨(some 40), (.ext 1), [(.t 35)], none⟩, ⟨(some 9), .mv, [(.t 39)], none⟩, ⟨(some 10), .mv, [(.t 40)], none⟩]) (.seq (.reg [⟨(some 41), .mv, [(.t 6)], none⟩, ⟨(some 42), (.ibin .eql), [(.t 41), (.c (.rv (.int .i64 0)))], none⟩, ⟨(some 43), .mv, [(.t 42)], none⟩, ⟨(some 44), .mv, [(.t 7)], (some (43, true))⟩, ⟨(some 45), .mv, [(.t 9)], (some (43, true))⟩, ⟨(some 46), (.ibin .eql), [(.t 44), (.t 45)], (some (43, true))⟩, ⟨(some 47), .pick, [(.t 43), (.t 46), (.c (.rv (.bool false)))], none⟩, ⟨(some 48), .mv, [(.t 47)], none⟩, ⟨(some 49), .mv, [(.t 8)], (some (48, true))⟩, ⟨(some 50), .mv, [(.t 10)], (some (48, true))⟩, ⟨(some 51), (.eqb false), [(.t 49), (.t 50)], (some (48, true))⟩, ⟨(some 52), .pick, [(.t 48), (.t 51), (.c (.rv (.bool false)))], none⟩, ⟨(some 4), .mv, [(.t 52)], none⟩]) .ret))))))
theorem k_decoupagelaw15_PreferTells : FnOK Go.Proofs.Try.prog 11 53 c_decoupagelaw15_PreferTells [(.t 4)] := fnOK_of (by kernel_rfl)


def wideS (n : Int) : Sty := { plainS with width := ⟨1, n⟩ }
theorem wide_chk : chk [⟨wideS 10, -1⟩] = 0 := by decide +kernel
theorem wide_tree : treeOK [⟨wideS 10, -1⟩] = true := by decide +kernel
theorem wide_made : madeAt [⟨wideS 10, -1⟩] 0 = true := by
  simp [madeAt, inL, madeS_zero, shownL, wideS, plainS]
theorem wide_content : contentF [⟨wideS 10, -1⟩] 2 0 = (10, true) := by
  have hs : styAt [⟨wideS 10, -1⟩] 0 = wideS 10 := rfl
  rw [contentF, if_neg (by simp [wide_made]), hs]
  rfl

theorem sp_awake15 : CallR Go.Proofs.Try.prog 51 [] [] [] (.rv (.bool true)) := by
  refine callR_G k_decoupagelaw15_awake [] _ (by simp) (by simp [BkAll, bk_agg, bkAll_map, bk_rv, bk_fn, Sty.sv, Ln.sv, Nd.sv]) (fun K hK => ?_)
  have hk := sp_kin_OfR [⟨wideS 10, -1⟩] (by decide) wide_chk 1 0
  have h1 := sp_Content [⟨wideS 10, -1⟩] (tree_shp wide_tree) (by decide) 2 0 (by decide)
  rw [wide_content] at h1
  have e1 : ((0 : Int) == 0) = true := rfl
  have e2 : ((10 : Int) == 10) = true := rfl
  simp -implicitDefEqProofs only [c_decoupagelaw15_awake, go_sem, ↓reduceIte, Nat.reduceEqDiff, Nat.reduceAdd, Nat.reduceSub, Nat.reduceMul, Nat.reduceLeDiff, Nat.reduceLT, reduceCtorEq, Int.reduceToNat]
  have hcall1 := sp_Plain; repeat' (first | (simp -implicitDefEqProofs only [go_sem, ↓reduceIte, Nat.reduceEqDiff, Nat.reduceAdd, Nat.reduceSub, Nat.reduceMul, Nat.reduceLeDiff, Nat.reduceLT, reduceCtorEq, Int.reduceToNat, sty_len]) | (with_reducible refine g_noent ?_) | (with_reducible refine g_call0 hcall1 ?_) | (with_reducible refine g_calld0 hcall1 ?_) | (refine cdS (fun hg => ?_) (fun hg => ?_) <;> try simp -implicitDefEqProofs only [hg, Bool.not_true, Bool.not_false]) | (refine gdS (fun hg => ?_) (fun hg => ?_) <;> try simp -implicitDefEqProofs only [hg, Bool.not_true, Bool.not_false]) | (refine gddS (fun hg => ?_) (fun hg => ?_) <;> try simp -implicitDefEqProofs only [hg, Bool.not_true, Bool.not_false]) | ((with_reducible apply And.intro); focus (first | trivial | omega | decide | (simp -implicitDefEqProofs only [maxLen]; omega) | (simp [maxLen, sty_len, nd_len, ndL_len, lnL_len, intsL_len, rvs_len, lensS_len]; done) | (simp [maxLen, sty_len, nd_len, ndL_len, lnL_len, intsL_len, rvs_len, lensS_len]; omega) | (rfl; done) | (exact ⟨rfl, by decide⟩; done))) | fail)
  refine g_call hk (pre_one rfl) trivial ?_
  have hcall2 := h1; repeat' (first | (simp -implicitDefEqProofs only [go_sem, ↓reduceIte, Nat.reduceEqDiff, Nat.reduceAdd, Nat.reduceSub, Nat.reduceMul, Nat.reduceLeDiff, Nat.reduceLT, reduceCtorEq, Int.reduceToNat, e1, e2]) | (with_reducible refine g_noent ?_) | (with_reducible refine g_call0 hcall2 ?_) | (with_reducible refine g_calld0 hcall2 ?_) | (refine cdS (fun hg => ?_) (fun hg => ?_) <;> try simp -implicitDefEqProofs only [hg, Bool.not_true, Bool.not_false]) | (refine gdS (fun hg => ?_) (fun hg => ?_) <;> try simp -implicitDefEqProofs only [hg, Bool.not_true, Bool.not_false]) | (refine gddS (fun hg => ?_) (fun hg => ?_) <;> try simp -implicitDefEqProofs only [hg, Bool.not_true, Bool.not_false]) | ((with_reducible apply And.intro); focus (first | trivial | omega | decide | (simp -implicitDefEqProofs only [maxLen]; omega) | (simp [maxLen, sty_len, nd_len, ndL_len, lnL_len, intsL_len, rvs_len, lensS_len]; done) | (simp [maxLen, sty_len, nd_len, ndL_len, lnL_len, intsL_len, rvs_len, lensS_len]; omega))) | fail)
  exact (hK _ _ (ret_t rfl)).2

theorem sp_PreferTells (l : List Nd) (n : Int) : CallR Go.Proofs.Try.prog 11 [.rv (.sl 49 (ndL l)), .rv (.int .i64 n)] [] [] (.rv (.bool true)) := by
  refine callR_G k_decoupagelaw15_PreferTells [.rv (.sl 49 (ndL l)), .rv (.int .i64 n)] _ (by simp) (by simp [BkAll, bk_agg, bkAll_map, bk_rv, bk_fn, Sty.sv, Ln.sv, Nd.sv]) (fun K hK => ?_)
  have hlen := ndL_len l
  simp -implicitDefEqProofs only [c_decoupagelaw15_PreferTells, go_sem, ↓reduceIte, Nat.reduceEqDiff, Nat.reduceAdd, Nat.reduceSub, Nat.reduceMul, Nat.reduceLeDiff, Nat.reduceLT, reduceCtorEq, Int.reduceToNat]
  by_cases hl : l.length > 30
  · have e1 : decide ((l.length : Int) > 30) = true := decide_eq_true (by omega)
    have hcall3 := sp_awake15; repeat' (first | (simp -implicitDefEqProofs only [go_sem, ↓reduceIte, Nat.reduceEqDiff, Nat.reduceAdd, Nat.reduceSub, Nat.reduceMul, Nat.reduceLeDiff, Nat.reduceLT, reduceCtorEq, Int.reduceToNat, hlen, e1]) | (with_reducible refine g_noent ?_) | (with_reducible refine g_call0 hcall3 ?_) | (with_reducible refine g_calld0 hcall3 ?_) | (refine cdS (fun hg => ?_) (fun hg => ?_) <;> try simp -implicitDefEqProofs only [hg, Bool.not_true, Bool.not_false]) | (refine gdS (fun hg => ?_) (fun hg => ?_) <;> try simp -implicitDefEqProofs only [hg, Bool.not_true, Bool.not_false]) | (refine gddS (fun hg => ?_) (fun hg => ?_) <;> try simp -implicitDefEqProofs only [hg, Bool.not_true, Bool.not_false]) | ((with_reducible apply And.intro); focus (first | trivial | omega | decide | (simp -implicitDefEqProofs only [maxLen]; omega) | (simp [maxLen, sty_len, nd_len, ndL_len, lnL_len, intsL_len, rvs_len, lensS_len]; done) | (simp [maxLen, sty_len, nd_len, ndL_len, lnL_len, intsL_len, rvs_len, lensS_len]; omega))) | fail)
    exact (hK _ _ (ret_t rfl)).2
  · have e1 : decide ((l.length : Int) > 30) = false := decide_eq_false (by omega)
    have hb : l.length ≤ 8589934592 := by omega
    have hck := sp_ref07_Check l hb
    by_cases hc : chk l = 0
    · have ht := chk_tree hc
      have hs := tree_shp ht
      rw [hc] at hck
      have e00 : ((0 : Int) != 0) = false := rfl
      have e01 : ((0 : Int) == 0) = true := rfl
      have h1 := sp_Content l hs hb (((l.length : Int) - n).toNat + 1) n (by omega)
      have h2 := sp_ref15_Content l ht hb (((l.length : Int) - n).toNat + 1) n (by omega)
      generalize contentF l (((l.length : Int) - n).toNat + 1) n = c at h1 h2
      have hcall4 := sp_awake15; have hcall5 := hck; have hcall6 := sp_kin_Of l hb hc; have hcall7 := h1; have hcall8 := h2; repeat' (first | (simp -implicitDefEqProofs only [go_sem, ↓reduceIte, Nat.reduceEqDiff, Nat.reduceAdd, Nat.reduceSub, Nat.reduceMul, Nat.reduceLeDiff, Nat.reduceLT, reduceCtorEq, Int.reduceToNat, hlen, e1, e00, e01, beq_self_eq_true]) | (with_reducible refine g_noent ?_) | (with_reducible refine g_call0 hcall4 ?_) | (with_reducible refine g_calld0 hcall4 ?_) | (with_reducible refine g_call0 hcall5 ?_) | (with_reducible refine g_calld0 hcall5 ?_) | (with_reducible refine g_call0 hcall6 ?_) | (with_reducible refine g_calld0 hcall6 ?_) | (with_reducible refine g_call0 hcall7 ?_) | (with_reducible refine g_calld0 hcall7 ?_) | (with_reducible refine g_call0 hcall8 ?_) | (with_reducible refine g_calld0 hcall8 ?_) | (refine cdS (fun hg => ?_) (fun hg => ?_) <;> try simp -implicitDefEqProofs only [hg, Bool.not_true, Bool.not_false]) | (refine gdS (fun hg => ?_) (fun hg => ?_) <;> try simp -implicitDefEqProofs only [hg, Bool.not_true, Bool.not_false]) | (refine gddS (fun hg => ?_) (fun hg => ?_) <;> try simp -implicitDefEqProofs only [hg, Bool.not_true, Bool.not_false]) | ((with_reducible apply And.intro); focus (first | trivial | omega | decide | (simp -implicitDefEqProofs only [maxLen]; omega) | (simp [maxLen, sty_len, nd_len, ndL_len, lnL_len, intsL_len, rvs_len, lensS_len]; done) | (simp [maxLen, sty_len, nd_len, ndL_len, lnL_len, intsL_len, rvs_len, lensS_len]; omega))) | fail)
      exact (hK _ _ (ret_t rfl)).2
    · have e00 : (chk l != 0) = true := by simpa using hc
      have hcall9 := sp_awake15; have hcall10 := hck; repeat' (first | (simp -implicitDefEqProofs only [go_sem, ↓reduceIte, Nat.reduceEqDiff, Nat.reduceAdd, Nat.reduceSub, Nat.reduceMul, Nat.reduceLeDiff, Nat.reduceLT, reduceCtorEq, Int.reduceToNat, hlen, e1, e00]) | (with_reducible refine g_noent ?_) | (with_reducible refine g_call0 hcall9 ?_) | (with_reducible refine g_calld0 hcall9 ?_) | (with_reducible refine g_call0 hcall10 ?_) | (with_reducible refine g_calld0 hcall10 ?_) | (refine cdS (fun hg => ?_) (fun hg => ?_) <;> try simp -implicitDefEqProofs only [hg, Bool.not_true, Bool.not_false]) | (refine gdS (fun hg => ?_) (fun hg => ?_) <;> try simp -implicitDefEqProofs only [hg, Bool.not_true, Bool.not_false]) | (refine gddS (fun hg => ?_) (fun hg => ?_) <;> try simp -implicitDefEqProofs only [hg, Bool.not_true, Bool.not_false]) | ((with_reducible apply And.intro); focus (first | trivial | omega | decide | (simp -implicitDefEqProofs only [maxLen]; omega) | (simp [maxLen, sty_len, nd_len, ndL_len, lnL_len, intsL_len, rvs_len, lensS_len]; done) | (simp [maxLen, sty_len, nd_len, ndL_len, lnL_len, intsL_len, rvs_len, lensS_len]; omega))) | fail)
      exact (hK _ _ (ret_t rfl)).2
end Go.Eng

/- What comes in, as nodes and numbers. -/
namespace Go.Eng
open Go Go.Proofs

theorem tyInt {n : Nat} {rs : List RV} (h : TyC Go.Proofs.Try.prog (n + 1) 3 rs) : ∃ i, rs = [.int .i64 i] := by
  obtain ⟨i, h, _⟩ := tyC_int Try.underlying3 h
  exact ⟨i, h⟩
theorem tyInt64 {n : Nat} {rs : List RV} (h : TyC Go.Proofs.Try.prog (n + 1) 2 rs) : ∃ i, rs = [.int .i64 i] := by
  obtain ⟨i, h, _⟩ := tyC_int Try.underlying2 h
  exact ⟨i, h⟩
theorem tyBool {n : Nat} {rs : List RV} (h : TyC Go.Proofs.Try.prog (n + 1) 4 rs) : ∃ b, rs = [.bool b] := by
  exact tyC_bool Try.underlying4 h
theorem tyLen {n : Nat} {rs : List RV} (h : TyC Go.Proofs.Try.prog (n + 2) 36 rs) : ∃ x : Ln, rs = x.cells := by
  have h := tyC_struct Try.underlying36 h
  obtain ⟨_, _, rfl, h1, _, _, rfl, h2, rfl⟩ := h
  obtain ⟨i, rfl⟩ := tyInt h1
  obtain ⟨j, rfl⟩ := tyInt64 h2
  exact ⟨⟨i, j⟩, rfl⟩
theorem list4 {α : Type} {xs : List α} (h : xs.length = 4) : ∃ a b c d, xs = [a, b, c, d] := by
  match xs, h with
  | [a, b, c, d], _ => exact ⟨a, b, c, d, rfl⟩
theorem tyQ {n : Nat} {rs : List RV} (h : TyC Go.Proofs.Try.prog (n + 3) 37 rs) : ∃ q : Q4 Ln, rs = q.lns := by
  obtain ⟨xs, rfl, hl, hx⟩ := tyC_array Try.underlying37 h
  obtain ⟨a, b, c, d, rfl⟩ := list4 hl
  obtain ⟨a, rfl⟩ := tyLen (hx a (by simp))
  obtain ⟨b, rfl⟩ := tyLen (hx b (by simp))
  obtain ⟨c, rfl⟩ := tyLen (hx c (by simp))
  obtain ⟨d, rfl⟩ := tyLen (hx d (by simp))
  exact ⟨⟨a, b, c, d⟩, rfl⟩
theorem tyB {n : Nat} {rs : List RV} (h : TyC Go.Proofs.Try.prog (n + 2) 38 rs) : ∃ q : Q4 Int, rs = q.ints := by
  obtain ⟨xs, rfl, hl, hx⟩ := tyC_array Try.underlying38 h
  obtain ⟨a, b, c, d, rfl⟩ := list4 hl
  obtain ⟨a, rfl⟩ := tyInt64 (hx a (by simp))
  obtain ⟨b, rfl⟩ := tyInt64 (hx b (by simp))
  obtain ⟨c, rfl⟩ := tyInt64 (hx c (by simp))
  obtain ⟨d, rfl⟩ := tyInt64 (hx d (by simp))
  exact ⟨⟨a, b, c, d⟩, rfl⟩
theorem tySty {n : Nat} {rs : List RV} (h : TyC Go.Proofs.Try.prog (n + 4) 40 rs) : ∃ s : Sty, rs = s.cells := by
  have h := tyC_struct Try.underlying40 h
  obtain ⟨_, _, rfl, h1, _, _, rfl, h2, _, _, rfl, h3, _, _, rfl, h4, _, _, rfl, h5, _, _, rfl, h6, _, _, rfl, h7, _, _, rfl, h8, _, _, rfl, h9, _, _, rfl, h10, _, _, rfl, h11, _, _, rfl, h12, _, _, rfl, h13, _, _, rfl, h14, _, _, rfl, h15, _, _, rfl, h16, _, _, rfl, h17, _, _, rfl, h18, rfl⟩ := h
  obtain ⟨b1, rfl⟩ := tyBool h1
  obtain ⟨i2, rfl⟩ := tyInt h2
  obtain ⟨q3, rfl⟩ := tyQ h3
  obtain ⟨x4, rfl⟩ := tyLen h4
  obtain ⟨x5, rfl⟩ := tyLen h5
  obtain ⟨x6, rfl⟩ := tyLen h6
  obtain ⟨x7, rfl⟩ := tyLen h7
  obtain ⟨x8, rfl⟩ := tyLen h8
  obtain ⟨x9, rfl⟩ := tyLen h9
  obtain ⟨q10, rfl⟩ := tyQ h10
  obtain ⟨q11, rfl⟩ := tyQ h11
  obtain ⟨q12, rfl⟩ := tyB h12
  obtain ⟨b13, rfl⟩ := tyBool h13
  obtain ⟨b14, rfl⟩ := tyBool h14
  obtain ⟨i15, rfl⟩ := tyInt64 h15
  obtain ⟨b16, rfl⟩ := tyBool h16
  obtain ⟨i17, rfl⟩ := tyInt64 h17
  obtain ⟨i18, rfl⟩ := tyInt64 h18
  exact ⟨⟨b1, i2, q3, x4, x5, x6, x7, x8, x9, q10, q11, q12, b13, b14, i15, b16, i17, i18⟩, rfl⟩
theorem tyNode {n : Nat} {rs : List RV} (h : TyC Go.Proofs.Try.prog (n + 5) 42 rs) : ∃ x : Nd, rs = x.cells := by
  have h := tyC_struct Try.underlying42 h
  obtain ⟨_, _, rfl, h1, _, _, rfl, h2, rfl⟩ := h
  obtain ⟨s, rfl⟩ := tySty h1
  obtain ⟨i, rfl⟩ := tyInt h2
  exact ⟨⟨s, i⟩, rfl⟩
theorem list_of {α : Type} {f : α → List RV} : ∀ {xs : List (List RV)}, (∀ x ∈ xs, ∃ a, x = f a) → ∃ l : List α, xs = l.map f
  | [], _ => ⟨[], rfl⟩
  | x :: xs, h => by
    obtain ⟨a, rfl⟩ := h x (by simp)
    obtain ⟨l, rfl⟩ := list_of (xs := xs) fun y hy => h y (by simp [hy])
    exact ⟨a :: l, rfl⟩

theorem cells49 : Program.cellsOf Go.Proofs.Try.prog 42 = 49 := by kernel_rfl
theorem aggN : aggT Go.Proofs.Try.prog 22 = some false := by kernel_rfl
theorem aggI : aggT Go.Proofs.Try.prog 3 = some false := by kernel_rfl

theorem openNodes {rs : List RV} (h : TyC Go.Proofs.Try.prog 6 22 rs) : ∃ l : List Nd, argS Go.Proofs.Try.prog 22 rs = .rv (.sl 49 (ndL l)) := by
  obtain ⟨xs, rfl, _, hx⟩ := tyC_slice Try.underlying22 h
  obtain ⟨l, rfl⟩ := list_of fun x hx' => tyNode (hx x hx')
  refine ⟨l, ?_⟩
  rw [argS_one aggN, cells49]; rfl
theorem openInt {rs : List RV} (h : TyC Go.Proofs.Try.prog 1 3 rs) : ∃ i : Int, argS Go.Proofs.Try.prog 3 rs = .rv (.int .i64 i) := by
  obtain ⟨i, rfl⟩ := tyInt h
  exact ⟨i, argS_one aggI⟩
end Go.Eng
