/- Part 5 of the proof: C7. -/
import Derived.Test.YtiajmaeempoihaaClipNone4
set_option linter.unusedSimpArgs false
set_option linter.unusedVariables false

/- clip: the statements as functions: none. -/
namespace Go.Eng
open Go
/- decoupage/decoupagelaw22.ClipNone -/
def c_decoupagelaw22_ClipNone : AC := (.seq (.reg [⟨(some 3), .box, [(.t 1)], none⟩, ⟨(some 4), .mv, [(.c (.rv (.bool false)))], none⟩]) (.seq (.seq (.reg [⟨(some 12), (.call 14), [], none⟩, ⟨(some 13), .not, [(.t 12)], none⟩, ⟨(some 14), .mv, [(.t 13)], none⟩, ⟨(some 15), .mv, [(.t 0)], (some (14, false))⟩, ⟨(some 16), .len, [(.t 15)], (some (14, false))⟩, ⟨(some 17), (.ibin .gtr), [(.t 16), (.c (.rv (.int .i64 30)))], (some (14, false))⟩, ⟨(some 18), .pick, [(.t 14), (.c (.rv (.bool true))), (.t 17)], none⟩, ⟨(some 19), .mv, [(.t 18)], none⟩, ⟨(some 20), .mv, [(.t 0)], (some (19, false))⟩, ⟨(some 21), (.call 16), [(.t 20)], (some (19, false))⟩, ⟨(some 22), (.ibin .neq), [(.t 21), (.c (.rv (.int .i64 0)))], (some (19, false))⟩, ⟨(some 23), .pick, [(.t 19), (.c (.rv (.bool true))), (.t 22)], none⟩]) (.cond (.t 23) (.seq (.reg [⟨(some 24), (.call 14), [], none⟩, ⟨(some 4), .mv, [(.t 24)], none⟩]) .ret) .skip)) (.seq (.reg [⟨(some 25), (.bsl 49), [], none⟩, ⟨(some 26), .mv, [(.t 0)], none⟩, ⟨(some 27), (.app 49 384), [(.t 25), (.t 26)], none⟩, ⟨(some 5), .mv, [(.t 27)], none⟩]) (.seq (.seq (.reg [⟨(some 28), .mv, [(.t 5)], none⟩, ⟨(some 29), .len, [(.t 28)], none⟩, ⟨(some 30), .mv, [(.c (.rv (.int .i64 0)))], none⟩]) (.seq (.block 0 (.loop (.seq (.reg [⟨(some 31), (.ibin .lss), [(.t 30), (.t 29)], none⟩]) (.seq (.cond (.t 31) .skip (.exit 0)) (.seq (.seq (.block 1 (.seq (.reg [⟨(some 32), .mv, [(.t 30)], none⟩, ⟨(some 6), .mv, [(.t 32)], none⟩]) (.reg [⟨(some 33), .mv, [(.t 5)], none⟩, ⟨(some 34), .mv, [(.t 6)], none⟩, ⟨(some 35), (.ixs 49), [(.t 33), (.t 34)], none⟩, ⟨(some 36), (.fld 0), [(.t 35)], none⟩, ⟨(some 37), (.fld 45), [(.t 36)], none⟩, ⟨none, (.store 1), [(.t 37), (.c (.rv (.bool false)))], none⟩]))) .ent) (.reg [⟨(some 38), (.ibin .add), [(.t 30), (.c (.rv (.int .i64 1)))], none⟩, ⟨(some 30), .mv, [(.t 38)], none⟩])))))) .ent)) (.seq (.reg [⟨(some 40), .mv, [(.t 5)], none⟩, ⟨(some 41), (.call 17), [(.t 40)], none⟩, ⟨(some 39), .mv, [(.t 41)], none⟩, ⟨(some 42), (.ext 0), [(.t 39)], none⟩, ⟨(some 43), (.ext 1), [(.t 39)], none⟩, ⟨(some 7), .mv, [(.t 42)], none⟩, ⟨(some 8), .mv, [(.t 43)], none⟩]) (.seq (.regd [0, 0, 2, 6, 0, 31, 63] [⟨(some 44), .mv, [(.t 7)], none⟩, ⟨(some 45), .mv, [(.t 5)], none⟩, ⟨(some 46), .len, [(.t 45)], none⟩, ⟨(some 47), (.mksl 21 168 [(.bool false), (.int .i64 0), (.int .i64 0), (.int .i64 0), (.int .i64 0), (.int .i64 0), (.int .i64 0), (.int .i64 0), (.int .i64 0), (.int .i64 0), (.int .i64 0), (.int .i64 0), (.int .i64 0), (.int .i64 0), (.int .i64 0), (.int .i64 0), (.int .i64 0), (.int .i64 0), (.int .i64 0), (.int .i64 0), (.int .i64 0)]), [(.t 46), (.t 46)], none⟩, ⟨(some 48), (.load 2 true), [(.t 3)], none⟩, ⟨(some 49), (.call 19), [(.t 44), (.t 47), (.t 48)], none⟩, ⟨(some 9), .mv, [(.t 49)], none⟩]) (.seq (.seq (.reg [⟨(some 50), .mv, [(.t 8)], none⟩, ⟨(some 51), (.ibin .neq), [(.t 50), (.c (.rv (.int .i64 0)))], none⟩, ⟨(some 52), .mv, [(.t 51)], none⟩, ⟨(some 53), .mv, [(.t 9)], (some (52, false))⟩, ⟨(some 54), .len, [(.t 53)], (some (52, false))⟩, ⟨(some 55), .mv, [(.t 5)], (some (52, false))⟩, ⟨(some 56), .len, [(.t 55)], (some (52, false))⟩, ⟨(some 57), (.ibin .neq), [(.t 54), (.t 56)], (some (52, false))⟩, ⟨(some 58), .pick, [(.t 52), (.c (.rv (.bool true))), (.t 57)], none⟩]) (.cond (.t 58) (.seq (.reg [⟨(some 4), .mv, [(.c (.rv (.bool false)))], none⟩]) .ret) .skip)) (.seq (.reg [⟨(some 59), (.fld 0), [(.t 3)], none⟩, ⟨(some 60), (.load 1 false), [(.t 59)], none⟩, ⟨(some 61), (.fld 1), [(.t 3)], none⟩, ⟨(some 62), (.load 1 false), [(.t 61)], none⟩, ⟨(some 63), (.build [(.int .i64 0), (.int .i64 0), (.int .i64 0), (.int .i64 0)] [(2, 1), (3, 1)]), [(.t 60), (.t 62)], none⟩, ⟨(some 10), (.alloc [(.int .i64 0), (.int .i64 0), (.int .i64 0), (.int .i64 0)]), [], none⟩, ⟨none, (.store 4), [(.t 10), (.t 63)], none⟩]) (.seq (.seq (.reg [⟨(some 64), .mv, [(.t 9)], none⟩, ⟨(some 65), .len, [(.t 64)], none⟩, ⟨(some 66), .mv, [(.c (.rv (.int .i64 0)))], none⟩]) (.seq (.block 2 (.loop (.seq (.reg [⟨(some 67), (.ibin .lss), [(.t 66), (.t 65)], none⟩]) (.seq (.cond (.t 67) .skip (.exit 2)) (.seq (.seq (.block 3 (.seq (.reg [⟨(some 68), .mv, [(.t 66)], none⟩, ⟨(some 11), .mv, [(.t 68)], none⟩]) (.seq (.regd [0, 0, 3, 7, 15, 15, 63, 127, 15, 15, 783, 2047, 4095, 8191, 16383, 16383, 65535, 131071, 262143, 524287, 524287, 2097151, 4194303, 524287, 16777215, 33554431, 67108863] [⟨(some 69), .mv, [(.t 7)], none⟩, ⟨(some 70), .mv, [(.t 11)], none⟩, ⟨(some 71), (.call 21), [(.t 69), (.t 70)], none⟩, ⟨(some 72), .mv, [(.t 71)], none⟩, ⟨(some 73), .mv, [(.t 9)], (some (72, true))⟩, ⟨(some 74), .mv, [(.t 11)], (some (72, true))⟩, ⟨(some 75), (.ixs 4), [(.t 73), (.t 74)], (some (72, true))⟩, ⟨(some 76), (.load 4 true), [(.t 75)], (some (72, true))⟩, ⟨(some 77), (.load 4 true), [(.t 10)], (some (72, true))⟩, ⟨(some 78), (.load 4 true), [(.t 10)], (some (72, true))⟩, ⟨(some 79), (.call 22), [(.t 77), (.t 78)], (some (72, true))⟩, ⟨(some 80), (.eqs true true [.i, .i, .i, .i]), [(.t 76), (.t 79)], (some (72, true))⟩, ⟨(some 81), .pick, [(.t 72), (.t 80), (.c (.rv (.bool false)))], none⟩, ⟨(some 82), .mv, [(.t 81)], none⟩, ⟨(some 83), .mv, [(.t 7)], (some (82, false))⟩, ⟨(some 84), .mv, [(.t 11)], (some (82, false))⟩, ⟨(some 85), (.call 21), [(.t 83), (.t 84)], (some (82, false))⟩, ⟨(some 86), .not, [(.t 85)], (some (82, false))⟩, ⟨(some 87), .mv, [(.t 86)], (some (82, false))⟩, ⟨(some 88), .mv, [(.t 9)], (some (87, true))⟩, ⟨(some 89), .mv, [(.t 11)], (some (87, true))⟩, ⟨(some 90), (.ixs 4), [(.t 88), (.t 89)], (some (87, true))⟩, ⟨(some 91), (.load 4 true), [(.t 90)], (some (87, true))⟩, ⟨(some 92), (.build [(.int .i64 0), (.int .i64 0), (.int .i64 0), (.int .i64 0)] []), [], (some (87, true))⟩, ⟨(some 93), (.eqs true true [.i, .i, .i, .i]), [(.t 91), (.t 92)], (some (87, true))⟩, ⟨(some 94), .pick, [(.t 87), (.t 93), (.c (.rv (.bool false)))], (some (82, false))⟩, ⟨(some 95), .pick, [(.t 82), (.c (.rv (.bool true))), (.t 94)], none⟩]) (.cond (.t 95) (.seq (.reg [⟨(some 4), .mv, [(.c (.rv (.bool false)))], none⟩]) .ret) .skip)))) .ent) (.reg [⟨(some 96), (.ibin .add), [(.t 66), (.c (.rv (.int .i64 1)))], none⟩, ⟨(some 66), .mv, [(.t 96)], none⟩])))))) .ent)) (.seq (.reg [⟨(some 4), .mv, [(.c (.rv (.bool true)))], none⟩]) .ret))))))))))
theorem k_decoupagelaw22_ClipNone : FnOK Go.Proofs.Try.prog 4 97 c_decoupagelaw22_ClipNone [(.t 4)] := fnOK_of (by kernel_rfl)


theorem pth_congr {l l' : List Nd} (h : ∀ k, parL l k = parL l' k) : ∀ m k, k ≤ m → pth l k = pth l' k
  | m, k, hm => by
    by_cases hp : 0 ≤ parL l k ∧ parL l k < k
    · rw [pth_cons (l := l) hp, pth_cons (l := l') (n := k) (by rw [← h]; exact hp), ← h]
      match m, hm with
      | 0, hm => omega
      | m + 1, hm => rw [pth_congr h m _ (by omega)]
    · rw [pth_one hp, pth_one (by rw [← h]; exact hp)]
def ncN (x : Nd) : Nd := ⟨{ x.s with clip := false }, x.parent⟩
theorem nc_par (l : List Nd) (k : Nat) : parL l k = parL (l.map ncN) k := by
  by_cases h : k < l.length
  · rw [← parL_eq h, ← parL_eq (l := l.map ncN) (by simpa using h)]; simp [ncN]
  · simp [parL, h]
theorem nc_shp {l : List Nd} (hs : Shp l) : Shp (l.map ncN) := by
  refine ⟨by simpa using hs.pos, by rw [← nc_par]; exact hs.root, fun j h0 hj => ?_⟩
  rw [← nc_par, ← pth_congr (nc_par l) _ _ (Nat.le_refl _)]
  exact hs.up j h0 (by simpa using hj)
theorem chk_iffC {l : List Nd} : chk l = 0 ↔ treeOK l = true ∧ l.length ≤ 65535 ∧ (∀ k, k < l.length → depth l k ≤ 256) ∧ ∀ x ∈ l, styIn x.s = true := by
  unfold chk
  cases ht : treeOK l with
  | false => simp
  | true =>
    simp -implicitDefEqProofs only [Bool.true_eq_false, if_false]
    constructor
    · intro h
      split at h
      · simp at h
      · rename_i hn
        simp -implicitDefEqProofs only [Bool.or_eq_true, decide_eq_true_eq, List.any_eq_true, List.mem_range, Bool.not_eq_true', not_or, not_exists, not_and, Bool.not_eq_false] at hn
        exact ⟨trivial, by omega, fun k hk => by have := hn.1.2 k hk; omega, fun x hx => hn.2 x hx⟩
    · rintro ⟨_, h1, h2, h3⟩
      rw [if_neg]
      simp -implicitDefEqProofs only [Bool.or_eq_true, decide_eq_true_eq, List.any_eq_true, List.mem_range, Bool.not_eq_true', not_or, not_exists, not_and, Bool.not_eq_false]
      exact ⟨⟨by omega, fun k hk => by have := h2 k hk; omega⟩, h3⟩
theorem tree_iffC {l : List Nd} : treeOK l = true ↔ Shp l ∧ ∀ x ∈ l, styOK x.s = true := by
  unfold treeOK
  rw [Bool.and_eq_true, shape_iff, List.all_eq_true]
theorem nc_chk {l : List Nd} (hc : chk l = 0) : chk (l.map ncN) = 0 := by
  rw [chk_iffC, tree_iffC] at hc ⊢
  obtain ⟨⟨h1, h2⟩, h3, h4, h5⟩ := hc
  refine ⟨⟨nc_shp h1, fun x hx => ?_⟩, by simpa using h3, fun k hk => ?_, fun x hx => ?_⟩
  · obtain ⟨y, hy, rfl⟩ := List.mem_map.1 hx
    exact h2 y hy
  · have := h4 k (by simpa using hk)
    unfold depth at this ⊢
    rwa [← pth_congr (nc_par l) _ _ (Nat.le_refl _)]
  · obtain ⟨y, hy, rfl⟩ := List.mem_map.1 hx
    exact h5 y hy
theorem nc_clip (l : List Nd) (p : Nat) : (styAt (l.map ncN) p).clip = false := by
  unfold styAt
  split
  · rename_i h
    have hp : p < l.length := by simpa [inL] using h
    simp [hp, ncN]
  · rfl
theorem clip_none {l : List Nd} (hs : Shp l) (hnc : ∀ p : Nat, (styAt l p).clip = false) (bx : List Bx) (v : Rc) : ∀ m (n : Nat), n < m → madeAt l n = true → (clipTo l bx v l.length).getD n zeroR = v
  | 0, n, h, _ => by omega
  | m + 1, n, h, hm => by
    rw [clip_full hs bx v hm]
    rcases hold_nat hs hm with h | ⟨p, h, h1, h2, h3⟩
    · rw [h]; rfl
    · have e : ((p : Int) = -1) = False := by simp
      rw [h]
      simp -implicitDefEqProofs only [clAt, e, hnc p, if_false, Bool.false_eq_true, Int.toNat_natCast]
      exact clip_none hs hnc bx v m p (by omega) h3
theorem clip_unmade {l : List Nd} (bx : List Bx) (v : Rc) {n : Nat} (hn : n < l.length) (hm : madeAt l n = false) : (clipTo l bx v l.length).getD n zeroR = zeroR := by
  rw [clipTo_at _ _ _ _ hn]; simp [clipStep, hm]
/-- The nodes while the first k are changed. -/
def zTo (l : List Nd) (k : Nat) : List Nd := (l.take k).map ncN ++ l.drop k
theorem zTo_zero (l : List Nd) : zTo l 0 = l := by simp [zTo]
theorem zTo_full (l : List Nd) : zTo l l.length = l.map ncN := by simp [zTo]
theorem zTo_len (l : List Nd) (k : Nat) : (zTo l k).length = l.length := by simp [zTo]; omega
theorem zTo_at (l : List Nd) {k : Nat} (hk : k < l.length) : (zTo l k)[k]'(by rw [zTo_len]; exact hk) = l[k]'hk := by
  have h1 : (List.map ncN (l.take k)).length = k := by simp; omega
  have h2 : (zTo l k)[k]? = some (l[k]'hk) := by
    rw [zTo, List.getElem?_append_right (by omega), h1, Nat.sub_self, List.drop_eq_getElem_cons hk]; rfl
  exact (List.getElem?_eq_some_iff.1 h2).2
theorem zTo_set (l : List Nd) {k : Nat} (hk : k < l.length) : (zTo l k).set k (ncN (l[k]'hk)) = zTo l (k + 1) := by
  have h1 : (List.map ncN (l.take k)).length = k := by simp; omega
  simp -implicitDefEqProofs only [zTo]
  rw [List.set_append_right _ _ (by rw [h1]; exact Nat.le_refl _), h1, Nat.sub_self, List.drop_eq_getElem_cons hk, List.set_cons_zero, List.take_succ_eq_append_getElem hk, List.map_append, List.append_assoc]
  rfl
theorem nd_setc (x : Nd) : List.take 45 (x.cells.map SV.rv) ++ [SV.rv (.bool false)] ++ List.drop 46 (x.cells.map SV.rv) = (ncN x).cells.map SV.rv := rfl
theorem ndL_setC {l : List Nd} {k : Nat} {x : Nd} : (rvs (ndL l)).set k (x.cells.map SV.rv) = rvs (ndL (l.set k x)) := by simp [rvs, ndL, List.map_set]
theorem bx_rep {n : Nat} : List.replicate n [SV.rv (.bool false), SV.rv (.int .i64 0), SV.rv (.int .i64 0), SV.rv (.int .i64 0), SV.rv (.int .i64 0), SV.rv (.int .i64 0), SV.rv (.int .i64 0), SV.rv (.int .i64 0), SV.rv (.int .i64 0), SV.rv (.int .i64 0), SV.rv (.int .i64 0), SV.rv (.int .i64 0), SV.rv (.int .i64 0), SV.rv (.int .i64 0), SV.rv (.int .i64 0), SV.rv (.int .i64 0), SV.rv (.int .i64 0), SV.rv (.int .i64 0), SV.rv (.int .i64 0), SV.rv (.int .i64 0), SV.rv (.int .i64 0)] = rvs (bxL (List.replicate n default)) := by simp [rvs, bxL]; exact .inr rfl

set_option maxRecDepth 10000 in
set_option maxHeartbeats 4000000 in
theorem sp_ClipNone (l : List Nd) (w h : Int) : CallR Go.Proofs.Try.prog 4 [.rv (.sl 49 (ndL l)), .agg [.rv (.int .i64 w), .rv (.int .i64 h)]] [] [] (.rv (.bool true)) := by
  refine callR_G k_decoupagelaw22_ClipNone [.rv (.sl 49 (ndL l)), .agg [.rv (.int .i64 w), .rv (.int .i64 h)]] _ (by simp) (by simp [BkAll, bk_agg, bkAll_map, bk_rv, bk_fn, Sty.sv, Ln.sv, Nd.sv]) (fun K hK => ?_)
  have hlen := ndL_len l
  simp -implicitDefEqProofs only [c_decoupagelaw22_ClipNone, go_sem, ↓reduceIte, Nat.reduceEqDiff, Nat.reduceAdd, Nat.reduceSub, Nat.reduceMul, Nat.reduceLeDiff, Nat.reduceLT, reduceCtorEq, Int.reduceToNat]
  by_cases hl : l.length > 30
  · have e1 : decide ((l.length : Int) > 30) = true := decide_eq_true (by omega)
    have hcall1 := sp_awake22; repeat' (first | (simp -implicitDefEqProofs only [go_sem, ↓reduceIte, Nat.reduceEqDiff, Nat.reduceAdd, Nat.reduceSub, Nat.reduceMul, Nat.reduceLeDiff, Nat.reduceLT, reduceCtorEq, Int.reduceToNat, hlen, e1]) | (with_reducible refine g_noent ?_) | (with_reducible refine g_call0 hcall1 ?_) | (with_reducible refine g_calld0 hcall1 ?_) | (refine cdS (fun hg => ?_) (fun hg => ?_) <;> try simp -implicitDefEqProofs only [hg, Bool.not_true, Bool.not_false]) | (refine gdS (fun hg => ?_) (fun hg => ?_) <;> try simp -implicitDefEqProofs only [hg, Bool.not_true, Bool.not_false]) | (refine gddS (fun hg => ?_) (fun hg => ?_) <;> try simp -implicitDefEqProofs only [hg, Bool.not_true, Bool.not_false]) | ((with_reducible apply And.intro); focus (first | trivial | omega | decide | (simp -implicitDefEqProofs only [maxLen]; omega) | (simp [maxLen, sty_len, nd_len, ndL_len, lnL_len, intsL_len, rvs_len, lensS_len]; done) | (simp [maxLen, sty_len, nd_len, ndL_len, lnL_len, intsL_len, rvs_len, lensS_len]; omega))) | fail)
    exact (hK _ _ (ret_t rfl)).2
  · have e1 : decide ((l.length : Int) > 30) = false := decide_eq_false (by omega)
    have hb : l.length ≤ 8589934592 := by omega
    have hck := sp_ref07_Check l hb
    by_cases hc : chk l = 0
    · have ht := chk_tree hc
      have hs := tree_shp ht
      rw [hc] at hck
      have e00 : ((0 : Int) != 0) = false := rfl
      have e01 : ((0 : Int) == 0) = true := rfl
      have htk : (ndL l).take l.length = ndL l := List.take_of_length_le (by omega)
      have hcall2 := sp_awake22; have hcall3 := hck; repeat' (first | (simp -implicitDefEqProofs only [go_sem, ↓reduceIte, Nat.reduceEqDiff, Nat.reduceAdd, Nat.reduceSub, Nat.reduceMul, Nat.reduceLeDiff, Nat.reduceLT, reduceCtorEq, Int.reduceToNat, hlen, e1, e00, htk, rvs_fold]) | (with_reducible refine g_noent ?_) | (with_reducible refine g_call0 hcall2 ?_) | (with_reducible refine g_calld0 hcall2 ?_) | (with_reducible refine g_call0 hcall3 ?_) | (with_reducible refine g_calld0 hcall3 ?_) | (refine cdS (fun hg => ?_) (fun hg => ?_) <;> try simp -implicitDefEqProofs only [hg, Bool.not_true, Bool.not_false]) | (refine gdS (fun hg => ?_) (fun hg => ?_) <;> try simp -implicitDefEqProofs only [hg, Bool.not_true, Bool.not_false]) | (refine gddS (fun hg => ?_) (fun hg => ?_) <;> try simp -implicitDefEqProofs only [hg, Bool.not_true, Bool.not_false]) | ((with_reducible apply And.intro); focus (first | trivial | omega | decide | (simp -implicitDefEqProofs only [maxLen]; omega) | (simp [maxLen, sty_len, nd_len, ndL_len, lnL_len, intsL_len, rvs_len, lensS_len]; done) | (simp [maxLen, sty_len, nd_len, ndL_len, lnL_len, intsL_len, rvs_len, lensS_len]; omega))) | fail)
      refine g_loop (ι := Nat) (fun k => [(30, .rv (.int .i64 k)), (29, .rv (.int .i64 l.length)), (5, .row 1 1 l.length), (3, .ptr 0 0)]) (fun k => [some (.var [.rv (.int .i64 w), .rv (.int .i64 h)]), some (.row 49 1 (rvs (ndL (zTo l k))))]) (fun k => k ≤ l.length) (fun k => l.length - k) 0 (by simp) (by rw [zTo_zero]; exact ent_env (by simp [lk])) (fun k hk K' hN hX hR => ?_)
      simp -implicitDefEqProofs only [go_sem, ↓reduceIte, Nat.reduceEqDiff, Nat.reduceAdd, Nat.reduceSub, Nat.reduceMul, Nat.reduceLeDiff, Nat.reduceLT, reduceCtorEq, Int.reduceToNat]
      refine cdS (fun hg => ?_) (fun hg => ?_)
      · have hk4 : k < l.length := by simp at hg; omega
        have wu := wrap_up (k := k) (by omega)
        have hzl := zTo_len l k
        have hzl2 := ndL_len (zTo l k)
        have hx := ndL_get (l := zTo l k) (i := k) (by omega)
        rw [zTo_at l hk4] at hx
        have hset := zTo_set l hk4
        generalize l[k]'hk4 = x at *
        repeat' (first | (simp -implicitDefEqProofs only [go_sem, ↓reduceIte, Nat.reduceEqDiff, Nat.reduceAdd, Nat.reduceSub, Nat.reduceMul, Nat.reduceLeDiff, Nat.reduceLT, reduceCtorEq, Int.reduceToNat, hzl, hzl2, hx, nd_setc, ndL_setC, nd_len, hset, wu]) | (with_reducible refine g_noent ?_) | (refine cdS (fun hg => ?_) (fun hg => ?_) <;> try simp -implicitDefEqProofs only [hg, Bool.not_true, Bool.not_false]) | (refine gdS (fun hg => ?_) (fun hg => ?_) <;> try simp -implicitDefEqProofs only [hg, Bool.not_true, Bool.not_false]) | (refine gddS (fun hg => ?_) (fun hg => ?_) <;> try simp -implicitDefEqProofs only [hg, Bool.not_true, Bool.not_false]) | ((with_reducible apply And.intro); focus (first | trivial | omega | decide | (simp -implicitDefEqProofs only [maxLen]; omega) | (simp [maxLen, sty_len, nd_len, ndL_len, lnL_len, intsL_len, rvs_len, lensS_len]; done) | (simp [maxLen, sty_len, nd_len, ndL_len, lnL_len, intsL_len, rvs_len, lensS_len]; omega))) | fail)
        exact hN (k + 1) _ _ (by omega) (by omega) (ent_env (by simp [lk]))
      · have hk4 : k = l.length := by simp at hg; omega
        subst hk4
        simp -implicitDefEqProofs only [go_sem, ↓reduceIte, Nat.reduceEqDiff, Nat.reduceAdd, Nat.reduceSub, Nat.reduceMul, Nat.reduceLeDiff, Nat.reduceLT, reduceCtorEq, Int.reduceToNat]
        refine hX _ _ _ ?_
        rw [zTo_full]
        have hcz := nc_chk hc
        have hsz := nc_shp hs
        have hncz := nc_clip l
        generalize hZ : l.map ncN = Z at *
        have hzl : Z.length = l.length := by rw [← hZ]; simp
        have hko := sp_kin_OfR Z (by omega) hcz 1 1
        rw [hzl] at hko
        have hcl := sp_ClipsN Z hsz (by omega) (List.replicate l.length default) hncz w h (by simp [hzl]) 2 0
        have hmade := fun (n : Nat) (hm : madeAt Z n = true) => clip_none hsz hncz (List.replicate l.length default) (vwR w h) _ n (Nat.lt_succ_self n) hm
        have hun := fun (n : Nat) (hn : n < Z.length) (hm : madeAt Z n = false) => clip_unmade (List.replicate l.length default) (vwR w h) hn hm
        have hOl := clipTo_len Z (List.replicate l.length default) (vwR w h) Z.length
        rw [hzl] at hcl hmade hun hOl
        generalize hO : clipTo Z (List.replicate l.length default) (vwR w h) l.length = O at *
        have hrl := rcL_len O
        repeat' (first | (simp -implicitDefEqProofs only [go_sem, ↓reduceIte, Nat.reduceEqDiff, Nat.reduceAdd, Nat.reduceSub, Nat.reduceMul, Nat.reduceLeDiff, Nat.reduceLT, reduceCtorEq, Int.reduceToNat]) | (with_reducible refine g_noent ?_) | (refine cdS (fun hg => ?_) (fun hg => ?_) <;> try simp -implicitDefEqProofs only [hg, Bool.not_true, Bool.not_false]) | (refine gdS (fun hg => ?_) (fun hg => ?_) <;> try simp -implicitDefEqProofs only [hg, Bool.not_true, Bool.not_false]) | (refine gddS (fun hg => ?_) (fun hg => ?_) <;> try simp -implicitDefEqProofs only [hg, Bool.not_true, Bool.not_false]) | ((with_reducible apply And.intro); focus (first | trivial | omega | decide | (simp -implicitDefEqProofs only [maxLen]; omega) | (simp [maxLen, sty_len, nd_len, ndL_len, lnL_len, intsL_len, rvs_len, lensS_len]; done) | (simp [maxLen, sty_len, nd_len, ndL_len, lnL_len, intsL_len, rvs_len, lensS_len]; omega))) | fail)
        refine g_call hko (pre_one rfl) trivial ?_
        repeat' (first | (simp -implicitDefEqProofs only [go_sem, ↓reduceIte, Nat.reduceEqDiff, Nat.reduceAdd, Nat.reduceSub, Nat.reduceMul, Nat.reduceLeDiff, Nat.reduceLT, reduceCtorEq, Int.reduceToNat, bx_rep]) | (with_reducible refine g_noent ?_) | (refine cdS (fun hg => ?_) (fun hg => ?_) <;> try simp -implicitDefEqProofs only [hg, Bool.not_true, Bool.not_false]) | (refine gdS (fun hg => ?_) (fun hg => ?_) <;> try simp -implicitDefEqProofs only [hg, Bool.not_true, Bool.not_false]) | (refine gddS (fun hg => ?_) (fun hg => ?_) <;> try simp -implicitDefEqProofs only [hg, Bool.not_true, Bool.not_false]) | ((with_reducible apply And.intro); focus (first | trivial | omega | decide | (simp -implicitDefEqProofs only [maxLen]; omega) | (simp [maxLen, sty_len, nd_len, ndL_len, lnL_len, intsL_len, rvs_len, lensS_len]; done) | (simp [maxLen, sty_len, nd_len, ndL_len, lnL_len, intsL_len, rvs_len, lensS_len]; omega))) | fail)
        refine g_calld hcl (pre_one rfl) trivial ?_
        repeat' (first | (simp -implicitDefEqProofs only [go_sem, ↓reduceIte, Nat.reduceEqDiff, Nat.reduceAdd, Nat.reduceSub, Nat.reduceMul, Nat.reduceLeDiff, Nat.reduceLT, reduceCtorEq, Int.reduceToNat, e00, hrl, hOl, bne_self_eq_false]) | (with_reducible refine g_noent ?_) | (refine cdS (fun hg => ?_) (fun hg => ?_) <;> try simp -implicitDefEqProofs only [hg, Bool.not_true, Bool.not_false]) | (refine gdS (fun hg => ?_) (fun hg => ?_) <;> try simp -implicitDefEqProofs only [hg, Bool.not_true, Bool.not_false]) | (refine gddS (fun hg => ?_) (fun hg => ?_) <;> try simp -implicitDefEqProofs only [hg, Bool.not_true, Bool.not_false]) | ((with_reducible apply And.intro); focus (first | trivial | omega | decide | (simp -implicitDefEqProofs only [maxLen]; omega) | (simp [maxLen, sty_len, nd_len, ndL_len, lnL_len, intsL_len, rvs_len, lensS_len]; done) | (simp [maxLen, sty_len, nd_len, ndL_len, lnL_len, intsL_len, rvs_len, lensS_len]; omega))) | fail)
        refine g_loop (ι := Nat) (fun k => [(66, .rv (.int .i64 k)), (65, .rv (.int .i64 l.length)), (9, .rv (.sl 4 (rcL O))), (7, .rv (kinV Z)), (10, .ptr 3 0)]) (fun k => [some (.var [.rv (.int .i64 w), .rv (.int .i64 h)]), some (.row 49 1 (rvs (ndL Z))), some (.row 21 0 (rvs (bxL (List.replicate l.length default)))), some (.var [.rv (.int .i64 0), .rv (.int .i64 0), .rv (.int .i64 w), .rv (.int .i64 h)])]) (fun k => k ≤ l.length) (fun k => l.length - k) 0 (by simp) (ent_env (by simp [lk])) (fun k hk K' hN hX hR => ?_)
        simp -implicitDefEqProofs only [go_sem, ↓reduceIte, Nat.reduceEqDiff, Nat.reduceAdd, Nat.reduceSub, Nat.reduceMul, Nat.reduceLeDiff, Nat.reduceLT, reduceCtorEq, Int.reduceToNat]
        refine cdS (fun hg => ?_) (fun hg => ?_)
        · have hk4 : k < l.length := by simp at hg; omega
          have wu := wrap_up (k := k) (by omega)
          have hx := rcL_getD (l := O) (i := k) (by omega)
          have hm := sp_Made Z k
          have hmt : CallR Go.Proofs.Try.prog 22 [.agg [.rv (.int .i64 0), .rv (.int .i64 0), .rv (.int .i64 w), .rv (.int .i64 h)], .agg [.rv (.int .i64 0), .rv (.int .i64 0), .rv (.int .i64 w), .rv (.int .i64 h)]] [] [] (.agg ((vwR w h).cells.map SV.rv)) := sp_ref02_Meet (viewR w h) (viewR w h)
          have hz : [SV.rv (.int .i64 0), SV.rv (.int .i64 0), SV.rv (.int .i64 0), SV.rv (.int .i64 0)] = zeroR.cells.map SV.rv := rfl
          cases hmm : madeAt Z k with
          | true =>
            rw [hmm] at hm
            rw [hmade k hmm] at hx
            have hcall4 := hm; have hcall5 := hmt; repeat' (first | (simp -implicitDefEqProofs only [go_sem, ↓reduceIte, Nat.reduceEqDiff, Nat.reduceAdd, Nat.reduceSub, Nat.reduceMul, Nat.reduceLeDiff, Nat.reduceLT, reduceCtorEq, Int.reduceToNat, hx, hrl, hOl, rc_tk, rc_eqs, rc_len, wu]) | (with_reducible refine g_noent ?_) | (with_reducible refine g_call0 hcall4 ?_) | (with_reducible refine g_calld0 hcall4 ?_) | (with_reducible refine g_call0 hcall5 ?_) | (with_reducible refine g_calld0 hcall5 ?_) | (refine cdS (fun hg => ?_) (fun hg => ?_) <;> try simp -implicitDefEqProofs only [hg, Bool.not_true, Bool.not_false]) | (refine gdS (fun hg => ?_) (fun hg => ?_) <;> try simp -implicitDefEqProofs only [hg, Bool.not_true, Bool.not_false]) | (refine gddS (fun hg => ?_) (fun hg => ?_) <;> try simp -implicitDefEqProofs only [hg, Bool.not_true, Bool.not_false]) | ((with_reducible apply And.intro); focus (first | trivial | omega | decide | (simp -implicitDefEqProofs only [maxLen]; omega) | (simp [maxLen, sty_len, nd_len, ndL_len, lnL_len, intsL_len, rvs_len, lensS_len]; done) | (simp [maxLen, sty_len, nd_len, ndL_len, lnL_len, intsL_len, rvs_len, lensS_len]; omega))) | fail)
            exact hN (k + 1) _ _ (by omega) (by omega) (ent_env (by simp [lk]))
          | false =>
            rw [hmm] at hm
            rw [hun k hk4 hmm] at hx
            have hcall6 := hm; repeat' (first | (simp -implicitDefEqProofs only [go_sem, ↓reduceIte, Nat.reduceEqDiff, Nat.reduceAdd, Nat.reduceSub, Nat.reduceMul, Nat.reduceLeDiff, Nat.reduceLT, reduceCtorEq, Int.reduceToNat, hx, hrl, hOl, rc_tk, hz, rc_eqs, rc_len, wu]) | (with_reducible refine g_noent ?_) | (with_reducible refine g_call0 hcall6 ?_) | (with_reducible refine g_calld0 hcall6 ?_) | (refine cdS (fun hg => ?_) (fun hg => ?_) <;> try simp -implicitDefEqProofs only [hg, Bool.not_true, Bool.not_false]) | (refine gdS (fun hg => ?_) (fun hg => ?_) <;> try simp -implicitDefEqProofs only [hg, Bool.not_true, Bool.not_false]) | (refine gddS (fun hg => ?_) (fun hg => ?_) <;> try simp -implicitDefEqProofs only [hg, Bool.not_true, Bool.not_false]) | ((with_reducible apply And.intro); focus (first | trivial | omega | decide | (simp -implicitDefEqProofs only [maxLen]; omega) | (simp [maxLen, sty_len, nd_len, ndL_len, lnL_len, intsL_len, rvs_len, lensS_len]; done) | (simp [maxLen, sty_len, nd_len, ndL_len, lnL_len, intsL_len, rvs_len, lensS_len]; omega))) | fail)
            exact hN (k + 1) _ _ (by omega) (by omega) (ent_env (by simp [lk]))
        · simp -implicitDefEqProofs only [go_sem, ↓reduceIte, Nat.reduceEqDiff, Nat.reduceAdd, Nat.reduceSub, Nat.reduceMul, Nat.reduceLeDiff, Nat.reduceLT, reduceCtorEq, Int.reduceToNat]
          refine hX _ _ _ ?_
          repeat' (first | (simp -implicitDefEqProofs only [go_sem, ↓reduceIte, Nat.reduceEqDiff, Nat.reduceAdd, Nat.reduceSub, Nat.reduceMul, Nat.reduceLeDiff, Nat.reduceLT, reduceCtorEq, Int.reduceToNat]) | (with_reducible refine g_noent ?_) | (refine cdS (fun hg => ?_) (fun hg => ?_) <;> try simp -implicitDefEqProofs only [hg, Bool.not_true, Bool.not_false]) | (refine gdS (fun hg => ?_) (fun hg => ?_) <;> try simp -implicitDefEqProofs only [hg, Bool.not_true, Bool.not_false]) | (refine gddS (fun hg => ?_) (fun hg => ?_) <;> try simp -implicitDefEqProofs only [hg, Bool.not_true, Bool.not_false]) | ((with_reducible apply And.intro); focus (first | trivial | omega | decide | (simp -implicitDefEqProofs only [maxLen]; omega) | (simp [maxLen, sty_len, nd_len, ndL_len, lnL_len, intsL_len, rvs_len, lensS_len]; done) | (simp [maxLen, sty_len, nd_len, ndL_len, lnL_len, intsL_len, rvs_len, lensS_len]; omega))) | fail)
          exact (hK _ _ (ret_t rfl)).2
    · have e00 : (chk l != 0) = true := by simpa using hc
      have hcall7 := sp_awake22; have hcall8 := hck; repeat' (first | (simp -implicitDefEqProofs only [go_sem, ↓reduceIte, Nat.reduceEqDiff, Nat.reduceAdd, Nat.reduceSub, Nat.reduceMul, Nat.reduceLeDiff, Nat.reduceLT, reduceCtorEq, Int.reduceToNat, hlen, e1, e00]) | (with_reducible refine g_noent ?_) | (with_reducible refine g_call0 hcall7 ?_) | (with_reducible refine g_calld0 hcall7 ?_) | (with_reducible refine g_call0 hcall8 ?_) | (with_reducible refine g_calld0 hcall8 ?_) | (refine cdS (fun hg => ?_) (fun hg => ?_) <;> try simp -implicitDefEqProofs only [hg, Bool.not_true, Bool.not_false]) | (refine gdS (fun hg => ?_) (fun hg => ?_) <;> try simp -implicitDefEqProofs only [hg, Bool.not_true, Bool.not_false]) | (refine gddS (fun hg => ?_) (fun hg => ?_) <;> try simp -implicitDefEqProofs only [hg, Bool.not_true, Bool.not_false]) | ((with_reducible apply And.intro); focus (first | trivial | omega | decide | (simp -implicitDefEqProofs only [maxLen]; omega) | (simp [maxLen, sty_len, nd_len, ndL_len, lnL_len, intsL_len, rvs_len, lensS_len]; done) | (simp [maxLen, sty_len, nd_len, ndL_len, lnL_len, intsL_len, rvs_len, lensS_len]; omega))) | fail)
      exact (hK _ _ (ret_t rfl)).2
theorem sp_ClipNoneV (l : List Nd) (v : Vw) : CallR Go.Proofs.Try.prog 4 [.rv (.sl 49 (ndL l)), .agg [.rv (.int .i64 v.w), .rv (.int .i64 v.h)]] [] [] (.rv (.bool true)) := sp_ClipNone l v.w v.h
end Go.Eng
