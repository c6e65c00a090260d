/- Part 6 of the proof: E20, E21, E22, E23, E24, E25, E26, E27, E28, E28a, E28b, E28c, E28d, E28e, E29, KF, KK. -/
import Derived.Test.YtiajmaeempoihaaEditApplies5
import Derived.Test.YtiajmaeempoihaaProg
import Derived.KernelRfl
set_option linter.unusedSimpArgs false
set_option linter.unusedVariables false

/- edit: trees of children: putting. -/
namespace Go.Eng
open Go
/- decoupage/decoupageref32.put -/
def c_decoupageref32_put : AC := (.seq (.reg [⟨(some 4), .box, [(.t 0)], none⟩, ⟨(some 7), .box, [(.t 3)], none⟩, ⟨(some 8), (.alloc [(.bool false), (.int .i64 0), (.int .i64 0), (.int .i64 0), (.int .i64 0), (.int .i64 0), (.int .i64 0), (.int .i64 0), (.int .i64 0), (.int .i64 0), (.int .i64 0), (.int .i64 0), (.int .i64 0), (.int .i64 0), (.int .i64 0), (.int .i64 0), (.int .i64 0), (.int .i64 0), (.int .i64 0), (.int .i64 0), (.int .i64 0), (.int .i64 0), (.int .i64 0), (.int .i64 0), (.int .i64 0), (.int .i64 0), (.int .i64 0), (.int .i64 0), (.int .i64 0), (.int .i64 0), (.int .i64 0), (.int .i64 0), (.int .i64 0), (.int .i64 0), (.int .i64 0), (.int .i64 0), (.int .i64 0), (.int .i64 0), (.int .i64 0), (.int .i64 0), (.int .i64 0), (.int .i64 0), (.bool false), (.bool false), (.int .i64 0), (.bool false), (.int .i64 0), (.int .i64 0), (.int .i64 0), .nilsl]), [], none⟩, ⟨(some 9), .mv, [(.c (.rv (.bool false)))], none⟩]) (.seq (.reg [⟨(some 10), .mv, [(.c (.rv (.bool true)))], none⟩]) (.seq (.reg [⟨(some 11), .mv, [(.c (.rv .nilsl))], none⟩]) (.seq (.seq (.reg [⟨(some 15), (.fld 49), [(.t 4)], none⟩, ⟨(some 16), (.load 1 false), [(.t 15)], none⟩, ⟨(some 17), .len, [(.t 16)], none⟩, ⟨(some 18), .mv, [(.c (.rv (.int .i64 0)))], none⟩]) (.seq (.block 0 (.loop (.seq (.reg [⟨(some 19), (.ibin .lss), [(.t 18), (.t 17)], none⟩]) (.seq (.cond (.t 19) .skip (.exit 0)) (.seq (.seq (.block 1 (.seq (.reg [⟨(some 20), .mv, [(.t 18)], none⟩, ⟨(some 12), .mv, [(.t 20)], none⟩]) (.seq (.regd [0, 1, 0, 7, 15, 0, 0, 0, 255, 511, 1023, 1023, 0, 6143, 16383] [⟨(some 22), (.fld 49), [(.t 4)], none⟩, ⟨(some 23), (.load 1 false), [(.t 22)], none⟩, ⟨(some 24), .mv, [(.t 12)], none⟩, ⟨(some 25), (.ixs 50), [(.t 23), (.t 24)], none⟩, ⟨(some 26), (.load 50 true), [(.t 25)], none⟩, ⟨(some 27), .mv, [(.t 1)], none⟩, ⟨(some 28), .mv, [(.t 2)], none⟩, ⟨(some 29), (.load 50 true), [(.t 7)], none⟩, ⟨(some 30), (.call 64), [(.t 26), (.t 27), (.t 28), (.t 29)], none⟩, ⟨(some 21), .mv, [(.t 30)], none⟩, ⟨(some 31), (.ext 0), [(.t 21)], none⟩, ⟨(some 32), (.ext 1), [(.t 21)], none⟩, ⟨(some 13), (.alloc [(.bool false), (.int .i64 0), (.int .i64 0), (.int .i64 0), (.int .i64 0), (.int .i64 0), (.int .i64 0), (.int .i64 0), (.int .i64 0), (.int .i64 0), (.int .i64 0), (.int .i64 0), (.int .i64 0), (.int .i64 0), (.int .i64 0), (.int .i64 0), (.int .i64 0), (.int .i64 0), (.int .i64 0), (.int .i64 0), (.int .i64 0), (.int .i64 0), (.int .i64 0), (.int .i64 0), (.int .i64 0), (.int .i64 0), (.int .i64 0), (.int .i64 0), (.int .i64 0), (.int .i64 0), (.int .i64 0), (.int .i64 0), (.int .i64 0), (.int .i64 0), (.int .i64 0), (.int .i64 0), (.int .i64 0), (.int .i64 0), (.int .i64 0), (.int .i64 0), (.int .i64 0), (.int .i64 0), (.bool false), (.bool false), (.int .i64 0), (.bool false), (.int .i64 0), (.int .i64 0), (.int .i64 0), .nilsl]), [], none⟩, ⟨none, (.store 50), [(.t 13), (.t 31)], none⟩, ⟨(some 14), .mv, [(.t 32)], none⟩]) (.reg [⟨(some 33), .mv, [(.t 11)], none⟩, ⟨(some 34), (.load 50 true), [(.t 13)], none⟩, ⟨(some 35), (.bsl 50), [(.t 34)], none⟩, ⟨(some 36), (.app 50 408), [(.t 33), (.t 35)], none⟩, ⟨(some 37), .mv, [(.t 10)], none⟩, ⟨(some 38), .mv, [(.t 37)], none⟩, ⟨(some 39), .mv, [(.t 14)], (some (38, true))⟩, ⟨(some 40), .pick, [(.t 38), (.t 39), (.c (.rv (.bool false)))], none⟩, ⟨(some 11), .mv, [(.t 36)], none⟩, ⟨(some 10), .mv, [(.t 40)], none⟩])))) .ent) (.reg [⟨(some 41), (.ibin .add), [(.t 18), (.c (.rv (.int .i64 1)))], none⟩, ⟨(some 18), .mv, [(.t 41)], none⟩])))))) .ent)) (.seq (.seq (.reg [⟨(some 42), (.fld 48), [(.t 4)], none⟩, ⟨(some 43), (.load 1 false), [(.t 42)], none⟩, ⟨(some 44), .mv, [(.t 1)], none⟩, ⟨(some 45), (.ibin .eql), [(.t 43), (.t 44)], none⟩]) (.seq (.cond (.t 45) (.seq (.seq (.reg [⟨(some 46), .mv, [(.t 2)], none⟩, ⟨(some 47), (.ibin .lss), [(.t 46), (.c (.rv (.int .i64 0)))], none⟩, ⟨(some 48), .mv, [(.t 47)], none⟩, ⟨(some 49), .mv, [(.t 2)], (some (48, false))⟩, ⟨(some 50), .mv, [(.t 11)], (some (48, false))⟩, ⟨(some 51), .len, [(.t 50)], (some (48, false))⟩, ⟨(some 52), (.ibin .gtr), [(.t 49), (.t 51)], (some (48, false))⟩, ⟨(some 53), .pick, [(.t 48), (.c (.rv (.bool true))), (.t 52)], none⟩]) (.cond (.t 53) (.seq (.reg [⟨(some 54), (.load 50 true), [(.t 4)], none⟩, ⟨none, (.store 50), [(.t 8), (.t 54)], none⟩, ⟨(some 9), .mv, [(.c (.rv (.bool false)))], none⟩]) .ret) .skip)) (.regd [0, 0, 0, 6, 15, 0, 32, 127, 0, 0, 768, 2047, 4095] [⟨(some 55), (.bsl 50), [], none⟩, ⟨(some 56), .mv, [(.t 11)], none⟩, ⟨(some 57), .mv, [(.t 2)], none⟩, ⟨(some 58), (.slc 50 false true), [(.t 56), (.t 57)], none⟩, ⟨(some 59), (.app 50 408), [(.t 55), (.t 58)], none⟩, ⟨(some 60), (.load 50 true), [(.t 7)], none⟩, ⟨(some 61), (.bsl 50), [(.t 60)], none⟩, ⟨(some 62), (.app 50 408), [(.t 59), (.t 61)], none⟩, ⟨(some 63), .mv, [(.t 11)], none⟩, ⟨(some 64), .mv, [(.t 2)], none⟩, ⟨(some 65), (.slc 50 true false), [(.t 63), (.t 64)], none⟩, ⟨(some 66), (.app 50 408), [(.t 62), (.t 65)], none⟩, ⟨(some 11), .mv, [(.t 66)], none⟩])) .skip) .ent)) (.seq (.reg [⟨(some 67), .mv, [(.t 11)], none⟩, ⟨(some 68), (.fld 49), [(.t 4)], none⟩, ⟨none, (.store 1), [(.t 68), (.t 67)], none⟩]) (.seq (.reg [⟨(some 69), (.load 50 true), [(.t 4)], none⟩, ⟨(some 70), .mv, [(.t 10)], none⟩, ⟨none, (.store 50), [(.t 8), (.t 69)], none⟩, ⟨(some 9), .mv, [(.t 70)], none⟩]) .ret)))))))
theorem k_decoupageref32_put : FnOK Go.Proofs.Try.prog 64 71 c_decoupageref32_put [(.c 8 50 true), (.t 9)] := fnOK_of (by kernel_rfl)


def ptTo (ks : List Trx) (n a : Int) (x : Trx) (k : Nat) : List Trx := (ks.take k).map fun t => (putT t n a x).1
def flTo (ks : List Trx) (n a : Int) (x : Trx) (k : Nat) : Bool := (ks.take k).all fun t => (putT t n a x).2
theorem ptTo_succ {ks : List Trx} {n a : Int} {x : Trx} {k : Nat} (h : k < ks.length) : ptTo ks n a x (k + 1) = ptTo ks n a x k ++ [(putT (ks[k]'h) n a x).1] := by
  unfold ptTo; rw [List.take_succ_eq_append_getElem h, List.map_append]; rfl
theorem flTo_succ {ks : List Trx} {n a : Int} {x : Trx} {k : Nat} (h : k < ks.length) : flTo ks n a x (k + 1) = (flTo ks n a x k && (putT (ks[k]'h) n a x).2) := by
  unfold flTo; rw [List.take_succ_eq_append_getElem h, List.all_append]; simp
theorem ptTo_len {ks : List Trx} {n a : Int} {x : Trx} {k : Nat} (h : k ≤ ks.length) : (ptTo ks n a x k).length = k := by simp [ptTo]; omega
theorem trL_take {ks : List Trx} {k : Nat} : (trL ks).take k = trL (ks.take k) := by simp [trL_map]
theorem trL_drop {ks : List Trx} {k : Nat} : (trL ks).drop k = trL (ks.drop k) := by simp [trL_map]
theorem trL_append {a b : List Trx} : trL a ++ trL b = trL (a ++ b) := by simp [trL_map]

set_option maxRecDepth 20000 in
set_option maxHeartbeats 8000000 in
theorem sp_put32 (x : Trx) : ∀ (m : Nat) (t : Trx), t.sz ≤ m → m ≤ 1073741823 → ∀ (n a : Int), CallR Go.Proofs.Try.prog 64 [.agg (t.cells.map .rv), .rv (.int .i64 n), .rv (.int .i64 a), .agg (x.cells.map .rv)] [] [] (.tup [.agg ((putT t n a x).1.cells.map .rv), .rv (.bool (putT t n a x).2)]) := by
  intro m
  induction m with
  | zero => intro t ht; have := sz_pos t; omega
  | succ m ih =>
    intro t ht hmb n a
    obtain ⟨s, w, ks⟩ := t
    rw [sz_mk] at ht
    have hkl := szL_len ks
    have hlen := trL_len ks
    have hxl := tr_len x
    have hxm := tr_mlen x
    have hxt := tr_t50 x
    refine callR_G k_decoupageref32_put [.agg ((Trx.mk s w ks).cells.map .rv), .rv (.int .i64 n), .rv (.int .i64 a), .agg (x.cells.map .rv)] _ (by simp) (by simp [BkAll, bk_agg, bkAll_map, bk_rv, bk_fn, Sty.sv, Ln.sv, Nd.sv]) (fun K hK => ?_)
    have hpt : (putF ks n a x) = (ptTo ks n a x ks.length, flTo ks n a x ks.length) := by rw [putF_map]; unfold ptTo flTo; rw [List.take_length]
    rw [putT_mk, hpt] at hK
    rw [tr_map]
    simp -implicitDefEqProofs only [c_decoupageref32_put, go_sem, ↓reduceIte, Nat.reduceEqDiff, Nat.reduceAdd, Nat.reduceSub, Nat.reduceMul, Nat.reduceLeDiff, Nat.reduceLT, reduceCtorEq, Int.reduceToNat]
    repeat' (first | (simp -implicitDefEqProofs only [go_sem, ↓reduceIte, Nat.reduceEqDiff, Nat.reduceAdd, Nat.reduceSub, Nat.reduceMul, Nat.reduceLeDiff, Nat.reduceLT, reduceCtorEq, Int.reduceToNat, sty_i49, sty_l50, hlen, hxm, hxl]) | (with_reducible refine g_noent ?_) | (refine cdS (fun hg => ?_) (fun hg => ?_) <;> try simp -implicitDefEqProofs only [hg, Bool.not_true, Bool.not_false]) | (refine gdS (fun hg => ?_) (fun hg => ?_) <;> try simp -implicitDefEqProofs only [hg, Bool.not_true, Bool.not_false]) | (refine gddS (fun hg => ?_) (fun hg => ?_) <;> try simp -implicitDefEqProofs only [hg, Bool.not_true, Bool.not_false]) | ((with_reducible apply And.intro); focus (first | trivial | omega | decide | (simp -implicitDefEqProofs only [maxLen]; omega) | (simp [maxLen, sty_len, nd_len, ndL_len, lnL_len, intsL_len, rvs_len, lensS_len]; done) | (simp [maxLen, sty_len, nd_len, ndL_len, lnL_len, intsL_len, rvs_len, lensS_len]; omega))) | fail)
    refine g_loop (ι := Nat) (fun k => [(18, .rv (.int .i64 k)), (17, .rv (.int .i64 ks.length)), (11, .row 3 k k), (10, .rv (.bool (flTo ks n a x k))), (8, .ptr 2 0), (7, .ptr 1 0), (4, .ptr 0 0), (1, .rv (.int .i64 n)), (2, .rv (.int .i64 a))]) (fun k => [some (.var (s.cells.map SV.rv ++ [.rv (.int .i64 w), .rv (.sl 50 (trL ks))])), some (.var (x.cells.map SV.rv)), some (.var zero50), some (.row 50 k (rvs (trL (ptTo ks n a x k))))]) (fun k => k ≤ ks.length) (fun k => ks.length - k) 0 (by simp) ((ent_ghostv 11 50 0 rfl).trans (ent_env (by simp [lk, flTo]))) (fun k hk' K' hN hX hR => ?_)
    simp -implicitDefEqProofs only [go_sem, ↓reduceIte, Nat.reduceEqDiff, Nat.reduceAdd, Nat.reduceSub, Nat.reduceMul, Nat.reduceLeDiff, Nat.reduceLT, reduceCtorEq, Int.reduceToNat]
    refine cdS (fun hg => ?_) (fun hg => ?_)
    · have hk4 : k < ks.length := by simp at hg; omega
      have wu := wrap_up (k := k) (by omega)
      have hx := trL_get hk4
      have hsz := sz_mem (List.getElem_mem hk4)
      have hsu := ptTo_succ (n := n) (a := a) (x := x) hk4
      have hfu := flTo_succ (n := n) (a := a) (x := x) hk4
      have hcall := ih (ks[k]'hk4) (by omega) (by omega) n a
      have htln := tr_len (ks[k]'hk4)
      have hgl := ptTo_len (n := n) (a := a) (x := x) (Nat.le_of_lt hk4)
      generalize ks[k]'hk4 = c at *
      have htl := trL_len (ptTo ks n a x k)
      have htk : (trL (ptTo ks n a x k)).take k = trL (ptTo ks n a x k) := List.take_of_length_le (by omega)
      generalize (putT c n a x).1 = t at *
      generalize (putT c n a x).2 = b at *
      have hap : ptTo ks n a x k ++ [t] = ptTo ks n a x (k + 1) := hsu.symm
      have htm := tr_mlen t
      have htt := tr_t50 t
      have htln2 := tr_len t
      cases hfl : flTo ks n a x k with
      | true =>
        rw [hfl, Bool.true_and] at hfu
        have hcall1 := hcall; repeat' (first | (simp -implicitDefEqProofs only [go_sem, ↓reduceIte, Nat.reduceEqDiff, Nat.reduceAdd, Nat.reduceSub, Nat.reduceMul, Nat.reduceLeDiff, Nat.reduceLT, reduceCtorEq, Int.reduceToNat, sty_i49, sty_l50, hx, hlen, htln, tr_t50c, hxm, hxt, hxl, htm, htln2, List.append_nil, htt, htl, hgl, htk, trL_app, hap, wu]) | (with_reducible refine g_noent ?_) | (with_reducible refine g_call0 hcall1 ?_) | (with_reducible refine g_calld0 hcall1 ?_) | (refine cdS (fun hg => ?_) (fun hg => ?_) <;> try simp -implicitDefEqProofs only [hg, Bool.not_true, Bool.not_false]) | (refine gdS (fun hg => ?_) (fun hg => ?_) <;> try simp -implicitDefEqProofs only [hg, Bool.not_true, Bool.not_false]) | (refine gddS (fun hg => ?_) (fun hg => ?_) <;> try simp -implicitDefEqProofs only [hg, Bool.not_true, Bool.not_false]) | ((with_reducible apply And.intro); focus (first | trivial | omega | decide | (simp -implicitDefEqProofs only [maxLen]; omega) | (simp [maxLen, sty_len, nd_len, ndL_len, lnL_len, intsL_len, rvs_len, lensS_len]; done) | (simp [maxLen, sty_len, nd_len, ndL_len, lnL_len, intsL_len, rvs_len, lensS_len]; omega))) | fail)
        refine hN (k + 1) _ _ (by omega) (by omega) ?_
        rw [hfu]
        have a1 : ClH 4 (.var (s.cells.map SV.rv ++ [.rv (.int .i64 w), .rv (.sl 50 (trL ks))])) := clA_pre s.cells (ys := [.rv (.int .i64 w), .rv (.sl 50 (trL ks))]) ⟨clS_rv.2 trivial, clS_rv.2 trivial, trivial⟩
        refine ent_tail (h' := [some (.var (s.cells.map SV.rv ++ [.rv (.int .i64 w), .rv (.sl 50 (trL ks))])), some (.var (x.cells.map SV.rv)), some (.var zero50), some (.row 50 (k + 1) (rvs (trL (ptTo ks n a x (k + 1)))))]) (C := [some (.var (t.cells.map SV.rv)), some (.row 50 0 [t.cells.map SV.rv])]) (Nat.zero_le _) ⟨a1, clA_map, clA_zero50, clH_rvs, trivial⟩ ?_
        simp [ClEnv, lk, clS_rv, clS_row, clS_ptr]
      | false =>
        rw [hfl, Bool.false_and] at hfu
        have hcall2 := hcall; repeat' (first | (simp -implicitDefEqProofs only [go_sem, ↓reduceIte, Nat.reduceEqDiff, Nat.reduceAdd, Nat.reduceSub, Nat.reduceMul, Nat.reduceLeDiff, Nat.reduceLT, reduceCtorEq, Int.reduceToNat, sty_i49, sty_l50, hx, hlen, htln, tr_t50c, hxm, hxt, hxl, htm, htln2, List.append_nil, htt, htl, hgl, htk, trL_app, hap, wu]) | (with_reducible refine g_noent ?_) | (with_reducible refine g_call0 hcall2 ?_) | (with_reducible refine g_calld0 hcall2 ?_) | (refine cdS (fun hg => ?_) (fun hg => ?_) <;> try simp -implicitDefEqProofs only [hg, Bool.not_true, Bool.not_false]) | (refine gdS (fun hg => ?_) (fun hg => ?_) <;> try simp -implicitDefEqProofs only [hg, Bool.not_true, Bool.not_false]) | (refine gddS (fun hg => ?_) (fun hg => ?_) <;> try simp -implicitDefEqProofs only [hg, Bool.not_true, Bool.not_false]) | ((with_reducible apply And.intro); focus (first | trivial | omega | decide | (simp -implicitDefEqProofs only [maxLen]; omega) | (simp [maxLen, sty_len, nd_len, ndL_len, lnL_len, intsL_len, rvs_len, lensS_len]; done) | (simp [maxLen, sty_len, nd_len, ndL_len, lnL_len, intsL_len, rvs_len, lensS_len]; omega))) | fail)
        refine hN (k + 1) _ _ (by omega) (by omega) ?_
        rw [hfu]
        have a1 : ClH 4 (.var (s.cells.map SV.rv ++ [.rv (.int .i64 w), .rv (.sl 50 (trL ks))])) := clA_pre s.cells (ys := [.rv (.int .i64 w), .rv (.sl 50 (trL ks))]) ⟨clS_rv.2 trivial, clS_rv.2 trivial, trivial⟩
        refine ent_tail (h' := [some (.var (s.cells.map SV.rv ++ [.rv (.int .i64 w), .rv (.sl 50 (trL ks))])), some (.var (x.cells.map SV.rv)), some (.var zero50), some (.row 50 (k + 1) (rvs (trL (ptTo ks n a x (k + 1)))))]) (C := [some (.var (t.cells.map SV.rv)), some (.row 50 0 [t.cells.map SV.rv])]) (Nat.zero_le _) ⟨a1, clA_map, clA_zero50, clH_rvs, trivial⟩ ?_
        simp [ClEnv, lk, clS_rv, clS_row, clS_ptr]
    · have hk4 : k = ks.length := by simp at hg; omega
      subst hk4
      have hPl := ptTo_len (n := n) (a := a) (x := x) (Nat.le_refl ks.length)
      simp -implicitDefEqProofs only [go_sem, ↓reduceIte, Nat.reduceEqDiff, Nat.reduceAdd, Nat.reduceSub, Nat.reduceMul, Nat.reduceLeDiff, Nat.reduceLT, reduceCtorEq, Int.reduceToNat]
      refine hX _ _ _ ?_
      generalize ptTo ks n a x ks.length = P at *
      generalize flTo ks n a x ks.length = fl at *
      have hPt := trL_len P
      by_cases hw : w = n
      · have e1 : (w == n) = true := by simpa using hw
        rw [if_pos hw] at hK
        dsimp only at hK
        rw [hPl] at hK
        by_cases ha : a < 0
        · have e2 : decide (a < 0) = true := decide_eq_true ha
          rw [if_pos (.inl ha)] at hK
          repeat' (first | (simp -implicitDefEqProofs only [go_sem, ↓reduceIte, Nat.reduceEqDiff, Nat.reduceAdd, Nat.reduceSub, Nat.reduceMul, Nat.reduceLeDiff, Nat.reduceLT, reduceCtorEq, Int.reduceToNat, sty_i48, sty_l50, e1, e2, sty_t50, zero50_len, zero50_drop, List.append_nil]) | (with_reducible refine g_noent ?_) | (refine cdS (fun hg => ?_) (fun hg => ?_) <;> try simp -implicitDefEqProofs only [hg, Bool.not_true, Bool.not_false]) | (refine gdS (fun hg => ?_) (fun hg => ?_) <;> try simp -implicitDefEqProofs only [hg, Bool.not_true, Bool.not_false]) | (refine gddS (fun hg => ?_) (fun hg => ?_) <;> try simp -implicitDefEqProofs only [hg, Bool.not_true, Bool.not_false]) | ((with_reducible apply And.intro); focus (first | trivial | omega | decide | (simp -implicitDefEqProofs only [maxLen]; omega) | (simp [maxLen, sty_len, nd_len, ndL_len, lnL_len, intsL_len, rvs_len, lensS_len]; done) | (simp [maxLen, sty_len, nd_len, ndL_len, lnL_len, intsL_len, rvs_len, lensS_len]; omega))) | fail)
          refine (hK _ _ ?_).2
          simp -implicitDefEqProofs only [retP, resL, lk, resT_two, go_sem, ↓reduceIte, Nat.reduceEqDiff, Nat.reduceAdd, Nat.reduceSub, Nat.reduceMul, Nat.reduceLeDiff, Nat.reduceLT, reduceCtorEq, Int.reduceToNat, sty_t50, sty_l50, tr_map]
          exact rn_tup.2 ⟨rn_agg.2 (rnAll_pre s.cells ⟨rn_rv.2 rfl, rn_rv.2 rfl, trivial⟩), rn_rv.2 rfl, trivial⟩
        · have e2 : decide (a < 0) = false := decide_eq_false ha
          by_cases ha2 : a > (ks.length : Int)
          · have e3 : decide (a > (ks.length : Int)) = true := decide_eq_true ha2
            rw [if_pos (.inr ha2)] at hK
            repeat' (first | (simp -implicitDefEqProofs only [go_sem, ↓reduceIte, Nat.reduceEqDiff, Nat.reduceAdd, Nat.reduceSub, Nat.reduceMul, Nat.reduceLeDiff, Nat.reduceLT, reduceCtorEq, Int.reduceToNat, sty_i48, sty_l50, e1, e2, e3, sty_t50, zero50_len, zero50_drop, List.append_nil]) | (with_reducible refine g_noent ?_) | (refine cdS (fun hg => ?_) (fun hg => ?_) <;> try simp -implicitDefEqProofs only [hg, Bool.not_true, Bool.not_false]) | (refine gdS (fun hg => ?_) (fun hg => ?_) <;> try simp -implicitDefEqProofs only [hg, Bool.not_true, Bool.not_false]) | (refine gddS (fun hg => ?_) (fun hg => ?_) <;> try simp -implicitDefEqProofs only [hg, Bool.not_true, Bool.not_false]) | ((with_reducible apply And.intro); focus (first | trivial | omega | decide | (simp -implicitDefEqProofs only [maxLen]; omega) | (simp [maxLen, sty_len, nd_len, ndL_len, lnL_len, intsL_len, rvs_len, lensS_len]; done) | (simp [maxLen, sty_len, nd_len, ndL_len, lnL_len, intsL_len, rvs_len, lensS_len]; omega))) | fail)
            refine (hK _ _ ?_).2
            simp -implicitDefEqProofs only [retP, resL, lk, resT_two, go_sem, ↓reduceIte, Nat.reduceEqDiff, Nat.reduceAdd, Nat.reduceSub, Nat.reduceMul, Nat.reduceLeDiff, Nat.reduceLT, reduceCtorEq, Int.reduceToNat, sty_t50, sty_l50, tr_map]
            exact rn_tup.2 ⟨rn_agg.2 (rnAll_pre s.cells ⟨rn_rv.2 rfl, rn_rv.2 rfl, trivial⟩), rn_rv.2 rfl, trivial⟩
          · have e3 : decide (a > (ks.length : Int)) = false := decide_eq_false ha2
            obtain ⟨q, rfl⟩ : ∃ q : Nat, a = q := ⟨a.toNat, by omega⟩
            rw [if_neg (by omega), Int.toNat_natCast] at hK
            have t1 : (trL P).take q = trL (P.take q) := trL_take
            have t2 : (trL P).drop q = trL (P.drop q) := trL_drop
            have l1 : (P.take q).length = q := by simp; omega
            have l2 := trL_len (P.take q)
            have l3 : (P.drop q).length = ks.length - q := by simp; omega
            have l4 := trL_len (P.drop q)
            have htd : List.take (ks.length - q) (List.drop q (rvs (trL P))) = rvs (trL (P.drop q)) := by
              rw [rvs_drop, t2, rvs_take, List.take_of_length_le (by omega)]
            have t5 : (trL (P.take q)).take q = trL (P.take q) := List.take_of_length_le (by omega)
            have t6 : (trL (P.take q ++ [x])).take (q + 1) = trL (P.take q ++ [x]) := List.take_of_length_le (by rw [trL_len]; simp; omega)
            have l5 : (trL (P.take q ++ [x])).length = q + 1 := by rw [trL_len]; simp; omega
            have hP3 : P.take q ++ [x] ++ P.drop q = P.take q ++ x :: P.drop q := by simp
            have hPn : (P.take q ++ x :: P.drop q).length = q + 1 + (ks.length - q) := by simp; omega
            repeat' (first | (simp -implicitDefEqProofs only [go_sem, ↓reduceIte, Nat.reduceEqDiff, Nat.reduceAdd, Nat.reduceSub, Nat.reduceMul, Nat.reduceLeDiff, Nat.reduceLT, reduceCtorEq, Int.reduceToNat, sty_i48, sty_l50, e1, e2, e3, hPt, hPl, htd, t5, t6, t1, t2, l1, l2, l3, l4, hxm, hxt, hxl, trL_app, rvs_append, trL_append, hP3, sty_s49, sty_t50, zero50_len, zero50_drop, List.append_nil]) | (with_reducible refine g_noent ?_) | (refine cdS (fun hg => ?_) (fun hg => ?_) <;> try simp -implicitDefEqProofs only [hg, Bool.not_true, Bool.not_false]) | (refine gdS (fun hg => ?_) (fun hg => ?_) <;> try simp -implicitDefEqProofs only [hg, Bool.not_true, Bool.not_false]) | (refine gddS (fun hg => ?_) (fun hg => ?_) <;> try simp -implicitDefEqProofs only [hg, Bool.not_true, Bool.not_false]) | ((with_reducible apply And.intro); focus (first | trivial | omega | decide | (simp -implicitDefEqProofs only [maxLen]; omega) | (simp [maxLen, sty_len, nd_len, ndL_len, lnL_len, intsL_len, rvs_len, lensS_len]; done) | (simp [maxLen, sty_len, nd_len, ndL_len, lnL_len, intsL_len, rvs_len, lensS_len]; omega))) | fail)
            refine (hK _ _ ?_).2
            simp -implicitDefEqProofs only [retP, resL, lk, resT_two, go_sem, ↓reduceIte, Nat.reduceEqDiff, Nat.reduceAdd, Nat.reduceSub, Nat.reduceMul, Nat.reduceLeDiff, Nat.reduceLT, reduceCtorEq, Int.reduceToNat, sty_t50, sty_l50, tr_map]
            exact rn_tup.2 ⟨rn_agg.2 (rnAll_pre s.cells ⟨rn_rv.2 rfl, rn_frz (xs := trL (P.take q ++ x :: P.drop q)) rfl rfl (by rw [trL_len, hPn]) (trL_one _), trivial⟩), rn_rv.2 rfl, trivial⟩
      · have e1 : (w == n) = false := by simpa using hw
        rw [if_neg hw] at hK
        repeat' (first | (simp -implicitDefEqProofs only [go_sem, ↓reduceIte, Nat.reduceEqDiff, Nat.reduceAdd, Nat.reduceSub, Nat.reduceMul, Nat.reduceLeDiff, Nat.reduceLT, reduceCtorEq, Int.reduceToNat, sty_i48, sty_l50, e1, sty_s49, sty_t50, zero50_len, zero50_drop, List.append_nil]) | (with_reducible refine g_noent ?_) | (refine cdS (fun hg => ?_) (fun hg => ?_) <;> try simp -implicitDefEqProofs only [hg, Bool.not_true, Bool.not_false]) | (refine gdS (fun hg => ?_) (fun hg => ?_) <;> try simp -implicitDefEqProofs only [hg, Bool.not_true, Bool.not_false]) | (refine gddS (fun hg => ?_) (fun hg => ?_) <;> try simp -implicitDefEqProofs only [hg, Bool.not_true, Bool.not_false]) | ((with_reducible apply And.intro); focus (first | trivial | omega | decide | (simp -implicitDefEqProofs only [maxLen]; omega) | (simp [maxLen, sty_len, nd_len, ndL_len, lnL_len, intsL_len, rvs_len, lensS_len]; done) | (simp [maxLen, sty_len, nd_len, ndL_len, lnL_len, intsL_len, rvs_len, lensS_len]; omega))) | fail)
        refine (hK _ _ ?_).2
        simp -implicitDefEqProofs only [retP, resL, lk, resT_two, go_sem, ↓reduceIte, Nat.reduceEqDiff, Nat.reduceAdd, Nat.reduceSub, Nat.reduceMul, Nat.reduceLeDiff, Nat.reduceLT, reduceCtorEq, Int.reduceToNat, sty_t50, sty_l50, tr_map]
        exact rn_tup.2 ⟨rn_agg.2 (rnAll_pre s.cells ⟨rn_rv.2 rfl, rn_frz (xs := trL P) rfl rfl (by rw [hPt, hPl]) (trL_one _), trivial⟩), rn_rv.2 rfl, trivial⟩
end Go.Eng


/- edit: trees of children: their lists. -/
namespace Go.Eng
open Go
/- decoupage/decoupageref32.List -/
def c_decoupageref32_List : AC := (.seq (.reg [⟨(some 4), .box, [(.t 1)], none⟩, ⟨(some 6), .mv, [(.c (.rv .nilsl))], none⟩]) (.seq (.reg [⟨(some 9), .mv, [(.t 0)], none⟩, ⟨(some 10), .len, [(.t 9)], none⟩, ⟨(some 7), .mv, [(.t 10)], none⟩]) (.seq (.reg [⟨(some 11), .mv, [(.t 0)], none⟩, ⟨(some 12), (.fld 0), [(.t 4)], none⟩, ⟨(some 13), (.load 48 true), [(.t 12)], none⟩, ⟨(some 14), .mv, [(.t 2)], none⟩, ⟨(some 15), (.build [(.bool false), (.int .i64 0), (.int .i64 0), (.int .i64 0), (.int .i64 0), (.int .i64 0), (.int .i64 0), (.int .i64 0), (.int .i64 0), (.int .i64 0), (.int .i64 0), (.int .i64 0), (.int .i64 0), (.int .i64 0), (.int .i64 0), (.int .i64 0), (.int .i64 0), (.int .i64 0), (.int .i64 0), (.int .i64 0), (.int .i64 0), (.int .i64 0), (.int .i64 0), (.int .i64 0), (.int .i64 0), (.int .i64 0), (.int .i64 0), (.int .i64 0), (.int .i64 0), (.int .i64 0), (.int .i64 0), (.int .i64 0), (.int .i64 0), (.int .i64 0), (.int .i64 0), (.int .i64 0), (.int .i64 0), (.int .i64 0), (.int .i64 0), (.int .i64 0), (.int .i64 0), (.int .i64 0), (.bool false), (.bool false), (.int .i64 0), (.bool false), (.int .i64 0), (.int .i64 0), (.int .i64 0)] [(0, 48), (48, 1)]), [(.t 13), (.t 14)], none⟩, ⟨(some 16), (.bsl 49), [(.t 15)], none⟩, ⟨(some 17), (.app 49 384), [(.t 11), (.t 16)], none⟩, ⟨(some 0), .mv, [(.t 17)], none⟩]) (.seq (.seq (.reg [⟨(some 18), (.fld 49), [(.t 4)], none⟩, ⟨(some 19), (.load 1 false), [(.t 18)], none⟩, ⟨(some 20), .len, [(.t 19)], none⟩, ⟨(some 21), .mv, [(.c (.rv (.int .i64 0)))], none⟩]) (.seq (.block 0 (.loop (.seq (.reg [⟨(some 22), (.ibin .lss), [(.t 21), (.t 20)], none⟩]) (.seq (.cond (.t 22) .skip (.exit 0)) (.seq (.seq (.block 1 (.seq (.reg [⟨(some 23), .mv, [(.t 21)], none⟩, ⟨(some 8), .mv, [(.t 23)], none⟩]) (.reg [⟨(some 24), .mv, [(.t 0)], none⟩, ⟨(some 25), (.fld 49), [(.t 4)], none⟩, ⟨(some 26), (.load 1 false), [(.t 25)], none⟩, ⟨(some 27), .mv, [(.t 8)], none⟩, ⟨(some 28), (.ixs 50), [(.t 26), (.t 27)], none⟩, ⟨(some 29), (.load 50 true), [(.t 28)], none⟩, ⟨(some 30), .mv, [(.t 7)], none⟩, ⟨(some 31), (.call 65), [(.t 24), (.t 29), (.t 30)], none⟩, ⟨(some 0), .mv, [(.t 31)], none⟩]))) .ent) (.reg [⟨(some 32), (.ibin .add), [(.t 21), (.c (.rv (.int .i64 1)))], none⟩, ⟨(some 21), .mv, [(.t 32)], none⟩])))))) .ent)) (.seq (.reg [⟨(some 33), .mv, [(.t 0)], none⟩, ⟨(some 6), .mv, [(.t 33)], none⟩]) .ret)))))
theorem k_decoupageref32_List : FnOK Go.Proofs.Try.prog 65 34 c_decoupageref32_List [(.t 6)] := fnOK_of (by kernel_rfl)


mutual
theorem listT_len : ∀ (t : Trx) (p : Int) (i : Nat), (listT t p i).length = t.sz
  | .mk s w ks, p, i => by rw [listT_mk, sz_mk, List.length_cons, listF_len ks]
theorem listF_len : ∀ (ks : List Trx) (p i : Nat), (listF ks p i).length = szL ks
  | [], p, i => by rw [listF_nil, szL_nil]; rfl
  | t :: ts, p, i => by rw [listF_cons, szL_cons, List.length_append, listT_len t, listF_len ts]
end
theorem szL_app : ∀ (a b : List Trx), szL (a ++ b) = szL a + szL b
  | [], b => by rw [szL_nil]; simp
  | t :: ts, b => by rw [List.cons_append, szL_cons, szL_cons, szL_app ts b]; omega
theorem listF_app : ∀ (a b : List Trx) (p i : Nat), listF (a ++ b) p i = listF a p i ++ listF b p (i + szL a)
  | [], b, p, i => by rw [listF_nil, szL_nil]; simp
  | t :: ts, b, p, i => by rw [List.cons_append, listF_cons, listF_cons, listF_app ts b, szL_cons, List.append_assoc, Nat.add_assoc]
def lsTo (ks : List Trx) (p k : Nat) : List Nd := listF (ks.take k) p (p + 1)
theorem lsTo_succ {ks : List Trx} {p k : Nat} (h : k < ks.length) : lsTo ks p (k + 1) = lsTo ks p k ++ listT (ks[k]'h) p (p + 1 + szL (ks.take k)) := by
  unfold lsTo
  rw [List.take_succ_eq_append_getElem h, listF_app, listF_cons, listF_nil, List.append_nil]
theorem szTo_succ {ks : List Trx} {k : Nat} (h : k < ks.length) : szL (ks.take (k + 1)) = szL (ks.take k) + (ks[k]'h).sz := by
  rw [List.take_succ_eq_append_getElem h, szL_app, szL_cons, szL_nil]; omega
theorem szTo_le {ks : List Trx} {k : Nat} : szL (ks.take k) ≤ szL ks := by
  conv => rhs; rw [← List.take_append_drop k ks, szL_app]
  omega
theorem lsTo_len (ks : List Trx) (p k : Nat) : (lsTo ks p k).length = szL (ks.take k) := listF_len _ _ _
theorem ndL_app1 {ys : List Nd} {x : Nd} : rvs (ndL ys) ++ [x.cells.map SV.rv] = rvs (ndL (ys ++ [x])) := by simp [rvs, ndL]

set_option maxRecDepth 20000 in
set_option maxHeartbeats 4000000 in
theorem sp_List32 : ∀ (m : Nat) (t : Trx), t.sz ≤ m → m ≤ 1073741823 → ∀ (xs : List Nd) (p : Int) (i0 v : Nat), xs.length + t.sz ≤ 1073741823 → CallR Go.Proofs.Try.prog 65 [.row i0 v xs.length, .agg (t.cells.map .rv), .rv (.int .i64 p)] [(i0, .row 49 v (rvs (ndL xs)))] [(i0, .row 49 (v + t.sz) (rvs (ndL (xs ++ listT t p xs.length))))] (.row i0 (v + t.sz) (xs.length + t.sz)) := by
  intro m
  induction m with
  | zero => intro t ht; have := sz_pos t; omega
  | succ m ih =>
    intro t ht hmb xs p i0 v hxs
    obtain ⟨s, w, ks⟩ := t
    rw [sz_mk] at ht hxs
    have hkl := szL_len ks
    have hlen := trL_len ks
    have hxl := ndL_len xs
    refine callR_M k_decoupageref32_List [i0] [.row 49 v (rvs (ndL xs))] [.row 49 v (rvs (ndL xs))] [.row 0 v xs.length, .agg ((Trx.mk s w ks).cells.map .rv), .rv (.int .i64 p)] [.row i0 v xs.length, .agg ((Trx.mk s w ks).cells.map .rv), .rv (.int .i64 p)] _ _ (by simp) (by simp [BkAll, bk_row, bk_rv, bk_agg, bkAll_map]) rfl (by simp [nodupL]) ⟨rfl, rfl, ⟨rfl, _, rfl⟩, trivial⟩ (fun K hK => ?_)
    have hfull : xs ++ listT (Trx.mk s w ks) p xs.length = xs ++ [Nd.mk s p] ++ lsTo ks xs.length ks.length := by
      rw [listT_mk]; unfold lsTo; rw [List.take_length]; simp
    have hszf : szL (ks.take ks.length) = szL ks := by rw [List.take_length]
    rw [hfull, sz_mk] at hK
    rw [tr_map]
    have htk : (ndL xs).take xs.length = ndL xs := List.take_of_length_le (by omega)
    simp -implicitDefEqProofs only [c_decoupageref32_List, go_sem, ↓reduceIte, Nat.reduceEqDiff, Nat.reduceAdd, Nat.reduceSub, Nat.reduceMul, Nat.reduceLeDiff, Nat.reduceLT, reduceCtorEq, Int.reduceToNat]
    repeat' (first | (simp -implicitDefEqProofs only [go_sem, ↓reduceIte, Nat.reduceEqDiff, Nat.reduceAdd, Nat.reduceSub, Nat.reduceMul, Nat.reduceLeDiff, Nat.reduceLT, reduceCtorEq, Int.reduceToNat, sty_t48, sty_l50, sty_len, sty_mlen, hxl, htk, nd_mkm, nd_setpE, ndL_app1, sty_i49, hlen]) | (with_reducible refine g_noent ?_) | (refine cdS (fun hg => ?_) (fun hg => ?_) <;> try simp -implicitDefEqProofs only [hg, Bool.not_true, Bool.not_false]) | (refine gdS (fun hg => ?_) (fun hg => ?_) <;> try simp -implicitDefEqProofs only [hg, Bool.not_true, Bool.not_false]) | (refine gddS (fun hg => ?_) (fun hg => ?_) <;> try simp -implicitDefEqProofs only [hg, Bool.not_true, Bool.not_false]) | ((with_reducible apply And.intro); focus (first | trivial | omega | decide | (simp -implicitDefEqProofs only [maxLen]; omega) | (simp [maxLen, sty_len, nd_len, ndL_len, lnL_len, intsL_len, rvs_len, lensS_len]; done) | (simp [maxLen, sty_len, nd_len, ndL_len, lnL_len, intsL_len, rvs_len, lensS_len]; omega))) | fail)
    refine g_loop (ι := Nat) (fun k => [(21, .rv (.int .i64 k)), (20, .rv (.int .i64 ks.length)), (7, .rv (.int .i64 xs.length)), (4, .ptr 1 0), (0, .row 0 (v + 1 + szL (ks.take k)) (xs.length + 1 + szL (ks.take k)))]) (fun k => [some (.row 49 (v + 1 + szL (ks.take k)) (rvs (ndL (xs ++ [Nd.mk s p] ++ lsTo ks xs.length k)))), some (.var (s.cells.map SV.rv ++ [.rv (.int .i64 w), .rv (.sl 50 (trL ks))]))]) (fun k => k ≤ ks.length) (fun k => ks.length - k) 0 (by simp) ?_ (fun k hk' K' hN hX hR => ?_)
    · have a1 : ClH 2 (.var (s.cells.map SV.rv ++ [.rv (.int .i64 w), .rv (.sl 50 (trL ks))])) := clA_pre s.cells (ys := [.rv (.int .i64 w), .rv (.sl 50 (trL ks))]) ⟨clS_rv.2 trivial, clS_rv.2 trivial, trivial⟩
      have e0 : lsTo ks xs.length 0 = [] := by unfold lsTo; rw [List.take_zero, listF_nil]
      have e1 : szL (ks.take 0) = 0 := by rw [List.take_zero, szL_nil]
      rw [e0, e1, List.append_nil]
      refine ent_tail (h' := [some (.row 49 (v + 1) (rvs (ndL (xs ++ [Nd.mk s p])))), some (.var (s.cells.map SV.rv ++ [.rv (.int .i64 w), .rv (.sl 50 (trL ks))]))]) (C := [some (.row 49 0 [(Nd.mk s p).cells.map SV.rv])]) (show 1 ≤ 2 from by decide) ⟨clH_rvs, a1, trivial⟩ ?_
      simp [ClEnv, lk, clS_rv, clS_row, clS_ptr]
    · simp -implicitDefEqProofs only [go_sem, ↓reduceIte, Nat.reduceEqDiff, Nat.reduceAdd, Nat.reduceSub, Nat.reduceMul, Nat.reduceLeDiff, Nat.reduceLT, reduceCtorEq, Int.reduceToNat]
      refine cdS (fun hg => ?_) (fun hg => ?_)
      · have hk4 : k < ks.length := by simp at hg; omega
        have wu := wrap_up (k := k) (by omega)
        have hx := trL_get hk4
        have hsz := sz_mem (List.getElem_mem hk4)
        have hls := lsTo_succ (p := xs.length) hk4
        have hss := szTo_succ hk4
        have hle := szTo_le (ks := ks) (k := k + 1)
        have htln := tr_len (ks[k]'hk4)
        have hll := lsTo_len ks xs.length k
        have hcur : (xs ++ [Nd.mk s p] ++ lsTo ks xs.length k).length = xs.length + 1 + szL (ks.take k) := by simp [hll]; omega
        have hcall := ih (ks[k]'hk4) (by omega) (by omega) (xs ++ [Nd.mk s p] ++ lsTo ks xs.length k) xs.length 0 (v + 1 + szL (ks.take k)) (by omega)
        have h1 : v + 1 + szL (ks.take k) + (ks[k]'hk4).sz = v + 1 + szL (ks.take (k + 1)) := by omega
        have h2 : xs.length + 1 + szL (ks.take k) + (ks[k]'hk4).sz = xs.length + 1 + szL (ks.take (k + 1)) := by omega
        rw [hcur, List.append_assoc (xs ++ [Nd.mk s p]), ← hls, h1, h2] at hcall
        generalize ks[k]'hk4 = c at *
        have hcall1 := hcall; repeat' (first | (simp -implicitDefEqProofs only [go_sem, ↓reduceIte, Nat.reduceEqDiff, Nat.reduceAdd, Nat.reduceSub, Nat.reduceMul, Nat.reduceLeDiff, Nat.reduceLT, reduceCtorEq, Int.reduceToNat, sty_i49, sty_l50, hx, hlen, htln, tr_t50c, wu]) | (with_reducible refine g_noent ?_) | (refine g_call hcall1 (by simp [PreOK, hget]; done) (by simp [okU, uph]; done) ?_) | (refine g_calld hcall1 (by simp [PreOK, hget]; done) (by simp [okU, uph]; done) ?_) | (refine cdS (fun hg => ?_) (fun hg => ?_) <;> try simp -implicitDefEqProofs only [hg, Bool.not_true, Bool.not_false]) | (refine gdS (fun hg => ?_) (fun hg => ?_) <;> try simp -implicitDefEqProofs only [hg, Bool.not_true, Bool.not_false]) | (refine gddS (fun hg => ?_) (fun hg => ?_) <;> try simp -implicitDefEqProofs only [hg, Bool.not_true, Bool.not_false]) | ((with_reducible apply And.intro); focus (first | trivial | omega | decide | (simp -implicitDefEqProofs only [maxLen]; omega) | (simp [maxLen, sty_len, nd_len, ndL_len, lnL_len, intsL_len, rvs_len, lensS_len]; done) | (simp [maxLen, sty_len, nd_len, ndL_len, lnL_len, intsL_len, rvs_len, lensS_len]; omega))) | fail)
        exact hN (k + 1) _ _ (by omega) (by omega) (ent_env (by simp [lk]))
      · have hk4 : k = ks.length := by simp at hg; omega
        subst hk4
        simp -implicitDefEqProofs only [go_sem, ↓reduceIte, Nat.reduceEqDiff, Nat.reduceAdd, Nat.reduceSub, Nat.reduceMul, Nat.reduceLeDiff, Nat.reduceLT, reduceCtorEq, Int.reduceToNat]
        refine hX _ _ _ ?_
        repeat' (first | (simp -implicitDefEqProofs only [go_sem, ↓reduceIte, Nat.reduceEqDiff, Nat.reduceAdd, Nat.reduceSub, Nat.reduceMul, Nat.reduceLeDiff, Nat.reduceLT, reduceCtorEq, Int.reduceToNat]) | (with_reducible refine g_noent ?_) | (refine cdS (fun hg => ?_) (fun hg => ?_) <;> try simp -implicitDefEqProofs only [hg, Bool.not_true, Bool.not_false]) | (refine gdS (fun hg => ?_) (fun hg => ?_) <;> try simp -implicitDefEqProofs only [hg, Bool.not_true, Bool.not_false]) | (refine gddS (fun hg => ?_) (fun hg => ?_) <;> try simp -implicitDefEqProofs only [hg, Bool.not_true, Bool.not_false]) | ((with_reducible apply And.intro); focus (first | trivial | omega | decide | (simp -implicitDefEqProofs only [maxLen]; omega) | (simp [maxLen, sty_len, nd_len, ndL_len, lnL_len, intsL_len, rvs_len, lensS_len]; done) | (simp [maxLen, sty_len, nd_len, ndL_len, lnL_len, intsL_len, rvs_len, lensS_len]; omega))) | fail)
        rw [hszf]
        rw [show v + 1 + szL ks = v + (szL ks + 1) by omega, show xs.length + 1 + szL ks = xs.length + (szL ks + 1) by omega]
        refine (hK _ _ _ _ [] (ent_refl _ _) ?_).2
        simp [retM, nodupL, newL, allU, keptL, retP, resL, lk, resT, RnHo, lkp, finU, hget_zero, hget_succ, hget, rnRows_rvs, rn_tup, rn_rv, rn_row, rn_ptr, rn_ifc, rn_agg, rn_dead, RnAll, ofL, rnAll_map]
end Go.Eng


/- edit: trees and lists, in plain terms. -/
namespace Go.Eng
open Go

theorem grow_fuel {l : List Nd} (hs : Shp l) : ∀ d d' n, l.length - n ≤ d → l.length - n ≤ d' → n < l.length → growF l d n = growF l d' n := by
  intro d
  induction d with
  | zero => intro d' n h1 h2 h3; omega
  | succ d ih =>
    intro d' n h1 h2 h3
    match d', h2 with
    | 0, h2 => omega
    | d' + 1, h2 =>
      rw [growF, growF]
      congr 1
      refine List.map_congr_left fun c hc => ?_
      rw [mem_kids] at hc
      have := par_lt hs hc.2.1
      exact ih d' c (by omega) (by omega) hc.2.1
def grow (l : List Nd) (n : Nat) : Trx := growF l l.length n
theorem grow_mk {l : List Nd} (hs : Shp l) {n : Nat} (hn : n < l.length) : grow l n = .mk (l.getD n default).s n ((kidsOf l n).map (grow l)) := by
  unfold grow
  obtain ⟨L, hL⟩ : ∃ L, l.length = L + 1 := ⟨l.length - 1, by omega⟩
  rw [hL, growF]
  congr 1
  refine List.map_congr_left fun c hc => ?_
  rw [mem_kids] at hc
  exact grow_fuel hs _ _ c (by omega) (by omega) hc.2.1
def seg (l : List Nd) (a b : Nat) : List Nd := (l.take b).drop a
theorem seg_nil (l : List Nd) (a : Nat) : seg l a a = [] := by unfold seg; rw [List.drop_eq_nil_iff]; simp; omega
theorem seg_cons {l : List Nd} {a b : Nat} (ha : a < b) (hb : b ≤ l.length) : seg l a b = l[a]'(by omega) :: seg l (a + 1) b := by
  unfold seg
  have h : a < (l.take b).length := by simp; omega
  rw [List.drop_eq_getElem_cons h, List.getElem_take]
theorem seg_app {l : List Nd} {a b c : Nat} (h1 : a ≤ b) (h2 : b ≤ c) (h3 : c ≤ l.length) : seg l a b ++ seg l b c = seg l a c := by
  unfold seg
  have e : l.take c = l.take b ++ (l.take c).drop b := by
    conv => lhs; rw [← List.take_append_drop b (l.take c), List.take_take]
    rw [show min b c = b by omega]
  conv => rhs; rw [e, List.drop_append_of_le_length (by simp <;> omega)]
theorem seg_len {l : List Nd} {a b : Nat} (hb : b ≤ l.length) : (seg l a b).length = b - a := by simp [seg]; omega

theorem list_grow {l : List Nd} (hs : Shp l) : ∀ m n, l.length - n ≤ m → n < l.length → listT (grow l n) (parL l n) n = seg l n (endR l n) := by
  intro m
  induction m with
  | zero => intro n h1 h2; omega
  | succ m ih =>
    intro n h1 hn
    have g1 := endR_gt hn
    have g2 := endR_le l n
    have hK := kids_len hs.root (n := n)
    have key : ∀ d k, (kidsOf l n).length - k ≤ d → k ≤ (kidsOf l n).length → listF (((kidsOf l n).drop k).map (grow l)) n (placeF l n k) = seg l (placeF l n k) (endR l n) := by
      intro d
      induction d with
      | zero =>
        intro k h1 h2
        have : k = (kidsOf l n).length := by omega
        rw [List.drop_of_length_le (by omega), List.map_nil, listF_nil, this, hK, place_last hs hn, seg_nil]
      | succ d ihd =>
        intro k h1 h2
        by_cases hk : k = (kidsOf l n).length
        · exact (by
            rw [List.drop_of_length_le (by omega), List.map_nil, listF_nil, hk, hK, place_last hs hn, seg_nil])
        · have hk2 : k < (kidsOf l n).length := by omega
          have hkp := kid_place hs hn (k := k) (by omega)
          obtain ⟨p1, p2, p3, p4⟩ := place_kid hs hn k (by omega)
          obtain ⟨p5, p6⟩ := p4 (by omega)
          have hpe := place_end hs hn (k + 1) (by omega)
          have hsu := ihd (k + 1) (by omega) (by omega)
          rw [List.drop_eq_getElem_cons hk2, List.map_cons, (List.getElem?_eq_some_iff.1 hkp).2, listF_cons]
          have e1 : placeF l n (k + 1) = endR l (placeF l n k) := rfl
          rw [e1] at hsu hpe
          generalize placeF l n k = c at *
          have c1 := endR_gt p5
          have c2 := endR_le l c
          have hih := ih c (by omega) p5
          rw [p6] at hih
          have hsz : c + (grow l c).sz = endR l c := by
            have := listT_len (grow l c) n c
            rw [hih, seg_len c2] at this
            omega
          rw [hih, hsz, hsu, seg_app (by omega) hpe g2]
    have h0 := key _ 0 (Nat.le_refl _) (Nat.zero_le _)
    rw [grow_mk hs hn, listT_mk]
    rw [List.drop_zero] at h0
    have e1 : placeF l n 0 = n + 1 := rfl
    rw [e1] at h0
    rw [h0, seg_cons g1 g2]
    congr 1
    rw [List.getD_eq_getElem?_getD, List.getElem?_eq_getElem hn, Option.getD_some, ← parL_eq hn]
theorem end_root {l : List Nd} (hs : Shp l) : endR l 0 = l.length := by
  refine endR_unique hs.pos (Nat.le_refl _) (fun k h1 h2 => ?_) (fun h => by omega)
  exact (hs.up k h1 h2).1
theorem list_grow0 {l : List Nd} (hs : Shp l) : listT (grow l 0) (-1) 0 = l := by
  have := list_grow hs _ 0 (Nat.le_refl _) hs.pos
  rw [hs.root, end_root hs] at this
  rw [this]; unfold seg; simp
theorem sz_grow {l : List Nd} (hs : Shp l) {n : Nat} (hn : n < l.length) : (grow l n).sz = endR l n - n := by
  rw [← listT_len (grow l n) (parL l n) n, list_grow hs _ n (Nat.le_refl _) hn, seg_len (endR_le l n)]

mutual
def rlT (f : Int → Int) : Trx → Trx
  | .mk s w ks => .mk s (f w) (rlF f ks)
def rlF (f : Int → Int) : List Trx → List Trx
  | [] => []
  | t :: ts => rlT f t :: rlF f ts
end
theorem rlT_mk (f : Int → Int) (s : Sty) (w : Int) (ks : List Trx) : rlT f (.mk s w ks) = .mk s (f w) (rlF f ks) := by rw [rlT]
theorem rlF_map (f : Int → Int) : ∀ ks : List Trx, rlF f ks = ks.map (rlT f)
  | [] => by rw [rlF]; rfl
  | t :: ts => by rw [rlF, rlF_map f ts]; rfl
mutual
theorem rl_sz (f : Int → Int) : ∀ t : Trx, (rlT f t).sz = t.sz
  | .mk s w ks => by rw [rlT_mk, sz_mk, sz_mk, rlF_sz f ks]
theorem rlF_sz (f : Int → Int) : ∀ ks : List Trx, szL (rlF f ks) = szL ks
  | [] => by rw [rlF]
  | t :: ts => by rw [rlF, szL_cons, szL_cons, rl_sz f t, rlF_sz f ts]
end
mutual
theorem rl_list (f : Int → Int) : ∀ (t : Trx) (p : Int) (i : Nat), listT (rlT f t) p i = listT t p i
  | .mk s w ks, p, i => by rw [rlT_mk, listT_mk, listT_mk, rlF_list f ks]
theorem rlF_list (f : Int → Int) : ∀ (ks : List Trx) (p i : Nat), listF (rlF f ks) p i = listF ks p i
  | [], p, i => by rw [rlF]
  | t :: ts, p, i => by rw [rlF, listF_cons, listF_cons, rl_list f t, rlF_list f ts, rl_sz f t]
end
def erT (t : Trx) : Trx := rlT (fun _ => 0) t
theorem erT_mk (s : Sty) (w : Int) (ks : List Trx) : erT (.mk s w ks) = .mk s 0 (ks.map erT) := by unfold erT; rw [rlT_mk, rlF_map]
theorem er_list (t t' : Trx) (h : erT t = erT t') (p : Int) (i : Nat) : listT t p i = listT t' p i := by
  rw [← rl_list (fun _ => 0) t, ← rl_list (fun _ => 0) t']
  show listT (erT t) p i = listT (erT t') p i
  rw [h]

/-- Kids are told by parents. -/
theorem kids_congr {l l' : List Nd} {n : Nat} (h : l.length = l'.length) (hp : ∀ j, j < l.length → parL l j = parL l' j) : kidsOf l n = kidsOf l' n := by
  unfold kidsOf; rw [← h]; exact kidsTo_eq _ hp
theorem sty_grow {l : List Nd} (hs : Shp l) {m : Nat} (hm : m < l.length) {s : Sty} : ∀ d n, l.length - n ≤ d → n < l.length → styT (grow l n) m s = grow (l.set m ⟨s, parL l m⟩) n := by
  have hl : (l.set m ⟨s, parL l m⟩).length = l.length := by simp
  have hp : ∀ j, parL (l.set m ⟨s, parL l m⟩) j = parL l j := fun j => by
    by_cases hj : j = m
    · subst hj; exact set_par hm
    · unfold parL
      simp -implicitDefEqProofs only [List.getD_eq_getElem?_getD]
      rw [List.getElem?_set_ne (by omega)]
  have hs2 : Shp (l.set m ⟨s, parL l m⟩) := by
    refine ⟨by rw [hl]; exact hs.pos, by rw [hp]; exact hs.root, fun j h0 hj => ?_⟩
    rw [hl] at hj
    have hu := hs.up j h0 hj
    have hpth : ∀ m' k, k ≤ m' → pth (l.set m ⟨s, parL l m⟩) k = pth l k := by
      intro m'
      induction m' with
      | zero => intro k hk; rw [show k = 0 by omega, pth_zero, pth_zero]
      | succ m' ih =>
        intro k hk
        by_cases hh : 0 ≤ parL l k ∧ parL l k < k
        · rw [pth_cons (l := l) hh, pth_cons (l := l.set m ⟨s, parL l m⟩) (by rw [hp]; exact hh), hp, ih _ (by omega)]
        · rw [pth_one (l := l) hh, pth_one (l := l.set m ⟨s, parL l m⟩) (by rw [hp]; exact hh)]
    rw [hp, hpth _ _ (Nat.le_refl _)]
    exact hu
  intro d
  induction d with
  | zero => intro n h1 h2; omega
  | succ d ih =>
    intro n h1 hn
    rw [grow_mk hs hn, grow_mk hs2 (by rw [hl]; exact hn), styT_mk, styF_map, List.map_map]
    have hk : kidsOf (l.set m ⟨s, parL l m⟩) n = kidsOf l n := kids_congr hl (fun j _ => hp j)
    rw [hk]
    have e1 : (if (n : Int) = m then s else (l.getD n default).s) = ((l.set m ⟨s, parL l m⟩).getD n default).s := by
      by_cases hnm : n = m
      · subst hnm
        rw [if_pos rfl, List.getD_eq_getElem?_getD, List.getElem?_set_self hn]; rfl
      · rw [if_neg (by omega), List.getD_eq_getElem?_getD, List.getD_eq_getElem?_getD, List.getElem?_set_ne (by omega)]
    rw [e1]
    congr 1
    refine List.map_congr_left fun c hc => ?_
    rw [mem_kids] at hc
    have := par_lt hs hc.2.1
    exact ih c (by omega) hc.2.1
theorem set_shp {l : List Nd} (hs : Shp l) {m : Nat} (hm : m < l.length) {s : Sty} : Shp (l.set m ⟨s, parL l m⟩) := by
  have hl : (l.set m ⟨s, parL l m⟩).length = l.length := by simp
  have hp : ∀ j, parL (l.set m ⟨s, parL l m⟩) j = parL l j := fun j => by
    by_cases hj : j = m
    · subst hj; exact set_par hm
    · unfold parL
      simp -implicitDefEqProofs only [List.getD_eq_getElem?_getD]
      rw [List.getElem?_set_ne (by omega)]
  refine ⟨by rw [hl]; exact hs.pos, by rw [hp]; exact hs.root, fun j h0 hj => ?_⟩
  rw [hl] at hj
  have hu := hs.up j h0 hj
  have hpth : ∀ m' k, k ≤ m' → pth (l.set m ⟨s, parL l m⟩) k = pth l k := by
    intro m'
    induction m' with
    | zero => intro k hk; rw [show k = 0 by omega, pth_zero, pth_zero]
    | succ m' ih =>
      intro k hk
      by_cases hh : 0 ≤ parL l k ∧ parL l k < k
      · rw [pth_cons (l := l) hh, pth_cons (l := l.set m ⟨s, parL l m⟩) (by rw [hp]; exact hh), hp, ih _ (by omega)]
      · rw [pth_one (l := l) hh, pth_one (l := l.set m ⟨s, parL l m⟩) (by rw [hp]; exact hh)]
  rw [hp, hpth _ _ (Nat.le_refl _)]
  exact hu
theorem sty_list {l : List Nd} (hs : Shp l) {m : Nat} (hm : m < l.length) {s : Sty} : listT (styT (grow l 0) m s) (-1) 0 = l.set m ⟨s, parL l m⟩ := by
  rw [sty_grow hs hm _ 0 (Nat.le_refl _) hs.pos, list_grow0 (set_shp hs hm)]

/-- A tree without one. -/
theorem tak_grow {l : List Nd} (hs : Shp l) {n : Nat} (h0 : 0 < n) (hn : n < l.length) : ∀ d c, l.length - c ≤ d → c < l.length → ¬ (n ≤ c ∧ c < endR l n) → takT (grow l c) n = rlT (fun j => (phiL n (endR l n) j.toNat : Nat)) (grow (leftF l n) (psiL n (endR l n) c)) := by
  have g1 := endR_gt hn
  have g2 := endR_le l n
  have hlen := leftF_len hn
  intro d
  induction d with
  | zero => intro c h1 h2; omega
  | succ d ih =>
    intro c h1 hc hco
    have hcl : psiL n (endR l n) c < (leftF l n).length := by unfold psiL; split <;> omega
    have hfp : phiL n (endR l n) (psiL n (endR l n) c) = c := by unfold phiL psiL; (repeat' split) <;> omega
    rw [grow_mk hs hc, grow_mk (left_shp hs h0 hn) hcl, takT_mk, rlT_mk, takF_map, rlF_map, left_kids hs h0 hn hc hco, Int.toNat_natCast, hfp]
    have e1 : ((leftF l n).getD (psiL n (endR l n) c) default).s = (l.getD c default).s := by
      unfold leftF
      have h1 : (l.take n).length = n := by simp; omega
      by_cases hcn : c < n
      · have : psiL n (endR l n) c = c := by unfold psiL; rw [if_pos hcn]
        rw [this, List.getD_eq_getElem?_getD, List.getElem?_append_left (by omega), List.getElem?_take_of_lt hcn, List.getD_eq_getElem?_getD]
      · have : psiL n (endR l n) c = c - (endR l n - n) := by unfold psiL; rw [if_neg hcn]
        rw [this, List.getD_eq_getElem?_getD, List.getElem?_append_right (by omega), h1, List.getElem?_map, List.getElem?_drop, show endR l n + (c - (endR l n - n) - n) = c by omega, List.getElem?_eq_getElem hc, List.getD_eq_getElem?_getD, List.getElem?_eq_getElem hc]
        simp -implicitDefEqProofs only [Option.map_some, Option.getD_some, subIf]
        split <;> rfl
    rw [e1]
    congr 1
    rw [List.filter_map, List.map_map, List.map_map, List.map_map]
    have e2 : (kidsOf l c).filter ((fun t : Trx => t.was != (n : Int)) ∘ grow l) = (kidsOf l c).filter (fun k => decide (k ≠ n)) := by
      refine List.filter_congr fun k hk => ?_
      rw [mem_kids] at hk
      rw [Function.comp_apply, grow_mk hs hk.2.1]
      show ((k : Int) != (n : Int)) = decide (k ≠ n)
      by_cases h : k = n <;> simp [h]
      omega
    rw [e2]
    refine List.map_congr_left fun k hk => ?_
    simp -implicitDefEqProofs only [List.mem_filter, decide_eq_true_eq] at hk
    obtain ⟨hk1, hk2⟩ := hk
    rw [mem_kids] at hk1
    have hpl := par_lt hs hk1.2.1
    have hko : ¬ (n ≤ k ∧ k < endR l n) := fun hh => by
      have := endR_in (l := l) (n := n) (k := k) (by omega) hh.2
      omega
    exact ih k (by omega) hk1.2.1 hko
theorem tak_list {l : List Nd} (hs : Shp l) {n : Nat} (h0 : 0 < n) (hn : n < l.length) : listT (takT (grow l 0) n) (-1) 0 = leftF l n := by
  have h1 : psiL n (endR l n) 0 = 0 := by unfold psiL; rw [if_pos h0]
  rw [tak_grow hs h0 hn _ 0 (Nat.le_refl _) hs.pos (by omega), rl_list, h1, list_grow0 (left_shp hs h0 hn)]
end Go.Eng


/- edit: what is put in, as trees. -/
namespace Go.Eng
open Go

def kf (l : List Nd) (p : Nat) (j : Nat) : Bool := decide (0 < j) && decide (parL l j = p)
theorem kids_kf (l : List Nd) (p : Nat) : kidsOf l p = (List.range l.length).filter (kf l p) := rfl
theorem kf_iff {l : List Nd} {p j : Nat} : kf l p j = true ↔ 0 < j ∧ parL l j = p := by simp [kf]
theorem kids2 (l : List Nd) (p : Nat) {a b : Nat} (h : l.length = a + b) : kidsOf l p = (List.range a).filter (kf l p) ++ ((List.range b).filter (fun i => kf l p (a + i))).map (a + ·) := by
  rw [kids_kf, h, List.range_add, List.filter_append, List.filter_map]; rfl
theorem kids3 (l : List Nd) (p : Nat) {a b c : Nat} (h : l.length = a + b + c) : kidsOf l p = (List.range a).filter (kf l p) ++ ((List.range b).filter (fun i => kf l p (a + i))).map (a + ·) ++ ((List.range c).filter (fun i => kf l p (a + b + i))).map (a + b + ·) := by
  rw [kids_kf, h, List.range_add, List.range_add, List.filter_append, List.filter_append, List.filter_map, List.filter_map]; rfl
theorem filter_none {p : Nat → Bool} {n : Nat} (h : ∀ i, i < n → p i = false) : (List.range n).filter p = [] := by
  rw [List.filter_eq_nil_iff]; intro i hi; rw [h i (by simpa using hi)]; simp
theorem filter_same {p q : Nat → Bool} {n : Nat} (h : ∀ i, i < n → p i = q i) : (List.range n).filter p = (List.range n).filter q :=
  List.filter_congr fun i hi => h i (by simpa using hi)
theorem kf_eq {l l' : List Nd} {p p' j j' : Nat} (h : (0 < j ∧ parL l j = p) ↔ (0 < j' ∧ parL l' j' = p')) : kf l p j = kf l' p' j' := by
  rw [Bool.eq_iff_iff, kf_iff, kf_iff]; exact h
theorem kf_no {l : List Nd} {p j : Nat} (h : ¬ (0 < j ∧ parL l j = p)) : kf l p j = false := by
  rw [Bool.eq_false_iff]; intro hh; exact h (kf_iff.1 hh)

/-- A part, by itself. -/
theorem part_par {l : List Nd} {n : Nat} (hn : n < l.length) {i : Nat} (h0 : 0 < i) (hi : i < endR l n - n) : parL (partF l n) i = parL l (n + i) - n := by
  have hi2 : i < (part0 l n).length := by rw [part0_len hn]; omega
  have g2 := endR_le l n
  have hni : n + i < l.length := by omega
  unfold parL partF
  rw [List.getD_eq_getElem?_getD, List.getElem?_set_ne (by omega), List.getElem?_map, List.getElem?_eq_getElem hi2]
  simp -implicitDefEqProofs only [Option.map_some, Option.getD_some, subN, part0, List.getElem_drop, List.getElem_take]
  rw [List.getD_eq_getElem?_getD, List.getElem?_eq_getElem hni]; rfl
theorem part_up {l : List Nd} (hs : Shp l) {n : Nat} (hn : n < l.length) {i : Nat} (h0 : 0 < i) (hi : i < endR l n - n) : 0 ≤ parL (partF l n) i ∧ parL (partF l n) i < i ∧ n + (parL (partF l n) i).toNat = (parL l (n + i)).toNat := by
  have g2 := endR_le l n
  have h1 := endR_in (l := l) (n := n) (k := n + i) (by omega) (by omega)
  have h2 := par_lt hs (k := n + i) (by omega)
  rw [part_par hn h0 hi]; omega
theorem part_pth {l : List Nd} (hs : Shp l) {n : Nat} (hn : n < l.length) : ∀ m i, i ≤ m → i < endR l n - n → pth l (n + i) = (pth (partF l n) i).map (n + ·) ++ (pth l n).drop 1
  | m, i, hm, hi => by
    have g2 := endR_le l n
    by_cases hz : i = 0
    · subst hz
      obtain ⟨r, hr⟩ := pth_head (l := l) (n := n)
      rw [pth_zero, Nat.add_zero, hr]; simp
    · obtain ⟨a1, a2, a3⟩ := part_up hs hn (by omega) hi
      have hu := hs.up (n + i) (by omega) (by omega)
      rw [pth_cons (l := l) ⟨hu.1, hu.2.1⟩, pth_cons (l := partF l n) ⟨a1, a2⟩, List.map_cons, List.cons_append]
      match m, hm with
      | 0, hm => omega
      | m + 1, hm => rw [← part_pth hs hn m _ (by omega) (by omega), a3]
theorem up_small {l : List Nd} {n x : Nat} (h : x ∈ (pth l n).drop 1) : x < n := by
  by_cases hp : 0 ≤ parL l n ∧ parL l n < n
  · rw [pth_cons hp] at h
    have := pth_le _ _ (show x ∈ pth l (parL l n).toNat by simpa using h)
    omega
  · rw [pth_one hp] at h; simp at h
theorem part_shp {l : List Nd} (hs : Shp l) {n : Nat} (hn : n < l.length) : Shp (partF l n) := by
  have hok := part_ok hs hn
  have hl := partF_len hn
  refine ⟨hok.pos, hok.root, fun i h0 hi => ?_⟩
  have g2 := endR_le l n
  obtain ⟨a1, a2, a3⟩ := part_up hs hn h0 (by omega)
  refine ⟨a1, a2, ?_⟩
  have hu := (hs.up (n + i) (by omega) (by omega)).2.2
  rw [← a3, show n + i - 1 = n + (i - 1) by omega, part_pth hs hn _ (i - 1) (Nat.le_refl _) (by omega), List.mem_append] at hu
  rcases hu with hu | hu
  · obtain ⟨y, hy, he⟩ := List.mem_map.1 hu
    rw [show (parL (partF l n) i).toNat = y by omega]; exact hy
  · have := up_small hu; omega
theorem part_kids {l : List Nd} (hs : Shp l) {n : Nat} (hn : n < l.length) {i : Nat} (hi : i < endR l n - n) : kidsOf l (n + i) = (kidsOf (partF l n) i).map (n + ·) := by
  have g1 := endR_gt hn
  have g2 := endR_le l n
  have hl := partF_len hn
  rw [kids3 l (n + i) (a := n) (b := endR l n - n) (c := l.length - endR l n) (by omega), kids_kf (partF l n), hl]
  rw [filter_none (p := kf l (n + i)) (fun j hj => kf_no fun h => by have := par_lt hs (k := j) (by omega); omega)]
  rw [filter_none (p := fun k => kf l (n + i) (n + (endR l n - n) + k)) (fun j hj => kf_no fun h => by have := out_par hs hn (k := n + (endR l n - n) + j) (by omega) (by omega); omega)]
  rw [filter_same (p := fun k => kf l (n + i) (n + k)) (q := kf (partF l n) i) (fun k hk => kf_eq (by
    by_cases hk0 : k = 0
    · subst hk0
      have := par_lt hs hn
      constructor
      · intro h; have := h.2; rw [Nat.add_zero] at this; omega
      · intro h; omega
    · have := part_par hn (i := k) (by omega) hk
      rw [this]
      constructor <;> (intro h; omega)))]
  simp
theorem part_sty {l : List Nd} {n : Nat} (hn : n < l.length) {i : Nat} (hi : i < endR l n - n) : ((partF l n).getD i default).s = (l.getD (n + i) default).s := by
  have hi2 : i < (part0 l n).length := by rw [part0_len hn]; omega
  have g2 := endR_le l n
  have hni : n + i < l.length := by omega
  unfold partF
  by_cases h0 : i = 0
  · subst h0
    rw [List.getD_eq_getElem?_getD, List.getElem?_set_self (by simpa using hi2)]; rfl
  · rw [List.getD_eq_getElem?_getD, List.getElem?_set_ne (by omega), List.getElem?_map, List.getElem?_eq_getElem hi2]
    simp -implicitDefEqProofs only [Option.map_some, Option.getD_some, subN, part0, List.getElem_drop, List.getElem_take]
    rw [List.getD_eq_getElem?_getD, List.getElem?_eq_getElem hni]; rfl
theorem part_er {l : List Nd} (hs : Shp l) {n : Nat} (hn : n < l.length) : ∀ d i, endR l n - n - i ≤ d → i < endR l n - n → erT (grow l (n + i)) = erT (grow (partF l n) i) := by
  have g2 := endR_le l n
  have hl := partF_len hn
  intro d
  induction d with
  | zero => intro i h1 h2; omega
  | succ d ih =>
    intro i h1 hi
    rw [grow_mk hs (show n + i < l.length by omega), grow_mk (part_shp hs hn) (show i < (partF l n).length by omega), erT_mk, erT_mk, part_kids hs hn hi, part_sty hn hi, List.map_map, List.map_map, List.map_map]
    congr 1
    refine List.map_congr_left fun c hc => ?_
    rw [mem_kids] at hc
    have := par_lt (part_shp hs hn) hc.2.1
    exact ih c (by omega) (by omega)

def alF (q sp : Nat) (j : Nat) : Nat := if j < q then j else j + sp
/-- A tree that is put into a tree. -/
structure PX (L Q : List Nd) (T a q : Nat) : Prop where
  hs : Shp L
  hQ : Shp Q
  hT : T < L.length
  ha : a ≤ kidTo L T L.length
  hq : q = placeF L T a
section
variable {L Q : List Nd} {T a q : Nat} (H : PX L Q T a q)
include H
theorem pq : T < q ∧ q ≤ L.length := by
  obtain ⟨p1, p2, p3, p4⟩ := place_kid H.hs H.hT a H.ha
  rw [H.hq]; exact ⟨p1, p2⟩
theorem px_pth_lo : ∀ m k, k ≤ m → k < q → pth (pasteF L Q T q) k = pth L k
  | m, k, hm, hk => by
    have h1 := (pq H).2
    have hp := paste_lo (Q := Q) (n := (T : Int)) h1 hk
    by_cases hh : 0 ≤ parL L k ∧ parL L k < k
    · rw [pth_cons (l := L) hh, pth_cons (l := pasteF L Q T q) (by rw [hp]; exact hh), hp]
      match m, hm with
      | 0, hm => omega
      | m + 1, hm => rw [px_pth_lo m _ (by omega) (by omega)]
    · rw [pth_one (l := L) hh, pth_one (l := pasteF L Q T q) (by rw [hp]; exact hh)]
theorem px_pth_mid : ∀ m i, i ≤ m → i < Q.length → pth (pasteF L Q T q) (q + i) = (pth Q i).map (q + ·) ++ pth L T
  | m, i, hm, hi => by
    obtain ⟨h0, h1⟩ := pq H
    have hp := paste_mid (Q := Q) (n := (T : Int)) h1 (show q ≤ q + i by omega) (by omega)
    by_cases hz : i = 0
    · subst hz
      rw [if_pos (Nat.add_zero q), Nat.add_zero] at hp
      rw [Nat.add_zero, pth_cons (l := pasteF L Q T q) (by rw [hp]; omega), hp, pth_zero, Int.toNat_natCast, px_pth_lo H _ T (Nat.le_refl _) h0]; simp
    · rw [if_neg (by omega), show q + i - q = i by omega] at hp
      have hu := H.hQ.up i (by omega) hi
      rw [pth_cons (l := pasteF L Q T q) (by rw [hp]; omega), hp, pth_cons (l := Q) ⟨hu.1, hu.2.1⟩, List.map_cons, List.cons_append]
      match m, hm with
      | 0, hm => omega
      | m + 1, hm =>
        rw [← px_pth_mid m _ (by omega) (by omega)]
        congr 2; omega
theorem px_pth_hi : ∀ m k, k ≤ m → q ≤ k → k < L.length → pth (pasteF L Q T q) (k + Q.length) = (pth L k).map (alF q Q.length)
  | m, k, hm, hk, hkl => by
    obtain ⟨h0, h1⟩ := pq H
    have hp := paste_hi (Q := Q) (n := (T : Int)) h1 (show q + Q.length ≤ k + Q.length by omega) (by omega)
    rw [show k + Q.length - Q.length = k by omega] at hp
    have hu := H.hs.up k (by omega) hkl
    have hlow : ∀ y, y < q → (pth L y).map (alF q Q.length) = pth L y := fun y hy => by
      conv => rhs; rw [← List.map_id (pth L y)]
      refine List.map_congr_left fun z hz => ?_
      have := pth_at hz
      unfold alF; rw [if_pos (by omega)]; rfl
    rw [pth_cons (l := L) ⟨hu.1, hu.2.1⟩, List.map_cons]
    have hk2 : alF q Q.length k = k + Q.length := by unfold alF; rw [if_neg (by omega)]
    rw [hk2]
    by_cases hpq : parL L k ≥ q
    · rw [if_pos hpq] at hp
      rw [pth_cons (l := pasteF L Q T q) (by rw [hp]; omega), hp]
      match m, hm with
      | 0, hm => omega
      | m + 1, hm =>
        rw [show (parL L k + (Q.length : Int)).toNat = (parL L k).toNat + Q.length by omega, px_pth_hi m _ (by omega) (by omega) (by omega)]
    · rw [if_neg hpq] at hp
      rw [pth_cons (l := pasteF L Q T q) (by rw [hp]; omega), hp, px_pth_lo H _ _ (Nat.le_refl _) (by omega), hlow _ (by omega)]
theorem px_shp : Shp (pasteF L Q T q) := by
  obtain ⟨h0, h1⟩ := pq H
  have hlen := pasteF_len (part := Q) (n := (T : Int)) h1
  have hQp := H.hQ.pos
  refine ⟨by omega, by rw [paste_lo h1 (by omega)]; exact H.hs.root, fun j hj0 hj => ?_⟩
  rcases Nat.lt_or_ge j q with hjq | hjq
  · have hu := H.hs.up j hj0 (by omega)
    rw [paste_lo h1 hjq, px_pth_lo H _ (j - 1) (Nat.le_refl _) (by omega)]
    exact hu
  · rcases Nat.lt_or_ge j (q + Q.length) with hj2 | hj2
    · rw [paste_mid h1 hjq hj2]
      by_cases he : j = q
      · subst he
        rw [if_pos rfl]
        refine ⟨by omega, by omega, ?_⟩
        rw [px_pth_lo H _ (j - 1) (Nat.le_refl _) (by omega), Int.toNat_natCast, below_end H.hs H.hT (by omega)]
        have := place_end H.hs H.hT a H.ha
        have := H.hq
        omega
      · rw [if_neg he]
        have hu := H.hQ.up (j - q) (by omega) (by omega)
        refine ⟨by omega, by omega, ?_⟩
        rw [show j - 1 = q + (j - q - 1) by omega, px_pth_mid H _ (j - q - 1) (Nat.le_refl _) (by omega), List.mem_append]
        exact .inl (List.mem_map.2 ⟨_, hu.2.2, by omega⟩)
    · have hu := H.hs.up (j - Q.length) (by omega) (by omega)
      have hp := paste_hi (Q := Q) (n := (T : Int)) h1 hj2 (by omega)
      have hal : (parL (pasteF L Q T q) j).toNat = alF q Q.length (parL L (j - Q.length)).toNat := by
        rw [hp]; unfold alF; split <;> split <;> omega
      refine ⟨by rw [hp]; split <;> omega, by rw [hp]; split <;> omega, ?_⟩
      rw [hal]
      by_cases he : j = q + Q.length
      · subst he
        rw [show q + Q.length - Q.length = q by omega] at hu ⊢
        rw [show q + Q.length - 1 = q + (Q.length - 1) by omega, px_pth_mid H _ (Q.length - 1) (Nat.le_refl _) (by omega), List.mem_append]
        right
        have hpp := place_par H.hs H.hT a H.ha (by rw [← H.hq]; omega)
        rw [← H.hq] at hpp
        have h9 : (parL L q).toNat ≤ T := pth_at hpp
        have h8 : alF q Q.length (parL L q).toNat = (parL L q).toNat := by unfold alF; rw [if_pos (by omega)]
        rw [h8]; exact hpp
      · rw [show j - 1 = (j - Q.length - 1) + Q.length by omega, px_pth_hi H _ (j - Q.length - 1) (Nat.le_refl _) (by omega) (by omega)]
        exact List.mem_map.2 ⟨_, hu.2.2, rfl⟩
end
end Go.Eng


/- edit: putting trees, in plain terms. -/
namespace Go.Eng
open Go

section
variable {L Q : List Nd} {T a q : Nat} (H : PX L Q T a q)
include H
theorem px_len : (pasteF L Q T q).length = q + Q.length + (L.length - q) := by
  have := (pq H).2
  rw [pasteF_len this]; omega
theorem px_lo {j p : Nat} (hj : j < q) : kf (pasteF L Q T q) p j = kf L p j := by
  have h := paste_lo (Q := Q) (n := (T : Int)) (pq H).2 hj
  refine kf_eq ?_
  rw [h]
theorem px_old {j : Nat} (hj : j < L.length) (hT : j ≠ T) : kidsOf (pasteF L Q T q) (alF q Q.length j) = (kidsOf L j).map (alF q Q.length) := by
  obtain ⟨h0, h1⟩ := pq H
  rw [kids3 _ _ (px_len H), kids2 L j (a := q) (b := L.length - q) (by omega), List.map_append, List.map_map]
  have e1 : (List.range q).filter (kf (pasteF L Q T q) (alF q Q.length j)) = ((List.range q).filter (kf L j)).map (alF q Q.length) := by
    have : ((List.range q).filter (kf L j)).map (alF q Q.length) = (List.range q).filter (kf L j) := by
      conv => rhs; rw [← List.map_id ((List.range q).filter (kf L j))]
      refine List.map_congr_left fun c hc => ?_
      have : c < q := by simpa using (List.mem_filter.1 hc).1
      unfold alF; rw [if_pos this]; rfl
    rw [this]
    refine filter_same fun c hc => ?_
    rw [px_lo H hc]
    refine kf_eq ?_
    have := par_lt H.hs (k := c) (by omega)
    unfold alF
    split <;> omega
  have e2 : (List.range Q.length).filter (fun i => kf (pasteF L Q T q) (alF q Q.length j) (q + i)) = [] := filter_none fun i hi => kf_no fun h => by
    have hp := paste_mid (Q := Q) (n := (T : Int)) h1 (show q ≤ q + i by omega) (by omega)
    have h2 := h.2
    rw [hp] at h2
    by_cases hz : i = 0
    · subst hz
      rw [if_pos (Nat.add_zero q)] at h2
      unfold alF at h2; split at h2 <;> omega
    · have hu := H.hQ.up i (by omega) hi
      rw [if_neg (by omega), show q + i - q = i by omega] at h2
      unfold alF at h2; split at h2 <;> omega
  rw [e1, e2, List.map_nil, List.append_nil]
  congr 1
  have e3 : (List.range (L.length - q)).filter (fun i => kf (pasteF L Q T q) (alF q Q.length j) (q + Q.length + i)) = (List.range (L.length - q)).filter (fun i => kf L j (q + i)) := filter_same fun i hi => kf_eq (by
    have hp := paste_hi (Q := Q) (n := (T : Int)) h1 (show q + Q.length ≤ q + Q.length + i by omega) (by omega)
    rw [hp, show q + Q.length + i - Q.length = q + i by omega]
    unfold alF
    split <;> split <;> omega)
  rw [e3]
  refine List.map_congr_left fun i hi => ?_
  rw [Function.comp_apply]
  unfold alF; rw [if_neg (by omega)]; omega
theorem px_to : kidsOf (pasteF L Q T q) T = ((kidsOf L T).map (alF q Q.length)).take a ++ q :: ((kidsOf L T).map (alF q Q.length)).drop a := by
  obtain ⟨h0, h1⟩ := pq H
  have hcnt : ((List.range q).filter (kf L T)).length = a := by
    have h3 := (place_kid H.hs H.hT a H.ha).2.2.1
    rw [← H.hq] at h3
    have h4 := kidsTo_len2 (l := L) (n := T) q H.hs.root
    rw [h3] at h4; exact h4
  rw [kids3 _ _ (px_len H), kids2 L T (a := q) (b := L.length - q) (by omega), List.map_append, List.map_map]
  have e0 : ((List.range q).filter (kf L T)).map (alF q Q.length) = (List.range q).filter (kf L T) := by
    conv => rhs; rw [← List.map_id ((List.range q).filter (kf L T))]
    refine List.map_congr_left fun c hc => ?_
    have : c < q := by simpa using (List.mem_filter.1 hc).1
    unfold alF; rw [if_pos this]; rfl
  have e1 : (List.range q).filter (kf (pasteF L Q T q) T) = (List.range q).filter (kf L T) := filter_same fun c hc => px_lo H hc
  have e2 : (List.range Q.length).filter (fun i => kf (pasteF L Q T q) T (q + i)) = [0] := by
    have hpos := H.hQ.pos
    obtain ⟨sp, hsp⟩ : ∃ sp, Q.length = sp + 1 := ⟨Q.length - 1, by omega⟩
    rw [hsp, List.range_succ_eq_map, List.filter_cons]
    have hz : kf (pasteF L Q T q) T (q + 0) = true := kf_iff.2 ⟨by omega, by
      rw [Nat.add_zero, paste_mid h1 (Nat.le_refl _) (by omega), if_pos rfl]⟩
    rw [if_pos hz]
    congr 1
    rw [List.filter_map, List.map_eq_nil_iff]
    refine filter_none fun i hi => ?_
    rw [Function.comp_apply]
    refine kf_no fun h => ?_
    have hp := paste_mid (Q := Q) (n := (T : Int)) h1 (show q ≤ q + Nat.succ i by omega) (by omega)
    have hu := H.hQ.up (i + 1) (by omega) (by omega)
    have h2 := h.2
    rw [hp, if_neg (by omega), show q + Nat.succ i - q = i + 1 by omega] at h2
    omega
  have e3 : (List.range (L.length - q)).filter (fun i => kf (pasteF L Q T q) T (q + Q.length + i)) = (List.range (L.length - q)).filter (fun i => kf L T (q + i)) := filter_same fun i hi => kf_eq (by
    have hp := paste_hi (Q := Q) (n := (T : Int)) h1 (show q + Q.length ≤ q + Q.length + i by omega) (by omega)
    rw [hp, show q + Q.length + i - Q.length = q + i by omega]
    split <;> omega)
  rw [e0, e1, e2, e3]
  have e4 : ∀ R : List Nat, R.map (q + Q.length + ·) = R.map (alF q Q.length ∘ (q + ·)) := fun R => List.map_congr_left fun i hi => by
    rw [Function.comp_apply]
    unfold alF; rw [if_neg (by omega)]; omega
  rw [e4]
  generalize (List.range q).filter (kf L T) = A at *
  rw [List.take_append_of_le_length (by omega), List.take_of_length_le (by omega), List.drop_append_of_le_length (by omega), List.drop_of_length_le (by omega)]
  simp
theorem px_new {i : Nat} (hi : i < Q.length) : kidsOf (pasteF L Q T q) (q + i) = (kidsOf Q i).map (q + ·) := by
  obtain ⟨h0, h1⟩ := pq H
  rw [kids3 _ _ (px_len H), kids_kf Q]
  have e1 : (List.range q).filter (kf (pasteF L Q T q) (q + i)) = [] := filter_none fun c hc => kf_no fun h => by
    have hp := paste_lo (Q := Q) (n := (T : Int)) h1 hc
    have := par_lt H.hs (k := c) (by omega)
    omega
  have e2 : (List.range Q.length).filter (fun k => kf (pasteF L Q T q) (q + i) (q + k)) = (List.range Q.length).filter (kf Q i) := filter_same fun k hk => kf_eq (by
    have hp := paste_mid (Q := Q) (n := (T : Int)) h1 (show q ≤ q + k by omega) (by omega)
    by_cases hz : k = 0
    · subst hz
      rw [if_pos (Nat.add_zero q)] at hp
      constructor
      · intro h; have h2 := h.2; rw [hp] at h2; omega
      · intro h; omega
    · rw [if_neg (by omega), show q + k - q = k by omega] at hp
      rw [hp]
      constructor <;> (intro h; omega))
  have e3 : (List.range (L.length - q)).filter (fun k => kf (pasteF L Q T q) (q + i) (q + Q.length + k)) = [] := filter_none fun k hk => kf_no fun h => by
    have hp := paste_hi (Q := Q) (n := (T : Int)) h1 (show q + Q.length ≤ q + Q.length + k by omega) (by omega)
    have h2 := h.2
    rw [hp] at h2
    split at h2 <;> omega
  rw [e1, e2, e3]; simp
theorem px_sty_new {i : Nat} (hi : i < Q.length) : ((pasteF L Q T q).getD (q + i) default).s = (Q.getD i default).s := by
  obtain ⟨h0, h1⟩ := pq H
  have h3 : (L.take q).length = q := by simp; omega
  have h4 := partP_len Q (T : Int) q
  unfold pasteF
  rw [List.getD_eq_getElem?_getD, List.append_assoc, List.getElem?_append_right (by omega), h3, List.getElem?_append_left (by omega), show q + i - q = i by omega]
  unfold partP
  by_cases hz : i = 0
  · subst hz
    rw [List.getElem?_set_self (by simpa using hi)]
    cases Q with
    | nil => simp at hi
    | cons x r => rfl
  · rw [List.getElem?_set_ne (by omega), List.getElem?_map, List.getElem?_eq_getElem hi, List.getD_eq_getElem?_getD, List.getElem?_eq_getElem hi]; rfl
theorem px_sty_old {j : Nat} (hj : j < L.length) : ((pasteF L Q T q).getD (alF q Q.length j) default).s = (L.getD j default).s := by
  obtain ⟨h0, h1⟩ := pq H
  have h3 : (L.take q).length = q := by simp; omega
  have h4 : (L.take q ++ partP Q (T : Int) q).length = q + Q.length := by simp [partP_len]; omega
  unfold pasteF alF
  by_cases h : j < q
  · rw [if_pos h, List.getD_eq_getElem?_getD, List.append_assoc, List.getElem?_append_left (by omega), List.getElem?_take_of_lt h, List.getD_eq_getElem?_getD]
  · rw [if_neg h, List.getD_eq_getElem?_getD, List.getElem?_append_right (by omega), h4, List.getElem?_map, List.getElem?_drop, show q + (j + Q.length - (q + Q.length)) = j by omega, List.getElem?_eq_getElem hj, List.getD_eq_getElem?_getD, List.getElem?_eq_getElem hj]
    simp -implicitDefEqProofs only [Option.map_some, Option.getD_some, addIf]
    split <;> rfl
theorem px_er_new : ∀ d i, Q.length - i ≤ d → i < Q.length → erT (grow (pasteF L Q T q) (q + i)) = erT (grow Q i) := by
  have hl := px_len H
  have hsx := px_shp H
  intro d
  induction d with
  | zero => intro i h1 h2; omega
  | succ d ih =>
    intro i h1 hi
    rw [grow_mk hsx (show q + i < (pasteF L Q T q).length by omega), grow_mk H.hQ hi, erT_mk, erT_mk, px_new H hi, px_sty_new H hi, List.map_map, List.map_map, List.map_map]
    congr 1
    refine List.map_congr_left fun c hc => ?_
    rw [mem_kids] at hc
    have := par_lt H.hQ hc.2.1
    exact ih c (by omega) hc.2.1
/-- What is put, is put where it stands in the list. -/
theorem put_grow (f : Int → Int) (hf : ∀ j, j < L.length → f (j : Nat) = f (T : Nat) → j = T) (X : Trx) (hX : erT X = erT (grow Q 0)) : ∀ d j, L.length - j ≤ d → j < L.length → erT (putT (rlT f (grow L j)) (f (T : Nat)) a X).1 = erT (grow (pasteF L Q T q) (alF q Q.length j)) ∧ (putT (rlT f (grow L j)) (f (T : Nat)) a X).2 = true := by
  have hl := px_len H
  have hsx := px_shp H
  obtain ⟨h0, h1⟩ := pq H
  have hQp := H.hQ.pos
  intro d
  induction d with
  | zero => intro j h1 h2; omega
  | succ d ih =>
    intro j hd hj
    have haj : alF q Q.length j < (pasteF L Q T q).length := by unfold alF; split <;> omega
    rw [grow_mk H.hs hj, rlT_mk, putT_mk, rlF_map, putF_map, grow_mk hsx haj, erT_mk, px_sty_old H hj]
    have hkid : ∀ c ∈ kidsOf L j, erT (putT (rlT f (grow L c)) (f (T : Nat)) a X).1 = erT (grow (pasteF L Q T q) (alF q Q.length c)) ∧ (putT (rlT f (grow L c)) (f (T : Nat)) a X).2 = true := fun c hc => by
      rw [mem_kids] at hc
      have := par_lt H.hs hc.2.1
      exact ih c (by omega) hc.2.1
    have hall : (((kidsOf L j).map (grow L)).map (rlT f)).all (fun t => (putT t (f (T : Nat)) a X).2) = true := by
      rw [List.all_eq_true]
      intro t ht
      simp -implicitDefEqProofs only [List.mem_map] at ht
      obtain ⟨_, ⟨c, hc, rfl⟩, rfl⟩ := ht
      exact (hkid c hc).2
    have hmap : ((((kidsOf L j).map (grow L)).map (rlT f)).map (fun t => (putT t (f (T : Nat)) a X).1)).map erT = ((kidsOf L j).map (alF q Q.length)).map (erT ∘ grow (pasteF L Q T q)) := by
      rw [List.map_map, List.map_map, List.map_map, List.map_map]
      refine List.map_congr_left fun c hc => ?_
      exact (hkid c hc).1
    by_cases hjT : j = T
    · subst hjT
      have hkl : (kidsOf L j).length = kidTo L j L.length := kids_len H.hs.root
      have hal : alF q Q.length j = j := by unfold alF; rw [if_pos h0]
      have ha := H.ha
      dsimp only
      rw [if_pos rfl, if_neg (by simp [hkl]; omega), hal, px_to H, Int.toNat_natCast]
      refine ⟨?_, hall⟩
      rw [erT_mk]
      congr 1
      rw [List.map_append, List.map_cons, List.map_take, List.map_drop, hmap, hX, List.map_append, List.map_cons, List.map_take, List.map_drop]
      have hn := px_er_new H _ 0 (Nat.le_refl _) hQp
      rw [Nat.add_zero] at hn
      rw [← hn]
      simp -implicitDefEqProofs only [List.map_append, List.map_cons, List.map_take, List.map_drop, List.map_map]
      rfl
    · have hne : ¬ f (j : Nat) = f (T : Nat) := fun h => hjT (hf j hj h)
      dsimp only
      rw [if_neg hne]
      refine ⟨?_, hall⟩
      rw [erT_mk, hmap, px_old H hj hjT]
      congr 1
      simp -implicitDefEqProofs only [List.map_map]
      rfl
theorem put_list (f : Int → Int) (hf : ∀ j, j < L.length → f (j : Nat) = f (T : Nat) → j = T) (X : Trx) (hX : erT X = erT (grow Q 0)) : listT (putT (rlT f (grow L 0)) (f (T : Nat)) a X).1 (-1) 0 = pasteF L Q T q ∧ (putT (rlT f (grow L 0)) (f (T : Nat)) a X).2 = true := by
  obtain ⟨h0, h1⟩ := pq H
  obtain ⟨g1, g2⟩ := put_grow H f hf X hX _ 0 (Nat.le_refl _) H.hs.pos
  refine ⟨?_, g2⟩
  have : alF q Q.length 0 = 0 := by unfold alF; rw [if_pos (by omega)]
  rw [this] at g1
  rw [er_list _ _ g1, list_grow0 (px_shp H)]
end

/-- There is no such child. -/
theorem put_bad {L : List Nd} (hs : Shp L) {T : Nat} (hT : T < L.length) {a : Int} (ha : a < 0 ∨ a > kidTo L T L.length) (f : Int → Int) (X : Trx) : ∀ d j, T - j ≤ d → j ∈ pth L T → (putT (rlT f (grow L j)) (f (T : Nat)) a X).2 = false := by
  intro d
  induction d with
  | zero =>
    intro j h1 hj
    have hjT := pth_at hj
    obtain rfl : j = T := by omega
    rw [grow_mk hs hT, rlT_mk, putT_mk, rlF_map, putF_map]
    dsimp only
    rw [if_pos rfl, if_pos (by simp -implicitDefEqProofs only [List.length_map]; rw [kids_len hs.root]; exact ha)]
  | succ d ih =>
    intro j h1 hj
    have hjT := pth_at hj
    by_cases hjt : j = T
    · subst hjt
      rw [grow_mk hs hT, rlT_mk, putT_mk, rlF_map, putF_map]
      dsimp only
      rw [if_pos rfl, if_pos (by simp -implicitDefEqProofs only [List.length_map]; rw [kids_len hs.root]; exact ha)]
    · obtain ⟨c, hc1, hc2⟩ := hs.child T hT hj hjt
      have hcm := hc1
      rw [mem_kids] at hcm
      have hpl := par_lt hs hcm.2.1
      have hih := ih c (by omega) hc2
      have hjl : j < L.length := by omega
      have hall : (((kidsOf L j).map (grow L)).map (rlT f)).all (fun t => (putT t (f (T : Nat)) a X).2) = false := by
        rw [Bool.eq_false_iff]
        intro h
        rw [List.all_eq_true] at h
        have := h (rlT f (grow L c)) (List.mem_map.2 ⟨_, List.mem_map.2 ⟨c, hc1, rfl⟩, rfl⟩)
        rw [hih] at this; simp at this
      rw [grow_mk hs hjl, rlT_mk, putT_mk, rlF_map, putF_map]
      dsimp only
      split
      · split
        · rfl
        · exact hall
      · exact hall
theorem root_pth {l : List Nd} (hs : Shp l) : ∀ m k, k ≤ m → k < l.length → 0 ∈ pth l k
  | m, k, hm, hk => by
    by_cases h0 : k = 0
    · subst h0; exact mem_self
    · have hu := hs.up k (by omega) hk
      rw [mem_par hs.wf (by omega) hk]
      match m, hm with
      | 0, hm => omega
      | m + 1, hm => exact .inr (root_pth hs m _ (by omega) (by omega))
end Go.Eng


/- edit: trees of children and lists tell the same. -/
namespace Go.Eng
open Go

mutual
theorem rlT_id : ∀ t : Trx, rlT (fun j => j) t = t
  | .mk s w ks => by rw [rlT_mk, rlF_id ks]
theorem rlF_id : ∀ ks : List Trx, rlF (fun j => j) ks = ks
  | [] => by rw [rlF]
  | t :: ts => by rw [rlF, rlT_id t, rlF_id ts]
end
def treeF (l : List Nd) (o : Opv) : Trx × Bool :=
  if o.kind = 1 then (styT (grow l 0) o.n o.s, true) else
  if o.kind = 2 then (takT (grow l 0) o.n, true) else
  if o.kind = 3 then putT (grow l 0) o.n o.at' (.mk o.s (-1) []) else
  putT (takT (grow l 0) o.n) o.to o.at' (grow l o.n.toNat)
def refA (l : List Nd) (o : Opv) : Option (List Nd) × Int :=
  if mayF l o ≠ 0 then (none, mayF l o) else if (treeF l o).2 = false then (none, 1) else
    if chk (listT (treeF l o).1 (-1) 0) ≠ 0 then (none, chk (listT (treeF l o).1 (-1) 0)) else (some (listT (treeF l o).1 (-1) 0), 0)

theorem one_shp (s : Sty) : Shp [⟨s, -1⟩] := ⟨by simp, rfl, fun j h0 hj => by simp at hj; omega⟩
theorem one_er (s : Sty) : erT (Trx.mk s (-1) []) = erT (grow [⟨s, -1⟩] 0) := by
  rw [grow_mk (one_shp s) (by simp), erT_mk, erT_mk]
  have : kidsOf [⟨s, -1⟩] 0 = [] := by simp [kidsOf, kidsTo, List.range_succ]
  rw [this]; rfl
theorem paste_one {l : List Nd} {s : Sty} {n : Int} {q : Nat} : pasteF l [⟨s, 0⟩] n q = pasteF l [⟨s, -1⟩] n q := by simp [pasteF, partP]

theorem tree_change {l : List Nd} {o : Opv} (hm : mayF l o = 0) : (changeF l o = none ∧ (treeF l o).2 = false) ∨ (changeF l o = some (listT (treeF l o).1 (-1) 0) ∧ (treeF l o).2 = true) := by
  obtain ⟨hc, hk14, c3, c4⟩ := may_zero hm
  have hs := tree_shp (chk_tree hc)
  have hin : inL l o.n = true := by
    cases h : inL l o.n with
    | true => rfl
    | false => exact absurd (.inl h) c3
  obtain ⟨n, hn, hnl⟩ := inL_nat hin
  have hnt : o.n.toNat = n := by rw [hn]; simp
  unfold changeF treeF
  rw [hnt]
  by_cases hk1 : o.kind = 1
  · right
    rw [if_pos hk1, if_pos hk1, hn, sty_list hs hnl]
    exact ⟨rfl, rfl⟩
  · rw [if_neg hk1, if_neg hk1]
    by_cases hk2 : o.kind = 2
    · right
      have hn0 : 0 < n := by
        have : o.n ≠ 0 := fun h => c4 (.inl ⟨.inl hk2, h⟩)
        omega
      rw [if_pos hk2, if_pos hk2, hn, tak_list hs hn0 hnl]
      exact ⟨rfl, rfl⟩
    · rw [if_neg hk2, if_neg hk2]
      by_cases hk3 : o.kind = 3
      · rw [if_pos hk3, if_pos hk3, hn]
        by_cases ha : o.at' < 0 ∨ o.at' > kidTo l n l.length
        · left
          rw [if_pos ha]
          refine ⟨rfl, ?_⟩
          have := put_bad hs hnl ha (fun j => j) (.mk o.s (-1) []) _ 0 (Nat.le_refl _) (root_pth hs _ n (Nat.le_refl _) hnl)
          rwa [rlT_id] at this
        · right
          rw [if_neg ha]
          obtain ⟨a, hat⟩ : ∃ a : Nat, o.at' = a := ⟨o.at'.toNat, by omega⟩
          rw [hat, Int.toNat_natCast]
          have H : PX l [⟨o.s, -1⟩] n a (placeF l n a) := ⟨hs, one_shp o.s, hnl, by omega, rfl⟩
          obtain ⟨p1, p2⟩ := put_list H (fun j => j) (fun j _ h => by omega) (.mk o.s (-1) []) (one_er o.s)
          rw [rlT_id] at p1 p2
          rw [paste_one, p1]
          exact ⟨rfl, p2⟩
      · rw [if_neg hk3, if_neg hk3]
        have hk4 : o.kind = 4 := by omega
        have hit : inL l o.to = true := by
          cases h : inL l o.to with
          | true => rfl
          | false => exact absurd (.inr ⟨hk4, h⟩) c3
        obtain ⟨t, ht, htl⟩ := inL_nat hit
        have htt : o.to.toNat = t := by rw [ht]; simp
        have hn0 : 0 < n := by
          have : o.n ≠ 0 := fun h => c4 (.inl ⟨.inr hk4, h⟩)
          omega
        have hbl : belowAt l n t = false := by
          cases h : belowAt l n t with
          | false => rfl
          | true => exact absurd (.inr (.inl ⟨hk4, by rw [hn, ht]; exact h⟩)) c4
        obtain ⟨u1, u2, u3⟩ := to_in hs hnl htl hbl
        have hto : ¬ (n ≤ t ∧ t < endR l n) := fun h => by
          rcases Nat.lt_or_ge n t with hh | hh
          · have := u3 hh; omega
          · have := u2 hh; omega
        have hne : t ≠ n := fun h => by have := u2 (by omega); omega
        rw [htt, toF_psi hne, hn, ht]
        rw [toF_psi hne] at u1
        have hsL := left_shp hs hn0 hnl
        have g1 := endR_gt hnl
        have h00 : psiL n (endR l n) 0 = 0 := by unfold psiL; rw [if_pos hn0]
        have htak := tak_grow hs hn0 hnl _ 0 (Nat.le_refl _) hs.pos (by omega)
        rw [h00] at htak
        have hfT : ((t : Nat) : Int) = (fun j : Int => ((phiL n (endR l n) j.toNat : Nat) : Int)) ((psiL n (endR l n) t : Nat) : Int) := by
          show ((t : Nat) : Int) = ((phiL n (endR l n) ((psiL n (endR l n) t : Nat) : Int).toNat : Nat) : Int)
          rw [Int.toNat_natCast]
          have : phiL n (endR l n) (psiL n (endR l n) t) = t := by unfold phiL psiL; (repeat' split) <;> omega
          rw [this]
        rw [htak]
        by_cases ha : o.at' < 0 ∨ o.at' > kidTo (leftF l n) (psiL n (endR l n) t : Nat) (leftF l n).length
        · left
          rw [if_pos ha]
          refine ⟨rfl, ?_⟩
          rw [hfT]
          exact put_bad hsL u1 ha _ (grow l n) _ 0 (Nat.le_refl _) (root_pth hsL _ _ (Nat.le_refl _) u1)
        · right
          rw [if_neg ha]
          obtain ⟨a, hat⟩ : ∃ a : Nat, o.at' = a := ⟨o.at'.toNat, by omega⟩
          rw [hat, Int.toNat_natCast]
          have H : PX (leftF l n) (partF l n) (psiL n (endR l n) t) a (placeF (leftF l n) (psiL n (endR l n) t) a) := ⟨hsL, part_shp hs hnl, u1, by omega, rfl⟩
          have hX : erT (grow l n) = erT (grow (partF l n) 0) := by
            have := part_er hs hnl _ 0 (Nat.le_refl _) (by omega)
            rwa [Nat.add_zero] at this
          obtain ⟨p1, p2⟩ := put_list H (fun j : Int => ((phiL n (endR l n) j.toNat : Nat) : Int)) (fun j _ h => by
            simp -implicitDefEqProofs only [Int.toNat_natCast] at h
            unfold phiL at h
            (repeat' split at h) <;> omega) (grow l n) hX
          have hfT2 : ((phiL n (endR l n) ((psiL n (endR l n) t : Nat) : Int).toNat : Nat) : Int) = ((t : Nat) : Int) := hfT.symm
          rw [hfT2] at p1 p2
          rw [p1]
          exact ⟨rfl, p2⟩
theorem ref_apply (l : List Nd) (o : Opv) : refA l o = applyF l o := by
  unfold refA applyF
  by_cases hm : mayF l o = 0
  · have h0 : ¬ (mayF l o ≠ 0) := by simpa using hm
    rw [if_neg h0, if_neg h0]
    rcases tree_change hm with ⟨h1, h2⟩ | ⟨h1, h2⟩
    · rw [h1, if_pos h2]
    · rw [h1, if_neg (by rw [h2]; simp)]
  · rw [if_pos hm, if_pos hm]
end Go.Eng


/- edit: the document's changes. -/
namespace Go.Eng
open Go

set_option maxRecDepth 20000 in
set_option maxHeartbeats 4000000 in
theorem sp_List32N (t : Trx) (hsz : t.sz ≤ 1073741823) (p : Int) (m : Nat) : CallR Go.Proofs.Try.prog 65 [.rv .nilsl, .agg (t.cells.map .rv), .rv (.int .i64 p)] [] [(m, .row 49 (t.sz - 1) (rvs (ndL (listT t p 0))))] (.row m (t.sz - 1) t.sz) := by
  obtain ⟨s, w, ks⟩ := t
  rw [sz_mk] at hsz
  have hkl := szL_len ks
  have hlen := trL_len ks
  refine callR_M k_decoupageref32_List [] [] [] [.rv .nilsl, .agg ((Trx.mk s w ks).cells.map .rv), .rv (.int .i64 p)] [.rv .nilsl, .agg ((Trx.mk s w ks).cells.map .rv), .rv (.int .i64 p)] _ _ (by simp) (by simp [BkAll, bk_row, bk_rv, bk_agg, bkAll_map]) rfl (by simp [nodupL]) (by simp [BkHs]) (fun K hK => ?_)
  have hfull : listT (Trx.mk s w ks) p 0 = [Nd.mk s p] ++ lsTo ks 0 ks.length := by
    rw [listT_mk]; unfold lsTo; rw [List.take_length]; rfl
  have hszf : szL (ks.take ks.length) = szL ks := by rw [List.take_length]
  rw [hfull, sz_mk, Nat.add_sub_cancel] at hK
  rw [tr_map]
  have hz : (((0 : Nat) : Int)) = 0 := rfl
  have hrow : ([(Nd.mk s p).cells.map SV.rv] : List (List SV)) = rvs (ndL [Nd.mk s p]) := rfl
  simp -implicitDefEqProofs only [c_decoupageref32_List, go_sem, ↓reduceIte, Nat.reduceEqDiff, Nat.reduceAdd, Nat.reduceSub, Nat.reduceMul, Nat.reduceLeDiff, Nat.reduceLT, reduceCtorEq, Int.reduceToNat]
  repeat' (first | (simp -implicitDefEqProofs only [go_sem, ↓reduceIte, Nat.reduceEqDiff, Nat.reduceAdd, Nat.reduceSub, Nat.reduceMul, Nat.reduceLeDiff, Nat.reduceLT, reduceCtorEq, Int.reduceToNat, sty_t48, sty_l50, sty_len, sty_mlen, nd_mkm, nd_setpE, sty_i49, hlen]) | (with_reducible refine g_noent ?_) | (refine cdS (fun hg => ?_) (fun hg => ?_) <;> try simp -implicitDefEqProofs only [hg, Bool.not_true, Bool.not_false]) | (refine gdS (fun hg => ?_) (fun hg => ?_) <;> try simp -implicitDefEqProofs only [hg, Bool.not_true, Bool.not_false]) | (refine gddS (fun hg => ?_) (fun hg => ?_) <;> try simp -implicitDefEqProofs only [hg, Bool.not_true, Bool.not_false]) | ((with_reducible apply And.intro); focus (first | trivial | omega | decide | (simp -implicitDefEqProofs only [maxLen]; omega) | (simp [maxLen, sty_len, nd_len, ndL_len, lnL_len, intsL_len, rvs_len, lensS_len]; done) | (simp [maxLen, sty_len, nd_len, ndL_len, lnL_len, intsL_len, rvs_len, lensS_len]; omega))) | fail)
  refine g_loop (ι := Nat) (fun k => [(21, .rv (.int .i64 k)), (20, .rv (.int .i64 ks.length)), (7, .rv (.int .i64 ((0 : Nat) : Int))), (4, .ptr 0 0), (0, .row 2 (szL (ks.take k)) (1 + szL (ks.take k)))]) (fun k => [some (.var (s.cells.map SV.rv ++ [.rv (.int .i64 w), .rv (.sl 50 (trL ks))])), some (.row 49 0 [(Nd.mk s p).cells.map SV.rv]), some (.row 49 (szL (ks.take k)) (rvs (ndL ([Nd.mk s p] ++ lsTo ks 0 k))))]) (fun k => k ≤ ks.length) (fun k => ks.length - k) 0 (by simp) ?_ (fun k hk' K' hN hX hR => ?_)
  · have e0 : lsTo ks 0 0 = [] := by unfold lsTo; rw [List.take_zero, listF_nil]
    have e1 : szL (ks.take 0) = 0 := by rw [List.take_zero, szL_nil]
    rw [e0, e1, List.append_nil]
    exact ent_env (by simp [lk])
  · simp -implicitDefEqProofs only [go_sem, ↓reduceIte, Nat.reduceEqDiff, Nat.reduceAdd, Nat.reduceSub, Nat.reduceMul, Nat.reduceLeDiff, Nat.reduceLT, reduceCtorEq, Int.reduceToNat]
    refine cdS (fun hg => ?_) (fun hg => ?_)
    · have hk4 : k < ks.length := by simp at hg; omega
      have wu := wrap_up (k := k) (by omega)
      have hx := trL_get hk4
      have hsz2 := sz_mem (List.getElem_mem hk4)
      have hls := lsTo_succ (p := 0) hk4
      have hss := szTo_succ hk4
      have hle := szTo_le (ks := ks) (k := k + 1)
      have htln := tr_len (ks[k]'hk4)
      have hll := lsTo_len ks 0 k
      have hcur : ([Nd.mk s p] ++ lsTo ks 0 k).length = 1 + szL (ks.take k) := by rw [List.length_append, hll]; rfl
      have hcall := sp_List32 1073741823 (ks[k]'hk4) (by omega) (by omega) ([Nd.mk s p] ++ lsTo ks 0 k) ((0 : Nat) : Int) 2 (szL (ks.take k)) (by omega)
      have h1 : szL (ks.take k) + (ks[k]'hk4).sz = szL (ks.take (k + 1)) := by omega
      have h2 : 1 + szL (ks.take k) + (ks[k]'hk4).sz = 1 + szL (ks.take (k + 1)) := by omega
      have h3 : lsTo ks 0 k ++ listT (ks[k]'hk4) ((0 : Nat) : Int) (1 + szL (ks.take k)) = lsTo ks 0 (k + 1) := by rw [hls]; try simp
      rw [hcur, List.append_assoc [Nd.mk s p], h3, h1, h2] at hcall
      generalize ks[k]'hk4 = c at *
      have hcall1 := hcall; repeat' (first | (simp -implicitDefEqProofs only [go_sem, ↓reduceIte, Nat.reduceEqDiff, Nat.reduceAdd, Nat.reduceSub, Nat.reduceMul, Nat.reduceLeDiff, Nat.reduceLT, reduceCtorEq, Int.reduceToNat, sty_i49, sty_l50, hx, hlen, htln, tr_t50c, wu]) | (with_reducible refine g_noent ?_) | (refine g_call hcall1 (by simp [PreOK, hget]; done) (by simp [okU, uph]; done) ?_) | (refine g_calld hcall1 (by simp [PreOK, hget]; done) (by simp [okU, uph]; done) ?_) | (refine cdS (fun hg => ?_) (fun hg => ?_) <;> try simp -implicitDefEqProofs only [hg, Bool.not_true, Bool.not_false]) | (refine gdS (fun hg => ?_) (fun hg => ?_) <;> try simp -implicitDefEqProofs only [hg, Bool.not_true, Bool.not_false]) | (refine gddS (fun hg => ?_) (fun hg => ?_) <;> try simp -implicitDefEqProofs only [hg, Bool.not_true, Bool.not_false]) | ((with_reducible apply And.intro); focus (first | trivial | omega | decide | (simp -implicitDefEqProofs only [maxLen]; omega) | (simp [maxLen, sty_len, nd_len, ndL_len, lnL_len, intsL_len, rvs_len, lensS_len]; done) | (simp [maxLen, sty_len, nd_len, ndL_len, lnL_len, intsL_len, rvs_len, lensS_len]; omega))) | fail)
      exact hN (k + 1) _ _ (by omega) (by omega) (ent_env (by simp [lk]))
    · have hk4 : k = ks.length := by simp at hg; omega
      subst hk4
      simp -implicitDefEqProofs only [go_sem, ↓reduceIte, Nat.reduceEqDiff, Nat.reduceAdd, Nat.reduceSub, Nat.reduceMul, Nat.reduceLeDiff, Nat.reduceLT, reduceCtorEq, Int.reduceToNat]
      refine hX _ _ _ ?_
      repeat' (first | (simp -implicitDefEqProofs only [go_sem, ↓reduceIte, Nat.reduceEqDiff, Nat.reduceAdd, Nat.reduceSub, Nat.reduceMul, Nat.reduceLeDiff, Nat.reduceLT, reduceCtorEq, Int.reduceToNat]) | (with_reducible refine g_noent ?_) | (refine cdS (fun hg => ?_) (fun hg => ?_) <;> try simp -implicitDefEqProofs only [hg, Bool.not_true, Bool.not_false]) | (refine gdS (fun hg => ?_) (fun hg => ?_) <;> try simp -implicitDefEqProofs only [hg, Bool.not_true, Bool.not_false]) | (refine gddS (fun hg => ?_) (fun hg => ?_) <;> try simp -implicitDefEqProofs only [hg, Bool.not_true, Bool.not_false]) | ((with_reducible apply And.intro); focus (first | trivial | omega | decide | (simp -implicitDefEqProofs only [maxLen]; omega) | (simp [maxLen, sty_len, nd_len, ndL_len, lnL_len, intsL_len, rvs_len, lensS_len]; done) | (simp [maxLen, sty_len, nd_len, ndL_len, lnL_len, intsL_len, rvs_len, lensS_len]; omega))) | fail)
      rw [hszf, Nat.add_comm 1]
      refine (hK _ _ _ _ [none, none, some m] (ent_refl _ _) ?_).2
      simp [retM, nodupL, newL, allU, keptL, retP, resL, lk, resT, RnHo, lkp, finU, hget_zero, hget_succ, hget, rnRows_rvs, rn_tup, rn_rv, rn_row, rn_ptr, rn_ifc, rn_agg, rn_dead, RnAll, ofL, rnAll_map]
end Go.Eng


/- edit: the document's changes: all. -/
namespace Go.Eng
open Go
/- decoupage/decoupageref32.Apply -/
def c_decoupageref32_Apply : AC := (.seq (.reg [⟨(some 3), .box, [(.t 1)], none⟩, ⟨(some 4), .mv, [(.c (.rv .nilsl))], none⟩, ⟨(some 5), .mv, [(.c (.rv (.int .i64 0)))], none⟩]) (.seq (.seq (.reg [⟨(some 14), .mv, [(.t 0)], none⟩, ⟨(some 15), (.call 16), [(.t 14)], none⟩, ⟨(some 6), .mv, [(.t 15)], none⟩]) (.seq (.reg [⟨(some 16), .mv, [(.t 6)], none⟩, ⟨(some 17), (.ibin .neq), [(.t 16), (.c (.rv (.int .i64 0)))], none⟩]) (.cond (.t 17) (.seq (.reg [⟨(some 18), .mv, [(.t 6)], none⟩, ⟨(some 4), .mv, [(.c (.rv .nilsl))], none⟩, ⟨(some 5), .mv, [(.t 18)], none⟩]) .ret) .skip))) (.seq (.reg [⟨(some 19), (.fld 1), [(.t 3)], none⟩, ⟨(some 20), (.load 1 false), [(.t 19)], none⟩, ⟨(some 21), (.ibin .geq), [(.t 20), (.c (.rv (.int .i64 0)))], none⟩, ⟨(some 22), .mv, [(.t 21)], none⟩, ⟨(some 23), (.fld 1), [(.t 3)], (some (22, true))⟩, ⟨(some 24), (.load 1 false), [(.t 23)], (some (22, true))⟩, ⟨(some 25), .mv, [(.t 0)], (some (22, true))⟩, ⟨(some 26), .len, [(.t 25)], (some (22, true))⟩, ⟨(some 27), (.ibin .lss), [(.t 24), (.t 26)], (some (22, true))⟩, ⟨(some 28), .pick, [(.t 22), (.t 27), (.c (.rv (.bool false)))], none⟩, ⟨(some 7), .mv, [(.t 28)], none⟩]) (.seq (.reg [⟨(some 29), (.fld 2), [(.t 3)], none⟩, ⟨(some 30), (.load 1 false), [(.t 29)], none⟩, ⟨(some 31), (.ibin .geq), [(.t 30), (.c (.rv (.int .i64 0)))], none⟩, ⟨(some 32), .mv, [(.t 31)], none⟩, ⟨(some 33), (.fld 2), [(.t 3)], (some (32, true))⟩, ⟨(some 34), (.load 1 false), [(.t 33)], (some (32, true))⟩, ⟨(some 35), .mv, [(.t 0)], (some (32, true))⟩, ⟨(some 36), .len, [(.t 35)], (some (32, true))⟩, ⟨(some 37), (.ibin .lss), [(.t 34), (.t 36)], (some (32, true))⟩, ⟨(some 38), .pick, [(.t 32), (.t 37), (.c (.rv (.bool false)))], none⟩, ⟨(some 8), .mv, [(.t 38)], none⟩]) (.seq (.seq (.block 0 (.seq (.reg [⟨(some 40), (.fld 0), [(.t 3)], none⟩, ⟨(some 41), (.load 1 false), [(.t 40)], none⟩, ⟨(some 42), (.ibin .lss), [(.t 41), (.c (.rv (.int .i64 1)))], none⟩, ⟨(some 43), .mv, [(.t 42)], none⟩, ⟨(some 44), (.fld 0), [(.t 3)], (some (43, false))⟩, ⟨(some 45), (.load 1 false), [(.t 44)], (some (43, false))⟩, ⟨(some 46), (.ibin .gtr), [(.t 45), (.c (.rv (.int .i64 4)))], (some (43, false))⟩, ⟨(some 47), .pick, [(.t 43), (.c (.rv (.bool true))), (.t 46)], none⟩, ⟨(some 39), .mv, [(.t 47)], none⟩]) (.cond (.t 39) (.seq (.reg [⟨(some 4), .mv, [(.c (.rv .nilsl))], none⟩, ⟨(some 5), .mv, [(.c (.rv (.int .i64 1)))], none⟩]) .ret) (.seq (.reg [⟨(some 49), .mv, [(.t 7)], none⟩, ⟨(some 50), .not, [(.t 49)], none⟩, ⟨(some 51), .mv, [(.t 50)], none⟩, ⟨(some 52), (.fld 0), [(.t 3)], (some (51, false))⟩, ⟨(some 53), (.load 1 false), [(.t 52)], (some (51, false))⟩, ⟨(some 54), (.ibin .eql), [(.t 53), (.c (.rv (.int .i64 4)))], (some (51, false))⟩, ⟨(some 55), .mv, [(.t 54)], (some (51, false))⟩, ⟨(some 56), .mv, [(.t 8)], (some (55, true))⟩, ⟨(some 57), .not, [(.t 56)], (some (55, true))⟩, ⟨(some 58), .pick, [(.t 55), (.t 57), (.c (.rv (.bool false)))], (some (51, false))⟩, ⟨(some 59), .pick, [(.t 51), (.c (.rv (.bool true))), (.t 58)], none⟩, ⟨(some 48), .mv, [(.t 59)], none⟩]) (.cond (.t 48) (.seq (.reg [⟨(some 4), .mv, [(.c (.rv .nilsl))], none⟩, ⟨(some 5), .mv, [(.c (.rv (.int .i64 5)))], none⟩]) .ret) (.seq (.reg [⟨(some 61), (.fld 1), [(.t 3)], none⟩, ⟨(some 62), (.load 1 false), [(.t 61)], none⟩, ⟨(some 63), (.ibin .eql), [(.t 62), (.c (.rv (.int .i64 0)))], none⟩, ⟨(some 64), .mv, [(.t 63)], none⟩, ⟨(some 65), (.fld 0), [(.t 3)], (some (64, true))⟩, ⟨(some 66), (.load 1 false), [(.t 65)], (some (64, true))⟩, ⟨(some 67), (.ibin .eql), [(.t 66), (.c (.rv (.int .i64 2)))], (some (64, true))⟩, ⟨(some 68), .mv, [(.t 67)], (some (64, true))⟩, ⟨(some 69), (.fld 0), [(.t 3)], (some (68, false))⟩, ⟨(some 70), (.load 1 false), [(.t 69)], (some (68, false))⟩, ⟨(some 71), (.ibin .eql), [(.t 70), (.c (.rv (.int .i64 4)))], (some (68, false))⟩, ⟨(some 72), .pick, [(.t 68), (.c (.rv (.bool true))), (.t 71)], (some (64, true))⟩, ⟨(some 73), .pick, [(.t 64), (.t 72), (.c (.rv (.bool false)))], none⟩, ⟨(some 74), .mv, [(.t 73)], none⟩, ⟨(some 75), (.fld 0), [(.t 3)], (some (74, false))⟩, ⟨(some 76), (.load 1 false), [(.t 75)], (some (74, false))⟩, ⟨(some 77), (.ibin .eql), [(.t 76), (.c (.rv (.int .i64 4)))], (some (74, false))⟩, ⟨(some 78), .mv, [(.t 77)], (some (74, false))⟩, ⟨(some 79), .mv, [(.t 0)], (some (78, true))⟩, ⟨(some 80), (.fld 1), [(.t 3)], (some (78, true))⟩, ⟨(some 81), (.load 1 false), [(.t 80)], (some (78, true))⟩, ⟨(some 82), (.fld 2), [(.t 3)], (some (78, true))⟩, ⟨(some 83), (.load 1 false), [(.t 82)], (some (78, true))⟩, ⟨(some 84), (.call 61), [(.t 79), (.t 81), (.t 83)], (some (78, true))⟩, ⟨(some 85), .pick, [(.t 78), (.t 84), (.c (.rv (.bool false)))], (some (74, false))⟩, ⟨(some 86), .pick, [(.t 74), (.c (.rv (.bool true))), (.t 85)], none⟩, ⟨(some 60), .mv, [(.t 86)], none⟩]) (.cond (.t 60) (.seq (.reg [⟨(some 4), .mv, [(.c (.rv .nilsl))], none⟩, ⟨(some 5), .mv, [(.c (.rv (.int .i64 1)))], none⟩]) .ret) (.seq (.reg [⟨(some 88), (.fld 0), [(.t 3)], none⟩, ⟨(some 89), (.load 1 false), [(.t 88)], none⟩, ⟨(some 90), (.ibin .eql), [(.t 89), (.c (.rv (.int .i64 1)))], none⟩, ⟨(some 91), .mv, [(.t 90)], none⟩, ⟨(some 92), (.fld 0), [(.t 3)], (some (91, false))⟩, ⟨(some 93), (.load 1 false), [(.t 92)], (some (91, false))⟩, ⟨(some 94), (.ibin .eql), [(.t 93), (.c (.rv (.int .i64 3)))], (some (91, false))⟩, ⟨(some 95), .pick, [(.t 91), (.c (.rv (.bool true))), (.t 94)], none⟩, ⟨(some 96), .mv, [(.t 95)], none⟩, ⟨(some 97), (.fld 4), [(.t 3)], (some (96, true))⟩, ⟨(some 98), (.load 48 true), [(.t 97)], (some (96, true))⟩, ⟨(some 99), (.call 32), [(.t 98)], (some (96, true))⟩, ⟨(some 100), .not, [(.t 99)], (some (96, true))⟩, ⟨(some 101), .pick, [(.t 96), (.t 100), (.c (.rv (.bool false)))], none⟩, ⟨(some 87), .mv, [(.t 101)], none⟩]) (.cond (.t 87) (.seq (.reg [⟨(some 4), .mv, [(.c (.rv .nilsl))], none⟩, ⟨(some 5), .mv, [(.c (.rv (.int .i64 1)))], none⟩]) .ret) .skip))))))))) .ent) (.seq (.reg [⟨(some 102), .mv, [(.t 0)], none⟩, ⟨(some 103), (.call 35), [(.t 102), (.c (.rv (.int .i64 0)))], none⟩, ⟨(some 9), (.alloc [(.bool false), (.int .i64 0), (.int .i64 0), (.int .i64 0), (.int .i64 0), (.int .i64 0), (.int .i64 0), (.int .i64 0), (.int .i64 0), (.int .i64 0), (.int .i64 0), (.int .i64 0), (.int .i64 0), (.int .i64 0), (.int .i64 0), (.int .i64 0), (.int .i64 0), (.int .i64 0), (.int .i64 0), (.int .i64 0), (.int .i64 0), (.int .i64 0), (.int .i64 0), (.int .i64 0), (.int .i64 0), (.int .i64 0), (.int .i64 0), (.int .i64 0), (.int .i64 0), (.int .i64 0), (.int .i64 0), (.int .i64 0), (.int .i64 0), (.int .i64 0), (.int .i64 0), (.int .i64 0), (.int .i64 0), (.int .i64 0), (.int .i64 0), (.int .i64 0), (.int .i64 0), (.int .i64 0), (.bool false), (.bool false), (.int .i64 0), (.bool false), (.int .i64 0), (.int .i64 0), (.int .i64 0), .nilsl]), [], none⟩, ⟨none, (.store 50), [(.t 9), (.t 103)], none⟩, ⟨(some 10), .mv, [(.c (.rv (.bool true)))], none⟩]) (.seq (.seq (.reg [⟨(some 104), (.fld 0), [(.t 3)], none⟩, ⟨(some 105), (.load 1 false), [(.t 104)], none⟩]) (.seq (.block 1 (.seq (.reg [⟨(some 107), (.ibin .eql), [(.t 105), (.c (.rv (.int .i64 1)))], none⟩, ⟨(some 106), .mv, [(.t 107)], none⟩]) (.seq (.cond (.t 106) (.reg [⟨(some 108), (.load 50 true), [(.t 9)], none⟩, ⟨(some 109), (.fld 1), [(.t 3)], none⟩, ⟨(some 110), (.load 1 false), [(.t 109)], none⟩, ⟨(some 111), (.fld 4), [(.t 3)], none⟩, ⟨(some 112), (.load 48 true), [(.t 111)], none⟩, ⟨(some 113), (.call 62), [(.t 108), (.t 110), (.t 112)], none⟩, ⟨none, (.store 50), [(.t 9), (.t 113)], none⟩]) (.seq (.reg [⟨(some 115), (.ibin .eql), [(.t 105), (.c (.rv (.int .i64 2)))], none⟩, ⟨(some 114), .mv, [(.t 115)], none⟩]) (.seq (.cond (.t 114) (.reg [⟨(some 116), (.load 50 true), [(.t 9)], none⟩, ⟨(some 117), (.fld 1), [(.t 3)], none⟩, ⟨(some 118), (.load 1 false), [(.t 117)], none⟩, ⟨(some 119), (.call 63), [(.t 116), (.t 118)], none⟩, ⟨none, (.store 50), [(.t 9), (.t 119)], none⟩]) (.seq (.reg [⟨(some 121), (.ibin .eql), [(.t 105), (.c (.rv (.int .i64 3)))], none⟩, ⟨(some 120), .mv, [(.t 121)], none⟩]) (.seq (.cond (.t 120) (.reg [⟨(some 123), (.load 50 true), [(.t 9)], none⟩, ⟨(some 124), (.fld 1), [(.t 3)], none⟩, ⟨(some 125), (.load 1 false), [(.t 124)], none⟩, ⟨(some 126), (.fld 3), [(.t 3)], none⟩, ⟨(some 127), (.load 1 false), [(.t 126)], none⟩, ⟨(some 128), (.fld 4), [(.t 3)], none⟩, ⟨(some 129), (.load 48 true), [(.t 128)], none⟩, ⟨(some 130), (.build [(.bool false), (.int .i64 0), (.int .i64 0), (.int .i64 0), (.int .i64 0), (.int .i64 0), (.int .i64 0), (.int .i64 0), (.int .i64 0), (.int .i64 0), (.int .i64 0), (.int .i64 0), (.int .i64 0), (.int .i64 0), (.int .i64 0), (.int .i64 0), (.int .i64 0), (.int .i64 0), (.int .i64 0), (.int .i64 0), (.int .i64 0), (.int .i64 0), (.int .i64 0), (.int .i64 0), (.int .i64 0), (.int .i64 0), (.int .i64 0), (.int .i64 0), (.int .i64 0), (.int .i64 0), (.int .i64 0), (.int .i64 0), (.int .i64 0), (.int .i64 0), (.int .i64 0), (.int .i64 0), (.int .i64 0), (.int .i64 0), (.int .i64 0), (.int .i64 0), (.int .i64 0), (.int .i64 0), (.bool false), (.bool false), (.int .i64 0), (.bool false), (.int .i64 0), (.int .i64 0), (.int .i64 0), .nilsl] [(0, 48), (48, 1)]), [(.t 129), (.c (.rv (.int .i64 (-1))))], none⟩, ⟨(some 131), (.call 64), [(.t 123), (.t 125), (.t 127), (.t 130)], none⟩, ⟨(some 122), .mv, [(.t 131)], none⟩, ⟨(some 132), (.ext 0), [(.t 122)], none⟩, ⟨(some 133), (.ext 1), [(.t 122)], none⟩, ⟨none, (.store 50), [(.t 9), (.t 132)], none⟩, ⟨(some 10), .mv, [(.t 133)], none⟩]) (.seq (.reg [⟨(some 135), (.ibin .eql), [(.t 105), (.c (.rv (.int .i64 4)))], none⟩, ⟨(some 134), .mv, [(.t 135)], none⟩]) (.seq (.cond (.t 134) (.seq (.reg [⟨(some 136), .mv, [(.t 0)], none⟩, ⟨(some 137), (.fld 1), [(.t 3)], none⟩, ⟨(some 138), (.load 1 false), [(.t 137)], none⟩, ⟨(some 139), (.call 35), [(.t 136), (.t 138)], none⟩, ⟨(some 11), (.alloc [(.bool false), (.int .i64 0), (.int .i64 0), (.int .i64 0), (.int .i64 0), (.int .i64 0), (.int .i64 0), (.int .i64 0), (.int .i64 0), (.int .i64 0), (.int .i64 0), (.int .i64 0), (.int .i64 0), (.int .i64 0), (.int .i64 0), (.int .i64 0), (.int .i64 0), (.int .i64 0), (.int .i64 0), (.int .i64 0), (.int .i64 0), (.int .i64 0), (.int .i64 0), (.int .i64 0), (.int .i64 0), (.int .i64 0), (.int .i64 0), (.int .i64 0), (.int .i64 0), (.int .i64 0), (.int .i64 0), (.int .i64 0), (.int .i64 0), (.int .i64 0), (.int .i64 0), (.int .i64 0), (.int .i64 0), (.int .i64 0), (.int .i64 0), (.int .i64 0), (.int .i64 0), (.int .i64 0), (.bool false), (.bool false), (.int .i64 0), (.bool false), (.int .i64 0), (.int .i64 0), (.int .i64 0), .nilsl]), [], none⟩, ⟨none, (.store 50), [(.t 11), (.t 139)], none⟩]) (.regd [0, 0, 2, 7, 0, 16, 0, 64, 0, 511, 1023, 2047, 2047, 4095, 16383] [⟨(some 141), (.load 50 true), [(.t 9)], none⟩, ⟨(some 142), (.fld 1), [(.t 3)], none⟩, ⟨(some 143), (.load 1 false), [(.t 142)], none⟩, ⟨(some 144), (.call 63), [(.t 141), (.t 143)], none⟩, ⟨(some 145), (.fld 2), [(.t 3)], none⟩, ⟨(some 146), (.load 1 false), [(.t 145)], none⟩, ⟨(some 147), (.fld 3), [(.t 3)], none⟩, ⟨(some 148), (.load 1 false), [(.t 147)], none⟩, ⟨(some 149), (.load 50 true), [(.t 11)], none⟩, ⟨(some 150), (.call 64), [(.t 144), (.t 146), (.t 148), (.t 149)], none⟩, ⟨(some 140), .mv, [(.t 150)], none⟩, ⟨(some 151), (.ext 0), [(.t 140)], none⟩, ⟨(some 152), (.ext 1), [(.t 140)], none⟩, ⟨none, (.store 50), [(.t 9), (.t 151)], none⟩, ⟨(some 10), .mv, [(.t 152)], none⟩])) .skip) .ent))) .ent))) .ent))) .ent))) .ent)) (.seq (.seq (.reg [⟨(some 153), .mv, [(.t 10)], none⟩, ⟨(some 154), .not, [(.t 153)], none⟩]) (.cond (.t 154) (.seq (.reg [⟨(some 4), .mv, [(.c (.rv .nilsl))], none⟩, ⟨(some 5), .mv, [(.c (.rv (.int .i64 1)))], none⟩]) .ret) .skip)) (.seq (.reg [⟨(some 155), (.load 50 true), [(.t 9)], none⟩, ⟨(some 156), (.call 65), [(.c (.rv .nilsl)), (.t 155), (.c (.rv (.int .i64 (-1))))], none⟩, ⟨(some 12), .mv, [(.t 156)], none⟩]) (.seq (.seq (.reg [⟨(some 157), .mv, [(.t 12)], none⟩, ⟨(some 158), (.call 16), [(.t 157)], none⟩, ⟨(some 13), .mv, [(.t 158)], none⟩]) (.seq (.reg [⟨(some 159), .mv, [(.t 13)], none⟩, ⟨(some 160), (.ibin .neq), [(.t 159), (.c (.rv (.int .i64 0)))], none⟩]) (.cond (.t 160) (.seq (.reg [⟨(some 161), .mv, [(.t 13)], none⟩, ⟨(some 4), .mv, [(.c (.rv .nilsl))], none⟩, ⟨(some 5), .mv, [(.t 161)], none⟩]) .ret) .skip))) (.seq (.reg [⟨(some 162), .mv, [(.t 12)], none⟩, ⟨(some 4), .mv, [(.t 162)], none⟩, ⟨(some 5), .mv, [(.c (.rv (.int .i64 0)))], none⟩]) .ret)))))))))))
theorem k_decoupageref32_Apply : FnOK Go.Proofs.Try.prog 27 163 c_decoupageref32_Apply [(.t 4), (.t 5)] := fnOK_of (by kernel_rfl)


mutual
theorem sz_sty : ∀ (t : Trx) (m : Int) (st : Sty), (styT t m st).sz = t.sz
  | .mk s w ks, m, st => by rw [styT_mk, sz_mk, sz_mk, szF_sty ks]
theorem szF_sty : ∀ (ks : List Trx) (m : Int) (st : Sty), szL (styF ks m st) = szL ks
  | [], m, st => by rw [styF]
  | t :: ts, m, st => by rw [styF, szL_cons, szL_cons, sz_sty t, szF_sty ts]
end
mutual
theorem sz_tak : ∀ (t : Trx) (m : Int), (takT t m).sz ≤ t.sz
  | .mk s w ks, m => by rw [takT_mk, sz_mk, sz_mk]; have := szF_tak ks m; omega
theorem szF_tak : ∀ (ks : List Trx) (m : Int), szL (takF ks m) ≤ szL ks
  | [], m => by rw [takF]; exact Nat.le_refl _
  | t :: ts, m => by
    have h1 := sz_tak t m
    have h2 := szF_tak ts m
    rw [takF, szL_cons]
    split
    · omega
    · rw [szL_cons]; omega
end
mutual
theorem sz_put : ∀ (t : Trx) (n a : Int) (x : Trx), (putT t n a x).1.sz ≤ t.sz * (x.sz + 1)
  | .mk s w ks, n, a, x => by
    have h := szF_put ks n a x
    have e : (szL ks + 1) * (x.sz + 1) = szL ks * (x.sz + 1) + x.sz + 1 := by rw [Nat.add_mul]; omega
    have e2 : szL ks ≤ szL ks * (x.sz + 1) := Nat.le_mul_of_pos_right _ (by omega)
    rw [putT_mk]
    split
    · split
      · show (Trx.mk s w ks).sz ≤ (Trx.mk s w ks).sz * (x.sz + 1)
        rw [sz_mk, e]; omega
      · show (Trx.mk s w _).sz ≤ (Trx.mk s w ks).sz * (x.sz + 1)
        rw [sz_mk, sz_mk, e, szL_app, szL_cons]
        have h2 := szL_app ((putF ks n a x).1.take a.toNat) ((putF ks n a x).1.drop a.toNat)
        rw [List.take_append_drop] at h2
        omega
    · show (Trx.mk s w _).sz ≤ (Trx.mk s w ks).sz * (x.sz + 1)
      rw [sz_mk, sz_mk, e]; omega
theorem szF_put : ∀ (ks : List Trx) (n a : Int) (x : Trx), szL (putF ks n a x).1 ≤ szL ks * (x.sz + 1)
  | [], n, a, x => by rw [putF, szL_nil]; omega
  | t :: ts, n, a, x => by
    have h1 := sz_put t n a x
    have h2 := szF_put ts n a x
    rw [putF, szL_cons, szL_cons, Nat.add_mul]; omega
end

theorem leafV (s : Sty) : (Trx.mk s (-1) []).cells.map SV.rv = s.cells.map SV.rv ++ [.rv (.int .i64 (-1)), .rv (.sl 50 [])] := by rw [tr_map, trL_map]; rfl
/-- A nil slice is one without elements. -/
theorem callR_arg {P : Program} {f : FuncId} {args args0 : List SV} {pre us : List (Nat × HB)} {sv : SV} (H : CallR P f args0 pre us sv) (hl : args.length = args0.length)
    (hw : ∀ (w : World) (ok : Nat → Prop) (rho : Nat → Option Nat) (hp : Hp) (j : Nat) (y x : SV) (v : Value), args[j]? = some y → args0[j]? = some x → Rp w ok rho hp y v → Rp w ok rho hp x v) : CallR P f args pre us sv := by
  refine ⟨H.1, fun C hp w rho vs hpre hnew R hvl hvs => H.2 C hp w rho vs hpre hnew R (by rw [hvl, hl]) (fun j s hj => ?_)⟩
  have hlt := (List.getElem?_eq_some_iff.1 hj).1
  have hy := List.getElem?_eq_getElem (l := args) (i := j) (by omega)
  exact hw w _ rho hp j _ s _ hy hj (hvs j _ hy)
end Go.Eng


/- edit: the document's changes: all. -/
namespace Go.Eng
open Go

theorem rp_last {w : World} {ok : Nat → Prop} {rho : Nat → Option Nat} {hp : Hp} {rs : List SV} {a : SV} {e : Nat} {v : Value} (h : Rp w ok rho hp (.agg (rs ++ [a, .rv .nilsl])) v) : Rp w ok rho hp (.agg (rs ++ [a, .rv (.sl e [])])) v := by
  cases h with
  | agg _ vs hl h1 hy =>
    refine .agg _ vs (by simpa using hl) h1 (fun j y hj => ?_)
    by_cases hlt : j < rs.length + 1
    · refine hy j y ?_
      have e1 : rs ++ [a, SV.rv (.sl e [])] = (rs ++ [a]) ++ [SV.rv (.sl e [])] := by simp
      have e2 : rs ++ [a, SV.rv .nilsl] = (rs ++ [a]) ++ [SV.rv .nilsl] := by simp
      rw [e1, List.getElem?_append_left (by simpa using hlt)] at hj
      rw [e2, List.getElem?_append_left (by simpa using hlt)]
      exact hj
    · have hjl := (List.getElem?_eq_some_iff.1 hj).1
      have hje : j = rs.length + 1 := by simp at hjl; omega
      subst hje
      have h2 := hy (rs.length + 1) (.rv .nilsl) (by rw [List.getElem?_append_right (by omega), Nat.add_sub_cancel_left]; rfl)
      rw [List.getElem?_append_right (by omega), Nat.add_sub_cancel_left] at hj
      cases hj
      generalize vs.getD (rs.length + 1) undef = u at h2 ⊢
      cases h2 with
      | rv _ _ hr =>
        cases hr
        exact .rv _ _ (.sl _ [] none 0 (fun _ _ => undef) (fun _ => ⟨rfl, rfl⟩) (by simp) (by simp [maxLen]) (by simp) (fun i x j y hx => by simp at hx) (fun i x j y hx => by simp at hx) (fun i x j y hx => by simp at hx))
theorem sp_put32L (t : Trx) (ht : t.sz ≤ 1073741823) (n a : Int) (s : Sty) : CallR Go.Proofs.Try.prog 64 [.agg (t.cells.map .rv), .rv (.int .i64 n), .rv (.int .i64 a), .agg (s.cells.map SV.rv ++ [.rv (.int .i64 (-1)), .rv .nilsl])] [] [] (.tup [.agg ((putT t n a (.mk s (-1) [])).1.cells.map .rv), .rv (.bool (putT t n a (.mk s (-1) [])).2)]) := by
  have h := sp_put32 (.mk s (-1) []) 1073741823 t ht (Nat.le_refl _) n a
  rw [leafV] at h
  refine callR_arg h rfl (fun w ok rho hp j y x v hy hx hr => ?_)
  match j, hy, hx with
  | 0, hy, hx => cases hy; cases hx; exact hr
  | 1, hy, hx => cases hy; cases hx; exact hr
  | 2, hy, hx => cases hy; cases hx; exact hr
  | 3, hy, hx => cases hy; cases hx; exact rp_last hr
  | j + 4, hy, hx => simp at hy
theorem sp_Check07R (l : List Nd) (hb : l.length ≤ 8589934592) (i v : Nat) : CallR Go.Proofs.Try.prog 16 [.row i v l.length] [(i, .row 49 v (rvs (ndL l)))] [] (.rv (.int .i64 (chk l))) :=
  lend1 (bs := []) (sp_ref07_Check l hb) (.int _ _) (by simp [ndL]) (ndL_one l)
theorem sty_bld (s : Sty) (a b c : SV) : List.take 48 (List.map SV.rv s.cells ++ [a, b]) ++ [c] ++ List.drop 49 (List.map SV.rv s.cells ++ [a, b]) = List.map SV.rv s.cells ++ [c, b] := rfl
theorem in_bools (l : List Nd) (n : Int) : ∃ b c : Bool, decide (n ≥ 0) = b ∧ decide (n < (l.length : Int)) = c ∧ inL l n = (b && c) := ⟨_, _, rfl, rfl, rfl⟩
end Go.Eng


/- edit: the document's changes: where it is barred. -/
namespace Go.Eng
open Go

set_option maxRecDepth 20000 in
set_option maxHeartbeats 16000000 in
theorem ref32_bar (l : List Nd) (hb : l.length ≤ 1000) (o : Opv) (hbar : chk l ≠ 0 ∨ o.kind < 1 ∨ o.kind > 4 ∨ inL l o.n = false) : CallR Go.Proofs.Try.prog 27 [.rv (.sl 49 (ndL l)), .agg (o.cells.map .rv)] [] [] (resA (refA l o)) := by
  refine callR_G k_decoupageref32_Apply [.rv (.sl 49 (ndL l)), .agg (o.cells.map .rv)] _ (by simp) (by simp [BkAll, bk_agg, bkAll_map, bk_rv, bk_fn, Sty.sv, Ln.sv, Nd.sv]) (fun K hK => ?_)
  have hlen := ndL_len l
  have hck := sp_ref07_Check l (by omega)
  have e00 : ((0 : Int) != 0) = false := rfl
  simp -implicitDefEqProofs only [c_decoupageref32_Apply, go_sem, ↓reduceIte, Nat.reduceEqDiff, Nat.reduceAdd, Nat.reduceSub, Nat.reduceMul, Nat.reduceLeDiff, Nat.reduceLT, reduceCtorEq, Int.reduceToNat]
  have bad : ∀ (e : Int), mayF l o = e → e ≠ 0 → ∀ env h, lk env 4 = .rv .nilsl → lk env 5 = .rv (.int .i64 e) → K .ret ⟨env, h⟩ := fun e he hne env h h4 h5 => by
    refine (hK _ _ ?_).2
    unfold refA
    rw [if_pos (by rw [he]; exact hne), he]
    exact ret_t2 h4 h5
  by_cases hc : chk l = 0
  · rw [hc] at hck
    obtain ⟨b1, b2, eN1, eN2, hinN⟩ := in_bools l o.n
    obtain ⟨c1, c2, eT1, eT2, hinT⟩ := in_bools l o.to
    by_cases hk1 : o.kind < 1
    · have e1 : decide (o.kind < 1) = true := decide_eq_true hk1
      have e2 : True := trivial
      have hm : mayF l o = 1 := by simp [mayF, hc, hk1]
      have bad := bad 1 hm (by decide)
      cases b1 <;> cases c1
      all_goals have hcall1 := hck; repeat' (first | (simp -implicitDefEqProofs only [go_sem, ↓reduceIte, Nat.reduceEqDiff, Nat.reduceAdd, Nat.reduceSub, Nat.reduceMul, Nat.reduceLeDiff, Nat.reduceLT, reduceCtorEq, Int.reduceToNat, opv_len, opv_at0, opv_at1, opv_at2, opv_at3, e00, hlen, eN1, eN2, eT1, eT2, e1, e2]) | (with_reducible refine g_noent ?_) | (with_reducible refine g_call0 hcall1 ?_) | (with_reducible refine g_calld0 hcall1 ?_) | (refine cdS (fun hg => ?_) (fun hg => ?_) <;> try simp -implicitDefEqProofs only [hg, Bool.not_true, Bool.not_false]) | (refine gdS (fun hg => ?_) (fun hg => ?_) <;> try simp -implicitDefEqProofs only [hg, Bool.not_true, Bool.not_false]) | (refine gddS (fun hg => ?_) (fun hg => ?_) <;> try simp -implicitDefEqProofs only [hg, Bool.not_true, Bool.not_false]) | ((with_reducible apply And.intro); focus (first | trivial | omega | decide | (simp -implicitDefEqProofs only [maxLen]; omega) | (simp [maxLen, sty_len, nd_len, ndL_len, lnL_len, intsL_len, rvs_len, lensS_len]; done) | (simp [maxLen, sty_len, nd_len, ndL_len, lnL_len, intsL_len, rvs_len, lensS_len]; omega))) | fail)
      all_goals exact bad _ _ rfl rfl
    · have e1 : decide (o.kind < 1) = false := decide_eq_false hk1
      by_cases hk4 : o.kind > 4
      · have e2 : decide (o.kind > 4) = true := decide_eq_true hk4
        have hm : mayF l o = 1 := by simp [mayF, hc, hk4]
        have bad := bad 1 hm (by decide)
        cases b1 <;> cases c1
        all_goals have hcall2 := hck; repeat' (first | (simp -implicitDefEqProofs only [go_sem, ↓reduceIte, Nat.reduceEqDiff, Nat.reduceAdd, Nat.reduceSub, Nat.reduceMul, Nat.reduceLeDiff, Nat.reduceLT, reduceCtorEq, Int.reduceToNat, opv_len, opv_at0, opv_at1, opv_at2, opv_at3, e00, hlen, eN1, eN2, eT1, eT2, e1, e2]) | (with_reducible refine g_noent ?_) | (with_reducible refine g_call0 hcall2 ?_) | (with_reducible refine g_calld0 hcall2 ?_) | (refine cdS (fun hg => ?_) (fun hg => ?_) <;> try simp -implicitDefEqProofs only [hg, Bool.not_true, Bool.not_false]) | (refine gdS (fun hg => ?_) (fun hg => ?_) <;> try simp -implicitDefEqProofs only [hg, Bool.not_true, Bool.not_false]) | (refine gddS (fun hg => ?_) (fun hg => ?_) <;> try simp -implicitDefEqProofs only [hg, Bool.not_true, Bool.not_false]) | ((with_reducible apply And.intro); focus (first | trivial | omega | decide | (simp -implicitDefEqProofs only [maxLen]; omega) | (simp [maxLen, sty_len, nd_len, ndL_len, lnL_len, intsL_len, rvs_len, lensS_len]; done) | (simp [maxLen, sty_len, nd_len, ndL_len, lnL_len, intsL_len, rvs_len, lensS_len]; omega))) | fail)
        all_goals exact bad _ _ rfl rfl
      · have e2 : decide (o.kind > 4) = false := decide_eq_false hk4
        have hin : inL l o.n = false := by
          rcases hbar with h | h | h | h
          · exact absurd hc h
          · exact absurd h hk1
          · exact absurd h hk4
          · exact h
        have hm : mayF l o = 5 := by simp [mayF, hc, hk1, hk4, hin]
        have bad := bad 5 hm (by decide)
        rw [hin] at hinN
        cases b1 <;> cases b2 <;> cases c1 <;> cases c2 <;> simp at hinN
        all_goals have hcall3 := hck; repeat' (first | (simp -implicitDefEqProofs only [go_sem, ↓reduceIte, Nat.reduceEqDiff, Nat.reduceAdd, Nat.reduceSub, Nat.reduceMul, Nat.reduceLeDiff, Nat.reduceLT, reduceCtorEq, Int.reduceToNat, opv_len, opv_at0, opv_at1, opv_at2, opv_at3, e00, hlen, eN1, eN2, eT1, eT2, e1, e2]) | (with_reducible refine g_noent ?_) | (with_reducible refine g_call0 hcall3 ?_) | (with_reducible refine g_calld0 hcall3 ?_) | (refine cdS (fun hg => ?_) (fun hg => ?_) <;> try simp -implicitDefEqProofs only [hg, Bool.not_true, Bool.not_false]) | (refine gdS (fun hg => ?_) (fun hg => ?_) <;> try simp -implicitDefEqProofs only [hg, Bool.not_true, Bool.not_false]) | (refine gddS (fun hg => ?_) (fun hg => ?_) <;> try simp -implicitDefEqProofs only [hg, Bool.not_true, Bool.not_false]) | ((with_reducible apply And.intro); focus (first | trivial | omega | decide | (simp -implicitDefEqProofs only [maxLen]; omega) | (simp [maxLen, sty_len, nd_len, ndL_len, lnL_len, intsL_len, rvs_len, lensS_len]; done) | (simp [maxLen, sty_len, nd_len, ndL_len, lnL_len, intsL_len, rvs_len, lensS_len]; omega))) | fail)
        all_goals exact bad _ _ rfl rfl
  · have e1 : (chk l != 0) = true := by simpa using hc
    have hm : mayF l o = chk l := by simp [mayF, hc]
    have bad := bad _ hm hc
    have hcall4 := hck; repeat' (first | (simp -implicitDefEqProofs only [go_sem, ↓reduceIte, Nat.reduceEqDiff, Nat.reduceAdd, Nat.reduceSub, Nat.reduceMul, Nat.reduceLeDiff, Nat.reduceLT, reduceCtorEq, Int.reduceToNat, opv_len, e1]) | (with_reducible refine g_noent ?_) | (with_reducible refine g_call0 hcall4 ?_) | (with_reducible refine g_calld0 hcall4 ?_) | (refine cdS (fun hg => ?_) (fun hg => ?_) <;> try simp -implicitDefEqProofs only [hg, Bool.not_true, Bool.not_false]) | (refine gdS (fun hg => ?_) (fun hg => ?_) <;> try simp -implicitDefEqProofs only [hg, Bool.not_true, Bool.not_false]) | (refine gddS (fun hg => ?_) (fun hg => ?_) <;> try simp -implicitDefEqProofs only [hg, Bool.not_true, Bool.not_false]) | ((with_reducible apply And.intro); focus (first | trivial | omega | decide | (simp -implicitDefEqProofs only [maxLen]; omega) | (simp [maxLen, sty_len, nd_len, ndL_len, lnL_len, intsL_len, rvs_len, lensS_len]; done) | (simp [maxLen, sty_len, nd_len, ndL_len, lnL_len, intsL_len, rvs_len, lensS_len]; omega))) | fail)
    exact bad _ _ rfl rfl
end Go.Eng


/- edit: the document's changes: a new style. -/
namespace Go.Eng
open Go

set_option maxRecDepth 20000 in
set_option maxHeartbeats 16000000 in
theorem ref32_k1 (l : List Nd) (hb : l.length ≤ 1000) (o : Opv) (hc : chk l = 0) (hin : inL l o.n = true) (hq : o.kind = 1) : CallR Go.Proofs.Try.prog 27 [.rv (.sl 49 (ndL l)), .agg (o.cells.map .rv)] [] [] (resA (refA l o)) := by
  refine callR_G k_decoupageref32_Apply [.rv (.sl 49 (ndL l)), .agg (o.cells.map .rv)] _ (by simp) (by simp [BkAll, bk_agg, bkAll_map, bk_rv, bk_fn, Sty.sv, Ln.sv, Nd.sv]) (fun K hK => ?_)
  have hlen := ndL_len l
  have hck := sp_ref07_Check l (by omega)
  have e00 : ((0 : Int) != 0) = false := rfl
  simp -implicitDefEqProofs only [c_decoupageref32_Apply, go_sem, ↓reduceIte, Nat.reduceEqDiff, Nat.reduceAdd, Nat.reduceSub, Nat.reduceMul, Nat.reduceLeDiff, Nat.reduceLT, reduceCtorEq, Int.reduceToNat]
  have bad : ∀ (e : Int), mayF l o = e → e ≠ 0 → ∀ env h, lk env 4 = .rv .nilsl → lk env 5 = .rv (.int .i64 e) → K .ret ⟨env, h⟩ := fun e he hne env h h4 h5 => by
    refine (hK _ _ ?_).2
    unfold refA
    rw [if_pos (by rw [he]; exact hne), he]
    exact ret_t2 h4 h5
  rw [hc] at hck
  have hs := tree_shp (chk_tree hc)
  obtain ⟨b1, b2, eN1, eN2, hinN⟩ := in_bools l o.n
  obtain ⟨c1, c2, eT1, eT2, hinT⟩ := in_bools l o.to
  have e1 : decide (o.kind < 1) = false := decide_eq_false (by omega)
  have e2 : decide (o.kind > 4) = false := decide_eq_false (by omega)
  rw [hin] at hinN
  obtain ⟨rfl, rfl⟩ : b1 = true ∧ b2 = true := by cases b1 <;> cases b2 <;> simp at hinN ⊢
  have hfm := sp_ref06_Formed o.s
  simp -implicitDefEqProofs only [Sty.sv] at hfm
  have hbl := sp_ref08_Below l hs (by omega) o.n o.to
  obtain ⟨n, hn, hnl⟩ := inL_nat hin
  have hgr : CallR Go.Proofs.Try.prog 35 [.rv (.sl 49 (ndL l)), .rv (.int .i64 ((0 : Nat) : Int))] [] [] (.agg ((grow l 0).cells.map .rv)) := sp_Grow32 l hs (by omega) l.length 0 hs.pos (by omega)
  have hgsz := sz_grow hs hs.pos
  rw [end_root hs] at hgsz
  have hgm := tr_mlen (grow l 0)
  have hgl := tr_len (grow l 0)
  have hgt := tr_t50 (grow l 0)
  have hgd : (List.map SV.rv (grow l 0).cells).drop 50 = [] := List.drop_of_length_le (by rw [hgm]; exact Nat.le_refl _)
  have good : ∀ (R : Trx) (env : List (Nat × SV)) (h : List (Option HB)) (j v : Nat), mayF l o = 0 → treeF l o = (R, true) → chk (listT R (-1) 0) = 0 → lk env 4 = .row j v R.sz → hget h j = some (.row 49 v (rvs (ndL (listT R (-1) 0)))) → lk env 5 = .rv (.int .i64 0) → K .ret ⟨env, h⟩ := fun R env h j v hm ht hco h4 hj h5 => by
    refine (hK _ _ ?_).2
    unfold refA
    rw [if_neg (by simpa using hm), ht, if_neg (by simp), if_neg (by simpa using hco)]
    simp -implicitDefEqProofs only [resL, h4, h5]
    exact ⟨trivial, rn_tup.2 ⟨rn_frz (xs := ndL (listT R (-1) 0)) hj rfl (by rw [ndL_len, listT_len]) (ndL_one _), rn_rv.2 rfl, trivial⟩⟩
  have limit : ∀ (R : Trx) (env : List (Nat × SV)) (h : List (Option HB)), mayF l o = 0 → treeF l o = (R, true) → chk (listT R (-1) 0) ≠ 0 → lk env 4 = .rv .nilsl → lk env 5 = .rv (.int .i64 (chk (listT R (-1) 0))) → K .ret ⟨env, h⟩ := fun R env h hm ht hco h4 h5 => by
    refine (hK _ _ ?_).2
    unfold refA
    rw [if_neg (by simpa using hm), ht, if_neg (by simp), if_pos hco]
    exact ret_t2 h4 h5
  have noch : ∀ (R : Trx) (env : List (Nat × SV)) (h : List (Option HB)), mayF l o = 0 → treeF l o = (R, false) → lk env 4 = .rv .nilsl → lk env 5 = .rv (.int .i64 1) → K .ret ⟨env, h⟩ := fun R env h hm ht h4 h5 => by
    refine (hK _ _ ?_).2
    unfold refA
    rw [if_neg (by simpa using hm), ht, if_pos rfl]
    exact ret_t2 h4 h5
  have f1 : (o.kind == 4) = false := by simp [hq]
  have f2 : (o.kind == 2) = false := by simp [hq]
  have f3 : (o.kind == 1) = true := by simp [hq]
  have f4 : True := trivial
  cases hst : styOK o.s with
  | false =>
    rw [hst] at hfm
    have hm : mayF l o = 1 := by simp [mayF, hc, hin, hq, hst]
    have bad := bad 1 hm (by decide)
    cases h0 : (o.n == 0) <;> cases c1
    all_goals have hcall1 := hck; have hcall2 := hfm; repeat' (first | (simp -implicitDefEqProofs only [go_sem, ↓reduceIte, Nat.reduceEqDiff, Nat.reduceAdd, Nat.reduceSub, Nat.reduceMul, Nat.reduceLeDiff, Nat.reduceLT, reduceCtorEq, Int.reduceToNat, opv_len, opv_at0, opv_at1, opv_at2, opv_at3, e00, hlen, eN1, eN2, eT1, eT2, e1, e2, f1, f2, f3, f4, h0, opv_s, sty_len]) | (with_reducible refine g_noent ?_) | (with_reducible refine g_call0 hcall1 ?_) | (with_reducible refine g_calld0 hcall1 ?_) | (with_reducible refine g_call0 hcall2 ?_) | (with_reducible refine g_calld0 hcall2 ?_) | (refine cdS (fun hg => ?_) (fun hg => ?_) <;> try simp -implicitDefEqProofs only [hg, Bool.not_true, Bool.not_false]) | (refine gdS (fun hg => ?_) (fun hg => ?_) <;> try simp -implicitDefEqProofs only [hg, Bool.not_true, Bool.not_false]) | (refine gddS (fun hg => ?_) (fun hg => ?_) <;> try simp -implicitDefEqProofs only [hg, Bool.not_true, Bool.not_false]) | ((with_reducible apply And.intro); focus (first | trivial | omega | decide | (simp -implicitDefEqProofs only [maxLen]; omega) | (simp [maxLen, sty_len, nd_len, ndL_len, lnL_len, intsL_len, rvs_len, lensS_len]; done) | (simp [maxLen, sty_len, nd_len, ndL_len, lnL_len, intsL_len, rvs_len, lensS_len]; omega))) | fail)
    all_goals exact bad _ _ rfl rfl
  | true =>
    rw [hst] at hfm
    have hm : mayF l o = 0 := by simp [mayF, hc, hin, hq, hst]
    have ht : treeF l o = (styT (grow l 0) o.n o.s, true) := by unfold treeF; rw [if_pos hq]
    have hcl := sp_sty32 1073741823 (grow l 0) (by omega) (Nat.le_refl _) o.n o.s
    have hRz : (styT (grow l 0) o.n o.s).sz ≤ 1073741823 := by rw [sz_sty]; omega
    generalize styT (grow l 0) o.n o.s = R at *
    have hRm := tr_mlen R
    have hRl := tr_len R
    have hRt := tr_t50 R
    have hRd : (List.map SV.rv R.cells).drop 50 = [] := List.drop_of_length_le (by rw [hRm]; exact Nat.le_refl _)
    have hLs := sp_List32N R hRz (-1) 2
    have hll := listT_len R (-1) 0
    have hCk := sp_Check07R (listT R (-1) 0) (by omega) 2 (R.sz - 1)
    rw [hll] at hCk
    by_cases hco : chk (listT R (-1) 0) = 0
    · rw [hco] at hCk
      cases h0 : (o.n == 0) <;> cases c1
      all_goals have hcall3 := hck; have hcall4 := hfm; have hcall5 := hgr; have hcall6 := hcl; have hcall7 := hLs; have hcall8 := hCk; repeat' (first | (simp -implicitDefEqProofs only [go_sem, ↓reduceIte, Nat.reduceEqDiff, Nat.reduceAdd, Nat.reduceSub, Nat.reduceMul, Nat.reduceLeDiff, Nat.reduceLT, reduceCtorEq, Int.reduceToNat, opv_len, opv_at0, opv_at1, opv_at2, opv_at3, e00, hlen, eN1, eN2, eT1, eT2, e1, e2, f1, f2, f3, f4, h0, hgm, hgl, List.append_nil, hgt, hgd, opv_s, sty_len, sty_mlen, sty_all, sty_all2, sty_bld, hRm, hRl, hRt, hRd]) | (with_reducible refine g_noent ?_) | (with_reducible refine g_call0 hcall3 ?_) | (with_reducible refine g_calld0 hcall3 ?_) | (with_reducible refine g_call0 hcall4 ?_) | (with_reducible refine g_calld0 hcall4 ?_) | (with_reducible refine g_call0 hcall5 ?_) | (with_reducible refine g_calld0 hcall5 ?_) | (with_reducible refine g_call0 hcall6 ?_) | (with_reducible refine g_calld0 hcall6 ?_) | (refine g_call hcall7 (by simp [PreOK, hget]; done) (by simp [okU, uph]; done) ?_) | (refine g_calld hcall7 (by simp [PreOK, hget]; done) (by simp [okU, uph]; done) ?_) | (refine g_call hcall8 (by simp [PreOK, hget]; done) (by simp [okU, uph]; done) ?_) | (refine g_calld hcall8 (by simp [PreOK, hget]; done) (by simp [okU, uph]; done) ?_) | (refine cdS (fun hg => ?_) (fun hg => ?_) <;> try simp -implicitDefEqProofs only [hg, Bool.not_true, Bool.not_false]) | (refine gdS (fun hg => ?_) (fun hg => ?_) <;> try simp -implicitDefEqProofs only [hg, Bool.not_true, Bool.not_false]) | (refine gddS (fun hg => ?_) (fun hg => ?_) <;> try simp -implicitDefEqProofs only [hg, Bool.not_true, Bool.not_false]) | ((with_reducible apply And.intro); focus (first | trivial | omega | decide | (simp -implicitDefEqProofs only [maxLen]; omega) | (simp [maxLen, sty_len, nd_len, ndL_len, lnL_len, intsL_len, rvs_len, lensS_len]; done) | (simp [maxLen, sty_len, nd_len, ndL_len, lnL_len, intsL_len, rvs_len, lensS_len]; omega))) | fail)
      all_goals exact good R _ _ 2 _ hm ht hco rfl rfl rfl
    · have ec : (chk (listT R (-1) 0) != 0) = true := by simpa using hco
      cases h0 : (o.n == 0) <;> cases c1
      all_goals have hcall9 := hck; have hcall10 := hfm; have hcall11 := hgr; have hcall12 := hcl; have hcall13 := hLs; have hcall14 := hCk; repeat' (first | (simp -implicitDefEqProofs only [go_sem, ↓reduceIte, Nat.reduceEqDiff, Nat.reduceAdd, Nat.reduceSub, Nat.reduceMul, Nat.reduceLeDiff, Nat.reduceLT, reduceCtorEq, Int.reduceToNat, opv_len, opv_at0, opv_at1, opv_at2, opv_at3, e00, hlen, eN1, eN2, eT1, eT2, e1, e2, f1, f2, f3, f4, h0, hgm, hgl, List.append_nil, hgt, hgd, opv_s, sty_len, sty_mlen, sty_all, sty_all2, sty_bld, hRm, hRl, hRt, hRd, ec]) | (with_reducible refine g_noent ?_) | (with_reducible refine g_call0 hcall9 ?_) | (with_reducible refine g_calld0 hcall9 ?_) | (with_reducible refine g_call0 hcall10 ?_) | (with_reducible refine g_calld0 hcall10 ?_) | (with_reducible refine g_call0 hcall11 ?_) | (with_reducible refine g_calld0 hcall11 ?_) | (with_reducible refine g_call0 hcall12 ?_) | (with_reducible refine g_calld0 hcall12 ?_) | (refine g_call hcall13 (by simp [PreOK, hget]; done) (by simp [okU, uph]; done) ?_) | (refine g_calld hcall13 (by simp [PreOK, hget]; done) (by simp [okU, uph]; done) ?_) | (refine g_call hcall14 (by simp [PreOK, hget]; done) (by simp [okU, uph]; done) ?_) | (refine g_calld hcall14 (by simp [PreOK, hget]; done) (by simp [okU, uph]; done) ?_) | (refine cdS (fun hg => ?_) (fun hg => ?_) <;> try simp -implicitDefEqProofs only [hg, Bool.not_true, Bool.not_false]) | (refine gdS (fun hg => ?_) (fun hg => ?_) <;> try simp -implicitDefEqProofs only [hg, Bool.not_true, Bool.not_false]) | (refine gddS (fun hg => ?_) (fun hg => ?_) <;> try simp -implicitDefEqProofs only [hg, Bool.not_true, Bool.not_false]) | ((with_reducible apply And.intro); focus (first | trivial | omega | decide | (simp -implicitDefEqProofs only [maxLen]; omega) | (simp [maxLen, sty_len, nd_len, ndL_len, lnL_len, intsL_len, rvs_len, lensS_len]; done) | (simp [maxLen, sty_len, nd_len, ndL_len, lnL_len, intsL_len, rvs_len, lensS_len]; omega))) | fail)
      all_goals exact limit R _ _ hm ht hco rfl rfl
end Go.Eng


/- edit: the document's changes: a node taken. -/
namespace Go.Eng
open Go

set_option maxRecDepth 20000 in
set_option maxHeartbeats 16000000 in
theorem ref32_k2 (l : List Nd) (hb : l.length ≤ 1000) (o : Opv) (hc : chk l = 0) (hin : inL l o.n = true) (hq : o.kind = 2) : CallR Go.Proofs.Try.prog 27 [.rv (.sl 49 (ndL l)), .agg (o.cells.map .rv)] [] [] (resA (refA l o)) := by
  refine callR_G k_decoupageref32_Apply [.rv (.sl 49 (ndL l)), .agg (o.cells.map .rv)] _ (by simp) (by simp [BkAll, bk_agg, bkAll_map, bk_rv, bk_fn, Sty.sv, Ln.sv, Nd.sv]) (fun K hK => ?_)
  have hlen := ndL_len l
  have hck := sp_ref07_Check l (by omega)
  have e00 : ((0 : Int) != 0) = false := rfl
  simp -implicitDefEqProofs only [c_decoupageref32_Apply, go_sem, ↓reduceIte, Nat.reduceEqDiff, Nat.reduceAdd, Nat.reduceSub, Nat.reduceMul, Nat.reduceLeDiff, Nat.reduceLT, reduceCtorEq, Int.reduceToNat]
  have bad : ∀ (e : Int), mayF l o = e → e ≠ 0 → ∀ env h, lk env 4 = .rv .nilsl → lk env 5 = .rv (.int .i64 e) → K .ret ⟨env, h⟩ := fun e he hne env h h4 h5 => by
    refine (hK _ _ ?_).2
    unfold refA
    rw [if_pos (by rw [he]; exact hne), he]
    exact ret_t2 h4 h5
  rw [hc] at hck
  have hs := tree_shp (chk_tree hc)
  obtain ⟨b1, b2, eN1, eN2, hinN⟩ := in_bools l o.n
  obtain ⟨c1, c2, eT1, eT2, hinT⟩ := in_bools l o.to
  have e1 : decide (o.kind < 1) = false := decide_eq_false (by omega)
  have e2 : decide (o.kind > 4) = false := decide_eq_false (by omega)
  rw [hin] at hinN
  obtain ⟨rfl, rfl⟩ : b1 = true ∧ b2 = true := by cases b1 <;> cases b2 <;> simp at hinN ⊢
  have hfm := sp_ref06_Formed o.s
  simp -implicitDefEqProofs only [Sty.sv] at hfm
  have hbl := sp_ref08_Below l hs (by omega) o.n o.to
  obtain ⟨n, hn, hnl⟩ := inL_nat hin
  have hgr : CallR Go.Proofs.Try.prog 35 [.rv (.sl 49 (ndL l)), .rv (.int .i64 ((0 : Nat) : Int))] [] [] (.agg ((grow l 0).cells.map .rv)) := sp_Grow32 l hs (by omega) l.length 0 hs.pos (by omega)
  have hgsz := sz_grow hs hs.pos
  rw [end_root hs] at hgsz
  have hgm := tr_mlen (grow l 0)
  have hgl := tr_len (grow l 0)
  have hgt := tr_t50 (grow l 0)
  have hgd : (List.map SV.rv (grow l 0).cells).drop 50 = [] := List.drop_of_length_le (by rw [hgm]; exact Nat.le_refl _)
  have good : ∀ (R : Trx) (env : List (Nat × SV)) (h : List (Option HB)) (j v : Nat), mayF l o = 0 → treeF l o = (R, true) → chk (listT R (-1) 0) = 0 → lk env 4 = .row j v R.sz → hget h j = some (.row 49 v (rvs (ndL (listT R (-1) 0)))) → lk env 5 = .rv (.int .i64 0) → K .ret ⟨env, h⟩ := fun R env h j v hm ht hco h4 hj h5 => by
    refine (hK _ _ ?_).2
    unfold refA
    rw [if_neg (by simpa using hm), ht, if_neg (by simp), if_neg (by simpa using hco)]
    simp -implicitDefEqProofs only [resL, h4, h5]
    exact ⟨trivial, rn_tup.2 ⟨rn_frz (xs := ndL (listT R (-1) 0)) hj rfl (by rw [ndL_len, listT_len]) (ndL_one _), rn_rv.2 rfl, trivial⟩⟩
  have limit : ∀ (R : Trx) (env : List (Nat × SV)) (h : List (Option HB)), mayF l o = 0 → treeF l o = (R, true) → chk (listT R (-1) 0) ≠ 0 → lk env 4 = .rv .nilsl → lk env 5 = .rv (.int .i64 (chk (listT R (-1) 0))) → K .ret ⟨env, h⟩ := fun R env h hm ht hco h4 h5 => by
    refine (hK _ _ ?_).2
    unfold refA
    rw [if_neg (by simpa using hm), ht, if_neg (by simp), if_pos hco]
    exact ret_t2 h4 h5
  have noch : ∀ (R : Trx) (env : List (Nat × SV)) (h : List (Option HB)), mayF l o = 0 → treeF l o = (R, false) → lk env 4 = .rv .nilsl → lk env 5 = .rv (.int .i64 1) → K .ret ⟨env, h⟩ := fun R env h hm ht h4 h5 => by
    refine (hK _ _ ?_).2
    unfold refA
    rw [if_neg (by simpa using hm), ht, if_pos rfl]
    exact ret_t2 h4 h5
  have f1 : (o.kind == 4) = false := by simp [hq]
  have f2 : (o.kind == 2) = true := by simp [hq]
  have f3 : (o.kind == 1) = false := by simp [hq]
  have f4 : (o.kind == 3) = false := by simp [hq]
  cases h0 : (o.n == 0) with
  | true =>
    have hn0 : o.n = 0 := by simpa using h0
    have hm : mayF l o = 1 := by simp [mayF, hc, hq, hn0, (hn0 ▸ hin : inL l 0 = true)]
    have bad := bad 1 hm (by decide)
    cases c1
    all_goals have hcall1 := hck; repeat' (first | (simp -implicitDefEqProofs only [go_sem, ↓reduceIte, Nat.reduceEqDiff, Nat.reduceAdd, Nat.reduceSub, Nat.reduceMul, Nat.reduceLeDiff, Nat.reduceLT, reduceCtorEq, Int.reduceToNat, opv_len, opv_at0, opv_at1, opv_at2, opv_at3, e00, hlen, eN1, eN2, eT1, eT2, e1, e2, f1, f2, f3, f4, h0]) | (with_reducible refine g_noent ?_) | (with_reducible refine g_call0 hcall1 ?_) | (with_reducible refine g_calld0 hcall1 ?_) | (refine cdS (fun hg => ?_) (fun hg => ?_) <;> try simp -implicitDefEqProofs only [hg, Bool.not_true, Bool.not_false]) | (refine gdS (fun hg => ?_) (fun hg => ?_) <;> try simp -implicitDefEqProofs only [hg, Bool.not_true, Bool.not_false]) | (refine gddS (fun hg => ?_) (fun hg => ?_) <;> try simp -implicitDefEqProofs only [hg, Bool.not_true, Bool.not_false]) | ((with_reducible apply And.intro); focus (first | trivial | omega | decide | (simp -implicitDefEqProofs only [maxLen]; omega) | (simp [maxLen, sty_len, nd_len, ndL_len, lnL_len, intsL_len, rvs_len, lensS_len]; done) | (simp [maxLen, sty_len, nd_len, ndL_len, lnL_len, intsL_len, rvs_len, lensS_len]; omega))) | fail)
    all_goals exact bad _ _ rfl rfl
  | false =>
    have hn0 : o.n ≠ 0 := by simpa using h0
    have hm : mayF l o = 0 := by simp [mayF, hc, hin, hq, hn0]
    have ht : treeF l o = (takT (grow l 0) o.n, true) := by unfold treeF; rw [if_neg (by omega), if_pos hq]
    have hcl := sp_take32 1073741823 (grow l 0) (by omega) (Nat.le_refl _) o.n
    have hRz : (takT (grow l 0) o.n).sz ≤ 1073741823 := by have := sz_tak (grow l 0) o.n; omega
    generalize takT (grow l 0) o.n = R at *
    have hRm := tr_mlen R
    have hRl := tr_len R
    have hRt := tr_t50 R
    have hRd : (List.map SV.rv R.cells).drop 50 = [] := List.drop_of_length_le (by rw [hRm]; exact Nat.le_refl _)
    have hLs := sp_List32N R hRz (-1) 2
    have hll := listT_len R (-1) 0
    have hCk := sp_Check07R (listT R (-1) 0) (by omega) 2 (R.sz - 1)
    rw [hll] at hCk
    by_cases hco : chk (listT R (-1) 0) = 0
    · rw [hco] at hCk
      cases c1
      all_goals have hcall2 := hck; have hcall3 := hfm; have hcall4 := hgr; have hcall5 := hcl; have hcall6 := hLs; have hcall7 := hCk; repeat' (first | (simp -implicitDefEqProofs only [go_sem, ↓reduceIte, Nat.reduceEqDiff, Nat.reduceAdd, Nat.reduceSub, Nat.reduceMul, Nat.reduceLeDiff, Nat.reduceLT, reduceCtorEq, Int.reduceToNat, opv_len, opv_at0, opv_at1, opv_at2, opv_at3, e00, hlen, eN1, eN2, eT1, eT2, e1, e2, f1, f2, f3, f4, h0, hgm, hgl, List.append_nil, hgt, hgd, opv_s, sty_len, sty_mlen, sty_all, sty_all2, sty_bld, hRm, hRl, hRt, hRd]) | (with_reducible refine g_noent ?_) | (with_reducible refine g_call0 hcall2 ?_) | (with_reducible refine g_calld0 hcall2 ?_) | (with_reducible refine g_call0 hcall3 ?_) | (with_reducible refine g_calld0 hcall3 ?_) | (with_reducible refine g_call0 hcall4 ?_) | (with_reducible refine g_calld0 hcall4 ?_) | (with_reducible refine g_call0 hcall5 ?_) | (with_reducible refine g_calld0 hcall5 ?_) | (refine g_call hcall6 (by simp [PreOK, hget]; done) (by simp [okU, uph]; done) ?_) | (refine g_calld hcall6 (by simp [PreOK, hget]; done) (by simp [okU, uph]; done) ?_) | (refine g_call hcall7 (by simp [PreOK, hget]; done) (by simp [okU, uph]; done) ?_) | (refine g_calld hcall7 (by simp [PreOK, hget]; done) (by simp [okU, uph]; done) ?_) | (refine cdS (fun hg => ?_) (fun hg => ?_) <;> try simp -implicitDefEqProofs only [hg, Bool.not_true, Bool.not_false]) | (refine gdS (fun hg => ?_) (fun hg => ?_) <;> try simp -implicitDefEqProofs only [hg, Bool.not_true, Bool.not_false]) | (refine gddS (fun hg => ?_) (fun hg => ?_) <;> try simp -implicitDefEqProofs only [hg, Bool.not_true, Bool.not_false]) | ((with_reducible apply And.intro); focus (first | trivial | omega | decide | (simp -implicitDefEqProofs only [maxLen]; omega) | (simp [maxLen, sty_len, nd_len, ndL_len, lnL_len, intsL_len, rvs_len, lensS_len]; done) | (simp [maxLen, sty_len, nd_len, ndL_len, lnL_len, intsL_len, rvs_len, lensS_len]; omega))) | fail)
      all_goals exact good R _ _ 2 _ hm ht hco rfl rfl rfl
    · have ec : (chk (listT R (-1) 0) != 0) = true := by simpa using hco
      cases c1
      all_goals have hcall8 := hck; have hcall9 := hfm; have hcall10 := hgr; have hcall11 := hcl; have hcall12 := hLs; have hcall13 := hCk; repeat' (first | (simp -implicitDefEqProofs only [go_sem, ↓reduceIte, Nat.reduceEqDiff, Nat.reduceAdd, Nat.reduceSub, Nat.reduceMul, Nat.reduceLeDiff, Nat.reduceLT, reduceCtorEq, Int.reduceToNat, opv_len, opv_at0, opv_at1, opv_at2, opv_at3, e00, hlen, eN1, eN2, eT1, eT2, e1, e2, f1, f2, f3, f4, h0, hgm, hgl, List.append_nil, hgt, hgd, opv_s, sty_len, sty_mlen, sty_all, sty_all2, sty_bld, hRm, hRl, hRt, hRd, ec]) | (with_reducible refine g_noent ?_) | (with_reducible refine g_call0 hcall8 ?_) | (with_reducible refine g_calld0 hcall8 ?_) | (with_reducible refine g_call0 hcall9 ?_) | (with_reducible refine g_calld0 hcall9 ?_) | (with_reducible refine g_call0 hcall10 ?_) | (with_reducible refine g_calld0 hcall10 ?_) | (with_reducible refine g_call0 hcall11 ?_) | (with_reducible refine g_calld0 hcall11 ?_) | (refine g_call hcall12 (by simp [PreOK, hget]; done) (by simp [okU, uph]; done) ?_) | (refine g_calld hcall12 (by simp [PreOK, hget]; done) (by simp [okU, uph]; done) ?_) | (refine g_call hcall13 (by simp [PreOK, hget]; done) (by simp [okU, uph]; done) ?_) | (refine g_calld hcall13 (by simp [PreOK, hget]; done) (by simp [okU, uph]; done) ?_) | (refine cdS (fun hg => ?_) (fun hg => ?_) <;> try simp -implicitDefEqProofs only [hg, Bool.not_true, Bool.not_false]) | (refine gdS (fun hg => ?_) (fun hg => ?_) <;> try simp -implicitDefEqProofs only [hg, Bool.not_true, Bool.not_false]) | (refine gddS (fun hg => ?_) (fun hg => ?_) <;> try simp -implicitDefEqProofs only [hg, Bool.not_true, Bool.not_false]) | ((with_reducible apply And.intro); focus (first | trivial | omega | decide | (simp -implicitDefEqProofs only [maxLen]; omega) | (simp [maxLen, sty_len, nd_len, ndL_len, lnL_len, intsL_len, rvs_len, lensS_len]; done) | (simp [maxLen, sty_len, nd_len, ndL_len, lnL_len, intsL_len, rvs_len, lensS_len]; omega))) | fail)
      all_goals exact limit R _ _ hm ht hco rfl rfl
end Go.Eng


/- edit: the document's changes: a node put. -/
namespace Go.Eng
open Go

set_option maxRecDepth 20000 in
set_option maxHeartbeats 16000000 in
theorem ref32_k3 (l : List Nd) (hb : l.length ≤ 1000) (o : Opv) (hc : chk l = 0) (hin : inL l o.n = true) (hq : o.kind = 3) : CallR Go.Proofs.Try.prog 27 [.rv (.sl 49 (ndL l)), .agg (o.cells.map .rv)] [] [] (resA (refA l o)) := by
  refine callR_G k_decoupageref32_Apply [.rv (.sl 49 (ndL l)), .agg (o.cells.map .rv)] _ (by simp) (by simp [BkAll, bk_agg, bkAll_map, bk_rv, bk_fn, Sty.sv, Ln.sv, Nd.sv]) (fun K hK => ?_)
  have hlen := ndL_len l
  have hck := sp_ref07_Check l (by omega)
  have e00 : ((0 : Int) != 0) = false := rfl
  simp -implicitDefEqProofs only [c_decoupageref32_Apply, go_sem, ↓reduceIte, Nat.reduceEqDiff, Nat.reduceAdd, Nat.reduceSub, Nat.reduceMul, Nat.reduceLeDiff, Nat.reduceLT, reduceCtorEq, Int.reduceToNat]
  have bad : ∀ (e : Int), mayF l o = e → e ≠ 0 → ∀ env h, lk env 4 = .rv .nilsl → lk env 5 = .rv (.int .i64 e) → K .ret ⟨env, h⟩ := fun e he hne env h h4 h5 => by
    refine (hK _ _ ?_).2
    unfold refA
    rw [if_pos (by rw [he]; exact hne), he]
    exact ret_t2 h4 h5
  rw [hc] at hck
  have hs := tree_shp (chk_tree hc)
  obtain ⟨b1, b2, eN1, eN2, hinN⟩ := in_bools l o.n
  obtain ⟨c1, c2, eT1, eT2, hinT⟩ := in_bools l o.to
  have e1 : decide (o.kind < 1) = false := decide_eq_false (by omega)
  have e2 : decide (o.kind > 4) = false := decide_eq_false (by omega)
  rw [hin] at hinN
  obtain ⟨rfl, rfl⟩ : b1 = true ∧ b2 = true := by cases b1 <;> cases b2 <;> simp at hinN ⊢
  have hfm := sp_ref06_Formed o.s
  simp -implicitDefEqProofs only [Sty.sv] at hfm
  have hbl := sp_ref08_Below l hs (by omega) o.n o.to
  obtain ⟨n, hn, hnl⟩ := inL_nat hin
  have hgr : CallR Go.Proofs.Try.prog 35 [.rv (.sl 49 (ndL l)), .rv (.int .i64 ((0 : Nat) : Int))] [] [] (.agg ((grow l 0).cells.map .rv)) := sp_Grow32 l hs (by omega) l.length 0 hs.pos (by omega)
  have hgsz := sz_grow hs hs.pos
  rw [end_root hs] at hgsz
  have hgm := tr_mlen (grow l 0)
  have hgl := tr_len (grow l 0)
  have hgt := tr_t50 (grow l 0)
  have hgd : (List.map SV.rv (grow l 0).cells).drop 50 = [] := List.drop_of_length_le (by rw [hgm]; exact Nat.le_refl _)
  have good : ∀ (R : Trx) (env : List (Nat × SV)) (h : List (Option HB)) (j v : Nat), mayF l o = 0 → treeF l o = (R, true) → chk (listT R (-1) 0) = 0 → lk env 4 = .row j v R.sz → hget h j = some (.row 49 v (rvs (ndL (listT R (-1) 0)))) → lk env 5 = .rv (.int .i64 0) → K .ret ⟨env, h⟩ := fun R env h j v hm ht hco h4 hj h5 => by
    refine (hK _ _ ?_).2
    unfold refA
    rw [if_neg (by simpa using hm), ht, if_neg (by simp), if_neg (by simpa using hco)]
    simp -implicitDefEqProofs only [resL, h4, h5]
    exact ⟨trivial, rn_tup.2 ⟨rn_frz (xs := ndL (listT R (-1) 0)) hj rfl (by rw [ndL_len, listT_len]) (ndL_one _), rn_rv.2 rfl, trivial⟩⟩
  have limit : ∀ (R : Trx) (env : List (Nat × SV)) (h : List (Option HB)), mayF l o = 0 → treeF l o = (R, true) → chk (listT R (-1) 0) ≠ 0 → lk env 4 = .rv .nilsl → lk env 5 = .rv (.int .i64 (chk (listT R (-1) 0))) → K .ret ⟨env, h⟩ := fun R env h hm ht hco h4 h5 => by
    refine (hK _ _ ?_).2
    unfold refA
    rw [if_neg (by simpa using hm), ht, if_neg (by simp), if_pos hco]
    exact ret_t2 h4 h5
  have noch : ∀ (R : Trx) (env : List (Nat × SV)) (h : List (Option HB)), mayF l o = 0 → treeF l o = (R, false) → lk env 4 = .rv .nilsl → lk env 5 = .rv (.int .i64 1) → K .ret ⟨env, h⟩ := fun R env h hm ht h4 h5 => by
    refine (hK _ _ ?_).2
    unfold refA
    rw [if_neg (by simpa using hm), ht, if_pos rfl]
    exact ret_t2 h4 h5
  have f1 : (o.kind == 4) = false := by simp [hq]
  have f2 : (o.kind == 2) = false := by simp [hq]
  have f3 : (o.kind == 1) = false := by simp [hq]
  have f4 : (o.kind == 3) = true := by simp [hq]
  cases hst : styOK o.s with
  | false =>
    rw [hst] at hfm
    have hm : mayF l o = 1 := by simp [mayF, hc, hin, hq, hst]
    have bad := bad 1 hm (by decide)
    cases h0 : (o.n == 0) <;> cases c1
    all_goals have hcall1 := hck; have hcall2 := hfm; repeat' (first | (simp -implicitDefEqProofs only [go_sem, ↓reduceIte, Nat.reduceEqDiff, Nat.reduceAdd, Nat.reduceSub, Nat.reduceMul, Nat.reduceLeDiff, Nat.reduceLT, reduceCtorEq, Int.reduceToNat, opv_len, opv_at0, opv_at1, opv_at2, opv_at3, e00, hlen, eN1, eN2, eT1, eT2, e1, e2, f1, f2, f3, f4, h0, opv_s, sty_len]) | (with_reducible refine g_noent ?_) | (with_reducible refine g_call0 hcall1 ?_) | (with_reducible refine g_calld0 hcall1 ?_) | (with_reducible refine g_call0 hcall2 ?_) | (with_reducible refine g_calld0 hcall2 ?_) | (refine cdS (fun hg => ?_) (fun hg => ?_) <;> try simp -implicitDefEqProofs only [hg, Bool.not_true, Bool.not_false]) | (refine gdS (fun hg => ?_) (fun hg => ?_) <;> try simp -implicitDefEqProofs only [hg, Bool.not_true, Bool.not_false]) | (refine gddS (fun hg => ?_) (fun hg => ?_) <;> try simp -implicitDefEqProofs only [hg, Bool.not_true, Bool.not_false]) | ((with_reducible apply And.intro); focus (first | trivial | omega | decide | (simp -implicitDefEqProofs only [maxLen]; omega) | (simp [maxLen, sty_len, nd_len, ndL_len, lnL_len, intsL_len, rvs_len, lensS_len]; done) | (simp [maxLen, sty_len, nd_len, ndL_len, lnL_len, intsL_len, rvs_len, lensS_len]; omega))) | fail)
    all_goals exact bad _ _ rfl rfl
  | true =>
    rw [hst] at hfm
    have hm : mayF l o = 0 := by simp [mayF, hc, hin, hq, hst]
    have ht : treeF l o = putT (grow l 0) o.n o.at' (.mk o.s (-1) []) := by unfold treeF; rw [if_neg (by omega), if_neg (by omega), if_pos hq]
    have hcl := sp_put32L (grow l 0) (by omega) o.n o.at' o.s
    have hRz : (putT (grow l 0) o.n o.at' (.mk o.s (-1) [])).1.sz ≤ 1073741823 := by
      have h1 := sz_put (grow l 0) o.n o.at' (.mk o.s (-1) [])
      have h2 : (Trx.mk o.s (-1) []).sz = 1 := by rw [sz_mk, szL_nil]
      rw [h2] at h1; omega
    generalize putT (grow l 0) o.n o.at' (.mk o.s (-1) []) = rb at ht hcl hRz
    obtain ⟨R, b⟩ := rb
    try simp only at hcl
    try simp only at hRz
    have hRm := tr_mlen R
    have hRl := tr_len R
    have hRt := tr_t50 R
    have hRd : (List.map SV.rv R.cells).drop 50 = [] := List.drop_of_length_le (by rw [hRm]; exact Nat.le_refl _)
    have hLs := sp_List32N R hRz (-1) 2
    have hll := listT_len R (-1) 0
    have hCk := sp_Check07R (listT R (-1) 0) (by omega) 2 (R.sz - 1)
    rw [hll] at hCk
    cases b with
    | true =>
      by_cases hco : chk (listT R (-1) 0) = 0
      · rw [hco] at hCk
        cases h0 : (o.n == 0) <;> cases c1
        all_goals have hcall3 := hck; have hcall4 := hfm; have hcall5 := hgr; have hcall6 := hcl; have hcall7 := hLs; have hcall8 := hCk; repeat' (first | (simp -implicitDefEqProofs only [go_sem, ↓reduceIte, Nat.reduceEqDiff, Nat.reduceAdd, Nat.reduceSub, Nat.reduceMul, Nat.reduceLeDiff, Nat.reduceLT, reduceCtorEq, Int.reduceToNat, opv_len, opv_at0, opv_at1, opv_at2, opv_at3, e00, hlen, eN1, eN2, eT1, eT2, e1, e2, f1, f2, f3, f4, h0, hgm, hgl, List.append_nil, hgt, hgd, opv_s, sty_len, sty_mlen, sty_all, sty_all2, sty_bld, hRm, hRl, hRt, hRd]) | (with_reducible refine g_noent ?_) | (with_reducible refine g_call0 hcall3 ?_) | (with_reducible refine g_calld0 hcall3 ?_) | (with_reducible refine g_call0 hcall4 ?_) | (with_reducible refine g_calld0 hcall4 ?_) | (with_reducible refine g_call0 hcall5 ?_) | (with_reducible refine g_calld0 hcall5 ?_) | (with_reducible refine g_call0 hcall6 ?_) | (with_reducible refine g_calld0 hcall6 ?_) | (refine g_call hcall7 (by simp [PreOK, hget]; done) (by simp [okU, uph]; done) ?_) | (refine g_calld hcall7 (by simp [PreOK, hget]; done) (by simp [okU, uph]; done) ?_) | (refine g_call hcall8 (by simp [PreOK, hget]; done) (by simp [okU, uph]; done) ?_) | (refine g_calld hcall8 (by simp [PreOK, hget]; done) (by simp [okU, uph]; done) ?_) | (refine cdS (fun hg => ?_) (fun hg => ?_) <;> try simp -implicitDefEqProofs only [hg, Bool.not_true, Bool.not_false]) | (refine gdS (fun hg => ?_) (fun hg => ?_) <;> try simp -implicitDefEqProofs only [hg, Bool.not_true, Bool.not_false]) | (refine gddS (fun hg => ?_) (fun hg => ?_) <;> try simp -implicitDefEqProofs only [hg, Bool.not_true, Bool.not_false]) | ((with_reducible apply And.intro); focus (first | trivial | omega | decide | (simp -implicitDefEqProofs only [maxLen]; omega) | (simp [maxLen, sty_len, nd_len, ndL_len, lnL_len, intsL_len, rvs_len, lensS_len]; done) | (simp [maxLen, sty_len, nd_len, ndL_len, lnL_len, intsL_len, rvs_len, lensS_len]; omega))) | fail)
        all_goals exact good R _ _ 2 _ hm ht hco rfl rfl rfl
      · have ec : (chk (listT R (-1) 0) != 0) = true := by simpa using hco
        cases h0 : (o.n == 0) <;> cases c1
        all_goals have hcall9 := hck; have hcall10 := hfm; have hcall11 := hgr; have hcall12 := hcl; have hcall13 := hLs; have hcall14 := hCk; repeat' (first | (simp -implicitDefEqProofs only [go_sem, ↓reduceIte, Nat.reduceEqDiff, Nat.reduceAdd, Nat.reduceSub, Nat.reduceMul, Nat.reduceLeDiff, Nat.reduceLT, reduceCtorEq, Int.reduceToNat, opv_len, opv_at0, opv_at1, opv_at2, opv_at3, e00, hlen, eN1, eN2, eT1, eT2, e1, e2, f1, f2, f3, f4, h0, hgm, hgl, List.append_nil, hgt, hgd, opv_s, sty_len, sty_mlen, sty_all, sty_all2, sty_bld, hRm, hRl, hRt, hRd, ec]) | (with_reducible refine g_noent ?_) | (with_reducible refine g_call0 hcall9 ?_) | (with_reducible refine g_calld0 hcall9 ?_) | (with_reducible refine g_call0 hcall10 ?_) | (with_reducible refine g_calld0 hcall10 ?_) | (with_reducible refine g_call0 hcall11 ?_) | (with_reducible refine g_calld0 hcall11 ?_) | (with_reducible refine g_call0 hcall12 ?_) | (with_reducible refine g_calld0 hcall12 ?_) | (refine g_call hcall13 (by simp [PreOK, hget]; done) (by simp [okU, uph]; done) ?_) | (refine g_calld hcall13 (by simp [PreOK, hget]; done) (by simp [okU, uph]; done) ?_) | (refine g_call hcall14 (by simp [PreOK, hget]; done) (by simp [okU, uph]; done) ?_) | (refine g_calld hcall14 (by simp [PreOK, hget]; done) (by simp [okU, uph]; done) ?_) | (refine cdS (fun hg => ?_) (fun hg => ?_) <;> try simp -implicitDefEqProofs only [hg, Bool.not_true, Bool.not_false]) | (refine gdS (fun hg => ?_) (fun hg => ?_) <;> try simp -implicitDefEqProofs only [hg, Bool.not_true, Bool.not_false]) | (refine gddS (fun hg => ?_) (fun hg => ?_) <;> try simp -implicitDefEqProofs only [hg, Bool.not_true, Bool.not_false]) | ((with_reducible apply And.intro); focus (first | trivial | omega | decide | (simp -implicitDefEqProofs only [maxLen]; omega) | (simp [maxLen, sty_len, nd_len, ndL_len, lnL_len, intsL_len, rvs_len, lensS_len]; done) | (simp [maxLen, sty_len, nd_len, ndL_len, lnL_len, intsL_len, rvs_len, lensS_len]; omega))) | fail)
        all_goals exact limit R _ _ hm ht hco rfl rfl
    | false =>
      cases h0 : (o.n == 0) <;> cases c1
      all_goals have hcall15 := hck; have hcall16 := hfm; have hcall17 := hgr; have hcall18 := hcl; have hcall19 := hLs; have hcall20 := hCk; repeat' (first | (simp -implicitDefEqProofs only [go_sem, ↓reduceIte, Nat.reduceEqDiff, Nat.reduceAdd, Nat.reduceSub, Nat.reduceMul, Nat.reduceLeDiff, Nat.reduceLT, reduceCtorEq, Int.reduceToNat, opv_len, opv_at0, opv_at1, opv_at2, opv_at3, e00, hlen, eN1, eN2, eT1, eT2, e1, e2, f1, f2, f3, f4, h0, hgm, hgl, List.append_nil, hgt, hgd, opv_s, sty_len, sty_mlen, sty_all, sty_all2, sty_bld, hRm, hRl, hRt, hRd]) | (with_reducible refine g_noent ?_) | (with_reducible refine g_call0 hcall15 ?_) | (with_reducible refine g_calld0 hcall15 ?_) | (with_reducible refine g_call0 hcall16 ?_) | (with_reducible refine g_calld0 hcall16 ?_) | (with_reducible refine g_call0 hcall17 ?_) | (with_reducible refine g_calld0 hcall17 ?_) | (with_reducible refine g_call0 hcall18 ?_) | (with_reducible refine g_calld0 hcall18 ?_) | (refine g_call hcall19 (by simp [PreOK, hget]; done) (by simp [okU, uph]; done) ?_) | (refine g_calld hcall19 (by simp [PreOK, hget]; done) (by simp [okU, uph]; done) ?_) | (refine g_call hcall20 (by simp [PreOK, hget]; done) (by simp [okU, uph]; done) ?_) | (refine g_calld hcall20 (by simp [PreOK, hget]; done) (by simp [okU, uph]; done) ?_) | (refine cdS (fun hg => ?_) (fun hg => ?_) <;> try simp -implicitDefEqProofs only [hg, Bool.not_true, Bool.not_false]) | (refine gdS (fun hg => ?_) (fun hg => ?_) <;> try simp -implicitDefEqProofs only [hg, Bool.not_true, Bool.not_false]) | (refine gddS (fun hg => ?_) (fun hg => ?_) <;> try simp -implicitDefEqProofs only [hg, Bool.not_true, Bool.not_false]) | ((with_reducible apply And.intro); focus (first | trivial | omega | decide | (simp -implicitDefEqProofs only [maxLen]; omega) | (simp [maxLen, sty_len, nd_len, ndL_len, lnL_len, intsL_len, rvs_len, lensS_len]; done) | (simp [maxLen, sty_len, nd_len, ndL_len, lnL_len, intsL_len, rvs_len, lensS_len]; omega))) | fail)
      all_goals exact noch R _ _ hm ht rfl rfl
end Go.Eng


/- edit: the document's changes: a node moved. -/
namespace Go.Eng
open Go

set_option maxRecDepth 20000 in
set_option maxHeartbeats 16000000 in
theorem ref32_k4 (l : List Nd) (hb : l.length ≤ 1000) (o : Opv) (hc : chk l = 0) (hin : inL l o.n = true) (hq : o.kind = 4) : CallR Go.Proofs.Try.prog 27 [.rv (.sl 49 (ndL l)), .agg (o.cells.map .rv)] [] [] (resA (refA l o)) := by
  refine callR_G k_decoupageref32_Apply [.rv (.sl 49 (ndL l)), .agg (o.cells.map .rv)] _ (by simp) (by simp [BkAll, bk_agg, bkAll_map, bk_rv, bk_fn, Sty.sv, Ln.sv, Nd.sv]) (fun K hK => ?_)
  have hlen := ndL_len l
  have hck := sp_ref07_Check l (by omega)
  have e00 : ((0 : Int) != 0) = false := rfl
  simp -implicitDefEqProofs only [c_decoupageref32_Apply, go_sem, ↓reduceIte, Nat.reduceEqDiff, Nat.reduceAdd, Nat.reduceSub, Nat.reduceMul, Nat.reduceLeDiff, Nat.reduceLT, reduceCtorEq, Int.reduceToNat]
  have bad : ∀ (e : Int), mayF l o = e → e ≠ 0 → ∀ env h, lk env 4 = .rv .nilsl → lk env 5 = .rv (.int .i64 e) → K .ret ⟨env, h⟩ := fun e he hne env h h4 h5 => by
    refine (hK _ _ ?_).2
    unfold refA
    rw [if_pos (by rw [he]; exact hne), he]
    exact ret_t2 h4 h5
  rw [hc] at hck
  have hs := tree_shp (chk_tree hc)
  obtain ⟨b1, b2, eN1, eN2, hinN⟩ := in_bools l o.n
  obtain ⟨c1, c2, eT1, eT2, hinT⟩ := in_bools l o.to
  have e1 : decide (o.kind < 1) = false := decide_eq_false (by omega)
  have e2 : decide (o.kind > 4) = false := decide_eq_false (by omega)
  rw [hin] at hinN
  obtain ⟨rfl, rfl⟩ : b1 = true ∧ b2 = true := by cases b1 <;> cases b2 <;> simp at hinN ⊢
  have hfm := sp_ref06_Formed o.s
  simp -implicitDefEqProofs only [Sty.sv] at hfm
  have hbl := sp_ref08_Below l hs (by omega) o.n o.to
  obtain ⟨n, hn, hnl⟩ := inL_nat hin
  have hgr : CallR Go.Proofs.Try.prog 35 [.rv (.sl 49 (ndL l)), .rv (.int .i64 ((0 : Nat) : Int))] [] [] (.agg ((grow l 0).cells.map .rv)) := sp_Grow32 l hs (by omega) l.length 0 hs.pos (by omega)
  have hgsz := sz_grow hs hs.pos
  rw [end_root hs] at hgsz
  have hgm := tr_mlen (grow l 0)
  have hgl := tr_len (grow l 0)
  have hgt := tr_t50 (grow l 0)
  have hgd : (List.map SV.rv (grow l 0).cells).drop 50 = [] := List.drop_of_length_le (by rw [hgm]; exact Nat.le_refl _)
  have good : ∀ (R : Trx) (env : List (Nat × SV)) (h : List (Option HB)) (j v : Nat), mayF l o = 0 → treeF l o = (R, true) → chk (listT R (-1) 0) = 0 → lk env 4 = .row j v R.sz → hget h j = some (.row 49 v (rvs (ndL (listT R (-1) 0)))) → lk env 5 = .rv (.int .i64 0) → K .ret ⟨env, h⟩ := fun R env h j v hm ht hco h4 hj h5 => by
    refine (hK _ _ ?_).2
    unfold refA
    rw [if_neg (by simpa using hm), ht, if_neg (by simp), if_neg (by simpa using hco)]
    simp -implicitDefEqProofs only [resL, h4, h5]
    exact ⟨trivial, rn_tup.2 ⟨rn_frz (xs := ndL (listT R (-1) 0)) hj rfl (by rw [ndL_len, listT_len]) (ndL_one _), rn_rv.2 rfl, trivial⟩⟩
  have limit : ∀ (R : Trx) (env : List (Nat × SV)) (h : List (Option HB)), mayF l o = 0 → treeF l o = (R, true) → chk (listT R (-1) 0) ≠ 0 → lk env 4 = .rv .nilsl → lk env 5 = .rv (.int .i64 (chk (listT R (-1) 0))) → K .ret ⟨env, h⟩ := fun R env h hm ht hco h4 h5 => by
    refine (hK _ _ ?_).2
    unfold refA
    rw [if_neg (by simpa using hm), ht, if_neg (by simp), if_pos hco]
    exact ret_t2 h4 h5
  have noch : ∀ (R : Trx) (env : List (Nat × SV)) (h : List (Option HB)), mayF l o = 0 → treeF l o = (R, false) → lk env 4 = .rv .nilsl → lk env 5 = .rv (.int .i64 1) → K .ret ⟨env, h⟩ := fun R env h hm ht h4 h5 => by
    refine (hK _ _ ?_).2
    unfold refA
    rw [if_neg (by simpa using hm), ht, if_pos rfl]
    exact ret_t2 h4 h5
  have f1 : (o.kind == 4) = true := by simp [hq]
  have f2 : (o.kind == 2) = false := by simp [hq]
  have f3 : (o.kind == 1) = false := by simp [hq]
  have f4 : (o.kind == 3) = false := by simp [hq]
  cases hto : inL l o.to with
  | false =>
    have hm : mayF l o = 5 := by simp [mayF, hc, hin, hq, hto]
    have bad := bad 5 hm (by decide)
    have h0 : True := trivial
    rw [hto] at hinT
    cases c1 <;> cases c2 <;> simp at hinT
    all_goals have hcall1 := hck; repeat' (first | (simp -implicitDefEqProofs only [go_sem, ↓reduceIte, Nat.reduceEqDiff, Nat.reduceAdd, Nat.reduceSub, Nat.reduceMul, Nat.reduceLeDiff, Nat.reduceLT, reduceCtorEq, Int.reduceToNat, opv_len, opv_at0, opv_at1, opv_at2, opv_at3, e00, hlen, eN1, eN2, eT1, eT2, e1, e2, f1, f2, f3, f4, h0]) | (with_reducible refine g_noent ?_) | (with_reducible refine g_call0 hcall1 ?_) | (with_reducible refine g_calld0 hcall1 ?_) | (refine cdS (fun hg => ?_) (fun hg => ?_) <;> try simp -implicitDefEqProofs only [hg, Bool.not_true, Bool.not_false]) | (refine gdS (fun hg => ?_) (fun hg => ?_) <;> try simp -implicitDefEqProofs only [hg, Bool.not_true, Bool.not_false]) | (refine gddS (fun hg => ?_) (fun hg => ?_) <;> try simp -implicitDefEqProofs only [hg, Bool.not_true, Bool.not_false]) | ((with_reducible apply And.intro); focus (first | trivial | omega | decide | (simp -implicitDefEqProofs only [maxLen]; omega) | (simp [maxLen, sty_len, nd_len, ndL_len, lnL_len, intsL_len, rvs_len, lensS_len]; done) | (simp [maxLen, sty_len, nd_len, ndL_len, lnL_len, intsL_len, rvs_len, lensS_len]; omega))) | fail)
    all_goals exact bad _ _ rfl rfl
  | true =>
    rw [hto] at hinT
    obtain ⟨rfl, rfl⟩ : c1 = true ∧ c2 = true := by cases c1 <;> cases c2 <;> simp at hinT ⊢
    cases h0 : (o.n == 0) with
    | true =>
      have hn0 : o.n = 0 := by simpa using h0
      have hm : mayF l o = 1 := by simp [mayF, hc, hq, hto, hn0, (hn0 ▸ hin : inL l 0 = true)]
      have bad := bad 1 hm (by decide)
      have hcall2 := hck; repeat' (first | (simp -implicitDefEqProofs only [go_sem, ↓reduceIte, Nat.reduceEqDiff, Nat.reduceAdd, Nat.reduceSub, Nat.reduceMul, Nat.reduceLeDiff, Nat.reduceLT, reduceCtorEq, Int.reduceToNat, opv_len, opv_at0, opv_at1, opv_at2, opv_at3, e00, hlen, eN1, eN2, eT1, eT2, e1, e2, f1, f2, f3, f4, h0]) | (with_reducible refine g_noent ?_) | (with_reducible refine g_call0 hcall2 ?_) | (with_reducible refine g_calld0 hcall2 ?_) | (refine cdS (fun hg => ?_) (fun hg => ?_) <;> try simp -implicitDefEqProofs only [hg, Bool.not_true, Bool.not_false]) | (refine gdS (fun hg => ?_) (fun hg => ?_) <;> try simp -implicitDefEqProofs only [hg, Bool.not_true, Bool.not_false]) | (refine gddS (fun hg => ?_) (fun hg => ?_) <;> try simp -implicitDefEqProofs only [hg, Bool.not_true, Bool.not_false]) | ((with_reducible apply And.intro); focus (first | trivial | omega | decide | (simp -implicitDefEqProofs only [maxLen]; omega) | (simp [maxLen, sty_len, nd_len, ndL_len, lnL_len, intsL_len, rvs_len, lensS_len]; done) | (simp [maxLen, sty_len, nd_len, ndL_len, lnL_len, intsL_len, rvs_len, lensS_len]; omega))) | fail)
      exact bad _ _ rfl rfl
    | false =>
      have hn0 : o.n ≠ 0 := by simpa using h0
      cases hbe : belowAt l o.n o.to with
      | true =>
        rw [hbe] at hbl
        have hm : mayF l o = 1 := by simp [mayF, hc, hin, hq, hto, hn0, hbe]
        have bad := bad 1 hm (by decide)
        have hcall3 := hck; have hcall4 := hbl; repeat' (first | (simp -implicitDefEqProofs only [go_sem, ↓reduceIte, Nat.reduceEqDiff, Nat.reduceAdd, Nat.reduceSub, Nat.reduceMul, Nat.reduceLeDiff, Nat.reduceLT, reduceCtorEq, Int.reduceToNat, opv_len, opv_at0, opv_at1, opv_at2, opv_at3, e00, hlen, eN1, eN2, eT1, eT2, e1, e2, f1, f2, f3, f4, h0]) | (with_reducible refine g_noent ?_) | (with_reducible refine g_call0 hcall3 ?_) | (with_reducible refine g_calld0 hcall3 ?_) | (with_reducible refine g_call0 hcall4 ?_) | (with_reducible refine g_calld0 hcall4 ?_) | (refine cdS (fun hg => ?_) (fun hg => ?_) <;> try simp -implicitDefEqProofs only [hg, Bool.not_true, Bool.not_false]) | (refine gdS (fun hg => ?_) (fun hg => ?_) <;> try simp -implicitDefEqProofs only [hg, Bool.not_true, Bool.not_false]) | (refine gddS (fun hg => ?_) (fun hg => ?_) <;> try simp -implicitDefEqProofs only [hg, Bool.not_true, Bool.not_false]) | ((with_reducible apply And.intro); focus (first | trivial | omega | decide | (simp -implicitDefEqProofs only [maxLen]; omega) | (simp [maxLen, sty_len, nd_len, ndL_len, lnL_len, intsL_len, rvs_len, lensS_len]; done) | (simp [maxLen, sty_len, nd_len, ndL_len, lnL_len, intsL_len, rvs_len, lensS_len]; omega))) | fail)
        exact bad _ _ rfl rfl
      | false =>
        rw [hbe] at hbl
        have hm : mayF l o = 0 := by simp [mayF, hc, hin, hq, hto, hn0, hbe]
        have ht : treeF l o = putT (takT (grow l 0) o.n) o.to o.at' (grow l o.n.toNat) := by unfold treeF; rw [if_neg (by omega), if_neg (by omega), if_neg (by omega)]
        have hnt : o.n.toNat = n := by rw [hn]; simp
        rw [hnt] at ht
        have hgr2 : CallR Go.Proofs.Try.prog 35 [.rv (.sl 49 (ndL l)), .rv (.int .i64 o.n)] [] [] (.agg ((grow l n).cells.map .rv)) := by
          rw [hn]
          exact sp_Grow32 l hs (by omega) l.length n hnl (Nat.sub_le _ _)
        have hxz := sz_grow hs hnl
        have hxe := endR_le l n
        have htk := sp_take32 1073741823 (grow l 0) (by omega) (Nat.le_refl _) o.n
        have htz : (takT (grow l 0) o.n).sz ≤ 1000 := by have := sz_tak (grow l 0) o.n; omega
        generalize takT (grow l 0) o.n = u at *
        generalize grow l n = x at *
        have hcl := sp_put32 x 1073741823 u (by omega) (Nat.le_refl _) o.to o.at'
        have hRz : (putT u o.to o.at' x).1.sz ≤ 1073741823 := by
          have h1 := sz_put u o.to o.at' x
          have h2 : u.sz * (x.sz + 1) ≤ 1000 * 1001 := Nat.mul_le_mul htz (by omega)
          omega
        generalize putT u o.to o.at' x = rb at ht hcl hRz
        obtain ⟨R, b⟩ := rb
        try simp only at hcl
        try simp only at hRz
        have hum := tr_mlen u
        have hul := tr_len u
        have hut := tr_t50 u
        have hud : (List.map SV.rv u.cells).drop 50 = [] := List.drop_of_length_le (by rw [hum]; exact Nat.le_refl _)
        have hxm := tr_mlen x
        have hxl := tr_len x
        have hxt := tr_t50 x
        have hxd : (List.map SV.rv x.cells).drop 50 = [] := List.drop_of_length_le (by rw [hxm]; exact Nat.le_refl _)
        have hRm := tr_mlen R
        have hRl := tr_len R
        have hRt := tr_t50 R
        have hRd : (List.map SV.rv R.cells).drop 50 = [] := List.drop_of_length_le (by rw [hRm]; exact Nat.le_refl _)
        have hLs := sp_List32N R hRz (-1) 3
        have hll := listT_len R (-1) 0
        have hCk := sp_Check07R (listT R (-1) 0) (by omega) 3 (R.sz - 1)
        rw [hll] at hCk
        cases b with
        | true =>
          by_cases hco : chk (listT R (-1) 0) = 0
          · rw [hco] at hCk
            skip
            all_goals have hcall5 := hck; have hcall6 := hfm; have hcall7 := hgr; have hcall8 := hbl; have hcall9 := hgr2; have hcall10 := htk; have hcall11 := hcl; have hcall12 := hLs; have hcall13 := hCk; repeat' (first | (simp -implicitDefEqProofs only [go_sem, ↓reduceIte, Nat.reduceEqDiff, Nat.reduceAdd, Nat.reduceSub, Nat.reduceMul, Nat.reduceLeDiff, Nat.reduceLT, reduceCtorEq, Int.reduceToNat, opv_len, opv_at0, opv_at1, opv_at2, opv_at3, e00, hlen, eN1, eN2, eT1, eT2, e1, e2, f1, f2, f3, f4, h0, hgm, hgl, List.append_nil, hgt, hgd, opv_s, sty_len, sty_mlen, sty_all, sty_all2, sty_bld, hum, hul, hut, hud, hxm, hxl, hxt, hxd, hRm, hRl, hRt, hRd]) | (with_reducible refine g_noent ?_) | (with_reducible refine g_call0 hcall5 ?_) | (with_reducible refine g_calld0 hcall5 ?_) | (with_reducible refine g_call0 hcall6 ?_) | (with_reducible refine g_calld0 hcall6 ?_) | (with_reducible refine g_call0 hcall7 ?_) | (with_reducible refine g_calld0 hcall7 ?_) | (with_reducible refine g_call0 hcall8 ?_) | (with_reducible refine g_calld0 hcall8 ?_) | (with_reducible refine g_call0 hcall9 ?_) | (with_reducible refine g_calld0 hcall9 ?_) | (with_reducible refine g_call0 hcall10 ?_) | (with_reducible refine g_calld0 hcall10 ?_) | (with_reducible refine g_call0 hcall11 ?_) | (with_reducible refine g_calld0 hcall11 ?_) | (refine g_call hcall12 (by simp [PreOK, hget]; done) (by simp [okU, uph]; done) ?_) | (refine g_calld hcall12 (by simp [PreOK, hget]; done) (by simp [okU, uph]; done) ?_) | (refine g_call hcall13 (by simp [PreOK, hget]; done) (by simp [okU, uph]; done) ?_) | (refine g_calld hcall13 (by simp [PreOK, hget]; done) (by simp [okU, uph]; done) ?_) | (refine cdS (fun hg => ?_) (fun hg => ?_) <;> try simp -implicitDefEqProofs only [hg, Bool.not_true, Bool.not_false]) | (refine gdS (fun hg => ?_) (fun hg => ?_) <;> try simp -implicitDefEqProofs only [hg, Bool.not_true, Bool.not_false]) | (refine gddS (fun hg => ?_) (fun hg => ?_) <;> try simp -implicitDefEqProofs only [hg, Bool.not_true, Bool.not_false]) | ((with_reducible apply And.intro); focus (first | trivial | omega | decide | (simp -implicitDefEqProofs only [maxLen]; omega) | (simp [maxLen, sty_len, nd_len, ndL_len, lnL_len, intsL_len, rvs_len, lensS_len]; done) | (simp [maxLen, sty_len, nd_len, ndL_len, lnL_len, intsL_len, rvs_len, lensS_len]; omega))) | fail)
            all_goals exact good R _ _ 3 _ hm ht hco rfl rfl rfl
          · have ec : (chk (listT R (-1) 0) != 0) = true := by simpa using hco
            skip
            all_goals have hcall14 := hck; have hcall15 := hfm; have hcall16 := hgr; have hcall17 := hbl; have hcall18 := hgr2; have hcall19 := htk; have hcall20 := hcl; have hcall21 := hLs; have hcall22 := hCk; repeat' (first | (simp -implicitDefEqProofs only [go_sem, ↓reduceIte, Nat.reduceEqDiff, Nat.reduceAdd, Nat.reduceSub, Nat.reduceMul, Nat.reduceLeDiff, Nat.reduceLT, reduceCtorEq, Int.reduceToNat, opv_len, opv_at0, opv_at1, opv_at2, opv_at3, e00, hlen, eN1, eN2, eT1, eT2, e1, e2, f1, f2, f3, f4, h0, hgm, hgl, List.append_nil, hgt, hgd, opv_s, sty_len, sty_mlen, sty_all, sty_all2, sty_bld, hum, hul, hut, hud, hxm, hxl, hxt, hxd, hRm, hRl, hRt, hRd, ec]) | (with_reducible refine g_noent ?_) | (with_reducible refine g_call0 hcall14 ?_) | (with_reducible refine g_calld0 hcall14 ?_) | (with_reducible refine g_call0 hcall15 ?_) | (with_reducible refine g_calld0 hcall15 ?_) | (with_reducible refine g_call0 hcall16 ?_) | (with_reducible refine g_calld0 hcall16 ?_) | (with_reducible refine g_call0 hcall17 ?_) | (with_reducible refine g_calld0 hcall17 ?_) | (with_reducible refine g_call0 hcall18 ?_) | (with_reducible refine g_calld0 hcall18 ?_) | (with_reducible refine g_call0 hcall19 ?_) | (with_reducible refine g_calld0 hcall19 ?_) | (with_reducible refine g_call0 hcall20 ?_) | (with_reducible refine g_calld0 hcall20 ?_) | (refine g_call hcall21 (by simp [PreOK, hget]; done) (by simp [okU, uph]; done) ?_) | (refine g_calld hcall21 (by simp [PreOK, hget]; done) (by simp [okU, uph]; done) ?_) | (refine g_call hcall22 (by simp [PreOK, hget]; done) (by simp [okU, uph]; done) ?_) | (refine g_calld hcall22 (by simp [PreOK, hget]; done) (by simp [okU, uph]; done) ?_) | (refine cdS (fun hg => ?_) (fun hg => ?_) <;> try simp -implicitDefEqProofs only [hg, Bool.not_true, Bool.not_false]) | (refine gdS (fun hg => ?_) (fun hg => ?_) <;> try simp -implicitDefEqProofs only [hg, Bool.not_true, Bool.not_false]) | (refine gddS (fun hg => ?_) (fun hg => ?_) <;> try simp -implicitDefEqProofs only [hg, Bool.not_true, Bool.not_false]) | ((with_reducible apply And.intro); focus (first | trivial | omega | decide | (simp -implicitDefEqProofs only [maxLen]; omega) | (simp [maxLen, sty_len, nd_len, ndL_len, lnL_len, intsL_len, rvs_len, lensS_len]; done) | (simp [maxLen, sty_len, nd_len, ndL_len, lnL_len, intsL_len, rvs_len, lensS_len]; omega))) | fail)
            all_goals exact limit R _ _ hm ht hco rfl rfl
        | false =>
          skip
          all_goals have hcall23 := hck; have hcall24 := hfm; have hcall25 := hgr; have hcall26 := hbl; have hcall27 := hgr2; have hcall28 := htk; have hcall29 := hcl; have hcall30 := hLs; have hcall31 := hCk; repeat' (first | (simp -implicitDefEqProofs only [go_sem, ↓reduceIte, Nat.reduceEqDiff, Nat.reduceAdd, Nat.reduceSub, Nat.reduceMul, Nat.reduceLeDiff, Nat.reduceLT, reduceCtorEq, Int.reduceToNat, opv_len, opv_at0, opv_at1, opv_at2, opv_at3, e00, hlen, eN1, eN2, eT1, eT2, e1, e2, f1, f2, f3, f4, h0, hgm, hgl, List.append_nil, hgt, hgd, opv_s, sty_len, sty_mlen, sty_all, sty_all2, sty_bld, hum, hul, hut, hud, hxm, hxl, hxt, hxd, hRm, hRl, hRt, hRd]) | (with_reducible refine g_noent ?_) | (with_reducible refine g_call0 hcall23 ?_) | (with_reducible refine g_calld0 hcall23 ?_) | (with_reducible refine g_call0 hcall24 ?_) | (with_reducible refine g_calld0 hcall24 ?_) | (with_reducible refine g_call0 hcall25 ?_) | (with_reducible refine g_calld0 hcall25 ?_) | (with_reducible refine g_call0 hcall26 ?_) | (with_reducible refine g_calld0 hcall26 ?_) | (with_reducible refine g_call0 hcall27 ?_) | (with_reducible refine g_calld0 hcall27 ?_) | (with_reducible refine g_call0 hcall28 ?_) | (with_reducible refine g_calld0 hcall28 ?_) | (with_reducible refine g_call0 hcall29 ?_) | (with_reducible refine g_calld0 hcall29 ?_) | (refine g_call hcall30 (by simp [PreOK, hget]; done) (by simp [okU, uph]; done) ?_) | (refine g_calld hcall30 (by simp [PreOK, hget]; done) (by simp [okU, uph]; done) ?_) | (refine g_call hcall31 (by simp [PreOK, hget]; done) (by simp [okU, uph]; done) ?_) | (refine g_calld hcall31 (by simp [PreOK, hget]; done) (by simp [okU, uph]; done) ?_) | (refine cdS (fun hg => ?_) (fun hg => ?_) <;> try simp -implicitDefEqProofs only [hg, Bool.not_true, Bool.not_false]) | (refine gdS (fun hg => ?_) (fun hg => ?_) <;> try simp -implicitDefEqProofs only [hg, Bool.not_true, Bool.not_false]) | (refine gddS (fun hg => ?_) (fun hg => ?_) <;> try simp -implicitDefEqProofs only [hg, Bool.not_true, Bool.not_false]) | ((with_reducible apply And.intro); focus (first | trivial | omega | decide | (simp -implicitDefEqProofs only [maxLen]; omega) | (simp [maxLen, sty_len, nd_len, ndL_len, lnL_len, intsL_len, rvs_len, lensS_len]; done) | (simp [maxLen, sty_len, nd_len, ndL_len, lnL_len, intsL_len, rvs_len, lensS_len]; omega))) | fail)
          all_goals exact noch R _ _ hm ht rfl rfl
end Go.Eng


/- edit: a tree behind an op. -/
namespace Go.Eng
open Go
/- decoupage/decoupagelaw32.EditApplies -/
def c_decoupagelaw32_EditApplies : AC := (.seq (.reg [⟨(some 3), .box, [(.t 1)], none⟩, ⟨(some 4), .mv, [(.c (.rv (.bool false)))], none⟩]) (.seq (.seq (.reg [⟨(some 10), (.call 25), [], none⟩, ⟨(some 11), .not, [(.t 10)], none⟩, ⟨(some 12), .mv, [(.t 11)], none⟩, ⟨(some 13), .mv, [(.t 0)], (some (12, false))⟩, ⟨(some 14), .len, [(.t 13)], (some (12, false))⟩, ⟨(some 15), (.ibin .gtr), [(.t 14), (.c (.rv (.int .i64 40)))], (some (12, false))⟩, ⟨(some 16), .pick, [(.t 12), (.c (.rv (.bool true))), (.t 15)], none⟩]) (.cond (.t 16) (.seq (.reg [⟨(some 17), (.call 25), [], none⟩, ⟨(some 4), .mv, [(.t 17)], none⟩]) .ret) .skip)) (.seq (.reg [⟨(some 18), (.bsl 49), [], none⟩, ⟨(some 19), .mv, [(.t 0)], none⟩, ⟨(some 20), (.app 49 384), [(.t 18), (.t 19)], none⟩, ⟨(some 5), .mv, [(.t 20)], none⟩]) (.seq (.reg [⟨(some 22), .mv, [(.t 0)], none⟩, ⟨(some 23), (.load 52 true), [(.t 3)], none⟩, ⟨(some 24), (.call 26), [(.t 22), (.t 23)], none⟩, ⟨(some 21), .mv, [(.t 24)], none⟩, ⟨(some 25), (.ext 0), [(.t 21)], none⟩, ⟨(some 26), (.ext 1), [(.t 21)], none⟩, ⟨(some 6), .mv, [(.t 25)], none⟩, ⟨(some 7), .mv, [(.t 26)], none⟩]) (.seq (.reg [⟨(some 28), .mv, [(.t 0)], none⟩, ⟨(some 29), (.load 52 true), [(.t 3)], none⟩, ⟨(some 30), (.call 27), [(.t 28), (.t 29)], none⟩, ⟨(some 27), .mv, [(.t 30)], none⟩, ⟨(some 31), (.ext 0), [(.t 27)], none⟩, ⟨(some 32), (.ext 1), [(.t 27)], none⟩, ⟨(some 8), .mv, [(.t 31)], none⟩, ⟨(some 9), .mv, [(.t 32)], none⟩]) (.seq (.reg [⟨(some 33), .mv, [(.t 7)], none⟩, ⟨(some 34), .mv, [(.t 9)], none⟩, ⟨(some 35), (.ibin .eql), [(.t 33), (.t 34)], none⟩, ⟨(some 36), .mv, [(.t 35)], none⟩, ⟨(some 37), .mv, [(.t 6)], (some (36, true))⟩, ⟨(some 38), .mv, [(.t 8)], (some (36, true))⟩, ⟨(some 39), (.call 28), [(.t 37), (.t 38)], (some (36, true))⟩, ⟨(some 40), .pick, [(.t 36), (.t 39), (.c (.rv (.bool false)))], none⟩, ⟨(some 41), .mv, [(.t 40)], none⟩, ⟨(some 42), .mv, [(.t 0)], (some (41, true))⟩, ⟨(some 43), .mv, [(.t 5)], (some (41, true))⟩, ⟨(some 44), (.call 28), [(.t 42), (.t 43)], (some (41, true))⟩, ⟨(some 45), .pick, [(.t 41), (.t 44), (.c (.rv (.bool false)))], none⟩, ⟨(some 4), .mv, [(.t 45)], none⟩]) .ret))))))
theorem k_decoupagelaw32_EditApplies : FnOK Go.Proofs.Try.prog 6 46 c_decoupagelaw32_EditApplies [(.t 4)] := fnOK_of (by kernel_rfl)

theorem sp_ref32_Apply (l : List Nd) (hb : l.length ≤ 1000) (o : Opv) : CallR Go.Proofs.Try.prog 27 [.rv (.sl 49 (ndL l)), .agg (o.cells.map .rv)] [] [] (resA (refA l o)) := by
  by_cases hc : chk l = 0
  · by_cases hk1 : o.kind < 1
    · exact ref32_bar l hb o (.inr (.inl hk1))
    · by_cases hk4 : o.kind > 4
      · exact ref32_bar l hb o (.inr (.inr (.inl hk4)))
      · cases hin : inL l o.n with
        | false => exact ref32_bar l hb o (.inr (.inr (.inr hin)))
        | true =>
          by_cases h1 : o.kind = 1
          · exact ref32_k1 l hb o hc hin h1
          · by_cases h2 : o.kind = 2
            · exact ref32_k2 l hb o hc hin h2
            · by_cases h3 : o.kind = 3
              · exact ref32_k3 l hb o hc hin h3
              · exact ref32_k4 l hb o hc hin (by omega)
  · exact ref32_bar l hb o (.inl hc)
theorem sp_Same07O (a : List Nd) (hb : a.length ≤ 8589934592) (j v : Nat) : CallR Go.Proofs.Try.prog 28 [.rv (.sl 49 (ndL a)), .row j v a.length] [(j, .row 49 v (rvs (ndL a)))] [] (.rv (.bool true)) := by
  refine callR_borrowN (args0 := [.rv (.sl 49 (ndL a)), .rv (.sl 49 (ndL a))]) (sp_Same07 a hb) rfl (fun hp' hpre k y r hy hr => ?_) (.rv _ (.bool _)) (by simp)
  match k, hy, hr with
  | 0, hy, hr => cases hy; cases hr; exact rn_rv.2 rfl
  | 1, hy, hr => cases hy; cases hr; exact .fz _ _ (fz_nd (hpre _ (.head _)))
  | k + 2, hy, hr => simp at hy

set_option maxRecDepth 20000 in
set_option maxHeartbeats 4000000 in
theorem sp_EditApplies (l : List Nd) (o : Opv) : CallR Go.Proofs.Try.prog 6 [.rv (.sl 49 (ndL l)), .agg (o.cells.map .rv)] [] [] (.rv (.bool true)) := by
  refine callR_G k_decoupagelaw32_EditApplies [.rv (.sl 49 (ndL l)), .agg (o.cells.map .rv)] _ (by simp) (by simp [BkAll, bk_agg, bkAll_map, bk_rv, bk_fn, Sty.sv, Ln.sv, Nd.sv]) (fun K hK => ?_)
  have hlen := ndL_len l
  simp -implicitDefEqProofs only [c_decoupagelaw32_EditApplies, go_sem, ↓reduceIte, Nat.reduceEqDiff, Nat.reduceAdd, Nat.reduceSub, Nat.reduceMul, Nat.reduceLeDiff, Nat.reduceLT, reduceCtorEq, Int.reduceToNat]
  by_cases hl : l.length > 40
  · have e1 : decide ((l.length : Int) > 40) = true := decide_eq_true (by omega)
    have hcall1 := sp_awake32; repeat' (first | (simp -implicitDefEqProofs only [go_sem, ↓reduceIte, Nat.reduceEqDiff, Nat.reduceAdd, Nat.reduceSub, Nat.reduceMul, Nat.reduceLeDiff, Nat.reduceLT, reduceCtorEq, Int.reduceToNat, opv_len, hlen, e1]) | (with_reducible refine g_noent ?_) | (with_reducible refine g_call0 hcall1 ?_) | (with_reducible refine g_calld0 hcall1 ?_) | (refine cdS (fun hg => ?_) (fun hg => ?_) <;> try simp -implicitDefEqProofs only [hg, Bool.not_true, Bool.not_false]) | (refine gdS (fun hg => ?_) (fun hg => ?_) <;> try simp -implicitDefEqProofs only [hg, Bool.not_true, Bool.not_false]) | (refine gddS (fun hg => ?_) (fun hg => ?_) <;> try simp -implicitDefEqProofs only [hg, Bool.not_true, Bool.not_false]) | ((with_reducible apply And.intro); focus (first | trivial | omega | decide | (simp -implicitDefEqProofs only [maxLen]; omega) | (simp [maxLen, sty_len, nd_len, ndL_len, lnL_len, intsL_len, rvs_len, lensS_len]; done) | (simp [maxLen, sty_len, nd_len, ndL_len, lnL_len, intsL_len, rvs_len, lensS_len]; omega))) | fail)
    exact (hK _ _ (ret_t rfl)).2
  · have e1 : decide ((l.length : Int) > 40) = false := decide_eq_false (by omega)
    have hap := sp_Apply l (by omega) o
    have hrf := sp_ref32_Apply l (by omega) o
    rw [ref_apply, resA_eq] at hrf
    rw [resA_eq] at hap
    have hsm := sp_Same07R (applyF l o).1 (fun out h => by have := apply_len h; omega)
    have hso := sp_Same07O l (by omega) 1 1
    have htk : (ndL l).take l.length = ndL l := List.take_of_length_le (by omega)
    generalize (applyF l o).2 = e at *
    generalize resL1 (applyF l o).1 = r at *
    have hcall2 := sp_awake32; have hcall3 := hap; have hcall4 := hrf; have hcall5 := hsm; have hcall6 := hso; repeat' (first | (simp -implicitDefEqProofs only [go_sem, ↓reduceIte, Nat.reduceEqDiff, Nat.reduceAdd, Nat.reduceSub, Nat.reduceMul, Nat.reduceLeDiff, Nat.reduceLT, reduceCtorEq, Int.reduceToNat, opv_len, hlen, e1, htk, rvs_fold, opv_all, opv_all0, beq_self_eq_true]) | (with_reducible refine g_noent ?_) | (with_reducible refine g_call0 hcall2 ?_) | (with_reducible refine g_calld0 hcall2 ?_) | (with_reducible refine g_call0 hcall3 ?_) | (with_reducible refine g_calld0 hcall3 ?_) | (with_reducible refine g_call0 hcall4 ?_) | (with_reducible refine g_calld0 hcall4 ?_) | (with_reducible refine g_call0 hcall5 ?_) | (with_reducible refine g_calld0 hcall5 ?_) | (refine g_call hcall6 (by simp [PreOK, hget]; done) (by simp [okU, uph]; done) ?_) | (refine g_calld hcall6 (by simp [PreOK, hget]; done) (by simp [okU, uph]; done) ?_) | (refine cdS (fun hg => ?_) (fun hg => ?_) <;> try simp -implicitDefEqProofs only [hg, Bool.not_true, Bool.not_false]) | (refine gdS (fun hg => ?_) (fun hg => ?_) <;> try simp -implicitDefEqProofs only [hg, Bool.not_true, Bool.not_false]) | (refine gddS (fun hg => ?_) (fun hg => ?_) <;> try simp -implicitDefEqProofs only [hg, Bool.not_true, Bool.not_false]) | ((with_reducible apply And.intro); focus (first | trivial | omega | decide | (simp -implicitDefEqProofs only [maxLen]; omega) | (simp [maxLen, sty_len, nd_len, ndL_len, lnL_len, intsL_len, rvs_len, lensS_len]; done) | (simp [maxLen, sty_len, nd_len, ndL_len, lnL_len, intsL_len, rvs_len, lensS_len]; omega))) | fail)
    exact (hK _ _ (ret_t rfl)).2
end Go.Eng


/- What comes in, as nodes and numbers. -/
namespace Go.Eng
open Go Go.Proofs

theorem tyInt {n : Nat} {rs : List RV} (h : TyC Go.Proofs.Try.prog (n + 1) 3 rs) : ∃ i, rs = [.int .i64 i] := by
  obtain ⟨i, h, _⟩ := tyC_int Try.underlying3 h
  exact ⟨i, h⟩
theorem tyInt64 {n : Nat} {rs : List RV} (h : TyC Go.Proofs.Try.prog (n + 1) 2 rs) : ∃ i, rs = [.int .i64 i] := by
  obtain ⟨i, h, _⟩ := tyC_int Try.underlying2 h
  exact ⟨i, h⟩
theorem tyBool {n : Nat} {rs : List RV} (h : TyC Go.Proofs.Try.prog (n + 1) 4 rs) : ∃ b, rs = [.bool b] := by
  exact tyC_bool Try.underlying4 h
theorem tyLen {n : Nat} {rs : List RV} (h : TyC Go.Proofs.Try.prog (n + 2) 39 rs) : ∃ x : Ln, rs = x.cells := by
  have h := tyC_struct Try.underlying39 h
  obtain ⟨_, _, rfl, h1, _, _, rfl, h2, rfl⟩ := h
  obtain ⟨i, rfl⟩ := tyInt h1
  obtain ⟨j, rfl⟩ := tyInt64 h2
  exact ⟨⟨i, j⟩, rfl⟩
theorem list4 {α : Type} {xs : List α} (h : xs.length = 4) : ∃ a b c d, xs = [a, b, c, d] := by
  match xs, h with
  | [a, b, c, d], _ => exact ⟨a, b, c, d, rfl⟩
theorem tyQ {n : Nat} {rs : List RV} (h : TyC Go.Proofs.Try.prog (n + 3) 40 rs) : ∃ q : Q4 Ln, rs = q.lns := by
  obtain ⟨xs, rfl, hl, hx⟩ := tyC_array Try.underlying40 h
  obtain ⟨a, b, c, d, rfl⟩ := list4 hl
  obtain ⟨a, rfl⟩ := tyLen (hx a (by simp))
  obtain ⟨b, rfl⟩ := tyLen (hx b (by simp))
  obtain ⟨c, rfl⟩ := tyLen (hx c (by simp))
  obtain ⟨d, rfl⟩ := tyLen (hx d (by simp))
  exact ⟨⟨a, b, c, d⟩, rfl⟩
theorem tyB {n : Nat} {rs : List RV} (h : TyC Go.Proofs.Try.prog (n + 2) 41 rs) : ∃ q : Q4 Int, rs = q.ints := by
  obtain ⟨xs, rfl, hl, hx⟩ := tyC_array Try.underlying41 h
  obtain ⟨a, b, c, d, rfl⟩ := list4 hl
  obtain ⟨a, rfl⟩ := tyInt64 (hx a (by simp))
  obtain ⟨b, rfl⟩ := tyInt64 (hx b (by simp))
  obtain ⟨c, rfl⟩ := tyInt64 (hx c (by simp))
  obtain ⟨d, rfl⟩ := tyInt64 (hx d (by simp))
  exact ⟨⟨a, b, c, d⟩, rfl⟩
theorem tySty {n : Nat} {rs : List RV} (h : TyC Go.Proofs.Try.prog (n + 4) 43 rs) : ∃ s : Sty, rs = s.cells := by
  have h := tyC_struct Try.underlying43 h
  obtain ⟨_, _, rfl, h1, _, _, rfl, h2, _, _, rfl, h3, _, _, rfl, h4, _, _, rfl, h5, _, _, rfl, h6, _, _, rfl, h7, _, _, rfl, h8, _, _, rfl, h9, _, _, rfl, h10, _, _, rfl, h11, _, _, rfl, h12, _, _, rfl, h13, _, _, rfl, h14, _, _, rfl, h15, _, _, rfl, h16, _, _, rfl, h17, _, _, rfl, h18, rfl⟩ := h
  obtain ⟨b1, rfl⟩ := tyBool h1
  obtain ⟨i2, rfl⟩ := tyInt h2
  obtain ⟨q3, rfl⟩ := tyQ h3
  obtain ⟨x4, rfl⟩ := tyLen h4
  obtain ⟨x5, rfl⟩ := tyLen h5
  obtain ⟨x6, rfl⟩ := tyLen h6
  obtain ⟨x7, rfl⟩ := tyLen h7
  obtain ⟨x8, rfl⟩ := tyLen h8
  obtain ⟨x9, rfl⟩ := tyLen h9
  obtain ⟨q10, rfl⟩ := tyQ h10
  obtain ⟨q11, rfl⟩ := tyQ h11
  obtain ⟨q12, rfl⟩ := tyB h12
  obtain ⟨b13, rfl⟩ := tyBool h13
  obtain ⟨b14, rfl⟩ := tyBool h14
  obtain ⟨i15, rfl⟩ := tyInt64 h15
  obtain ⟨b16, rfl⟩ := tyBool h16
  obtain ⟨i17, rfl⟩ := tyInt64 h17
  obtain ⟨i18, rfl⟩ := tyInt64 h18
  exact ⟨⟨b1, i2, q3, x4, x5, x6, x7, x8, x9, q10, q11, q12, b13, b14, i15, b16, i17, i18⟩, rfl⟩
theorem tyNode {n : Nat} {rs : List RV} (h : TyC Go.Proofs.Try.prog (n + 5) 45 rs) : ∃ x : Nd, rs = x.cells := by
  have h := tyC_struct Try.underlying45 h
  obtain ⟨_, _, rfl, h1, _, _, rfl, h2, rfl⟩ := h
  obtain ⟨s, rfl⟩ := tySty h1
  obtain ⟨i, rfl⟩ := tyInt h2
  exact ⟨⟨s, i⟩, rfl⟩
theorem list_of {α : Type} {f : α → List RV} : ∀ {xs : List (List RV)}, (∀ x ∈ xs, ∃ a, x = f a) → ∃ l : List α, xs = l.map f
  | [], _ => ⟨[], rfl⟩
  | x :: xs, h => by
    obtain ⟨a, rfl⟩ := h x (by simp)
    obtain ⟨l, rfl⟩ := list_of (xs := xs) fun y hy => h y (by simp [hy])
    exact ⟨a :: l, rfl⟩

theorem cells49 : Program.cellsOf Go.Proofs.Try.prog 45 = 49 := by kernel_rfl
theorem aggN : aggT Go.Proofs.Try.prog 22 = some false := by kernel_rfl
theorem openNodes {rs : List RV} (h : TyC Go.Proofs.Try.prog 6 22 rs) : ∃ l : List Nd, argS Go.Proofs.Try.prog 22 rs = .rv (.sl 49 (ndL l)) := by
  obtain ⟨xs, rfl, _, hx⟩ := tyC_slice Try.underlying22 h
  obtain ⟨l, rfl⟩ := list_of fun x hx' => tyNode (hx x hx')
  refine ⟨l, ?_⟩
  rw [argS_one aggN, cells49]; rfl
end Go.Eng


/- What comes in, as changes. -/
namespace Go.Eng
open Go Go.Proofs
theorem aggOp : aggT Go.Proofs.Try.prog 54 = some true := by kernel_rfl
theorem openOp {rs : List RV} (h : TyC Go.Proofs.Try.prog 5 54 rs) : ∃ o : Opv, argS Go.Proofs.Try.prog 54 rs = .agg (o.cells.map .rv) := by
  have h := tyC_struct Try.underlying54 h
  obtain ⟨_, _, rfl, h1, _, _, rfl, h2, _, _, rfl, h3, _, _, rfl, h4, _, _, rfl, h5, rfl⟩ := h
  obtain ⟨k, rfl⟩ := tyInt h1
  obtain ⟨n, rfl⟩ := tyInt h2
  obtain ⟨t, rfl⟩ := tyInt h3
  obtain ⟨a, rfl⟩ := tyInt h4
  obtain ⟨s, rfl⟩ := tySty h5
  exact ⟨⟨k, n, t, a, s⟩, argS_agg aggOp⟩
end Go.Eng
