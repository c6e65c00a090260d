/- Part 4 of the proof: K7, K8, K9, K10, K11, K12, U1, P1, P2, P3, K9R. -/
import Derived.Test.YteenlielghgkdaaPreferWider3
set_option linter.unusedSimpArgs false
set_option linter.unusedVariables false
/- trees: the document's functions. -/
namespace Go.Eng
open Go
/- decoupage/decoupageref07.Above -/
def c_decoupageref07_Above : AC := (.seq (.reg [⟨(some 6), .mv, [(.c (.rv (.bool false)))], none⟩]) (.seq (.seq (.block 0 (.loop (.seq (.seq (.reg [⟨(some 7), .mv, [(.t 2)], none⟩, ⟨(some 8), (.ibin .geq), [(.t 7), (.c (.rv (.int .i64 0)))], none⟩]) (.cond (.t 8) .skip (.exit 0))) (.seq (.block 1 (.seq (.seq (.reg [⟨(some 9), .mv, [(.t 2)], none⟩, ⟨(some 10), .mv, [(.t 1)], none⟩, ⟨(some 11), (.ibin .eql), [(.t 9), (.t 10)], none⟩]) (.cond (.t 11) (.seq (.reg [⟨(some 6), .mv, [(.c (.rv (.bool true)))], none⟩]) .ret) .skip)) (.reg [⟨(some 12), .mv, [(.t 0)], none⟩, ⟨(some 13), .mv, [(.t 2)], none⟩, ⟨(some 14), (.ixs 49), [(.t 12), (.t 13)], none⟩, ⟨(some 15), (.fld 48), [(.t 14)], none⟩, ⟨(some 16), (.load 1 false), [(.t 15)], none⟩, ⟨(some 2), .mv, [(.t 16)], none⟩]))) .ent)))) .ent) (.seq (.reg [⟨(some 6), .mv, [(.c (.rv (.bool false)))], none⟩]) .ret)))
theorem k_decoupageref07_Above : FnOK Go.Proofs.Try.prog 64 17 c_decoupageref07_Above [(.t 6)] := fnOK_of (by kernel_rfl)

/- decoupage/decoupageref07.Shaped -/
def c_decoupageref07_Shaped : AC := (.seq (.reg [⟨(some 2), .mv, [(.c (.rv (.bool false)))], none⟩]) (.seq (.seq (.reg [⟨(some 5), .mv, [(.t 0)], none⟩, ⟨(some 6), .len, [(.t 5)], none⟩, ⟨(some 7), (.ibin .eql), [(.t 6), (.c (.rv (.int .i64 0)))], none⟩, ⟨(some 8), .mv, [(.t 7)], none⟩, ⟨(some 9), .mv, [(.t 0)], (some (8, false))⟩, ⟨(some 10), (.ixs 49), [(.t 9), (.c (.rv (.int .i64 0)))], (some (8, false))⟩, ⟨(some 11), (.fld 48), [(.t 10)], (some (8, false))⟩, ⟨(some 12), (.load 1 false), [(.t 11)], (some (8, false))⟩, ⟨(some 13), (.ibin .neq), [(.t 12), (.c (.rv (.int .i64 (-1))))], (some (8, false))⟩, ⟨(some 14), .pick, [(.t 8), (.c (.rv (.bool true))), (.t 13)], none⟩]) (.cond (.t 14) (.seq (.reg [⟨(some 2), .mv, [(.c (.rv (.bool false)))], none⟩]) .ret) .skip)) (.seq (.seq (.reg [⟨(some 3), .mv, [(.c (.rv (.int .i64 1)))], none⟩]) (.seq (.block 0 (.loop (.seq (.seq (.reg [⟨(some 15), .mv, [(.t 3)], none⟩, ⟨(some 16), .mv, [(.t 0)], none⟩, ⟨(some 17), .len, [(.t 16)], none⟩, ⟨(some 18), (.ibin .lss), [(.t 15), (.t 17)], none⟩]) (.cond (.t 18) .skip (.exit 0))) (.seq (.seq (.block 1 (.seq (.reg [⟨(some 21), .mv, [(.t 0)], none⟩, ⟨(some 22), .mv, [(.t 3)], none⟩, ⟨(some 23), (.ixs 49), [(.t 21), (.t 22)], none⟩, ⟨(some 24), (.fld 48), [(.t 23)], none⟩, ⟨(some 25), (.load 1 false), [(.t 24)], none⟩, ⟨(some 4), .mv, [(.t 25)], none⟩]) (.seq (.reg [⟨(some 26), .mv, [(.t 4)], none⟩, ⟨(some 27), (.ibin .lss), [(.t 26), (.c (.rv (.int .i64 0)))], none⟩, ⟨(some 28), .mv, [(.t 27)], none⟩, ⟨(some 29), .mv, [(.t 4)], (some (28, false))⟩, ⟨(some 30), .mv, [(.t 3)], (some (28, false))⟩, ⟨(some 31), (.ibin .geq), [(.t 29), (.t 30)], (some (28, false))⟩, ⟨(some 32), .pick, [(.t 28), (.c (.rv (.bool true))), (.t 31)], none⟩, ⟨(some 33), .mv, [(.t 32)], none⟩, ⟨(some 34), .mv, [(.t 0)], (some (33, false))⟩, ⟨(some 35), .mv, [(.t 4)], (some (33, false))⟩, ⟨(some 36), .mv, [(.t 3)], (some (33, false))⟩, ⟨(some 37), (.ibin .sub), [(.t 36), (.c (.rv (.int .i64 1)))], (some (33, false))⟩, ⟨(some 38), (.call 64), [(.t 34), (.t 35), (.t 37)], (some (33, false))⟩, ⟨(some 39), .not, [(.t 38)], (some (33, false))⟩, ⟨(some 40), .pick, [(.t 33), (.c (.rv (.bool true))), (.t 39)], none⟩]) (.cond (.t 40) (.seq (.reg [⟨(some 2), .mv, [(.c (.rv (.bool false)))], none⟩]) .ret) .skip)))) .ent) (.reg [⟨(some 19), .mv, [(.t 3)], none⟩, ⟨(some 20), (.ibin .add), [(.t 19), (.c (.rv (.int .i64 1)))], none⟩, ⟨(some 3), .mv, [(.t 20)], none⟩]))))) .ent)) (.seq (.reg [⟨(some 2), .mv, [(.c (.rv (.bool true)))], none⟩]) .ret))))
theorem k_decoupageref07_Shaped : FnOK Go.Proofs.Try.prog 94 41 c_decoupageref07_Shaped [(.t 2)] := fnOK_of (by kernel_rfl)

/- decoupage/decoupageref07.Formed -/
def c_decoupageref07_Formed : AC := (.seq (.reg [⟨(some 2), .mv, [(.c (.rv (.bool false)))], none⟩]) (.seq (.seq (.reg [⟨(some 4), .mv, [(.t 0)], none⟩, ⟨(some 5), (.call 94), [(.t 4)], none⟩, ⟨(some 6), .not, [(.t 5)], none⟩]) (.cond (.t 6) (.seq (.reg [⟨(some 2), .mv, [(.c (.rv (.bool false)))], none⟩]) .ret) .skip)) (.seq (.seq (.reg [⟨(some 7), .mv, [(.t 0)], none⟩, ⟨(some 8), .len, [(.t 7)], none⟩, ⟨(some 9), .mv, [(.c (.rv (.int .i64 0)))], none⟩]) (.seq (.block 0 (.loop (.seq (.reg [⟨(some 10), (.ibin .lss), [(.t 9), (.t 8)], none⟩]) (.seq (.cond (.t 10) .skip (.exit 0)) (.seq (.seq (.block 1 (.seq (.reg [⟨(some 11), .mv, [(.t 9)], none⟩, ⟨(some 3), .mv, [(.t 11)], none⟩]) (.seq (.reg [⟨(some 12), .mv, [(.t 0)], none⟩, ⟨(some 13), .mv, [(.t 3)], none⟩, ⟨(some 14), (.ixs 49), [(.t 12), (.t 13)], none⟩, ⟨(some 15), (.fld 0), [(.t 14)], none⟩, ⟨(some 16), (.load 48 true), [(.t 15)], none⟩, ⟨(some 17), (.call 95), [(.t 16)], none⟩, ⟨(some 18), .not, [(.t 17)], none⟩]) (.cond (.t 18) (.seq (.reg [⟨(some 2), .mv, [(.c (.rv (.bool false)))], none⟩]) .ret) .skip)))) .ent) (.reg [⟨(some 19), (.ibin .add), [(.t 9), (.c (.rv (.int .i64 1)))], none⟩, ⟨(some 9), .mv, [(.t 19)], none⟩])))))) .ent)) (.seq (.reg [⟨(some 2), .mv, [(.c (.rv (.bool true)))], none⟩]) .ret))))
theorem k_decoupageref07_Formed : FnOK Go.Proofs.Try.prog 65 20 c_decoupageref07_Formed [(.t 2)] := fnOK_of (by kernel_rfl)

/- decoupage/decoupageref07.Deep -/
def c_decoupageref07_Deep : AC := (.seq (.reg [⟨(some 4), .mv, [(.c (.rv (.int .i64 0)))], none⟩]) (.seq (.reg [⟨(some 5), .mv, [(.c (.rv (.int .i64 0)))], none⟩]) (.seq (.seq (.block 0 (.loop (.seq (.seq (.reg [⟨(some 6), .mv, [(.t 1)], none⟩, ⟨(some 7), (.ibin .geq), [(.t 6), (.c (.rv (.int .i64 0)))], none⟩]) (.cond (.t 7) .skip (.exit 0))) (.seq (.block 1 (.seq (.reg [⟨(some 8), .mv, [(.t 5)], none⟩, ⟨(some 9), (.ibin .add), [(.t 8), (.c (.rv (.int .i64 1)))], none⟩, ⟨(some 5), .mv, [(.t 9)], none⟩]) (.reg [⟨(some 10), .mv, [(.t 0)], none⟩, ⟨(some 11), .mv, [(.t 1)], none⟩, ⟨(some 12), (.ixs 49), [(.t 10), (.t 11)], none⟩, ⟨(some 13), (.fld 48), [(.t 12)], none⟩, ⟨(some 14), (.load 1 false), [(.t 13)], none⟩, ⟨(some 1), .mv, [(.t 14)], none⟩]))) .ent)))) .ent) (.seq (.reg [⟨(some 15), .mv, [(.t 5)], none⟩, ⟨(some 4), .mv, [(.t 15)], none⟩]) .ret))))
theorem k_decoupageref07_Deep : FnOK Go.Proofs.Try.prog 67 16 c_decoupageref07_Deep [(.t 4)] := fnOK_of (by kernel_rfl)

/- decoupage/decoupageref07.Check -/
def c_decoupageref07_Check : AC := (.seq (.reg [⟨(some 2), .mv, [(.c (.rv (.int .i64 0)))], none⟩]) (.seq (.seq (.reg [⟨(some 4), .mv, [(.t 0)], none⟩, ⟨(some 5), (.call 65), [(.t 4)], none⟩, ⟨(some 6), .not, [(.t 5)], none⟩]) (.cond (.t 6) (.seq (.reg [⟨(some 2), .mv, [(.c (.rv (.int .i64 2)))], none⟩]) .ret) .skip)) (.seq (.seq (.reg [⟨(some 7), .mv, [(.t 0)], none⟩, ⟨(some 8), .len, [(.t 7)], none⟩, ⟨(some 9), .mv, [(.c (.rv (.int .i64 0)))], none⟩]) (.seq (.block 0 (.loop (.seq (.reg [⟨(some 10), (.ibin .lss), [(.t 9), (.t 8)], none⟩]) (.seq (.cond (.t 10) .skip (.exit 0)) (.seq (.seq (.block 1 (.seq (.reg [⟨(some 11), .mv, [(.t 9)], none⟩, ⟨(some 3), .mv, [(.t 11)], none⟩]) (.seq (.reg [⟨(some 12), .mv, [(.t 0)], none⟩, ⟨(some 13), .mv, [(.t 3)], none⟩, ⟨(some 14), (.ixs 49), [(.t 12), (.t 13)], none⟩, ⟨(some 15), (.fld 0), [(.t 14)], none⟩, ⟨(some 16), (.load 48 true), [(.t 15)], none⟩, ⟨(some 17), (.call 66), [(.t 16)], none⟩, ⟨(some 18), .not, [(.t 17)], none⟩, ⟨(some 19), .mv, [(.t 18)], none⟩, ⟨(some 20), .mv, [(.t 0)], (some (19, false))⟩, ⟨(some 21), .mv, [(.t 3)], (some (19, false))⟩, ⟨(some 22), (.call 67), [(.t 20), (.t 21)], (some (19, false))⟩, ⟨(some 23), (.ibin .gtr), [(.t 22), (.c (.rv (.int .i64 256)))], (some (19, false))⟩, ⟨(some 24), .pick, [(.t 19), (.c (.rv (.bool true))), (.t 23)], none⟩]) (.cond (.t 24) (.seq (.reg [⟨(some 2), .mv, [(.c (.rv (.int .i64 3)))], none⟩]) .ret) .skip)))) .ent) (.reg [⟨(some 25), (.ibin .add), [(.t 9), (.c (.rv (.int .i64 1)))], none⟩, ⟨(some 9), .mv, [(.t 25)], none⟩])))))) .ent)) (.seq (.seq (.reg [⟨(some 26), .mv, [(.t 0)], none⟩, ⟨(some 27), .len, [(.t 26)], none⟩, ⟨(some 28), (.ibin .gtr), [(.t 27), (.c (.rv (.int .i64 65535)))], none⟩]) (.cond (.t 28) (.seq (.reg [⟨(some 2), .mv, [(.c (.rv (.int .i64 3)))], none⟩]) .ret) .skip)) (.seq (.reg [⟨(some 2), .mv, [(.c (.rv (.int .i64 0)))], none⟩]) .ret)))))
theorem k_decoupageref07_Check : FnOK Go.Proofs.Try.prog 21 29 c_decoupageref07_Check [(.t 2)] := fnOK_of (by kernel_rfl)


/-- Is a on the way up from n? -/
def aboveS (l : List Nd) (a : Int) (n : Nat) : Bool := (pth l n).any fun (j : Nat) => decide ((j : Int) = a)
theorem above_at {l : List Nd} {a : Int} {n i : Nat} (h : i < (pth l n).length) (hp : (((pth l n)[i]'h : Nat) : Int) = a) : aboveS l a n = true := by
  unfold aboveS; rw [List.any_eq_true]; exact ⟨_, List.getElem_mem h, by simpa using hp⟩
theorem above_no {l : List Nd} {a : Int} {n : Nat} (hn : ∀ j, (h : j < (pth l n).length) → (((pth l n)[j]'h : Nat) : Int) ≠ a) : aboveS l a n = false := by
  unfold aboveS; rw [List.any_eq_false]
  intro x hx
  obtain ⟨j, hj, rfl⟩ := List.getElem_of_mem hx
  simpa using hn j hj

theorem sp_ref07_Above (l : List Nd) (a : Int) (n : Nat) (hw : WF l (n + 1)) (hn : n < l.length) (hb : l.length ≤ 8589934592) :
    CallR Go.Proofs.Try.prog 64 [.rv (.sl 49 (ndL l)), .rv (.int .i64 a), .rv (.int .i64 n)] [] [] (.rv (.bool (aboveS l a n))) := by
  refine callR_G k_decoupageref07_Above [.rv (.sl 49 (ndL l)), .rv (.int .i64 a), .rv (.int .i64 n)] _ (by simp) (by simp [BkAll, bk_agg, bkAll_map, bk_rv, bk_fn, Sty.sv, Ln.sv, Nd.sv]) (fun K hK => ?_)
  have hlen := ndL_len l
  simp -implicitDefEqProofs only [c_decoupageref07_Above, go_sem, ↓reduceIte, Nat.reduceEqDiff, Nat.reduceAdd, Nat.reduceSub, Nat.reduceMul, Nat.reduceLeDiff, Nat.reduceLT, reduceCtorEq, Int.reduceToNat]
  refine g_loop (ι := Nat) (fun i => [(2, .rv (.int .i64 (atI (pth l n) i))), (0, .rv (.sl 49 (ndL l))), (1, .rv (.int .i64 a))]) (fun _ => []) (fun i => i ≤ (pth l n).length ∧ ∀ j, (h : j < (pth l n).length) → j < i → (((pth l n)[j]'h : Nat) : Int) ≠ a) (fun i => (pth l n).length - i) 0 (by simp) (by rw [atI_zero]; exact ent_env (by simp [lk])) (fun i hi K' hN hX hR => ?_)
  obtain ⟨hi1, hi2⟩ := hi
  have hpl := pth_len (l := l) n
  simp -implicitDefEqProofs only [go_sem, ↓reduceIte, Nat.reduceEqDiff, Nat.reduceAdd, Nat.reduceSub, Nat.reduceMul, Nat.reduceLeDiff, Nat.reduceLT, reduceCtorEq, Int.reduceToNat]
  refine cdS (fun hg => ?_) (fun hg => ?_)
  · have hil : i < (pth l n).length := atI_iff.1 (by simpa using hg)
    have hat := atI_lt hil
    have hlt : (pth l n)[i] < n + 1 := pth_lt (by omega) hil
    have hx := ndL_get (l := l) (i := (pth l n)[i]) (by omega)
    have hpar := parL_eq (l := l) (n := (pth l n)[i]) (by omega)
    have hnx := par_at hw n (by omega) i hil
    repeat' (first | (simp -implicitDefEqProofs only [go_sem, ↓reduceIte, Nat.reduceEqDiff, Nat.reduceAdd, Nat.reduceSub, Nat.reduceMul, Nat.reduceLeDiff, Nat.reduceLT, reduceCtorEq, Int.reduceToNat, hlen, nd_len, nd_drop0, hat, hx, hpar, hnx]) | (with_reducible refine g_noent ?_) | (refine cdS (fun hg => ?_) (fun hg => ?_) <;> try simp -implicitDefEqProofs only [hg, Bool.not_true, Bool.not_false]) | (refine gdS (fun hg => ?_) (fun hg => ?_) <;> try simp -implicitDefEqProofs only [hg, Bool.not_true, Bool.not_false]) | (refine gddS (fun hg => ?_) (fun hg => ?_) <;> try simp -implicitDefEqProofs only [hg, Bool.not_true, Bool.not_false]) | ((with_reducible apply And.intro); focus (first | trivial | omega | decide | (simp -implicitDefEqProofs only [maxLen]; omega) | (simp [maxLen, sty_len, nd_len, ndL_len, lnL_len, intsL_len, rvs_len, lensS_len]; done) | (simp [maxLen, sty_len, nd_len, ndL_len, lnL_len, intsL_len, rvs_len, lensS_len]; omega))) | fail)
    · exact hR _ _ (hK _ _ (ret_t (by rw [above_at hil (by simpa using hg)]; rfl))).2
    · refine hN (i + 1) _ _ ⟨by omega, fun j hj hji => ?_⟩ (by omega) (ent_env (by simp [lk]))
      rcases Nat.lt_or_ge j i with h | h
      · exact hi2 j hj h
      · obtain rfl : j = i := by omega
        simpa using hg
  · have hil : ¬ i < (pth l n).length := fun h => by have := atI_iff.2 h; simp at hg; omega
    simp -implicitDefEqProofs only [go_sem, ↓reduceIte, Nat.reduceEqDiff, Nat.reduceAdd, Nat.reduceSub, Nat.reduceMul, Nat.reduceLeDiff, Nat.reduceLT, reduceCtorEq, Int.reduceToNat]
    refine hX _ _ _ ?_
    repeat' (first | (simp -implicitDefEqProofs only [go_sem, ↓reduceIte, Nat.reduceEqDiff, Nat.reduceAdd, Nat.reduceSub, Nat.reduceMul, Nat.reduceLeDiff, Nat.reduceLT, reduceCtorEq, Int.reduceToNat]) | (with_reducible refine g_noent ?_) | (refine cdS (fun hg => ?_) (fun hg => ?_) <;> try simp -implicitDefEqProofs only [hg, Bool.not_true, Bool.not_false]) | (refine gdS (fun hg => ?_) (fun hg => ?_) <;> try simp -implicitDefEqProofs only [hg, Bool.not_true, Bool.not_false]) | (refine gddS (fun hg => ?_) (fun hg => ?_) <;> try simp -implicitDefEqProofs only [hg, Bool.not_true, Bool.not_false]) | ((with_reducible apply And.intro); focus (first | trivial | omega | decide | (simp -implicitDefEqProofs only [maxLen]; omega) | (simp [maxLen, sty_len, nd_len, ndL_len, lnL_len, intsL_len, rvs_len, lensS_len]; done) | (simp [maxLen, sty_len, nd_len, ndL_len, lnL_len, intsL_len, rvs_len, lensS_len]; omega))) | fail)
    exact (hK _ _ (ret_t (by rw [above_no fun j hj => hi2 j hj (by omega)]; rfl))).2

theorem nodeOK_above {l : List Nd} {k : Nat} (hk : 0 < k) : nodeOK l k = (!(decide (parL l k < 0) || decide (parL l k ≥ k) || !aboveS l (parL l k) (k - 1))) := by
  have h1 : nodeOK l k = aboveS l (parL l k) (k - 1) := by
    have : decide (k = 0) = false := decide_eq_false (by omega)
    simp -implicitDefEqProofs only [nodeOK, this, Bool.false_or, upIx, aboveS, List.findIdx?_isSome]
  rw [h1]
  cases h : aboveS l (parL l k) (k - 1) with
  | false => simp
  | true =>
    rw [← h1] at h
    have hk0 : ¬ k = 0 := by omega
    simp [nodeOK, hk0] at h
    obtain ⟨a, b, _⟩ := upIx_some h
    simp; omega

theorem sp_ref07_Shaped (l : List Nd) (hb : l.length ≤ 8589934592) : CallR Go.Proofs.Try.prog 94 [.rv (.sl 49 (ndL l))] [] [] (.rv (.bool (shapeOK l))) := by
  refine callR_G k_decoupageref07_Shaped [.rv (.sl 49 (ndL l))] _ (by simp) (by simp [BkAll, bk_agg, bkAll_map, bk_rv, bk_fn, Sty.sv, Ln.sv, Nd.sv]) (fun K hK => ?_)
  have bad : ∀ e h, lk e 2 = .rv (.bool false) → shapeOK l = false → K .ret ⟨e, h⟩ := fun e h l2 hf => (hK _ _ (ret_t (by rw [l2, hf]))).2
  have hlen := ndL_len l
  simp -implicitDefEqProofs only [c_decoupageref07_Shaped, hlen, go_sem, ↓reduceIte, Nat.reduceEqDiff, Nat.reduceAdd, Nat.reduceSub, Nat.reduceMul, Nat.reduceLeDiff, Nat.reduceLT, reduceCtorEq, Int.reduceToNat]
  by_cases hl0 : l.length = 0
  · have e0 : (((l.length : Nat) : Int) == 0) = true := by simp [hl0]
    repeat' (first | (simp -implicitDefEqProofs only [go_sem, ↓reduceIte, Nat.reduceEqDiff, Nat.reduceAdd, Nat.reduceSub, Nat.reduceMul, Nat.reduceLeDiff, Nat.reduceLT, reduceCtorEq, Int.reduceToNat, e0, hlen]) | (with_reducible refine g_noent ?_) | (refine cdS (fun hg => ?_) (fun hg => ?_) <;> try simp -implicitDefEqProofs only [hg, Bool.not_true, Bool.not_false]) | (refine gdS (fun hg => ?_) (fun hg => ?_) <;> try simp -implicitDefEqProofs only [hg, Bool.not_true, Bool.not_false]) | (refine gddS (fun hg => ?_) (fun hg => ?_) <;> try simp -implicitDefEqProofs only [hg, Bool.not_true, Bool.not_false]) | ((with_reducible apply And.intro); focus (first | trivial | omega | decide | (simp -implicitDefEqProofs only [maxLen]; omega) | (simp [maxLen, sty_len, nd_len, ndL_len, lnL_len, intsL_len, rvs_len, lensS_len]; done) | (simp [maxLen, sty_len, nd_len, ndL_len, lnL_len, intsL_len, rvs_len, lensS_len]; omega))) | fail)
    exact bad _ _ rfl (by simp [shapeOK, hl0])
  · have e0 : (((l.length : Nat) : Int) == 0) = false := by simp [hl0]
    have hx0 := ndL_get (l := l) (i := 0) (by omega)
    have hp0 := parL_eq (l := l) (n := 0) (by omega)
    repeat' (first | (simp -implicitDefEqProofs only [go_sem, ↓reduceIte, Nat.reduceEqDiff, Nat.reduceAdd, Nat.reduceSub, Nat.reduceMul, Nat.reduceLeDiff, Nat.reduceLT, reduceCtorEq, Int.reduceToNat, e0, hlen, hx0, nd_len, nd_drop0, hp0]) | (with_reducible refine g_noent ?_) | (refine cdS (fun hg => ?_) (fun hg => ?_) <;> try simp -implicitDefEqProofs only [hg, Bool.not_true, Bool.not_false]) | (refine gdS (fun hg => ?_) (fun hg => ?_) <;> try simp -implicitDefEqProofs only [hg, Bool.not_true, Bool.not_false]) | (refine gddS (fun hg => ?_) (fun hg => ?_) <;> try simp -implicitDefEqProofs only [hg, Bool.not_true, Bool.not_false]) | ((with_reducible apply And.intro); focus (first | trivial | omega | decide | (simp -implicitDefEqProofs only [maxLen]; omega) | (simp [maxLen, sty_len, nd_len, ndL_len, lnL_len, intsL_len, rvs_len, lensS_len]; done) | (simp [maxLen, sty_len, nd_len, ndL_len, lnL_len, intsL_len, rvs_len, lensS_len]; omega))) | fail)
    · exact bad _ _ rfl (by simp [shapeOK]; intro _ h; simp at hg; exact absurd h hg)
    · have hroot : parL l 0 = -1 := by simpa using hg
      refine g_loop (ι := Nat) (fun k => [(3, .rv (.int .i64 k)), (0, .rv (.sl 49 (ndL l)))]) (fun _ => []) (fun k => 0 < k ∧ k ≤ l.length ∧ (∀ j, j < k → nodeOK l j = true)) (fun k => l.length - k) 1 ⟨by omega, by omega, fun j hj => by simp [nodeOK]; omega⟩ (ent_env (by simp [lk])) (fun k hk K' hN hX hR => ?_)
      obtain ⟨hk0, hk1, hk2⟩ := hk
      have hw := wf_of hroot hk2
      simp -implicitDefEqProofs only [hlen, go_sem, ↓reduceIte, Nat.reduceEqDiff, Nat.reduceAdd, Nat.reduceSub, Nat.reduceMul, Nat.reduceLeDiff, Nat.reduceLT, reduceCtorEq, Int.reduceToNat]
      refine cdS (fun hg => ?_) (fun hg => ?_)
      · have hk4 : k < l.length := by simp at hg; omega
        have hx := ndL_get hk4
        have hpk := parL_eq hk4
        have wd := wrap_dn hk0 (by omega)
        have wu := wrap_up (k := k) (by omega)
        have hnode := nodeOK_above (l := l) hk0
        have bad1 : nodeOK l k = false → shapeOK l = false := fun h => by
          rw [Bool.eq_false_iff]
          intro ht
          simp -implicitDefEqProofs only [shapeOK, Bool.and_eq_true, List.all_eq_true, List.mem_range] at ht
          have := ht.2 k hk4
          rw [h] at this; cases this
        have nx : ∀ e h, nodeOK l k = true → Ent 0 ⟨e, h⟩ ⟨[(3, .rv (.int .i64 (k + 1 : Nat))), (0, .rv (.sl 49 (ndL l)))], []⟩ → K' .normal ⟨e, h⟩ := fun e h h1 he => hN (k + 1) _ _ ⟨by omega, by omega, fun j hj => by
            rcases Nat.lt_or_ge j k with h | h
            · exact hk2 j h
            · obtain rfl : j = k := by omega
              exact h1⟩ (by omega) he
        have hwk : WF l (k - 1 + 1) := by rw [show k - 1 + 1 = k by omega]; exact hw
        have hcall1 := sp_ref07_Above l (parL l k) (k - 1) hwk (by omega) hb; repeat' (first | (simp -implicitDefEqProofs only [go_sem, ↓reduceIte, Nat.reduceEqDiff, Nat.reduceAdd, Nat.reduceSub, Nat.reduceMul, Nat.reduceLeDiff, Nat.reduceLT, reduceCtorEq, Int.reduceToNat, hlen, hx, hpk, nd_len, nd_drop0, wd, wu]) | (with_reducible refine g_noent ?_) | (with_reducible refine g_call0 hcall1 ?_) | (with_reducible refine g_calld0 hcall1 ?_) | (refine cdS (fun hg => ?_) (fun hg => ?_) <;> try simp -implicitDefEqProofs only [hg, Bool.not_true, Bool.not_false]) | (refine gdS (fun hg => ?_) (fun hg => ?_) <;> try simp -implicitDefEqProofs only [hg, Bool.not_true, Bool.not_false]) | (refine gddS (fun hg => ?_) (fun hg => ?_) <;> try simp -implicitDefEqProofs only [hg, Bool.not_true, Bool.not_false]) | ((with_reducible apply And.intro); focus (first | trivial | omega | decide | (simp -implicitDefEqProofs only [maxLen]; omega) | (simp [maxLen, sty_len, nd_len, ndL_len, lnL_len, intsL_len, rvs_len, lensS_len]; done) | (simp [maxLen, sty_len, nd_len, ndL_len, lnL_len, intsL_len, rvs_len, lensS_len]; omega))) | fail)
        all_goals first
          | (refine hR _ _ (bad _ _ rfl (bad1 ?_)); rw [hnode]; clear hnode bad1 nx hK hN hX hR bad; simp_all; done)
          | (refine nx _ _ ?_ (ent_env (by simp [lk])); rw [hnode]; clear hnode bad1 nx hK hN hX hR bad; (simp_all) <;> omega)
      · have hk4 : k = l.length := by simp at hg; omega
        subst hk4
        simp -implicitDefEqProofs only [go_sem, ↓reduceIte, Nat.reduceEqDiff, Nat.reduceAdd, Nat.reduceSub, Nat.reduceMul, Nat.reduceLeDiff, Nat.reduceLT, reduceCtorEq, Int.reduceToNat]
        refine hX _ _ _ ?_
        repeat' (first | (simp -implicitDefEqProofs only [go_sem, ↓reduceIte, Nat.reduceEqDiff, Nat.reduceAdd, Nat.reduceSub, Nat.reduceMul, Nat.reduceLeDiff, Nat.reduceLT, reduceCtorEq, Int.reduceToNat]) | (with_reducible refine g_noent ?_) | (refine cdS (fun hg => ?_) (fun hg => ?_) <;> try simp -implicitDefEqProofs only [hg, Bool.not_true, Bool.not_false]) | (refine gdS (fun hg => ?_) (fun hg => ?_) <;> try simp -implicitDefEqProofs only [hg, Bool.not_true, Bool.not_false]) | (refine gddS (fun hg => ?_) (fun hg => ?_) <;> try simp -implicitDefEqProofs only [hg, Bool.not_true, Bool.not_false]) | ((with_reducible apply And.intro); focus (first | trivial | omega | decide | (simp -implicitDefEqProofs only [maxLen]; omega) | (simp [maxLen, sty_len, nd_len, ndL_len, lnL_len, intsL_len, rvs_len, lensS_len]; done) | (simp [maxLen, sty_len, nd_len, ndL_len, lnL_len, intsL_len, rvs_len, lensS_len]; omega))) | fail)
        refine (hK _ _ (ret_t ?_)).2
        have hs : shapeOK l = true := by
          simp -implicitDefEqProofs only [shapeOK, Bool.and_eq_true, decide_eq_true_eq, List.all_eq_true, List.mem_range]
          exact ⟨⟨by omega, hroot⟩, hk2⟩
        rw [hs]; rfl

theorem sp_ref07_Formed (l : List Nd) (hb : l.length ≤ 8589934592) : CallR Go.Proofs.Try.prog 65 [.rv (.sl 49 (ndL l))] [] [] (.rv (.bool (treeOK l))) := by
  refine callR_G k_decoupageref07_Formed [.rv (.sl 49 (ndL l))] _ (by simp) (by simp [BkAll, bk_agg, bkAll_map, bk_rv, bk_fn, Sty.sv, Ln.sv, Nd.sv]) (fun K hK => ?_)
  have bad : ∀ e h, lk e 2 = .rv (.bool false) → treeOK l = false → K .ret ⟨e, h⟩ := fun e h l2 hf => (hK _ _ (ret_t (by rw [l2, hf]))).2
  have hlen := ndL_len l
  simp -implicitDefEqProofs only [c_decoupageref07_Formed, go_sem, ↓reduceIte, Nat.reduceEqDiff, Nat.reduceAdd, Nat.reduceSub, Nat.reduceMul, Nat.reduceLeDiff, Nat.reduceLT, reduceCtorEq, Int.reduceToNat]
  have hcall2 := sp_ref07_Shaped l hb; repeat' (first | (simp -implicitDefEqProofs only [go_sem, ↓reduceIte, Nat.reduceEqDiff, Nat.reduceAdd, Nat.reduceSub, Nat.reduceMul, Nat.reduceLeDiff, Nat.reduceLT, reduceCtorEq, Int.reduceToNat]) | (with_reducible refine g_noent ?_) | (with_reducible refine g_call0 hcall2 ?_) | (with_reducible refine g_calld0 hcall2 ?_) | (refine cdS (fun hg => ?_) (fun hg => ?_) <;> try simp -implicitDefEqProofs only [hg, Bool.not_true, Bool.not_false]) | (refine gdS (fun hg => ?_) (fun hg => ?_) <;> try simp -implicitDefEqProofs only [hg, Bool.not_true, Bool.not_false]) | (refine gddS (fun hg => ?_) (fun hg => ?_) <;> try simp -implicitDefEqProofs only [hg, Bool.not_true, Bool.not_false]) | ((with_reducible apply And.intro); focus (first | trivial | omega | decide | (simp -implicitDefEqProofs only [maxLen]; omega) | (simp [maxLen, sty_len, nd_len, ndL_len, lnL_len, intsL_len, rvs_len, lensS_len]; done) | (simp [maxLen, sty_len, nd_len, ndL_len, lnL_len, intsL_len, rvs_len, lensS_len]; omega))) | fail)
  · exact bad _ _ rfl (by simp at hg; simp [treeOK, hg])
  · have hs : shapeOK l = true := by simpa using hg
    simp -implicitDefEqProofs only [hlen, go_sem, ↓reduceIte, Nat.reduceEqDiff, Nat.reduceAdd, Nat.reduceSub, Nat.reduceMul, Nat.reduceLeDiff, Nat.reduceLT, reduceCtorEq, Int.reduceToNat]
    refine g_loop (ι := Nat) (fun k => [(9, .rv (.int .i64 k)), (8, .rv (.int .i64 l.length)), (0, .rv (.sl 49 (ndL l)))]) (fun _ => []) (fun k => k ≤ l.length ∧ ((l.drop k).all fun x => styOK x.s) = l.all fun x => styOK x.s) (fun k => l.length - k) 0 (by simp) (ent_env (by simp [lk])) (fun k hk K' hN hX hR => ?_)
    obtain ⟨hk1, hk3⟩ := hk
    simp -implicitDefEqProofs only [go_sem, ↓reduceIte, Nat.reduceEqDiff, Nat.reduceAdd, Nat.reduceSub, Nat.reduceMul, Nat.reduceLeDiff, Nat.reduceLT, reduceCtorEq, Int.reduceToNat]
    refine cdS (fun hg => ?_) (fun hg => ?_)
    · have hk4 : k < l.length := by simp at hg; omega
      have hx := ndL_get hk4
      have wu := wrap_up (k := k) (by omega)
      have hcall3 := sp_ref06_Formed (l[k]'hk4).s; repeat' (first | (simp -implicitDefEqProofs only [go_sem, ↓reduceIte, Nat.reduceEqDiff, Nat.reduceAdd, Nat.reduceSub, Nat.reduceMul, Nat.reduceLeDiff, Nat.reduceLT, reduceCtorEq, Int.reduceToNat, hlen, hx, nd_len, nd_drop0, nd_st, wu]) | (with_reducible refine g_noent ?_) | (with_reducible refine g_call0 hcall3 ?_) | (with_reducible refine g_calld0 hcall3 ?_) | (refine cdS (fun hg => ?_) (fun hg => ?_) <;> try simp -implicitDefEqProofs only [hg, Bool.not_true, Bool.not_false]) | (refine gdS (fun hg => ?_) (fun hg => ?_) <;> try simp -implicitDefEqProofs only [hg, Bool.not_true, Bool.not_false]) | (refine gddS (fun hg => ?_) (fun hg => ?_) <;> try simp -implicitDefEqProofs only [hg, Bool.not_true, Bool.not_false]) | ((with_reducible apply And.intro); focus (first | trivial | omega | decide | (simp -implicitDefEqProofs only [maxLen]; omega) | (simp [maxLen, sty_len, nd_len, ndL_len, lnL_len, intsL_len, rvs_len, lensS_len]; done) | (simp [maxLen, sty_len, nd_len, ndL_len, lnL_len, intsL_len, rvs_len, lensS_len]; omega))) | fail)
      · refine hR _ _ (bad _ _ rfl ?_)
        have : (l.all fun x => styOK x.s) = false := all_fail hk4 hk3 (by simpa using hg)
        simp -implicitDefEqProofs only [treeOK, this, Bool.and_false]
      · exact hN (k + 1) _ _ ⟨by omega, all_next hk4 hk3 (by simpa using hg)⟩ (by omega) (ent_env (by simp [lk]))
    · have hk4 : k = l.length := by simp at hg; omega
      subst hk4
      have hall := all_done (Nat.le_refl _) hk3
      simp -implicitDefEqProofs only [go_sem, ↓reduceIte, Nat.reduceEqDiff, Nat.reduceAdd, Nat.reduceSub, Nat.reduceMul, Nat.reduceLeDiff, Nat.reduceLT, reduceCtorEq, Int.reduceToNat]
      refine hX _ _ _ ?_
      repeat' (first | (simp -implicitDefEqProofs only [go_sem, ↓reduceIte, Nat.reduceEqDiff, Nat.reduceAdd, Nat.reduceSub, Nat.reduceMul, Nat.reduceLeDiff, Nat.reduceLT, reduceCtorEq, Int.reduceToNat]) | (with_reducible refine g_noent ?_) | (refine cdS (fun hg => ?_) (fun hg => ?_) <;> try simp -implicitDefEqProofs only [hg, Bool.not_true, Bool.not_false]) | (refine gdS (fun hg => ?_) (fun hg => ?_) <;> try simp -implicitDefEqProofs only [hg, Bool.not_true, Bool.not_false]) | (refine gddS (fun hg => ?_) (fun hg => ?_) <;> try simp -implicitDefEqProofs only [hg, Bool.not_true, Bool.not_false]) | ((with_reducible apply And.intro); focus (first | trivial | omega | decide | (simp -implicitDefEqProofs only [maxLen]; omega) | (simp [maxLen, sty_len, nd_len, ndL_len, lnL_len, intsL_len, rvs_len, lensS_len]; done) | (simp [maxLen, sty_len, nd_len, ndL_len, lnL_len, intsL_len, rvs_len, lensS_len]; omega))) | fail)
      exact (hK _ _ (ret_t (by rw [treeOK, hs, hall]; rfl))).2

theorem sp_ref07_Deep (l : List Nd) (n : Nat) (hw : WF l (n + 1)) (hn : n < l.length) (hb : l.length ≤ 8589934592) :
    CallR Go.Proofs.Try.prog 67 [.rv (.sl 49 (ndL l)), .rv (.int .i64 n)] [] [] (.rv (.int .i64 (depth l n))) := by
  refine callR_G k_decoupageref07_Deep [.rv (.sl 49 (ndL l)), .rv (.int .i64 n)] _ (by simp) (by simp [BkAll, bk_agg, bkAll_map, bk_rv, bk_fn, Sty.sv, Ln.sv, Nd.sv]) (fun K hK => ?_)
  have hlen := ndL_len l
  simp -implicitDefEqProofs only [c_decoupageref07_Deep, go_sem, ↓reduceIte, Nat.reduceEqDiff, Nat.reduceAdd, Nat.reduceSub, Nat.reduceMul, Nat.reduceLeDiff, Nat.reduceLT, reduceCtorEq, Int.reduceToNat]
  refine g_loop (ι := Nat) (fun i => [(1, .rv (.int .i64 (atI (pth l n) i))), (0, .rv (.sl 49 (ndL l))), (5, .rv (.int .i64 i))]) (fun _ => []) (fun i => i ≤ (pth l n).length) (fun i => (pth l n).length - i) 0 (by simp) (by rw [atI_zero]; exact ent_env (by simp [lk])) (fun i hi1 K' hN hX hR => ?_)
  have hpl := pth_len (l := l) n
  simp -implicitDefEqProofs only [go_sem, ↓reduceIte, Nat.reduceEqDiff, Nat.reduceAdd, Nat.reduceSub, Nat.reduceMul, Nat.reduceLeDiff, Nat.reduceLT, reduceCtorEq, Int.reduceToNat]
  refine cdS (fun hg => ?_) (fun hg => ?_)
  · have hil : i < (pth l n).length := atI_iff.1 (by simpa using hg)
    have hat := atI_lt hil
    have hlt : (pth l n)[i] < n + 1 := pth_lt (by omega) hil
    have hx := ndL_get (l := l) (i := (pth l n)[i]) (by omega)
    have hpar := parL_eq (l := l) (n := (pth l n)[i]) (by omega)
    have hnx := par_at hw n (by omega) i hil
    have wu := wrap_up (k := i) (by omega)
    repeat' (first | (simp -implicitDefEqProofs only [go_sem, ↓reduceIte, Nat.reduceEqDiff, Nat.reduceAdd, Nat.reduceSub, Nat.reduceMul, Nat.reduceLeDiff, Nat.reduceLT, reduceCtorEq, Int.reduceToNat, hlen, nd_len, nd_drop0, hat, hx, hpar, hnx, wu]) | (with_reducible refine g_noent ?_) | (refine cdS (fun hg => ?_) (fun hg => ?_) <;> try simp -implicitDefEqProofs only [hg, Bool.not_true, Bool.not_false]) | (refine gdS (fun hg => ?_) (fun hg => ?_) <;> try simp -implicitDefEqProofs only [hg, Bool.not_true, Bool.not_false]) | (refine gddS (fun hg => ?_) (fun hg => ?_) <;> try simp -implicitDefEqProofs only [hg, Bool.not_true, Bool.not_false]) | ((with_reducible apply And.intro); focus (first | trivial | omega | decide | (simp -implicitDefEqProofs only [maxLen]; omega) | (simp [maxLen, sty_len, nd_len, ndL_len, lnL_len, intsL_len, rvs_len, lensS_len]; done) | (simp [maxLen, sty_len, nd_len, ndL_len, lnL_len, intsL_len, rvs_len, lensS_len]; omega))) | fail)
    exact hN (i + 1) _ _ (by omega) (by omega) (ent_env (by simp [lk]))
  · have hil : ¬ i < (pth l n).length := fun h => by have := atI_iff.2 h; simp at hg; omega
    have : i = (pth l n).length := by omega
    subst this
    simp -implicitDefEqProofs only [go_sem, ↓reduceIte, Nat.reduceEqDiff, Nat.reduceAdd, Nat.reduceSub, Nat.reduceMul, Nat.reduceLeDiff, Nat.reduceLT, reduceCtorEq, Int.reduceToNat]
    refine hX _ _ _ ?_
    repeat' (first | (simp -implicitDefEqProofs only [go_sem, ↓reduceIte, Nat.reduceEqDiff, Nat.reduceAdd, Nat.reduceSub, Nat.reduceMul, Nat.reduceLeDiff, Nat.reduceLT, reduceCtorEq, Int.reduceToNat]) | (with_reducible refine g_noent ?_) | (refine cdS (fun hg => ?_) (fun hg => ?_) <;> try simp -implicitDefEqProofs only [hg, Bool.not_true, Bool.not_false]) | (refine gdS (fun hg => ?_) (fun hg => ?_) <;> try simp -implicitDefEqProofs only [hg, Bool.not_true, Bool.not_false]) | (refine gddS (fun hg => ?_) (fun hg => ?_) <;> try simp -implicitDefEqProofs only [hg, Bool.not_true, Bool.not_false]) | ((with_reducible apply And.intro); focus (first | trivial | omega | decide | (simp -implicitDefEqProofs only [maxLen]; omega) | (simp [maxLen, sty_len, nd_len, ndL_len, lnL_len, intsL_len, rvs_len, lensS_len]; done) | (simp [maxLen, sty_len, nd_len, ndL_len, lnL_len, intsL_len, rvs_len, lensS_len]; omega))) | fail)
    exact (hK _ _ (ret_t rfl)).2

theorem sp_ref07_Check (l : List Nd) (hb : l.length ≤ 8589934592) : CallR Go.Proofs.Try.prog 21 [.rv (.sl 49 (ndL l))] [] [] (.rv (.int .i64 (chk l))) := by
  refine callR_G k_decoupageref07_Check [.rv (.sl 49 (ndL l))] _ (by simp) (by simp [BkAll, bk_agg, bkAll_map, bk_rv, bk_fn, Sty.sv, Ln.sv, Nd.sv]) (fun K hK => ?_)
  have hlen := ndL_len l
  simp -implicitDefEqProofs only [c_decoupageref07_Check, go_sem, ↓reduceIte, Nat.reduceEqDiff, Nat.reduceAdd, Nat.reduceSub, Nat.reduceMul, Nat.reduceLeDiff, Nat.reduceLT, reduceCtorEq, Int.reduceToNat]
  have hcall4 := sp_ref07_Formed l hb; repeat' (first | (simp -implicitDefEqProofs only [go_sem, ↓reduceIte, Nat.reduceEqDiff, Nat.reduceAdd, Nat.reduceSub, Nat.reduceMul, Nat.reduceLeDiff, Nat.reduceLT, reduceCtorEq, Int.reduceToNat]) | (with_reducible refine g_noent ?_) | (with_reducible refine g_call0 hcall4 ?_) | (with_reducible refine g_calld0 hcall4 ?_) | (refine cdS (fun hg => ?_) (fun hg => ?_) <;> try simp -implicitDefEqProofs only [hg, Bool.not_true, Bool.not_false]) | (refine gdS (fun hg => ?_) (fun hg => ?_) <;> try simp -implicitDefEqProofs only [hg, Bool.not_true, Bool.not_false]) | (refine gddS (fun hg => ?_) (fun hg => ?_) <;> try simp -implicitDefEqProofs only [hg, Bool.not_true, Bool.not_false]) | ((with_reducible apply And.intro); focus (first | trivial | omega | decide | (simp -implicitDefEqProofs only [maxLen]; omega) | (simp [maxLen, sty_len, nd_len, ndL_len, lnL_len, intsL_len, rvs_len, lensS_len]; done) | (simp [maxLen, sty_len, nd_len, ndL_len, lnL_len, intsL_len, rvs_len, lensS_len]; omega))) | fail)
  · exact (hK _ _ (ret_t (by simp at hg; simp [chk, hg, lk]))).2
  · have ht : treeOK l = true := by simpa using hg
    have hs : Shp l := shape_iff.1 (by unfold treeOK at ht; simp -implicitDefEqProofs only [Bool.and_eq_true] at ht; exact ht.1)
    simp -implicitDefEqProofs only [hlen, go_sem, ↓reduceIte, Nat.reduceEqDiff, Nat.reduceAdd, Nat.reduceSub, Nat.reduceMul, Nat.reduceLeDiff, Nat.reduceLT, reduceCtorEq, Int.reduceToNat]
    refine g_loop (ι := Nat) (fun k => [(9, .rv (.int .i64 k)), (8, .rv (.int .i64 l.length)), (0, .rv (.sl 49 (ndL l)))]) (fun _ => []) (fun k => k ≤ l.length ∧ ∀ j, (h : j < l.length) → j < k → styIn (l[j]'h).s = true ∧ depth l j ≤ 256) (fun k => l.length - k) 0 (by simp) (ent_env (by simp [lk])) (fun k hk K' hN hX hR => ?_)
    obtain ⟨hk1, hk3⟩ := hk
    simp -implicitDefEqProofs only [go_sem, ↓reduceIte, Nat.reduceEqDiff, Nat.reduceAdd, Nat.reduceSub, Nat.reduceMul, Nat.reduceLeDiff, Nat.reduceLT, reduceCtorEq, Int.reduceToNat]
    refine cdS (fun hg => ?_) (fun hg => ?_)
    · have hk4 : k < l.length := by simp at hg; omega
      have hx := ndL_get hk4
      have wu := wrap_up (k := k) (by omega)
      have bad : ∀ e h, lk e 2 = .rv (.int .i64 3) → (styIn (l[k]'hk4).s = false ∨ depth l k > 256) → K' .ret ⟨e, h⟩ := fun e h l2 hf => hR _ _ (hK _ _ (ret_t (by
          rw [l2]; unfold chk
          rw [if_neg (by rw [ht]; simp), if_pos]
          simp -implicitDefEqProofs only [Bool.or_eq_true, List.any_eq_true, List.mem_range, decide_eq_true_eq, Bool.not_eq_true']
          rcases hf with h | h
          · exact .inr ⟨_, List.getElem_mem hk4, h⟩
          · exact .inl (.inr ⟨k, hk4, h⟩)))).2
      have nx : ∀ e h, styIn (l[k]'hk4).s = true → depth l k ≤ 256 → Ent 0 ⟨e, h⟩ ⟨[(9, .rv (.int .i64 (k + 1 : Nat))), (8, .rv (.int .i64 l.length)), (0, .rv (.sl 49 (ndL l)))], []⟩ → K' .normal ⟨e, h⟩ := fun e h h1 h2 he => hN (k + 1) _ _ ⟨by omega, fun j hj hji => by
          rcases Nat.lt_or_ge j k with h | h
          · exact hk3 j hj h
          · obtain rfl : j = k := by omega
            exact ⟨h1, h2⟩⟩ (by omega) he
      have hcall5 := sp_ref06_Within (l[k]'hk4).s; have hcall6 := sp_ref07_Deep l k (hs.wf.mono (by omega)) hk4 hb; repeat' (first | (simp -implicitDefEqProofs only [go_sem, ↓reduceIte, Nat.reduceEqDiff, Nat.reduceAdd, Nat.reduceSub, Nat.reduceMul, Nat.reduceLeDiff, Nat.reduceLT, reduceCtorEq, Int.reduceToNat, hlen, hx, nd_len, nd_drop0, nd_st, wu]) | (with_reducible refine g_noent ?_) | (with_reducible refine g_call0 hcall5 ?_) | (with_reducible refine g_calld0 hcall5 ?_) | (with_reducible refine g_call0 hcall6 ?_) | (with_reducible refine g_calld0 hcall6 ?_) | (refine cdS (fun hg => ?_) (fun hg => ?_) <;> try simp -implicitDefEqProofs only [hg, Bool.not_true, Bool.not_false]) | (refine gdS (fun hg => ?_) (fun hg => ?_) <;> try simp -implicitDefEqProofs only [hg, Bool.not_true, Bool.not_false]) | (refine gddS (fun hg => ?_) (fun hg => ?_) <;> try simp -implicitDefEqProofs only [hg, Bool.not_true, Bool.not_false]) | ((with_reducible apply And.intro); focus (first | trivial | omega | decide | (simp -implicitDefEqProofs only [maxLen]; omega) | (simp [maxLen, sty_len, nd_len, ndL_len, lnL_len, intsL_len, rvs_len, lensS_len]; done) | (simp [maxLen, sty_len, nd_len, ndL_len, lnL_len, intsL_len, rvs_len, lensS_len]; omega))) | fail)
      all_goals first
        | (refine bad _ _ rfl ?_; clear bad nx hK hN hX hR; (simp_all) <;> omega)
        | (refine nx _ _ ?_ ?_ (ent_env (by simp [lk])) <;> clear bad nx hK hN hX hR <;> (simp_all) <;> omega)
    · have hk4 : k = l.length := by simp at hg; omega
      subst hk4
      simp -implicitDefEqProofs only [go_sem, ↓reduceIte, Nat.reduceEqDiff, Nat.reduceAdd, Nat.reduceSub, Nat.reduceMul, Nat.reduceLeDiff, Nat.reduceLT, reduceCtorEq, Int.reduceToNat]
      refine hX _ _ _ ?_
      have hno : ((List.range l.length).any (fun k => decide (depth l k > 256)) || l.any fun x => !styIn x.s) = false := by
        rw [Bool.or_eq_false_iff, List.any_eq_false, List.any_eq_false]
        refine ⟨fun k hk => ?_, fun x hx => ?_⟩
        · have := (hk3 k (by simpa using hk) (by simpa using hk)).2; simp; omega
        · obtain ⟨j, hj, rfl⟩ := List.getElem_of_mem hx
          simp [(hk3 j hj hj).1]
      have fin : chk l = if (l.length : Int) > 65535 then 3 else 0 := by
        unfold chk
        rw [if_neg (by rw [ht]; simp), Bool.or_assoc, hno]
        by_cases h : l.length > 65535
        · have : (l.length : Int) > 65535 := by omega
          simp [h, this]
        · have : ¬ (l.length : Int) > 65535 := by omega
          simp [h, this]
      repeat' (first | (simp -implicitDefEqProofs only [go_sem, ↓reduceIte, Nat.reduceEqDiff, Nat.reduceAdd, Nat.reduceSub, Nat.reduceMul, Nat.reduceLeDiff, Nat.reduceLT, reduceCtorEq, Int.reduceToNat, hlen]) | (with_reducible refine g_noent ?_) | (refine cdS (fun hg => ?_) (fun hg => ?_) <;> try simp -implicitDefEqProofs only [hg, Bool.not_true, Bool.not_false]) | (refine gdS (fun hg => ?_) (fun hg => ?_) <;> try simp -implicitDefEqProofs only [hg, Bool.not_true, Bool.not_false]) | (refine gddS (fun hg => ?_) (fun hg => ?_) <;> try simp -implicitDefEqProofs only [hg, Bool.not_true, Bool.not_false]) | ((with_reducible apply And.intro); focus (first | trivial | omega | decide | (simp -implicitDefEqProofs only [maxLen]; omega) | (simp [maxLen, sty_len, nd_len, ndL_len, lnL_len, intsL_len, rvs_len, lensS_len]; done) | (simp [maxLen, sty_len, nd_len, ndL_len, lnL_len, intsL_len, rvs_len, lensS_len]; omega))) | fail)
      all_goals (refine (hK _ _ (ret_t ?_)).2; rw [fin]; clear fin hK hN hX hR; (simp_all [lk]) <;> omega)
end Go.Eng

/- Copies of slices. -/
namespace Go.Eng
open Go
/- slices.Clone[[]decoupage/api.Node,decoupage/api.Node] -/
def c_slices_Clone_Node : AC := (.seq (.reg [⟨(some 2), .mv, [(.c (.rv .nilsl))], none⟩]) (.seq (.seq (.reg [⟨(some 3), .mv, [(.t 0)], none⟩, ⟨(some 4), (.eqnilo false 0), [(.t 3)], none⟩]) (.cond (.t 4) (.seq (.reg [⟨(some 2), .mv, [(.c (.rv .nilsl))], none⟩]) .ret) .skip)) (.seq (.reg [⟨(some 5), (.bsl 49), [], none⟩, ⟨(some 6), .mv, [(.t 0)], none⟩, ⟨(some 7), (.app 49 384), [(.t 5), (.t 6)], none⟩, ⟨(some 2), .mv, [(.t 7)], none⟩]) .ret)))
theorem k_slices_Clone_Node : FnOK Go.Proofs.Try.prog 62 8 c_slices_Clone_Node [(.t 2)] := fnOK_of (by kernel_rfl)

/- slices.Clone[[]int,int] -/
def c_slices_Clone_int : AC := (.seq (.reg [⟨(some 2), .mv, [(.c (.rv .nilsl))], none⟩]) (.seq (.seq (.reg [⟨(some 3), .mv, [(.t 0)], none⟩, ⟨(some 4), (.eqnilo false 0), [(.t 3)], none⟩]) (.cond (.t 4) (.seq (.reg [⟨(some 2), .mv, [(.c (.rv .nilsl))], none⟩]) .ret) .skip)) (.seq (.reg [⟨(some 5), (.bsl 1), [], none⟩, ⟨(some 6), .mv, [(.t 0)], none⟩, ⟨(some 7), (.app 1 8), [(.t 5), (.t 6)], none⟩, ⟨(some 2), .mv, [(.t 7)], none⟩]) .ret)))
theorem k_slices_Clone_int : FnOK Go.Proofs.Try.prog 73 8 c_slices_Clone_int [(.t 2)] := fnOK_of (by kernel_rfl)


theorem sp_Clone_Node (xs : List (List RV)) (m : Nat) (hb : xs.length ≤ 8589934592) : CallR Go.Proofs.Try.prog 62 [.rv (.sl 49 xs)] [] [(m, .row 49 1 (rvs xs))] (.row m 1 xs.length) := by
  have nz : ∀ r : RV, (r = .slz ∧ xs = []) ∨ (r = .sl 49 xs ∧ 0 < xs.length) → CallR Go.Proofs.Try.prog 62 [.rv r] [] [(m, .row 49 1 (rvs xs))] (.row m 1 xs.length) := fun r hr => by
    refine callR_M k_slices_Clone_Node [] [] [] [.rv r] [.rv r] _ _ (by simp) (by simp [BkAll, bk_ptr, bk_row, bk_rv, bk_agg, bk_ifc, bk_fn, bk_tup, bk_dead, BkHs, rvs_inj, nodupL]) rfl (by simp [nodupL]) (by simp [BkHs]) (fun K hK => ?_)
    simp -implicitDefEqProofs only [c_slices_Clone_Node, go_sem, ↓reduceIte, Nat.reduceEqDiff, Nat.reduceAdd, Nat.reduceSub, Nat.reduceMul, Nat.reduceLeDiff, Nat.reduceLT, reduceCtorEq, Int.reduceToNat]
    rcases hr with ⟨rfl, rfl⟩ | ⟨rfl, h0⟩
    · repeat' (first | (simp -implicitDefEqProofs only [go_sem, ↓reduceIte, Nat.reduceEqDiff, Nat.reduceAdd, Nat.reduceSub, Nat.reduceMul, Nat.reduceLeDiff, Nat.reduceLT, reduceCtorEq, Int.reduceToNat]) | (with_reducible refine g_noent ?_) | (refine cdS (fun hg => ?_) (fun hg => ?_) <;> try simp -implicitDefEqProofs only [hg, Bool.not_true, Bool.not_false]) | (refine gdS (fun hg => ?_) (fun hg => ?_) <;> try simp -implicitDefEqProofs only [hg, Bool.not_true, Bool.not_false]) | (refine gddS (fun hg => ?_) (fun hg => ?_) <;> try simp -implicitDefEqProofs only [hg, Bool.not_true, Bool.not_false]) | ((with_reducible apply And.intro); focus (first | trivial | omega | decide | (simp -implicitDefEqProofs only [maxLen]; omega) | (simp [maxLen, sty_len, nd_len, ndL_len, lnL_len, intsL_len, rvs_len, lensS_len]; done) | (simp [maxLen, sty_len, nd_len, ndL_len, lnL_len, intsL_len, rvs_len, lensS_len]; omega))) | fail)
      refine (hK _ _ _ _ [some m] (ent_refl _ _) ?_).2
      simp [retM, nodupL, newL, allU, keptL, retP, resL, lk, resT, RnHo, lkp, finU, hget_zero, hget_succ, hget, rnRows_rvs, rn_tup, rn_rv, rn_row, rn_ptr, rn_ifc, rn_agg, rn_dead, RnAll, ofL, rnAll_map]
      exact ⟨by simp [rvs], fun i x y hx => by simp at hx⟩
    · repeat' (first | (simp -implicitDefEqProofs only [go_sem, ↓reduceIte, Nat.reduceEqDiff, Nat.reduceAdd, Nat.reduceSub, Nat.reduceMul, Nat.reduceLeDiff, Nat.reduceLT, reduceCtorEq, Int.reduceToNat, rvs_fold]) | (with_reducible refine g_noent ?_) | (refine cdS (fun hg => ?_) (fun hg => ?_) <;> try simp -implicitDefEqProofs only [hg, Bool.not_true, Bool.not_false]) | (refine gdS (fun hg => ?_) (fun hg => ?_) <;> try simp -implicitDefEqProofs only [hg, Bool.not_true, Bool.not_false]) | (refine gddS (fun hg => ?_) (fun hg => ?_) <;> try simp -implicitDefEqProofs only [hg, Bool.not_true, Bool.not_false]) | ((with_reducible apply And.intro); focus (first | trivial | omega | decide | (simp -implicitDefEqProofs only [maxLen]; omega) | (simp [maxLen, sty_len, nd_len, ndL_len, lnL_len, intsL_len, rvs_len, lensS_len]; done) | (simp [maxLen, sty_len, nd_len, ndL_len, lnL_len, intsL_len, rvs_len, lensS_len]; omega))) | fail)
      refine (hK _ _ _ _ [some m] (ent_refl _ _) ?_).2
      simp [retM, nodupL, newL, allU, keptL, retP, resL, lk, resT, RnHo, lkp, finU, hget_zero, hget_succ, hget, rnRows_rvs, rn_tup, rn_rv, rn_row, rn_ptr, rn_ifc, rn_agg, rn_dead, RnAll, ofL, rnAll_map]
  by_cases h0 : xs = []
  · subst h0
    refine @callR_split _ _ _ [] [] _ _ _ ?_ (nz _ (.inl ⟨rfl, rfl⟩))
    show CallR _ _ [.rv .nilsl] _ _ _
    refine callR_M k_slices_Clone_Node [] [] [] [.rv .nilsl] [.rv .nilsl] _ _ (by simp) (by simp [BkAll, bk_ptr, bk_row, bk_rv, bk_agg, bk_ifc, bk_fn, bk_tup, bk_dead, BkHs, rvs_inj, nodupL]) rfl (by simp [nodupL]) (by simp [BkHs]) (fun K hK => ?_)
    simp -implicitDefEqProofs only [c_slices_Clone_Node, go_sem, ↓reduceIte, Nat.reduceEqDiff, Nat.reduceAdd, Nat.reduceSub, Nat.reduceMul, Nat.reduceLeDiff, Nat.reduceLT, reduceCtorEq, Int.reduceToNat]
    repeat' (first | (simp -implicitDefEqProofs only [go_sem, ↓reduceIte, Nat.reduceEqDiff, Nat.reduceAdd, Nat.reduceSub, Nat.reduceMul, Nat.reduceLeDiff, Nat.reduceLT, reduceCtorEq, Int.reduceToNat]) | (with_reducible refine g_noent ?_) | (refine cdS (fun hg => ?_) (fun hg => ?_) <;> try simp -implicitDefEqProofs only [hg, Bool.not_true, Bool.not_false]) | (refine gdS (fun hg => ?_) (fun hg => ?_) <;> try simp -implicitDefEqProofs only [hg, Bool.not_true, Bool.not_false]) | (refine gddS (fun hg => ?_) (fun hg => ?_) <;> try simp -implicitDefEqProofs only [hg, Bool.not_true, Bool.not_false]) | ((with_reducible apply And.intro); focus (first | trivial | omega | decide | (simp -implicitDefEqProofs only [maxLen]; omega) | (simp [maxLen, sty_len, nd_len, ndL_len, lnL_len, intsL_len, rvs_len, lensS_len]; done) | (simp [maxLen, sty_len, nd_len, ndL_len, lnL_len, intsL_len, rvs_len, lensS_len]; omega))) | fail)
    refine (hK _ _ _ _ [some m] (ent_ghostv 2 49 1 rfl) ?_).2
    simp [retM, nodupL, newL, allU, keptL, retP, resL, lk, resT, RnHo, lkp, finU, hget_zero, hget_succ, hget, rnRows_rvs, rn_tup, rn_rv, rn_row, rn_ptr, rn_ifc, rn_agg, rn_dead, RnAll, ofL, rnAll_map]
    exact ⟨by simp [rvs], fun i x y hx => by simp at hx⟩
  · exact nz _ (.inr ⟨rfl, List.length_pos_iff.2 h0⟩)

theorem sp_Clone_int (xs : List (List RV)) (m : Nat) (hb : xs.length ≤ 8589934592) : CallR Go.Proofs.Try.prog 73 [.rv (.sl 1 xs)] [] [(m, .row 1 1 (rvs xs))] (.row m 1 xs.length) := by
  have nz : ∀ r : RV, (r = .slz ∧ xs = []) ∨ (r = .sl 1 xs ∧ 0 < xs.length) → CallR Go.Proofs.Try.prog 73 [.rv r] [] [(m, .row 1 1 (rvs xs))] (.row m 1 xs.length) := fun r hr => by
    refine callR_M k_slices_Clone_int [] [] [] [.rv r] [.rv r] _ _ (by simp) (by simp [BkAll, bk_ptr, bk_row, bk_rv, bk_agg, bk_ifc, bk_fn, bk_tup, bk_dead, BkHs, rvs_inj, nodupL]) rfl (by simp [nodupL]) (by simp [BkHs]) (fun K hK => ?_)
    simp -implicitDefEqProofs only [c_slices_Clone_int, go_sem, ↓reduceIte, Nat.reduceEqDiff, Nat.reduceAdd, Nat.reduceSub, Nat.reduceMul, Nat.reduceLeDiff, Nat.reduceLT, reduceCtorEq, Int.reduceToNat]
    rcases hr with ⟨rfl, rfl⟩ | ⟨rfl, h0⟩
    · repeat' (first | (simp -implicitDefEqProofs only [go_sem, ↓reduceIte, Nat.reduceEqDiff, Nat.reduceAdd, Nat.reduceSub, Nat.reduceMul, Nat.reduceLeDiff, Nat.reduceLT, reduceCtorEq, Int.reduceToNat]) | (with_reducible refine g_noent ?_) | (refine cdS (fun hg => ?_) (fun hg => ?_) <;> try simp -implicitDefEqProofs only [hg, Bool.not_true, Bool.not_false]) | (refine gdS (fun hg => ?_) (fun hg => ?_) <;> try simp -implicitDefEqProofs only [hg, Bool.not_true, Bool.not_false]) | (refine gddS (fun hg => ?_) (fun hg => ?_) <;> try simp -implicitDefEqProofs only [hg, Bool.not_true, Bool.not_false]) | ((with_reducible apply And.intro); focus (first | trivial | omega | decide | (simp -implicitDefEqProofs only [maxLen]; omega) | (simp [maxLen, sty_len, nd_len, ndL_len, lnL_len, intsL_len, rvs_len, lensS_len]; done) | (simp [maxLen, sty_len, nd_len, ndL_len, lnL_len, intsL_len, rvs_len, lensS_len]; omega))) | fail)
      refine (hK _ _ _ _ [some m] (ent_refl _ _) ?_).2
      simp [retM, nodupL, newL, allU, keptL, retP, resL, lk, resT, RnHo, lkp, finU, hget_zero, hget_succ, hget, rnRows_rvs, rn_tup, rn_rv, rn_row, rn_ptr, rn_ifc, rn_agg, rn_dead, RnAll, ofL, rnAll_map]
      exact ⟨by simp [rvs], fun i x y hx => by simp at hx⟩
    · repeat' (first | (simp -implicitDefEqProofs only [go_sem, ↓reduceIte, Nat.reduceEqDiff, Nat.reduceAdd, Nat.reduceSub, Nat.reduceMul, Nat.reduceLeDiff, Nat.reduceLT, reduceCtorEq, Int.reduceToNat, rvs_fold]) | (with_reducible refine g_noent ?_) | (refine cdS (fun hg => ?_) (fun hg => ?_) <;> try simp -implicitDefEqProofs only [hg, Bool.not_true, Bool.not_false]) | (refine gdS (fun hg => ?_) (fun hg => ?_) <;> try simp -implicitDefEqProofs only [hg, Bool.not_true, Bool.not_false]) | (refine gddS (fun hg => ?_) (fun hg => ?_) <;> try simp -implicitDefEqProofs only [hg, Bool.not_true, Bool.not_false]) | ((with_reducible apply And.intro); focus (first | trivial | omega | decide | (simp -implicitDefEqProofs only [maxLen]; omega) | (simp [maxLen, sty_len, nd_len, ndL_len, lnL_len, intsL_len, rvs_len, lensS_len]; done) | (simp [maxLen, sty_len, nd_len, ndL_len, lnL_len, intsL_len, rvs_len, lensS_len]; omega))) | fail)
      refine (hK _ _ _ _ [some m] (ent_refl _ _) ?_).2
      simp [retM, nodupL, newL, allU, keptL, retP, resL, lk, resT, RnHo, lkp, finU, hget_zero, hget_succ, hget, rnRows_rvs, rn_tup, rn_rv, rn_row, rn_ptr, rn_ifc, rn_agg, rn_dead, RnAll, ofL, rnAll_map]
  by_cases h0 : xs = []
  · subst h0
    refine @callR_split _ _ _ [] [] _ _ _ ?_ (nz _ (.inl ⟨rfl, rfl⟩))
    show CallR _ _ [.rv .nilsl] _ _ _
    refine callR_M k_slices_Clone_int [] [] [] [.rv .nilsl] [.rv .nilsl] _ _ (by simp) (by simp [BkAll, bk_ptr, bk_row, bk_rv, bk_agg, bk_ifc, bk_fn, bk_tup, bk_dead, BkHs, rvs_inj, nodupL]) rfl (by simp [nodupL]) (by simp [BkHs]) (fun K hK => ?_)
    simp -implicitDefEqProofs only [c_slices_Clone_int, go_sem, ↓reduceIte, Nat.reduceEqDiff, Nat.reduceAdd, Nat.reduceSub, Nat.reduceMul, Nat.reduceLeDiff, Nat.reduceLT, reduceCtorEq, Int.reduceToNat]
    repeat' (first | (simp -implicitDefEqProofs only [go_sem, ↓reduceIte, Nat.reduceEqDiff, Nat.reduceAdd, Nat.reduceSub, Nat.reduceMul, Nat.reduceLeDiff, Nat.reduceLT, reduceCtorEq, Int.reduceToNat]) | (with_reducible refine g_noent ?_) | (refine cdS (fun hg => ?_) (fun hg => ?_) <;> try simp -implicitDefEqProofs only [hg, Bool.not_true, Bool.not_false]) | (refine gdS (fun hg => ?_) (fun hg => ?_) <;> try simp -implicitDefEqProofs only [hg, Bool.not_true, Bool.not_false]) | (refine gddS (fun hg => ?_) (fun hg => ?_) <;> try simp -implicitDefEqProofs only [hg, Bool.not_true, Bool.not_false]) | ((with_reducible apply And.intro); focus (first | trivial | omega | decide | (simp -implicitDefEqProofs only [maxLen]; omega) | (simp [maxLen, sty_len, nd_len, ndL_len, lnL_len, intsL_len, rvs_len, lensS_len]; done) | (simp [maxLen, sty_len, nd_len, ndL_len, lnL_len, intsL_len, rvs_len, lensS_len]; omega))) | fail)
    refine (hK _ _ _ _ [some m] (ent_ghostv 2 1 1 rfl) ?_).2
    simp [retM, nodupL, newL, allU, keptL, retP, resL, lk, resT, RnHo, lkp, finU, hget_zero, hget_succ, hget, rnRows_rvs, rn_tup, rn_rv, rn_row, rn_ptr, rn_ifc, rn_agg, rn_dead, RnAll, ofL, rnAll_map]
    exact ⟨by simp [rvs], fun i x y hx => by simp at hx⟩
  · exact nz _ (.inr ⟨rfl, List.length_pos_iff.2 h0⟩)
end Go.Eng

/- kin: of a list. -/
namespace Go.Eng
open Go
/- decoupage/kin.Of -/
def c_kin_Of : AC := (.seq (.reg [⟨(some 2), .mv, [(.c (.rv .nilp))], none⟩, ⟨(some 3), .mv, [(.c (.rv (.int .i64 0)))], none⟩]) (.seq (.seq (.reg [⟨(some 10), .mv, [(.t 0)], none⟩, ⟨(some 11), (.call 61), [(.t 10)], none⟩, ⟨(some 4), .mv, [(.t 11)], none⟩]) (.seq (.reg [⟨(some 12), .mv, [(.t 4)], none⟩, ⟨(some 13), (.ibin .neq), [(.t 12), (.c (.rv (.int .i64 0)))], none⟩]) (.cond (.t 13) (.seq (.reg [⟨(some 14), .mv, [(.t 4)], none⟩, ⟨(some 2), .mv, [(.c (.rv .nilp))], none⟩, ⟨(some 3), .mv, [(.t 14)], none⟩]) .ret) .skip))) (.seq (.regd [0, 1, 0, 4, 12, 0, 32, 96, 0, 256, 768, 0, 2048, 6144, 16383, 32767, 65535] [⟨(some 15), .mv, [(.t 0)], none⟩, ⟨(some 16), (.call 62), [(.t 15)], none⟩, ⟨(some 17), .mv, [(.t 0)], none⟩, ⟨(some 18), .len, [(.t 17)], none⟩, ⟨(some 19), (.mksl 1 24 [.nilsl]), [(.t 18), (.t 18)], none⟩, ⟨(some 20), .mv, [(.t 0)], none⟩, ⟨(some 21), .len, [(.t 20)], none⟩, ⟨(some 22), (.mksl 1 8 [(.int .i64 0)]), [(.t 21), (.t 21)], none⟩, ⟨(some 23), .mv, [(.t 0)], none⟩, ⟨(some 24), .len, [(.t 23)], none⟩, ⟨(some 25), (.mksl 1 8 [(.int .i64 0)]), [(.t 24), (.t 24)], none⟩, ⟨(some 26), .mv, [(.t 0)], none⟩, ⟨(some 27), .len, [(.t 26)], none⟩, ⟨(some 28), (.mksl 1 1 [(.bool false)]), [(.t 27), (.t 27)], none⟩, ⟨(some 29), (.build [.nilsl, .nilsl, .nilsl, .nilsl, .nilsl] [(0, 1), (1, 1), (2, 1), (3, 1), (4, 1)]), [(.t 16), (.t 19), (.t 22), (.t 25), (.t 28)], none⟩, ⟨(some 30), .box, [(.t 29)], none⟩, ⟨(some 5), .mv, [(.t 30)], none⟩]) (.seq (.seq (.reg [⟨(some 31), .mv, [(.t 0)], none⟩, ⟨(some 32), .len, [(.t 31)], none⟩, ⟨(some 33), .mv, [(.c (.rv (.int .i64 0)))], none⟩]) (.seq (.block 0 (.loop (.seq (.reg [⟨(some 34), (.ibin .lss), [(.t 33), (.t 32)], none⟩]) (.seq (.cond (.t 34) .skip (.exit 0)) (.seq (.seq (.block 1 (.seq (.reg [⟨(some 35), .mv, [(.t 33)], none⟩, ⟨(some 36), (.ixs 49), [(.t 31), (.t 33)], none⟩, ⟨(some 37), (.load 49 true), [(.t 36)], none⟩, ⟨(some 7), (.alloc [(.bool false), (.int .i64 0), (.int .i64 0), (.int .i64 0), (.int .i64 0), (.int .i64 0), (.int .i64 0), (.int .i64 0), (.int .i64 0), (.int .i64 0), (.int .i64 0), (.int .i64 0), (.int .i64 0), (.int .i64 0), (.int .i64 0), (.int .i64 0), (.int .i64 0), (.int .i64 0), (.int .i64 0), (.int .i64 0), (.int .i64 0), (.int .i64 0), (.int .i64 0), (.int .i64 0), (.int .i64 0), (.int .i64 0), (.int .i64 0), (.int .i64 0), (.int .i64 0), (.int .i64 0), (.int .i64 0), (.int .i64 0), (.int .i64 0), (.int .i64 0), (.int .i64 0), (.int .i64 0), (.int .i64 0), (.int .i64 0), (.int .i64 0), (.int .i64 0), (.int .i64 0), (.int .i64 0), (.bool false), (.bool false), (.int .i64 0), (.bool false), (.int .i64 0), (.int .i64 0), (.int .i64 0)]), [], none⟩, ⟨(some 6), .mv, [(.t 35)], none⟩, ⟨none, (.store 49), [(.t 7), (.t 37)], none⟩]) (.seq (.regd [0, 1, 3, 7, 0, 0, 32, 96, 224, 0, 0, 1024, 3072, 511, 8703, 32767, 65535] [⟨(some 38), .mv, [(.t 5)], none⟩, ⟨(some 39), .nilchk, [(.t 38)], none⟩, ⟨(some 40), (.fld 3), [(.t 39)], none⟩, ⟨(some 41), (.load 1 false), [(.t 40)], none⟩, ⟨(some 42), .mv, [(.t 6)], none⟩, ⟨(some 43), .mv, [(.t 5)], none⟩, ⟨(some 44), .nilchk, [(.t 43)], none⟩, ⟨(some 45), (.fld 4), [(.t 44)], none⟩, ⟨(some 46), (.load 1 false), [(.t 45)], none⟩, ⟨(some 47), .mv, [(.t 6)], none⟩, ⟨(some 48), (.fld 0), [(.t 7)], none⟩, ⟨(some 49), (.fld 0), [(.t 48)], none⟩, ⟨(some 50), (.load 1 false), [(.t 49)], none⟩, ⟨(some 51), (.ixs 1), [(.t 41), (.t 42)], none⟩, ⟨none, (.store 1), [(.t 51), (.c (.rv (.int .i64 1)))], none⟩, ⟨(some 52), (.ixs 1), [(.t 46), (.t 47)], none⟩, ⟨none, (.store 1), [(.t 52), (.t 50)], none⟩]) (.seq (.reg [⟨(some 53), .mv, [(.t 6)], none⟩, ⟨(some 54), (.ibin .gtr), [(.t 53), (.c (.rv (.int .i64 0)))], none⟩]) (.seq (.cond (.t 54) (.seq (.regd [0, 1, 3, 7, 0, 16, 0, 64, 192, 448, 0, 1024, 4032, 8128, 0, 16384, 65472, 131071, 262143] [⟨(some 55), .mv, [(.t 5)], none⟩, ⟨(some 56), .nilchk, [(.t 55)], none⟩, ⟨(some 57), (.fld 1), [(.t 56)], none⟩, ⟨(some 58), (.load 1 false), [(.t 57)], none⟩, ⟨(some 59), (.fld 48), [(.t 7)], none⟩, ⟨(some 60), (.load 1 false), [(.t 59)], none⟩, ⟨(some 61), .mv, [(.t 5)], none⟩, ⟨(some 62), .nilchk, [(.t 61)], none⟩, ⟨(some 63), (.fld 1), [(.t 62)], none⟩, ⟨(some 64), (.load 1 false), [(.t 63)], none⟩, ⟨(some 65), (.fld 48), [(.t 7)], none⟩, ⟨(some 66), (.load 1 false), [(.t 65)], none⟩, ⟨(some 67), (.ixs 1), [(.t 64), (.t 66)], none⟩, ⟨(some 68), (.load 1 false), [(.t 67)], none⟩, ⟨(some 69), .mv, [(.t 6)], none⟩, ⟨(some 70), (.bsl 1), [(.t 69)], none⟩, ⟨(some 71), (.app 1 8), [(.t 68), (.t 70)], none⟩, ⟨(some 72), (.ixs 1), [(.t 58), (.t 60)], none⟩, ⟨none, (.store 1), [(.t 72), (.t 71)], none⟩]) (.seq (.regd [0, 1, 3, 7, 0, 0, 32, 96, 224, 0, 512, 2016, 4064, 8160, 16383, 32767] [⟨(some 73), .mv, [(.t 5)], none⟩, ⟨(some 74), .nilchk, [(.t 73)], none⟩, ⟨(some 75), (.fld 3), [(.t 74)], none⟩, ⟨(some 76), (.load 1 false), [(.t 75)], none⟩, ⟨(some 77), .mv, [(.t 6)], none⟩, ⟨(some 78), .mv, [(.t 5)], none⟩, ⟨(some 79), .nilchk, [(.t 78)], none⟩, ⟨(some 80), (.fld 3), [(.t 79)], none⟩, ⟨(some 81), (.load 1 false), [(.t 80)], none⟩, ⟨(some 82), (.fld 48), [(.t 7)], none⟩, ⟨(some 83), (.load 1 false), [(.t 82)], none⟩, ⟨(some 84), (.ixs 1), [(.t 81), (.t 83)], none⟩, ⟨(some 85), (.load 1 false), [(.t 84)], none⟩, ⟨(some 86), (.ibin .add), [(.t 85), (.c (.rv (.int .i64 1)))], none⟩, ⟨(some 87), (.ixs 1), [(.t 76), (.t 77)], none⟩, ⟨none, (.store 1), [(.t 87), (.t 86)], none⟩]) (.regd [0, 1, 3, 7, 0, 0, 32, 96, 224, 480, 992, 2016, 4064, 480, 8672, 32736, 65504, 131040, 262143, 524287] [⟨(some 88), .mv, [(.t 5)], none⟩, ⟨(some 89), .nilchk, [(.t 88)], none⟩, ⟨(some 90), (.fld 4), [(.t 89)], none⟩, ⟨(some 91), (.load 1 false), [(.t 90)], none⟩, ⟨(some 92), .mv, [(.t 6)], none⟩, ⟨(some 93), (.fld 0), [(.t 7)], none⟩, ⟨(some 94), (.fld 0), [(.t 93)], none⟩, ⟨(some 95), (.load 1 false), [(.t 94)], none⟩, ⟨(some 96), .mv, [(.t 95)], none⟩, ⟨(some 97), .mv, [(.t 5)], (some (96, true))⟩, ⟨(some 98), .nilchk, [(.t 97)], (some (96, true))⟩, ⟨(some 99), (.fld 4), [(.t 98)], (some (96, true))⟩, ⟨(some 100), (.load 1 false), [(.t 99)], (some (96, true))⟩, ⟨(some 101), (.fld 48), [(.t 7)], (some (96, true))⟩, ⟨(some 102), (.load 1 false), [(.t 101)], (some (96, true))⟩, ⟨(some 103), (.ixs 1), [(.t 100), (.t 102)], (some (96, true))⟩, ⟨(some 104), (.load 1 false), [(.t 103)], (some (96, true))⟩, ⟨(some 105), .pick, [(.t 96), (.t 104), (.c (.rv (.bool false)))], none⟩, ⟨(some 106), (.ixs 1), [(.t 91), (.t 92)], none⟩, ⟨none, (.store 1), [(.t 106), (.t 105)], none⟩]))) .skip) .ent))))) .ent) (.reg [⟨(some 107), (.ibin .add), [(.t 33), (.c (.rv (.int .i64 1)))], none⟩, ⟨(some 33), .mv, [(.t 107)], none⟩])))))) .ent)) (.seq (.seq (.reg [⟨(some 108), .mv, [(.t 0)], none⟩, ⟨(some 109), .len, [(.t 108)], none⟩, ⟨(some 110), (.ibin .sub), [(.t 109), (.c (.rv (.int .i64 1)))], none⟩, ⟨(some 8), .mv, [(.t 110)], none⟩]) (.seq (.block 2 (.loop (.seq (.seq (.reg [⟨(some 111), .mv, [(.t 8)], none⟩, ⟨(some 112), (.ibin .geq), [(.t 111), (.c (.rv (.int .i64 0)))], none⟩]) (.cond (.t 112) .skip (.exit 2))) (.seq (.seq (.block 3 (.seq (.reg [⟨(some 115), .mv, [(.t 5)], none⟩, ⟨(some 116), .nilchk, [(.t 115)], none⟩, ⟨(some 117), (.fld 2), [(.t 116)], none⟩, ⟨(some 118), (.load 1 false), [(.t 117)], none⟩, ⟨(some 119), .mv, [(.t 8)], none⟩, ⟨(some 120), .mv, [(.t 8)], none⟩, ⟨(some 121), (.ibin .add), [(.t 120), (.c (.rv (.int .i64 1)))], none⟩, ⟨(some 122), (.ixs 1), [(.t 118), (.t 119)], none⟩, ⟨none, (.store 1), [(.t 122), (.t 121)], none⟩]) (.seq (.reg [⟨(some 123), .mv, [(.t 5)], none⟩, ⟨(some 124), .nilchk, [(.t 123)], none⟩, ⟨(some 125), (.fld 1), [(.t 124)], none⟩, ⟨(some 126), (.load 1 false), [(.t 125)], none⟩, ⟨(some 127), .mv, [(.t 8)], none⟩, ⟨(some 128), (.ixs 1), [(.t 126), (.t 127)], none⟩, ⟨(some 129), (.load 1 false), [(.t 128)], none⟩, ⟨(some 130), .len, [(.t 129)], none⟩, ⟨(some 9), .mv, [(.t 130)], none⟩]) (.seq (.reg [⟨(some 131), .mv, [(.t 9)], none⟩, ⟨(some 132), (.ibin .gtr), [(.t 131), (.c (.rv (.int .i64 0)))], none⟩]) (.seq (.cond (.t 132) (.regd [0, 1, 3, 7, 0, 0, 32, 96, 224, 0, 512, 1536, 3584, 0, 15872, 32256, 0, 65536, 261632, 523776, 1048544, 2097120, 4194303, 8388607] [⟨(some 133), .mv, [(.t 5)], none⟩, ⟨(some 134), .nilchk, [(.t 133)], none⟩, ⟨(some 135), (.fld 2), [(.t 134)], none⟩, ⟨(some 136), (.load 1 false), [(.t 135)], none⟩, ⟨(some 137), .mv, [(.t 8)], none⟩, ⟨(some 138), .mv, [(.t 5)], none⟩, ⟨(some 139), .nilchk, [(.t 138)], none⟩, ⟨(some 140), (.fld 2), [(.t 139)], none⟩, ⟨(some 141), (.load 1 false), [(.t 140)], none⟩, ⟨(some 142), .mv, [(.t 5)], none⟩, ⟨(some 143), .nilchk, [(.t 142)], none⟩, ⟨(some 144), (.fld 1), [(.t 143)], none⟩, ⟨(some 145), (.load 1 false), [(.t 144)], none⟩, ⟨(some 146), .mv, [(.t 8)], none⟩, ⟨(some 147), (.ixs 1), [(.t 145), (.t 146)], none⟩, ⟨(some 148), (.load 1 false), [(.t 147)], none⟩, ⟨(some 149), .mv, [(.t 9)], none⟩, ⟨(some 150), (.ibin .sub), [(.t 149), (.c (.rv (.int .i64 1)))], none⟩, ⟨(some 151), (.ixs 1), [(.t 148), (.t 150)], none⟩, ⟨(some 152), (.load 1 false), [(.t 151)], none⟩, ⟨(some 153), (.ixs 1), [(.t 141), (.t 152)], none⟩, ⟨(some 154), (.load 1 false), [(.t 153)], none⟩, ⟨(some 155), (.ixs 1), [(.t 136), (.t 137)], none⟩, ⟨none, (.store 1), [(.t 155), (.t 154)], none⟩]) .skip) .ent))))) .ent) (.reg [⟨(some 113), .mv, [(.t 8)], none⟩, ⟨(some 114), (.ibin .sub), [(.t 113), (.c (.rv (.int .i64 1)))], none⟩, ⟨(some 8), .mv, [(.t 114)], none⟩]))))) .ent)) (.seq (.reg [⟨(some 156), .mv, [(.t 5)], none⟩, ⟨(some 2), .mv, [(.t 156)], none⟩, ⟨(some 3), .mv, [(.c (.rv (.int .i64 0)))], none⟩]) .ret))))))
theorem k_kin_Of : FnOK Go.Proofs.Try.prog 17 157 c_kin_Of [(.t 2), (.t 3)] := fnOK_of (by kernel_rfl)


def natsI (l : List Nat) : List Int := l.map fun (n : Nat) => (n : Int)
def boolL (bs : List Bool) : List (List RV) := bs.map fun b => [.bool b]
theorem boolL_len (bs : List Bool) : (boolL bs).length = bs.length := by simp [boolL]
theorem boolL_getD {bs : List Bool} {i : Nat} (h : i < bs.length) : (boolL bs)[i]?.getD [] = [.bool (bs.getD i false)] := by simp [boolL, h]
theorem rvs_setB {ys : List Bool} {k : Nat} {v : Bool} : (rvs (boolL ys)).set k [.rv (.bool v)] = rvs (boolL (ys.set k v)) := by simp [rvs, boolL, List.map_set]
theorem rvs_repB {n : Nat} : List.replicate n [SV.rv (.bool false)] = rvs (boolL (List.replicate n false)) := by simp [rvs, boolL]
theorem boolL_one (l : List Bool) : ∀ x ∈ boolL l, ∀ r ∈ x, r.one = true := by
  intro x hx r hr
  obtain ⟨n, _, rfl⟩ := List.mem_map.1 hx
  simp at hr; rw [hr]; rfl

def madeTo (l : List Nd) (k : Nat) : List Bool := (List.range l.length).map fun j => if j < k then madeS l j else false
theorem madeTo_len (l : List Nd) (k : Nat) : (madeTo l k).length = l.length := by simp [madeTo]
theorem madeTo_zero (l : List Nd) : madeTo l 0 = List.replicate l.length false := by
  refine List.ext_getElem (by simp [madeTo]) (fun i h1 h2 => ?_)
  simp [madeTo]
theorem madeTo_set {l : List Nd} {k : Nat} (hk : k < l.length) : (madeTo l k).set k (madeS l k) = madeTo l (k + 1) := by
  refine List.ext_getElem (by simp [madeTo]) (fun i h1 h2 => ?_)
  simp -implicitDefEqProofs only [List.getElem_set, madeTo, List.getElem_map, List.getElem_range]
  by_cases h : k = i
  · subst h; simp
  · rw [if_neg h]
    by_cases hi : i < k
    · rw [if_pos hi, if_pos (by omega)]
    · rw [if_neg hi, if_neg (by omega)]
theorem madeTo_get {l : List Nd} {k j : Nat} {b : Bool} (hj : j < k) (hl : j < l.length) : ((madeTo l k).set k b).getD j false = madeS l j := by
  rw [List.getD_eq_getElem?_getD, List.getElem?_set_ne (by omega)]
  simp [madeTo, hl, hj]

def kTab (l : List Nd) (k : Nat) : List (List SV) := (List.range l.length).map fun p => [.row (p + 6) (kidsTo l k p).length (kidsTo l k p).length]
def kRows (l : List Nd) (k : Nat) : List (Option HB) := (List.range l.length).map fun p => some (.row 1 (kidsTo l k p).length (rvs (intsL (natsI (kidsTo l k p)))))
theorem kTab_len (l : List Nd) (k : Nat) : (kTab l k).length = l.length := by simp [kTab]
theorem kRows_len (l : List Nd) (k : Nat) : (kRows l k).length = l.length := by simp [kRows]
theorem kTab_get {l : List Nd} {k p : Nat} (hp : p < l.length) : (kTab l k)[p]?.getD [] = [.row (p + 6) (kidsTo l k p).length (kidsTo l k p).length] := by simp [kTab, hp]
theorem kRows_get {l : List Nd} {k p : Nat} {C : List (Option HB)} (hp : p < l.length) : hget (kRows l k ++ C) p = some (.row 1 (kidsTo l k p).length (rvs (intsL (natsI (kidsTo l k p))))) := by
  unfold hget
  rw [List.getElem?_append_left (by rw [kRows_len]; exact hp)]
  simp [kRows, hp]
theorem kRows_end {l : List Nd} {k : Nat} {x : Option HB} {C : List (Option HB)} : hget (kRows l k ++ x :: C) l.length = x := by
  unfold hget
  rw [List.getElem?_append_right (by rw [kRows_len]; exact Nat.le_refl _), kRows_len]
  simp
theorem kRows_end1 {l : List Nd} {k : Nat} {x y : Option HB} {C : List (Option HB)} : hget (kRows l k ++ x :: y :: C) (l.length + 1) = y := by
  unfold hget
  rw [List.getElem?_append_right (by rw [kRows_len]; omega), kRows_len, show l.length + 1 - l.length = 1 by omega]
  simp
theorem kRows_end2 {l : List Nd} {k p : Nat} {hb : Option HB} {x y : Option HB} {C : List (Option HB)} : hget ((kRows l k).set p hb ++ x :: C) l.length = x := by
  unfold hget
  rw [List.getElem?_append_right (by rw [List.length_set, kRows_len]; exact Nat.le_refl _), List.length_set, kRows_len]
  simp
theorem kRows_setE {l : List Nd} {k : Nat} {x y : Option HB} {C : List (Option HB)} : (kRows l k ++ x :: C).set l.length y = kRows l k ++ y :: C := by
  rw [List.set_append_right _ _ (by rw [kRows_len]; exact Nat.le_refl _), kRows_len, Nat.sub_self]; rfl
theorem kRows_setP {l : List Nd} {k p : Nat} {y : Option HB} {C : List (Option HB)} (hp : p < l.length) : (kRows l k ++ C).set p y = (kRows l k).set p y ++ C := by
  rw [List.set_append_left _ _ (by rw [kRows_len]; exact hp)]
theorem kRows_zero (l : List Nd) : kRows l 0 = ghRows l.length 1 := by
  refine List.ext_getElem (by simp [kRows, ghRows]) (fun i h1 h2 => ?_)
  simp [kRows, ghRows, kidsTo_zero, natsI, intsL, rvs]
theorem kTab_zero (l : List Nd) : kTab l 0 = ghTab 6 l.length l.length := by
  refine List.ext_getElem (by simp [kTab, ghTab]) (fun i h1 h2 => ?_)
  simp [kTab] at h1
  simp [kTab, ghTab, kidsTo_zero, h1]; omega
theorem kRows_next {l : List Nd} {k p : Nat} (h0 : 0 < k) (hp : parL l k = p) (hl : p < l.length) :
    (kRows l k).set p (some (.row 1 ((kidsTo l k p).length + 1) (rvs (intsL (natsI (kidsTo l k p) ++ [(k : Int)]))))) = kRows l (k + 1) := by
  refine List.ext_getElem (by simp [kRows]) (fun i h1 h2 => ?_)
  simp -implicitDefEqProofs only [List.getElem_set, kRows, List.getElem_map, List.getElem_range, kidsTo_succ]
  by_cases h : p = i
  · subst h; simp [h0, hp, natsI]
  · rw [if_neg h, if_neg (by rw [hp]; omega)]; simp
theorem kTab_next {l : List Nd} {k p : Nat} (h0 : 0 < k) (hp : parL l k = p) (hl : p < l.length) :
    (kTab l k).set p [.row (p + 6) ((kidsTo l k p).length + 1) ((kidsTo l k p).length + 1)] = kTab l (k + 1) := by
  refine List.ext_getElem (by simp [kTab]) (fun i h1 h2 => ?_)
  simp -implicitDefEqProofs only [List.getElem_set, kTab, List.getElem_map, List.getElem_range, kidsTo_succ]
  by_cases h : p = i
  · subst h; simp [h0, hp]
  · rw [if_neg h, if_neg (by rw [hp]; omega)]; simp
theorem kRows_first (l : List Nd) : kRows l 1 = kRows l 0 := by
  refine List.ext_getElem (by simp [kRows]) (fun i h1 h2 => ?_)
  simp [kRows, kidsTo, List.range_succ]
theorem kTab_first (l : List Nd) : kTab l 1 = kTab l 0 := by
  refine List.ext_getElem (by simp [kTab]) (fun i h1 h2 => ?_)
  simp [kTab, kidsTo, List.range_succ]

def kidsL (l : List Nd) : List (List RV) := (List.range l.length).map fun p => [.sl 1 (intsL (natsI (kidsOf l p)))]
def endsL (l : List Nd) : List Int := (List.range l.length).map fun n => (endS l n : Int)
/-- The Kin of a list that is a tree. -/
abbrev kinV (l : List Nd) : RV := .rop [.sl 49 (ndL l), .sl 1 (kidsL l), .sl 1 (intsL (endsL l)), .sl 1 (intsL (depTo l l.length)), .sl 1 (boolL (madeTo l l.length))]

def kHeap (l : List Nd) (k : Nat) (es ds : List Int) (bs : List Bool) : List (Option HB) := some (.row 49 1 (rvs (ndL l))) :: some (.row 1 0 (kTab l k)) :: some (.row 1 0 (rvs (intsL es))) :: some (.row 1 0 (rvs (intsL ds))) :: some (.row 1 0 (rvs (boolL bs))) :: some (.var [.row 0 1 l.length, .row 1 0 l.length, .row 2 0 l.length, .row 3 0 l.length, .row 4 0 l.length]) :: kRows l k
theorem kHeap_len {l : List Nd} {k : Nat} {es ds : List Int} {bs : List Bool} : (kHeap l k es ds bs).length = l.length + 6 := by simp [kHeap, kRows_len]
theorem kHeap_cl {l : List Nd} {k : Nat} {es ds : List Int} {bs : List Bool} : AllSome (ClH (l.length + 6)) (kHeap l k es ds bs) := by
  refine ⟨clH_rvs, fun i x hx => ?_, clH_rvs, clH_rvs, clH_rvs, by simp [ClH, ClA, clS_row], AllSome.of fun j x hx => ?_⟩
  · obtain ⟨hl, rfl⟩ := List.getElem?_eq_some_iff.1 hx
    simp [kTab_len] at hl
    simp [kTab, ClA, clS_row, hl]
  · obtain ⟨hl, rfl⟩ := List.getElem?_eq_some_iff.1 hx
    exact ⟨.row 1 (kidsTo l k j).length (rvs (intsL (natsI (kidsTo l k j)))), by simp [kRows], clH_rvs⟩
theorem kHeap_tail {l : List Nd} {k : Nat} {es ds : List Int} {bs : List Bool} {env env' : List (Nat × SV)} {C : List (Option HB)} (he : ClEnv (l.length + 6) env env') : Ent 0 ⟨env, kHeap l k es ds bs ++ C⟩ ⟨env', kHeap l k es ds bs⟩ :=
  ent_tail (Nat.zero_le _) (by rw [kHeap_len]; exact kHeap_cl) (by rw [kHeap_len]; exact he)

def endTo (l : List Nd) (k : Nat) : List Int := (List.range l.length).map fun j => if k ≤ j then (endS l j : Int) else 0
theorem endTo_len (l : List Nd) (k : Nat) : (endTo l k).length = l.length := by simp [endTo]
theorem endTo_top (l : List Nd) : endTo l l.length = List.replicate l.length 0 := by
  refine List.ext_getElem (by simp [endTo]) (fun i h1 h2 => ?_)
  simp [endTo] at h1
  simp [endTo]; omega
theorem endTo_zero (l : List Nd) : endTo l 0 = endsL l := by simp [endTo, endsL]
theorem endTo_set {l : List Nd} {k : Nat} (hk : 0 < k) (hl : k ≤ l.length) : (endTo l k).set (k - 1) (endS l (k - 1)) = endTo l (k - 1) := by
  refine List.ext_getElem (by simp [endTo]) (fun i h1 h2 => ?_)
  simp -implicitDefEqProofs only [List.getElem_set, endTo, List.getElem_map, List.getElem_range]
  by_cases h : k - 1 = i
  · subst h; simp
  · rw [if_neg h]
    by_cases hi : k ≤ i
    · rw [if_pos hi, if_pos (by omega)]
    · rw [if_neg hi, if_neg (by omega)]
theorem endTo_get {l : List Nd} {k j : Nat} {v : Int} (hj : k ≤ j) (hk : 0 < k) (hl : j < l.length) : ((endTo l k).set (k - 1) v).getD j 0 = endS l j := by
  rw [List.getD_eq_getElem?_getD, List.getElem?_set_ne (by omega)]
  simp [endTo, hl, hj]

theorem fz_rows {τ : Nat → Option Nat} {h : Hp} {j e ver len : Nat} {xs : List (List RV)} (hj : h j = some (.row e ver (rvs xs))) (hτ : τ j = none) (hl : len = xs.length) (h1 : ∀ x ∈ xs, ∀ r ∈ x, r.one = true) : Fz τ h (.row j ver len) (.sl e xs) := by
  have := fz_row (τ := τ) hj hτ (len := len) (by omega) h1
  rw [hl, List.take_length] at this
  rw [hl]; exact this
theorem kin_fz (l : List Nd) : Fz (fun _ => none) (hget (kHeap l l.length (endsL l) (depTo l l.length) (madeTo l l.length))) (.ptr 5 0) (kinV l) := by
  refine .ptr 5 [.row 0 1 l.length, .row 1 0 l.length, .row 2 0 l.length, .row 3 0 l.length, .row 4 0 l.length] _ rfl rfl rfl (fun i r hr => ?_) (fun i x r hx hr => ?_)
  · match i with
    | 0 => cases hr; rfl
    | 1 => cases hr; rfl
    | 2 => cases hr; rfl
    | 3 => cases hr; rfl
    | 4 => cases hr; rfl
    | i + 5 => simp at hr
  · match i with
    | 0 => cases hx; cases hr; exact fz_rows rfl rfl (by simp [ndL]) (ndL_one l)
    | 1 =>
      cases hx; cases hr
      refine .row 1 1 0 l.length (kTab l l.length) (kidsL l) rfl rfl (by simp [kidsL]) (by rw [kTab_len]; exact Nat.le_refl _) (fun i x r hx hr => ?_) (fun i r k q hr hq => ?_) (fun i x r k y q hx hr hy hq => ?_)
      · obtain ⟨_, rfl⟩ := List.getElem?_eq_some_iff.1 hx
        obtain ⟨_, rfl⟩ := List.getElem?_eq_some_iff.1 hr
        simp [kTab, kidsL]
      · obtain ⟨_, rfl⟩ := List.getElem?_eq_some_iff.1 hr
        have := List.mem_of_getElem? hq
        simp [kidsL] at this
        rw [this]; rfl
      · obtain ⟨hl, rfl⟩ := List.getElem?_eq_some_iff.1 hx
        obtain ⟨_, rfl⟩ := List.getElem?_eq_some_iff.1 hr
        rw [kTab_len] at hl
        cases k with
        | succ k => simp [kTab] at hy
        | zero =>
          simp [kTab] at hy
          simp [kidsL] at hq
          subst hy; subst hq
          refine fz_rows (xs := intsL (natsI (kidsOf l i))) ?_ rfl (by simp [intsL, natsI, kidsOf]) (intsL_one _)
          have := kRows_get (k := l.length) (C := []) hl
          rw [List.append_nil] at this
          exact this
    | 2 => cases hx; cases hr; exact fz_rows rfl rfl (by simp [intsL, endsL]) (intsL_one _)
    | 3 => cases hx; cases hr; exact fz_rows rfl rfl (by simp [intsL, depTo]) (intsL_one _)
    | 4 => cases hx; cases hr; exact fz_rows rfl rfl (by simp [boolL, madeTo]) (boolL_one _)
    | i + 5 => simp at hx

theorem nd_at0 (x : Nd) : (x.cells.map SV.rv)[0]? = some (.rv (.bool x.s.shown)) := rfl
set_option maxRecDepth 20000 in
set_option maxHeartbeats 8000000 in
theorem sp_kin_Of (l : List Nd) (hb : l.length ≤ 8589934592) (hc : chk l = 0) : CallR Go.Proofs.Try.prog 17 [.rv (.sl 49 (ndL l))] [] [] (.tup [.rv (kinV l), .rv (.int .i64 0)]) := by
  refine callR_G k_kin_Of [.rv (.sl 49 (ndL l))] _ (by simp) (by simp [BkAll, bk_agg, bkAll_map, bk_rv, bk_fn, Sty.sv, Ln.sv, Nd.sv]) (fun K hK => ?_)
  have hlen := ndL_len l
  have hck := sp_tree_Check l hb
  rw [hc] at hck
  have ht : treeOK l = true := by
    unfold chk at hc
    cases h : treeOK l with
    | true => rfl
    | false => rw [h] at hc; simp at hc
  have hs : Shp l := shape_iff.1 (by unfold treeOK at ht; simp -implicitDefEqProofs only [Bool.and_eq_true] at ht; exact ht.1)
  have e00 : (((0 : Int)) != 0) = false := rfl
  simp -implicitDefEqProofs only [c_kin_Of, go_sem, ↓reduceIte, Nat.reduceEqDiff, Nat.reduceAdd, Nat.reduceSub, Nat.reduceMul, Nat.reduceLeDiff, Nat.reduceLT, reduceCtorEq, Int.reduceToNat]
  have hb2 : (ndL l).length ≤ 8589934592 := by rw [hlen]; exact hb
  have hcall1 := hck; have hcall2 := sp_Clone_Node (ndL l) 0 hb2; repeat' (first | (simp -implicitDefEqProofs only [go_sem, ↓reduceIte, Nat.reduceEqDiff, Nat.reduceAdd, Nat.reduceSub, Nat.reduceMul, Nat.reduceLeDiff, Nat.reduceLT, reduceCtorEq, Int.reduceToNat, e00, hlen, rvs_rep1, rvs_repB]) | (with_reducible refine g_noent ?_) | (with_reducible refine g_call0 hcall1 ?_) | (with_reducible refine g_calld0 hcall1 ?_) | (refine g_call hcall2 (by simp [PreOK, hget]; done) (by simp [okU, uph]; done) ?_) | (refine g_calld hcall2 (by simp [PreOK, hget]; done) (by simp [okU, uph]; done) ?_) | (refine cdS (fun hg => ?_) (fun hg => ?_) <;> try simp -implicitDefEqProofs only [hg, Bool.not_true, Bool.not_false]) | (refine gdS (fun hg => ?_) (fun hg => ?_) <;> try simp -implicitDefEqProofs only [hg, Bool.not_true, Bool.not_false]) | (refine gddS (fun hg => ?_) (fun hg => ?_) <;> try simp -implicitDefEqProofs only [hg, Bool.not_true, Bool.not_false]) | ((with_reducible apply And.intro); focus (first | trivial | omega | decide | (simp -implicitDefEqProofs only [maxLen]; omega) | (simp [maxLen, sty_len, nd_len, ndL_len, lnL_len, intsL_len, rvs_len, lensS_len]; done) | (simp [maxLen, sty_len, nd_len, ndL_len, lnL_len, intsL_len, rvs_len, lensS_len]; omega))) | fail)
  have hkt : ∀ n : Nat, kTab l 0 = ghTab 6 l.length l.length := fun _ => kTab_zero l
  let ev : Nat → List (Nat × SV) := fun k => [(33, .rv (.int .i64 k)), (32, .rv (.int .i64 l.length)), (31, .rv (.sl 49 (ndL l))), (5, .ptr 5 0), (0, .rv (.sl 49 (ndL l)))]
  refine g_loop (ι := Nat) (fun k => [(33, .rv (.int .i64 k)), (32, .rv (.int .i64 l.length)), (31, .rv (.sl 49 (ndL l))), (5, .ptr 5 0), (0, .rv (.sl 49 (ndL l)))]) (fun k => some (.row 49 1 (rvs (ndL l))) :: some (.row 1 0 (kTab l k)) :: some (.row 1 0 (rvs (intsL (List.replicate l.length 0)))) :: some (.row 1 0 (rvs (intsL (depTo l k)))) :: some (.row 1 0 (rvs (boolL (madeTo l k)))) :: some (.var [.row 0 1 l.length, .row 1 0 l.length, .row 2 0 l.length, .row 3 0 l.length, .row 4 0 l.length]) :: kRows l k) (fun k => k ≤ l.length) (fun k => l.length - k) 0 (by simp) ?_ (fun k hk K' hN hX hR => ?_)
  · refine (ent_env (env' := [(33, .rv (.int .i64 0)), (32, .rv (.int .i64 l.length)), (31, .rv (.sl 49 (ndL l))), (5, .ptr 5 0), (0, .rv (.sl 49 (ndL l)))]) (by simp [lk])).trans ?_
    rw [kTab_zero, kRows_zero, depTo_zero, madeTo_zero]
    exact ent_ghosts (r := 1) (v := 0) (n := l.length) (e := 1) rfl
  simp -implicitDefEqProofs only [go_sem, ↓reduceIte, Nat.reduceEqDiff, Nat.reduceAdd, Nat.reduceSub, Nat.reduceMul, Nat.reduceLeDiff, Nat.reduceLT, reduceCtorEq, Int.reduceToNat]
  refine cdS (fun hg => ?_) (fun hg => ?_)
  · have hk4 : k < l.length := by simp at hg; omega
    have hx := ndL_get hk4
    have krl := kRows_len l k
    have hdl := depTo_len l k
    have hdd := intsL_len (depTo l k)
    have hd1 := intsL_getD (l := depTo l k) (i := k) (by omega)
    have hml := madeTo_len l k
    have hmm := boolL_len (madeTo l k)
    have hm1 := boolL_getD (bs := madeTo l k) (i := k) (by omega)
    have hsh := shownL_eq hk4
    have e1 : (l.length = l.length + 1) = False := eq_false (by omega)
    have e2 : (l.length = l.length + 2) = False := eq_false (by omega)
    have hds := depTo_set hk4
    have hds2 := depTo_set2 hk4
    have wu := wrap_up (k := k) (by omega)
    by_cases hk0 : 0 < k
    · have hgt : decide ((k : Int) > 0) = true := decide_eq_true (by omega)
      obtain ⟨p1, p2⟩ := hs.wf.2 k hk0 hk4
      obtain ⟨p, hp⟩ : ∃ p : Nat, parL l k = p := ⟨(parL l k).toNat, by omega⟩
      have hpl : p < l.length := by omega
      have q0 : (p = l.length) = False := eq_false (by omega)
      have q1 : (p = l.length + 1) = False := eq_false (by omega)
      have q2 : (p = l.length + 2) = False := eq_false (by omega)
      have hpk := parL_eq hk4
      have hds3 : (depTo l k).set k 1 = (depTo l k).set k 1 := rfl
      have hdsl : ((depTo l k).set k 1).length = l.length := by simp [hdl]
      have hdsl2 := intsL_len ((depTo l k).set k 1)
      have hdp := intsL_getD (l := (depTo l k).set k 1) (i := p) (by omega)
      have hdk := intsL_getD (l := (depTo l k).set k 1) (i := k) (by omega)
      rw [depTo_get (by omega) (by omega)] at hdp
      have hdep := depth_par hs.wf hk0 hk4
      rw [hp, Int.toNat_natCast] at hdep
      have wd := wrap_up (k := depth l p) (by have := pth_len (l := l) p; unfold depth; omega)
      rw [← hdep] at wd
      obtain ⟨b, hsv⟩ : ∃ b, shownL l k = b := ⟨_, rfl⟩
      have hmp := boolL_getD (bs := (madeTo l k).set k b) (i := p) (by simp [hml]; omega)
      have hmk := boolL_getD (bs := (madeTo l k).set k b) (i := k) (by simp [hml]; omega)
      rw [madeTo_get (by omega) (by omega)] at hmp
      have hmsl : ((madeTo l k).set k b).length = l.length := by simp [hml]
      have hmsl2 := boolL_len ((madeTo l k).set k b)
      have hms : ((madeTo l k).set k b).set k (b && madeS l p) = madeTo l (k + 1) := by
        have := madeS_par hs.wf hk0 hk4
        rw [hp, Int.toNat_natCast, hsv] at this
        rw [List.set_set, ← this, madeTo_set hk4]
      have hktl := kTab_len l k
      have hktg := kTab_get (k := k) hpl
      have hkrg := fun C => kRows_get (k := k) (C := C) hpl
      have hkn := kRows_next hk0 hp hpl
      have htn := kTab_next hk0 hp hpl
      have hsp := fun (y : Option HB) C => kRows_setP (k := k) (y := y) (C := C) hpl
      have hkl : (natsI (kidsTo l k p)).length = (kidsTo l k p).length := by simp [natsI]
      have hkl2 := intsL_len (natsI (kidsTo l k p))
      have htk : (intsL (natsI (kidsTo l k p))).take (kidsTo l k p).length = intsL (natsI (kidsTo l k p)) := List.take_of_length_le (by rw [hkl2, hkl]; exact Nat.le_refl _)
      have hkk := kidsTo_len (l := l) (k := k) (p := p)
      cases b
      all_goals simp -implicitDefEqProofs only [Bool.false_and, Bool.true_and] at hms
      · repeat' (first | (simp -implicitDefEqProofs only [go_sem, ↓reduceIte, Nat.reduceEqDiff, Nat.reduceAdd, Nat.reduceSub, Nat.reduceMul, Nat.reduceLeDiff, Nat.reduceLT, reduceCtorEq, Int.reduceToNat, hlen, hx, krl, nd_len, nd_sv48, Nat.add_assoc, kRows_end, List.append_assoc, hdl, hdd, hd1, hml, hmm, hm1, rvs_set1, rvs_setB, nd_at0, hsh, hsv, e1, e2, kRows_setE, hgt, hpk, hp, nd_atp, hktl, hktg, hkrg, q0, q1, q2, hsp, kRows_end1, kRows_end2, hkl, hkl2, htk, rvs_app1, hkn, htn, hdsl, hdsl2, hdp, hdk, wd, hds2, wu, hmp, hmk, hmsl, hmsl2]) | (with_reducible refine g_noent ?_) | (refine cdS (fun hg => ?_) (fun hg => ?_) <;> try simp -implicitDefEqProofs only [hg, Bool.not_true, Bool.not_false]) | (refine gdS (fun hg => ?_) (fun hg => ?_) <;> try simp -implicitDefEqProofs only [hg, Bool.not_true, Bool.not_false]) | (refine gddS (fun hg => ?_) (fun hg => ?_) <;> try simp -implicitDefEqProofs only [hg, Bool.not_true, Bool.not_false]) | ((with_reducible apply And.intro); focus (first | trivial | omega | decide | (simp -implicitDefEqProofs only [maxLen]; omega) | (simp [maxLen, sty_len, nd_len, ndL_len, lnL_len, intsL_len, rvs_len, lensS_len]; done) | (simp [maxLen, sty_len, nd_len, ndL_len, lnL_len, intsL_len, rvs_len, lensS_len]; omega) | (simp (decide := true) [compatB, compatB1, apartT, disj, Nat.testBit, q0, q1, q2]; done))) | fail)
        rw [hms]
        exact hN (k + 1) _ _ (by omega) (by omega) (kHeap_tail (l := l) (k := k + 1) (by simp [ClEnv, lk, clS_rv, clS_ptr]))
      · repeat' (first | (simp -implicitDefEqProofs only [go_sem, ↓reduceIte, Nat.reduceEqDiff, Nat.reduceAdd, Nat.reduceSub, Nat.reduceMul, Nat.reduceLeDiff, Nat.reduceLT, reduceCtorEq, Int.reduceToNat, hlen, hx, krl, nd_len, nd_sv48, Nat.add_assoc, kRows_end, List.append_assoc, hdl, hdd, hd1, hml, hmm, hm1, rvs_set1, rvs_setB, nd_at0, hsh, hsv, e1, e2, kRows_setE, hgt, hpk, hp, nd_atp, hktl, hktg, hkrg, q0, q1, q2, hsp, kRows_end1, kRows_end2, hkl, hkl2, htk, rvs_app1, hkn, htn, hdsl, hdsl2, hdp, hdk, wd, hds2, wu, hmp, hmk, hmsl, hmsl2]) | (with_reducible refine g_noent ?_) | (refine cdS (fun hg => ?_) (fun hg => ?_) <;> try simp -implicitDefEqProofs only [hg, Bool.not_true, Bool.not_false]) | (refine gdS (fun hg => ?_) (fun hg => ?_) <;> try simp -implicitDefEqProofs only [hg, Bool.not_true, Bool.not_false]) | (refine gddS (fun hg => ?_) (fun hg => ?_) <;> try simp -implicitDefEqProofs only [hg, Bool.not_true, Bool.not_false]) | ((with_reducible apply And.intro); focus (first | trivial | omega | decide | (simp -implicitDefEqProofs only [maxLen]; omega) | (simp [maxLen, sty_len, nd_len, ndL_len, lnL_len, intsL_len, rvs_len, lensS_len]; done) | (simp [maxLen, sty_len, nd_len, ndL_len, lnL_len, intsL_len, rvs_len, lensS_len]; omega) | (simp (decide := true) [compatB, compatB1, apartT, disj, Nat.testBit, q0, q1, q2]; done))) | fail)
        rw [hms]
        exact hN (k + 1) _ _ (by omega) (by omega) (kHeap_tail (l := l) (k := k + 1) (by simp [ClEnv, lk, clS_rv, clS_ptr]))
    · obtain rfl : k = 0 := by omega
      have hgt : decide (((0 : Nat) : Int) > 0) = false := rfl
      rw [depth_zero] at hds
      have hms := madeTo_set hk4
      rw [madeS_zero] at hms
      have hds1 : (depTo l 0).set 0 1 = depTo l (0 + 1) := hds
      repeat' (first | (simp -implicitDefEqProofs only [go_sem, ↓reduceIte, Nat.reduceEqDiff, Nat.reduceAdd, Nat.reduceSub, Nat.reduceMul, Nat.reduceLeDiff, Nat.reduceLT, reduceCtorEq, Int.reduceToNat, hlen, hx, krl, nd_len, nd_sv48, Nat.add_assoc, kRows_end, List.append_assoc, hdl, hdd, hd1, hml, hmm, hm1, rvs_set1, rvs_setB, nd_at0, hsh, e1, e2, kRows_setE, hgt, wu, hms, hds1]) | (with_reducible refine g_noent ?_) | (refine cdS (fun hg => ?_) (fun hg => ?_) <;> try simp -implicitDefEqProofs only [hg, Bool.not_true, Bool.not_false]) | (refine gdS (fun hg => ?_) (fun hg => ?_) <;> try simp -implicitDefEqProofs only [hg, Bool.not_true, Bool.not_false]) | (refine gddS (fun hg => ?_) (fun hg => ?_) <;> try simp -implicitDefEqProofs only [hg, Bool.not_true, Bool.not_false]) | ((with_reducible apply And.intro); focus (first | trivial | omega | decide | (simp -implicitDefEqProofs only [maxLen]; omega) | (simp [maxLen, sty_len, nd_len, ndL_len, lnL_len, intsL_len, rvs_len, lensS_len]; done) | (simp [maxLen, sty_len, nd_len, ndL_len, lnL_len, intsL_len, rvs_len, lensS_len]; omega))) | fail)
      refine hN 1 _ _ (by omega) (by omega) ?_
      rw [kTab_first, kRows_first]
      exact kHeap_tail (l := l) (k := 0) (es := List.replicate l.length 0) (ds := depTo l (0 + 1)) (bs := madeTo l (0 + 1)) (C := [some (.var ((l[0]'hk4).cells.map .rv))]) (by simp [ClEnv, lk, clS_rv, clS_ptr])
  · have hk4 : k = l.length := by simp at hg; omega
    subst hk4
    simp -implicitDefEqProofs only [go_sem, ↓reduceIte, Nat.reduceEqDiff, Nat.reduceAdd, Nat.reduceSub, Nat.reduceMul, Nat.reduceLeDiff, Nat.reduceLT, reduceCtorEq, Int.reduceToNat]
    refine hX _ _ _ ?_
    have wl := wrap_dn hs.pos (by omega)
    repeat' (first | (simp -implicitDefEqProofs only [go_sem, ↓reduceIte, Nat.reduceEqDiff, Nat.reduceAdd, Nat.reduceSub, Nat.reduceMul, Nat.reduceLeDiff, Nat.reduceLT, reduceCtorEq, Int.reduceToNat, hlen, wl]) | (with_reducible refine g_noent ?_) | (refine cdS (fun hg => ?_) (fun hg => ?_) <;> try simp -implicitDefEqProofs only [hg, Bool.not_true, Bool.not_false]) | (refine gdS (fun hg => ?_) (fun hg => ?_) <;> try simp -implicitDefEqProofs only [hg, Bool.not_true, Bool.not_false]) | (refine gddS (fun hg => ?_) (fun hg => ?_) <;> try simp -implicitDefEqProofs only [hg, Bool.not_true, Bool.not_false]) | ((with_reducible apply And.intro); focus (first | trivial | omega | decide | (simp -implicitDefEqProofs only [maxLen]; omega) | (simp [maxLen, sty_len, nd_len, ndL_len, lnL_len, intsL_len, rvs_len, lensS_len]; done) | (simp [maxLen, sty_len, nd_len, ndL_len, lnL_len, intsL_len, rvs_len, lensS_len]; omega))) | fail)
    clear hN hX hR
    refine g_loop (ι := Nat) (fun k => [(8, .rv (.int .i64 ((k : Int) - 1))), (5, .ptr 5 0)]) (fun k => kHeap l l.length (endTo l k) (depTo l l.length) (madeTo l l.length)) (fun k => k ≤ l.length) (fun k => k) l.length (Nat.le_refl _) (by rw [endTo_top]; exact ent_env (by simp [lk]; have := hs.pos; omega)) (fun k hk K' hN hX hR => ?_)
    simp -implicitDefEqProofs only [kHeap, go_sem, ↓reduceIte, Nat.reduceEqDiff, Nat.reduceAdd, Nat.reduceSub, Nat.reduceMul, Nat.reduceLeDiff, Nat.reduceLT, reduceCtorEq, Int.reduceToNat]
    refine cdS (fun hg => ?_) (fun hg => ?_)
    · have hk0 : 0 < k := by simp at hg; omega
      obtain ⟨j, rfl⟩ : ∃ j, k = j + 1 := ⟨k - 1, by omega⟩
      have ej : (((j + 1 : Nat) : Int) - 1) = (j : Int) := by omega
      have wj := wrap_up (k := j) (by omega)
      have hjl : j < l.length := by omega
      have hel := endTo_len l (j + 1)
      have hell := intsL_len (endTo l (j + 1))
      have he1 := intsL_getD (l := endTo l (j + 1)) (i := j) (by omega)
      have hktl := kTab_len l l.length
      have hktg := kTab_get (k := l.length) hjl
      have hkrg := kRows_get (k := l.length) (C := []) hjl
      simp -implicitDefEqProofs only [List.append_nil] at hkrg
      have hkl : (natsI (kidsTo l l.length j)).length = (kidsTo l l.length j).length := by simp [natsI]
      have hkl2 := intsL_len (natsI (kidsTo l l.length j))
      have hkk := kidsTo_len (l := l) (k := l.length) (p := j)
      have hsl : ((endTo l (j + 1)).set j ((j + 1 : Nat) : Int)).length = l.length := by simp [hel]
      have hsll := intsL_len ((endTo l (j + 1)).set j ((j + 1 : Nat) : Int))
      have hse := endTo_set (l := l) (k := j + 1) (by omega) (by omega)
      simp -implicitDefEqProofs only [Nat.add_sub_cancel] at hse
      have wd : IntKind.i64.wrap ((j : Int) - 1) = ((j : Int) - 1) := wrap_i64 (by omega) (by omega)
      by_cases hk1 : kidsTo l l.length j = []
      · have hm0 : decide ((((kidsTo l l.length j).length : Nat) : Int) > 0) = false := by rw [hk1]; rfl
        have he := endS_leaf hk1
        rw [he] at hse
        repeat' (first | (simp -implicitDefEqProofs only [go_sem, ↓reduceIte, Nat.reduceEqDiff, Nat.reduceAdd, Nat.reduceSub, Nat.reduceMul, Nat.reduceLeDiff, Nat.reduceLT, reduceCtorEq, Int.reduceToNat, hel, hell, he1, hktl, hktg, hkrg, ej, wj, hm0, rvs_set1, hse, wd]) | (with_reducible refine g_noent ?_) | (refine cdS (fun hg => ?_) (fun hg => ?_) <;> try simp -implicitDefEqProofs only [hg, Bool.not_true, Bool.not_false]) | (refine gdS (fun hg => ?_) (fun hg => ?_) <;> try simp -implicitDefEqProofs only [hg, Bool.not_true, Bool.not_false]) | (refine gddS (fun hg => ?_) (fun hg => ?_) <;> try simp -implicitDefEqProofs only [hg, Bool.not_true, Bool.not_false]) | ((with_reducible apply And.intro); focus (first | trivial | omega | decide | (simp -implicitDefEqProofs only [maxLen]; omega) | (simp [maxLen, sty_len, nd_len, ndL_len, lnL_len, intsL_len, rvs_len, lensS_len]; done) | (simp [maxLen, sty_len, nd_len, ndL_len, lnL_len, intsL_len, rvs_len, lensS_len]; omega))) | fail)
        refine hN j _ _ (by omega) (by omega) (ent_env (by simp [lk]))
      · obtain ⟨c, hc⟩ : ∃ c, (kidsTo l l.length j).getLast? = some c := by
          cases h : (kidsTo l l.length j).getLast? with
          | none => exact absurd (List.getLast?_eq_none_iff.1 h) hk1
          | some c => exact ⟨c, rfl⟩
        have hpos : 0 < (kidsTo l l.length j).length := List.length_pos_iff.2 hk1
        have hm0 : decide ((((kidsTo l l.length j).length : Nat) : Int) > 0) = true := decide_eq_true (by omega)
        have hcm : c ∈ kidsOf l j := List.mem_of_getLast? hc
        obtain ⟨c1, c2, c3⟩ := mem_kids.1 hcm
        have hcj : j < c := by have := (hs.wf.2 c c1 c2).2; omega
        have he := endS_last hc hcj c2
        rw [he] at hse
        have wm := wrap_dn hpos (by omega)
        have hcg : (natsI (kidsTo l l.length j)).getD ((kidsTo l l.length j).length - 1) 0 = (c : Int) := by
          rw [List.getLast?_eq_getElem?] at hc
          simp [natsI, List.getD_eq_getElem?_getD, hc]
        have hcx := intsL_getD (l := natsI (kidsTo l l.length j)) (i := (kidsTo l l.length j).length - 1) (by omega)
        rw [hcg] at hcx
        have hec := intsL_getD (l := (endTo l (j + 1)).set j ((j + 1 : Nat) : Int)) (i := c) (by omega)
        have hev := endTo_get (l := l) (k := j + 1) (j := c) (v := ((j + 1 : Nat) : Int)) (by omega) (by omega) c2
        simp -implicitDefEqProofs only [Nat.add_sub_cancel] at hev
        rw [hev] at hec
        have hej := intsL_getD (l := (endTo l (j + 1)).set j ((j + 1 : Nat) : Int)) (i := j) (by omega)
        have hset : ((endTo l (j + 1)).set j ((j + 1 : Nat) : Int)).set j (endS l c) = endTo l j := by rw [List.set_set, hse]
        repeat' (first | (simp -implicitDefEqProofs only [go_sem, ↓reduceIte, Nat.reduceEqDiff, Nat.reduceAdd, Nat.reduceSub, Nat.reduceMul, Nat.reduceLeDiff, Nat.reduceLT, reduceCtorEq, Int.reduceToNat, hel, hell, he1, hktl, hktg, hkrg, ej, wj, hm0, rvs_set1, wd, wm, hcx, hec, hej, hset, hsl, hsll, hkl, hkl2]) | (with_reducible refine g_noent ?_) | (refine cdS (fun hg => ?_) (fun hg => ?_) <;> try simp -implicitDefEqProofs only [hg, Bool.not_true, Bool.not_false]) | (refine gdS (fun hg => ?_) (fun hg => ?_) <;> try simp -implicitDefEqProofs only [hg, Bool.not_true, Bool.not_false]) | (refine gddS (fun hg => ?_) (fun hg => ?_) <;> try simp -implicitDefEqProofs only [hg, Bool.not_true, Bool.not_false]) | ((with_reducible apply And.intro); focus (first | trivial | omega | decide | (simp -implicitDefEqProofs only [maxLen]; omega) | (simp [maxLen, sty_len, nd_len, ndL_len, lnL_len, intsL_len, rvs_len, lensS_len]; done) | (simp [maxLen, sty_len, nd_len, ndL_len, lnL_len, intsL_len, rvs_len, lensS_len]; omega))) | fail)
        refine hN j _ _ (by omega) (by omega) (ent_env (by simp [lk]))
    · obtain rfl : k = 0 := by simp at hg; omega
      simp -implicitDefEqProofs only [go_sem, ↓reduceIte, Nat.reduceEqDiff, Nat.reduceAdd, Nat.reduceSub, Nat.reduceMul, Nat.reduceLeDiff, Nat.reduceLT, reduceCtorEq, Int.reduceToNat]
      refine hX _ _ _ ?_
      repeat' (first | (simp -implicitDefEqProofs only [go_sem, ↓reduceIte, Nat.reduceEqDiff, Nat.reduceAdd, Nat.reduceSub, Nat.reduceMul, Nat.reduceLeDiff, Nat.reduceLT, reduceCtorEq, Int.reduceToNat]) | (with_reducible refine g_noent ?_) | (refine cdS (fun hg => ?_) (fun hg => ?_) <;> try simp -implicitDefEqProofs only [hg, Bool.not_true, Bool.not_false]) | (refine gdS (fun hg => ?_) (fun hg => ?_) <;> try simp -implicitDefEqProofs only [hg, Bool.not_true, Bool.not_false]) | (refine gddS (fun hg => ?_) (fun hg => ?_) <;> try simp -implicitDefEqProofs only [hg, Bool.not_true, Bool.not_false]) | ((with_reducible apply And.intro); focus (first | trivial | omega | decide | (simp -implicitDefEqProofs only [maxLen]; omega) | (simp [maxLen, sty_len, nd_len, ndL_len, lnL_len, intsL_len, rvs_len, lensS_len]; done) | (simp [maxLen, sty_len, nd_len, ndL_len, lnL_len, intsL_len, rvs_len, lensS_len]; omega))) | fail)
      refine (hK _ _ ?_).2
      rw [endTo_zero]
      exact ⟨trivial, rn_tup.2 ⟨.fz _ _ (kin_fz l), rn_rv.2 rfl, trivial⟩⟩

end Go.Eng

/- kin: what is told of a node. -/
namespace Go.Eng
open Go
/- (*decoupage/kin.Kin).Len -/
def c_kin_Kin_Len : AC := (.seq (.reg [⟨(some 2), .mv, [(.c (.rv (.int .i64 0)))], none⟩]) (.seq (.seq (.reg [⟨(some 3), .mv, [(.t 0)], none⟩, ⟨(some 4), (.eqnil false), [(.t 3)], none⟩]) (.cond (.t 4) (.seq (.reg [⟨(some 2), .mv, [(.c (.rv (.int .i64 0)))], none⟩]) .ret) .skip)) (.seq (.reg [⟨(some 5), .mv, [(.t 0)], none⟩, ⟨(some 6), .nilchk, [(.t 5)], none⟩, ⟨(some 7), (.fld 0), [(.t 6)], none⟩, ⟨(some 8), (.load 1 false), [(.t 7)], none⟩, ⟨(some 9), .len, [(.t 8)], none⟩, ⟨(some 2), .mv, [(.t 9)], none⟩]) .ret)))
theorem k_kin_Kin_Len : FnOK Go.Proofs.Try.prog 23 10 c_kin_Kin_Len [(.t 2)] := fnOK_of (by kernel_rfl)

/- (*decoupage/kin.Kin).has -/
def c_kin_Kin_has : AC := (.seq (.reg [⟨(some 4), .mv, [(.c (.rv (.bool false)))], none⟩]) (.seq (.reg [⟨(some 5), .mv, [(.t 1)], none⟩, ⟨(some 6), (.ibin .geq), [(.t 5), (.c (.rv (.int .i64 0)))], none⟩, ⟨(some 7), .mv, [(.t 6)], none⟩, ⟨(some 8), .mv, [(.t 1)], (some (7, true))⟩, ⟨(some 9), .mv, [(.t 0)], (some (7, true))⟩, ⟨(some 10), (.call 23), [(.t 9)], (some (7, true))⟩, ⟨(some 11), (.ibin .lss), [(.t 8), (.t 10)], (some (7, true))⟩, ⟨(some 12), .pick, [(.t 7), (.t 11), (.c (.rv (.bool false)))], none⟩, ⟨(some 4), .mv, [(.t 12)], none⟩]) .ret))
theorem k_kin_Kin_has : FnOK Go.Proofs.Try.prog 63 13 c_kin_Kin_has [(.t 4)] := fnOK_of (by kernel_rfl)

/- (*decoupage/kin.Kin).Style -/
def c_kin_Kin_Style : AC := (.seq (.reg [⟨(some 4), (.alloc [(.bool false), (.int .i64 0), (.int .i64 0), (.int .i64 0), (.int .i64 0), (.int .i64 0), (.int .i64 0), (.int .i64 0), (.int .i64 0), (.int .i64 0), (.int .i64 0), (.int .i64 0), (.int .i64 0), (.int .i64 0), (.int .i64 0), (.int .i64 0), (.int .i64 0), (.int .i64 0), (.int .i64 0), (.int .i64 0), (.int .i64 0), (.int .i64 0), (.int .i64 0), (.int .i64 0), (.int .i64 0), (.int .i64 0), (.int .i64 0), (.int .i64 0), (.int .i64 0), (.int .i64 0), (.int .i64 0), (.int .i64 0), (.int .i64 0), (.int .i64 0), (.int .i64 0), (.int .i64 0), (.int .i64 0), (.int .i64 0), (.int .i64 0), (.int .i64 0), (.int .i64 0), (.int .i64 0), (.bool false), (.bool false), (.int .i64 0), (.bool false), (.int .i64 0), (.int .i64 0)]), [], none⟩]) (.seq (.seq (.reg [⟨(some 5), .mv, [(.t 0)], none⟩, ⟨(some 6), .mv, [(.t 1)], none⟩, ⟨(some 7), (.call 63), [(.t 5), (.t 6)], none⟩, ⟨(some 8), .not, [(.t 7)], none⟩]) (.cond (.t 8) (.seq (.reg [⟨(some 9), (.build [(.bool false), (.int .i64 0), (.int .i64 0), (.int .i64 0), (.int .i64 0), (.int .i64 0), (.int .i64 0), (.int .i64 0), (.int .i64 0), (.int .i64 0), (.int .i64 0), (.int .i64 0), (.int .i64 0), (.int .i64 0), (.int .i64 0), (.int .i64 0), (.int .i64 0), (.int .i64 0), (.int .i64 0), (.int .i64 0), (.int .i64 0), (.int .i64 0), (.int .i64 0), (.int .i64 0), (.int .i64 0), (.int .i64 0), (.int .i64 0), (.int .i64 0), (.int .i64 0), (.int .i64 0), (.int .i64 0), (.int .i64 0), (.int .i64 0), (.int .i64 0), (.int .i64 0), (.int .i64 0), (.int .i64 0), (.int .i64 0), (.int .i64 0), (.int .i64 0), (.int .i64 0), (.int .i64 0), (.bool false), (.bool false), (.int .i64 0), (.bool false), (.int .i64 0), (.int .i64 0)] []), [], none⟩, ⟨none, (.store 48), [(.t 4), (.t 9)], none⟩]) .ret) .skip)) (.seq (.reg [⟨(some 10), .mv, [(.t 0)], none⟩, ⟨(some 11), .nilchk, [(.t 10)], none⟩, ⟨(some 12), (.fld 0), [(.t 11)], none⟩, ⟨(some 13), (.load 1 false), [(.t 12)], none⟩, ⟨(some 14), .mv, [(.t 1)], none⟩, ⟨(some 15), (.ixs 49), [(.t 13), (.t 14)], none⟩, ⟨(some 16), (.fld 0), [(.t 15)], none⟩, ⟨(some 17), (.load 48 true), [(.t 16)], none⟩, ⟨none, (.store 48), [(.t 4), (.t 17)], none⟩]) .ret)))
theorem k_kin_Kin_Style : FnOK Go.Proofs.Try.prog 26 18 c_kin_Kin_Style [(.c 4 48 true)] := fnOK_of (by kernel_rfl)

/- (*decoupage/kin.Kin).Made -/
def c_kin_Kin_Made : AC := (.seq (.reg [⟨(some 4), .mv, [(.c (.rv (.bool false)))], none⟩]) (.seq (.reg [⟨(some 5), .mv, [(.t 0)], none⟩, ⟨(some 6), .mv, [(.t 1)], none⟩, ⟨(some 7), (.call 63), [(.t 5), (.t 6)], none⟩, ⟨(some 8), .mv, [(.t 7)], none⟩, ⟨(some 9), .mv, [(.t 0)], (some (8, true))⟩, ⟨(some 10), .nilchk, [(.t 9)], (some (8, true))⟩, ⟨(some 11), (.fld 4), [(.t 10)], (some (8, true))⟩, ⟨(some 12), (.load 1 false), [(.t 11)], (some (8, true))⟩, ⟨(some 13), .mv, [(.t 1)], (some (8, true))⟩, ⟨(some 14), (.ixs 1), [(.t 12), (.t 13)], (some (8, true))⟩, ⟨(some 15), (.load 1 false), [(.t 14)], (some (8, true))⟩, ⟨(some 16), .pick, [(.t 8), (.t 15), (.c (.rv (.bool false)))], none⟩, ⟨(some 4), .mv, [(.t 16)], none⟩]) .ret))
theorem k_kin_Kin_Made : FnOK Go.Proofs.Try.prog 30 17 c_kin_Kin_Made [(.t 4)] := fnOK_of (by kernel_rfl)

/- (*decoupage/kin.Kin).Out -/
def c_kin_Kin_Out : AC := (.seq (.reg [⟨(some 4), .mv, [(.c (.rv (.bool false)))], none⟩]) (.seq (.reg [⟨(some 5), .mv, [(.t 0)], none⟩, ⟨(some 6), .mv, [(.t 1)], none⟩, ⟨(some 7), (.call 30), [(.t 5), (.t 6)], none⟩, ⟨(some 8), .mv, [(.t 7)], none⟩, ⟨(some 9), .mv, [(.t 1)], (some (8, true))⟩, ⟨(some 10), (.ibin .gtr), [(.t 9), (.c (.rv (.int .i64 0)))], (some (8, true))⟩, ⟨(some 11), .pick, [(.t 8), (.t 10), (.c (.rv (.bool false)))], none⟩, ⟨(some 12), .mv, [(.t 11)], none⟩, ⟨(some 13), .mv, [(.t 0)], (some (12, true))⟩, ⟨(some 14), .nilchk, [(.t 13)], (some (12, true))⟩, ⟨(some 15), (.fld 0), [(.t 14)], (some (12, true))⟩, ⟨(some 16), (.load 1 false), [(.t 15)], (some (12, true))⟩, ⟨(some 17), .mv, [(.t 1)], (some (12, true))⟩, ⟨(some 18), (.ixs 49), [(.t 16), (.t 17)], (some (12, true))⟩, ⟨(some 19), (.fld 0), [(.t 18)], (some (12, true))⟩, ⟨(some 20), (.fld 1), [(.t 19)], (some (12, true))⟩, ⟨(some 21), (.load 1 false), [(.t 20)], (some (12, true))⟩, ⟨(some 22), (.ibin .eql), [(.t 21), (.c (.rv (.int .i64 2)))], (some (12, true))⟩, ⟨(some 23), .mv, [(.t 22)], (some (12, true))⟩, ⟨(some 24), .mv, [(.t 0)], (some (23, false))⟩, ⟨(some 25), .nilchk, [(.t 24)], (some (23, false))⟩, ⟨(some 26), (.fld 0), [(.t 25)], (some (23, false))⟩, ⟨(some 27), (.load 1 false), [(.t 26)], (some (23, false))⟩, ⟨(some 28), .mv, [(.t 1)], (some (23, false))⟩, ⟨(some 29), (.ixs 49), [(.t 27), (.t 28)], (some (23, false))⟩, ⟨(some 30), (.fld 0), [(.t 29)], (some (23, false))⟩, ⟨(some 31), (.fld 1), [(.t 30)], (some (23, false))⟩, ⟨(some 32), (.load 1 false), [(.t 31)], (some (23, false))⟩, ⟨(some 33), (.ibin .eql), [(.t 32), (.c (.rv (.int .i64 3)))], (some (23, false))⟩, ⟨(some 34), .pick, [(.t 23), (.c (.rv (.bool true))), (.t 33)], (some (12, true))⟩, ⟨(some 35), .pick, [(.t 12), (.t 34), (.c (.rv (.bool false)))], none⟩, ⟨(some 4), .mv, [(.t 35)], none⟩]) .ret))
theorem k_kin_Kin_Out : FnOK Go.Proofs.Try.prog 31 36 c_kin_Kin_Out [(.t 4)] := fnOK_of (by kernel_rfl)

def inL (l : List Nd) (n : Int) : Bool := decide (n ≥ 0) && decide (n < l.length)
theorem inL_nat {l : List Nd} {n : Int} (h : inL l n = true) : ∃ k : Nat, n = k ∧ k < l.length := by
  simp [inL] at h; exact ⟨n.toNat, by omega, by omega⟩
theorem inL_of {l : List Nd} {k : Nat} (h : k < l.length) : inL l k = true := by simp [inL, h]
def styAt (l : List Nd) (n : Int) : Sty := if inL l n = true then (l.getD n.toNat default).s else default
def parAt (l : List Nd) (n : Int) : Int := if inL l n = true then parL l n.toNat else -1
def endAt (l : List Nd) (n : Int) : Int := if inL l n = true then endS l n.toNat else 0
def deepAt (l : List Nd) (n : Int) : Int := if inL l n = true then depth l n.toNat else 0
def madeAt (l : List Nd) (n : Int) : Bool := inL l n && madeS l n.toNat
def outAt (l : List Nd) (n : Int) : Bool := madeAt l n && decide (n > 0) && (decide ((styAt l n).position = 2) || decide ((styAt l n).position = 3))
def belowAt (l : List Nd) (a n : Int) : Bool := inL l a && inL l n && decide (n ≥ a) && decide (n < endAt l a)

theorem kidsL_len (l : List Nd) : (kidsL l).length = l.length := by simp [kidsL]
theorem kidsL_get {l : List Nd} {k : Nat} (h : k < l.length) : (kidsL l)[k]?.getD [] = [.sl 1 (intsL (natsI (kidsOf l k)))] := by simp [kidsL, h]
theorem mades_len (l : List Nd) : (boolL (madeTo l l.length)).length = l.length := by simp [boolL, madeTo]
theorem mades_get {l : List Nd} {k : Nat} (h : k < l.length) : (boolL (madeTo l l.length))[k]?.getD [] = [.bool (madeS l k)] := by simp [boolL, madeTo, h]
theorem ret_c {τ : Nat → Option Nat} {h : List (Option HB)} {env : List (Nat × SV)} {a n id : Nat} {rs : List RV} (hl : lk env a = .ptr id 0) (hh : hget h id = some (.var (rs.map .rv))) (hn : rs.length = n) : retP τ (hget h) (.agg (rs.map .rv)) (resL (lk env) (hget h) [.c a n true]) := by
  simp [resL, retP, resT, hl, loadE, hh, hn]
  rw [List.take_of_length_le (by simp [hn])]; exact rn_agg.2 (rnAll_map.2 rfl)

section
variable (l : List Nd) (hb : l.length ≤ 8589934592) (n : Int)

theorem sp_Len : CallR Go.Proofs.Try.prog 23 [.rv (kinV l)] [] [] (.rv (.int .i64 l.length)) := by
  refine callR_G k_kin_Kin_Len [.rv (kinV l)] _ (by simp) (by simp [BkAll, bk_agg, bkAll_map, bk_rv, bk_fn, Sty.sv, Ln.sv, Nd.sv]) (fun K hK => ?_)
  simp -implicitDefEqProofs only [c_kin_Kin_Len, go_sem, ↓reduceIte, Nat.reduceEqDiff, Nat.reduceAdd, Nat.reduceSub, Nat.reduceMul, Nat.reduceLeDiff, Nat.reduceLT, reduceCtorEq, Int.reduceToNat]
  repeat' (first | (simp -implicitDefEqProofs only [go_sem, ↓reduceIte, Nat.reduceEqDiff, Nat.reduceAdd, Nat.reduceSub, Nat.reduceMul, Nat.reduceLeDiff, Nat.reduceLT, reduceCtorEq, Int.reduceToNat, ndL_len, kinV]) | (with_reducible refine g_noent ?_) | (refine cdS (fun hg => ?_) (fun hg => ?_) <;> try simp -implicitDefEqProofs only [hg, Bool.not_true, Bool.not_false]) | (refine gdS (fun hg => ?_) (fun hg => ?_) <;> try simp -implicitDefEqProofs only [hg, Bool.not_true, Bool.not_false]) | (refine gddS (fun hg => ?_) (fun hg => ?_) <;> try simp -implicitDefEqProofs only [hg, Bool.not_true, Bool.not_false]) | ((with_reducible apply And.intro); focus (first | trivial | omega | decide | (simp -implicitDefEqProofs only [maxLen]; omega) | (simp [maxLen, sty_len, nd_len, ndL_len, lnL_len, intsL_len, rvs_len, lensS_len]; done) | (simp [maxLen, sty_len, nd_len, ndL_len, lnL_len, intsL_len, rvs_len, lensS_len]; omega))) | fail)
  exact (hK _ _ (ret_t rfl)).2

theorem sp_has : CallR Go.Proofs.Try.prog 63 [.rv (kinV l), .rv (.int .i64 n)] [] [] (.rv (.bool (inL l n))) := by
  refine callR_G k_kin_Kin_has [.rv (kinV l), .rv (.int .i64 n)] _ (by simp) (by simp [BkAll, bk_agg, bkAll_map, bk_rv, bk_fn, Sty.sv, Ln.sv, Nd.sv]) (fun K hK => ?_)
  simp -implicitDefEqProofs only [c_kin_Kin_has, go_sem, ↓reduceIte, Nat.reduceEqDiff, Nat.reduceAdd, Nat.reduceSub, Nat.reduceMul, Nat.reduceLeDiff, Nat.reduceLT, reduceCtorEq, Int.reduceToNat]
  have hcall1 := sp_Len l; repeat' (first | (simp -implicitDefEqProofs only [go_sem, ↓reduceIte, Nat.reduceEqDiff, Nat.reduceAdd, Nat.reduceSub, Nat.reduceMul, Nat.reduceLeDiff, Nat.reduceLT, reduceCtorEq, Int.reduceToNat]) | (with_reducible refine g_noent ?_) | (with_reducible refine g_call0 hcall1 ?_) | (with_reducible refine g_calld0 hcall1 ?_) | (refine cdS (fun hg => ?_) (fun hg => ?_) <;> try simp -implicitDefEqProofs only [hg, Bool.not_true, Bool.not_false]) | (refine gdS (fun hg => ?_) (fun hg => ?_) <;> try simp -implicitDefEqProofs only [hg, Bool.not_true, Bool.not_false]) | (refine gddS (fun hg => ?_) (fun hg => ?_) <;> try simp -implicitDefEqProofs only [hg, Bool.not_true, Bool.not_false]) | ((with_reducible apply And.intro); focus (first | trivial | omega | decide | (simp -implicitDefEqProofs only [maxLen]; omega) | (simp [maxLen, sty_len, nd_len, ndL_len, lnL_len, intsL_len, rvs_len, lensS_len]; done) | (simp [maxLen, sty_len, nd_len, ndL_len, lnL_len, intsL_len, rvs_len, lensS_len]; omega))) | fail)
  all_goals (try ((first | refine (hK _ _ _ _ [] (ent_refl _ _) ?_).2 | refine (hK _ _ ?_).2 | refine (hK _ _ _ _ [] (ent_refl _ _) ?_).1 | refine (hK _ _ ?_).1 | fail); clear hK; (simp_all [retM, nodupL, newL, allU, keptL, retP, resL, lk, resT, RnHo, lkp, finU, hget_zero, hget_succ, hget, rnRows_rvs, rn_tup, rn_rv, rn_row, rn_ptr, rn_ifc, rn_agg, rn_dead, RnAll, ofL, rnAll_map, beqD, inL]) <;> try omega))

theorem sp_Style : CallR Go.Proofs.Try.prog 26 [.rv (kinV l), .rv (.int .i64 n)] [] [] (styAt l n).sv := by
  refine callR_G k_kin_Kin_Style [.rv (kinV l), .rv (.int .i64 n)] _ (by simp) (by simp [BkAll, bk_agg, bkAll_map, bk_rv, bk_fn, Sty.sv, Ln.sv, Nd.sv]) (fun K hK => ?_)
  have hh := sp_has l n
  simp -implicitDefEqProofs only [c_kin_Kin_Style, go_sem, ↓reduceIte, Nat.reduceEqDiff, Nat.reduceAdd, Nat.reduceSub, Nat.reduceMul, Nat.reduceLeDiff, Nat.reduceLT, reduceCtorEq, Int.reduceToNat]
  cases hi : inL l n with
  | false =>
    rw [hi] at hh
    have hcall2 := hh; repeat' (first | (simp -implicitDefEqProofs only [go_sem, ↓reduceIte, Nat.reduceEqDiff, Nat.reduceAdd, Nat.reduceSub, Nat.reduceMul, Nat.reduceLeDiff, Nat.reduceLT, reduceCtorEq, Int.reduceToNat]) | (with_reducible refine g_noent ?_) | (with_reducible refine g_call0 hcall2 ?_) | (with_reducible refine g_calld0 hcall2 ?_) | (refine cdS (fun hg => ?_) (fun hg => ?_) <;> try simp -implicitDefEqProofs only [hg, Bool.not_true, Bool.not_false]) | (refine gdS (fun hg => ?_) (fun hg => ?_) <;> try simp -implicitDefEqProofs only [hg, Bool.not_true, Bool.not_false]) | (refine gddS (fun hg => ?_) (fun hg => ?_) <;> try simp -implicitDefEqProofs only [hg, Bool.not_true, Bool.not_false]) | ((with_reducible apply And.intro); focus (first | trivial | omega | decide | (simp -implicitDefEqProofs only [maxLen]; omega) | (simp [maxLen, sty_len, nd_len, ndL_len, lnL_len, intsL_len, rvs_len, lensS_len]; done) | (simp [maxLen, sty_len, nd_len, ndL_len, lnL_len, intsL_len, rvs_len, lensS_len]; omega) | (rfl; done) | (exact ⟨rfl, by decide⟩; done))) | fail)
    have hsd : styAt l n = default := by simp [styAt, hi]
    rw [hsd] at hK
    exact (hK _ _ (ret_c rfl rfl rfl)).2
  | true =>
    rw [hi] at hh
    obtain ⟨k, rfl, hk⟩ := inL_nat hi
    have hx := ndL_get hk
    have hlen := ndL_len l
    have hcall3 := hh; repeat' (first | (simp -implicitDefEqProofs only [go_sem, ↓reduceIte, Nat.reduceEqDiff, Nat.reduceAdd, Nat.reduceSub, Nat.reduceMul, Nat.reduceLeDiff, Nat.reduceLT, reduceCtorEq, Int.reduceToNat, hx, hlen, nd_len, sty_len, nd_st, kinV]) | (with_reducible refine g_noent ?_) | (with_reducible refine g_call0 hcall3 ?_) | (with_reducible refine g_calld0 hcall3 ?_) | (refine cdS (fun hg => ?_) (fun hg => ?_) <;> try simp -implicitDefEqProofs only [hg, Bool.not_true, Bool.not_false]) | (refine gdS (fun hg => ?_) (fun hg => ?_) <;> try simp -implicitDefEqProofs only [hg, Bool.not_true, Bool.not_false]) | (refine gddS (fun hg => ?_) (fun hg => ?_) <;> try simp -implicitDefEqProofs only [hg, Bool.not_true, Bool.not_false]) | ((with_reducible apply And.intro); focus (first | trivial | omega | decide | (simp -implicitDefEqProofs only [maxLen]; omega) | (simp [maxLen, sty_len, nd_len, ndL_len, lnL_len, intsL_len, rvs_len, lensS_len]; done) | (simp [maxLen, sty_len, nd_len, ndL_len, lnL_len, intsL_len, rvs_len, lensS_len]; omega))) | fail)
    have hsd : styAt l k = (l[k]'hk).s := by simp [styAt, hi, hk]
    rw [hsd] at hK
    exact (hK _ _ (ret_c rfl rfl rfl)).2

theorem sp_Made : CallR Go.Proofs.Try.prog 30 [.rv (kinV l), .rv (.int .i64 n)] [] [] (.rv (.bool (madeAt l n))) := by
  refine callR_G k_kin_Kin_Made [.rv (kinV l), .rv (.int .i64 n)] _ (by simp) (by simp [BkAll, bk_agg, bkAll_map, bk_rv, bk_fn, Sty.sv, Ln.sv, Nd.sv]) (fun K hK => ?_)
  have hh := sp_has l n
  simp -implicitDefEqProofs only [c_kin_Kin_Made, go_sem, ↓reduceIte, Nat.reduceEqDiff, Nat.reduceAdd, Nat.reduceSub, Nat.reduceMul, Nat.reduceLeDiff, Nat.reduceLT, reduceCtorEq, Int.reduceToNat]
  cases hi : inL l n with
  | false =>
    rw [hi] at hh
    have hcall10 := hh; repeat' (first | (simp -implicitDefEqProofs only [go_sem, ↓reduceIte, Nat.reduceEqDiff, Nat.reduceAdd, Nat.reduceSub, Nat.reduceMul, Nat.reduceLeDiff, Nat.reduceLT, reduceCtorEq, Int.reduceToNat]) | (with_reducible refine g_noent ?_) | (with_reducible refine g_call0 hcall10 ?_) | (with_reducible refine g_calld0 hcall10 ?_) | (refine cdS (fun hg => ?_) (fun hg => ?_) <;> try simp -implicitDefEqProofs only [hg, Bool.not_true, Bool.not_false]) | (refine gdS (fun hg => ?_) (fun hg => ?_) <;> try simp -implicitDefEqProofs only [hg, Bool.not_true, Bool.not_false]) | (refine gddS (fun hg => ?_) (fun hg => ?_) <;> try simp -implicitDefEqProofs only [hg, Bool.not_true, Bool.not_false]) | ((with_reducible apply And.intro); focus (first | trivial | omega | decide | (simp -implicitDefEqProofs only [maxLen]; omega) | (simp [maxLen, sty_len, nd_len, ndL_len, lnL_len, intsL_len, rvs_len, lensS_len]; done) | (simp [maxLen, sty_len, nd_len, ndL_len, lnL_len, intsL_len, rvs_len, lensS_len]; omega))) | fail)
    exact (hK _ _ (ret_t (by simp [madeAt, hi, lk]))).2
  | true =>
    rw [hi] at hh
    obtain ⟨k, rfl, hk⟩ := inL_nat hi
    have hcall11 := hh; repeat' (first | (simp -implicitDefEqProofs only [go_sem, ↓reduceIte, Nat.reduceEqDiff, Nat.reduceAdd, Nat.reduceSub, Nat.reduceMul, Nat.reduceLeDiff, Nat.reduceLT, reduceCtorEq, Int.reduceToNat, mades_len, mades_get hk, kinV]) | (with_reducible refine g_noent ?_) | (with_reducible refine g_call0 hcall11 ?_) | (with_reducible refine g_calld0 hcall11 ?_) | (refine cdS (fun hg => ?_) (fun hg => ?_) <;> try simp -implicitDefEqProofs only [hg, Bool.not_true, Bool.not_false]) | (refine gdS (fun hg => ?_) (fun hg => ?_) <;> try simp -implicitDefEqProofs only [hg, Bool.not_true, Bool.not_false]) | (refine gddS (fun hg => ?_) (fun hg => ?_) <;> try simp -implicitDefEqProofs only [hg, Bool.not_true, Bool.not_false]) | ((with_reducible apply And.intro); focus (first | trivial | omega | decide | (simp -implicitDefEqProofs only [maxLen]; omega) | (simp [maxLen, sty_len, nd_len, ndL_len, lnL_len, intsL_len, rvs_len, lensS_len]; done) | (simp [maxLen, sty_len, nd_len, ndL_len, lnL_len, intsL_len, rvs_len, lensS_len]; omega))) | fail)
    exact (hK _ _ (ret_t (by simp [madeAt, hi, lk]))).2

theorem sp_Out : CallR Go.Proofs.Try.prog 31 [.rv (kinV l), .rv (.int .i64 n)] [] [] (.rv (.bool (outAt l n))) := by
  refine callR_G k_kin_Kin_Out [.rv (kinV l), .rv (.int .i64 n)] _ (by simp) (by simp [BkAll, bk_agg, bkAll_map, bk_rv, bk_fn, Sty.sv, Ln.sv, Nd.sv]) (fun K hK => ?_)
  have hh := sp_Made l n
  simp -implicitDefEqProofs only [c_kin_Kin_Out, go_sem, ↓reduceIte, Nat.reduceEqDiff, Nat.reduceAdd, Nat.reduceSub, Nat.reduceMul, Nat.reduceLeDiff, Nat.reduceLT, reduceCtorEq, Int.reduceToNat]
  cases hi : madeAt l n with
  | false =>
    rw [hi] at hh
    have hcall12 := hh; repeat' (first | (simp -implicitDefEqProofs only [go_sem, ↓reduceIte, Nat.reduceEqDiff, Nat.reduceAdd, Nat.reduceSub, Nat.reduceMul, Nat.reduceLeDiff, Nat.reduceLT, reduceCtorEq, Int.reduceToNat]) | (with_reducible refine g_noent ?_) | (with_reducible refine g_call0 hcall12 ?_) | (with_reducible refine g_calld0 hcall12 ?_) | (refine cdS (fun hg => ?_) (fun hg => ?_) <;> try simp -implicitDefEqProofs only [hg, Bool.not_true, Bool.not_false]) | (refine gdS (fun hg => ?_) (fun hg => ?_) <;> try simp -implicitDefEqProofs only [hg, Bool.not_true, Bool.not_false]) | (refine gddS (fun hg => ?_) (fun hg => ?_) <;> try simp -implicitDefEqProofs only [hg, Bool.not_true, Bool.not_false]) | ((with_reducible apply And.intro); focus (first | trivial | omega | decide | (simp -implicitDefEqProofs only [maxLen]; omega) | (simp [maxLen, sty_len, nd_len, ndL_len, lnL_len, intsL_len, rvs_len, lensS_len]; done) | (simp [maxLen, sty_len, nd_len, ndL_len, lnL_len, intsL_len, rvs_len, lensS_len]; omega))) | fail)
    exact (hK _ _ (ret_t (by simp [outAt, hi, lk]))).2
  | true =>
    rw [hi] at hh
    have hin : inL l n = true := by simp [madeAt] at hi; exact hi.1
    obtain ⟨k, rfl, hk⟩ := inL_nat hin
    have hx := ndL_get hk
    have hlen := ndL_len l
    have hs : styAt l k = (l[k]'hk).s := by simp [styAt, hin, hk]
    have hp : ((l[k]'hk).cells.drop 1)[0]? = some (.int .i64 (l[k]'hk).s.position) := rfl
    have hcall13 := hh; repeat' (first | (simp -implicitDefEqProofs only [go_sem, ↓reduceIte, Nat.reduceEqDiff, Nat.reduceAdd, Nat.reduceSub, Nat.reduceMul, Nat.reduceLeDiff, Nat.reduceLT, reduceCtorEq, Int.reduceToNat, hx, hlen, nd_len, kinV, hp]) | (with_reducible refine g_noent ?_) | (with_reducible refine g_call0 hcall13 ?_) | (with_reducible refine g_calld0 hcall13 ?_) | (refine cdS (fun hg => ?_) (fun hg => ?_) <;> try simp -implicitDefEqProofs only [hg, Bool.not_true, Bool.not_false]) | (refine gdS (fun hg => ?_) (fun hg => ?_) <;> try simp -implicitDefEqProofs only [hg, Bool.not_true, Bool.not_false]) | (refine gddS (fun hg => ?_) (fun hg => ?_) <;> try simp -implicitDefEqProofs only [hg, Bool.not_true, Bool.not_false]) | ((with_reducible apply And.intro); focus (first | trivial | omega | decide | (simp -implicitDefEqProofs only [maxLen]; omega) | (simp [maxLen, sty_len, nd_len, ndL_len, lnL_len, intsL_len, rvs_len, lensS_len]; done) | (simp [maxLen, sty_len, nd_len, ndL_len, lnL_len, intsL_len, rvs_len, lensS_len]; omega))) | fail)
    all_goals (refine (hK _ _ (ret_t ?_)).2; rw [outAt, hi, hs]; clear hK hs hp; simp_all [lk, beqD])

end
end Go.Eng

/- kin: children, and those above. -/
namespace Go.Eng
open Go
/- (*decoupage/kin.Kin).Kids -/
def c_kin_Kin_Kids : AC := (.seq (.reg [⟨(some 4), .mv, [(.c (.rv .nilsl))], none⟩]) (.seq (.seq (.reg [⟨(some 5), .mv, [(.t 0)], none⟩, ⟨(some 6), .mv, [(.t 1)], none⟩, ⟨(some 7), (.call 63), [(.t 5), (.t 6)], none⟩, ⟨(some 8), .not, [(.t 7)], none⟩]) (.cond (.t 8) (.seq (.reg [⟨(some 4), .mv, [(.c (.rv .nilsl))], none⟩]) .ret) .skip)) (.seq (.reg [⟨(some 9), .mv, [(.t 0)], none⟩, ⟨(some 10), .nilchk, [(.t 9)], none⟩, ⟨(some 11), (.fld 1), [(.t 10)], none⟩, ⟨(some 12), (.load 1 false), [(.t 11)], none⟩, ⟨(some 13), .mv, [(.t 1)], none⟩, ⟨(some 14), (.ixs 1), [(.t 12), (.t 13)], none⟩, ⟨(some 15), (.load 1 false), [(.t 14)], none⟩, ⟨(some 16), (.call 73), [(.t 15)], none⟩, ⟨(some 4), .mv, [(.t 16)], none⟩]) .ret)))
theorem k_kin_Kin_Kids : FnOK Go.Proofs.Try.prog 24 17 c_kin_Kin_Kids [(.t 4)] := fnOK_of (by kernel_rfl)

/- (*decoupage/kin.Kin).Flow -/
def c_kin_Kin_Flow : AC := (.seq (.reg [⟨(some 2), .box, [(.t 0)], none⟩, ⟨(some 4), .mv, [(.c (.rv .nilsl))], none⟩]) (.seq (.reg [⟨(some 5), (.load 1 false), [(.t 2)], none⟩, ⟨(some 6), .mv, [(.t 1)], none⟩, ⟨(some 7), (.call 24), [(.t 5), (.t 6)], none⟩, ⟨(some 8), (.mkfn 75), [(.t 2)], none⟩, ⟨(some 9), (.call 74), [(.t 7), (.t 8)], none⟩, ⟨(some 4), .mv, [(.t 9)], none⟩]) .ret))
theorem k_kin_Kin_Flow : FnOK Go.Proofs.Try.prog 27 10 c_kin_Kin_Flow [(.t 4)] := fnOK_of (by kernel_rfl)

/- (*decoupage/kin.Kin).Flow$1 -/
def c_kin_Kin_Flow_1 : AC := (.seq (.reg [⟨(some 3), .mv, [(.c (.rv (.bool false)))], none⟩]) (.seq (.reg [⟨(some 4), (.load 1 false), [(.t 1)], none⟩, ⟨(some 5), .mv, [(.t 0)], none⟩, ⟨(some 6), (.call 30), [(.t 4), (.t 5)], none⟩, ⟨(some 7), .not, [(.t 6)], none⟩, ⟨(some 8), .mv, [(.t 7)], none⟩, ⟨(some 9), (.load 1 false), [(.t 1)], (some (8, false))⟩, ⟨(some 10), .mv, [(.t 0)], (some (8, false))⟩, ⟨(some 11), (.call 31), [(.t 9), (.t 10)], (some (8, false))⟩, ⟨(some 12), .pick, [(.t 8), (.c (.rv (.bool true))), (.t 11)], none⟩, ⟨(some 3), .mv, [(.t 12)], none⟩]) .ret))
theorem k_kin_Kin_Flow_1 : FnOK Go.Proofs.Try.prog 75 13 c_kin_Kin_Flow_1 [(.t 3)] := fnOK_of (by kernel_rfl)

/- slices.IndexFunc[[]int,int] -/
def c_slices_IndexFunc_int : AC := (.seq (.reg [⟨(some 4), .mv, [(.c (.rv (.int .i64 0)))], none⟩]) (.seq (.seq (.reg [⟨(some 6), .mv, [(.t 0)], none⟩, ⟨(some 7), .len, [(.t 6)], none⟩, ⟨(some 8), .mv, [(.c (.rv (.int .i64 0)))], none⟩]) (.seq (.block 0 (.loop (.seq (.reg [⟨(some 9), (.ibin .lss), [(.t 8), (.t 7)], none⟩]) (.seq (.cond (.t 9) .skip (.exit 0)) (.seq (.seq (.block 1 (.seq (.reg [⟨(some 10), .mv, [(.t 8)], none⟩, ⟨(some 5), .mv, [(.t 10)], none⟩]) (.seq (.reg [⟨(some 11), .mv, [(.t 1)], none⟩, ⟨(some 12), .mv, [(.t 0)], none⟩, ⟨(some 13), .mv, [(.t 5)], none⟩, ⟨(some 14), (.ixs 1), [(.t 12), (.t 13)], none⟩, ⟨(some 15), (.load 1 false), [(.t 14)], none⟩, ⟨(some 16), .callv, [(.t 11), (.t 15)], none⟩]) (.cond (.t 16) (.seq (.reg [⟨(some 17), .mv, [(.t 5)], none⟩, ⟨(some 4), .mv, [(.t 17)], none⟩]) .ret) .skip)))) .ent) (.reg [⟨(some 18), (.ibin .add), [(.t 8), (.c (.rv (.int .i64 1)))], none⟩, ⟨(some 8), .mv, [(.t 18)], none⟩])))))) .ent)) (.seq (.reg [⟨(some 4), .mv, [(.c (.rv (.int .i64 (-1))))], none⟩]) .ret)))
theorem k_slices_IndexFunc_int : FnOK Go.Proofs.Try.prog 97 19 c_slices_IndexFunc_int [(.t 4)] := fnOK_of (by kernel_rfl)

/- slices.DeleteFunc[[]int,int] -/
def c_slices_DeleteFunc_int : AC := (.seq (.reg [⟨(some 4), .mv, [(.c (.rv .nilsl))], none⟩]) (.seq (.reg [⟨(some 8), .mv, [(.t 0)], none⟩, ⟨(some 9), .mv, [(.t 1)], none⟩, ⟨(some 10), (.call 97), [(.t 8), (.t 9)], none⟩, ⟨(some 5), .mv, [(.t 10)], none⟩]) (.seq (.seq (.reg [⟨(some 11), .mv, [(.t 5)], none⟩, ⟨(some 12), (.ibin .eql), [(.t 11), (.c (.rv (.int .i64 (-1))))], none⟩]) (.cond (.t 12) (.seq (.reg [⟨(some 13), .mv, [(.t 0)], none⟩, ⟨(some 4), .mv, [(.t 13)], none⟩]) .ret) .skip)) (.seq (.seq (.reg [⟨(some 14), .mv, [(.t 5)], none⟩, ⟨(some 15), (.ibin .add), [(.t 14), (.c (.rv (.int .i64 1)))], none⟩, ⟨(some 6), .mv, [(.t 15)], none⟩]) (.seq (.block 0 (.loop (.seq (.seq (.reg [⟨(some 16), .mv, [(.t 6)], none⟩, ⟨(some 17), .mv, [(.t 0)], none⟩, ⟨(some 18), .len, [(.t 17)], none⟩, ⟨(some 19), (.ibin .lss), [(.t 16), (.t 18)], none⟩]) (.cond (.t 19) .skip (.exit 0))) (.seq (.seq (.block 1 (.seq (.reg [⟨(some 22), .mv, [(.t 0)], none⟩, ⟨(some 23), .mv, [(.t 6)], none⟩, ⟨(some 24), (.ixs 1), [(.t 22), (.t 23)], none⟩, ⟨(some 25), (.load 1 false), [(.t 24)], none⟩, ⟨(some 7), .mv, [(.t 25)], none⟩]) (.seq (.reg [⟨(some 26), .mv, [(.t 1)], none⟩, ⟨(some 27), .mv, [(.t 7)], none⟩, ⟨(some 28), .callv, [(.t 26), (.t 27)], none⟩, ⟨(some 29), .not, [(.t 28)], none⟩]) (.seq (.cond (.t 29) (.seq (.reg [⟨(some 30), .mv, [(.t 0)], none⟩, ⟨(some 31), .mv, [(.t 5)], none⟩, ⟨(some 32), .mv, [(.t 7)], none⟩, ⟨(some 33), (.ixs 1), [(.t 30), (.t 31)], none⟩, ⟨none, (.store 1), [(.t 33), (.t 32)], none⟩]) (.reg [⟨(some 34), .mv, [(.t 5)], none⟩, ⟨(some 35), (.ibin .add), [(.t 34), (.c (.rv (.int .i64 1)))], none⟩, ⟨(some 5), .mv, [(.t 35)], none⟩])) .skip) .ent)))) .ent) (.reg [⟨(some 20), .mv, [(.t 6)], none⟩, ⟨(some 21), (.ibin .add), [(.t 20), (.c (.rv (.int .i64 1)))], none⟩, ⟨(some 6), .mv, [(.t 21)], none⟩]))))) .ent)) (.seq (.reg [⟨(some 36), .mv, [(.t 0)], none⟩, ⟨(some 37), .mv, [(.t 5)], none⟩, ⟨(some 38), (.slc 1 true false), [(.t 36), (.t 37)], none⟩, ⟨none, (.clr 1 [(.int .i64 0)]), [(.t 38)], none⟩]) (.seq (.reg [⟨(some 39), .mv, [(.t 0)], none⟩, ⟨(some 40), .mv, [(.t 5)], none⟩, ⟨(some 41), (.slc 1 false true), [(.t 39), (.t 40)], none⟩, ⟨(some 4), .mv, [(.t 41)], none⟩]) .ret))))))
theorem k_slices_DeleteFunc_int : FnOK Go.Proofs.Try.prog 74 42 c_slices_DeleteFunc_int [(.t 4)] := fnOK_of (by kernel_rfl)


def kidsAt (l : List Nd) (n : Int) : List Nat := if inL l n = true then kidsOf l n.toNat else []
def upAt (l : List Nd) (n : Int) : List Nat := if inL l n = true then (pth l n.toNat).drop 1 else []
def stayAt (l : List Nd) (m : Int) : Bool := madeAt l m && !outAt l m
def flowAt (l : List Nd) (n : Int) : List Nat := (kidsAt l n).filter fun (m : Nat) => stayAt l m
theorem natsI_len (l : List Nat) : (natsI l).length = l.length := by simp [natsI]
theorem kidsAt_len (l : List Nd) (n : Int) : (kidsAt l n).length ≤ l.length := by
  unfold kidsAt; split
  · exact kidsTo_len
  · simp

section
variable (l : List Nd) (hb : l.length ≤ 8589934592) (n : Int)

theorem sp_Kids (m : Nat) (hb : l.length ≤ 8589934592) : CallR Go.Proofs.Try.prog 24 [.rv (kinV l), .rv (.int .i64 n)] [] [(m, .row 1 1 (rvs (intsL (natsI (kidsAt l n)))))] (.row m 1 (kidsAt l n).length) := by
  refine callR_M k_kin_Kin_Kids [] [] [] [.rv (kinV l), .rv (.int .i64 n)] [.rv (kinV l), .rv (.int .i64 n)] _ _ (by simp) (by simp [BkAll, bk_rv]) rfl (by simp [nodupL]) (by simp [BkHs]) (fun K hK => ?_)
  have hh := sp_has l n
  simp -implicitDefEqProofs only [c_kin_Kin_Kids, go_sem, ↓reduceIte, Nat.reduceEqDiff, Nat.reduceAdd, Nat.reduceSub, Nat.reduceMul, Nat.reduceLeDiff, Nat.reduceLT, reduceCtorEq, Int.reduceToNat]
  cases hi : inL l n with
  | false =>
    rw [hi] at hh
    have hk0 : kidsAt l n = [] := by simp [kidsAt, hi]
    have hcall1 := hh; repeat' (first | (simp -implicitDefEqProofs only [go_sem, ↓reduceIte, Nat.reduceEqDiff, Nat.reduceAdd, Nat.reduceSub, Nat.reduceMul, Nat.reduceLeDiff, Nat.reduceLT, reduceCtorEq, Int.reduceToNat]) | (with_reducible refine g_noent ?_) | (with_reducible refine g_call0 hcall1 ?_) | (with_reducible refine g_calld0 hcall1 ?_) | (refine cdS (fun hg => ?_) (fun hg => ?_) <;> try simp -implicitDefEqProofs only [hg, Bool.not_true, Bool.not_false]) | (refine gdS (fun hg => ?_) (fun hg => ?_) <;> try simp -implicitDefEqProofs only [hg, Bool.not_true, Bool.not_false]) | (refine gddS (fun hg => ?_) (fun hg => ?_) <;> try simp -implicitDefEqProofs only [hg, Bool.not_true, Bool.not_false]) | ((with_reducible apply And.intro); focus (first | trivial | omega | decide | (simp -implicitDefEqProofs only [maxLen]; omega) | (simp [maxLen, sty_len, nd_len, ndL_len, lnL_len, intsL_len, rvs_len, lensS_len]; done) | (simp [maxLen, sty_len, nd_len, ndL_len, lnL_len, intsL_len, rvs_len, lensS_len]; omega))) | fail)
    refine (hK _ _ _ _ [some m] (ent_ghostv 4 1 1 rfl) ?_).2
    rw [hk0]
    simp [retM, nodupL, newL, allU, keptL, retP, resL, lk, resT, RnHo, lkp, finU, hget_zero, hget_succ, hget, rnRows_rvs, rn_tup, rn_rv, rn_row, rn_ptr, rn_ifc, rn_agg, rn_dead, RnAll, ofL, rnAll_map]
    exact ⟨by simp [rvs, intsL, natsI], fun i x y hx => by simp at hx⟩
  | true =>
    rw [hi] at hh
    obtain ⟨k, rfl, hk⟩ := inL_nat hi
    have hk0 : kidsAt l k = kidsOf l k := by simp [kidsAt, hi]
    have hkl := kidsTo_len (l := l) (k := l.length) (p := k)
    have hlen : (intsL (natsI (kidsOf l k))).length = (kidsOf l k).length := by simp [intsL, natsI]
    have hlb : (intsL (natsI (kidsOf l k))).length ≤ 8589934592 := by rw [hlen]; unfold kidsOf; omega
    have hkg := kidsL_get hk
    have hcall2 := hh; have hcall3 := sp_Clone_int (intsL (natsI (kidsOf l k))) 0 hlb; repeat' (first | (simp -implicitDefEqProofs only [go_sem, ↓reduceIte, Nat.reduceEqDiff, Nat.reduceAdd, Nat.reduceSub, Nat.reduceMul, Nat.reduceLeDiff, Nat.reduceLT, reduceCtorEq, Int.reduceToNat, kidsL_len, hkg, kinV]) | (with_reducible refine g_noent ?_) | (with_reducible refine g_call0 hcall2 ?_) | (with_reducible refine g_calld0 hcall2 ?_) | (refine g_call hcall3 (by simp [PreOK, hget]; done) (by simp [okU, uph]; done) ?_) | (refine g_calld hcall3 (by simp [PreOK, hget]; done) (by simp [okU, uph]; done) ?_) | (refine cdS (fun hg => ?_) (fun hg => ?_) <;> try simp -implicitDefEqProofs only [hg, Bool.not_true, Bool.not_false]) | (refine gdS (fun hg => ?_) (fun hg => ?_) <;> try simp -implicitDefEqProofs only [hg, Bool.not_true, Bool.not_false]) | (refine gddS (fun hg => ?_) (fun hg => ?_) <;> try simp -implicitDefEqProofs only [hg, Bool.not_true, Bool.not_false]) | ((with_reducible apply And.intro); focus (first | trivial | omega | decide | (simp -implicitDefEqProofs only [maxLen]; omega) | (simp [maxLen, sty_len, nd_len, ndL_len, lnL_len, intsL_len, rvs_len, lensS_len]; done) | (simp [maxLen, sty_len, nd_len, ndL_len, lnL_len, intsL_len, rvs_len, lensS_len]; omega))) | fail)
    refine (hK _ _ _ _ [some m] (ent_refl _ _) ?_).2
    rw [hk0]
    simp [retM, nodupL, newL, allU, keptL, retP, resL, lk, resT, RnHo, lkp, finU, hget_zero, hget_succ, hget, rnRows_rvs, rn_tup, rn_rv, rn_row, rn_ptr, rn_ifc, rn_agg, rn_dead, RnAll, ofL, rnAll_map, hlen]

theorem sp_Flow_1 (m : Int) (j : Nat) : CallR Go.Proofs.Try.prog 75 [.rv (.int .i64 m), .ptr j 0] [(j, .var [.rv (kinV l)])] [] (.rv (.bool (!stayAt l m))) := by
  refine callR_M k_kin_Kin_Flow_1 [j] [.var [.rv (kinV l)]] [.var [.rv (kinV l)]] [.rv (.int .i64 m), .ptr 0 0] [.rv (.int .i64 m), .ptr j 0] _ _ (by simp) (by simp [BkAll, bk_ptr, bk_row, bk_rv, bk_agg, bk_ifc, bk_fn, bk_tup, bk_dead, BkHs, rvs_inj, nodupL]) rfl (by simp [nodupL]) (by simp [BkAll, bk_ptr, bk_row, bk_rv, bk_agg, bk_ifc, bk_fn, bk_tup, bk_dead, BkHs, rvs_inj, nodupL]) (fun K hK => ?_)
  simp -implicitDefEqProofs only [c_kin_Kin_Flow_1, go_sem, ↓reduceIte, Nat.reduceEqDiff, Nat.reduceAdd, Nat.reduceSub, Nat.reduceMul, Nat.reduceLeDiff, Nat.reduceLT, reduceCtorEq, Int.reduceToNat]
  have hcall6 := sp_Made l m; have hcall7 := sp_Out l m; repeat' (first | (simp -implicitDefEqProofs only [go_sem, ↓reduceIte, Nat.reduceEqDiff, Nat.reduceAdd, Nat.reduceSub, Nat.reduceMul, Nat.reduceLeDiff, Nat.reduceLT, reduceCtorEq, Int.reduceToNat]) | (with_reducible refine g_noent ?_) | (with_reducible refine g_call0 hcall6 ?_) | (with_reducible refine g_calld0 hcall6 ?_) | (with_reducible refine g_call0 hcall7 ?_) | (with_reducible refine g_calld0 hcall7 ?_) | (refine cdS (fun hg => ?_) (fun hg => ?_) <;> try simp -implicitDefEqProofs only [hg, Bool.not_true, Bool.not_false]) | (refine gdS (fun hg => ?_) (fun hg => ?_) <;> try simp -implicitDefEqProofs only [hg, Bool.not_true, Bool.not_false]) | (refine gddS (fun hg => ?_) (fun hg => ?_) <;> try simp -implicitDefEqProofs only [hg, Bool.not_true, Bool.not_false]) | ((with_reducible apply And.intro); focus (first | trivial | omega | decide | (simp -implicitDefEqProofs only [maxLen]; omega) | (simp [maxLen, sty_len, nd_len, ndL_len, lnL_len, intsL_len, rvs_len, lensS_len]; done) | (simp [maxLen, sty_len, nd_len, ndL_len, lnL_len, intsL_len, rvs_len, lensS_len]; omega))) | fail)
  all_goals (refine (hK _ _ _ _ [] (ent_refl _ _) ?_).2; clear hK; simp_all [retM, nodupL, newL, allU, keptL, retP, resL, lk, resT, RnHo, lkp, finU, hget_zero, hget_succ, hget, rnRows_rvs, rn_tup, rn_rv, rn_row, rn_ptr, rn_ifc, rn_agg, rn_dead, RnAll, ofL, rnAll_map, stayAt])
end

section
variable (f : Nat) (i j v : Nat) (cap : RV) (p : Int → Bool) (hij : i ≠ j) (hf : ∀ (m : Int) (j : Nat), CallR Go.Proofs.Try.prog f [.rv (.int .i64 m), .ptr j 0] [(j, .var [.rv cap])] [] (.rv (.bool (p m))))
include hij hf

theorem sp_IndexFunc_int (ys : List Int) (hb : ys.length ≤ 8589934592) :
    CallR Go.Proofs.Try.prog 97 [.row i v ys.length, .fn f [.ptr j 0]] [(i, .row 1 v (rvs (intsL ys))), (j, .var [.rv cap])] [] (.rv (.int .i64 (match ys.findIdx? p with | some k => ((k : Nat) : Int) | none => -1))) := by
  refine callR_N k_slices_IndexFunc_int [i, j] [.row 1 v (rvs (intsL ys)), .var [.rv cap]] [.row 1 v (rvs (intsL ys)), .var [.rv cap]] [.row 0 v ys.length, .fn f [.ptr 1 0]] [.row i v ys.length, .fn f [.ptr j 0]] _ _ (by simp) (by simp [BkAll, bk_row, bk_fn, bk_ptr]) rfl (by simp [nodupL, hij]) rfl (all2 bk_rvs (bk_varA (by simp [BkAll, bk_ptr, bk_row, bk_rv, bk_agg, bk_ifc, bk_fn, bk_tup, bk_dead, BkHs, rvs_inj, nodupL]))) (fun K hK => ?_)
  have hlen := intsL_len ys
  simp -implicitDefEqProofs only [c_slices_IndexFunc_int, go_sem, ↓reduceIte, Nat.reduceEqDiff, Nat.reduceAdd, Nat.reduceSub, Nat.reduceMul, Nat.reduceLeDiff, Nat.reduceLT, reduceCtorEq, Int.reduceToNat]
  refine g_loop (ι := Nat) (fun k => [(8, .rv (.int .i64 k)), (7, .rv (.int .i64 ys.length)), (0, .row 0 v ys.length), (1, .fn f [.ptr 1 0])]) (fun _ => [some (.row 1 v (rvs (intsL ys))), some (.var [.rv cap])]) (fun k => k ≤ ys.length ∧ ∀ j, (h : j < ys.length) → j < k → p (ys[j]'h) = false) (fun k => ys.length - k) 0 (by simp) (ent_env (by simp [lk])) (fun k hk K' hN hX hR => ?_)
  obtain ⟨hk1, hk2⟩ := hk
  simp -implicitDefEqProofs only [go_sem, ↓reduceIte, Nat.reduceEqDiff, Nat.reduceAdd, Nat.reduceSub, Nat.reduceMul, Nat.reduceLeDiff, Nat.reduceLT, reduceCtorEq, Int.reduceToNat]
  refine cdS (fun hg => ?_) (fun hg => ?_)
  · have hk4 : k < ys.length := by simp at hg; omega
    have hx := intsL_get hk4
    have hcall8 := hf (ys[k]'hk4) 1; repeat' (first | (simp -implicitDefEqProofs only [go_sem, ↓reduceIte, Nat.reduceEqDiff, Nat.reduceAdd, Nat.reduceSub, Nat.reduceMul, Nat.reduceLeDiff, Nat.reduceLT, reduceCtorEq, Int.reduceToNat, hlen, hx]) | (with_reducible refine g_noent ?_) | (refine g_call hcall8 (by simp [PreOK, hget]; done) (by simp [okU, uph]; done) ?_) | (refine g_calld hcall8 (by simp [PreOK, hget]; done) (by simp [okU, uph]; done) ?_) | (refine cdS (fun hg => ?_) (fun hg => ?_) <;> try simp -implicitDefEqProofs only [hg, Bool.not_true, Bool.not_false]) | (refine gdS (fun hg => ?_) (fun hg => ?_) <;> try simp -implicitDefEqProofs only [hg, Bool.not_true, Bool.not_false]) | (refine gddS (fun hg => ?_) (fun hg => ?_) <;> try simp -implicitDefEqProofs only [hg, Bool.not_true, Bool.not_false]) | ((with_reducible apply And.intro); focus (first | trivial | omega | decide | (simp -implicitDefEqProofs only [maxLen]; omega) | (simp [maxLen, sty_len, nd_len, ndL_len, lnL_len, intsL_len, rvs_len, lensS_len]; done) | (simp [maxLen, sty_len, nd_len, ndL_len, lnL_len, intsL_len, rvs_len, lensS_len]; omega))) | fail)
    · refine hR _ _ (hK _ _ _ _ [] (ent_refl _ _) ?_).2
      have : ys.findIdx? p = some k := by
        rw [List.findIdx?_eq_some_iff_getElem]
        exact ⟨hk4, by simpa using hg, fun j hj => by rw [hk2 j (by omega) hj]; simp⟩
      rw [this]
      simp [retM, nodupL, newL, allU, keptL, retP, resL, lk, resT, RnHo, lkp, finU, hget_zero, hget_succ, hget, rnRows_rvs, rn_tup, rn_rv, rn_row, rn_ptr, rn_ifc, rn_agg, rn_dead, RnAll, ofL, rnAll_map, hij, Ne.symm hij]
    · rw [wrap_up (by omega)]
      refine hN (k + 1) _ _ ⟨by omega, fun j hj hji => ?_⟩ (by omega) (ent_env (by simp [lk]))
      rcases Nat.lt_or_ge j k with h | h
      · exact hk2 j hj h
      · obtain rfl : j = k := by omega
        simpa using hg
  · have hk4 : k = ys.length := by simp at hg; omega
    subst hk4
    simp -implicitDefEqProofs only [go_sem, ↓reduceIte, Nat.reduceEqDiff, Nat.reduceAdd, Nat.reduceSub, Nat.reduceMul, Nat.reduceLeDiff, Nat.reduceLT, reduceCtorEq, Int.reduceToNat]
    refine hX _ _ _ ?_
    repeat' (first | (simp -implicitDefEqProofs only [go_sem, ↓reduceIte, Nat.reduceEqDiff, Nat.reduceAdd, Nat.reduceSub, Nat.reduceMul, Nat.reduceLeDiff, Nat.reduceLT, reduceCtorEq, Int.reduceToNat]) | (with_reducible refine g_noent ?_) | (refine cdS (fun hg => ?_) (fun hg => ?_) <;> try simp -implicitDefEqProofs only [hg, Bool.not_true, Bool.not_false]) | (refine gdS (fun hg => ?_) (fun hg => ?_) <;> try simp -implicitDefEqProofs only [hg, Bool.not_true, Bool.not_false]) | (refine gddS (fun hg => ?_) (fun hg => ?_) <;> try simp -implicitDefEqProofs only [hg, Bool.not_true, Bool.not_false]) | ((with_reducible apply And.intro); focus (first | trivial | omega | decide | (simp -implicitDefEqProofs only [maxLen]; omega) | (simp [maxLen, sty_len, nd_len, ndL_len, lnL_len, intsL_len, rvs_len, lensS_len]; done) | (simp [maxLen, sty_len, nd_len, ndL_len, lnL_len, intsL_len, rvs_len, lensS_len]; omega))) | fail)
    refine (hK _ _ _ _ [] (ent_refl _ _) ?_).2
    have : ys.findIdx? p = none := by
      rw [List.findIdx?_eq_none_iff]
      intro x hx
      obtain ⟨j, hj, rfl⟩ := List.getElem_of_mem hx
      exact hk2 j hj hj
    rw [this]
    simp [retM, nodupL, newL, allU, keptL, retP, resL, lk, resT, RnHo, lkp, finU, hget_zero, hget_succ, hget, rnRows_rvs, rn_tup, rn_rv, rn_row, rn_ptr, rn_ifc, rn_agg, rn_dead, RnAll, ofL, rnAll_map, hij, Ne.symm hij]

/-- What is left, and the rest cleared. -/
def leftL (ys : List Int) (p : Int → Bool) : List Int := ys.filter fun y => !p y
def clearedL (ys : List Int) (p : Int → Bool) : List Int := leftL ys p ++ List.replicate (ys.length - (leftL ys p).length) 0

theorem sp_DeleteFunc_int (ys : List Int) (hb : ys.length ≤ 8589934592) :
    CallR Go.Proofs.Try.prog 74 [.row i v ys.length, .fn f [.ptr j 0]] [(i, .row 1 v (rvs (intsL ys))), (j, .var [.rv cap])] [(i, .row 1 v (rvs (intsL (clearedL ys p))))] (.row i v (leftL ys p).length) := by
  refine callR_N k_slices_DeleteFunc_int [i, j] [.row 1 v (rvs (intsL ys)), .var [.rv cap]] [.row 1 v (rvs (intsL ys)), .var [.rv cap]] [.row 0 v ys.length, .fn f [.ptr 1 0]] [.row i v ys.length, .fn f [.ptr j 0]] _ _ (by simp) (by simp [BkAll, bk_row, bk_fn, bk_ptr]) rfl (by simp [nodupL, hij]) rfl (all2 bk_rvs (bk_varA (by simp [BkAll, bk_ptr, bk_row, bk_rv, bk_agg, bk_ifc, bk_fn, bk_tup, bk_dead, BkHs, rvs_inj, nodupL]))) (fun K hK => ?_)
  have hix := sp_IndexFunc_int f 0 1 v cap p (by decide) hf ys hb
  simp -implicitDefEqProofs only [c_slices_DeleteFunc_int, go_sem, ↓reduceIte, Nat.reduceEqDiff, Nat.reduceAdd, Nat.reduceSub, Nat.reduceMul, Nat.reduceLeDiff, Nat.reduceLT, reduceCtorEq, Int.reduceToNat]
  cases hfi : ys.findIdx? p with
  | none =>
    rw [hfi] at hix
    have hno : leftL ys p = ys := by
      rw [List.findIdx?_eq_none_iff] at hfi
      exact List.filter_eq_self.2 fun a ha => by rw [hfi a ha]; rfl
    have e1 : ((-1 : Int) == -1) = true := rfl
    have hcall9 := hix; repeat' (first | (simp -implicitDefEqProofs only [go_sem, ↓reduceIte, Nat.reduceEqDiff, Nat.reduceAdd, Nat.reduceSub, Nat.reduceMul, Nat.reduceLeDiff, Nat.reduceLT, reduceCtorEq, Int.reduceToNat, e1]) | (with_reducible refine g_noent ?_) | (refine g_call hcall9 (by simp [PreOK, hget]; done) (by simp [okU, uph]; done) ?_) | (refine g_calld hcall9 (by simp [PreOK, hget]; done) (by simp [okU, uph]; done) ?_) | (refine cdS (fun hg => ?_) (fun hg => ?_) <;> try simp -implicitDefEqProofs only [hg, Bool.not_true, Bool.not_false]) | (refine gdS (fun hg => ?_) (fun hg => ?_) <;> try simp -implicitDefEqProofs only [hg, Bool.not_true, Bool.not_false]) | (refine gddS (fun hg => ?_) (fun hg => ?_) <;> try simp -implicitDefEqProofs only [hg, Bool.not_true, Bool.not_false]) | ((with_reducible apply And.intro); focus (first | trivial | omega | decide | (simp -implicitDefEqProofs only [maxLen]; omega) | (simp [maxLen, sty_len, nd_len, ndL_len, lnL_len, intsL_len, rvs_len, lensS_len]; done) | (simp [maxLen, sty_len, nd_len, ndL_len, lnL_len, intsL_len, rvs_len, lensS_len]; omega))) | fail)
    refine (hK _ _ _ _ [] (ent_refl _ _) ?_).2
    simp [retM, nodupL, newL, allU, keptL, retP, resL, lk, resT, RnHo, lkp, finU, hget_zero, hget_succ, hget, rnRows_rvs, rn_tup, rn_rv, rn_row, rn_ptr, rn_ifc, rn_agg, rn_dead, RnAll, ofL, rnAll_map, hij, Ne.symm hij, hno, clearedL]
  | some k0 =>
    rw [hfi] at hix
    rw [List.findIdx?_eq_some_iff_getElem] at hfi
    obtain ⟨hk0, hp0, hpn⟩ := hfi
    have e1 : (((k0 : Nat) : Int) == -1) = false := by simp
    have w0 := wrap_up (k := k0) (by omega)
    have hcall10 := hix; repeat' (first | (simp -implicitDefEqProofs only [go_sem, ↓reduceIte, Nat.reduceEqDiff, Nat.reduceAdd, Nat.reduceSub, Nat.reduceMul, Nat.reduceLeDiff, Nat.reduceLT, reduceCtorEq, Int.reduceToNat, e1, w0]) | (with_reducible refine g_noent ?_) | (refine g_call hcall10 (by simp [PreOK, hget]; done) (by simp [okU, uph]; done) ?_) | (refine g_calld hcall10 (by simp [PreOK, hget]; done) (by simp [okU, uph]; done) ?_) | (refine cdS (fun hg => ?_) (fun hg => ?_) <;> try simp -implicitDefEqProofs only [hg, Bool.not_true, Bool.not_false]) | (refine gdS (fun hg => ?_) (fun hg => ?_) <;> try simp -implicitDefEqProofs only [hg, Bool.not_true, Bool.not_false]) | (refine gddS (fun hg => ?_) (fun hg => ?_) <;> try simp -implicitDefEqProofs only [hg, Bool.not_true, Bool.not_false]) | ((with_reducible apply And.intro); focus (first | trivial | omega | decide | (simp -implicitDefEqProofs only [maxLen]; omega) | (simp [maxLen, sty_len, nd_len, ndL_len, lnL_len, intsL_len, rvs_len, lensS_len]; done) | (simp [maxLen, sty_len, nd_len, ndL_len, lnL_len, intsL_len, rvs_len, lensS_len]; omega))) | fail)
    let kept : Nat → List Int := fun j => leftL (ys.take j) p
    have kept_le : ∀ j, (kept j).length ≤ j := fun j => by
      have := List.length_filter_le (fun y => !p y) (ys.take j)
      simp -implicitDefEqProofs only [List.length_take] at this
      show (leftL (ys.take j) p).length ≤ j
      unfold leftL; omega
    have kept_succ : ∀ j (h : j < ys.length), kept (j + 1) = kept j ++ if p (ys[j]'h) = true then [] else [ys[j]'h] := fun j h => by
      show leftL _ _ = leftL _ _ ++ _
      rw [List.take_succ_eq_append_getElem h]
      unfold leftL
      rw [List.filter_append]
      cases hpj : p (ys[j]'h) <;> simp [hpj]
    have kept0 : kept k0 = ys.take k0 := List.filter_eq_self.2 fun a ha => by
      obtain ⟨q, hq, rfl⟩ := List.getElem_of_mem ha
      have hql : q < k0 := by simp at hq; omega
      have := hpn q hql
      simp -implicitDefEqProofs only [Bool.not_eq_true] at this
      simp [this]
    have kept1 : kept (k0 + 1) = ys.take k0 := by rw [kept_succ k0 hk0, kept0, hp0]; simp
    refine g_loop (ι := List Int × Nat) (fun q => [(6, .rv (.int .i64 q.2)), (5, .rv (.int .i64 (kept q.2).length)), (0, .row 0 v ys.length), (1, .fn f [.ptr 1 0])]) (fun q => [some (.row 1 v (rvs (intsL q.1))), some (.var [.rv cap])]) (fun q => q.1.length = ys.length ∧ q.2 ≤ ys.length ∧ (kept q.2).length < q.2 ∧ q.1.take (kept q.2).length = kept q.2 ∧ q.1.drop q.2 = ys.drop q.2) (fun q => ys.length - q.2) (ys, k0 + 1) ⟨rfl, hk0, ?_, ?_, rfl⟩ (ent_env ?_) (fun q hq K' hN hX hR => ?_)
    · show (kept (k0 + 1)).length < k0 + 1
      rw [kept1]; simp; omega
    · show ys.take (kept (k0 + 1)).length = kept (k0 + 1)
      rw [kept1]; simp
    · have : (kept (k0 + 1)).length = k0 := by rw [kept1]; simp; omega
      simp [lk, this]
    obtain ⟨zs, j⟩ := q
    obtain ⟨q1, q2, q3, q4, q5⟩ := hq
    dsimp only at q1 q2 q3 q4 q5 ⊢
    simp -implicitDefEqProofs only [go_sem, ↓reduceIte, Nat.reduceEqDiff, Nat.reduceAdd, Nat.reduceSub, Nat.reduceMul, Nat.reduceLeDiff, Nat.reduceLT, reduceCtorEq, Int.reduceToNat]
    refine cdS (fun hg => ?_) (fun hg => ?_)
    · have hj : j < ys.length := by simp at hg; omega
      have hjz : zs[j]'(by omega) = ys[j]'hj := by
        have h1 := List.getElem_drop (xs := zs) (i := j) (j := 0) (h := by simp; omega)
        have h2 := List.getElem_drop (xs := ys) (i := j) (j := 0) (h := by simp; omega)
        simp -implicitDefEqProofs only [Nat.add_zero] at h1 h2
        rw [← h1, ← h2]
        congr 1
      have hx := intsL_get (l := zs) (i := j) (by omega)
      rw [hjz] at hx
      have hzl := intsL_len zs
      have hsu := kept_succ j hj
      have wj := wrap_up (k := j) (by omega)
      have wi := wrap_up (k := (kept j).length) (by omega)
      have hxi := intsL_get (l := zs) (i := (kept j).length) (by omega)
      have hcall11 := hf (ys[j]'hj) 1; repeat' (first | (simp -implicitDefEqProofs only [go_sem, ↓reduceIte, Nat.reduceEqDiff, Nat.reduceAdd, Nat.reduceSub, Nat.reduceMul, Nat.reduceLeDiff, Nat.reduceLT, reduceCtorEq, Int.reduceToNat, hx, hzl, q1, hxi, rvs_set1, wj, wi]) | (with_reducible refine g_noent ?_) | (refine g_call hcall11 (by simp [PreOK, hget]; done) (by simp [okU, uph]; done) ?_) | (refine g_calld hcall11 (by simp [PreOK, hget]; done) (by simp [okU, uph]; done) ?_) | (refine cdS (fun hg => ?_) (fun hg => ?_) <;> try simp -implicitDefEqProofs only [hg, Bool.not_true, Bool.not_false]) | (refine gdS (fun hg => ?_) (fun hg => ?_) <;> try simp -implicitDefEqProofs only [hg, Bool.not_true, Bool.not_false]) | (refine gddS (fun hg => ?_) (fun hg => ?_) <;> try simp -implicitDefEqProofs only [hg, Bool.not_true, Bool.not_false]) | ((with_reducible apply And.intro); focus (first | trivial | omega | decide | (simp -implicitDefEqProofs only [maxLen]; omega) | (simp [maxLen, sty_len, nd_len, ndL_len, lnL_len, intsL_len, rvs_len, lensS_len]; done) | (simp [maxLen, sty_len, nd_len, ndL_len, lnL_len, intsL_len, rvs_len, lensS_len]; omega))) | fail)
      · have hpj : p (ys[j]'hj) = false := by simpa using hg
        rw [hpj] at hsu
        simp -implicitDefEqProofs only [Bool.false_eq_true, if_false] at hsu
        refine hN (zs.set (kept j).length (ys[j]'hj), j + 1) _ _ ⟨by simp [q1], by omega, ?_, ?_, ?_⟩ (by dsimp only; omega) (ent_env (by simp [lk, hsu]))
        · show (kept (j + 1)).length < j + 1
          rw [hsu]; simp; omega
        · show (zs.set (kept j).length (ys[j]'hj)).take (kept (j + 1)).length = kept (j + 1)
          rw [hsu]
          simp -implicitDefEqProofs only [List.length_append, List.length_singleton]
          rw [List.take_succ_eq_append_getElem (by simp; omega), List.take_set_of_le (by omega), q4]
          simp
        · show (zs.set (kept j).length (ys[j]'hj)).drop (j + 1) = ys.drop (j + 1)
          rw [List.drop_set_of_lt (by omega), ← List.drop_drop, q5, List.drop_drop]
      · have hpj : p (ys[j]'hj) = true := by simpa using hg
        rw [hpj] at hsu
        simp -implicitDefEqProofs only [if_true, List.append_nil] at hsu
        refine hN (zs, j + 1) _ _ ⟨q1, by omega, ?_, ?_, ?_⟩ (by dsimp only; omega) (ent_env (by simp [lk, hsu]))
        · show (kept (j + 1)).length < j + 1
          rw [hsu]; omega
        · show zs.take (kept (j + 1)).length = kept (j + 1)
          rw [hsu]; exact q4
        · show zs.drop (j + 1) = ys.drop (j + 1)
          rw [← List.drop_drop, q5, List.drop_drop]
    · have hj : j = ys.length := by simp at hg; omega
      subst hj
      have hkk : kept ys.length = leftL ys p := by show leftL (ys.take ys.length) p = _; rw [List.take_length]
      have hkl := kept_le ys.length
      rw [hkk] at hkl q4 q3
      simp -implicitDefEqProofs only [hkk, go_sem, ↓reduceIte, Nat.reduceEqDiff, Nat.reduceAdd, Nat.reduceSub, Nat.reduceMul, Nat.reduceLeDiff, Nat.reduceLT, reduceCtorEq, Int.reduceToNat]
      refine hX _ _ _ ?_
      have hnz : (((leftL ys p).length : Int) = 0) = ((leftL ys p).length = 0) := propext (by omega)
      repeat' (first | (simp -implicitDefEqProofs only [go_sem, ↓reduceIte, Nat.reduceEqDiff, Nat.reduceAdd, Nat.reduceSub, Nat.reduceMul, Nat.reduceLeDiff, Nat.reduceLT, reduceCtorEq, Int.reduceToNat]) | (with_reducible refine g_noent ?_) | (refine cdS (fun hg => ?_) (fun hg => ?_) <;> try simp -implicitDefEqProofs only [hg, Bool.not_true, Bool.not_false]) | (refine gdS (fun hg => ?_) (fun hg => ?_) <;> try simp -implicitDefEqProofs only [hg, Bool.not_true, Bool.not_false]) | (refine gddS (fun hg => ?_) (fun hg => ?_) <;> try simp -implicitDefEqProofs only [hg, Bool.not_true, Bool.not_false]) | ((with_reducible apply And.intro); focus (first | trivial | omega | decide | (simp -implicitDefEqProofs only [maxLen]; omega) | (simp [maxLen, sty_len, nd_len, ndL_len, lnL_len, intsL_len, rvs_len, lensS_len]; done) | (simp [maxLen, sty_len, nd_len, ndL_len, lnL_len, intsL_len, rvs_len, lensS_len]; omega))) | fail)
      have hrow : rvs (List.take (leftL ys p).length (intsL zs)) ++ List.replicate (ys.length - (leftL ys p).length) [SV.rv (.int .i64 0)] ++ List.drop ((leftL ys p).length + (List.replicate (ys.length - (leftL ys p).length) [SV.rv (.int .i64 0)]).length) (rvs (intsL zs)) = rvs (intsL (clearedL ys p)) := by
        rw [List.drop_of_length_le (by simp [rvs_len, intsL_len]; omega), List.append_nil, rvs_rep1, show List.take (leftL ys p).length (intsL zs) = intsL (zs.take (leftL ys p).length) by simp [intsL, List.map_take], q4, rvs_append]
        simp [intsL, clearedL]
      rw [hrow]
      refine (hK _ _ _ _ [] (ent_refl _ _) ?_).2
      simp [retM, nodupL, newL, allU, keptL, retP, resL, lk, resT, RnHo, lkp, finU, hget_zero, hget_succ, hget, rnRows_rvs, rn_tup, rn_rv, rn_row, rn_ptr, rn_ifc, rn_agg, rn_dead, RnAll, ofL, rnAll_map, hij, Ne.symm hij]
end

section
variable (l : List Nd) (n : Int)

theorem sp_Flow (hb : l.length ≤ 8589934592) (m : Nat) : CallR Go.Proofs.Try.prog 27 [.rv (kinV l), .rv (.int .i64 n)] [] [(m, .row 1 1 (rvs (intsL (clearedL (natsI (kidsAt l n)) fun m => !stayAt l m))))] (.row m 1 (flowAt l n).length) := by
  refine callR_M k_kin_Kin_Flow [] [] [] [.rv (kinV l), .rv (.int .i64 n)] [.rv (kinV l), .rv (.int .i64 n)] _ _ (by simp) (by simp [BkAll, bk_rv]) rfl (by simp [nodupL]) (by simp [BkHs]) (fun K hK => ?_)
  have hkl := kidsAt_len l n
  have hkn := natsI_len (kidsAt l n)
  have hd := sp_DeleteFunc_int 75 1 0 1 (kinV l) (fun m => !stayAt l m) (by decide) (fun m j => sp_Flow_1 l m j) (natsI (kidsAt l n)) (by rw [hkn]; omega)
  rw [hkn] at hd
  have hfl : (leftL (natsI (kidsAt l n)) fun m => !stayAt l m).length = (flowAt l n).length := by
    unfold leftL flowAt natsI
    rw [List.filter_map, List.length_map]
    simp [Function.comp_def]
  rw [hfl] at hd
  simp -implicitDefEqProofs only [c_kin_Kin_Flow, go_sem, ↓reduceIte, Nat.reduceEqDiff, Nat.reduceAdd, Nat.reduceSub, Nat.reduceMul, Nat.reduceLeDiff, Nat.reduceLT, reduceCtorEq, Int.reduceToNat]
  refine g_call (sp_Kids l n 1 hb) (by simp [PreOK, hget]) (by simp [okU, uph]) ?_
  have hcall12 := hd; repeat' (first | (simp -implicitDefEqProofs only [go_sem, ↓reduceIte, Nat.reduceEqDiff, Nat.reduceAdd, Nat.reduceSub, Nat.reduceMul, Nat.reduceLeDiff, Nat.reduceLT, reduceCtorEq, Int.reduceToNat]) | (with_reducible refine g_noent ?_) | (refine g_call hcall12 (by simp [PreOK, hget]; done) (by simp [okU, uph]; done) ?_) | (refine g_calld hcall12 (by simp [PreOK, hget]; done) (by simp [okU, uph]; done) ?_) | (refine cdS (fun hg => ?_) (fun hg => ?_) <;> try simp -implicitDefEqProofs only [hg, Bool.not_true, Bool.not_false]) | (refine gdS (fun hg => ?_) (fun hg => ?_) <;> try simp -implicitDefEqProofs only [hg, Bool.not_true, Bool.not_false]) | (refine gddS (fun hg => ?_) (fun hg => ?_) <;> try simp -implicitDefEqProofs only [hg, Bool.not_true, Bool.not_false]) | ((with_reducible apply And.intro); focus (first | trivial | omega | decide | (simp -implicitDefEqProofs only [maxLen]; omega) | (simp [maxLen, sty_len, nd_len, ndL_len, lnL_len, intsL_len, rvs_len, lensS_len]; done) | (simp [maxLen, sty_len, nd_len, ndL_len, lnL_len, intsL_len, rvs_len, lensS_len]; omega))) | fail)
  refine (hK _ _ _ _ [none, some m] (ent_refl _ _) ?_).2
  simp [retM, nodupL, newL, allU, keptL, retP, resL, lk, resT, RnHo, lkp, finU, hget_zero, hget_succ, hget, rnRows_rvs, rn_tup, rn_rv, rn_row, rn_ptr, rn_ifc, rn_agg, rn_dead, RnAll, ofL, rnAll_map]

theorem sp_FlowP (hb : l.length ≤ 8589934592) : CallR Go.Proofs.Try.prog 27 [.rv (kinV l), .rv (.int .i64 n)] [] [] (.rv (.sl 1 (intsL (natsI (flowAt l n))))) := by
  refine callR_give (rs := [kinV l, .int .i64 n]) (sp_Flow l n hb 0) ?_ ⟨_, .inl rfl⟩
  have hfl : (leftL (natsI (kidsAt l n)) fun m => !stayAt l m) = natsI (flowAt l n) := by
    unfold leftL flowAt natsI
    rw [List.filter_map]
    simp [Function.comp_def]
  have hll : (flowAt l n).length = (natsI (flowAt l n)).length := by simp [natsI]
  refine .fz _ _ ?_
  have h1 := fz_row (τ := fun _ => none) (h := upl (fun _ => none) [(0, HB.row 1 1 (rvs (intsL (clearedL (natsI (kidsAt l n)) fun m => !stayAt l m))))]) (j := 0) (e := 1) (ver := 1) (len := (flowAt l n).length) (xs := intsL (clearedL (natsI (kidsAt l n)) fun m => !stayAt l m)) (by simp [upl, up]) rfl (by rw [intsL_len, clearedL, List.length_append, hfl, ← hll]; omega) (intsL_one _)
  rw [show (intsL (clearedL (natsI (kidsAt l n)) fun m => !stayAt l m)).take (flowAt l n).length = intsL (natsI (flowAt l n)) by
    rw [hll]
    simp -implicitDefEqProofs only [intsL, ← List.map_take, clearedL, hfl]
    rw [List.take_left]] at h1
  exact h1
end
end Go.Eng

/- kin: the document's functions. -/
namespace Go.Eng
open Go
theorem tree_shp {l : List Nd} (ht : treeOK l = true) : Shp l := shape_iff.1 (by unfold treeOK at ht; simp -implicitDefEqProofs only [Bool.and_eq_true] at ht; exact ht.1)
theorem chk_tree {l : List Nd} (h : chk l = 0) : treeOK l = true := by
  unfold chk at h
  cases ht : treeOK l with
  | true => rfl
  | false => rw [ht] at h; simp at h

/-- The children in the flow among the first k nodes. -/
def flowTo (l : List Nd) (k p : Nat) : List Nat := (kidsTo l k p).filter fun (m : Nat) => stayAt l m
/-- One past the last of the first i nodes that is below n; 0 if there is none. -/
def lastTo (l : List Nd) (n : Int) (i : Nat) : Int := if inL l n = true ∧ n < i then (if (i : Int) < endAt l n then (i : Int) else endAt l n) else 0

end Go.Eng

/- Ways up: the next one, the first that is such. -/
namespace Go.Eng
open Go
theorem nats_ln (xs : List Nat) : (intsL (natsI xs)).length = xs.length := by simp [intsL, natsI]
theorem nats_at {xs : List Nat} {i : Nat} (h : i < xs.length) : (intsL (natsI xs))[i]?.getD [] = [.int .i64 (atI xs i)] := by
  rw [intsL_get (by rw [natsI_len]; exact h), atI_lt h]; simp [natsI]
/-- The first of them that is such, or none. -/
def fstI (p : Int → Bool) (xs : List Nat) : Int := match xs.find? (fun (m : Nat) => p m) with
  | some k => k
  | none => -1
end Go.Eng

/- fix: sums and bounds; prefer: units. -/
namespace Go.Eng
open Go
/- decoupage/fix.Fits -/
def c_fix_Fits : AC := (.seq (.reg [⟨(some 2), .mv, [(.c (.rv (.bool false)))], none⟩]) (.seq (.reg [⟨(some 3), .mv, [(.t 0)], none⟩, ⟨(some 4), (.ibin .geq), [(.t 3), (.c (.rv (.int .i64 (-1125899906842624))))], none⟩, ⟨(some 5), .mv, [(.t 4)], none⟩, ⟨(some 6), .mv, [(.t 0)], (some (5, true))⟩, ⟨(some 7), (.ibin .leq), [(.t 6), (.c (.rv (.int .i64 1125899906842624)))], (some (5, true))⟩, ⟨(some 8), .pick, [(.t 5), (.t 7), (.c (.rv (.bool false)))], none⟩, ⟨(some 2), .mv, [(.t 8)], none⟩]) .ret))
theorem k_fix_Fits : FnOK Go.Proofs.Try.prog 109 9 c_fix_Fits [(.t 2)] := fnOK_of (by kernel_rfl)

/- decoupage/fix.Sum -/
def c_fix_Sum : AC := (.seq (.reg [⟨(some 2), .mv, [(.c (.rv (.int .i64 0)))], none⟩, ⟨(some 3), .mv, [(.c (.rv (.bool false)))], none⟩]) (.seq (.reg [⟨(some 4), .mv, [(.c (.rv (.int .i64 0)))], none⟩, ⟨(some 5), .mv, [(.c (.rv (.int .i64 0)))], none⟩]) (.seq (.seq (.reg [⟨(some 9), .mv, [(.t 0)], none⟩, ⟨(some 10), .len, [(.t 9)], none⟩, ⟨(some 11), .mv, [(.c (.rv (.int .i64 0)))], none⟩]) (.seq (.block 0 (.loop (.seq (.reg [⟨(some 12), (.ibin .lss), [(.t 11), (.t 10)], none⟩]) (.seq (.cond (.t 12) .skip (.exit 0)) (.seq (.seq (.block 1 (.seq (.reg [⟨(some 13), (.ixs 1), [(.t 9), (.t 11)], none⟩, ⟨(some 14), (.load 1 false), [(.t 13)], none⟩, ⟨(some 7), .mv, [(.t 14)], none⟩]) (.seq (.seq (.reg [⟨(some 15), .mv, [(.t 7)], none⟩, ⟨(some 16), (.call 109), [(.t 15)], none⟩, ⟨(some 17), .not, [(.t 16)], none⟩]) (.cond (.t 17) (.seq (.reg [⟨(some 2), .mv, [(.c (.rv (.int .i64 0)))], none⟩, ⟨(some 3), .mv, [(.c (.rv (.bool false)))], none⟩]) .ret) .skip)) (.seq (.reg [⟨(some 18), .mv, [(.t 4)], none⟩, ⟨(some 19), .mv, [(.t 7)], none⟩, ⟨(some 20), (.ishf .shr), [(.t 19), (.c (.rv (.int .u64 25)))], none⟩, ⟨(some 21), (.ibin .add), [(.t 18), (.t 20)], none⟩, ⟨(some 4), .mv, [(.t 21)], none⟩]) (.reg [⟨(some 22), .mv, [(.t 5)], none⟩, ⟨(some 23), .mv, [(.t 7)], none⟩, ⟨(some 24), (.ibin .and), [(.t 23), (.c (.rv (.int .i64 33554431)))], none⟩, ⟨(some 25), (.ibin .add), [(.t 22), (.t 24)], none⟩, ⟨(some 5), .mv, [(.t 25)], none⟩]))))) .ent) (.reg [⟨(some 26), (.ibin .add), [(.t 11), (.c (.rv (.int .i64 1)))], none⟩, ⟨(some 11), .mv, [(.t 26)], none⟩])))))) .ent)) (.seq (.reg [⟨(some 27), .mv, [(.t 4)], none⟩, ⟨(some 28), .mv, [(.t 5)], none⟩, ⟨(some 29), (.ishf .shr), [(.t 28), (.c (.rv (.int .u64 25)))], none⟩, ⟨(some 30), (.ibin .add), [(.t 27), (.t 29)], none⟩, ⟨(some 4), .mv, [(.t 30)], none⟩]) (.seq (.reg [⟨(some 31), .mv, [(.t 5)], none⟩, ⟨(some 32), (.ibin .and), [(.t 31), (.c (.rv (.int .i64 33554431)))], none⟩, ⟨(some 5), .mv, [(.t 32)], none⟩]) (.seq (.seq (.reg [⟨(some 33), .mv, [(.t 4)], none⟩, ⟨(some 34), (.ibin .lss), [(.t 33), (.c (.rv (.int .i64 (-33554432))))], none⟩, ⟨(some 35), .mv, [(.t 34)], none⟩, ⟨(some 36), .mv, [(.t 4)], (some (35, false))⟩, ⟨(some 37), (.ibin .gtr), [(.t 36), (.c (.rv (.int .i64 33554432)))], (some (35, false))⟩, ⟨(some 38), .pick, [(.t 35), (.c (.rv (.bool true))), (.t 37)], none⟩]) (.cond (.t 38) (.seq (.reg [⟨(some 2), .mv, [(.c (.rv (.int .i64 0)))], none⟩, ⟨(some 3), .mv, [(.c (.rv (.bool false)))], none⟩]) .ret) .skip)) (.seq (.reg [⟨(some 39), .mv, [(.t 4)], none⟩, ⟨(some 40), (.ishf .shl), [(.t 39), (.c (.rv (.int .u64 25)))], none⟩, ⟨(some 41), .mv, [(.t 5)], none⟩, ⟨(some 42), (.ibin .add), [(.t 40), (.t 41)], none⟩, ⟨(some 8), .mv, [(.t 42)], none⟩]) (.seq (.seq (.reg [⟨(some 43), .mv, [(.t 8)], none⟩, ⟨(some 44), (.call 109), [(.t 43)], none⟩, ⟨(some 45), .not, [(.t 44)], none⟩]) (.cond (.t 45) (.seq (.reg [⟨(some 2), .mv, [(.c (.rv (.int .i64 0)))], none⟩, ⟨(some 3), .mv, [(.c (.rv (.bool false)))], none⟩]) .ret) .skip)) (.seq (.reg [⟨(some 46), .mv, [(.t 8)], none⟩, ⟨(some 2), .mv, [(.t 46)], none⟩, ⟨(some 3), .mv, [(.c (.rv (.bool true)))], none⟩]) .ret)))))))))
theorem k_fix_Sum : FnOK Go.Proofs.Try.prog 98 47 c_fix_Sum [(.t 2), (.t 3)] := fnOK_of (by kernel_rfl)

/- decoupage/fix.Clamp -/
def c_fix_Clamp : AC := (.seq (.reg [⟨(some 6), .mv, [(.c (.rv (.int .i64 0)))], none⟩]) (.seq (.reg [⟨(some 7), .mv, [(.t 0)], none⟩, ⟨(some 8), .mv, [(.t 2)], none⟩, ⟨(some 9), .mn, [(.t 7), (.t 8)], none⟩, ⟨(some 10), .mv, [(.t 1)], none⟩, ⟨(some 11), .mx, [(.t 9), (.t 10)], none⟩, ⟨(some 6), .mv, [(.t 11)], none⟩]) .ret))
theorem k_fix_Clamp : FnOK Go.Proofs.Try.prog 78 12 c_fix_Clamp [(.t 6)] := fnOK_of (by kernel_rfl)

/- decoupage/prefer.units -/
def c_prefer_units : AC := (.seq (.reg [⟨(some 2), .box, [(.t 0)], none⟩, ⟨(some 4), .mv, [(.c (.rv (.int .i64 0)))], none⟩]) (.seq (.seq (.reg [⟨(some 5), (.fld 0), [(.t 2)], none⟩, ⟨(some 6), (.load 1 false), [(.t 5)], none⟩, ⟨(some 7), (.ibin .eql), [(.t 6), (.c (.rv (.int .i64 1)))], none⟩]) (.cond (.t 7) (.seq (.reg [⟨(some 8), (.fld 1), [(.t 2)], none⟩, ⟨(some 9), (.load 1 false), [(.t 8)], none⟩, ⟨(some 4), .mv, [(.t 9)], none⟩]) .ret) .skip)) (.seq (.reg [⟨(some 10), .mv, [(.t 1)], none⟩, ⟨(some 4), .mv, [(.t 10)], none⟩]) .ret)))
theorem k_prefer_units : FnOK Go.Proofs.Try.prog 76 11 c_prefer_units [(.t 4)] := fnOK_of (by kernel_rfl)

def fitsI (x : Int) : Bool := decide (x ≥ -1125899906842624) && decide (x ≤ 1125899906842624)
theorem fits_iff {x : Int} : fitsI x = true ↔ -1125899906842624 ≤ x ∧ x ≤ 1125899906842624 := by simp [fitsI]
def sumOK (xs : List Int) : Bool := xs.all fitsI && fitsI xs.sum
def sumV (xs : List Int) : Int := if sumOK xs = true then xs.sum else 0

theorem shr25 (a : Int) : a.fdiv (2 ^ min 25 64) = a / 33554432 := by
  rw [Int.fdiv_eq_ediv_of_nonneg _ (by decide)]; rfl
theorem and25 (a : Int) : IntKind.i64.wrap ((BitVec.ofInt 64 a &&& BitVec.ofInt 64 33554431).toNat : Int) = a % 33554432 := by
  have h1 : (BitVec.ofInt 64 a &&& BitVec.ofInt 64 33554431).toNat = (BitVec.ofInt 64 a).toNat % 33554432 := by
    show (BitVec.ofInt 64 a &&& BitVec.ofInt 64 33554431).toNat = _
    rw [BitVec.toNat_and]
    exact Nat.and_two_pow_sub_one_eq_mod _ 25
  have h2 : (((BitVec.ofInt 64 a).toNat % 33554432 : Nat) : Int) = a % 33554432 := by
    rw [BitVec.toNat_ofInt]
    omega
  rw [h1, h2, wrap_i64 (by omega) (by omega)]

theorem and25b (a : Int) : IntKind.i64.wrap ((@BitVec.toNat 64 (@HAnd.hAnd (BitVec 64) (BitVec 64) (BitVec 64) (@instHAndOfAndOp (BitVec IntKind.i64.bits) (@BitVec.instAndOp IntKind.i64.bits)) (BitVec.ofInt 64 a) (BitVec.ofInt 64 33554431)) : Nat) : Int) = a % 33554432 := and25 a
theorem sp_fix_Fits (x : Int) : CallR Go.Proofs.Try.prog 109 [.rv (.int .i64 x)] [] [] (.rv (.bool (fitsI x))) := by
  refine callR_G k_fix_Fits [.rv (.int .i64 x)] _ (by simp) (by simp [BkAll, bk_agg, bkAll_map, bk_rv, bk_fn, Sty.sv, Ln.sv, Nd.sv]) (fun K hK => ?_)
  simp -implicitDefEqProofs only [c_fix_Fits, go_sem, ↓reduceIte, Nat.reduceEqDiff, Nat.reduceAdd, Nat.reduceSub, Nat.reduceMul, Nat.reduceLeDiff, Nat.reduceLT, reduceCtorEq, Int.reduceToNat]
  repeat' (first | (simp -implicitDefEqProofs only [go_sem, ↓reduceIte, Nat.reduceEqDiff, Nat.reduceAdd, Nat.reduceSub, Nat.reduceMul, Nat.reduceLeDiff, Nat.reduceLT, reduceCtorEq, Int.reduceToNat]) | (with_reducible refine g_noent ?_) | (refine cdS (fun hg => ?_) (fun hg => ?_) <;> try simp -implicitDefEqProofs only [hg, Bool.not_true, Bool.not_false]) | (refine gdS (fun hg => ?_) (fun hg => ?_) <;> try simp -implicitDefEqProofs only [hg, Bool.not_true, Bool.not_false]) | (refine gddS (fun hg => ?_) (fun hg => ?_) <;> try simp -implicitDefEqProofs only [hg, Bool.not_true, Bool.not_false]) | ((with_reducible apply And.intro); focus (first | trivial | omega | decide | (simp -implicitDefEqProofs only [maxLen]; omega) | (simp [maxLen, sty_len, nd_len, ndL_len, lnL_len, intsL_len, rvs_len, lensS_len]; done) | (simp [maxLen, sty_len, nd_len, ndL_len, lnL_len, intsL_len, rvs_len, lensS_len]; omega))) | fail)
  all_goals (refine (hK _ _ (ret_t ?_)).2; clear hK; simp_all [lk, fitsI]; try (intro _; omega))
def unitsL (x : Ln) (d : Int) : Int := if x.kind = 1 then x.n else d
theorem sp_units (x : Ln) (d : Int) : CallR Go.Proofs.Try.prog 76 [.agg [.rv (.int .i64 x.kind), .rv (.int .i64 x.n)], .rv (.int .i64 d)] [] [] (.rv (.int .i64 (unitsL x d))) := by
  refine callR_G k_prefer_units [.agg [.rv (.int .i64 x.kind), .rv (.int .i64 x.n)], .rv (.int .i64 d)] _ (by simp) (by simp [BkAll, bk_agg, bkAll_map, bk_rv, bk_fn, Sty.sv, Ln.sv, Nd.sv]) (fun K hK => ?_)
  simp -implicitDefEqProofs only [c_prefer_units, go_sem, ↓reduceIte, Nat.reduceEqDiff, Nat.reduceAdd, Nat.reduceSub, Nat.reduceMul, Nat.reduceLeDiff, Nat.reduceLT, reduceCtorEq, Int.reduceToNat]
  by_cases h : x.kind = 1
  · have e1 : (x.kind == 1) = true := by simp [h]
    repeat' (first | (simp -implicitDefEqProofs only [go_sem, ↓reduceIte, Nat.reduceEqDiff, Nat.reduceAdd, Nat.reduceSub, Nat.reduceMul, Nat.reduceLeDiff, Nat.reduceLT, reduceCtorEq, Int.reduceToNat, e1]) | (with_reducible refine g_noent ?_) | (refine cdS (fun hg => ?_) (fun hg => ?_) <;> try simp -implicitDefEqProofs only [hg, Bool.not_true, Bool.not_false]) | (refine gdS (fun hg => ?_) (fun hg => ?_) <;> try simp -implicitDefEqProofs only [hg, Bool.not_true, Bool.not_false]) | (refine gddS (fun hg => ?_) (fun hg => ?_) <;> try simp -implicitDefEqProofs only [hg, Bool.not_true, Bool.not_false]) | ((with_reducible apply And.intro); focus (first | trivial | omega | decide | (simp -implicitDefEqProofs only [maxLen]; omega) | (simp [maxLen, sty_len, nd_len, ndL_len, lnL_len, intsL_len, rvs_len, lensS_len]; done) | (simp [maxLen, sty_len, nd_len, ndL_len, lnL_len, intsL_len, rvs_len, lensS_len]; omega))) | fail)
    exact (hK _ _ (ret_t (by simp [lk, unitsL, h]))).2
  · have e1 : (x.kind == 1) = false := by simp [h]
    repeat' (first | (simp -implicitDefEqProofs only [go_sem, ↓reduceIte, Nat.reduceEqDiff, Nat.reduceAdd, Nat.reduceSub, Nat.reduceMul, Nat.reduceLeDiff, Nat.reduceLT, reduceCtorEq, Int.reduceToNat, e1]) | (with_reducible refine g_noent ?_) | (refine cdS (fun hg => ?_) (fun hg => ?_) <;> try simp -implicitDefEqProofs only [hg, Bool.not_true, Bool.not_false]) | (refine gdS (fun hg => ?_) (fun hg => ?_) <;> try simp -implicitDefEqProofs only [hg, Bool.not_true, Bool.not_false]) | (refine gddS (fun hg => ?_) (fun hg => ?_) <;> try simp -implicitDefEqProofs only [hg, Bool.not_true, Bool.not_false]) | ((with_reducible apply And.intro); focus (first | trivial | omega | decide | (simp -implicitDefEqProofs only [maxLen]; omega) | (simp [maxLen, sty_len, nd_len, ndL_len, lnL_len, intsL_len, rvs_len, lensS_len]; done) | (simp [maxLen, sty_len, nd_len, ndL_len, lnL_len, intsL_len, rvs_len, lensS_len]; omega))) | fail)
    exact (hK _ _ (ret_t (by simp [lk, unitsL, h]))).2
def clampI (v lo hi : Int) : Int := if (if v > hi then hi else v) < lo then lo else (if v > hi then hi else v)
theorem sp_fix_Clamp (v lo hi : Int) : CallR Go.Proofs.Try.prog 78 [.rv (.int .i64 v), .rv (.int .i64 lo), .rv (.int .i64 hi)] [] [] (.rv (.int .i64 (clampI v lo hi))) := by
  refine callR_G k_fix_Clamp [.rv (.int .i64 v), .rv (.int .i64 lo), .rv (.int .i64 hi)] _ (by simp) (by simp [BkAll, bk_agg, bkAll_map, bk_rv, bk_fn, Sty.sv, Ln.sv, Nd.sv]) (fun K hK => ?_)
  simp -implicitDefEqProofs only [c_fix_Clamp, go_sem, ↓reduceIte, Nat.reduceEqDiff, Nat.reduceAdd, Nat.reduceSub, Nat.reduceMul, Nat.reduceLeDiff, Nat.reduceLT, reduceCtorEq, Int.reduceToNat]
  repeat' (first | (simp -implicitDefEqProofs only [go_sem, ↓reduceIte, Nat.reduceEqDiff, Nat.reduceAdd, Nat.reduceSub, Nat.reduceMul, Nat.reduceLeDiff, Nat.reduceLT, reduceCtorEq, Int.reduceToNat]) | (with_reducible refine g_noent ?_) | (refine cdS (fun hg => ?_) (fun hg => ?_) <;> try simp -implicitDefEqProofs only [hg, Bool.not_true, Bool.not_false]) | (refine gdS (fun hg => ?_) (fun hg => ?_) <;> try simp -implicitDefEqProofs only [hg, Bool.not_true, Bool.not_false]) | (refine gddS (fun hg => ?_) (fun hg => ?_) <;> try simp -implicitDefEqProofs only [hg, Bool.not_true, Bool.not_false]) | ((with_reducible apply And.intro); focus (first | trivial | omega | decide | (simp -implicitDefEqProofs only [maxLen]; omega) | (simp [maxLen, sty_len, nd_len, ndL_len, lnL_len, intsL_len, rvs_len, lensS_len]; done) | (simp [maxLen, sty_len, nd_len, ndL_len, lnL_len, intsL_len, rvs_len, lensS_len]; omega))) | fail)
  exact (hK _ _ (ret_t rfl)).2

theorem all_take {p : Int → Bool} {xs : List Int} (h : ∀ i, (h : i < xs.length) → p xs[i] = true) : xs.all p = true := by
  rw [List.all_eq_true]; intro x hx
  obtain ⟨i, hi, rfl⟩ := List.getElem_of_mem hx
  exact h i hi
theorem sum_take {xs : List Int} {k : Nat} (h : k < xs.length) : (xs.take (k + 1)).sum = (xs.take k).sum + xs[k] := by
  rw [List.take_succ_eq_append_getElem h, List.sum_append]; simp
theorem not_ok {xs : List Int} {i : Nat} (h : i < xs.length) (hf : fitsI xs[i] = false) : sumOK xs = false := by
  unfold sumOK
  rw [show xs.all fitsI = false from by
    rw [List.all_eq_false]; exact ⟨_, List.getElem_mem h, by simp [hf]⟩]
  rfl
theorem sp_fix_Sum (xs : List Int) (hb : xs.length ≤ 1000) : CallR Go.Proofs.Try.prog 98 [.rv (.sl 1 (intsL xs))] [] [] (.tup [.rv (.int .i64 (sumV xs)), .rv (.bool (sumOK xs))]) := by
  refine callR_G k_fix_Sum [.rv (.sl 1 (intsL xs))] _ (by simp) (by simp [BkAll, bk_agg, bkAll_map, bk_rv, bk_fn, Sty.sv, Ln.sv, Nd.sv]) (fun K hK => ?_)
  have hl := intsL_len xs
  simp -implicitDefEqProofs only [c_fix_Sum, hl, go_sem, ↓reduceIte, Nat.reduceEqDiff, Nat.reduceAdd, Nat.reduceSub, Nat.reduceMul, Nat.reduceLeDiff, Nat.reduceLT, reduceCtorEq, Int.reduceToNat]
  repeat' (first | (simp -implicitDefEqProofs only [go_sem, ↓reduceIte, Nat.reduceEqDiff, Nat.reduceAdd, Nat.reduceSub, Nat.reduceMul, Nat.reduceLeDiff, Nat.reduceLT, reduceCtorEq, Int.reduceToNat, hl]) | (with_reducible refine g_noent ?_) | (refine cdS (fun hg => ?_) (fun hg => ?_) <;> try simp -implicitDefEqProofs only [hg, Bool.not_true, Bool.not_false]) | (refine gdS (fun hg => ?_) (fun hg => ?_) <;> try simp -implicitDefEqProofs only [hg, Bool.not_true, Bool.not_false]) | (refine gddS (fun hg => ?_) (fun hg => ?_) <;> try simp -implicitDefEqProofs only [hg, Bool.not_true, Bool.not_false]) | ((with_reducible apply And.intro); focus (first | trivial | omega | decide | (simp -implicitDefEqProofs only [maxLen]; omega) | (simp [maxLen, sty_len, nd_len, ndL_len, lnL_len, intsL_len, rvs_len, lensS_len]; done) | (simp [maxLen, sty_len, nd_len, ndL_len, lnL_len, intsL_len, rvs_len, lensS_len]; omega))) | fail)
  refine g_loop (ι := Nat × Int × Int) (fun q => [(11, .rv (.int .i64 q.1)), (10, .rv (.int .i64 xs.length)), (9, .rv (.sl 1 (intsL xs))), (4, .rv (.int .i64 q.2.1)), (5, .rv (.int .i64 q.2.2))]) (fun _ => []) (fun q => q.1 ≤ xs.length ∧ (∀ i, (h : i < xs.length) → i < q.1 → fitsI xs[i] = true) ∧ q.2.1 * 33554432 + q.2.2 = (xs.take q.1).sum ∧ -(33554432 * q.1) ≤ q.2.1 ∧ q.2.1 ≤ 33554432 * q.1 ∧ 0 ≤ q.2.2 ∧ q.2.2 ≤ 33554432 * q.1) (fun q => xs.length - q.1) (0, 0, 0) ⟨by simp, fun i _ h => absurd h (by simp), by simp, by simp, by simp, by simp, by simp⟩ (ent_env (by simp [lk])) (fun q hk K' hN hX hR => ?_)
  obtain ⟨k, hi, lo⟩ := q
  obtain ⟨hk1, hk2, hk3, hk5, hk6, hk7, hk8⟩ := hk
  dsimp only at hk1 hk2 hk3 hk5 hk6 hk7 hk8 ⊢
  simp -implicitDefEqProofs only [go_sem, ↓reduceIte, Nat.reduceEqDiff, Nat.reduceAdd, Nat.reduceSub, Nat.reduceMul, Nat.reduceLeDiff, Nat.reduceLT, reduceCtorEq, Int.reduceToNat]
  refine cdS (fun hg => ?_) (fun hg => ?_)
  · have hk4 : k < xs.length := by simp at hg; omega
    have hx := intsL_get hk4
    have wu := wrap_up (k := k) (by omega)
    have hf := sp_fix_Fits xs[k]
    cases hfk : fitsI xs[k] with
    | false =>
      rw [hfk] at hf
      have hcall5 := hf; repeat' (first | (simp -implicitDefEqProofs only [go_sem, ↓reduceIte, Nat.reduceEqDiff, Nat.reduceAdd, Nat.reduceSub, Nat.reduceMul, Nat.reduceLeDiff, Nat.reduceLT, reduceCtorEq, Int.reduceToNat, hx, hl, wu]) | (with_reducible refine g_noent ?_) | (with_reducible refine g_call0 hcall5 ?_) | (with_reducible refine g_calld0 hcall5 ?_) | (refine cdS (fun hg => ?_) (fun hg => ?_) <;> try simp -implicitDefEqProofs only [hg, Bool.not_true, Bool.not_false]) | (refine gdS (fun hg => ?_) (fun hg => ?_) <;> try simp -implicitDefEqProofs only [hg, Bool.not_true, Bool.not_false]) | (refine gddS (fun hg => ?_) (fun hg => ?_) <;> try simp -implicitDefEqProofs only [hg, Bool.not_true, Bool.not_false]) | ((with_reducible apply And.intro); focus (first | trivial | omega | decide | (simp -implicitDefEqProofs only [maxLen]; omega) | (simp [maxLen, sty_len, nd_len, ndL_len, lnL_len, intsL_len, rvs_len, lensS_len]; done) | (simp [maxLen, sty_len, nd_len, ndL_len, lnL_len, intsL_len, rvs_len, lensS_len]; omega))) | fail)
      refine hR _ _ (hK _ _ ?_).2
      have := not_ok hk4 hfk
      exact ret_t2 (by simp [lk, sumV, this]) (by simp [lk, this])
    | true =>
      rw [hfk] at hf
      have hfi := fits_iff.1 hfk
      have hst := sum_take hk4
      have w1 : IntKind.i64.wrap (hi + xs[k] / 33554432) = hi + xs[k] / 33554432 := by rw [wrap_i64 (by omega) (by omega)]
      have w2 : IntKind.i64.wrap (lo + xs[k] % 33554432) = lo + xs[k] % 33554432 := by rw [wrap_i64 (by omega) (by omega)]
      have hcall6 := hf; repeat' (first | (simp -implicitDefEqProofs only [go_sem, ↓reduceIte, Nat.reduceEqDiff, Nat.reduceAdd, Nat.reduceSub, Nat.reduceMul, Nat.reduceLeDiff, Nat.reduceLT, reduceCtorEq, Int.reduceToNat, hx, hl, wu, shr25, and25b, w1, w2]) | (with_reducible refine g_noent ?_) | (with_reducible refine g_call0 hcall6 ?_) | (with_reducible refine g_calld0 hcall6 ?_) | (refine cdS (fun hg => ?_) (fun hg => ?_) <;> try simp -implicitDefEqProofs only [hg, Bool.not_true, Bool.not_false]) | (refine gdS (fun hg => ?_) (fun hg => ?_) <;> try simp -implicitDefEqProofs only [hg, Bool.not_true, Bool.not_false]) | (refine gddS (fun hg => ?_) (fun hg => ?_) <;> try simp -implicitDefEqProofs only [hg, Bool.not_true, Bool.not_false]) | ((with_reducible apply And.intro); focus (first | trivial | omega | decide | (simp -implicitDefEqProofs only [maxLen]; omega) | (simp [maxLen, sty_len, nd_len, ndL_len, lnL_len, intsL_len, rvs_len, lensS_len]; done) | (simp [maxLen, sty_len, nd_len, ndL_len, lnL_len, intsL_len, rvs_len, lensS_len]; omega))) | fail)
      refine hN (k + 1, hi + xs[k] / 33554432, lo + xs[k] % 33554432) _ _ ⟨by dsimp only; omega, fun i h hi => ?_, by dsimp only; omega, by dsimp only; omega, by dsimp only; omega, by dsimp only; omega, by dsimp only; omega⟩ (by dsimp only; omega) (ent_env (by simp [lk]))
      dsimp only at hi
      by_cases e : i = k
      · subst e; exact hfk
      · exact hk2 i h (by omega)
  · have hk4 : k = xs.length := by simp at hg; omega
    subst hk4
    simp -implicitDefEqProofs only [go_sem, ↓reduceIte, Nat.reduceEqDiff, Nat.reduceAdd, Nat.reduceSub, Nat.reduceMul, Nat.reduceLeDiff, Nat.reduceLT, reduceCtorEq, Int.reduceToNat]
    refine hX _ _ _ ?_
    have hall := all_take (fun i h => hk2 i h h)
    rw [List.take_length] at *
    have w1 : IntKind.i64.wrap (hi + lo / 33554432) = hi + lo / 33554432 := by rw [wrap_i64 (by omega) (by omega)]
    by_cases h1 : hi + lo / 33554432 < -33554432
    · have e1 : decide (hi + lo / 33554432 < -33554432) = true := decide_eq_true h1
      have : sumOK xs = false := by
        have : fitsI xs.sum = false := by rw [Bool.eq_false_iff]; intro h; have := fits_iff.1 h; omega
        simp [sumOK, this]
      repeat' (first | (simp -implicitDefEqProofs only [go_sem, ↓reduceIte, Nat.reduceEqDiff, Nat.reduceAdd, Nat.reduceSub, Nat.reduceMul, Nat.reduceLeDiff, Nat.reduceLT, reduceCtorEq, Int.reduceToNat, shr25, and25b, w1, e1]) | (with_reducible refine g_noent ?_) | (refine cdS (fun hg => ?_) (fun hg => ?_) <;> try simp -implicitDefEqProofs only [hg, Bool.not_true, Bool.not_false]) | (refine gdS (fun hg => ?_) (fun hg => ?_) <;> try simp -implicitDefEqProofs only [hg, Bool.not_true, Bool.not_false]) | (refine gddS (fun hg => ?_) (fun hg => ?_) <;> try simp -implicitDefEqProofs only [hg, Bool.not_true, Bool.not_false]) | ((with_reducible apply And.intro); focus (first | trivial | omega | decide | (simp -implicitDefEqProofs only [maxLen]; omega) | (simp [maxLen, sty_len, nd_len, ndL_len, lnL_len, intsL_len, rvs_len, lensS_len]; done) | (simp [maxLen, sty_len, nd_len, ndL_len, lnL_len, intsL_len, rvs_len, lensS_len]; omega))) | fail)
      refine (hK _ _ ?_).2
      exact ret_t2 (by simp [lk, sumV, this]) (by simp [lk, this])
    · have e1 : decide (hi + lo / 33554432 < -33554432) = false := decide_eq_false h1
      by_cases h2 : hi + lo / 33554432 > 33554432
      · have e2 : decide (hi + lo / 33554432 > 33554432) = true := decide_eq_true h2
        have : sumOK xs = false := by
          have : fitsI xs.sum = false := by rw [Bool.eq_false_iff]; intro h; have := fits_iff.1 h; omega
          simp [sumOK, this]
        repeat' (first | (simp -implicitDefEqProofs only [go_sem, ↓reduceIte, Nat.reduceEqDiff, Nat.reduceAdd, Nat.reduceSub, Nat.reduceMul, Nat.reduceLeDiff, Nat.reduceLT, reduceCtorEq, Int.reduceToNat, shr25, and25b, w1, e1, e2]) | (with_reducible refine g_noent ?_) | (refine cdS (fun hg => ?_) (fun hg => ?_) <;> try simp -implicitDefEqProofs only [hg, Bool.not_true, Bool.not_false]) | (refine gdS (fun hg => ?_) (fun hg => ?_) <;> try simp -implicitDefEqProofs only [hg, Bool.not_true, Bool.not_false]) | (refine gddS (fun hg => ?_) (fun hg => ?_) <;> try simp -implicitDefEqProofs only [hg, Bool.not_true, Bool.not_false]) | ((with_reducible apply And.intro); focus (first | trivial | omega | decide | (simp -implicitDefEqProofs only [maxLen]; omega) | (simp [maxLen, sty_len, nd_len, ndL_len, lnL_len, intsL_len, rvs_len, lensS_len]; done) | (simp [maxLen, sty_len, nd_len, ndL_len, lnL_len, intsL_len, rvs_len, lensS_len]; omega))) | fail)
        refine (hK _ _ ?_).2
        exact ret_t2 (by simp [lk, sumV, this]) (by simp [lk, this])
      · have e2 : decide (hi + lo / 33554432 > 33554432) = false := decide_eq_false h2
        have hf := sp_fix_Fits xs.sum
        have w2 : IntKind.i64.wrap (IntKind.i64.wrap ((hi + lo / 33554432) * 2 ^ min 25 64) + lo % 33554432) = xs.sum := by
          rw [show (2 : Int) ^ min 25 64 = 33554432 from rfl, wrap_i64 (n := (hi + lo / 33554432) * 33554432) (by omega) (by omega), wrap_i64 (by omega) (by omega)]
          omega
        cases hfk : fitsI xs.sum with
        | false =>
          rw [hfk] at hf
          have : sumOK xs = false := by simp [sumOK, hfk]
          have hcall7 := hf; repeat' (first | (simp -implicitDefEqProofs only [go_sem, ↓reduceIte, Nat.reduceEqDiff, Nat.reduceAdd, Nat.reduceSub, Nat.reduceMul, Nat.reduceLeDiff, Nat.reduceLT, reduceCtorEq, Int.reduceToNat, shr25, and25b, w1, e1, e2, w2]) | (with_reducible refine g_noent ?_) | (with_reducible refine g_call0 hcall7 ?_) | (with_reducible refine g_calld0 hcall7 ?_) | (refine cdS (fun hg => ?_) (fun hg => ?_) <;> try simp -implicitDefEqProofs only [hg, Bool.not_true, Bool.not_false]) | (refine gdS (fun hg => ?_) (fun hg => ?_) <;> try simp -implicitDefEqProofs only [hg, Bool.not_true, Bool.not_false]) | (refine gddS (fun hg => ?_) (fun hg => ?_) <;> try simp -implicitDefEqProofs only [hg, Bool.not_true, Bool.not_false]) | ((with_reducible apply And.intro); focus (first | trivial | omega | decide | (simp -implicitDefEqProofs only [maxLen]; omega) | (simp [maxLen, sty_len, nd_len, ndL_len, lnL_len, intsL_len, rvs_len, lensS_len]; done) | (simp [maxLen, sty_len, nd_len, ndL_len, lnL_len, intsL_len, rvs_len, lensS_len]; omega))) | fail)
          refine (hK _ _ ?_).2
          exact ret_t2 (by simp [lk, sumV, this]) (by simp [lk, this])
        | true =>
          rw [hfk] at hf
          have : sumOK xs = true := by simp [sumOK, hfk, hall]
          have hcall8 := hf; repeat' (first | (simp -implicitDefEqProofs only [go_sem, ↓reduceIte, Nat.reduceEqDiff, Nat.reduceAdd, Nat.reduceSub, Nat.reduceMul, Nat.reduceLeDiff, Nat.reduceLT, reduceCtorEq, Int.reduceToNat, shr25, and25b, w1, e1, e2, w2]) | (with_reducible refine g_noent ?_) | (with_reducible refine g_call0 hcall8 ?_) | (with_reducible refine g_calld0 hcall8 ?_) | (refine cdS (fun hg => ?_) (fun hg => ?_) <;> try simp -implicitDefEqProofs only [hg, Bool.not_true, Bool.not_false]) | (refine gdS (fun hg => ?_) (fun hg => ?_) <;> try simp -implicitDefEqProofs only [hg, Bool.not_true, Bool.not_false]) | (refine gddS (fun hg => ?_) (fun hg => ?_) <;> try simp -implicitDefEqProofs only [hg, Bool.not_true, Bool.not_false]) | ((with_reducible apply And.intro); focus (first | trivial | omega | decide | (simp -implicitDefEqProofs only [maxLen]; omega) | (simp [maxLen, sty_len, nd_len, ndL_len, lnL_len, intsL_len, rvs_len, lensS_len]; done) | (simp [maxLen, sty_len, nd_len, ndL_len, lnL_len, intsL_len, rvs_len, lensS_len]; omega))) | fail)
          refine (hK _ _ ?_).2
          exact ret_t2 (by simp [lk, sumV, this]) (by simp [lk, this])
end Go.Eng

/- prefer: what a box's content prefers. -/
namespace Go.Eng
open Go
/- decoupage/prefer.outer -/
def c_prefer_outer : AC := (.seq (.reg [⟨(some 4), .mv, [(.c (.rv (.int .i64 0)))], none⟩, ⟨(some 5), .mv, [(.c (.rv (.bool false)))], none⟩]) (.seq (.reg [⟨(some 15), .mv, [(.t 0)], none⟩, ⟨(some 16), .mv, [(.t 1)], none⟩, ⟨(some 17), (.call 52), [(.t 15), (.t 16)], none⟩, ⟨(some 14), .mv, [(.t 17)], none⟩, ⟨(some 18), (.ext 0), [(.t 14)], none⟩, ⟨(some 19), (.ext 1), [(.t 14)], none⟩, ⟨(some 6), .mv, [(.t 18)], none⟩, ⟨(some 7), .mv, [(.t 19)], none⟩]) (.seq (.reg [⟨(some 20), .mv, [(.t 0)], none⟩, ⟨(some 21), .mv, [(.t 1)], none⟩, ⟨(some 22), (.call 26), [(.t 20), (.t 21)], none⟩, ⟨(some 8), (.alloc [(.bool false), (.int .i64 0), (.int .i64 0), (.int .i64 0), (.int .i64 0), (.int .i64 0), (.int .i64 0), (.int .i64 0), (.int .i64 0), (.int .i64 0), (.int .i64 0), (.int .i64 0), (.int .i64 0), (.int .i64 0), (.int .i64 0), (.int .i64 0), (.int .i64 0), (.int .i64 0), (.int .i64 0), (.int .i64 0), (.int .i64 0), (.int .i64 0), (.int .i64 0), (.int .i64 0), (.int .i64 0), (.int .i64 0), (.int .i64 0), (.int .i64 0), (.int .i64 0), (.int .i64 0), (.int .i64 0), (.int .i64 0), (.int .i64 0), (.int .i64 0), (.int .i64 0), (.int .i64 0), (.int .i64 0), (.int .i64 0), (.int .i64 0), (.int .i64 0), (.int .i64 0), (.int .i64 0), (.bool false), (.bool false), (.int .i64 0), (.bool false), (.int .i64 0), (.int .i64 0)]), [], none⟩, ⟨none, (.store 48), [(.t 8), (.t 22)], none⟩]) (.seq (.reg [⟨(some 23), .mv, [(.t 6)], none⟩, ⟨(some 24), (.bsl 1), [(.t 23)], none⟩, ⟨(some 9), .mv, [(.t 24)], none⟩]) (.seq (.seq (.reg [⟨(some 25), (.bsl 1), [(.c (.rv (.int .i64 3))), (.c (.rv (.int .i64 1)))], none⟩, ⟨(some 26), .len, [(.t 25)], none⟩, ⟨(some 27), .mv, [(.c (.rv (.int .i64 0)))], none⟩]) (.seq (.block 0 (.loop (.seq (.reg [⟨(some 28), (.ibin .lss), [(.t 27), (.t 26)], none⟩]) (.seq (.cond (.t 28) .skip (.exit 0)) (.seq (.seq (.block 1 (.seq (.reg [⟨(some 29), (.ixs 1), [(.t 25), (.t 27)], none⟩, ⟨(some 30), (.load 1 false), [(.t 29)], none⟩, ⟨(some 11), .mv, [(.t 30)], none⟩]) (.regd [0, 0, 0, 6, 14, 30, 0, 0, 192, 448, 1022, 0, 0, 6144, 14336, 32766, 65535, 131071] [⟨(some 31), .mv, [(.t 9)], none⟩, ⟨(some 32), .mv, [(.t 11)], none⟩, ⟨(some 33), (.fld 22), [(.t 8)], none⟩, ⟨(some 34), (.ixa 4 2), [(.t 33), (.t 32)], none⟩, ⟨(some 35), (.load 2 true), [(.t 34)], none⟩, ⟨(some 36), (.call 76), [(.t 35), (.c (.rv (.int .i64 0)))], none⟩, ⟨(some 37), .mv, [(.t 11)], none⟩, ⟨(some 38), (.fld 30), [(.t 8)], none⟩, ⟨(some 39), (.ixa 4 2), [(.t 38), (.t 37)], none⟩, ⟨(some 40), (.load 2 true), [(.t 39)], none⟩, ⟨(some 41), (.call 76), [(.t 40), (.c (.rv (.int .i64 0)))], none⟩, ⟨(some 42), .mv, [(.t 11)], none⟩, ⟨(some 43), (.fld 38), [(.t 8)], none⟩, ⟨(some 44), (.ixa 4 1), [(.t 43), (.t 42)], none⟩, ⟨(some 45), (.load 1 false), [(.t 44)], none⟩, ⟨(some 46), (.bsl 1), [(.t 36), (.t 41), (.t 45)], none⟩, ⟨(some 47), (.app 1 8), [(.t 31), (.t 46)], none⟩, ⟨(some 9), .mv, [(.t 47)], none⟩]))) .ent) (.reg [⟨(some 48), (.ibin .add), [(.t 27), (.c (.rv (.int .i64 1)))], none⟩, ⟨(some 27), .mv, [(.t 48)], none⟩])))))) .ent)) (.seq (.reg [⟨(some 50), .mv, [(.t 9)], none⟩, ⟨(some 51), (.call 98), [(.t 50)], none⟩, ⟨(some 49), .mv, [(.t 51)], none⟩, ⟨(some 52), (.ext 0), [(.t 49)], none⟩, ⟨(some 53), (.ext 1), [(.t 49)], none⟩, ⟨(some 12), .mv, [(.t 52)], none⟩, ⟨(some 13), .mv, [(.t 53)], none⟩]) (.seq (.reg [⟨(some 54), .mv, [(.t 12)], none⟩, ⟨(some 55), .mv, [(.t 7)], none⟩, ⟨(some 56), .mv, [(.t 55)], none⟩, ⟨(some 57), .mv, [(.t 13)], (some (56, true))⟩, ⟨(some 58), .pick, [(.t 56), (.t 57), (.c (.rv (.bool false)))], none⟩, ⟨(some 4), .mv, [(.t 54)], none⟩, ⟨(some 5), .mv, [(.t 58)], none⟩]) .ret)))))))
theorem k_prefer_outer : FnOK Go.Proofs.Try.prog 77 59 c_prefer_outer [(.t 4), (.t 5)] := fnOK_of (by kernel_rfl)

/- decoupage/prefer.Content -/
def c_prefer_Content : AC := (.seq (.reg [⟨(some 4), .mv, [(.c (.rv (.int .i64 0)))], none⟩, ⟨(some 5), .mv, [(.c (.rv (.bool false)))], none⟩]) (.seq (.seq (.reg [⟨(some 12), .mv, [(.t 0)], none⟩, ⟨(some 13), .mv, [(.t 1)], none⟩, ⟨(some 14), (.call 30), [(.t 12), (.t 13)], none⟩, ⟨(some 15), .not, [(.t 14)], none⟩]) (.cond (.t 15) (.seq (.reg [⟨(some 4), .mv, [(.c (.rv (.int .i64 0)))], none⟩, ⟨(some 5), .mv, [(.c (.rv (.bool false)))], none⟩]) .ret) .skip)) (.seq (.reg [⟨(some 16), .mv, [(.t 0)], none⟩, ⟨(some 17), .mv, [(.t 1)], none⟩, ⟨(some 18), (.call 26), [(.t 16), (.t 17)], none⟩, ⟨(some 6), (.alloc [(.bool false), (.int .i64 0), (.int .i64 0), (.int .i64 0), (.int .i64 0), (.int .i64 0), (.int .i64 0), (.int .i64 0), (.int .i64 0), (.int .i64 0), (.int .i64 0), (.int .i64 0), (.int .i64 0), (.int .i64 0), (.int .i64 0), (.int .i64 0), (.int .i64 0), (.int .i64 0), (.int .i64 0), (.int .i64 0), (.int .i64 0), (.int .i64 0), (.int .i64 0), (.int .i64 0), (.int .i64 0), (.int .i64 0), (.int .i64 0), (.int .i64 0), (.int .i64 0), (.int .i64 0), (.int .i64 0), (.int .i64 0), (.int .i64 0), (.int .i64 0), (.int .i64 0), (.int .i64 0), (.int .i64 0), (.int .i64 0), (.int .i64 0), (.int .i64 0), (.int .i64 0), (.int .i64 0), (.bool false), (.bool false), (.int .i64 0), (.bool false), (.int .i64 0), (.int .i64 0)]), [], none⟩, ⟨none, (.store 48), [(.t 6), (.t 18)], none⟩]) (.seq (.reg [⟨(some 19), (.fld 10), [(.t 6)], none⟩, ⟨(some 20), (.load 2 true), [(.t 19)], none⟩, ⟨(some 21), (.call 76), [(.t 20), (.c (.rv (.int .i64 0)))], none⟩, ⟨(some 7), .mv, [(.t 21)], none⟩]) (.seq (.seq (.reg [⟨(some 22), (.fld 10), [(.t 6)], none⟩, ⟨(some 23), (.fld 0), [(.t 22)], none⟩, ⟨(some 24), (.load 1 false), [(.t 23)], none⟩, ⟨(some 25), (.ibin .neq), [(.t 24), (.c (.rv (.int .i64 1)))], none⟩]) (.seq (.cond (.t 25) (.seq (.reg [⟨(some 26), .mv, [(.t 0)], none⟩, ⟨(some 27), .mv, [(.t 1)], none⟩, ⟨(some 28), (.call 27), [(.t 26), (.t 27)], none⟩, ⟨(some 29), .len, [(.t 28)], none⟩, ⟨(some 30), .mv, [(.c (.rv (.int .i64 0)))], none⟩]) (.seq (.block 0 (.loop (.seq (.reg [⟨(some 31), (.ibin .lss), [(.t 30), (.t 29)], none⟩]) (.seq (.cond (.t 31) .skip (.exit 0)) (.seq (.seq (.block 1 (.seq (.reg [⟨(some 32), (.ixs 1), [(.t 28), (.t 30)], none⟩, ⟨(some 33), (.load 1 false), [(.t 32)], none⟩, ⟨(some 9), .mv, [(.t 33)], none⟩]) (.seq (.reg [⟨(some 35), .mv, [(.t 0)], none⟩, ⟨(some 36), .mv, [(.t 9)], none⟩, ⟨(some 37), (.call 77), [(.t 35), (.t 36)], none⟩, ⟨(some 34), .mv, [(.t 37)], none⟩, ⟨(some 38), (.ext 0), [(.t 34)], none⟩, ⟨(some 39), (.ext 1), [(.t 34)], none⟩, ⟨(some 10), .mv, [(.t 38)], none⟩, ⟨(some 11), .mv, [(.t 39)], none⟩]) (.seq (.seq (.reg [⟨(some 40), .mv, [(.t 11)], none⟩, ⟨(some 41), .not, [(.t 40)], none⟩]) (.cond (.t 41) (.seq (.reg [⟨(some 4), .mv, [(.c (.rv (.int .i64 0)))], none⟩, ⟨(some 5), .mv, [(.c (.rv (.bool false)))], none⟩]) .ret) .skip)) (.reg [⟨(some 42), .mv, [(.t 7)], none⟩, ⟨(some 43), .mv, [(.t 10)], none⟩, ⟨(some 44), .mx, [(.t 42), (.t 43)], none⟩, ⟨(some 7), .mv, [(.t 44)], none⟩]))))) .ent) (.reg [⟨(some 45), (.ibin .add), [(.t 30), (.c (.rv (.int .i64 1)))], none⟩, ⟨(some 30), .mv, [(.t 45)], none⟩])))))) .ent)) .skip) .ent)) (.seq (.regd [0, 0, 2, 6, 0, 16, 62, 127, 255, 511] [⟨(some 46), .mv, [(.t 7)], none⟩, ⟨(some 47), (.fld 14), [(.t 6)], none⟩, ⟨(some 48), (.load 2 true), [(.t 47)], none⟩, ⟨(some 49), (.call 76), [(.t 48), (.c (.rv (.int .i64 0)))], none⟩, ⟨(some 50), (.fld 16), [(.t 6)], none⟩, ⟨(some 51), (.load 2 true), [(.t 50)], none⟩, ⟨(some 52), (.call 76), [(.t 51), (.c (.rv (.int .i64 1125899906842624)))], none⟩, ⟨(some 53), (.call 78), [(.t 46), (.t 49), (.t 52)], none⟩, ⟨(some 4), .mv, [(.t 53)], none⟩, ⟨(some 5), .mv, [(.c (.rv (.bool true)))], none⟩]) .ret))))))
theorem k_prefer_Content : FnOK Go.Proofs.Try.prog 52 54 c_prefer_Content [(.t 4), (.t 5)] := fnOK_of (by kernel_rfl)



/-- What is around a box, behind w: the first of it. -/
def outL (w : Int) (s : Sty) (k : Nat) : List Int := [w] ++ (if 0 < k then [unitsL s.margin.d 0, unitsL s.pad.d 0, s.border.d] else []) ++ (if 1 < k then [unitsL s.margin.b 0, unitsL s.pad.b 0, s.border.b] else [])
theorem outL_len {w : Int} {s : Sty} {k : Nat} (h : k ≤ 2) : (outL w s k).length = 1 + 3 * k := by
  have : k = 0 ∨ k = 1 ∨ k = 2 := by omega
  rcases this with rfl | rfl | rfl <;> rfl
theorem outL_0 {w : Int} {s : Sty} : rvs (intsL (outL w s 0)) ++ [[SV.rv (.int .i64 (unitsL s.margin.d 0))], [.rv (.int .i64 (unitsL s.pad.d 0))], [.rv (.int .i64 s.border.d)]] = rvs (intsL (outL w s 1)) := rfl
theorem outL_1 {w : Int} {s : Sty} : rvs (intsL (outL w s 1)) ++ [[SV.rv (.int .i64 (unitsL s.margin.b 0))], [.rv (.int .i64 (unitsL s.pad.b 0))], [.rv (.int .i64 s.border.b)]] = rvs (intsL (outL w s 2)) := rfl
theorem sty_mb (s : Sty) : ((s.cells.map SV.rv).drop 24).take 2 = [.rv (.int .i64 s.margin.b.kind), .rv (.int .i64 s.margin.b.n)] := rfl
theorem sty_md (s : Sty) : ((s.cells.map SV.rv).drop 28).take 2 = [.rv (.int .i64 s.margin.d.kind), .rv (.int .i64 s.margin.d.n)] := rfl
theorem sty_pb (s : Sty) : ((s.cells.map SV.rv).drop 32).take 2 = [.rv (.int .i64 s.pad.b.kind), .rv (.int .i64 s.pad.b.n)] := rfl
theorem sty_pd (s : Sty) : ((s.cells.map SV.rv).drop 36).take 2 = [.rv (.int .i64 s.pad.d.kind), .rv (.int .i64 s.pad.d.n)] := rfl
theorem sty_bb (s : Sty) : (s.cells.map SV.rv)[39]? = some (.rv (.int .i64 s.border.b)) := rfl
theorem sty_bd (s : Sty) : (s.cells.map SV.rv)[41]? = some (.rv (.int .i64 s.border.d)) := rfl
theorem sty_w2 (s : Sty) : ((s.cells.map SV.rv).drop 10).take 2 = [.rv (.int .i64 s.width.kind), .rv (.int .i64 s.width.n)] := rfl
theorem sty_lo (s : Sty) : ((s.cells.map SV.rv).drop 14).take 2 = [.rv (.int .i64 s.minW.kind), .rv (.int .i64 s.minW.n)] := rfl
theorem sty_hi (s : Sty) : ((s.cells.map SV.rv).drop 16).take 2 = [.rv (.int .i64 s.maxW.kind), .rv (.int .i64 s.maxW.n)] := rfl

set_option maxHeartbeats 2000000 in
theorem sp_outer (l : List Nd) (n : Int) (w : Int) (ok : Bool) (hC : CallR Go.Proofs.Try.prog 52 [.rv (kinV l), .rv (.int .i64 n)] [] [] (.tup [.rv (.int .i64 w), .rv (.bool ok)])) :
    CallR Go.Proofs.Try.prog 77 [.rv (kinV l), .rv (.int .i64 n)] [] [] (.tup [.rv (.int .i64 (sumV (outL w (styAt l n) 2))), .rv (.bool (ok && sumOK (outL w (styAt l n) 2)))]) := by
  refine callR_G k_prefer_outer [.rv (kinV l), .rv (.int .i64 n)] _ (by simp) (by simp [BkAll, bk_agg, bkAll_map, bk_rv, bk_fn, Sty.sv, Ln.sv, Nd.sv]) (fun K hK => ?_)
  have hst := sp_Style l n
  generalize styAt l n = s at *
  simp -implicitDefEqProofs only [c_prefer_outer, go_sem, ↓reduceIte, Nat.reduceEqDiff, Nat.reduceAdd, Nat.reduceSub, Nat.reduceMul, Nat.reduceLeDiff, Nat.reduceLT, reduceCtorEq, Int.reduceToNat]
  have hcall1 := hC; have hcall2 := hst; repeat' (first | (simp -implicitDefEqProofs only [go_sem, ↓reduceIte, Nat.reduceEqDiff, Nat.reduceAdd, Nat.reduceSub, Nat.reduceMul, Nat.reduceLeDiff, Nat.reduceLT, reduceCtorEq, Int.reduceToNat, sty_len]) | (with_reducible refine g_noent ?_) | (with_reducible refine g_call0 hcall1 ?_) | (with_reducible refine g_calld0 hcall1 ?_) | (with_reducible refine g_call0 hcall2 ?_) | (with_reducible refine g_calld0 hcall2 ?_) | (refine cdS (fun hg => ?_) (fun hg => ?_) <;> try simp -implicitDefEqProofs only [hg, Bool.not_true, Bool.not_false]) | (refine gdS (fun hg => ?_) (fun hg => ?_) <;> try simp -implicitDefEqProofs only [hg, Bool.not_true, Bool.not_false]) | (refine gddS (fun hg => ?_) (fun hg => ?_) <;> try simp -implicitDefEqProofs only [hg, Bool.not_true, Bool.not_false]) | ((with_reducible apply And.intro); focus (first | trivial | omega | decide | (simp -implicitDefEqProofs only [maxLen]; omega) | (simp [maxLen, sty_len, nd_len, ndL_len, lnL_len, intsL_len, rvs_len, lensS_len]; done) | (simp [maxLen, sty_len, nd_len, ndL_len, lnL_len, intsL_len, rvs_len, lensS_len]; omega) | (exact ⟨rfl, by decide⟩; done))) | fail)
  refine g_loop (ι := Nat) (fun k => [(27, .rv (.int .i64 k)), (26, .rv (.int .i64 (2 : Nat))), (25, .row 2 0 2), (9, .row 1 k (1 + 3 * k)), (8, .ptr 0 0), (6, .rv (.int .i64 w)), (7, .rv (.bool ok))]) (fun k => [some (.var (s.cells.map .rv)), some (.row 1 k (rvs (intsL (outL w s k)))), some (.row 1 0 [[.rv (.int .i64 3)], [.rv (.int .i64 1)]])]) (fun k => k ≤ 2) (fun k => 2 - k) 0 (by decide) (ent_env (by simp [lk])) (fun k hk K' hN hX hR => ?_)
  simp -implicitDefEqProofs only [go_sem, ↓reduceIte, Nat.reduceEqDiff, Nat.reduceAdd, Nat.reduceSub, Nat.reduceMul, Nat.reduceLeDiff, Nat.reduceLT, reduceCtorEq, Int.reduceToNat]
  refine cdS (fun hg => ?_) (fun hg => ?_)
  · have : k = 0 ∨ k = 1 := by simp at hg; omega
    rcases this with rfl | rfl
    · have h0l : (intsL (outL w s 0)).length = 1 := rfl
      have h0t : (intsL (outL w s 0)).take 1 = intsL (outL w s 0) := rfl
      have hcall3 := sp_units s.margin.d 0; have hcall4 := sp_units s.pad.d 0; repeat' (first | (simp -implicitDefEqProofs only [go_sem, ↓reduceIte, Nat.reduceEqDiff, Nat.reduceAdd, Nat.reduceSub, Nat.reduceMul, Nat.reduceLeDiff, Nat.reduceLT, reduceCtorEq, Int.reduceToNat, wrap_up (k := 0) (by decide), sty_md, sty_pd, sty_bd, sty_len, outL_0, h0l, h0t]) | (with_reducible refine g_noent ?_) | (with_reducible refine g_call0 hcall3 ?_) | (with_reducible refine g_calld0 hcall3 ?_) | (with_reducible refine g_call0 hcall4 ?_) | (with_reducible refine g_calld0 hcall4 ?_) | (refine cdS (fun hg => ?_) (fun hg => ?_) <;> try simp -implicitDefEqProofs only [hg, Bool.not_true, Bool.not_false]) | (refine gdS (fun hg => ?_) (fun hg => ?_) <;> try simp -implicitDefEqProofs only [hg, Bool.not_true, Bool.not_false]) | (refine gddS (fun hg => ?_) (fun hg => ?_) <;> try simp -implicitDefEqProofs only [hg, Bool.not_true, Bool.not_false]) | ((with_reducible apply And.intro); focus (first | trivial | omega | decide | (simp -implicitDefEqProofs only [maxLen]; omega) | (simp [maxLen, sty_len, nd_len, ndL_len, lnL_len, intsL_len, rvs_len, lensS_len]; done) | (simp [maxLen, sty_len, nd_len, ndL_len, lnL_len, intsL_len, rvs_len, lensS_len]; omega) | (exact ⟨rfl, by decide⟩; done))) | fail)
      exact hN 1 _ _ (by decide) (by decide) (ent_tail (h' := [some (.var (s.cells.map .rv)), some (.row 1 1 (rvs (intsL (outL w s 1)))), some (.row 1 0 [[.rv (.int .i64 3)], [.rv (.int .i64 1)]])]) (by simp) ⟨clA_map, clH_rvs, clH_rvs (xs := [[.int .i64 3], [.int .i64 1]]), trivial⟩ (by simp [ClEnv, lk, clS_rv, clS_row, clS_ptr]))
    · have h0l : (intsL (outL w s 1)).length = 4 := rfl
      have h0t : (intsL (outL w s 1)).take 4 = intsL (outL w s 1) := rfl
      have hcall5 := sp_units s.margin.b 0; have hcall6 := sp_units s.pad.b 0; repeat' (first | (simp -implicitDefEqProofs only [go_sem, ↓reduceIte, Nat.reduceEqDiff, Nat.reduceAdd, Nat.reduceSub, Nat.reduceMul, Nat.reduceLeDiff, Nat.reduceLT, reduceCtorEq, Int.reduceToNat, wrap_up (k := 1) (by decide), sty_mb, sty_pb, sty_bb, sty_len, outL_1, h0l, h0t]) | (with_reducible refine g_noent ?_) | (with_reducible refine g_call0 hcall5 ?_) | (with_reducible refine g_calld0 hcall5 ?_) | (with_reducible refine g_call0 hcall6 ?_) | (with_reducible refine g_calld0 hcall6 ?_) | (refine cdS (fun hg => ?_) (fun hg => ?_) <;> try simp -implicitDefEqProofs only [hg, Bool.not_true, Bool.not_false]) | (refine gdS (fun hg => ?_) (fun hg => ?_) <;> try simp -implicitDefEqProofs only [hg, Bool.not_true, Bool.not_false]) | (refine gddS (fun hg => ?_) (fun hg => ?_) <;> try simp -implicitDefEqProofs only [hg, Bool.not_true, Bool.not_false]) | ((with_reducible apply And.intro); focus (first | trivial | omega | decide | (simp -implicitDefEqProofs only [maxLen]; omega) | (simp [maxLen, sty_len, nd_len, ndL_len, lnL_len, intsL_len, rvs_len, lensS_len]; done) | (simp [maxLen, sty_len, nd_len, ndL_len, lnL_len, intsL_len, rvs_len, lensS_len]; omega) | (exact ⟨rfl, by decide⟩; done))) | fail)
      exact hN 2 _ _ (by decide) (by decide) (ent_tail (h' := [some (.var (s.cells.map .rv)), some (.row 1 2 (rvs (intsL (outL w s 2)))), some (.row 1 0 [[.rv (.int .i64 3)], [.rv (.int .i64 1)]])]) (by simp) ⟨clA_map, clH_rvs, clH_rvs (xs := [[.int .i64 3], [.int .i64 1]]), trivial⟩ (by simp [ClEnv, lk, clS_rv, clS_row, clS_ptr]))
  · obtain rfl : k = 2 := by simp at hg; omega
    simp -implicitDefEqProofs only [go_sem, ↓reduceIte, Nat.reduceEqDiff, Nat.reduceAdd, Nat.reduceSub, Nat.reduceMul, Nat.reduceLeDiff, Nat.reduceLT, reduceCtorEq, Int.reduceToNat]
    refine hX _ _ _ ?_
    have hsum := sp_fix_Sum (outL w s 2) (by rw [outL_len (by decide)]; decide)
    have hq := lend1t (id := 1) (v := 2) (n := 7) (bs := []) (rs := [.int .i64 (sumV (outL w s 2)), .bool (sumOK (outL w s 2))]) hsum (by simp; exact ⟨.int _ _, .bool _⟩) (by rw [intsL_len, outL_len (by decide)]) (intsL_one _)
    cases ok with
    | false =>
      have hcall7 := hq; repeat' (first | (simp -implicitDefEqProofs only [go_sem, ↓reduceIte, Nat.reduceEqDiff, Nat.reduceAdd, Nat.reduceSub, Nat.reduceMul, Nat.reduceLeDiff, Nat.reduceLT, reduceCtorEq, Int.reduceToNat]) | (with_reducible refine g_noent ?_) | (refine g_call hcall7 (by simp [PreOK, hget]; done) (by simp [okU, uph]; done) ?_) | (refine g_calld hcall7 (by simp [PreOK, hget]; done) (by simp [okU, uph]; done) ?_) | (refine cdS (fun hg => ?_) (fun hg => ?_) <;> try simp -implicitDefEqProofs only [hg, Bool.not_true, Bool.not_false]) | (refine gdS (fun hg => ?_) (fun hg => ?_) <;> try simp -implicitDefEqProofs only [hg, Bool.not_true, Bool.not_false]) | (refine gddS (fun hg => ?_) (fun hg => ?_) <;> try simp -implicitDefEqProofs only [hg, Bool.not_true, Bool.not_false]) | ((with_reducible apply And.intro); focus (first | trivial | omega | decide | (simp -implicitDefEqProofs only [maxLen]; omega) | (simp [maxLen, sty_len, nd_len, ndL_len, lnL_len, intsL_len, rvs_len, lensS_len]; done) | (simp [maxLen, sty_len, nd_len, ndL_len, lnL_len, intsL_len, rvs_len, lensS_len]; omega))) | fail)
      refine (hK _ _ ?_).2
      exact ret_t2 (by simp [lk]) (by simp [lk])
    | true =>
      have hcall8 := hq; repeat' (first | (simp -implicitDefEqProofs only [go_sem, ↓reduceIte, Nat.reduceEqDiff, Nat.reduceAdd, Nat.reduceSub, Nat.reduceMul, Nat.reduceLeDiff, Nat.reduceLT, reduceCtorEq, Int.reduceToNat]) | (with_reducible refine g_noent ?_) | (refine g_call hcall8 (by simp [PreOK, hget]; done) (by simp [okU, uph]; done) ?_) | (refine g_calld hcall8 (by simp [PreOK, hget]; done) (by simp [okU, uph]; done) ?_) | (refine cdS (fun hg => ?_) (fun hg => ?_) <;> try simp -implicitDefEqProofs only [hg, Bool.not_true, Bool.not_false]) | (refine gdS (fun hg => ?_) (fun hg => ?_) <;> try simp -implicitDefEqProofs only [hg, Bool.not_true, Bool.not_false]) | (refine gddS (fun hg => ?_) (fun hg => ?_) <;> try simp -implicitDefEqProofs only [hg, Bool.not_true, Bool.not_false]) | ((with_reducible apply And.intro); focus (first | trivial | omega | decide | (simp -implicitDefEqProofs only [maxLen]; omega) | (simp [maxLen, sty_len, nd_len, ndL_len, lnL_len, intsL_len, rvs_len, lensS_len]; done) | (simp [maxLen, sty_len, nd_len, ndL_len, lnL_len, intsL_len, rvs_len, lensS_len]; omega))) | fail)
      refine (hK _ _ ?_).2
      exact ret_t2 (by simp [lk]) (by simp [lk])

def mxI (w x : Int) : Int := if x > w then x else w
def goF (l : List Nd) (g : Nat → Int × Bool) : List Nat → Int → Option Int
  | [], w => some w
  | m :: r, w => if ((g m).2 && sumOK (outL (g m).1 (styAt l m) 2)) = true then goF l g r (mxI w (outL (g m).1 (styAt l m) 2).sum) else none
/-- What a box's content prefers; n: more than enough. -/
def contentF (l : List Nd) : Nat → Int → Int × Bool
  | 0, _ => (0, false)
  | f + 1, n => if madeAt l n = false then (0, false) else match goF l (fun m => contentF l f m) (if (styAt l n).width.kind = 1 then [] else flowAt l n) (unitsL (styAt l n).width 0) with
    | some w => (clampI w (unitsL (styAt l n).minW 0) (unitsL (styAt l n).maxW 1125899906842624), true)
    | none => (0, false)
theorem content_no {l : List Nd} {n : Int} (h : madeAt l n = false) : ∀ f, contentF l f n = (0, false)
  | 0 => rfl
  | f + 1 => by simp [contentF, h]
theorem flow_gt {l : List Nd} (hs : Shp l) {n : Int} {m : Nat} (h : m ∈ flowAt l n) : n < m ∧ m < l.length := by
  have h := (List.mem_filter.1 h).1
  unfold kidsAt at h
  split at h
  · rename_i hin
    obtain ⟨k, rfl, hk⟩ := inL_nat hin
    obtain ⟨h1, h2, h3⟩ := mem_kids.1 h
    have := hs.up m h1 h2
    simp -implicitDefEqProofs only [Int.toNat_natCast] at h3
    omega
  · simp at h
theorem flow_len (l : List Nd) (n : Int) : (flowAt l n).length ≤ l.length := by
  have h1 := List.length_filter_le (fun (m : Nat) => stayAt l m) (kidsAt l n)
  have h2 := kidsAt_len l n
  unfold flowAt; omega
theorem goF_drop {l : List Nd} {g : Nat → Int × Bool} {xs : List Nat} {i : Nat} (h : i < xs.length) (w : Int) : goF l g (xs.drop i) w = if ((g xs[i]).2 && sumOK (outL (g xs[i]).1 (styAt l xs[i]) 2)) = true then goF l g (xs.drop (i + 1)) (mxI w (outL (g xs[i]).1 (styAt l xs[i]) 2).sum) else none := by
  rw [List.drop_eq_getElem_cons h]; rfl

set_option maxHeartbeats 4000000 in
theorem sp_Content (l : List Nd) (hs : Shp l) (hb : l.length ≤ 8589934592) : ∀ (f : Nat) (n : Int), (l.length : Int) < n + f → CallR Go.Proofs.Try.prog 52 [.rv (kinV l), .rv (.int .i64 n)] [] [] (.tup [.rv (.int .i64 (contentF l f n).1), .rv (.bool (contentF l f n).2)]) := by
  intro f
  induction f with
  | zero =>
    intro n hn
    have hmm : madeAt l n = false := by
      have : inL l n = false := by simp [inL]; omega
      simp [madeAt, this]
    have hm := sp_Made l n
    rw [hmm] at hm
    rw [content_no hmm]
    refine callR_G k_prefer_Content [.rv (kinV l), .rv (.int .i64 n)] _ (by simp) (by simp [BkAll, bk_agg, bkAll_map, bk_rv, bk_fn, Sty.sv, Ln.sv, Nd.sv]) (fun K hK => ?_)
    simp -implicitDefEqProofs only [c_prefer_Content, go_sem, ↓reduceIte, Nat.reduceEqDiff, Nat.reduceAdd, Nat.reduceSub, Nat.reduceMul, Nat.reduceLeDiff, Nat.reduceLT, reduceCtorEq, Int.reduceToNat]
    have hcall9 := hm; repeat' (first | (simp -implicitDefEqProofs only [go_sem, ↓reduceIte, Nat.reduceEqDiff, Nat.reduceAdd, Nat.reduceSub, Nat.reduceMul, Nat.reduceLeDiff, Nat.reduceLT, reduceCtorEq, Int.reduceToNat]) | (with_reducible refine g_noent ?_) | (with_reducible refine g_call0 hcall9 ?_) | (with_reducible refine g_calld0 hcall9 ?_) | (refine cdS (fun hg => ?_) (fun hg => ?_) <;> try simp -implicitDefEqProofs only [hg, Bool.not_true, Bool.not_false]) | (refine gdS (fun hg => ?_) (fun hg => ?_) <;> try simp -implicitDefEqProofs only [hg, Bool.not_true, Bool.not_false]) | (refine gddS (fun hg => ?_) (fun hg => ?_) <;> try simp -implicitDefEqProofs only [hg, Bool.not_true, Bool.not_false]) | ((with_reducible apply And.intro); focus (first | trivial | omega | decide | (simp -implicitDefEqProofs only [maxLen]; omega) | (simp [maxLen, sty_len, nd_len, ndL_len, lnL_len, intsL_len, rvs_len, lensS_len]; done) | (simp [maxLen, sty_len, nd_len, ndL_len, lnL_len, intsL_len, rvs_len, lensS_len]; omega))) | fail)
    exact (hK _ _ (ret_t2 rfl rfl)).2
  | succ f ih =>
    intro n hn
    have hm := sp_Made l n
    cases hmm : madeAt l n with
    | false =>
      rw [hmm] at hm
      rw [content_no hmm]
      refine callR_G k_prefer_Content [.rv (kinV l), .rv (.int .i64 n)] _ (by simp) (by simp [BkAll, bk_agg, bkAll_map, bk_rv, bk_fn, Sty.sv, Ln.sv, Nd.sv]) (fun K hK => ?_)
      simp -implicitDefEqProofs only [c_prefer_Content, go_sem, ↓reduceIte, Nat.reduceEqDiff, Nat.reduceAdd, Nat.reduceSub, Nat.reduceMul, Nat.reduceLeDiff, Nat.reduceLT, reduceCtorEq, Int.reduceToNat]
      have hcall10 := hm; repeat' (first | (simp -implicitDefEqProofs only [go_sem, ↓reduceIte, Nat.reduceEqDiff, Nat.reduceAdd, Nat.reduceSub, Nat.reduceMul, Nat.reduceLeDiff, Nat.reduceLT, reduceCtorEq, Int.reduceToNat]) | (with_reducible refine g_noent ?_) | (with_reducible refine g_call0 hcall10 ?_) | (with_reducible refine g_calld0 hcall10 ?_) | (refine cdS (fun hg => ?_) (fun hg => ?_) <;> try simp -implicitDefEqProofs only [hg, Bool.not_true, Bool.not_false]) | (refine gdS (fun hg => ?_) (fun hg => ?_) <;> try simp -implicitDefEqProofs only [hg, Bool.not_true, Bool.not_false]) | (refine gddS (fun hg => ?_) (fun hg => ?_) <;> try simp -implicitDefEqProofs only [hg, Bool.not_true, Bool.not_false]) | ((with_reducible apply And.intro); focus (first | trivial | omega | decide | (simp -implicitDefEqProofs only [maxLen]; omega) | (simp [maxLen, sty_len, nd_len, ndL_len, lnL_len, intsL_len, rvs_len, lensS_len]; done) | (simp [maxLen, sty_len, nd_len, ndL_len, lnL_len, intsL_len, rvs_len, lensS_len]; omega))) | fail)
      exact (hK _ _ (ret_t2 rfl rfl)).2
    | true =>
      rw [hmm] at hm
      refine callR_G k_prefer_Content [.rv (kinV l), .rv (.int .i64 n)] _ (by simp) (by simp [BkAll, bk_agg, bkAll_map, bk_rv, bk_fn, Sty.sv, Ln.sv, Nd.sv]) (fun K hK => ?_)
      have hst := sp_Style l n
      have hfl := sp_FlowP l n hb
      have hv : contentF l (f + 1) n = match goF l (fun m => contentF l f m) (if (styAt l n).width.kind = 1 then [] else flowAt l n) (unitsL (styAt l n).width 0) with
        | some w => (clampI w (unitsL (styAt l n).minW 0) (unitsL (styAt l n).maxW 1125899906842624), true)
        | none => (0, false) := by simp [contentF, hmm]
      rw [hv] at hK
      have hgt := fun m => flow_gt (n := n) (m := m) hs
      have hfn := flow_len l n
      generalize styAt l n = s at *
      simp -implicitDefEqProofs only [c_prefer_Content, go_sem, ↓reduceIte, Nat.reduceEqDiff, Nat.reduceAdd, Nat.reduceSub, Nat.reduceMul, Nat.reduceLeDiff, Nat.reduceLT, reduceCtorEq, Int.reduceToNat]
      by_cases hw : s.width.kind = 1
      · have e1 : (s.width.kind != 1) = false := by simp [hw]
        rw [if_pos hw] at hK
        simp -implicitDefEqProofs only [goF] at hK
        have hcall11 := hm; have hcall12 := hst; have hcall13 := sp_units s.width 0; have hcall14 := sp_units s.minW 0; have hcall15 := sp_units s.maxW 1125899906842624; have hcall16 := sp_fix_Clamp (unitsL s.width 0) (unitsL s.minW 0) (unitsL s.maxW 1125899906842624); repeat' (first | (simp -implicitDefEqProofs only [go_sem, ↓reduceIte, Nat.reduceEqDiff, Nat.reduceAdd, Nat.reduceSub, Nat.reduceMul, Nat.reduceLeDiff, Nat.reduceLT, reduceCtorEq, Int.reduceToNat, sty_len, sty_w2, sty_at10, sty_lo, sty_hi, e1]) | (with_reducible refine g_noent ?_) | (with_reducible refine g_call0 hcall11 ?_) | (with_reducible refine g_calld0 hcall11 ?_) | (with_reducible refine g_call0 hcall12 ?_) | (with_reducible refine g_calld0 hcall12 ?_) | (with_reducible refine g_call0 hcall13 ?_) | (with_reducible refine g_calld0 hcall13 ?_) | (with_reducible refine g_call0 hcall14 ?_) | (with_reducible refine g_calld0 hcall14 ?_) | (with_reducible refine g_call0 hcall15 ?_) | (with_reducible refine g_calld0 hcall15 ?_) | (with_reducible refine g_call0 hcall16 ?_) | (with_reducible refine g_calld0 hcall16 ?_) | (refine cdS (fun hg => ?_) (fun hg => ?_) <;> try simp -implicitDefEqProofs only [hg, Bool.not_true, Bool.not_false]) | (refine gdS (fun hg => ?_) (fun hg => ?_) <;> try simp -implicitDefEqProofs only [hg, Bool.not_true, Bool.not_false]) | (refine gddS (fun hg => ?_) (fun hg => ?_) <;> try simp -implicitDefEqProofs only [hg, Bool.not_true, Bool.not_false]) | ((with_reducible apply And.intro); focus (first | trivial | omega | decide | (simp -implicitDefEqProofs only [maxLen]; omega) | (simp [maxLen, sty_len, nd_len, ndL_len, lnL_len, intsL_len, rvs_len, lensS_len]; done) | (simp [maxLen, sty_len, nd_len, ndL_len, lnL_len, intsL_len, rvs_len, lensS_len]; omega) | (exact ⟨rfl, by decide⟩; done))) | fail)
        exact (hK _ _ (ret_t2 rfl rfl)).2
      · have e1 : (s.width.kind != 1) = true := by simp [hw]
        rw [if_neg hw] at hK
        generalize hX : flowAt l n = X at *
        have hln := nats_ln X
        have hcall17 := hm; have hcall18 := hst; have hcall19 := hfl; have hcall20 := sp_units s.width 0; repeat' (first | (simp -implicitDefEqProofs only [go_sem, ↓reduceIte, Nat.reduceEqDiff, Nat.reduceAdd, Nat.reduceSub, Nat.reduceMul, Nat.reduceLeDiff, Nat.reduceLT, reduceCtorEq, Int.reduceToNat, hln, sty_len, sty_w2, sty_at10, e1]) | (with_reducible refine g_noent ?_) | (with_reducible refine g_call0 hcall17 ?_) | (with_reducible refine g_calld0 hcall17 ?_) | (with_reducible refine g_call0 hcall18 ?_) | (with_reducible refine g_calld0 hcall18 ?_) | (with_reducible refine g_call0 hcall19 ?_) | (with_reducible refine g_calld0 hcall19 ?_) | (with_reducible refine g_call0 hcall20 ?_) | (with_reducible refine g_calld0 hcall20 ?_) | (refine cdS (fun hg => ?_) (fun hg => ?_) <;> try simp -implicitDefEqProofs only [hg, Bool.not_true, Bool.not_false]) | (refine gdS (fun hg => ?_) (fun hg => ?_) <;> try simp -implicitDefEqProofs only [hg, Bool.not_true, Bool.not_false]) | (refine gddS (fun hg => ?_) (fun hg => ?_) <;> try simp -implicitDefEqProofs only [hg, Bool.not_true, Bool.not_false]) | ((with_reducible apply And.intro); focus (first | trivial | omega | decide | (simp -implicitDefEqProofs only [maxLen]; omega) | (simp [maxLen, sty_len, nd_len, ndL_len, lnL_len, intsL_len, rvs_len, lensS_len]; done) | (simp [maxLen, sty_len, nd_len, ndL_len, lnL_len, intsL_len, rvs_len, lensS_len]; omega) | (exact ⟨rfl, by decide⟩; done))) | fail)
        refine g_loop (ι := Nat × Int) (fun q => [(30, .rv (.int .i64 q.1)), (29, .rv (.int .i64 X.length)), (28, .rv (.sl 1 (intsL (natsI X)))), (6, .ptr 0 0), (7, .rv (.int .i64 q.2)), (0, .rv (kinV l))]) (fun _ => [some (.var (s.cells.map .rv))]) (fun q => q.1 ≤ X.length ∧ goF l (fun m => contentF l f m) (X.drop q.1) q.2 = goF l (fun m => contentF l f m) X (unitsL s.width 0)) (fun q => X.length - q.1) (0, unitsL s.width 0) ⟨by simp, rfl⟩ (ent_env (by simp [lk])) (fun q hq K' hN hX' hR => ?_)
        obtain ⟨i, w⟩ := q
        obtain ⟨q1, q2⟩ := hq
        dsimp only at q1 q2 ⊢
        simp -implicitDefEqProofs only [go_sem, ↓reduceIte, Nat.reduceEqDiff, Nat.reduceAdd, Nat.reduceSub, Nat.reduceMul, Nat.reduceLeDiff, Nat.reduceLT, reduceCtorEq, Int.reduceToNat]
        refine cdS (fun hg => ?_) (fun hg => ?_)
        · have hi4 : i < X.length := by simp at hg; omega
          have wu := wrap_up (k := i) (by omega)
          have hx := nats_at hi4
          have hd := goF_drop (l := l) (g := fun m => contentF l f m) hi4 w
          have hmn := hgt X[i] (List.getElem_mem hi4)
          have hC := ih (X[i] : Nat) (by omega)
          have hO := sp_outer l (X[i] : Nat) _ _ hC
          rw [atI_lt hi4] at hx
          generalize contentF l f (X[i] : Nat) = c at hd hO
          cases hok : (c.2 && sumOK (outL c.1 (styAt l (X[i] : Nat)) 2)) with
          | false =>
            rw [hok] at hd hO
            simp -implicitDefEqProofs only [Bool.false_eq_true, if_false] at hd
            rw [q2.symm.trans hd] at hK
            have hcall21 := hO; repeat' (first | (simp -implicitDefEqProofs only [go_sem, ↓reduceIte, Nat.reduceEqDiff, Nat.reduceAdd, Nat.reduceSub, Nat.reduceMul, Nat.reduceLeDiff, Nat.reduceLT, reduceCtorEq, Int.reduceToNat, hx, hln, wu]) | (with_reducible refine g_noent ?_) | (with_reducible refine g_call0 hcall21 ?_) | (with_reducible refine g_calld0 hcall21 ?_) | (refine cdS (fun hg => ?_) (fun hg => ?_) <;> try simp -implicitDefEqProofs only [hg, Bool.not_true, Bool.not_false]) | (refine gdS (fun hg => ?_) (fun hg => ?_) <;> try simp -implicitDefEqProofs only [hg, Bool.not_true, Bool.not_false]) | (refine gddS (fun hg => ?_) (fun hg => ?_) <;> try simp -implicitDefEqProofs only [hg, Bool.not_true, Bool.not_false]) | ((with_reducible apply And.intro); focus (first | trivial | omega | decide | (simp -implicitDefEqProofs only [maxLen]; omega) | (simp [maxLen, sty_len, nd_len, ndL_len, lnL_len, intsL_len, rvs_len, lensS_len]; done) | (simp [maxLen, sty_len, nd_len, ndL_len, lnL_len, intsL_len, rvs_len, lensS_len]; omega))) | fail)
            exact hR _ _ (hK _ _ (ret_t2 rfl rfl)).2
          | true =>
            rw [hok] at hd hO
            simp -implicitDefEqProofs only [if_true] at hd
            have hso : sumV (outL c.1 (styAt l (X[i] : Nat)) 2) = (outL c.1 (styAt l (X[i] : Nat)) 2).sum := by
              simp -implicitDefEqProofs only [Bool.and_eq_true] at hok; simp [sumV, hok.2]
            rw [hso] at hO
            have hcall22 := hO; repeat' (first | (simp -implicitDefEqProofs only [go_sem, ↓reduceIte, Nat.reduceEqDiff, Nat.reduceAdd, Nat.reduceSub, Nat.reduceMul, Nat.reduceLeDiff, Nat.reduceLT, reduceCtorEq, Int.reduceToNat, hx, hln, wu]) | (with_reducible refine g_noent ?_) | (with_reducible refine g_call0 hcall22 ?_) | (with_reducible refine g_calld0 hcall22 ?_) | (refine cdS (fun hg => ?_) (fun hg => ?_) <;> try simp -implicitDefEqProofs only [hg, Bool.not_true, Bool.not_false]) | (refine gdS (fun hg => ?_) (fun hg => ?_) <;> try simp -implicitDefEqProofs only [hg, Bool.not_true, Bool.not_false]) | (refine gddS (fun hg => ?_) (fun hg => ?_) <;> try simp -implicitDefEqProofs only [hg, Bool.not_true, Bool.not_false]) | ((with_reducible apply And.intro); focus (first | trivial | omega | decide | (simp -implicitDefEqProofs only [maxLen]; omega) | (simp [maxLen, sty_len, nd_len, ndL_len, lnL_len, intsL_len, rvs_len, lensS_len]; done) | (simp [maxLen, sty_len, nd_len, ndL_len, lnL_len, intsL_len, rvs_len, lensS_len]; omega))) | fail)
            exact hN (i + 1, mxI w (outL c.1 (styAt l (X[i] : Nat)) 2).sum) _ _ ⟨by dsimp only; omega, by dsimp only; rw [← hd]; exact q2⟩ (by dsimp only; omega) (ent_env (by simp [lk, mxI]))
        · have hi4 : i = X.length := by simp at hg; omega
          subst hi4
          rw [List.drop_length] at q2
          simp -implicitDefEqProofs only [goF] at q2
          rw [← q2] at hK
          simp -implicitDefEqProofs only [go_sem, ↓reduceIte, Nat.reduceEqDiff, Nat.reduceAdd, Nat.reduceSub, Nat.reduceMul, Nat.reduceLeDiff, Nat.reduceLT, reduceCtorEq, Int.reduceToNat]
          refine hX' _ _ _ ?_
          have hcall23 := sp_units s.minW 0; have hcall24 := sp_units s.maxW 1125899906842624; have hcall25 := sp_fix_Clamp w (unitsL s.minW 0) (unitsL s.maxW 1125899906842624); repeat' (first | (simp -implicitDefEqProofs only [go_sem, ↓reduceIte, Nat.reduceEqDiff, Nat.reduceAdd, Nat.reduceSub, Nat.reduceMul, Nat.reduceLeDiff, Nat.reduceLT, reduceCtorEq, Int.reduceToNat, sty_len, sty_lo, sty_hi]) | (with_reducible refine g_noent ?_) | (with_reducible refine g_call0 hcall23 ?_) | (with_reducible refine g_calld0 hcall23 ?_) | (with_reducible refine g_call0 hcall24 ?_) | (with_reducible refine g_calld0 hcall24 ?_) | (with_reducible refine g_call0 hcall25 ?_) | (with_reducible refine g_calld0 hcall25 ?_) | (refine cdS (fun hg => ?_) (fun hg => ?_) <;> try simp -implicitDefEqProofs only [hg, Bool.not_true, Bool.not_false]) | (refine gdS (fun hg => ?_) (fun hg => ?_) <;> try simp -implicitDefEqProofs only [hg, Bool.not_true, Bool.not_false]) | (refine gddS (fun hg => ?_) (fun hg => ?_) <;> try simp -implicitDefEqProofs only [hg, Bool.not_true, Bool.not_false]) | ((with_reducible apply And.intro); focus (first | trivial | omega | decide | (simp -implicitDefEqProofs only [maxLen]; omega) | (simp [maxLen, sty_len, nd_len, ndL_len, lnL_len, intsL_len, rvs_len, lensS_len]; done) | (simp [maxLen, sty_len, nd_len, ndL_len, lnL_len, intsL_len, rvs_len, lensS_len]; omega) | (exact ⟨rfl, by decide⟩; done))) | fail)
          exact (hK _ _ (ret_t2 rfl rfl)).2
end Go.Eng

/- prefer: the document's function. -/
namespace Go.Eng
open Go
def refL (w : Int) (s : Sty) : List Int := [unitsL s.margin.d 0, s.border.d, unitsL s.pad.d 0, w, unitsL s.pad.b 0, s.border.b, unitsL s.margin.b 0]
end Go.Eng

/- kin: of a list that is the caller's own. -/
namespace Go.Eng
open Go

theorem flat_cells (s : Sty) : ∀ r ∈ s.cells, FlatR r := by
  intro r hr
  simp -implicitDefEqProofs only [Sty.cells, List.mem_cons, List.not_mem_nil, or_false] at hr
  repeat' rcases hr with rfl | hr
  all_goals first | exact .int _ _ | exact .bool _ | (subst hr; exact .int _ _)
theorem flat_nd (x : Nd) : ∀ r ∈ x.cells, FlatR r := by
  intro r hr
  rcases List.mem_append.1 hr with hr | hr
  · exact flat_cells _ r hr
  · simp at hr; rw [hr]; exact .int _ _
theorem flatH_rvs {e v : Nat} {xs : List (List RV)} (h : ∀ x ∈ xs, ∀ r ∈ x, FlatR r) : FlatH (.row e v (rvs xs)) := by
  refine .row _ _ _ (fun i x j y hx hy => ?_)
  unfold rvs at hx
  rw [List.getElem?_map] at hx
  cases hq : xs[i]? with
  | none => simp [hq] at hx
  | some z =>
    simp [hq] at hx
    subst hx
    rw [List.getElem?_map] at hy
    cases hr : z[j]? with
    | none => simp [hr] at hy
    | some r => simp [hr] at hy; subst hy; exact .rv _ (h z (List.mem_of_getElem? hq) r (List.mem_of_getElem? hr))
theorem sp_Clone_NodeR (l : List Nd) (hb : l.length ≤ 8589934592) (i v m : Nat) (hne : i ≠ m) : CallR Go.Proofs.Try.prog 62 [.row i v l.length] [(i, .row 49 v (rvs (ndL l)))] [(m, .row 49 1 (rvs (ndL l)))] (.row m 1 l.length) := by
  have h := sp_Clone_Node (ndL l) m (by rw [ndL_len]; exact hb)
  rw [ndL_len] at h
  refine callR_lend (rs := [.sl 49 (ndL l)]) h (fun hp hpre => ⟨?_, trivial⟩) rfl (.row _ _ _) (fun q hq => ?_)
  · exact fz_rows (hpre _ (.head _)) rfl (by simp [ndL]) (ndL_one l)
  · simp at hq; subst hq
    refine ⟨flatH_rvs fun x hx => ?_, by simpa using hne⟩
    obtain ⟨n, _, rfl⟩ := List.mem_map.1 hx
    exact flat_nd n

theorem nd_sv49m (x : Nd) : (x.cells.map SV.rv).take 49 = x.cells.map SV.rv := rfl
def kTabR (l : List Nd) (k : Nat) : List (List SV) := (List.range l.length).map fun p => [.row (p + 7) (kidsTo l k p).length (kidsTo l k p).length]
def kRowsR (l : List Nd) (k : Nat) : List (Option HB) := (List.range l.length).map fun p => some (.row 1 (kidsTo l k p).length (rvs (intsL (natsI (kidsTo l k p)))))
theorem kTab_lenR (l : List Nd) (k : Nat) : (kTabR l k).length = l.length := by simp [kTabR]
theorem kRows_lenR (l : List Nd) (k : Nat) : (kRowsR l k).length = l.length := by simp [kRowsR]
theorem kTab_getR {l : List Nd} {k p : Nat} (hp : p < l.length) : (kTabR l k)[p]?.getD [] = [.row (p + 7) (kidsTo l k p).length (kidsTo l k p).length] := by simp [kTabR, hp]
theorem kRows_getR {l : List Nd} {k p : Nat} {C : List (Option HB)} (hp : p < l.length) : hget (kRowsR l k ++ C) p = some (.row 1 (kidsTo l k p).length (rvs (intsL (natsI (kidsTo l k p))))) := by
  unfold hget
  rw [List.getElem?_append_left (by rw [kRows_lenR]; exact hp)]
  simp [kRowsR, hp]
theorem kRows_endR {l : List Nd} {k : Nat} {x : Option HB} {C : List (Option HB)} : hget (kRowsR l k ++ x :: C) l.length = x := by
  unfold hget
  rw [List.getElem?_append_right (by rw [kRows_lenR]; exact Nat.le_refl _), kRows_lenR]
  simp
theorem kRows_end1R {l : List Nd} {k : Nat} {x y : Option HB} {C : List (Option HB)} : hget (kRowsR l k ++ x :: y :: C) (l.length + 1) = y := by
  unfold hget
  rw [List.getElem?_append_right (by rw [kRows_lenR]; omega), kRows_lenR, show l.length + 1 - l.length = 1 by omega]
  simp
theorem kRows_end2R {l : List Nd} {k p : Nat} {hb : Option HB} {x y : Option HB} {C : List (Option HB)} : hget ((kRowsR l k).set p hb ++ x :: C) l.length = x := by
  unfold hget
  rw [List.getElem?_append_right (by rw [List.length_set, kRows_lenR]; exact Nat.le_refl _), List.length_set, kRows_lenR]
  simp
theorem kRows_setER {l : List Nd} {k : Nat} {x y : Option HB} {C : List (Option HB)} : (kRowsR l k ++ x :: C).set l.length y = kRowsR l k ++ y :: C := by
  rw [List.set_append_right _ _ (by rw [kRows_lenR]; exact Nat.le_refl _), kRows_lenR, Nat.sub_self]; rfl
theorem kRows_setPR {l : List Nd} {k p : Nat} {y : Option HB} {C : List (Option HB)} (hp : p < l.length) : (kRowsR l k ++ C).set p y = (kRowsR l k).set p y ++ C := by
  rw [List.set_append_left _ _ (by rw [kRows_lenR]; exact hp)]
theorem kRows_zeroR (l : List Nd) : kRowsR l 0 = ghRows l.length 1 := by
  refine List.ext_getElem (by simp [kRowsR, ghRows]) (fun i h1 h2 => ?_)
  simp [kRowsR, ghRows, kidsTo_zero, natsI, intsL, rvs]
theorem kTab_zeroR (l : List Nd) : kTabR l 0 = ghTab 7 l.length l.length := by
  refine List.ext_getElem (by simp [kTabR, ghTab]) (fun i h1 h2 => ?_)
  simp [kTabR] at h1
  simp [kTabR, ghTab, kidsTo_zero, h1]; omega
theorem kRows_nextR {l : List Nd} {k p : Nat} (h0 : 0 < k) (hp : parL l k = p) (hl : p < l.length) :
    (kRowsR l k).set p (some (.row 1 ((kidsTo l k p).length + 1) (rvs (intsL (natsI (kidsTo l k p) ++ [(k : Int)]))))) = kRowsR l (k + 1) := by
  refine List.ext_getElem (by simp [kRowsR]) (fun i h1 h2 => ?_)
  simp -implicitDefEqProofs only [List.getElem_set, kRowsR, List.getElem_map, List.getElem_range, kidsTo_succ]
  by_cases h : p = i
  · subst h; simp [h0, hp, natsI]
  · rw [if_neg h, if_neg (by rw [hp]; omega)]; simp
theorem kTab_nextR {l : List Nd} {k p : Nat} (h0 : 0 < k) (hp : parL l k = p) (hl : p < l.length) :
    (kTabR l k).set p [.row (p + 7) ((kidsTo l k p).length + 1) ((kidsTo l k p).length + 1)] = kTabR l (k + 1) := by
  refine List.ext_getElem (by simp [kTabR]) (fun i h1 h2 => ?_)
  simp -implicitDefEqProofs only [List.getElem_set, kTabR, List.getElem_map, List.getElem_range, kidsTo_succ]
  by_cases h : p = i
  · subst h; simp [h0, hp]
  · rw [if_neg h, if_neg (by rw [hp]; omega)]; simp
theorem kRows_firstR (l : List Nd) : kRowsR l 1 = kRowsR l 0 := by
  refine List.ext_getElem (by simp [kRowsR]) (fun i h1 h2 => ?_)
  simp [kRowsR, kidsTo, List.range_succ]
theorem kTab_firstR (l : List Nd) : kTabR l 1 = kTabR l 0 := by
  refine List.ext_getElem (by simp [kTabR]) (fun i h1 h2 => ?_)
  simp [kTabR, kidsTo, List.range_succ]

def kHeapR (v : Nat) (l : List Nd) (k : Nat) (es ds : List Int) (bs : List Bool) : List (Option HB) := some (.row 49 v (rvs (ndL l))) :: some (.row 49 1 (rvs (ndL l))) :: some (.row 1 0 (kTabR l k)) :: some (.row 1 0 (rvs (intsL es))) :: some (.row 1 0 (rvs (intsL ds))) :: some (.row 1 0 (rvs (boolL bs))) :: some (.var [.row 1 1 l.length, .row 2 0 l.length, .row 3 0 l.length, .row 4 0 l.length, .row 5 0 l.length]) :: kRowsR l k
theorem kHeap_lenR {v : Nat} {l : List Nd} {k : Nat} {es ds : List Int} {bs : List Bool} : (kHeapR v l k es ds bs).length = l.length + 7 := by simp [kHeapR, kRows_lenR]
theorem kHeap_clR {v : Nat} {l : List Nd} {k : Nat} {es ds : List Int} {bs : List Bool} : AllSome (ClH (l.length + 7)) (kHeapR v l k es ds bs) := by
  refine ⟨clH_rvs, clH_rvs, fun i x hx => ?_, clH_rvs, clH_rvs, clH_rvs, by simp [ClH, ClA, clS_row], AllSome.of fun j x hx => ?_⟩
  · obtain ⟨hl, rfl⟩ := List.getElem?_eq_some_iff.1 hx
    simp [kTab_lenR] at hl
    simp [kTabR, ClA, clS_row, hl]
  · obtain ⟨hl, rfl⟩ := List.getElem?_eq_some_iff.1 hx
    exact ⟨.row 1 (kidsTo l k j).length (rvs (intsL (natsI (kidsTo l k j)))), by simp [kRowsR], clH_rvs⟩
theorem kHeap_tailR {v : Nat} {l : List Nd} {k : Nat} {es ds : List Int} {bs : List Bool} {env env' : List (Nat × SV)} {C : List (Option HB)} (he : ClEnv (l.length + 7) env env') : Ent 1 ⟨env, kHeapR v l k es ds bs ++ C⟩ ⟨env', kHeapR v l k es ds bs⟩ :=
  ent_tail (by rw [kHeap_lenR]; omega) (by rw [kHeap_lenR]; exact kHeap_clR) (by rw [kHeap_lenR]; exact he)

theorem kin_fzR (v : Nat) (l : List Nd) {τ : Nat → Option Nat} (hτ : ∀ j, 0 < j → τ j = none) : Fz τ (hget (kHeapR v l l.length (endsL l) (depTo l l.length) (madeTo l l.length))) (.ptr 6 0) (kinV l) := by
  refine .ptr 6 [.row 1 1 l.length, .row 2 0 l.length, .row 3 0 l.length, .row 4 0 l.length, .row 5 0 l.length] _ (hτ _ (by decide)) rfl rfl (fun i r hr => ?_) (fun i x r hx hr => ?_)
  · match i with
    | 0 => cases hr; rfl
    | 1 => cases hr; rfl
    | 2 => cases hr; rfl
    | 3 => cases hr; rfl
    | 4 => cases hr; rfl
    | i + 5 => simp at hr
  · match i with
    | 0 => cases hx; cases hr; exact fz_rows rfl (hτ _ (by decide)) (by simp [ndL]) (ndL_one l)
    | 1 =>
      cases hx; cases hr
      refine .row 2 1 0 l.length (kTabR l l.length) (kidsL l) (hτ _ (by decide)) rfl (by simp [kidsL]) (by rw [kTab_lenR]; exact Nat.le_refl _) (fun i x r hx hr => ?_) (fun i r k q hr hq => ?_) (fun i x r k y q hx hr hy hq => ?_)
      · obtain ⟨_, rfl⟩ := List.getElem?_eq_some_iff.1 hx
        obtain ⟨_, rfl⟩ := List.getElem?_eq_some_iff.1 hr
        simp [kTabR, kidsL]
      · obtain ⟨_, rfl⟩ := List.getElem?_eq_some_iff.1 hr
        have := List.mem_of_getElem? hq
        simp [kidsL] at this
        rw [this]; rfl
      · obtain ⟨hl, rfl⟩ := List.getElem?_eq_some_iff.1 hx
        obtain ⟨_, rfl⟩ := List.getElem?_eq_some_iff.1 hr
        rw [kTab_lenR] at hl
        cases k with
        | succ k => simp [kTabR] at hy
        | zero =>
          simp [kTabR] at hy
          simp [kidsL] at hq
          subst hy; subst hq
          refine fz_rows (xs := intsL (natsI (kidsOf l i))) ?_ (hτ _ (by omega)) (by simp [intsL, natsI, kidsOf]) (intsL_one _)
          have := kRows_getR (k := l.length) (C := []) hl
          rw [List.append_nil] at this
          exact this
    | 2 => cases hx; cases hr; exact fz_rows rfl (hτ _ (by decide)) (by simp [intsL, endsL]) (intsL_one _)
    | 3 => cases hx; cases hr; exact fz_rows rfl (hτ _ (by decide)) (by simp [intsL, depTo]) (intsL_one _)
    | 4 => cases hx; cases hr; exact fz_rows rfl (hτ _ (by decide)) (by simp [boolL, madeTo]) (boolL_one _)
    | i + 5 => simp at hx

set_option maxRecDepth 20000 in
set_option maxHeartbeats 8000000 in
theorem sp_kin_OfR (l : List Nd) (hb : l.length ≤ 8589934592) (hc : chk l = 0) (i0 v : Nat) : CallR Go.Proofs.Try.prog 17 [.row i0 v l.length] [(i0, .row 49 v (rvs (ndL l)))] [] (.tup [.rv (kinV l), .rv (.int .i64 0)]) := by
  refine callR_M k_kin_Of [i0] [.row 49 v (rvs (ndL l))] [.row 49 v (rvs (ndL l))] [.row 0 v l.length] [.row i0 v l.length] _ _ (by simp) (by simp [BkAll, bk_row]) rfl (by simp [nodupL]) ⟨rfl, rfl, ⟨rfl, _, rfl⟩, trivial⟩ (fun K hK => ?_)
  have hlen := ndL_len l
  have hck0 := sp_tree_Check l hb
  rw [hc] at hck0
  have hck := lend1 (id := 0) (v := v) (n := l.length) (bs := []) hck0 (.int _ _) (by simp [ndL]) (ndL_one l)
  have ht : treeOK l = true := by
    unfold chk at hc
    cases h : treeOK l with
    | true => rfl
    | false => rw [h] at hc; simp at hc
  have hs : Shp l := shape_iff.1 (by unfold treeOK at ht; simp -implicitDefEqProofs only [Bool.and_eq_true] at ht; exact ht.1)
  have e00 : (((0 : Int)) != 0) = false := rfl
  simp -implicitDefEqProofs only [c_kin_Of, go_sem, ↓reduceIte, Nat.reduceEqDiff, Nat.reduceAdd, Nat.reduceSub, Nat.reduceMul, Nat.reduceLeDiff, Nat.reduceLT, reduceCtorEq, Int.reduceToNat]
  have hb2 : (ndL l).length ≤ 8589934592 := by rw [hlen]; exact hb
  have hcall1 := hck; have hcall2 := sp_Clone_NodeR l hb 0 v 1 (by decide); repeat' (first | (simp -implicitDefEqProofs only [go_sem, ↓reduceIte, Nat.reduceEqDiff, Nat.reduceAdd, Nat.reduceSub, Nat.reduceMul, Nat.reduceLeDiff, Nat.reduceLT, reduceCtorEq, Int.reduceToNat, e00, hlen, rvs_rep1, rvs_repB]) | (with_reducible refine g_noent ?_) | (refine g_call hcall1 (by simp [PreOK, hget]; done) (by simp [okU, uph]; done) ?_) | (refine g_calld hcall1 (by simp [PreOK, hget]; done) (by simp [okU, uph]; done) ?_) | (refine g_call hcall2 (by simp [PreOK, hget]; done) (by simp [okU, uph]; done) ?_) | (refine g_calld hcall2 (by simp [PreOK, hget]; done) (by simp [okU, uph]; done) ?_) | (refine cdS (fun hg => ?_) (fun hg => ?_) <;> try simp -implicitDefEqProofs only [hg, Bool.not_true, Bool.not_false]) | (refine gdS (fun hg => ?_) (fun hg => ?_) <;> try simp -implicitDefEqProofs only [hg, Bool.not_true, Bool.not_false]) | (refine gddS (fun hg => ?_) (fun hg => ?_) <;> try simp -implicitDefEqProofs only [hg, Bool.not_true, Bool.not_false]) | ((with_reducible apply And.intro); focus (first | trivial | omega | decide | (simp -implicitDefEqProofs only [maxLen]; omega) | (simp [maxLen, sty_len, nd_len, ndL_len, lnL_len, intsL_len, rvs_len, lensS_len]; done) | (simp [maxLen, sty_len, nd_len, ndL_len, lnL_len, intsL_len, rvs_len, lensS_len]; omega))) | fail)
  have hkt : ∀ n : Nat, kTabR l 0 = ghTab 7 l.length l.length := fun _ => kTab_zeroR l
  let ev : Nat → List (Nat × SV) := fun k => [(33, .rv (.int .i64 k)), (32, .rv (.int .i64 l.length)), (31, .row 0 v l.length), (5, .ptr 6 0), (0, .row 0 v l.length)]
  refine g_loop (ι := Nat) (fun k => [(33, .rv (.int .i64 k)), (32, .rv (.int .i64 l.length)), (31, .row 0 v l.length), (5, .ptr 6 0), (0, .row 0 v l.length)]) (fun k => some (.row 49 v (rvs (ndL l))) :: some (.row 49 1 (rvs (ndL l))) :: some (.row 1 0 (kTabR l k)) :: some (.row 1 0 (rvs (intsL (List.replicate l.length 0)))) :: some (.row 1 0 (rvs (intsL (depTo l k)))) :: some (.row 1 0 (rvs (boolL (madeTo l k)))) :: some (.var [.row 1 1 l.length, .row 2 0 l.length, .row 3 0 l.length, .row 4 0 l.length, .row 5 0 l.length]) :: kRowsR l k) (fun k => k ≤ l.length) (fun k => l.length - k) 0 (by simp) ?_ (fun k hk K' hN hX hR => ?_)
  · refine (ent_env (env' := [(33, .rv (.int .i64 0)), (32, .rv (.int .i64 l.length)), (31, .row 0 v l.length), (5, .ptr 6 0), (0, .row 0 v l.length)]) (by simp [lk])).trans ?_
    rw [kTab_zeroR, kRows_zeroR, depTo_zero, madeTo_zero]
    exact ent_ghosts (r := 2) (v := 0) (n := l.length) (e := 1) rfl
  simp -implicitDefEqProofs only [go_sem, ↓reduceIte, Nat.reduceEqDiff, Nat.reduceAdd, Nat.reduceSub, Nat.reduceMul, Nat.reduceLeDiff, Nat.reduceLT, reduceCtorEq, Int.reduceToNat]
  refine cdS (fun hg => ?_) (fun hg => ?_)
  · have hk4 : k < l.length := by simp at hg; omega
    have hx := ndL_get hk4
    have krl := kRows_lenR l k
    have hdl := depTo_len l k
    have hdd := intsL_len (depTo l k)
    have hd1 := intsL_getD (l := depTo l k) (i := k) (by omega)
    have hml := madeTo_len l k
    have hmm := boolL_len (madeTo l k)
    have hm1 := boolL_getD (bs := madeTo l k) (i := k) (by omega)
    have hsh := shownL_eq hk4
    have e1 : (l.length = l.length + 1) = False := eq_false (by omega)
    have e2 : (l.length = l.length + 2) = False := eq_false (by omega)
    have hds := depTo_set hk4
    have hds2 := depTo_set2 hk4
    have wu := wrap_up (k := k) (by omega)
    by_cases hk0 : 0 < k
    · have hgt : decide ((k : Int) > 0) = true := decide_eq_true (by omega)
      obtain ⟨p1, p2⟩ := hs.wf.2 k hk0 hk4
      obtain ⟨p, hp⟩ : ∃ p : Nat, parL l k = p := ⟨(parL l k).toNat, by omega⟩
      have hpl : p < l.length := by omega
      have q0 : (p = l.length) = False := eq_false (by omega)
      have q1 : (p = l.length + 1) = False := eq_false (by omega)
      have q2 : (p = l.length + 2) = False := eq_false (by omega)
      have hpk := parL_eq hk4
      have hds3 : (depTo l k).set k 1 = (depTo l k).set k 1 := rfl
      have hdsl : ((depTo l k).set k 1).length = l.length := by simp [hdl]
      have hdsl2 := intsL_len ((depTo l k).set k 1)
      have hdp := intsL_getD (l := (depTo l k).set k 1) (i := p) (by omega)
      have hdk := intsL_getD (l := (depTo l k).set k 1) (i := k) (by omega)
      rw [depTo_get (by omega) (by omega)] at hdp
      have hdep := depth_par hs.wf hk0 hk4
      rw [hp, Int.toNat_natCast] at hdep
      have wd := wrap_up (k := depth l p) (by have := pth_len (l := l) p; unfold depth; omega)
      rw [← hdep] at wd
      obtain ⟨b, hsv⟩ : ∃ b, shownL l k = b := ⟨_, rfl⟩
      have hmp := boolL_getD (bs := (madeTo l k).set k b) (i := p) (by simp [hml]; omega)
      have hmk := boolL_getD (bs := (madeTo l k).set k b) (i := k) (by simp [hml]; omega)
      rw [madeTo_get (by omega) (by omega)] at hmp
      have hmsl : ((madeTo l k).set k b).length = l.length := by simp [hml]
      have hmsl2 := boolL_len ((madeTo l k).set k b)
      have hms : ((madeTo l k).set k b).set k (b && madeS l p) = madeTo l (k + 1) := by
        have := madeS_par hs.wf hk0 hk4
        rw [hp, Int.toNat_natCast, hsv] at this
        rw [List.set_set, ← this, madeTo_set hk4]
      have hktl := kTab_lenR l k
      have hktg := kTab_getR (k := k) hpl
      have hkrg := fun C => kRows_getR (k := k) (C := C) hpl
      have hkn := kRows_nextR hk0 hp hpl
      have htn := kTab_nextR hk0 hp hpl
      have hsp := fun (y : Option HB) C => kRows_setPR (k := k) (y := y) (C := C) hpl
      have hkl : (natsI (kidsTo l k p)).length = (kidsTo l k p).length := by simp [natsI]
      have hkl2 := intsL_len (natsI (kidsTo l k p))
      have htk : (intsL (natsI (kidsTo l k p))).take (kidsTo l k p).length = intsL (natsI (kidsTo l k p)) := List.take_of_length_le (by rw [hkl2, hkl]; exact Nat.le_refl _)
      have hkk := kidsTo_len (l := l) (k := k) (p := p)
      cases b
      all_goals simp -implicitDefEqProofs only [Bool.false_and, Bool.true_and] at hms
      · repeat' (first | (simp -implicitDefEqProofs only [go_sem, ↓reduceIte, Nat.reduceEqDiff, Nat.reduceAdd, Nat.reduceSub, Nat.reduceMul, Nat.reduceLeDiff, Nat.reduceLT, reduceCtorEq, Int.reduceToNat, hlen, hx, krl, nd_len, nd_sv48, nd_sv49m, Nat.add_assoc, kRows_endR, List.append_assoc, hdl, hdd, hd1, hml, hmm, hm1, rvs_set1, rvs_setB, nd_at0, hsh, hsv, e1, e2, kRows_setER, hgt, hpk, hp, nd_atp, hktl, hktg, hkrg, q0, q1, q2, hsp, kRows_end1R, kRows_end2R, hkl, hkl2, htk, rvs_app1, hkn, htn, hdsl, hdsl2, hdp, hdk, wd, hds2, wu, hmp, hmk, hmsl, hmsl2]) | (with_reducible refine g_noent ?_) | (refine cdS (fun hg => ?_) (fun hg => ?_) <;> try simp -implicitDefEqProofs only [hg, Bool.not_true, Bool.not_false]) | (refine gdS (fun hg => ?_) (fun hg => ?_) <;> try simp -implicitDefEqProofs only [hg, Bool.not_true, Bool.not_false]) | (refine gddS (fun hg => ?_) (fun hg => ?_) <;> try simp -implicitDefEqProofs only [hg, Bool.not_true, Bool.not_false]) | ((with_reducible apply And.intro); focus (first | trivial | omega | decide | (simp -implicitDefEqProofs only [maxLen]; omega) | (simp [maxLen, sty_len, nd_len, ndL_len, lnL_len, intsL_len, rvs_len, lensS_len]; done) | (simp [maxLen, sty_len, nd_len, ndL_len, lnL_len, intsL_len, rvs_len, lensS_len]; omega) | (simp (decide := true) [compatB, compatB1, apartT, disj, Nat.testBit, q0, q1, q2]; done))) | fail)
        rw [hms]
        exact hN (k + 1) _ _ (by omega) (by omega) (kHeap_tailR (v := v) (l := l) (k := k + 1) (by simp [ClEnv, lk, clS_rv, clS_ptr, clS_row]))
      · repeat' (first | (simp -implicitDefEqProofs only [go_sem, ↓reduceIte, Nat.reduceEqDiff, Nat.reduceAdd, Nat.reduceSub, Nat.reduceMul, Nat.reduceLeDiff, Nat.reduceLT, reduceCtorEq, Int.reduceToNat, hlen, hx, krl, nd_len, nd_sv48, nd_sv49m, Nat.add_assoc, kRows_endR, List.append_assoc, hdl, hdd, hd1, hml, hmm, hm1, rvs_set1, rvs_setB, nd_at0, hsh, hsv, e1, e2, kRows_setER, hgt, hpk, hp, nd_atp, hktl, hktg, hkrg, q0, q1, q2, hsp, kRows_end1R, kRows_end2R, hkl, hkl2, htk, rvs_app1, hkn, htn, hdsl, hdsl2, hdp, hdk, wd, hds2, wu, hmp, hmk, hmsl, hmsl2]) | (with_reducible refine g_noent ?_) | (refine cdS (fun hg => ?_) (fun hg => ?_) <;> try simp -implicitDefEqProofs only [hg, Bool.not_true, Bool.not_false]) | (refine gdS (fun hg => ?_) (fun hg => ?_) <;> try simp -implicitDefEqProofs only [hg, Bool.not_true, Bool.not_false]) | (refine gddS (fun hg => ?_) (fun hg => ?_) <;> try simp -implicitDefEqProofs only [hg, Bool.not_true, Bool.not_false]) | ((with_reducible apply And.intro); focus (first | trivial | omega | decide | (simp -implicitDefEqProofs only [maxLen]; omega) | (simp [maxLen, sty_len, nd_len, ndL_len, lnL_len, intsL_len, rvs_len, lensS_len]; done) | (simp [maxLen, sty_len, nd_len, ndL_len, lnL_len, intsL_len, rvs_len, lensS_len]; omega) | (simp (decide := true) [compatB, compatB1, apartT, disj, Nat.testBit, q0, q1, q2]; done))) | fail)
        rw [hms]
        exact hN (k + 1) _ _ (by omega) (by omega) (kHeap_tailR (v := v) (l := l) (k := k + 1) (by simp [ClEnv, lk, clS_rv, clS_ptr, clS_row]))
    · obtain rfl : k = 0 := by omega
      have hgt : decide (((0 : Nat) : Int) > 0) = false := rfl
      rw [depth_zero] at hds
      have hms := madeTo_set hk4
      rw [madeS_zero] at hms
      have hds1 : (depTo l 0).set 0 1 = depTo l (0 + 1) := hds
      repeat' (first | (simp -implicitDefEqProofs only [go_sem, ↓reduceIte, Nat.reduceEqDiff, Nat.reduceAdd, Nat.reduceSub, Nat.reduceMul, Nat.reduceLeDiff, Nat.reduceLT, reduceCtorEq, Int.reduceToNat, hlen, hx, krl, nd_len, nd_sv48, nd_sv49m, Nat.add_assoc, kRows_endR, List.append_assoc, hdl, hdd, hd1, hml, hmm, hm1, rvs_set1, rvs_setB, nd_at0, hsh, e1, e2, kRows_setER, hgt, wu, hms, hds1]) | (with_reducible refine g_noent ?_) | (refine cdS (fun hg => ?_) (fun hg => ?_) <;> try simp -implicitDefEqProofs only [hg, Bool.not_true, Bool.not_false]) | (refine gdS (fun hg => ?_) (fun hg => ?_) <;> try simp -implicitDefEqProofs only [hg, Bool.not_true, Bool.not_false]) | (refine gddS (fun hg => ?_) (fun hg => ?_) <;> try simp -implicitDefEqProofs only [hg, Bool.not_true, Bool.not_false]) | ((with_reducible apply And.intro); focus (first | trivial | omega | decide | (simp -implicitDefEqProofs only [maxLen]; omega) | (simp [maxLen, sty_len, nd_len, ndL_len, lnL_len, intsL_len, rvs_len, lensS_len]; done) | (simp [maxLen, sty_len, nd_len, ndL_len, lnL_len, intsL_len, rvs_len, lensS_len]; omega))) | fail)
      refine hN 1 _ _ (by omega) (by omega) ?_
      rw [kTab_firstR, kRows_firstR]
      exact kHeap_tailR (v := v) (l := l) (k := 0) (es := List.replicate l.length 0) (ds := depTo l (0 + 1)) (bs := madeTo l (0 + 1)) (C := [some (.var ((l[0]'hk4).cells.map .rv))]) (by simp [ClEnv, lk, clS_rv, clS_ptr, clS_row])
  · have hk4 : k = l.length := by simp at hg; omega
    subst hk4
    simp -implicitDefEqProofs only [go_sem, ↓reduceIte, Nat.reduceEqDiff, Nat.reduceAdd, Nat.reduceSub, Nat.reduceMul, Nat.reduceLeDiff, Nat.reduceLT, reduceCtorEq, Int.reduceToNat]
    refine hX _ _ _ ?_
    have wl := wrap_dn hs.pos (by omega)
    repeat' (first | (simp -implicitDefEqProofs only [go_sem, ↓reduceIte, Nat.reduceEqDiff, Nat.reduceAdd, Nat.reduceSub, Nat.reduceMul, Nat.reduceLeDiff, Nat.reduceLT, reduceCtorEq, Int.reduceToNat, hlen, wl]) | (with_reducible refine g_noent ?_) | (refine cdS (fun hg => ?_) (fun hg => ?_) <;> try simp -implicitDefEqProofs only [hg, Bool.not_true, Bool.not_false]) | (refine gdS (fun hg => ?_) (fun hg => ?_) <;> try simp -implicitDefEqProofs only [hg, Bool.not_true, Bool.not_false]) | (refine gddS (fun hg => ?_) (fun hg => ?_) <;> try simp -implicitDefEqProofs only [hg, Bool.not_true, Bool.not_false]) | ((with_reducible apply And.intro); focus (first | trivial | omega | decide | (simp -implicitDefEqProofs only [maxLen]; omega) | (simp [maxLen, sty_len, nd_len, ndL_len, lnL_len, intsL_len, rvs_len, lensS_len]; done) | (simp [maxLen, sty_len, nd_len, ndL_len, lnL_len, intsL_len, rvs_len, lensS_len]; omega))) | fail)
    clear hN hX hR
    refine g_loop (ι := Nat) (fun k => [(8, .rv (.int .i64 ((k : Int) - 1))), (5, .ptr 6 0)]) (fun k => kHeapR v l l.length (endTo l k) (depTo l l.length) (madeTo l l.length)) (fun k => k ≤ l.length) (fun k => k) l.length (Nat.le_refl _) (by rw [endTo_top]; exact ent_env (by simp [lk]; have := hs.pos; omega)) (fun k hk K' hN hX hR => ?_)
    simp -implicitDefEqProofs only [kHeapR, go_sem, ↓reduceIte, Nat.reduceEqDiff, Nat.reduceAdd, Nat.reduceSub, Nat.reduceMul, Nat.reduceLeDiff, Nat.reduceLT, reduceCtorEq, Int.reduceToNat]
    refine cdS (fun hg => ?_) (fun hg => ?_)
    · have hk0 : 0 < k := by simp at hg; omega
      obtain ⟨j, rfl⟩ : ∃ j, k = j + 1 := ⟨k - 1, by omega⟩
      have ej : (((j + 1 : Nat) : Int) - 1) = (j : Int) := by omega
      have wj := wrap_up (k := j) (by omega)
      have hjl : j < l.length := by omega
      have hel := endTo_len l (j + 1)
      have hell := intsL_len (endTo l (j + 1))
      have he1 := intsL_getD (l := endTo l (j + 1)) (i := j) (by omega)
      have hktl := kTab_lenR l l.length
      have hktg := kTab_getR (k := l.length) hjl
      have hkrg := kRows_getR (k := l.length) (C := []) hjl
      simp -implicitDefEqProofs only [List.append_nil] at hkrg
      have hkl : (natsI (kidsTo l l.length j)).length = (kidsTo l l.length j).length := by simp [natsI]
      have hkl2 := intsL_len (natsI (kidsTo l l.length j))
      have hkk := kidsTo_len (l := l) (k := l.length) (p := j)
      have hsl : ((endTo l (j + 1)).set j ((j + 1 : Nat) : Int)).length = l.length := by simp [hel]
      have hsll := intsL_len ((endTo l (j + 1)).set j ((j + 1 : Nat) : Int))
      have hse := endTo_set (l := l) (k := j + 1) (by omega) (by omega)
      simp -implicitDefEqProofs only [Nat.add_sub_cancel] at hse
      have wd : IntKind.i64.wrap ((j : Int) - 1) = ((j : Int) - 1) := wrap_i64 (by omega) (by omega)
      by_cases hk1 : kidsTo l l.length j = []
      · have hm0 : decide ((((kidsTo l l.length j).length : Nat) : Int) > 0) = false := by rw [hk1]; rfl
        have he := endS_leaf hk1
        rw [he] at hse
        repeat' (first | (simp -implicitDefEqProofs only [go_sem, ↓reduceIte, Nat.reduceEqDiff, Nat.reduceAdd, Nat.reduceSub, Nat.reduceMul, Nat.reduceLeDiff, Nat.reduceLT, reduceCtorEq, Int.reduceToNat, hel, hell, he1, hktl, hktg, hkrg, ej, wj, hm0, rvs_set1, hse, wd]) | (with_reducible refine g_noent ?_) | (refine cdS (fun hg => ?_) (fun hg => ?_) <;> try simp -implicitDefEqProofs only [hg, Bool.not_true, Bool.not_false]) | (refine gdS (fun hg => ?_) (fun hg => ?_) <;> try simp -implicitDefEqProofs only [hg, Bool.not_true, Bool.not_false]) | (refine gddS (fun hg => ?_) (fun hg => ?_) <;> try simp -implicitDefEqProofs only [hg, Bool.not_true, Bool.not_false]) | ((with_reducible apply And.intro); focus (first | trivial | omega | decide | (simp -implicitDefEqProofs only [maxLen]; omega) | (simp [maxLen, sty_len, nd_len, ndL_len, lnL_len, intsL_len, rvs_len, lensS_len]; done) | (simp [maxLen, sty_len, nd_len, ndL_len, lnL_len, intsL_len, rvs_len, lensS_len]; omega))) | fail)
        refine hN j _ _ (by omega) (by omega) (ent_env (by simp [lk]))
      · obtain ⟨c, hc⟩ : ∃ c, (kidsTo l l.length j).getLast? = some c := by
          cases h : (kidsTo l l.length j).getLast? with
          | none => exact absurd (List.getLast?_eq_none_iff.1 h) hk1
          | some c => exact ⟨c, rfl⟩
        have hpos : 0 < (kidsTo l l.length j).length := List.length_pos_iff.2 hk1
        have hm0 : decide ((((kidsTo l l.length j).length : Nat) : Int) > 0) = true := decide_eq_true (by omega)
        have hcm : c ∈ kidsOf l j := List.mem_of_getLast? hc
        obtain ⟨c1, c2, c3⟩ := mem_kids.1 hcm
        have hcj : j < c := by have := (hs.wf.2 c c1 c2).2; omega
        have he := endS_last hc hcj c2
        rw [he] at hse
        have wm := wrap_dn hpos (by omega)
        have hcg : (natsI (kidsTo l l.length j)).getD ((kidsTo l l.length j).length - 1) 0 = (c : Int) := by
          rw [List.getLast?_eq_getElem?] at hc
          simp [natsI, List.getD_eq_getElem?_getD, hc]
        have hcx := intsL_getD (l := natsI (kidsTo l l.length j)) (i := (kidsTo l l.length j).length - 1) (by omega)
        rw [hcg] at hcx
        have hec := intsL_getD (l := (endTo l (j + 1)).set j ((j + 1 : Nat) : Int)) (i := c) (by omega)
        have hev := endTo_get (l := l) (k := j + 1) (j := c) (v := ((j + 1 : Nat) : Int)) (by omega) (by omega) c2
        simp -implicitDefEqProofs only [Nat.add_sub_cancel] at hev
        rw [hev] at hec
        have hej := intsL_getD (l := (endTo l (j + 1)).set j ((j + 1 : Nat) : Int)) (i := j) (by omega)
        have hset : ((endTo l (j + 1)).set j ((j + 1 : Nat) : Int)).set j (endS l c) = endTo l j := by rw [List.set_set, hse]
        repeat' (first | (simp -implicitDefEqProofs only [go_sem, ↓reduceIte, Nat.reduceEqDiff, Nat.reduceAdd, Nat.reduceSub, Nat.reduceMul, Nat.reduceLeDiff, Nat.reduceLT, reduceCtorEq, Int.reduceToNat, hel, hell, he1, hktl, hktg, hkrg, ej, wj, hm0, rvs_set1, wd, wm, hcx, hec, hej, hset, hsl, hsll, hkl, hkl2]) | (with_reducible refine g_noent ?_) | (refine cdS (fun hg => ?_) (fun hg => ?_) <;> try simp -implicitDefEqProofs only [hg, Bool.not_true, Bool.not_false]) | (refine gdS (fun hg => ?_) (fun hg => ?_) <;> try simp -implicitDefEqProofs only [hg, Bool.not_true, Bool.not_false]) | (refine gddS (fun hg => ?_) (fun hg => ?_) <;> try simp -implicitDefEqProofs only [hg, Bool.not_true, Bool.not_false]) | ((with_reducible apply And.intro); focus (first | trivial | omega | decide | (simp -implicitDefEqProofs only [maxLen]; omega) | (simp [maxLen, sty_len, nd_len, ndL_len, lnL_len, intsL_len, rvs_len, lensS_len]; done) | (simp [maxLen, sty_len, nd_len, ndL_len, lnL_len, intsL_len, rvs_len, lensS_len]; omega))) | fail)
        refine hN j _ _ (by omega) (by omega) (ent_env (by simp [lk]))
    · obtain rfl : k = 0 := by simp at hg; omega
      simp -implicitDefEqProofs only [go_sem, ↓reduceIte, Nat.reduceEqDiff, Nat.reduceAdd, Nat.reduceSub, Nat.reduceMul, Nat.reduceLeDiff, Nat.reduceLT, reduceCtorEq, Int.reduceToNat]
      refine hX _ _ _ ?_
      repeat' (first | (simp -implicitDefEqProofs only [go_sem, ↓reduceIte, Nat.reduceEqDiff, Nat.reduceAdd, Nat.reduceSub, Nat.reduceMul, Nat.reduceLeDiff, Nat.reduceLT, reduceCtorEq, Int.reduceToNat]) | (with_reducible refine g_noent ?_) | (refine cdS (fun hg => ?_) (fun hg => ?_) <;> try simp -implicitDefEqProofs only [hg, Bool.not_true, Bool.not_false]) | (refine gdS (fun hg => ?_) (fun hg => ?_) <;> try simp -implicitDefEqProofs only [hg, Bool.not_true, Bool.not_false]) | (refine gddS (fun hg => ?_) (fun hg => ?_) <;> try simp -implicitDefEqProofs only [hg, Bool.not_true, Bool.not_false]) | ((with_reducible apply And.intro); focus (first | trivial | omega | decide | (simp -implicitDefEqProofs only [maxLen]; omega) | (simp [maxLen, sty_len, nd_len, ndL_len, lnL_len, intsL_len, rvs_len, lensS_len]; done) | (simp [maxLen, sty_len, nd_len, ndL_len, lnL_len, intsL_len, rvs_len, lensS_len]; omega))) | fail)
      refine (hK _ _ _ _ [] (ent_refl _ _) ?_).2
      rw [endTo_zero]
      simp -implicitDefEqProofs only [retM, List.map_cons, List.map_nil, List.append_nil]
      refine ⟨by simp [nodupL], trivial, trivial, ⟨?_, trivial⟩, trivial, rn_tup.2 ⟨?_, rn_rv.2 rfl, trivial⟩⟩
      · rw [show finU (lkp ([i0].zip [HB.row 49 v (rvs (ndL l))]) i0) [] i0 = some (HB.row 49 v (rvs (ndL l))) from by simp [finU, lkp]]
        exact ⟨rfl, rfl, rnRows_rvs.2 rfl⟩
      · exact .fz _ _ (kin_fzR v l (fun j hj => by cases j with
          | zero => omega
          | succ j => rfl))


end Go.Eng
