/- Part 6 of the proof: E15, E16, E17, KF. -/
import Derived.Test.YtiajmaeempoihaaEditMoves5
import Derived.Test.YtiajmaeempoihaaProg
import Derived.KernelRfl
set_option linter.unusedSimpArgs false
set_option linter.unusedVariables false

/- edit: trees of children: how they grow. -/
namespace Go.Eng
open Go
/- decoupage/decoupageref32.Grow -/
def c_decoupageref32_Grow : AC := (.seq (.reg [⟨(some 4), (.alloc [(.bool false), (.int .i64 0), (.int .i64 0), (.int .i64 0), (.int .i64 0), (.int .i64 0), (.int .i64 0), (.int .i64 0), (.int .i64 0), (.int .i64 0), (.int .i64 0), (.int .i64 0), (.int .i64 0), (.int .i64 0), (.int .i64 0), (.int .i64 0), (.int .i64 0), (.int .i64 0), (.int .i64 0), (.int .i64 0), (.int .i64 0), (.int .i64 0), (.int .i64 0), (.int .i64 0), (.int .i64 0), (.int .i64 0), (.int .i64 0), (.int .i64 0), (.int .i64 0), (.int .i64 0), (.int .i64 0), (.int .i64 0), (.int .i64 0), (.int .i64 0), (.int .i64 0), (.int .i64 0), (.int .i64 0), (.int .i64 0), (.int .i64 0), (.int .i64 0), (.int .i64 0), (.int .i64 0), (.bool false), (.bool false), (.int .i64 0), (.bool false), (.int .i64 0), (.int .i64 0), (.int .i64 0), .nilsl]), [], none⟩]) (.seq (.reg [⟨(some 8), .mv, [(.t 0)], none⟩, ⟨(some 9), .mv, [(.t 1)], none⟩, ⟨(some 10), (.ixs 49), [(.t 8), (.t 9)], none⟩, ⟨(some 11), (.fld 0), [(.t 10)], none⟩, ⟨(some 12), (.load 48 true), [(.t 11)], none⟩, ⟨(some 13), .mv, [(.t 1)], none⟩, ⟨(some 14), (.build [(.bool false), (.int .i64 0), (.int .i64 0), (.int .i64 0), (.int .i64 0), (.int .i64 0), (.int .i64 0), (.int .i64 0), (.int .i64 0), (.int .i64 0), (.int .i64 0), (.int .i64 0), (.int .i64 0), (.int .i64 0), (.int .i64 0), (.int .i64 0), (.int .i64 0), (.int .i64 0), (.int .i64 0), (.int .i64 0), (.int .i64 0), (.int .i64 0), (.int .i64 0), (.int .i64 0), (.int .i64 0), (.int .i64 0), (.int .i64 0), (.int .i64 0), (.int .i64 0), (.int .i64 0), (.int .i64 0), (.int .i64 0), (.int .i64 0), (.int .i64 0), (.int .i64 0), (.int .i64 0), (.int .i64 0), (.int .i64 0), (.int .i64 0), (.int .i64 0), (.int .i64 0), (.int .i64 0), (.bool false), (.bool false), (.int .i64 0), (.bool false), (.int .i64 0), (.int .i64 0), (.int .i64 0), .nilsl] [(0, 48), (48, 1)]), [(.t 12), (.t 13)], none⟩, ⟨(some 5), (.alloc [(.bool false), (.int .i64 0), (.int .i64 0), (.int .i64 0), (.int .i64 0), (.int .i64 0), (.int .i64 0), (.int .i64 0), (.int .i64 0), (.int .i64 0), (.int .i64 0), (.int .i64 0), (.int .i64 0), (.int .i64 0), (.int .i64 0), (.int .i64 0), (.int .i64 0), (.int .i64 0), (.int .i64 0), (.int .i64 0), (.int .i64 0), (.int .i64 0), (.int .i64 0), (.int .i64 0), (.int .i64 0), (.int .i64 0), (.int .i64 0), (.int .i64 0), (.int .i64 0), (.int .i64 0), (.int .i64 0), (.int .i64 0), (.int .i64 0), (.int .i64 0), (.int .i64 0), (.int .i64 0), (.int .i64 0), (.int .i64 0), (.int .i64 0), (.int .i64 0), (.int .i64 0), (.int .i64 0), (.bool false), (.bool false), (.int .i64 0), (.bool false), (.int .i64 0), (.int .i64 0), (.int .i64 0), .nilsl]), [], none⟩, ⟨none, (.store 50), [(.t 5), (.t 14)], none⟩]) (.seq (.reg [⟨(some 15), .mv, [(.t 0)], none⟩, ⟨(some 16), .mv, [(.t 1)], none⟩, ⟨(some 17), (.call 34), [(.t 15), (.t 16)], none⟩, ⟨(some 6), .mv, [(.t 17)], none⟩]) (.seq (.seq (.reg [⟨(some 18), .mv, [(.t 6)], none⟩, ⟨(some 19), .len, [(.t 18)], none⟩, ⟨(some 20), .mv, [(.c (.rv (.int .i64 0)))], none⟩]) (.seq (.block 0 (.loop (.seq (.reg [⟨(some 21), (.ibin .lss), [(.t 20), (.t 19)], none⟩]) (.seq (.cond (.t 21) .skip (.exit 0)) (.seq (.seq (.block 1 (.seq (.reg [⟨(some 22), .mv, [(.t 20)], none⟩, ⟨(some 7), .mv, [(.t 22)], none⟩]) (.regd [0, 1, 0, 0, 0, 24, 56, 124, 252, 511, 1023, 2047] [⟨(some 23), (.fld 49), [(.t 5)], none⟩, ⟨(some 24), (.load 1 false), [(.t 23)], none⟩, ⟨(some 25), .mv, [(.t 0)], none⟩, ⟨(some 26), .mv, [(.t 6)], none⟩, ⟨(some 27), .mv, [(.t 7)], none⟩, ⟨(some 28), (.ixs 1), [(.t 26), (.t 27)], none⟩, ⟨(some 29), (.load 1 false), [(.t 28)], none⟩, ⟨(some 30), (.call 35), [(.t 25), (.t 29)], none⟩, ⟨(some 31), (.bsl 50), [(.t 30)], none⟩, ⟨(some 32), (.app 50 408), [(.t 24), (.t 31)], none⟩, ⟨(some 33), (.fld 49), [(.t 5)], none⟩, ⟨none, (.store 1), [(.t 33), (.t 32)], none⟩]))) .ent) (.reg [⟨(some 34), (.ibin .add), [(.t 20), (.c (.rv (.int .i64 1)))], none⟩, ⟨(some 20), .mv, [(.t 34)], none⟩])))))) .ent)) (.seq (.reg [⟨(some 35), (.load 50 true), [(.t 5)], none⟩, ⟨none, (.store 50), [(.t 4), (.t 35)], none⟩]) .ret)))))
theorem k_decoupageref32_Grow : FnOK Go.Proofs.Try.prog 35 36 c_decoupageref32_Grow [(.c 4 50 true)] := fnOK_of (by kernel_rfl)


theorem ent_ghostVarE {n0 : Nat} {env : List (Nat × SV)} {h : List (Option HB)} (i0 e o : Nat) {cs : List SV} (hi : hget h i0 = some (.var cs)) (ho : cs[o]? = some (.rv .nilsl)) : Ent n0 ⟨env, h⟩ ⟨env, uph (uph h (h.length, .row e 0 [])) (i0, .var (cs.set o (.row h.length 0 0)))⟩ := by
  intro C a w R
  obtain ⟨⟨rho, RF⟩, h1, h0⟩ := R
  have hnone : hget h h.length = none := by unfold hget; rw [List.getElem?_eq_none (Nat.le_refl _)]
  have hC0 : C.h0 h.length = none := h0 _ h1
  obtain ⟨rho', S⟩ := RF.mem.ghostVar e hi ho hnone hC0
  have RF' := RF.step S
  have hlt : i0 < h.length := by
    apply Classical.byContradiction
    intro hc
    unfold hget at hi
    rw [List.getElem?_eq_none (by omega)] at hi; cases hi
  have e1 := hget_uph (h := h) (q := (h.length, .row e 0 [])) (Nat.le_refl _)
  have l1 := uph_length h (h.length, .row e 0 [])
  have e2 := hget_uph (h := uph h (h.length, .row e 0 [])) (q := (i0, .var (cs.set o (.row h.length 0 0)))) (by show i0 ≤ _; omega)
  have l2 := uph_length (uph h (h.length, .row e 0 [])) (i0, .var (cs.set o (.row h.length 0 0)))
  refine ⟨⟨rho', ?_⟩, ?_, h0⟩
  · show RepF C (lk env) (hget (uph (uph h (h.length, .row e 0 [])) (i0, .var (cs.set o (.row h.length 0 0))))) a w rho'
    rw [e2, e1]; exact RF'
  · have h1' : n0 ≤ h.length := h1
    show n0 ≤ (uph (uph h (h.length, .row e 0 [])) (i0, .var (cs.set o (.row h.length 0 0)))).length
    omega

theorem clA_pre {n : Nat} : ∀ (rs : List RV) {ys : List SV}, ClA n ys → ClA n (rs.map SV.rv ++ ys)
  | [], _, h => h
  | r :: rs, _, h => ⟨clS_rv.2 trivial, clA_pre rs h⟩

inductive Trx where
  | mk (s : Sty) (was : Int) (kids : List Trx)
mutual
def Trx.cells : Trx → List RV
  | .mk s w ks => s.cells ++ [.int .i64 w, .sl 50 (trL ks)]
def trL : List Trx → List (List RV)
  | [] => []
  | t :: ts => t.cells :: trL ts
end
theorem trL_map : ∀ (ks : List Trx), trL ks = ks.map Trx.cells
  | [] => by rw [trL]; rfl
  | t :: ts => by rw [trL, trL_map ts]; rfl
theorem tr_mk (s : Sty) (w : Int) (ks : List Trx) : (Trx.mk s w ks).cells = s.cells ++ [.int .i64 w, .sl 50 (trL ks)] := by rw [Trx.cells]
theorem tr_len : ∀ t : Trx, t.cells.length = 50
  | .mk s w ks => by rw [tr_mk]; rfl
theorem trL_len (ks : List Trx) : (trL ks).length = ks.length := by rw [trL_map]; simp
theorem tr_one : ∀ t : Trx, ∀ r ∈ t.cells, r.one = true
  | .mk s w ks => by
    intro r hr
    rw [tr_mk, List.mem_append] at hr
    rcases hr with hr | hr
    · exact sty_one _ r hr
    · simp -implicitDefEqProofs only [List.mem_cons, List.not_mem_nil, or_false] at hr
      rcases hr with rfl | rfl <;> rfl
theorem trL_one (ks : List Trx) : ∀ x ∈ trL ks, ∀ r ∈ x, r.one = true := by
  intro x hx
  rw [trL_map] at hx
  obtain ⟨t, _, rfl⟩ := List.mem_map.1 hx
  exact tr_one t
theorem trL_app {ks : List Trx} {t : Trx} : rvs (trL ks) ++ [t.cells.map SV.rv] = rvs (trL (ks ++ [t])) := by simp [rvs, trL_map]
theorem rnAll_pre {τ : Nat → Option Nat} {h : Hp} : ∀ (rs : List RV) {ys zs : List SV}, RnAll τ h ys zs → RnAll τ h (rs.map SV.rv ++ ys) (rs.map SV.rv ++ zs)
  | [], _, _, hh => hh
  | r :: rs, _, _, hh => ⟨rn_rv.2 rfl, rnAll_pre rs hh⟩

/-- The tree below a node, so deep. -/
def growF (l : List Nd) : Nat → Nat → Trx
  | 0, n => .mk (l.getD n default).s n []
  | d + 1, n => .mk (l.getD n default).s n ((kidsOf l n).map (growF l d))
def gkTo (l : List Nd) (d n k : Nat) : List Trx := ((kidsOf l n).take k).map (growF l d)
theorem gkTo_len {l : List Nd} {d n k : Nat} (h : k ≤ (kidsOf l n).length) : (gkTo l d n k).length = k := by simp [gkTo]; omega
theorem gkTo_succ {l : List Nd} {d n k : Nat} (h : k < (kidsOf l n).length) : gkTo l d n (k + 1) = gkTo l d n k ++ [growF l d ((kidsOf l n)[k]'h)] := by
  unfold gkTo; rw [List.take_succ_eq_append_getElem h, List.map_append]; rfl

theorem sty_t48 (s : Sty) (r : List SV) : List.take 48 (s.cells.map SV.rv ++ r) = s.cells.map SV.rv := rfl
theorem sty_d49 (s : Sty) (a : SV) (r : List SV) : List.drop 49 (s.cells.map SV.rv ++ a :: r) = r := rfl
theorem sty_i49 (s : Sty) (a b : SV) : (s.cells.map SV.rv ++ [a, b])[49]? = some b := rfl
theorem sty_s49 (s : Sty) (a b x : SV) : List.take 49 (s.cells.map SV.rv ++ [a, b]) ++ [x] ++ List.drop 50 (s.cells.map SV.rv ++ [a, b]) = s.cells.map SV.rv ++ [a, x] := rfl
theorem sty_t50 (s : Sty) (a b : SV) : List.take 50 (s.cells.map SV.rv ++ [a, b]) = s.cells.map SV.rv ++ [a, b] := rfl
theorem sty_l50 (s : Sty) (a b : SV) : (s.cells.map SV.rv ++ [a, b]).length = 50 := rfl
theorem sty_a2 (s : Sty) (a b : SV) : s.cells.map SV.rv ++ [a] ++ [b] = s.cells.map SV.rv ++ [a, b] := by simp
theorem tr_mlen (t : Trx) : (t.cells.map SV.rv).length = 50 := by rw [List.length_map, tr_len]
def zero50 : List SV := (default : Sty).cells.map SV.rv ++ [.rv (.int .i64 0), .rv .nilsl]
theorem zero50_len : zero50.length = 50 := rfl
theorem zero50_drop : zero50.drop 50 = [] := rfl

set_option maxRecDepth 20000 in
set_option maxHeartbeats 4000000 in
theorem sp_Grow32 (l : List Nd) (hs : Shp l) (hb : l.length ≤ 1073741823) : ∀ d n, n < l.length → l.length - n ≤ d → CallR Go.Proofs.Try.prog 35 [.rv (.sl 49 (ndL l)), .rv (.int .i64 n)] [] [] (.agg ((growF l d n).cells.map .rv)) := by
  intro d
  induction d with
  | zero => intro n hn hd; omega
  | succ d ih =>
    intro n hn hd
    refine callR_G k_decoupageref32_Grow [.rv (.sl 49 (ndL l)), .rv (.int .i64 n)] _ (by simp) (by simp [BkAll, bk_agg, bkAll_map, bk_rv, bk_fn, Sty.sv, Ln.sv, Nd.sv]) (fun K hK => ?_)
    have hlen := ndL_len l
    have hx := ndL_get hn
    have hk := sp_ref08_Kids l (by omega) n hn
    have hkl := nats_ln (kidsOf l n)
    have hkn : (kidsOf l n).length ≤ l.length := kidsTo_len
    simp -implicitDefEqProofs only [c_decoupageref32_Grow, go_sem, ↓reduceIte, Nat.reduceEqDiff, Nat.reduceAdd, Nat.reduceSub, Nat.reduceMul, Nat.reduceLeDiff, Nat.reduceLT, reduceCtorEq, Int.reduceToNat]
    have hcall1 := hk; repeat' (first | (simp -implicitDefEqProofs only [go_sem, ↓reduceIte, Nat.reduceEqDiff, Nat.reduceAdd, Nat.reduceSub, Nat.reduceMul, Nat.reduceLeDiff, Nat.reduceLT, reduceCtorEq, Int.reduceToNat, hx, hlen, nd_len, nd_style, sty_mlen, sty_len, sty_t48, sty_d49, sty_a2, hkl]) | (with_reducible refine g_noent ?_) | (with_reducible refine g_call0 hcall1 ?_) | (with_reducible refine g_calld0 hcall1 ?_) | (refine cdS (fun hg => ?_) (fun hg => ?_) <;> try simp -implicitDefEqProofs only [hg, Bool.not_true, Bool.not_false]) | (refine gdS (fun hg => ?_) (fun hg => ?_) <;> try simp -implicitDefEqProofs only [hg, Bool.not_true, Bool.not_false]) | (refine gddS (fun hg => ?_) (fun hg => ?_) <;> try simp -implicitDefEqProofs only [hg, Bool.not_true, Bool.not_false]) | ((with_reducible apply And.intro); focus (first | trivial | omega | decide | (simp -implicitDefEqProofs only [maxLen]; omega) | (simp [maxLen, sty_len, nd_len, ndL_len, lnL_len, intsL_len, rvs_len, lensS_len]; done) | (simp [maxLen, sty_len, nd_len, ndL_len, lnL_len, intsL_len, rvs_len, lensS_len]; omega))) | fail)
    have hsx : (l.getD n default).s = (l[n]'hn).s := by rw [List.getD_eq_getElem?_getD, List.getElem?_eq_getElem hn]; rfl
    have hgr : growF l (d + 1) n = .mk (l[n]'hn).s n (gkTo l d n (kidsOf l n).length) := by rw [growF, hsx]; unfold gkTo; rw [List.take_length]
    rw [hgr] at hK
    generalize (l[n]'hn).s = s at *
    refine g_loop (ι := Nat) (fun k => [(20, .rv (.int .i64 k)), (19, .rv (.int .i64 (kidsOf l n).length)), (6, .rv (.sl 1 (intsL (natsI (kidsOf l n))))), (5, .ptr 1 0), (4, .ptr 0 0), (0, .rv (.sl 49 (ndL l)))]) (fun k => [some (.var zero50), some (.var (s.cells.map SV.rv ++ [.rv (.int .i64 n), .row 2 k k])), some (.row 50 k (rvs (trL (gkTo l d n k))))]) (fun k => k ≤ (kidsOf l n).length) (fun k => (kidsOf l n).length - k) 0 (by simp) ((ent_ghostVarE 1 50 49 rfl rfl).trans (ent_env (by simp [lk, uph]))) (fun k hk' K' hN hX hR => ?_)
    simp -implicitDefEqProofs only [go_sem, ↓reduceIte, Nat.reduceEqDiff, Nat.reduceAdd, Nat.reduceSub, Nat.reduceMul, Nat.reduceLeDiff, Nat.reduceLT, reduceCtorEq, Int.reduceToNat]
    refine cdS (fun hg => ?_) (fun hg => ?_)
    · have hk4 : k < (kidsOf l n).length := by simp at hg; omega
      have wu := wrap_up (k := k) (by omega)
      have hat := nats_at hk4
      rw [atI_lt hk4] at hat
      have hmem := List.getElem_mem hk4
      rw [mem_kids] at hmem
      have hsu := gkTo_succ (d := d) hk4
      have hpl := par_lt hs hmem.2.1
      have hcall := ih ((kidsOf l n)[k]'hk4) hmem.2.1 (by omega)
      generalize (kidsOf l n)[k]'hk4 = c at *
      have hgl := gkTo_len (d := d) (Nat.le_of_lt hk4)
      have htl := trL_len (gkTo l d n k)
      have htk : (trL (gkTo l d n k)).take k = trL (gkTo l d n k) := List.take_of_length_le (by omega)
      generalize growF l d c = t at *
      have hap : gkTo l d n k ++ [t] = gkTo l d n (k + 1) := hsu.symm
      have hcall2 := hcall; repeat' (first | (simp -implicitDefEqProofs only [go_sem, ↓reduceIte, Nat.reduceEqDiff, Nat.reduceAdd, Nat.reduceSub, Nat.reduceMul, Nat.reduceLeDiff, Nat.reduceLT, reduceCtorEq, Int.reduceToNat, sty_i49, hat, hkl, tr_mlen, hgl, htl, htk, trL_app, hap, sty_s49, sty_l50, wu]) | (with_reducible refine g_noent ?_) | (with_reducible refine g_call0 hcall2 ?_) | (with_reducible refine g_calld0 hcall2 ?_) | (refine cdS (fun hg => ?_) (fun hg => ?_) <;> try simp -implicitDefEqProofs only [hg, Bool.not_true, Bool.not_false]) | (refine gdS (fun hg => ?_) (fun hg => ?_) <;> try simp -implicitDefEqProofs only [hg, Bool.not_true, Bool.not_false]) | (refine gddS (fun hg => ?_) (fun hg => ?_) <;> try simp -implicitDefEqProofs only [hg, Bool.not_true, Bool.not_false]) | ((with_reducible apply And.intro); focus (first | trivial | omega | decide | (simp -implicitDefEqProofs only [maxLen]; omega) | (simp [maxLen, sty_len, nd_len, ndL_len, lnL_len, intsL_len, rvs_len, lensS_len]; done) | (simp [maxLen, sty_len, nd_len, ndL_len, lnL_len, intsL_len, rvs_len, lensS_len]; omega))) | fail)
      refine hN (k + 1) _ _ (by omega) (by omega) ?_
      have a1 : ClH 3 (.var zero50) := clA_pre (default : Sty).cells (ys := [.rv (.int .i64 0), .rv .nilsl]) ⟨clS_rv.2 trivial, clS_rv.2 trivial, trivial⟩
      have a2 : ClH 3 (.var (s.cells.map SV.rv ++ [.rv (.int .i64 n), .row 2 (k + 1) (k + 1)])) := clA_pre s.cells (ys := [.rv (.int .i64 n), .row 2 (k + 1) (k + 1)]) ⟨clS_rv.2 trivial, clS_row.2 (by decide), trivial⟩
      refine ent_tail (h' := [some (.var zero50), some (.var (s.cells.map SV.rv ++ [.rv (.int .i64 n), .row 2 (k + 1) (k + 1)])), some (.row 50 (k + 1) (rvs (trL (gkTo l d n (k + 1)))))]) (C := [some (.row 50 0 [t.cells.map SV.rv])]) (Nat.zero_le _) ⟨a1, a2, clH_rvs, trivial⟩ ?_
      simp [ClEnv, lk, clS_rv, clS_row, clS_ptr]
    · have hk4 : k = (kidsOf l n).length := by simp at hg; omega
      subst hk4
      simp -implicitDefEqProofs only [go_sem, ↓reduceIte, Nat.reduceEqDiff, Nat.reduceAdd, Nat.reduceSub, Nat.reduceMul, Nat.reduceLeDiff, Nat.reduceLT, reduceCtorEq, Int.reduceToNat]
      refine hX _ _ _ ?_
      repeat' (first | (simp -implicitDefEqProofs only [go_sem, ↓reduceIte, Nat.reduceEqDiff, Nat.reduceAdd, Nat.reduceSub, Nat.reduceMul, Nat.reduceLeDiff, Nat.reduceLT, reduceCtorEq, Int.reduceToNat, sty_t50, sty_l50, zero50_len, zero50_drop, List.append_nil]) | (with_reducible refine g_noent ?_) | (refine cdS (fun hg => ?_) (fun hg => ?_) <;> try simp -implicitDefEqProofs only [hg, Bool.not_true, Bool.not_false]) | (refine gdS (fun hg => ?_) (fun hg => ?_) <;> try simp -implicitDefEqProofs only [hg, Bool.not_true, Bool.not_false]) | (refine gddS (fun hg => ?_) (fun hg => ?_) <;> try simp -implicitDefEqProofs only [hg, Bool.not_true, Bool.not_false]) | ((with_reducible apply And.intro); focus (first | trivial | omega | decide | (simp -implicitDefEqProofs only [maxLen]; omega) | (simp [maxLen, sty_len, nd_len, ndL_len, lnL_len, intsL_len, rvs_len, lensS_len]; done) | (simp [maxLen, sty_len, nd_len, ndL_len, lnL_len, intsL_len, rvs_len, lensS_len]; omega))) | fail)
      refine (hK _ _ ?_).2
      rw [tr_mk, List.map_append]
      simp -implicitDefEqProofs only [retP, resL, lk, resT_one, go_sem, ↓reduceIte, Nat.reduceEqDiff, Nat.reduceAdd, Nat.reduceSub, Nat.reduceMul, Nat.reduceLeDiff, Nat.reduceLT, reduceCtorEq, Int.reduceToNat, sty_t50, sty_l50]
      exact rn_agg.2 (rnAll_pre s.cells ⟨rn_rv.2 rfl, rn_frz (xs := trL (gkTo l d n (kidsOf l n).length)) rfl rfl (by rw [trL_len, gkTo_len (Nat.le_refl _)]) (trL_one _), trivial⟩)
end Go.Eng


/- edit: the statements as functions: moves. -/
namespace Go.Eng
open Go

theorem apply_ok {l : List Nd} {o : Opv} (h : (applyF l o).2 = 0) : ∃ out, applyF l o = (some out, 0) ∧ mayF l o = 0 ∧ changeF l o = some out ∧ chk out = 0 := by
  unfold applyF at h ⊢
  by_cases hm : mayF l o = 0
  · rw [if_neg (by simpa using hm)] at h ⊢
    cases hc : changeF l o with
    | none => rw [hc] at h; simp at h
    | some out =>
      rw [hc] at h
      simp only at h ⊢
      by_cases ho : chk out = 0
      · exact ⟨out, by rw [if_neg (by simpa using ho)], hm, rfl, ho⟩
      · rw [if_pos ho] at h; exact absurd h ho
  · rw [if_pos hm] at h; exact absurd h hm
theorem apply_bad {l : List Nd} {o : Opv} (h : (applyF l o).2 ≠ 0) : (applyF l o).1 = none := by
  unfold applyF at h ⊢
  split
  · rfl
  · rename_i hm
    rw [if_neg hm] at h
    split
    · rfl
    · rename_i out hc
      rw [hc] at h
      simp only at h
      split
      · rfl
      · rename_i ho
        rw [if_neg ho] at h; exact absurd rfl h
theorem apply_of {l : List Nd} {o : Opv} {out : List Nd} (hm : mayF l o = 0) (hc : changeF l o = some out) (ho : chk out = 0) : applyF l o = (some out, 0) := by
  unfold applyF
  rw [if_neg (by simpa using hm), hc]
  simp only
  rw [if_neg (by simpa using ho)]

/-- What a move does, and what is known of it. -/
structure Mv (l : List Nd) (n to a : Nat) (x : List Nd) : Prop where
  n0 : 0 < n
  hn : n < l.length
  ht : to < l.length
  hto : ¬ (n ≤ to ∧ to < endR l n)
  ha : a ≤ kidTo (leftF l n) (psiL n (endR l n) to : Nat) (leftF l n).length
  hx : x = pasteF (leftF l n) (partF l n) (psiL n (endR l n) to : Nat) (placeF (leftF l n) (psiL n (endR l n) to) a)
theorem mv_of {l : List Nd} {n t a : Int} {x : List Nd} (hm : mayF l ⟨4, n, t, a, default⟩ = 0) (hc : changeF l ⟨4, n, t, a, default⟩ = some x) : ∃ (n' t' a' : Nat), n = n' ∧ t = t' ∧ a = a' ∧ Mv l n' t' a' x := by
  obtain ⟨hch, hk14, c3, c4⟩ := may_zero hm
  dsimp only at c3 c4
  have hs := tree_shp (chk_tree hch)
  have hin : inL l n = true := by
    cases h : inL l n with
    | true => rfl
    | false => exact absurd (.inl h) c3
  obtain ⟨n', rfl, hnl⟩ := inL_nat hin
  have hit : inL l t = true := by
    cases h : inL l t with
    | true => rfl
    | false => exact absurd (.inr ⟨rfl, h⟩) c3
  obtain ⟨t', rfl, htl⟩ := inL_nat hit
  have hn0 : 0 < n' := by
    have : (n' : Int) ≠ 0 := fun h => c4 (.inl ⟨.inr rfl, h⟩)
    omega
  have hbl : belowAt l n' t' = false := by
    cases h : belowAt l n' t' with
    | false => rfl
    | true => exact absurd (.inr (.inl ⟨rfl, h⟩)) c4
  obtain ⟨u1, u2, u3⟩ := to_in hs hnl htl hbl
  have hto : ¬ (n' ≤ t' ∧ t' < endR l n') := fun h => by
    rcases Nat.lt_or_ge n' t' with hh | hh
    · have := u3 hh; omega
    · have := u2 hh; omega
  have hne : t' ≠ n' := fun h => by have := u2 (by omega); omega
  unfold changeF at hc
  simp -implicitDefEqProofs only [show ¬ ((4 : Int) = 1) by decide, show ¬ ((4 : Int) = 2) by decide, show ¬ ((4 : Int) = 3) by decide, if_false, Int.toNat_natCast, toF_psi hne] at hc
  split at hc
  · cases hc
  · rename_i ha
    obtain ⟨a', rfl⟩ : ∃ a' : Nat, a = a' := ⟨a.toNat, by omega⟩
    refine ⟨n', t', a', rfl, rfl, rfl, hn0, hnl, htl, hto, by omega, ?_⟩
    cases hc; simp

theorem Mv.lt {l : List Nd} {n to a : Nat} {x : List Nd} (M : Mv l n to a x) : psiL n (endR l n) to < (leftF l n).length := by
  have g1 := endR_gt M.hn
  have g2 := endR_le l n
  have := M.hto; have := M.ht
  rw [leftF_len M.hn]; unfold psiL; split <;> omega
theorem Mv.len {l : List Nd} {n to a : Nat} {x : List Nd} (M : Mv l n to a x) : x.length = l.length := by
  have g1 := endR_gt M.hn
  have g2 := endR_le l n
  rw [M.hx, pasteF_len (place_le (M.lt) a), leftF_len M.hn, partF_len M.hn]; omega
section
variable {l : List Nd} {n to a : Nat} {x : List Nd} (hs : Shp l) (M : Mv l n to a x)
include hs M
theorem Mv.kid (hx : Shp x) : (kidsOf x (psiL n (endR l n) to))[a]? = some (placeF (leftF l n) (psiL n (endR l n) to) a) ∧ placeF (leftF l n) (psiL n (endR l n) to) a < x.length := by
  have hsL := left_shp hs M.n0 M.hn
  have hT := M.lt
  obtain ⟨p1, p2, p3, p4⟩ := place_kid hsL hT a M.ha
  have hl := M.len
  have hL := leftF_len M.hn
  have hQ := partF_len M.hn
  have g1 := endR_gt M.hn
  have g2 := endR_le l n
  have hpx : placeF (leftF l n) (psiL n (endR l n) to) a < x.length := by omega
  refine ⟨?_, hpx⟩
  have hpar : parL x (placeF (leftF l n) (psiL n (endR l n) to) a) = (psiL n (endR l n) to : Nat) := by
    rw [M.hx, paste_mid p2 (Nat.le_refl _) (by omega), if_pos rfl]
  refine kids_at hx.root hpx hpar ?_
  conv => rhs; rw [← p3]
  unfold kidTo
  congr 1
  refine List.filter_congr fun j hj => ?_
  rw [M.hx, paste_lo p2 (by simpa using hj)]
/-- Where the one that it was taken from stands. -/
theorem Mv.from {f : Nat} (hf : parL l n = f) : shiftF l n to a f (endR l n - n) = ((if f ≥ placeF (leftF l n) (psiL n (endR l n) to) a then f + (endR l n - n) else f : Nat) : Int) ∧ shiftF l n to a to (endR l n - n) = (psiL n (endR l n) to : Nat) := by
  obtain ⟨q1, q2, q3, q4⟩ := next_place hs M.n0 M.hn M.ht M.hto M.ha
  have hfn : f < n := by have := par_lt hs M.hn; omega
  have g1 := endR_gt M.hn
  have hto := M.hto
  constructor
  · rw [q1]
    unfold shiftF endP
    rw [if_neg (by omega)]
    (repeat' split) <;> omega
  · unfold shiftF psiL
    rw [if_neg (show ¬ to ≥ nextF l n to a by omega)]
    (repeat' split) <;> omega
theorem Mv.back (hx : chk x = 0) (hc : chk l = 0) {f : Nat} (hf : parL l n = f) : applyF x ⟨4, (placeF (leftF l n) (psiL n (endR l n) to) a : Nat), ((if f ≥ placeF (leftF l n) (psiL n (endR l n) to) a then f + (endR l n - n) else f : Nat) : Int), (kidTo l f n : Nat), default⟩ = (some l, 0) := by
  have hsx := tree_shp (chk_tree hx)
  have hsL := left_shp hs M.n0 M.hn
  have hQ := part_ok hs M.hn
  have hT := M.lt
  obtain ⟨p1, p2, p3, p4⟩ := place_kid hsL hT a M.ha
  have hpx := (M.kid hs hsx).2
  have hl := M.len
  have hL := leftF_len M.hn
  have hQl := partF_len M.hn
  have g1 := endR_gt M.hn
  have g2 := endR_le l n
  have hfn : f < n := by have := par_lt hs M.hn; omega
  obtain ⟨b1, b2⟩ := back_place hs M.n0 M.hn hf
  have hbp := back_paste hs M.hn
  rw [hf] at hbp
  have hxx := M.hx
  generalize placeF (leftF l n) (psiL n (endR l n) to) a = p at *
  have ue : endR x p = p + (endR l n - n) := by rw [hxx, undo_end hsL hQ p2, hQl]
  have ul : leftF x p = leftF l n := by rw [hxx, undo_left hsL hQ p2]
  have up : partF x p = partF l n := by rw [hxx, undo_part hsL hQ p2]
  obtain ⟨F, hF⟩ : ∃ F : Nat, F = if f ≥ p then f + (endR l n - n) else f := ⟨_, rfl⟩
  have hFb : (f ≥ p ∧ F = f + (endR l n - n)) ∨ (f < p ∧ F = f) := by rw [hF]; split <;> omega
  rw [← hF]
  have hFx : F < x.length := by omega
  have hbF : belowAt x p F = false := by
    have : endAt x p = ((p + (endR l n - n) : Nat) : Int) := by simp -implicitDefEqProofs only [endAt, inL_of hpx, if_true, Int.toNat_natCast, ← endR_eq hsx hpx, ue]
    unfold belowAt
    rw [this, inL_of hpx, inL_of hFx]
    simp -implicitDefEqProofs only [Bool.true_and]
    rw [Bool.and_eq_false_iff, decide_eq_false_iff_not, decide_eq_false_iff_not]
    omega
  have hmay : mayF x ⟨4, p, F, (kidTo l f n : Nat), default⟩ = 0 := by
    unfold mayF
    have h1 : ¬ (p : Int) = 0 := by omega
    have h2 : ¬ p = 0 := by omega
    simp [hx, inL_of hpx, inL_of hFx, hbF, h1, h2]
  have htF : toF x p F = f := by
    unfold toF; rw [ue]; split <;> omega
  refine apply_of hmay ?_ hc
  unfold changeF
  simp -implicitDefEqProofs only [show ¬ ((4 : Int) = 1) by decide, show ¬ ((4 : Int) = 2) by decide, show ¬ ((4 : Int) = 3) by decide, if_false, Int.toNat_natCast, ul, up, htF, b1]
  rw [if_neg (by omega), hbp]
end

/-- How many of the first k children stand ahead. -/
theorem kid_ahead {l : List Nd} (hs : Shp l) {n f : Nat} (hn : n < l.length) (hf : parL l n = f) {k : Nat} (hk : k < (kidsOf l f).length) : (kidsOf l f)[k]'hk < n ↔ k < kidTo l f n := by
  have hfl : f < l.length := by have := par_lt hs hn; omega
  rw [kids_len hs.root] at hk
  have h1 := kid_place hs hfl hk
  obtain ⟨p1, p2, p3, p4⟩ := place_kid hs hfl k (by omega)
  obtain ⟨p5, p6⟩ := p4 hk
  rw [(List.getElem?_eq_some_iff.1 h1).2]
  generalize placeF l f k = c at *
  have h2 := kidTo_succ (l := l) (n := f) (k := c)
  rw [if_pos p6] at h2
  constructor
  · intro h
    have := kidTo_mono (l := l) (n := f) (a := c + 1) n (by omega)
    omega
  · intro h
    apply Classical.byContradiction
    intro hh
    have := kidTo_mono (l := l) (n := f) (a := n) c (by omega)
    omega
end Go.Eng


/- edit: the statements as functions: moves. -/
namespace Go.Eng
open Go
/- decoupage/decoupagelaw32.EditMoves -/
def c_decoupagelaw32_EditMoves : AC := (.seq (.reg [⟨(some 8), .mv, [(.c (.rv (.bool false)))], none⟩]) (.seq (.seq (.reg [⟨(some 20), (.call 25), [], none⟩, ⟨(some 21), .not, [(.t 20)], none⟩, ⟨(some 22), .mv, [(.t 21)], none⟩, ⟨(some 23), .mv, [(.t 0)], (some (22, false))⟩, ⟨(some 24), .len, [(.t 23)], (some (22, false))⟩, ⟨(some 25), (.ibin .gtr), [(.t 24), (.c (.rv (.int .i64 30)))], (some (22, false))⟩, ⟨(some 26), .pick, [(.t 22), (.c (.rv (.bool true))), (.t 25)], none⟩, ⟨(some 27), .mv, [(.t 26)], none⟩, ⟨(some 28), .mv, [(.t 0)], (some (27, false))⟩, ⟨(some 29), (.call 16), [(.t 28)], (some (27, false))⟩, ⟨(some 30), (.ibin .neq), [(.t 29), (.c (.rv (.int .i64 0)))], (some (27, false))⟩, ⟨(some 31), .pick, [(.t 27), (.c (.rv (.bool true))), (.t 30)], none⟩]) (.cond (.t 31) (.seq (.reg [⟨(some 32), (.call 25), [], none⟩, ⟨(some 8), .mv, [(.t 32)], none⟩]) .ret) .skip)) (.seq (.reg [⟨(some 34), .mv, [(.t 0)], none⟩, ⟨(some 35), .mv, [(.t 1)], none⟩, ⟨(some 36), .mv, [(.t 2)], none⟩, ⟨(some 37), .mv, [(.t 3)], none⟩, ⟨(some 38), (.build [(.int .i64 0), (.int .i64 0), (.int .i64 0), (.int .i64 0), (.bool false), (.int .i64 0), (.int .i64 0), (.int .i64 0), (.int .i64 0), (.int .i64 0), (.int .i64 0), (.int .i64 0), (.int .i64 0), (.int .i64 0), (.int .i64 0), (.int .i64 0), (.int .i64 0), (.int .i64 0), (.int .i64 0), (.int .i64 0), (.int .i64 0), (.int .i64 0), (.int .i64 0), (.int .i64 0), (.int .i64 0), (.int .i64 0), (.int .i64 0), (.int .i64 0), (.int .i64 0), (.int .i64 0), (.int .i64 0), (.int .i64 0), (.int .i64 0), (.int .i64 0), (.int .i64 0), (.int .i64 0), (.int .i64 0), (.int .i64 0), (.int .i64 0), (.int .i64 0), (.int .i64 0), (.int .i64 0), (.int .i64 0), (.int .i64 0), (.int .i64 0), (.int .i64 0), (.bool false), (.bool false), (.int .i64 0), (.bool false), (.int .i64 0), (.int .i64 0)] [(0, 1), (1, 1), (2, 1), (3, 1)]), [(.c (.rv (.int .i64 4))), (.t 35), (.t 36), (.t 37)], none⟩, ⟨(some 39), (.call 26), [(.t 34), (.t 38)], none⟩, ⟨(some 33), .mv, [(.t 39)], none⟩, ⟨(some 40), (.ext 0), [(.t 33)], none⟩, ⟨(some 41), (.ext 1), [(.t 33)], none⟩, ⟨(some 9), .mv, [(.t 40)], none⟩, ⟨(some 10), .mv, [(.t 41)], none⟩]) (.seq (.seq (.reg [⟨(some 42), .mv, [(.t 10)], none⟩, ⟨(some 43), (.ibin .neq), [(.t 42), (.c (.rv (.int .i64 0)))], none⟩]) (.cond (.t 43) (.seq (.reg [⟨(some 44), .mv, [(.t 9)], none⟩, ⟨(some 45), .len, [(.t 44)], none⟩, ⟨(some 46), (.ibin .eql), [(.t 45), (.c (.rv (.int .i64 0)))], none⟩, ⟨(some 8), .mv, [(.t 46)], none⟩]) .ret) .skip)) (.seq (.regd [0, 1, 0, 0, 12, 28, 60, 0, 131, 511] [⟨(some 47), .mv, [(.t 0)], none⟩, ⟨(some 48), (.call 35), [(.t 47), (.c (.rv (.int .i64 0)))], none⟩, ⟨(some 49), .mv, [(.t 0)], none⟩, ⟨(some 50), .mv, [(.t 1)], none⟩, ⟨(some 51), (.ixs 49), [(.t 49), (.t 50)], none⟩, ⟨(some 52), (.fld 48), [(.t 51)], none⟩, ⟨(some 53), (.load 1 false), [(.t 52)], none⟩, ⟨(some 11), (.alloc [(.bool false), (.int .i64 0), (.int .i64 0), (.int .i64 0), (.int .i64 0), (.int .i64 0), (.int .i64 0), (.int .i64 0), (.int .i64 0), (.int .i64 0), (.int .i64 0), (.int .i64 0), (.int .i64 0), (.int .i64 0), (.int .i64 0), (.int .i64 0), (.int .i64 0), (.int .i64 0), (.int .i64 0), (.int .i64 0), (.int .i64 0), (.int .i64 0), (.int .i64 0), (.int .i64 0), (.int .i64 0), (.int .i64 0), (.int .i64 0), (.int .i64 0), (.int .i64 0), (.int .i64 0), (.int .i64 0), (.int .i64 0), (.int .i64 0), (.int .i64 0), (.int .i64 0), (.int .i64 0), (.int .i64 0), (.int .i64 0), (.int .i64 0), (.int .i64 0), (.int .i64 0), (.int .i64 0), (.bool false), (.bool false), (.int .i64 0), (.bool false), (.int .i64 0), (.int .i64 0), (.int .i64 0), .nilsl]), [], none⟩, ⟨none, (.store 50), [(.t 11), (.t 48)], none⟩, ⟨(some 12), .mv, [(.t 53)], none⟩]) (.seq (.reg [⟨(some 13), .mv, [(.c (.rv (.int .i64 0)))], none⟩]) (.seq (.reg [⟨(some 54), .mv, [(.t 0)], none⟩, ⟨(some 55), .mv, [(.t 12)], none⟩, ⟨(some 56), (.call 34), [(.t 54), (.t 55)], none⟩, ⟨(some 14), .mv, [(.t 56)], none⟩]) (.seq (.seq (.reg [⟨(some 57), .mv, [(.t 14)], none⟩, ⟨(some 58), .len, [(.t 57)], none⟩, ⟨(some 59), .mv, [(.c (.rv (.int .i64 0)))], none⟩]) (.seq (.block 0 (.loop (.seq (.reg [⟨(some 60), (.ibin .lss), [(.t 59), (.t 58)], none⟩]) (.seq (.cond (.t 60) .skip (.exit 0)) (.seq (.seq (.block 1 (.seq (.reg [⟨(some 61), .mv, [(.t 59)], none⟩, ⟨(some 15), .mv, [(.t 61)], none⟩]) (.seq (.reg [⟨(some 62), .mv, [(.t 14)], none⟩, ⟨(some 63), .mv, [(.t 15)], none⟩, ⟨(some 64), (.ixs 1), [(.t 62), (.t 63)], none⟩, ⟨(some 65), (.load 1 false), [(.t 64)], none⟩, ⟨(some 66), .mv, [(.t 1)], none⟩, ⟨(some 67), (.ibin .lss), [(.t 65), (.t 66)], none⟩]) (.seq (.cond (.t 67) (.reg [⟨(some 68), .mv, [(.t 15)], none⟩, ⟨(some 69), (.ibin .add), [(.t 68), (.c (.rv (.int .i64 1)))], none⟩, ⟨(some 13), .mv, [(.t 69)], none⟩]) .skip) .ent)))) .ent) (.reg [⟨(some 70), (.ibin .add), [(.t 59), (.c (.rv (.int .i64 1)))], none⟩, ⟨(some 59), .mv, [(.t 70)], none⟩])))))) .ent)) (.seq (.reg [⟨(some 71), .mv, [(.t 0)], none⟩, ⟨(some 72), .mv, [(.t 1)], none⟩, ⟨(some 73), (.call 30), [(.t 71), (.t 72)], none⟩, ⟨(some 74), .mv, [(.t 1)], none⟩, ⟨(some 75), (.ibin .sub), [(.t 73), (.t 74)], none⟩, ⟨(some 16), .mv, [(.t 75)], none⟩]) (.seq (.reg [⟨(some 76), .mv, [(.t 9)], none⟩, ⟨(some 77), .mv, [(.t 0)], none⟩, ⟨(some 78), .mv, [(.t 1)], none⟩, ⟨(some 79), .mv, [(.t 2)], none⟩, ⟨(some 80), .mv, [(.t 3)], none⟩, ⟨(some 81), .mv, [(.t 2)], none⟩, ⟨(some 82), .mv, [(.t 16)], none⟩, ⟨(some 83), (.call 36), [(.t 77), (.t 78), (.t 79), (.t 80), (.t 81), (.t 82)], none⟩, ⟨(some 84), (.call 34), [(.t 76), (.t 83)], none⟩, ⟨(some 17), .mv, [(.t 84)], none⟩]) (.seq (.seq (.reg [⟨(some 85), (.fld 48), [(.t 11)], none⟩, ⟨(some 86), (.load 1 false), [(.t 85)], none⟩, ⟨(some 87), (.ibin .neq), [(.t 86), (.c (.rv (.int .i64 0)))], none⟩, ⟨(some 88), .mv, [(.t 87)], none⟩, ⟨(some 89), .mv, [(.t 3)], (some (88, false))⟩, ⟨(some 90), .mv, [(.t 17)], (some (88, false))⟩, ⟨(some 91), .len, [(.t 90)], (some (88, false))⟩, ⟨(some 92), (.ibin .geq), [(.t 89), (.t 91)], (some (88, false))⟩, ⟨(some 93), .pick, [(.t 88), (.c (.rv (.bool true))), (.t 92)], none⟩]) (.cond (.t 93) (.seq (.reg [⟨(some 8), .mv, [(.c (.rv (.bool false)))], none⟩]) .ret) .skip)) (.seq (.regd [0, 0, 0, 6, 14, 0, 0, 0, 0, 0, 0, 2016, 0, 8190, 16383, 32767, 65535, 65535, 131071, 524287] [⟨(some 95), .mv, [(.t 9)], none⟩, ⟨(some 96), .mv, [(.t 17)], none⟩, ⟨(some 97), .mv, [(.t 3)], none⟩, ⟨(some 98), (.ixs 1), [(.t 96), (.t 97)], none⟩, ⟨(some 99), (.load 1 false), [(.t 98)], none⟩, ⟨(some 100), .mv, [(.t 0)], none⟩, ⟨(some 101), .mv, [(.t 1)], none⟩, ⟨(some 102), .mv, [(.t 2)], none⟩, ⟨(some 103), .mv, [(.t 3)], none⟩, ⟨(some 104), .mv, [(.t 12)], none⟩, ⟨(some 105), .mv, [(.t 16)], none⟩, ⟨(some 106), (.call 36), [(.t 100), (.t 101), (.t 102), (.t 103), (.t 104), (.t 105)], none⟩, ⟨(some 107), .mv, [(.t 13)], none⟩, ⟨(some 108), (.build [(.int .i64 0), (.int .i64 0), (.int .i64 0), (.int .i64 0), (.bool false), (.int .i64 0), (.int .i64 0), (.int .i64 0), (.int .i64 0), (.int .i64 0), (.int .i64 0), (.int .i64 0), (.int .i64 0), (.int .i64 0), (.int .i64 0), (.int .i64 0), (.int .i64 0), (.int .i64 0), (.int .i64 0), (.int .i64 0), (.int .i64 0), (.int .i64 0), (.int .i64 0), (.int .i64 0), (.int .i64 0), (.int .i64 0), (.int .i64 0), (.int .i64 0), (.int .i64 0), (.int .i64 0), (.int .i64 0), (.int .i64 0), (.int .i64 0), (.int .i64 0), (.int .i64 0), (.int .i64 0), (.int .i64 0), (.int .i64 0), (.int .i64 0), (.int .i64 0), (.int .i64 0), (.int .i64 0), (.int .i64 0), (.int .i64 0), (.int .i64 0), (.int .i64 0), (.bool false), (.bool false), (.int .i64 0), (.bool false), (.int .i64 0), (.int .i64 0)] [(0, 1), (1, 1), (2, 1), (3, 1)]), [(.c (.rv (.int .i64 4))), (.t 99), (.t 106), (.t 107)], none⟩, ⟨(some 109), (.call 26), [(.t 95), (.t 108)], none⟩, ⟨(some 94), .mv, [(.t 109)], none⟩, ⟨(some 110), (.ext 0), [(.t 94)], none⟩, ⟨(some 111), (.ext 1), [(.t 94)], none⟩, ⟨(some 18), .mv, [(.t 110)], none⟩, ⟨(some 19), .mv, [(.t 111)], none⟩]) (.seq (.reg [⟨(some 112), .mv, [(.t 19)], none⟩, ⟨(some 113), (.ibin .eql), [(.t 112), (.c (.rv (.int .i64 0)))], none⟩, ⟨(some 114), .mv, [(.t 113)], none⟩, ⟨(some 115), .mv, [(.t 18)], (some (114, true))⟩, ⟨(some 116), .mv, [(.t 0)], (some (114, true))⟩, ⟨(some 117), (.call 28), [(.t 115), (.t 116)], (some (114, true))⟩, ⟨(some 118), .pick, [(.t 114), (.t 117), (.c (.rv (.bool false)))], none⟩, ⟨(some 8), .mv, [(.t 118)], none⟩]) .ret)))))))))))))
theorem k_decoupagelaw32_EditMoves : FnOK Go.Proofs.Try.prog 9 119 c_decoupagelaw32_EditMoves [(.t 8)] := fnOK_of (by kernel_rfl)


theorem opv4 (n t a : Int) : [SV.rv (.int .i64 4), SV.rv (.int .i64 n), SV.rv (.int .i64 t), SV.rv (.int .i64 a), SV.rv (.bool false), SV.rv (.int .i64 0), SV.rv (.int .i64 0), SV.rv (.int .i64 0), SV.rv (.int .i64 0), SV.rv (.int .i64 0), SV.rv (.int .i64 0), SV.rv (.int .i64 0), SV.rv (.int .i64 0), SV.rv (.int .i64 0), SV.rv (.int .i64 0), SV.rv (.int .i64 0), SV.rv (.int .i64 0), SV.rv (.int .i64 0), SV.rv (.int .i64 0), SV.rv (.int .i64 0), SV.rv (.int .i64 0), SV.rv (.int .i64 0), SV.rv (.int .i64 0), SV.rv (.int .i64 0), SV.rv (.int .i64 0), SV.rv (.int .i64 0), SV.rv (.int .i64 0), SV.rv (.int .i64 0), SV.rv (.int .i64 0), SV.rv (.int .i64 0), SV.rv (.int .i64 0), SV.rv (.int .i64 0), SV.rv (.int .i64 0), SV.rv (.int .i64 0), SV.rv (.int .i64 0), SV.rv (.int .i64 0), SV.rv (.int .i64 0), SV.rv (.int .i64 0), SV.rv (.int .i64 0), SV.rv (.int .i64 0), SV.rv (.int .i64 0), SV.rv (.int .i64 0), SV.rv (.int .i64 0), SV.rv (.int .i64 0), SV.rv (.int .i64 0), SV.rv (.int .i64 0), SV.rv (.bool false), SV.rv (.bool false), SV.rv (.int .i64 0), SV.rv (.bool false), SV.rv (.int .i64 0), SV.rv (.int .i64 0)] = (Opv.mk 4 n t a default).cells.map SV.rv := rfl
theorem grow_was (l : List Nd) (d : Nat) : ((growF l d 0).cells.map SV.rv)[48]? = some (.rv (.int .i64 0)) := by
  cases d <;> (rw [growF, tr_mk]; rfl)

set_option maxRecDepth 20000 in
set_option maxHeartbeats 8000000 in
theorem sp_EditMoves (l : List Nd) (n t a : Int) : CallR Go.Proofs.Try.prog 9 [.rv (.sl 49 (ndL l)), .rv (.int .i64 n), .rv (.int .i64 t), .rv (.int .i64 a)] [] [] (.rv (.bool true)) := by
  refine callR_G k_decoupagelaw32_EditMoves [.rv (.sl 49 (ndL l)), .rv (.int .i64 n), .rv (.int .i64 t), .rv (.int .i64 a)] _ (by simp) (by simp [BkAll, bk_agg, bkAll_map, bk_rv, bk_fn, Sty.sv, Ln.sv, Nd.sv]) (fun K hK => ?_)
  have hlen := ndL_len l
  simp -implicitDefEqProofs only [c_decoupagelaw32_EditMoves, go_sem, ↓reduceIte, Nat.reduceEqDiff, Nat.reduceAdd, Nat.reduceSub, Nat.reduceMul, Nat.reduceLeDiff, Nat.reduceLT, reduceCtorEq, Int.reduceToNat]
  by_cases hl : l.length > 30
  · have e1 : decide ((l.length : Int) > 30) = true := decide_eq_true (by omega)
    have hcall1 := sp_awake32; repeat' (first | (simp -implicitDefEqProofs only [go_sem, ↓reduceIte, Nat.reduceEqDiff, Nat.reduceAdd, Nat.reduceSub, Nat.reduceMul, Nat.reduceLeDiff, Nat.reduceLT, reduceCtorEq, Int.reduceToNat, hlen, e1]) | (with_reducible refine g_noent ?_) | (with_reducible refine g_call0 hcall1 ?_) | (with_reducible refine g_calld0 hcall1 ?_) | (refine cdS (fun hg => ?_) (fun hg => ?_) <;> try simp -implicitDefEqProofs only [hg, Bool.not_true, Bool.not_false]) | (refine gdS (fun hg => ?_) (fun hg => ?_) <;> try simp -implicitDefEqProofs only [hg, Bool.not_true, Bool.not_false]) | (refine gddS (fun hg => ?_) (fun hg => ?_) <;> try simp -implicitDefEqProofs only [hg, Bool.not_true, Bool.not_false]) | ((with_reducible apply And.intro); focus (first | trivial | omega | decide | (simp -implicitDefEqProofs only [maxLen]; omega) | (simp [maxLen, sty_len, nd_len, ndL_len, lnL_len, intsL_len, rvs_len, lensS_len]; done) | (simp [maxLen, sty_len, nd_len, ndL_len, lnL_len, intsL_len, rvs_len, lensS_len]; omega))) | fail)
    exact (hK _ _ (ret_t rfl)).2
  · have e1 : decide ((l.length : Int) > 30) = false := decide_eq_false (by omega)
    have hb : l.length ≤ 8589934592 := by omega
    have hck := sp_ref07_Check l hb
    by_cases hc : chk l = 0
    · rw [hc] at hck
      have e00 : ((0 : Int) != 0) = false := rfl
      have hs := tree_shp (chk_tree hc)
      have hap := sp_Apply l (by omega) ⟨4, n, t, a, default⟩
      rw [resA_eq] at hap
      by_cases hR : (applyF l ⟨4, n, t, a, default⟩).2 = 0
      · obtain ⟨x, hx1, hm, hcx, hx⟩ := apply_ok hR
        obtain ⟨n', t', a', rfl, rfl, rfl, M⟩ := mv_of hm hcx
        rw [hx1] at hap
        have hsx := tree_shp (chk_tree hx)
        obtain ⟨f, hf⟩ : ∃ f : Nat, parL l n' = f := by
          have := hs.up n' M.n0 M.hn
          exact ⟨(parL l n').toNat, by omega⟩
        have hfn : f < n' := by have := par_lt hs M.hn; omega
        have hnl := M.hn
        have htl := M.ht
        have g1 := endR_gt M.hn
        have g2 := endR_le l n'
        have hxl := M.len
        obtain ⟨s1, s2⟩ := M.from hs hf
        have hback := M.back hs hx hc hf
        obtain ⟨k1, k2⟩ := M.kid hs hsx
        have hTx : psiL n' (endR l n') t' < x.length := by
          have := M.lt; have := leftF_len M.hn; omega
        have hap2 := sp_Apply x (by omega) ⟨4, (placeF (leftF l n') (psiL n' (endR l n') t') a' : Nat), ((if f ≥ placeF (leftF l n') (psiL n' (endR l n') t') a' then f + (endR l n' - n') else f : Nat) : Int), (kidTo l f n' : Nat), default⟩
        rw [hback, resA_eq] at hap2
        have hsh1 := sp_shift l hs (by omega) n' t' a' t' (endR l n' - n') M.ht M.ht M.hn (by have := M.ha; have := kidTo_le (l := leftF l n') (n := (psiL n' (endR l n') t' : Nat)) (k := (leftF l n').length); have := leftF_len M.hn; omega) (by omega)
        have hsh2 := sp_shift l hs (by omega) n' t' a' f (endR l n' - n') M.ht (by omega) M.hn (by have := M.ha; have := kidTo_le (l := leftF l n') (n := (psiL n' (endR l n') t' : Nat)) (k := (leftF l n').length); have := leftF_len M.hn; omega) (by omega)
        rw [s2] at hsh1
        rw [s1] at hsh2
        generalize (if f ≥ placeF (leftF l n') (psiL n' (endR l n') t') a' then f + (endR l n' - n') else f) = F at *
        generalize placeF (leftF l n') (psiL n' (endR l n') t') a' = p at *
        generalize psiL n' (endR l n') t' = T at *
        have hkT := sp_ref08_Kids x (by omega) T hTx
        have hkm := (List.getElem?_eq_some_iff.1 k1).1
        have hat : atI (kidsOf x T) a' = (p : Nat) := by unfold atI; rw [k1]
        have hai := nats_at hkm
        rw [hat] at hai
        have hkl := nats_ln (kidsOf x T)
        have hgr := sp_Grow32 l hs (by omega) l.length 0 (by omega) (by omega)
        have hgw := grow_was l l.length
        have hgm := tr_mlen (growF l l.length 0)
        have hgl := tr_len (growF l l.length 0)
        generalize growF l l.length 0 = W at *
        have hkf := sp_ref08_Kids l (by omega) f (by omega)
        have hkfl := nats_ln (kidsOf l f)
        have hkfn : (kidsOf l f).length ≤ l.length := kidsTo_len
        have hpn : ((l[n']'M.hn).cells.drop 48)[0]? = some (.int .i64 f) := by rw [nd_par, parL_eq M.hn, hf]
        have hxn := ndL_get M.hn
        have hen := sp_ref08_End l hs (by omega) n'
        rw [show endAt l n' = (endR l n' : Nat) by simp [endAt, inL_of M.hn, endR_eq hs M.hn]] at hen
        have wsp : IntKind.i64.wrap (((endR l n' : Nat) : Int) - (n' : Int)) = ((endR l n' - n' : Nat) : Int) := by rw [wrap_i64 (by omega) (by omega)]; omega
        have hcnt : kidTo l f n' ≤ (kidsOf l f).length := by rw [kids_len hs.root]; exact kidTo_mono _ (by omega)
        have hcall2 := sp_awake32; have hcall3 := hck; repeat' (first | (simp -implicitDefEqProofs only [go_sem, ↓reduceIte, Nat.reduceEqDiff, Nat.reduceAdd, Nat.reduceSub, Nat.reduceMul, Nat.reduceLeDiff, Nat.reduceLT, reduceCtorEq, Int.reduceToNat, hlen, e1, e00]) | (with_reducible refine g_noent ?_) | (with_reducible refine g_call0 hcall2 ?_) | (with_reducible refine g_calld0 hcall2 ?_) | (with_reducible refine g_call0 hcall3 ?_) | (with_reducible refine g_calld0 hcall3 ?_) | (refine cdS (fun hg => ?_) (fun hg => ?_) <;> try simp -implicitDefEqProofs only [hg, Bool.not_true, Bool.not_false]) | (refine gdS (fun hg => ?_) (fun hg => ?_) <;> try simp -implicitDefEqProofs only [hg, Bool.not_true, Bool.not_false]) | (refine gddS (fun hg => ?_) (fun hg => ?_) <;> try simp -implicitDefEqProofs only [hg, Bool.not_true, Bool.not_false]) | ((with_reducible apply And.intro); focus (first | trivial | omega | decide | (simp -implicitDefEqProofs only [maxLen]; omega) | (simp [maxLen, sty_len, nd_len, ndL_len, lnL_len, intsL_len, rvs_len, lensS_len]; done) | (simp [maxLen, sty_len, nd_len, ndL_len, lnL_len, intsL_len, rvs_len, lensS_len]; omega))) | fail)
        have hcall4 := hap; have hcall5 := hgr; have hcall6 := hkf; repeat' (first | (simp -implicitDefEqProofs only [go_sem, ↓reduceIte, Nat.reduceEqDiff, Nat.reduceAdd, Nat.reduceSub, Nat.reduceMul, Nat.reduceLeDiff, Nat.reduceLT, reduceCtorEq, Int.reduceToNat, opv4, e00, resL1_s, hxn, hlen, nd_len, hpn, hgm, hgl, hkfl]) | (with_reducible refine g_noent ?_) | (with_reducible refine g_call0 hcall4 ?_) | (with_reducible refine g_calld0 hcall4 ?_) | (with_reducible refine g_call0 hcall5 ?_) | (with_reducible refine g_calld0 hcall5 ?_) | (with_reducible refine g_call0 hcall6 ?_) | (with_reducible refine g_calld0 hcall6 ?_) | (refine cdS (fun hg => ?_) (fun hg => ?_) <;> try simp -implicitDefEqProofs only [hg, Bool.not_true, Bool.not_false]) | (refine gdS (fun hg => ?_) (fun hg => ?_) <;> try simp -implicitDefEqProofs only [hg, Bool.not_true, Bool.not_false]) | (refine gddS (fun hg => ?_) (fun hg => ?_) <;> try simp -implicitDefEqProofs only [hg, Bool.not_true, Bool.not_false]) | ((with_reducible apply And.intro); focus (first | trivial | omega | decide | (simp -implicitDefEqProofs only [maxLen]; omega) | (simp [maxLen, sty_len, nd_len, ndL_len, lnL_len, intsL_len, rvs_len, lensS_len]; done) | (simp [maxLen, sty_len, nd_len, ndL_len, lnL_len, intsL_len, rvs_len, lensS_len]; omega))) | fail)
        refine g_loop (ι := Nat) (fun k => [(59, .rv (.int .i64 k)), (58, .rv (.int .i64 (kidsOf l f).length)), (14, .rv (.sl 1 (intsL (natsI (kidsOf l f))))), (13, .rv (.int .i64 (min k (kidTo l f n') : Nat))), (12, .rv (.int .i64 f)), (11, .ptr 0 0), (9, .rv (.sl 49 (ndL x))), (0, .rv (.sl 49 (ndL l))), (1, .rv (.int .i64 n')), (2, .rv (.int .i64 t')), (3, .rv (.int .i64 a'))]) (fun k => [some (.var (W.cells.map SV.rv))]) (fun k => k ≤ (kidsOf l f).length) (fun k => (kidsOf l f).length - k) 0 (by simp) (ent_env (by simp [lk])) (fun k hk' K' hN hX hR => ?_)
        simp -implicitDefEqProofs only [go_sem, ↓reduceIte, Nat.reduceEqDiff, Nat.reduceAdd, Nat.reduceSub, Nat.reduceMul, Nat.reduceLeDiff, Nat.reduceLT, reduceCtorEq, Int.reduceToNat]
        refine cdS (fun hg => ?_) (fun hg => ?_)
        · have hk4 : k < (kidsOf l f).length := by simp at hg; omega
          have wu := wrap_up (k := k) (by omega)
          have hx2 := nats_at hk4
          rw [atI_lt hk4] at hx2
          have hah := kid_ahead hs M.hn hf hk4
          generalize (kidsOf l f)[k]'hk4 = c at *
          by_cases hcn : c < n'
          · have e6 : decide ((c : Int) < (n' : Int)) = true := decide_eq_true (by omega)
            have := hah.1 hcn
            repeat' (first | (simp -implicitDefEqProofs only [go_sem, ↓reduceIte, Nat.reduceEqDiff, Nat.reduceAdd, Nat.reduceSub, Nat.reduceMul, Nat.reduceLeDiff, Nat.reduceLT, reduceCtorEq, Int.reduceToNat, hx2, hkfl, e6, wu]) | (with_reducible refine g_noent ?_) | (refine cdS (fun hg => ?_) (fun hg => ?_) <;> try simp -implicitDefEqProofs only [hg, Bool.not_true, Bool.not_false]) | (refine gdS (fun hg => ?_) (fun hg => ?_) <;> try simp -implicitDefEqProofs only [hg, Bool.not_true, Bool.not_false]) | (refine gddS (fun hg => ?_) (fun hg => ?_) <;> try simp -implicitDefEqProofs only [hg, Bool.not_true, Bool.not_false]) | ((with_reducible apply And.intro); focus (first | trivial | omega | decide | (simp -implicitDefEqProofs only [maxLen]; omega) | (simp [maxLen, sty_len, nd_len, ndL_len, lnL_len, intsL_len, rvs_len, lensS_len]; done) | (simp [maxLen, sty_len, nd_len, ndL_len, lnL_len, intsL_len, rvs_len, lensS_len]; omega))) | fail)
            refine hN (k + 1) _ _ (by omega) (by omega) ?_
            rw [show min (k + 1) (kidTo l f n') = k + 1 by omega]
            exact ent_env (by simp [lk])
          · have e6 : decide ((c : Int) < (n' : Int)) = false := decide_eq_false (by omega)
            have : ¬ k < kidTo l f n' := fun h => hcn (hah.2 h)
            repeat' (first | (simp -implicitDefEqProofs only [go_sem, ↓reduceIte, Nat.reduceEqDiff, Nat.reduceAdd, Nat.reduceSub, Nat.reduceMul, Nat.reduceLeDiff, Nat.reduceLT, reduceCtorEq, Int.reduceToNat, hx2, hkfl, e6, wu]) | (with_reducible refine g_noent ?_) | (refine cdS (fun hg => ?_) (fun hg => ?_) <;> try simp -implicitDefEqProofs only [hg, Bool.not_true, Bool.not_false]) | (refine gdS (fun hg => ?_) (fun hg => ?_) <;> try simp -implicitDefEqProofs only [hg, Bool.not_true, Bool.not_false]) | (refine gddS (fun hg => ?_) (fun hg => ?_) <;> try simp -implicitDefEqProofs only [hg, Bool.not_true, Bool.not_false]) | ((with_reducible apply And.intro); focus (first | trivial | omega | decide | (simp -implicitDefEqProofs only [maxLen]; omega) | (simp [maxLen, sty_len, nd_len, ndL_len, lnL_len, intsL_len, rvs_len, lensS_len]; done) | (simp [maxLen, sty_len, nd_len, ndL_len, lnL_len, intsL_len, rvs_len, lensS_len]; omega))) | fail)
            refine hN (k + 1) _ _ (by omega) (by omega) ?_
            rw [show min (k + 1) (kidTo l f n') = min k (kidTo l f n') by omega]
            exact ent_env (by simp [lk])
        · have hk4 : k = (kidsOf l f).length := by simp at hg; omega
          subst hk4
          rw [show min (kidsOf l f).length (kidTo l f n') = kidTo l f n' by omega]
          simp -implicitDefEqProofs only [go_sem, ↓reduceIte, Nat.reduceEqDiff, Nat.reduceAdd, Nat.reduceSub, Nat.reduceMul, Nat.reduceLeDiff, Nat.reduceLT, reduceCtorEq, Int.reduceToNat]
          refine hX _ _ _ ?_
          have e7 : decide ((a' : Int) ≥ ((kidsOf x T).length : Int)) = false := decide_eq_false (by omega)
          have h6 := sp_Same07 l hb
          have e0y : ((0 : Int) == 0) = true := rfl
          have hcall7 := hen; have hcall8 := hsh1; have hcall9 := hkT; have hcall10 := hsh2; repeat' (first | (simp -implicitDefEqProofs only [go_sem, ↓reduceIte, Nat.reduceEqDiff, Nat.reduceAdd, Nat.reduceSub, Nat.reduceMul, Nat.reduceLeDiff, Nat.reduceLT, reduceCtorEq, Int.reduceToNat, wsp, hgw, e00, hkl, e7, hai]) | (with_reducible refine g_noent ?_) | (with_reducible refine g_call0 hcall7 ?_) | (with_reducible refine g_calld0 hcall7 ?_) | (with_reducible refine g_call0 hcall8 ?_) | (with_reducible refine g_calld0 hcall8 ?_) | (with_reducible refine g_call0 hcall9 ?_) | (with_reducible refine g_calld0 hcall9 ?_) | (with_reducible refine g_call0 hcall10 ?_) | (with_reducible refine g_calld0 hcall10 ?_) | (refine cdS (fun hg => ?_) (fun hg => ?_) <;> try simp -implicitDefEqProofs only [hg, Bool.not_true, Bool.not_false]) | (refine gdS (fun hg => ?_) (fun hg => ?_) <;> try simp -implicitDefEqProofs only [hg, Bool.not_true, Bool.not_false]) | (refine gddS (fun hg => ?_) (fun hg => ?_) <;> try simp -implicitDefEqProofs only [hg, Bool.not_true, Bool.not_false]) | ((with_reducible apply And.intro); focus (first | trivial | omega | decide | (simp -implicitDefEqProofs only [maxLen]; omega) | (simp [maxLen, sty_len, nd_len, ndL_len, lnL_len, intsL_len, rvs_len, lensS_len]; done) | (simp [maxLen, sty_len, nd_len, ndL_len, lnL_len, intsL_len, rvs_len, lensS_len]; omega))) | fail)
          have hcall11 := hap2; have hcall12 := h6; repeat' (first | (simp -implicitDefEqProofs only [go_sem, ↓reduceIte, Nat.reduceEqDiff, Nat.reduceAdd, Nat.reduceSub, Nat.reduceMul, Nat.reduceLeDiff, Nat.reduceLT, reduceCtorEq, Int.reduceToNat, opv4, resL1_s, e0y]) | (with_reducible refine g_noent ?_) | (with_reducible refine g_call0 hcall11 ?_) | (with_reducible refine g_calld0 hcall11 ?_) | (with_reducible refine g_call0 hcall12 ?_) | (with_reducible refine g_calld0 hcall12 ?_) | (refine cdS (fun hg => ?_) (fun hg => ?_) <;> try simp -implicitDefEqProofs only [hg, Bool.not_true, Bool.not_false]) | (refine gdS (fun hg => ?_) (fun hg => ?_) <;> try simp -implicitDefEqProofs only [hg, Bool.not_true, Bool.not_false]) | (refine gddS (fun hg => ?_) (fun hg => ?_) <;> try simp -implicitDefEqProofs only [hg, Bool.not_true, Bool.not_false]) | ((with_reducible apply And.intro); focus (first | trivial | omega | decide | (simp -implicitDefEqProofs only [maxLen]; omega) | (simp [maxLen, sty_len, nd_len, ndL_len, lnL_len, intsL_len, rvs_len, lensS_len]; done) | (simp [maxLen, sty_len, nd_len, ndL_len, lnL_len, intsL_len, rvs_len, lensS_len]; omega))) | fail)
          exact (hK _ _ (ret_t rfl)).2
      · have e5 : ((applyF l ⟨4, n, t, a, default⟩).2 != 0) = true := by simpa using hR
        have h1 := apply_bad hR
        generalize applyF l ⟨4, n, t, a, default⟩ = R at *
        rw [h1] at hap
        have e0z : (((0 : Nat) : Int) == 0) = true := rfl
        have hcall13 := sp_awake32; have hcall14 := hck; repeat' (first | (simp -implicitDefEqProofs only [go_sem, ↓reduceIte, Nat.reduceEqDiff, Nat.reduceAdd, Nat.reduceSub, Nat.reduceMul, Nat.reduceLeDiff, Nat.reduceLT, reduceCtorEq, Int.reduceToNat, hlen, e1, e00]) | (with_reducible refine g_noent ?_) | (with_reducible refine g_call0 hcall13 ?_) | (with_reducible refine g_calld0 hcall13 ?_) | (with_reducible refine g_call0 hcall14 ?_) | (with_reducible refine g_calld0 hcall14 ?_) | (refine cdS (fun hg => ?_) (fun hg => ?_) <;> try simp -implicitDefEqProofs only [hg, Bool.not_true, Bool.not_false]) | (refine gdS (fun hg => ?_) (fun hg => ?_) <;> try simp -implicitDefEqProofs only [hg, Bool.not_true, Bool.not_false]) | (refine gddS (fun hg => ?_) (fun hg => ?_) <;> try simp -implicitDefEqProofs only [hg, Bool.not_true, Bool.not_false]) | ((with_reducible apply And.intro); focus (first | trivial | omega | decide | (simp -implicitDefEqProofs only [maxLen]; omega) | (simp [maxLen, sty_len, nd_len, ndL_len, lnL_len, intsL_len, rvs_len, lensS_len]; done) | (simp [maxLen, sty_len, nd_len, ndL_len, lnL_len, intsL_len, rvs_len, lensS_len]; omega))) | fail)
        have hcall15 := hap; repeat' (first | (simp -implicitDefEqProofs only [go_sem, ↓reduceIte, Nat.reduceEqDiff, Nat.reduceAdd, Nat.reduceSub, Nat.reduceMul, Nat.reduceLeDiff, Nat.reduceLT, reduceCtorEq, Int.reduceToNat, opv4, e5, resL1_n, e0z]) | (with_reducible refine g_noent ?_) | (with_reducible refine g_call0 hcall15 ?_) | (with_reducible refine g_calld0 hcall15 ?_) | (refine cdS (fun hg => ?_) (fun hg => ?_) <;> try simp -implicitDefEqProofs only [hg, Bool.not_true, Bool.not_false]) | (refine gdS (fun hg => ?_) (fun hg => ?_) <;> try simp -implicitDefEqProofs only [hg, Bool.not_true, Bool.not_false]) | (refine gddS (fun hg => ?_) (fun hg => ?_) <;> try simp -implicitDefEqProofs only [hg, Bool.not_true, Bool.not_false]) | ((with_reducible apply And.intro); focus (first | trivial | omega | decide | (simp -implicitDefEqProofs only [maxLen]; omega) | (simp [maxLen, sty_len, nd_len, ndL_len, lnL_len, intsL_len, rvs_len, lensS_len]; done) | (simp [maxLen, sty_len, nd_len, ndL_len, lnL_len, intsL_len, rvs_len, lensS_len]; omega))) | fail)
        exact (hK _ _ (ret_t rfl)).2
    · have e00 : (chk l != 0) = true := by simpa using hc
      have hcall16 := sp_awake32; have hcall17 := hck; repeat' (first | (simp -implicitDefEqProofs only [go_sem, ↓reduceIte, Nat.reduceEqDiff, Nat.reduceAdd, Nat.reduceSub, Nat.reduceMul, Nat.reduceLeDiff, Nat.reduceLT, reduceCtorEq, Int.reduceToNat, hlen, e1, e00]) | (with_reducible refine g_noent ?_) | (with_reducible refine g_call0 hcall16 ?_) | (with_reducible refine g_calld0 hcall16 ?_) | (with_reducible refine g_call0 hcall17 ?_) | (with_reducible refine g_calld0 hcall17 ?_) | (refine cdS (fun hg => ?_) (fun hg => ?_) <;> try simp -implicitDefEqProofs only [hg, Bool.not_true, Bool.not_false]) | (refine gdS (fun hg => ?_) (fun hg => ?_) <;> try simp -implicitDefEqProofs only [hg, Bool.not_true, Bool.not_false]) | (refine gddS (fun hg => ?_) (fun hg => ?_) <;> try simp -implicitDefEqProofs only [hg, Bool.not_true, Bool.not_false]) | ((with_reducible apply And.intro); focus (first | trivial | omega | decide | (simp -implicitDefEqProofs only [maxLen]; omega) | (simp [maxLen, sty_len, nd_len, ndL_len, lnL_len, intsL_len, rvs_len, lensS_len]; done) | (simp [maxLen, sty_len, nd_len, ndL_len, lnL_len, intsL_len, rvs_len, lensS_len]; omega))) | fail)
      exact (hK _ _ (ret_t rfl)).2
end Go.Eng


/- What comes in, as nodes and numbers. -/
namespace Go.Eng
open Go Go.Proofs

theorem tyInt {n : Nat} {rs : List RV} (h : TyC Go.Proofs.Try.prog (n + 1) 3 rs) : ∃ i, rs = [.int .i64 i] := by
  obtain ⟨i, h, _⟩ := tyC_int Try.underlying3 h
  exact ⟨i, h⟩
theorem tyInt64 {n : Nat} {rs : List RV} (h : TyC Go.Proofs.Try.prog (n + 1) 2 rs) : ∃ i, rs = [.int .i64 i] := by
  obtain ⟨i, h, _⟩ := tyC_int Try.underlying2 h
  exact ⟨i, h⟩
theorem tyBool {n : Nat} {rs : List RV} (h : TyC Go.Proofs.Try.prog (n + 1) 4 rs) : ∃ b, rs = [.bool b] := by
  exact tyC_bool Try.underlying4 h
theorem tyLen {n : Nat} {rs : List RV} (h : TyC Go.Proofs.Try.prog (n + 2) 39 rs) : ∃ x : Ln, rs = x.cells := by
  have h := tyC_struct Try.underlying39 h
  obtain ⟨_, _, rfl, h1, _, _, rfl, h2, rfl⟩ := h
  obtain ⟨i, rfl⟩ := tyInt h1
  obtain ⟨j, rfl⟩ := tyInt64 h2
  exact ⟨⟨i, j⟩, rfl⟩
theorem list4 {α : Type} {xs : List α} (h : xs.length = 4) : ∃ a b c d, xs = [a, b, c, d] := by
  match xs, h with
  | [a, b, c, d], _ => exact ⟨a, b, c, d, rfl⟩
theorem tyQ {n : Nat} {rs : List RV} (h : TyC Go.Proofs.Try.prog (n + 3) 40 rs) : ∃ q : Q4 Ln, rs = q.lns := by
  obtain ⟨xs, rfl, hl, hx⟩ := tyC_array Try.underlying40 h
  obtain ⟨a, b, c, d, rfl⟩ := list4 hl
  obtain ⟨a, rfl⟩ := tyLen (hx a (by simp))
  obtain ⟨b, rfl⟩ := tyLen (hx b (by simp))
  obtain ⟨c, rfl⟩ := tyLen (hx c (by simp))
  obtain ⟨d, rfl⟩ := tyLen (hx d (by simp))
  exact ⟨⟨a, b, c, d⟩, rfl⟩
theorem tyB {n : Nat} {rs : List RV} (h : TyC Go.Proofs.Try.prog (n + 2) 41 rs) : ∃ q : Q4 Int, rs = q.ints := by
  obtain ⟨xs, rfl, hl, hx⟩ := tyC_array Try.underlying41 h
  obtain ⟨a, b, c, d, rfl⟩ := list4 hl
  obtain ⟨a, rfl⟩ := tyInt64 (hx a (by simp))
  obtain ⟨b, rfl⟩ := tyInt64 (hx b (by simp))
  obtain ⟨c, rfl⟩ := tyInt64 (hx c (by simp))
  obtain ⟨d, rfl⟩ := tyInt64 (hx d (by simp))
  exact ⟨⟨a, b, c, d⟩, rfl⟩
theorem tySty {n : Nat} {rs : List RV} (h : TyC Go.Proofs.Try.prog (n + 4) 43 rs) : ∃ s : Sty, rs = s.cells := by
  have h := tyC_struct Try.underlying43 h
  obtain ⟨_, _, rfl, h1, _, _, rfl, h2, _, _, rfl, h3, _, _, rfl, h4, _, _, rfl, h5, _, _, rfl, h6, _, _, rfl, h7, _, _, rfl, h8, _, _, rfl, h9, _, _, rfl, h10, _, _, rfl, h11, _, _, rfl, h12, _, _, rfl, h13, _, _, rfl, h14, _, _, rfl, h15, _, _, rfl, h16, _, _, rfl, h17, _, _, rfl, h18, rfl⟩ := h
  obtain ⟨b1, rfl⟩ := tyBool h1
  obtain ⟨i2, rfl⟩ := tyInt h2
  obtain ⟨q3, rfl⟩ := tyQ h3
  obtain ⟨x4, rfl⟩ := tyLen h4
  obtain ⟨x5, rfl⟩ := tyLen h5
  obtain ⟨x6, rfl⟩ := tyLen h6
  obtain ⟨x7, rfl⟩ := tyLen h7
  obtain ⟨x8, rfl⟩ := tyLen h8
  obtain ⟨x9, rfl⟩ := tyLen h9
  obtain ⟨q10, rfl⟩ := tyQ h10
  obtain ⟨q11, rfl⟩ := tyQ h11
  obtain ⟨q12, rfl⟩ := tyB h12
  obtain ⟨b13, rfl⟩ := tyBool h13
  obtain ⟨b14, rfl⟩ := tyBool h14
  obtain ⟨i15, rfl⟩ := tyInt64 h15
  obtain ⟨b16, rfl⟩ := tyBool h16
  obtain ⟨i17, rfl⟩ := tyInt64 h17
  obtain ⟨i18, rfl⟩ := tyInt64 h18
  exact ⟨⟨b1, i2, q3, x4, x5, x6, x7, x8, x9, q10, q11, q12, b13, b14, i15, b16, i17, i18⟩, rfl⟩
theorem tyNode {n : Nat} {rs : List RV} (h : TyC Go.Proofs.Try.prog (n + 5) 45 rs) : ∃ x : Nd, rs = x.cells := by
  have h := tyC_struct Try.underlying45 h
  obtain ⟨_, _, rfl, h1, _, _, rfl, h2, rfl⟩ := h
  obtain ⟨s, rfl⟩ := tySty h1
  obtain ⟨i, rfl⟩ := tyInt h2
  exact ⟨⟨s, i⟩, rfl⟩
theorem list_of {α : Type} {f : α → List RV} : ∀ {xs : List (List RV)}, (∀ x ∈ xs, ∃ a, x = f a) → ∃ l : List α, xs = l.map f
  | [], _ => ⟨[], rfl⟩
  | x :: xs, h => by
    obtain ⟨a, rfl⟩ := h x (by simp)
    obtain ⟨l, rfl⟩ := list_of (xs := xs) fun y hy => h y (by simp [hy])
    exact ⟨a :: l, rfl⟩

theorem cells49 : Program.cellsOf Go.Proofs.Try.prog 45 = 49 := by kernel_rfl
theorem aggN : aggT Go.Proofs.Try.prog 22 = some false := by kernel_rfl
theorem aggI : aggT Go.Proofs.Try.prog 3 = some false := by kernel_rfl

theorem openNodes {rs : List RV} (h : TyC Go.Proofs.Try.prog 6 22 rs) : ∃ l : List Nd, argS Go.Proofs.Try.prog 22 rs = .rv (.sl 49 (ndL l)) := by
  obtain ⟨xs, rfl, _, hx⟩ := tyC_slice Try.underlying22 h
  obtain ⟨l, rfl⟩ := list_of fun x hx' => tyNode (hx x hx')
  refine ⟨l, ?_⟩
  rw [argS_one aggN, cells49]; rfl
theorem openInt {rs : List RV} (h : TyC Go.Proofs.Try.prog 1 3 rs) : ∃ i : Int, argS Go.Proofs.Try.prog 3 rs = .rv (.int .i64 i) := by
  obtain ⟨i, rfl⟩ := tyInt h
  exact ⟨i, argS_one aggI⟩
end Go.Eng
