/- Part 5 of the proof: E4, E5, E6, EngZe, EngZf, E7, E8, E9, U1, E10, E11, E12, E13, E14, E15, E16, E17, E18, E19. -/
import Derived.Test.YtiajmaeempoihaaEditApplies4
set_option linter.unusedSimpArgs false
set_option linter.unusedVariables false

/- edit: putting in. -/
namespace Go.Eng
open Go
/- decoupage/edit.paste -/
def c_edit_paste : AC := (.seq (.reg [⟨(some 8), .mv, [(.c (.rv .nilsl))], none⟩]) (.seq (.reg [⟨(some 13), .mv, [(.t 0)], none⟩, ⟨(some 14), .mv, [(.t 2)], none⟩, ⟨(some 15), .mv, [(.t 3)], none⟩, ⟨(some 16), (.call 110), [(.t 13), (.t 14), (.t 15)], none⟩, ⟨(some 9), .mv, [(.t 16)], none⟩]) (.seq (.regd [0, 0, 3, 0, 0, 0, 48, 127, 255, 511] [⟨(some 17), .mv, [(.t 0)], none⟩, ⟨(some 18), .mv, [(.t 9)], none⟩, ⟨(some 19), (.slc 49 false true), [(.t 17), (.t 18)], none⟩, ⟨(some 20), .mv, [(.t 1)], none⟩, ⟨(some 21), .mv, [(.t 0)], none⟩, ⟨(some 22), .mv, [(.t 9)], none⟩, ⟨(some 23), (.slc 49 true false), [(.t 21), (.t 22)], none⟩, ⟨(some 24), (.bsl 1), [(.t 19), (.t 20), (.t 23)], none⟩, ⟨(some 25), (.call 109), [(.t 24)], none⟩, ⟨(some 10), .mv, [(.t 25)], none⟩]) (.seq (.seq (.reg [⟨(some 26), .mv, [(.t 9)], none⟩, ⟨(some 11), .mv, [(.t 26)], none⟩]) (.seq (.block 0 (.loop (.seq (.seq (.reg [⟨(some 27), .mv, [(.t 11)], none⟩, ⟨(some 28), .mv, [(.t 9)], none⟩, ⟨(some 29), .mv, [(.t 1)], none⟩, ⟨(some 30), .len, [(.t 29)], none⟩, ⟨(some 31), (.ibin .add), [(.t 28), (.t 30)], none⟩, ⟨(some 32), (.ibin .lss), [(.t 27), (.t 31)], none⟩]) (.cond (.t 32) .skip (.exit 0))) (.seq (.seq (.block 1 (.reg [⟨(some 35), .mv, [(.t 10)], none⟩, ⟨(some 36), .mv, [(.t 11)], none⟩, ⟨(some 37), (.ixs 49), [(.t 35), (.t 36)], none⟩, ⟨(some 38), (.fld 48), [(.t 37)], none⟩, ⟨(some 39), (.load 1 false), [(.t 38)], none⟩, ⟨(some 40), .mv, [(.t 9)], none⟩, ⟨(some 41), (.ibin .add), [(.t 39), (.t 40)], none⟩, ⟨(some 42), (.ixs 49), [(.t 35), (.t 36)], none⟩, ⟨(some 43), (.fld 48), [(.t 42)], none⟩, ⟨none, (.store 1), [(.t 43), (.t 41)], none⟩])) .ent) (.reg [⟨(some 33), .mv, [(.t 11)], none⟩, ⟨(some 34), (.ibin .add), [(.t 33), (.c (.rv (.int .i64 1)))], none⟩, ⟨(some 11), .mv, [(.t 34)], none⟩]))))) .ent)) (.seq (.reg [⟨(some 44), .mv, [(.t 10)], none⟩, ⟨(some 45), .mv, [(.t 9)], none⟩, ⟨(some 46), .mv, [(.t 2)], none⟩, ⟨(some 47), (.ixs 49), [(.t 44), (.t 45)], none⟩, ⟨(some 48), (.fld 48), [(.t 47)], none⟩, ⟨none, (.store 1), [(.t 48), (.t 46)], none⟩]) (.seq (.seq (.reg [⟨(some 49), .mv, [(.t 9)], none⟩, ⟨(some 50), .mv, [(.t 1)], none⟩, ⟨(some 51), .len, [(.t 50)], none⟩, ⟨(some 52), (.ibin .add), [(.t 49), (.t 51)], none⟩, ⟨(some 12), .mv, [(.t 52)], none⟩]) (.seq (.block 2 (.loop (.seq (.seq (.reg [⟨(some 53), .mv, [(.t 12)], none⟩, ⟨(some 54), .mv, [(.t 10)], none⟩, ⟨(some 55), .len, [(.t 54)], none⟩, ⟨(some 56), (.ibin .lss), [(.t 53), (.t 55)], none⟩]) (.cond (.t 56) .skip (.exit 2))) (.seq (.seq (.block 3 (.seq (.reg [⟨(some 59), .mv, [(.t 10)], none⟩, ⟨(some 60), .mv, [(.t 12)], none⟩, ⟨(some 61), (.ixs 49), [(.t 59), (.t 60)], none⟩, ⟨(some 62), (.fld 48), [(.t 61)], none⟩, ⟨(some 63), (.load 1 false), [(.t 62)], none⟩, ⟨(some 64), .mv, [(.t 9)], none⟩, ⟨(some 65), (.ibin .geq), [(.t 63), (.t 64)], none⟩]) (.seq (.cond (.t 65) (.reg [⟨(some 66), .mv, [(.t 10)], none⟩, ⟨(some 67), .mv, [(.t 12)], none⟩, ⟨(some 68), (.ixs 49), [(.t 66), (.t 67)], none⟩, ⟨(some 69), (.fld 48), [(.t 68)], none⟩, ⟨(some 70), (.load 1 false), [(.t 69)], none⟩, ⟨(some 71), .mv, [(.t 1)], none⟩, ⟨(some 72), .len, [(.t 71)], none⟩, ⟨(some 73), (.ibin .add), [(.t 70), (.t 72)], none⟩, ⟨(some 74), (.ixs 49), [(.t 66), (.t 67)], none⟩, ⟨(some 75), (.fld 48), [(.t 74)], none⟩, ⟨none, (.store 1), [(.t 75), (.t 73)], none⟩]) .skip) .ent))) .ent) (.reg [⟨(some 57), .mv, [(.t 12)], none⟩, ⟨(some 58), (.ibin .add), [(.t 57), (.c (.rv (.int .i64 1)))], none⟩, ⟨(some 12), .mv, [(.t 58)], none⟩]))))) .ent)) (.seq (.reg [⟨(some 76), .mv, [(.t 10)], none⟩, ⟨(some 8), .mv, [(.t 76)], none⟩]) .ret)))))))
theorem k_edit_paste : FnOK Go.Proofs.Try.prog 88 77 c_edit_paste [(.t 8)] := fnOK_of (by kernel_rfl)


def ParM (l : List Nd) : Prop := ∀ x ∈ l, -1 ≤ x.parent ∧ x.parent < 1099511627776
def addN (d : Int) (x : Nd) : Nd := ⟨x.s, x.parent + d⟩
def addIf (a d : Int) (x : Nd) : Nd := if x.parent ≥ a then ⟨x.s, x.parent + d⟩ else x
/-- The part, as it stands there. -/
def partP (part : List Nd) (n : Int) (to : Nat) : List Nd := (part.map (addN to)).set 0 ⟨(part.headD default).s, n⟩
def pasteF (l part : List Nd) (n : Int) (to : Nat) : List Nd := l.take to ++ partP part n to ++ (l.drop to).map (addIf to (part.length : Nat))
def paste0 (l part : List Nd) (to : Nat) : List Nd := l.take to ++ part ++ l.drop to
def paste2 (l part : List Nd) (n : Int) (to : Nat) : List Nd := l.take to ++ partP part n to ++ l.drop to
theorem partP_len (part : List Nd) (n : Int) (to : Nat) : (partP part n to).length = part.length := by simp [partP]
theorem paste0_len {l part : List Nd} {to : Nat} (h : to ≤ l.length) : (paste0 l part to).length = l.length + part.length := by simp [paste0]; omega
theorem paste2_len {l part : List Nd} {n : Int} {to : Nat} (h : to ≤ l.length) : (paste2 l part n to).length = l.length + part.length := by simp [paste2, partP_len]; omega
theorem pasteF_len {l part : List Nd} {n : Int} {to : Nat} (h : to ≤ l.length) : (pasteF l part n to).length = l.length + part.length := by simp [pasteF, partP_len]; omega
theorem paste0_mem {l part : List Nd} {to : Nat} (hl : ParM l) (hp : ParM part) : ParM (paste0 l part to) := fun x hx => by
  simp -implicitDefEqProofs only [paste0, List.mem_append] at hx
  rcases hx with (hx | hx) | hx
  · exact hl x (List.mem_of_mem_take hx)
  · exact hp x hx
  · exact hl x (List.mem_of_mem_drop hx)
theorem mapTo_par {f : Nd → Nd} {l part : List Nd} {to : Nat} (h : to ≤ l.length) : mapTo f to (paste0 l part to) (to + part.length) = l.take to ++ part.map f ++ l.drop to := by
  have h1 : (l.take to).length = to := by simp; omega
  have e1 : (paste0 l part to).take to = l.take to := by
    simp -implicitDefEqProofs only [paste0, List.append_assoc]
    rw [List.take_append_of_le_length (by omega), List.take_of_length_le (by omega)]
  have h2 : (l.take to ++ part).length = to + part.length := by simp; omega
  have e2 : (paste0 l part to).take (to + part.length) = l.take to ++ part := by
    simp -implicitDefEqProofs only [paste0]
    rw [List.take_append_of_le_length (by omega), List.take_of_length_le (by omega)]
  have e3 : (paste0 l part to).drop (to + part.length) = l.drop to := by
    simp -implicitDefEqProofs only [paste0]
    rw [List.drop_append_of_le_length (by omega), List.drop_of_length_le (by omega)]; rfl
  have e4 : (l.take to ++ part).drop to = part := by
    rw [List.drop_append_of_le_length (by omega), List.drop_of_length_le (by omega)]; rfl
  simp -implicitDefEqProofs only [mapTo, e1, e2, e3, e4]
theorem set_part {f : Nd → Nd} {l part : List Nd} {to : Nat} (h : to ≤ l.length) (h0 : 0 < part.length) (x : Nd) : (l.take to ++ part.map f ++ l.drop to).set to x = l.take to ++ (part.map f).set 0 x ++ l.drop to := by
  have h1 : (l.take to).length = to := by simp; omega
  rw [List.append_assoc, List.set_append_right _ _ (by omega), h1, Nat.sub_self, List.set_append_left _ _ (by simpa using h0), List.append_assoc]
theorem get_part {f : Nd → Nd} {l part : List Nd} {to : Nat} (h : to ≤ l.length) (h0 : 0 < part.length) : ∃ hh : to < (l.take to ++ part.map f ++ l.drop to).length, (l.take to ++ part.map f ++ l.drop to)[to]'hh = f (part.headD default) := by
  have h1 : (l.take to).length = to := by simp; omega
  have h2 : (l.take to ++ part.map f ++ l.drop to)[to]? = some (f (part.headD default)) := by
    rw [List.append_assoc, List.getElem?_append_right (by omega), h1, Nat.sub_self]
    cases part with
    | nil => simp at h0
    | cons x r => rfl
  exact List.getElem?_eq_some_iff.1 h2
theorem paste_full {l part : List Nd} {n : Int} {to : Nat} (h : to ≤ l.length) {g : Nd → Nd} : mapTo g (to + part.length) (paste2 l part n to) (l.length + part.length) = l.take to ++ partP part n to ++ (l.drop to).map g := by
  rw [← paste2_len (n := n) h, mapTo_full]
  have h2 : (l.take to ++ partP part n to).length = to + part.length := by simp [partP_len]; omega
  have e1 : (paste2 l part n to).take (to + part.length) = l.take to ++ partP part n to := by
    simp -implicitDefEqProofs only [paste2]
    rw [List.take_append_of_le_length (by omega), List.take_of_length_le (by omega)]
  have e2 : (paste2 l part n to).drop (to + part.length) = l.drop to := by
    simp -implicitDefEqProofs only [paste2]
    rw [List.drop_append_of_le_length (by omega), List.drop_of_length_le (by omega)]; rfl
  rw [e1, e2]

set_option maxHeartbeats 2000000 in
theorem sp_paste (l part : List Nd) (hb : l.length ≤ 1073741824) (hpb : part.length ≤ 1073741824) (h0 : 0 < part.length) (hl : ParM l) (hp : ParM part) (n : Nat) (hn : n ≤ 1073741824) (at' : Nat) (ha : at' ≤ 8589934592) (hto : placeF l n at' ≤ l.length) (m : Nat) :
    CallR Go.Proofs.Try.prog 88 [.rv (.sl 49 (ndL l)), .rv (.sl 49 (ndL part)), .rv (.int .i64 n), .rv (.int .i64 at')] [] [(m, .row 49 3 (rvs (ndL (pasteF l part n (placeF l n at')))))] (.row m 3 (l.length + part.length)) := by
  refine callR_M k_edit_paste [] [] [] [.rv (.sl 49 (ndL l)), .rv (.sl 49 (ndL part)), .rv (.int .i64 n), .rv (.int .i64 at')] [.rv (.sl 49 (ndL l)), .rv (.sl 49 (ndL part)), .rv (.int .i64 n), .rv (.int .i64 at')] _ _ (by simp) (by simp [BkAll, bk_ptr, bk_row, bk_rv, bk_agg, bk_ifc, bk_fn, bk_tup, bk_dead, BkHs, rvs_inj, nodupL]) rfl (by simp [nodupL]) (by simp [BkHs]) (fun K hK => ?_)
  have hlen := ndL_len l
  have hplen := ndL_len part
  have hpl := sp_place l hb n at' hn ha
  generalize placeF l n at' = to at *
  have hol := paste0_len (part := part) hto
  have hdr : (ndL l).drop to = ndL (l.drop to) := ndL_drop
  have hcc : CallR Go.Proofs.Try.prog 109 [.row 0 0 3] [(0, .row 1 0 [[.rv (.sl 49 (ndL (l.take to)))], [.rv (.sl 49 (ndL part))], [.rv (.sl 49 (ndL (l.drop to)))]])] [(1, .row 49 3 (rvs (ndL (paste0 l part to))))] (.row 1 3 (l.length + part.length)) := by
    have e : [ndL (l.take to), ndL part, ndL (l.drop to)].flatten = ndL (paste0 l part to) := by simp [ndL, paste0]
    have e2 := ndL_len (paste0 l part to)
    have := sp_Concat [ndL (l.take to), ndL part, ndL (l.drop to)] (by simp) (by rw [e, e2]; omega) (by rw [e, e2]; omega) 0 0 1 (by decide)
    rw [e, e2, hol] at this
    exact this
  have wtp : IntKind.i64.wrap ((to : Int) + (part.length : Int)) = ((to + part.length : Nat) : Int) := by rw [wrap_i64 (by omega) (by omega)]; omega
  simp -implicitDefEqProofs only [c_edit_paste, go_sem, ↓reduceIte, Nat.reduceEqDiff, Nat.reduceAdd, Nat.reduceSub, Nat.reduceMul, Nat.reduceLeDiff, Nat.reduceLT, reduceCtorEq, Int.reduceToNat]
  have hcall1 := hpl; have hcall2 := hcc; repeat' (first | (simp -implicitDefEqProofs only [go_sem, ↓reduceIte, Nat.reduceEqDiff, Nat.reduceAdd, Nat.reduceSub, Nat.reduceMul, Nat.reduceLeDiff, Nat.reduceLT, reduceCtorEq, Int.reduceToNat, hlen, hplen, ndL_take, List.take_length, hdr]) | (with_reducible refine g_noent ?_) | (with_reducible refine g_call0 hcall1 ?_) | (with_reducible refine g_calld0 hcall1 ?_) | (refine g_call hcall2 (by simp [PreOK, hget]; done) (by simp [okU, uph]; done) ?_) | (refine g_calld hcall2 (by simp [PreOK, hget]; done) (by simp [okU, uph]; done) ?_) | (refine cdS (fun hg => ?_) (fun hg => ?_) <;> try simp -implicitDefEqProofs only [hg, Bool.not_true, Bool.not_false]) | (refine gdS (fun hg => ?_) (fun hg => ?_) <;> try simp -implicitDefEqProofs only [hg, Bool.not_true, Bool.not_false]) | (refine gddS (fun hg => ?_) (fun hg => ?_) <;> try simp -implicitDefEqProofs only [hg, Bool.not_true, Bool.not_false]) | ((with_reducible apply And.intro); focus (first | trivial | omega | decide | (simp -implicitDefEqProofs only [maxLen]; omega) | (simp [maxLen, sty_len, nd_len, ndL_len, lnL_len, intsL_len, rvs_len, lensS_len]; done) | (simp [maxLen, sty_len, nd_len, ndL_len, lnL_len, intsL_len, rvs_len, lensS_len]; omega))) | fail)
  refine g_loop (ι := Nat) (fun k => [(11, .rv (.int .i64 k)), (10, .row 1 3 (l.length + part.length)), (9, .rv (.int .i64 to)), (1, .rv (.sl 49 (ndL part))), (2, .rv (.int .i64 n))]) (fun k => [some (.row 1 0 [[.rv (.sl 49 (ndL (l.take to)))], [.rv (.sl 49 (ndL part))], [.rv (.sl 49 (ndL (l.drop to)))]]), some (.row 49 3 (rvs (ndL (mapTo (addN to) to (paste0 l part to) k))))]) (fun k => to ≤ k ∧ k ≤ to + part.length) (fun k => to + part.length - k) to ⟨Nat.le_refl _, by omega⟩ (by rw [mapTo_zero]; exact ent_env (by simp [lk])) (fun k hk K' hN hX hR => ?_)
  obtain ⟨hk1, hk2⟩ := hk
  have hml := mapTo_len (f := addN to) (zs := paste0 l part to) hk1 (by omega)
  have hml2 := ndL_len (mapTo (addN to) to (paste0 l part to) k)
  simp -implicitDefEqProofs only [go_sem, ↓reduceIte, Nat.reduceEqDiff, Nat.reduceAdd, Nat.reduceSub, Nat.reduceMul, Nat.reduceLeDiff, Nat.reduceLT, reduceCtorEq, Int.reduceToNat]
  repeat' (first | (simp -implicitDefEqProofs only [go_sem, ↓reduceIte, Nat.reduceEqDiff, Nat.reduceAdd, Nat.reduceSub, Nat.reduceMul, Nat.reduceLeDiff, Nat.reduceLT, reduceCtorEq, Int.reduceToNat, hplen, wtp]) | (with_reducible refine g_noent ?_) | (refine cdS (fun hg => ?_) (fun hg => ?_) <;> try simp -implicitDefEqProofs only [hg, Bool.not_true, Bool.not_false]) | (refine gdS (fun hg => ?_) (fun hg => ?_) <;> try simp -implicitDefEqProofs only [hg, Bool.not_true, Bool.not_false]) | (refine gddS (fun hg => ?_) (fun hg => ?_) <;> try simp -implicitDefEqProofs only [hg, Bool.not_true, Bool.not_false]) | ((with_reducible apply And.intro); focus (first | trivial | omega | decide | (simp -implicitDefEqProofs only [maxLen]; omega) | (simp [maxLen, sty_len, nd_len, ndL_len, lnL_len, intsL_len, rvs_len, lensS_len]; done) | (simp [maxLen, sty_len, nd_len, ndL_len, lnL_len, intsL_len, rvs_len, lensS_len]; omega))) | fail)
  · have hk4 : k < to + part.length := by simp at hg; omega
    have hk5 : k < (paste0 l part to).length := by omega
    have wu := wrap_up (k := k) (by omega)
    have hx := ndL_get (l := mapTo (addN to) to (paste0 l part to) k) (i := k) (by omega)
    rw [mapTo_at hk1 hk5] at hx
    have hset := mapTo_set (f := addN to) hk1 hk5
    have hb2 := paste0_mem (to := to) hl hp _ (List.getElem_mem hk5)
    generalize (paste0 l part to)[k]'hk5 = x at *
    have hxp := nd_atp x
    have ws : IntKind.i64.wrap (x.parent + (to : Int)) = x.parent + to := wrap_i64 (by omega) (by omega)
    have hsub : (Nd.mk x.s (x.parent + to)) = addN to x := rfl
    repeat' (first | (simp -implicitDefEqProofs only [go_sem, ↓reduceIte, Nat.reduceEqDiff, Nat.reduceAdd, Nat.reduceSub, Nat.reduceMul, Nat.reduceLeDiff, Nat.reduceLT, reduceCtorEq, Int.reduceToNat, hx, hml, hml2, hol, nd_len, hxp, ws, nd_setpE, ndL_setE, hsub, hset, wu]) | (with_reducible refine g_noent ?_) | (refine cdS (fun hg => ?_) (fun hg => ?_) <;> try simp -implicitDefEqProofs only [hg, Bool.not_true, Bool.not_false]) | (refine gdS (fun hg => ?_) (fun hg => ?_) <;> try simp -implicitDefEqProofs only [hg, Bool.not_true, Bool.not_false]) | (refine gddS (fun hg => ?_) (fun hg => ?_) <;> try simp -implicitDefEqProofs only [hg, Bool.not_true, Bool.not_false]) | ((with_reducible apply And.intro); focus (first | trivial | omega | decide | (simp -implicitDefEqProofs only [maxLen]; omega) | (simp [maxLen, sty_len, nd_len, ndL_len, lnL_len, intsL_len, rvs_len, lensS_len]; done) | (simp [maxLen, sty_len, nd_len, ndL_len, lnL_len, intsL_len, rvs_len, lensS_len]; omega))) | fail)
    exact hN (k + 1) _ _ ⟨by omega, by omega⟩ (by omega) (ent_env (by simp [lk]))
  · have hk4 : k = to + part.length := by simp at hg; omega
    subst hk4
    refine hX _ _ _ ?_
    rw [mapTo_par hto]
    rw [mapTo_par hto] at hml hml2
    obtain ⟨hh, hget⟩ := get_part (f := addN to) hto h0
    have hx := ndL_get (l := l.take to ++ part.map (addN to) ++ l.drop to) (i := to) hh
    rw [hget] at hx
    have hset := set_part (f := addN to) hto h0 ⟨(part.headD default).s, n⟩
    have hfold : l.take to ++ (part.map (addN to)).set 0 ⟨(part.headD default).s, n⟩ ++ l.drop to = paste2 l part n to := rfl
    have hys : (addN to (part.headD default)).s = (part.headD default).s := rfl
    generalize addN to (part.headD default) = y at *
    generalize (part.headD default).s = ys at *
    generalize l.take to ++ part.map (addN to) ++ l.drop to = o1 at *
    have hp2 := paste2_len (part := part) (n := n) hto
    repeat' (first | (simp -implicitDefEqProofs only [go_sem, ↓reduceIte, Nat.reduceEqDiff, Nat.reduceAdd, Nat.reduceSub, Nat.reduceMul, Nat.reduceLeDiff, Nat.reduceLT, reduceCtorEq, Int.reduceToNat, hx, hml, hml2, hol, nd_len, nd_setpE, hys, ndL_setE, hset, hfold, hplen, wtp]) | (with_reducible refine g_noent ?_) | (refine cdS (fun hg => ?_) (fun hg => ?_) <;> try simp -implicitDefEqProofs only [hg, Bool.not_true, Bool.not_false]) | (refine gdS (fun hg => ?_) (fun hg => ?_) <;> try simp -implicitDefEqProofs only [hg, Bool.not_true, Bool.not_false]) | (refine gddS (fun hg => ?_) (fun hg => ?_) <;> try simp -implicitDefEqProofs only [hg, Bool.not_true, Bool.not_false]) | ((with_reducible apply And.intro); focus (first | trivial | omega | decide | (simp -implicitDefEqProofs only [maxLen]; omega) | (simp [maxLen, sty_len, nd_len, ndL_len, lnL_len, intsL_len, rvs_len, lensS_len]; done) | (simp [maxLen, sty_len, nd_len, ndL_len, lnL_len, intsL_len, rvs_len, lensS_len]; omega))) | fail)
    refine g_loop (ι := Nat) (fun k => [(12, .rv (.int .i64 k)), (10, .row 1 3 (l.length + part.length)), (9, .rv (.int .i64 to)), (1, .rv (.sl 49 (ndL part)))]) (fun k => [some (.row 1 0 [[.rv (.sl 49 (ndL (l.take to)))], [.rv (.sl 49 (ndL part))], [.rv (.sl 49 (ndL (l.drop to)))]]), some (.row 49 3 (rvs (ndL (mapTo (addIf to (part.length : Nat)) (to + part.length) (paste2 l part n to) k))))]) (fun k => to + part.length ≤ k ∧ k ≤ l.length + part.length) (fun k => l.length + part.length - k) (to + part.length) ⟨Nat.le_refl _, by omega⟩ (by rw [mapTo_zero]; exact ent_env (by simp [lk])) (fun k hk K' hN hX hR => ?_)
    obtain ⟨hk1, hk2⟩ := hk
    have hml := mapTo_len (f := addIf to (part.length : Nat)) (zs := paste2 l part n to) hk1 (by omega)
    have hml2 := ndL_len (mapTo (addIf to (part.length : Nat)) (to + part.length) (paste2 l part n to) k)
    simp -implicitDefEqProofs only [go_sem, ↓reduceIte, Nat.reduceEqDiff, Nat.reduceAdd, Nat.reduceSub, Nat.reduceMul, Nat.reduceLeDiff, Nat.reduceLT, reduceCtorEq, Int.reduceToNat]
    repeat' (first | (simp -implicitDefEqProofs only [go_sem, ↓reduceIte, Nat.reduceEqDiff, Nat.reduceAdd, Nat.reduceSub, Nat.reduceMul, Nat.reduceLeDiff, Nat.reduceLT, reduceCtorEq, Int.reduceToNat]) | (with_reducible refine g_noent ?_) | (refine cdS (fun hg => ?_) (fun hg => ?_) <;> try simp -implicitDefEqProofs only [hg, Bool.not_true, Bool.not_false]) | (refine gdS (fun hg => ?_) (fun hg => ?_) <;> try simp -implicitDefEqProofs only [hg, Bool.not_true, Bool.not_false]) | (refine gddS (fun hg => ?_) (fun hg => ?_) <;> try simp -implicitDefEqProofs only [hg, Bool.not_true, Bool.not_false]) | ((with_reducible apply And.intro); focus (first | trivial | omega | decide | (simp -implicitDefEqProofs only [maxLen]; omega) | (simp [maxLen, sty_len, nd_len, ndL_len, lnL_len, intsL_len, rvs_len, lensS_len]; done) | (simp [maxLen, sty_len, nd_len, ndL_len, lnL_len, intsL_len, rvs_len, lensS_len]; omega))) | fail)
    · have hk4 : k < l.length + part.length := by simp at hg; omega
      have hk5 : k < (paste2 l part n to).length := by omega
      have wu := wrap_up (k := k) (by omega)
      have hx := ndL_get (l := mapTo (addIf to (part.length : Nat)) (to + part.length) (paste2 l part n to) k) (i := k) (by omega)
      rw [mapTo_at hk1 hk5] at hx
      have hset := mapTo_set (f := addIf to (part.length : Nat)) hk1 hk5
      have hskip := mapTo_skip (f := addIf to (part.length : Nat)) hk1 hk5
      have hb2 : -1 ≤ ((paste2 l part n to)[k]'hk5).parent ∧ ((paste2 l part n to)[k]'hk5).parent < 1099511627776 := by
        have h2 : (l.take to ++ partP part n to).length = to + part.length := by simp [partP_len]; omega
        have : (paste2 l part n to)[k]'hk5 ∈ l := by
          have e : (paste2 l part n to)[k]'hk5 = (l.drop to)[k - (to + part.length)]'(by simp; omega) := by
            have h3 : (paste2 l part n to)[k]? = some ((l.drop to)[k - (to + part.length)]'(by simp; omega)) := by
              simp -implicitDefEqProofs only [paste2]
              rw [List.getElem?_append_right (by omega), h2]
              exact List.getElem?_eq_getElem _
            exact (List.getElem?_eq_some_iff.1 h3).2
          rw [e]
          exact List.mem_of_mem_drop (List.getElem_mem _)
        exact hl _ this
      generalize (paste2 l part n to)[k]'hk5 = x at *
      have hxp := nd_atp x
      have ws : IntKind.i64.wrap (x.parent + ((part.length : Nat) : Int)) = x.parent + ((part.length : Nat) : Int) := wrap_i64 (by omega) (by omega)
      by_cases hge : x.parent ≥ (to : Int)
      · have e1 : decide (x.parent ≥ (to : Int)) = true := decide_eq_true hge
        have hsub : (Nd.mk x.s (x.parent + ((part.length : Nat) : Int))) = addIf to (part.length : Nat) x := (if_pos hge).symm
        repeat' (first | (simp -implicitDefEqProofs only [go_sem, ↓reduceIte, Nat.reduceEqDiff, Nat.reduceAdd, Nat.reduceSub, Nat.reduceMul, Nat.reduceLeDiff, Nat.reduceLT, reduceCtorEq, Int.reduceToNat, hx, hml, hml2, hp2, nd_len, hxp, ws, e1, hplen, nd_setpE, ndL_setE, hsub, hset, wu]) | (with_reducible refine g_noent ?_) | (refine cdS (fun hg => ?_) (fun hg => ?_) <;> try simp -implicitDefEqProofs only [hg, Bool.not_true, Bool.not_false]) | (refine gdS (fun hg => ?_) (fun hg => ?_) <;> try simp -implicitDefEqProofs only [hg, Bool.not_true, Bool.not_false]) | (refine gddS (fun hg => ?_) (fun hg => ?_) <;> try simp -implicitDefEqProofs only [hg, Bool.not_true, Bool.not_false]) | ((with_reducible apply And.intro); focus (first | trivial | omega | decide | (simp -implicitDefEqProofs only [maxLen]; omega) | (simp [maxLen, sty_len, nd_len, ndL_len, lnL_len, intsL_len, rvs_len, lensS_len]; done) | (simp [maxLen, sty_len, nd_len, ndL_len, lnL_len, intsL_len, rvs_len, lensS_len]; omega))) | fail)
        exact hN (k + 1) _ _ ⟨by omega, by omega⟩ (by omega) (ent_env (by simp [lk]))
      · have e1 : decide (x.parent ≥ (to : Int)) = false := decide_eq_false hge
        repeat' (first | (simp -implicitDefEqProofs only [go_sem, ↓reduceIte, Nat.reduceEqDiff, Nat.reduceAdd, Nat.reduceSub, Nat.reduceMul, Nat.reduceLeDiff, Nat.reduceLT, reduceCtorEq, Int.reduceToNat, hx, hml, hml2, hp2, nd_len, hxp, e1, wu]) | (with_reducible refine g_noent ?_) | (refine cdS (fun hg => ?_) (fun hg => ?_) <;> try simp -implicitDefEqProofs only [hg, Bool.not_true, Bool.not_false]) | (refine gdS (fun hg => ?_) (fun hg => ?_) <;> try simp -implicitDefEqProofs only [hg, Bool.not_true, Bool.not_false]) | (refine gddS (fun hg => ?_) (fun hg => ?_) <;> try simp -implicitDefEqProofs only [hg, Bool.not_true, Bool.not_false]) | ((with_reducible apply And.intro); focus (first | trivial | omega | decide | (simp -implicitDefEqProofs only [maxLen]; omega) | (simp [maxLen, sty_len, nd_len, ndL_len, lnL_len, intsL_len, rvs_len, lensS_len]; done) | (simp [maxLen, sty_len, nd_len, ndL_len, lnL_len, intsL_len, rvs_len, lensS_len]; omega))) | fail)
        refine hN (k + 1) _ _ ⟨by omega, by omega⟩ (by omega) ?_
        rw [hskip (if_neg hge)]
        exact ent_env (by simp [lk])
    · have hk4 : k = l.length + part.length := by simp at hg; omega
      subst hk4
      refine hX _ _ _ ?_
      repeat' (first | (simp -implicitDefEqProofs only [go_sem, ↓reduceIte, Nat.reduceEqDiff, Nat.reduceAdd, Nat.reduceSub, Nat.reduceMul, Nat.reduceLeDiff, Nat.reduceLT, reduceCtorEq, Int.reduceToNat]) | (with_reducible refine g_noent ?_) | (refine cdS (fun hg => ?_) (fun hg => ?_) <;> try simp -implicitDefEqProofs only [hg, Bool.not_true, Bool.not_false]) | (refine gdS (fun hg => ?_) (fun hg => ?_) <;> try simp -implicitDefEqProofs only [hg, Bool.not_true, Bool.not_false]) | (refine gddS (fun hg => ?_) (fun hg => ?_) <;> try simp -implicitDefEqProofs only [hg, Bool.not_true, Bool.not_false]) | ((with_reducible apply And.intro); focus (first | trivial | omega | decide | (simp -implicitDefEqProofs only [maxLen]; omega) | (simp [maxLen, sty_len, nd_len, ndL_len, lnL_len, intsL_len, rvs_len, lensS_len]; done) | (simp [maxLen, sty_len, nd_len, ndL_len, lnL_len, intsL_len, rvs_len, lensS_len]; omega))) | fail)
      rw [paste_full hto]
      refine (hK _ _ _ _ [none, some m] (ent_refl _ _) ?_).2
      simp [retM, nodupL, newL, allU, keptL, retP, resL, lk, resT, RnHo, lkp, finU, hget_zero, hget_succ, hget, rnRows_rvs, rn_tup, rn_rv, rn_row, rn_ptr, rn_ifc, rn_agg, rn_dead, RnAll, ofL, rnAll_map, pasteF]
end Go.Eng


/- edit: what bars a change. -/
namespace Go.Eng
open Go
/- decoupage/edit.may$1 -/
def c_edit_may_1 : AC := (.seq (.reg [⟨(some 3), .mv, [(.c (.rv (.bool false)))], none⟩]) (.seq (.reg [⟨(some 4), .mv, [(.t 0)], none⟩, ⟨(some 5), (.ibin .geq), [(.t 4), (.c (.rv (.int .i64 0)))], none⟩, ⟨(some 6), .mv, [(.t 5)], none⟩, ⟨(some 7), .mv, [(.t 0)], (some (6, true))⟩, ⟨(some 8), (.load 1 false), [(.t 1)], (some (6, true))⟩, ⟨(some 9), .len, [(.t 8)], (some (6, true))⟩, ⟨(some 10), (.ibin .lss), [(.t 7), (.t 9)], (some (6, true))⟩, ⟨(some 11), .pick, [(.t 6), (.t 10), (.c (.rv (.bool false)))], none⟩, ⟨(some 3), .mv, [(.t 11)], none⟩]) .ret))
theorem k_edit_may_1 : FnOK Go.Proofs.Try.prog 83 12 c_edit_may_1 [(.t 3)] := fnOK_of (by kernel_rfl)

/- decoupage/edit.may -/
def c_edit_may : AC := (.seq (.reg [⟨(some 2), .box, [(.t 0)], none⟩, ⟨(some 3), .box, [(.t 1)], none⟩, ⟨(some 4), .mv, [(.c (.rv (.int .i64 0)))], none⟩]) (.seq (.reg [⟨(some 9), (.load 1 false), [(.t 2)], none⟩, ⟨(some 10), (.call 17), [(.t 9)], none⟩, ⟨(some 8), .mv, [(.t 10)], none⟩, ⟨(some 11), (.ext 0), [(.t 8)], none⟩, ⟨(some 12), (.ext 1), [(.t 8)], none⟩, ⟨(some 5), .mv, [(.t 11)], none⟩, ⟨(some 6), .mv, [(.t 12)], none⟩]) (.seq (.reg [⟨(some 13), (.mkfn 83), [(.t 2)], none⟩, ⟨(some 7), .mv, [(.t 13)], none⟩]) (.seq (.seq (.block 0 (.seq (.reg [⟨(some 15), .mv, [(.t 6)], none⟩, ⟨(some 16), (.ibin .neq), [(.t 15), (.c (.rv (.int .i64 0)))], none⟩, ⟨(some 14), .mv, [(.t 16)], none⟩]) (.cond (.t 14) (.seq (.reg [⟨(some 17), .mv, [(.t 6)], none⟩, ⟨(some 4), .mv, [(.t 17)], none⟩]) .ret) (.seq (.reg [⟨(some 19), (.fld 0), [(.t 3)], none⟩, ⟨(some 20), (.load 1 false), [(.t 19)], none⟩, ⟨(some 21), (.ibin .lss), [(.t 20), (.c (.rv (.int .i64 1)))], none⟩, ⟨(some 22), .mv, [(.t 21)], none⟩, ⟨(some 23), (.fld 0), [(.t 3)], (some (22, false))⟩, ⟨(some 24), (.load 1 false), [(.t 23)], (some (22, false))⟩, ⟨(some 25), (.ibin .gtr), [(.t 24), (.c (.rv (.int .i64 4)))], (some (22, false))⟩, ⟨(some 26), .pick, [(.t 22), (.c (.rv (.bool true))), (.t 25)], none⟩, ⟨(some 18), .mv, [(.t 26)], none⟩]) (.cond (.t 18) (.seq (.reg [⟨(some 4), .mv, [(.c (.rv (.int .i64 1)))], none⟩]) .ret) (.seq (.reg [⟨(some 28), .mv, [(.t 7)], none⟩, ⟨(some 29), (.fld 1), [(.t 3)], none⟩, ⟨(some 30), (.load 1 false), [(.t 29)], none⟩, ⟨(some 31), .callv, [(.t 28), (.t 30)], none⟩, ⟨(some 32), .not, [(.t 31)], none⟩, ⟨(some 33), .mv, [(.t 32)], none⟩, ⟨(some 34), (.fld 0), [(.t 3)], (some (33, false))⟩, ⟨(some 35), (.load 1 false), [(.t 34)], (some (33, false))⟩, ⟨(some 36), (.ibin .eql), [(.t 35), (.c (.rv (.int .i64 4)))], (some (33, false))⟩, ⟨(some 37), .mv, [(.t 36)], (some (33, false))⟩, ⟨(some 38), .mv, [(.t 7)], (some (37, true))⟩, ⟨(some 39), (.fld 2), [(.t 3)], (some (37, true))⟩, ⟨(some 40), (.load 1 false), [(.t 39)], (some (37, true))⟩, ⟨(some 41), .callv, [(.t 38), (.t 40)], (some (37, true))⟩, ⟨(some 42), .not, [(.t 41)], (some (37, true))⟩, ⟨(some 43), .pick, [(.t 37), (.t 42), (.c (.rv (.bool false)))], (some (33, false))⟩, ⟨(some 44), .pick, [(.t 33), (.c (.rv (.bool true))), (.t 43)], none⟩, ⟨(some 27), .mv, [(.t 44)], none⟩]) (.cond (.t 27) (.seq (.reg [⟨(some 4), .mv, [(.c (.rv (.int .i64 5)))], none⟩]) .ret) (.seq (.seq (.reg [⟨(some 46), (.fld 0), [(.t 3)], none⟩, ⟨(some 47), (.load 1 false), [(.t 46)], none⟩, ⟨(some 48), (.ibin .eql), [(.t 47), (.c (.rv (.int .i64 2)))], none⟩, ⟨(some 49), .mv, [(.t 48)], none⟩, ⟨(some 50), (.fld 0), [(.t 3)], (some (49, false))⟩, ⟨(some 51), (.load 1 false), [(.t 50)], (some (49, false))⟩, ⟨(some 52), (.ibin .eql), [(.t 51), (.c (.rv (.int .i64 4)))], (some (49, false))⟩, ⟨(some 53), .pick, [(.t 49), (.c (.rv (.bool true))), (.t 52)], none⟩, ⟨(some 54), .mv, [(.t 53)], none⟩, ⟨(some 55), (.fld 1), [(.t 3)], (some (54, true))⟩, ⟨(some 56), (.load 1 false), [(.t 55)], (some (54, true))⟩, ⟨(some 57), (.ibin .eql), [(.t 56), (.c (.rv (.int .i64 0)))], (some (54, true))⟩, ⟨(some 58), .pick, [(.t 54), (.t 57), (.c (.rv (.bool false)))], none⟩, ⟨(some 45), .mv, [(.t 58)], none⟩]) (.seq (.cond (.t 45) .skip (.seq (.reg [⟨(some 59), (.fld 0), [(.t 3)], none⟩, ⟨(some 60), (.load 1 false), [(.t 59)], none⟩, ⟨(some 61), (.ibin .eql), [(.t 60), (.c (.rv (.int .i64 4)))], none⟩, ⟨(some 62), .mv, [(.t 61)], none⟩, ⟨(some 63), .mv, [(.t 5)], (some (62, true))⟩, ⟨(some 64), (.fld 1), [(.t 3)], (some (62, true))⟩, ⟨(some 65), (.load 1 false), [(.t 64)], (some (62, true))⟩, ⟨(some 66), (.fld 2), [(.t 3)], (some (62, true))⟩, ⟨(some 67), (.load 1 false), [(.t 66)], (some (62, true))⟩, ⟨(some 68), (.call 84), [(.t 63), (.t 65), (.t 67)], (some (62, true))⟩, ⟨(some 69), .pick, [(.t 62), (.t 68), (.c (.rv (.bool false)))], none⟩, ⟨(some 45), .mv, [(.t 69)], none⟩]) (.seq (.cond (.t 45) .skip (.reg [⟨(some 70), (.fld 0), [(.t 3)], none⟩, ⟨(some 71), (.load 1 false), [(.t 70)], none⟩, ⟨(some 72), (.ibin .eql), [(.t 71), (.c (.rv (.int .i64 1)))], none⟩, ⟨(some 73), .mv, [(.t 72)], none⟩, ⟨(some 74), (.fld 0), [(.t 3)], (some (73, false))⟩, ⟨(some 75), (.load 1 false), [(.t 74)], (some (73, false))⟩, ⟨(some 76), (.ibin .eql), [(.t 75), (.c (.rv (.int .i64 3)))], (some (73, false))⟩, ⟨(some 77), .pick, [(.t 73), (.c (.rv (.bool true))), (.t 76)], none⟩, ⟨(some 78), .mv, [(.t 77)], none⟩, ⟨(some 79), (.fld 4), [(.t 3)], (some (78, true))⟩, ⟨(some 80), (.load 48 true), [(.t 79)], (some (78, true))⟩, ⟨(some 81), (.call 85), [(.t 80)], (some (78, true))⟩, ⟨(some 82), .not, [(.t 81)], (some (78, true))⟩, ⟨(some 83), .pick, [(.t 78), (.t 82), (.c (.rv (.bool false)))], none⟩, ⟨(some 45), .mv, [(.t 83)], none⟩])) .ent))) .ent)) (.cond (.t 45) (.seq (.reg [⟨(some 4), .mv, [(.c (.rv (.int .i64 1)))], none⟩]) .ret) .skip))))))))) .ent) (.seq (.reg [⟨(some 4), .mv, [(.c (.rv (.int .i64 0)))], none⟩]) .ret)))))
theorem k_edit_may : FnOK Go.Proofs.Try.prog 59 84 c_edit_may [(.t 4)] := fnOK_of (by kernel_rfl)


structure Opv where
  kind : Int
  n : Int
  to : Int
  at' : Int
  s : Sty
  deriving DecidableEq, Inhabited
def Opv.cells (o : Opv) : List RV := [.int .i64 o.kind, .int .i64 o.n, .int .i64 o.to, .int .i64 o.at'] ++ o.s.cells
theorem opv_len (o : Opv) : o.cells.length = 52 := rfl
theorem opv_at0 (o : Opv) : (o.cells.map SV.rv)[0]? = some (.rv (.int .i64 o.kind)) := rfl
theorem opv_at1 (o : Opv) : (o.cells.map SV.rv)[1]? = some (.rv (.int .i64 o.n)) := rfl
theorem opv_at2 (o : Opv) : (o.cells.map SV.rv)[2]? = some (.rv (.int .i64 o.to)) := rfl
theorem opv_at3 (o : Opv) : (o.cells.map SV.rv)[3]? = some (.rv (.int .i64 o.at')) := rfl
theorem opv_s (o : Opv) : ((o.cells.map SV.rv).drop 4).take 48 = o.s.cells.map SV.rv := rfl
theorem opv_all (o : Opv) : (o.cells.map SV.rv).take 52 = o.cells.map SV.rv := rfl
theorem opv_all0 (o : Opv) : ((o.cells.map SV.rv).drop 0).take 52 = o.cells.map SV.rv := rfl

def mayF (l : List Nd) (o : Opv) : Int :=
  if chk l ≠ 0 then chk l else
  if o.kind < 1 ∨ o.kind > 4 then 1 else
  if inL l o.n = false ∨ (o.kind = 4 ∧ inL l o.to = false) then 5 else
  if ((o.kind = 2 ∨ o.kind = 4) ∧ o.n = 0) ∨ (o.kind = 4 ∧ belowAt l o.n o.to = true) ∨ ((o.kind = 1 ∨ o.kind = 3) ∧ styOK o.s = false) then 1 else 0

theorem sp_may_1 (l : List Nd) (n : Int) (j : Nat) : CallR Go.Proofs.Try.prog 83 [.rv (.int .i64 n), .ptr j 0] [(j, .var [.rv (.sl 49 (ndL l))])] [] (.rv (.bool (inL l n))) := by
  refine callR_M k_edit_may_1 [j] [.var [.rv (.sl 49 (ndL l))]] [.var [.rv (.sl 49 (ndL l))]] [.rv (.int .i64 n), .ptr 0 0] [.rv (.int .i64 n), .ptr j 0] _ _ (by simp) (by simp [BkAll, bk_ptr, bk_row, bk_rv, bk_agg, bk_ifc, bk_fn, bk_tup, bk_dead, BkHs, rvs_inj, nodupL]) rfl (by simp [nodupL]) (by simp [BkAll, bk_ptr, bk_row, bk_rv, bk_agg, bk_ifc, bk_fn, bk_tup, bk_dead, BkHs, rvs_inj, nodupL]) (fun K hK => ?_)
  have hlen := ndL_len l
  simp -implicitDefEqProofs only [c_edit_may_1, go_sem, ↓reduceIte, Nat.reduceEqDiff, Nat.reduceAdd, Nat.reduceSub, Nat.reduceMul, Nat.reduceLeDiff, Nat.reduceLT, reduceCtorEq, Int.reduceToNat]
  unfold inL at hK
  cases e1 : decide (n ≥ 0) with
  | true =>
    rw [e1] at hK
    repeat' (first | (simp -implicitDefEqProofs only [go_sem, ↓reduceIte, Nat.reduceEqDiff, Nat.reduceAdd, Nat.reduceSub, Nat.reduceMul, Nat.reduceLeDiff, Nat.reduceLT, reduceCtorEq, Int.reduceToNat, hlen, e1]) | (with_reducible refine g_noent ?_) | (refine cdS (fun hg => ?_) (fun hg => ?_) <;> try simp -implicitDefEqProofs only [hg, Bool.not_true, Bool.not_false]) | (refine gdS (fun hg => ?_) (fun hg => ?_) <;> try simp -implicitDefEqProofs only [hg, Bool.not_true, Bool.not_false]) | (refine gddS (fun hg => ?_) (fun hg => ?_) <;> try simp -implicitDefEqProofs only [hg, Bool.not_true, Bool.not_false]) | ((with_reducible apply And.intro); focus (first | trivial | omega | decide | (simp -implicitDefEqProofs only [maxLen]; omega) | (simp [maxLen, sty_len, nd_len, ndL_len, lnL_len, intsL_len, rvs_len, lensS_len]; done) | (simp [maxLen, sty_len, nd_len, ndL_len, lnL_len, intsL_len, rvs_len, lensS_len]; omega))) | fail)
    refine (hK _ _ _ _ [] (ent_refl _ _) ?_).2
    simp [retM, nodupL, newL, allU, keptL, retP, resL, lk, resT, RnHo, lkp, finU, hget_zero, hget_succ, hget, rnRows_rvs, rn_tup, rn_rv, rn_row, rn_ptr, rn_ifc, rn_agg, rn_dead, RnAll, ofL, rnAll_map]
  | false =>
    rw [e1] at hK
    repeat' (first | (simp -implicitDefEqProofs only [go_sem, ↓reduceIte, Nat.reduceEqDiff, Nat.reduceAdd, Nat.reduceSub, Nat.reduceMul, Nat.reduceLeDiff, Nat.reduceLT, reduceCtorEq, Int.reduceToNat, hlen, e1]) | (with_reducible refine g_noent ?_) | (refine cdS (fun hg => ?_) (fun hg => ?_) <;> try simp -implicitDefEqProofs only [hg, Bool.not_true, Bool.not_false]) | (refine gdS (fun hg => ?_) (fun hg => ?_) <;> try simp -implicitDefEqProofs only [hg, Bool.not_true, Bool.not_false]) | (refine gddS (fun hg => ?_) (fun hg => ?_) <;> try simp -implicitDefEqProofs only [hg, Bool.not_true, Bool.not_false]) | ((with_reducible apply And.intro); focus (first | trivial | omega | decide | (simp -implicitDefEqProofs only [maxLen]; omega) | (simp [maxLen, sty_len, nd_len, ndL_len, lnL_len, intsL_len, rvs_len, lensS_len]; done) | (simp [maxLen, sty_len, nd_len, ndL_len, lnL_len, intsL_len, rvs_len, lensS_len]; omega))) | fail)
    refine (hK _ _ _ _ [] (ent_refl _ _) ?_).2
    simp [retM, nodupL, newL, allU, keptL, retP, resL, lk, resT, RnHo, lkp, finU, hget_zero, hget_succ, hget, rnRows_rvs, rn_tup, rn_rv, rn_row, rn_ptr, rn_ifc, rn_agg, rn_dead, RnAll, ofL, rnAll_map]

set_option maxRecDepth 20000 in
set_option maxHeartbeats 4000000 in
theorem sp_may (l : List Nd) (hb : l.length ≤ 8589934592) (o : Opv) : CallR Go.Proofs.Try.prog 59 [.rv (.sl 49 (ndL l)), .agg (o.cells.map .rv)] [] [] (.rv (.int .i64 (mayF l o))) := by
  refine callR_G k_edit_may [.rv (.sl 49 (ndL l)), .agg (o.cells.map .rv)] _ (by simp) (by simp [BkAll, bk_agg, bkAll_map, bk_rv, bk_fn, Sty.sv, Ln.sv, Nd.sv]) (fun K hK => ?_)
  have hlen := ndL_len l
  have e00 : ((0 : Int) != 0) = false := rfl
  simp -implicitDefEqProofs only [c_edit_may, go_sem, ↓reduceIte, Nat.reduceEqDiff, Nat.reduceAdd, Nat.reduceSub, Nat.reduceMul, Nat.reduceLeDiff, Nat.reduceLT, reduceCtorEq, Int.reduceToNat]
  by_cases hc : chk l = 0
  · have hko := sp_kin_Of l hb hc
    have m1 := sp_may_1 l o.n 0
    have m2 := sp_may_1 l o.to 0
    have k0 := opv_at0 o
    by_cases hk1 : o.kind < 1
    · have e1 : decide (o.kind < 1) = true := decide_eq_true hk1
      rw [show mayF l o = 1 by simp [mayF, hc, hk1]] at hK
      have hcall1 := hko; repeat' (first | (simp -implicitDefEqProofs only [go_sem, ↓reduceIte, Nat.reduceEqDiff, Nat.reduceAdd, Nat.reduceSub, Nat.reduceMul, Nat.reduceLeDiff, Nat.reduceLT, reduceCtorEq, Int.reduceToNat, opv_len, e00, opv_at0, e1]) | (with_reducible refine g_noent ?_) | (with_reducible refine g_call0 hcall1 ?_) | (with_reducible refine g_calld0 hcall1 ?_) | (refine cdS (fun hg => ?_) (fun hg => ?_) <;> try simp -implicitDefEqProofs only [hg, Bool.not_true, Bool.not_false]) | (refine gdS (fun hg => ?_) (fun hg => ?_) <;> try simp -implicitDefEqProofs only [hg, Bool.not_true, Bool.not_false]) | (refine gddS (fun hg => ?_) (fun hg => ?_) <;> try simp -implicitDefEqProofs only [hg, Bool.not_true, Bool.not_false]) | ((with_reducible apply And.intro); focus (first | trivial | omega | decide | (simp -implicitDefEqProofs only [maxLen]; omega) | (simp [maxLen, sty_len, nd_len, ndL_len, lnL_len, intsL_len, rvs_len, lensS_len]; done) | (simp [maxLen, sty_len, nd_len, ndL_len, lnL_len, intsL_len, rvs_len, lensS_len]; omega))) | fail)
      exact (hK _ _ (ret_t rfl)).2
    · have e1 : decide (o.kind < 1) = false := decide_eq_false hk1
      by_cases hk4 : o.kind > 4
      · have e2 : decide (o.kind > 4) = true := decide_eq_true hk4
        rw [show mayF l o = 1 by simp [mayF, hc, hk4]] at hK
        have hcall2 := hko; repeat' (first | (simp -implicitDefEqProofs only [go_sem, ↓reduceIte, Nat.reduceEqDiff, Nat.reduceAdd, Nat.reduceSub, Nat.reduceMul, Nat.reduceLeDiff, Nat.reduceLT, reduceCtorEq, Int.reduceToNat, opv_len, e00, opv_at0, e1, e2]) | (with_reducible refine g_noent ?_) | (with_reducible refine g_call0 hcall2 ?_) | (with_reducible refine g_calld0 hcall2 ?_) | (refine cdS (fun hg => ?_) (fun hg => ?_) <;> try simp -implicitDefEqProofs only [hg, Bool.not_true, Bool.not_false]) | (refine gdS (fun hg => ?_) (fun hg => ?_) <;> try simp -implicitDefEqProofs only [hg, Bool.not_true, Bool.not_false]) | (refine gddS (fun hg => ?_) (fun hg => ?_) <;> try simp -implicitDefEqProofs only [hg, Bool.not_true, Bool.not_false]) | ((with_reducible apply And.intro); focus (first | trivial | omega | decide | (simp -implicitDefEqProofs only [maxLen]; omega) | (simp [maxLen, sty_len, nd_len, ndL_len, lnL_len, intsL_len, rvs_len, lensS_len]; done) | (simp [maxLen, sty_len, nd_len, ndL_len, lnL_len, intsL_len, rvs_len, lensS_len]; omega))) | fail)
        exact (hK _ _ (ret_t rfl)).2
      · have e2 : decide (o.kind > 4) = false := decide_eq_false hk4
        cases hin : inL l o.n with
        | false =>
          rw [hin] at m1
          rw [show mayF l o = 5 by simp [mayF, hc, hk1, hk4, hin]] at hK
          have hcall3 := hko; have hcall4 := m1; repeat' (first | (simp -implicitDefEqProofs only [go_sem, ↓reduceIte, Nat.reduceEqDiff, Nat.reduceAdd, Nat.reduceSub, Nat.reduceMul, Nat.reduceLeDiff, Nat.reduceLT, reduceCtorEq, Int.reduceToNat, opv_len, e00, opv_at0, opv_at1, e1, e2]) | (with_reducible refine g_noent ?_) | (with_reducible refine g_call0 hcall3 ?_) | (with_reducible refine g_calld0 hcall3 ?_) | (refine g_call hcall4 (by simp [PreOK, hget]; done) (by simp [okU, uph]; done) ?_) | (refine g_calld hcall4 (by simp [PreOK, hget]; done) (by simp [okU, uph]; done) ?_) | (refine cdS (fun hg => ?_) (fun hg => ?_) <;> try simp -implicitDefEqProofs only [hg, Bool.not_true, Bool.not_false]) | (refine gdS (fun hg => ?_) (fun hg => ?_) <;> try simp -implicitDefEqProofs only [hg, Bool.not_true, Bool.not_false]) | (refine gddS (fun hg => ?_) (fun hg => ?_) <;> try simp -implicitDefEqProofs only [hg, Bool.not_true, Bool.not_false]) | ((with_reducible apply And.intro); focus (first | trivial | omega | decide | (simp -implicitDefEqProofs only [maxLen]; omega) | (simp [maxLen, sty_len, nd_len, ndL_len, lnL_len, intsL_len, rvs_len, lensS_len]; done) | (simp [maxLen, sty_len, nd_len, ndL_len, lnL_len, intsL_len, rvs_len, lensS_len]; omega))) | fail)
          exact (hK _ _ (ret_t rfl)).2
        | true =>
          rw [hin] at m1
          have hfm := sp_style_Formed o.s
          simp -implicitDefEqProofs only [Sty.sv] at hfm
          have hbl := sp_Below l o.to o.n
          by_cases hk : o.kind = 4
          · have f1 : (o.kind == 4) = true := by simp [hk]
            have f2 : (o.kind == 2) = false := by simp [hk]
            have f3 : (o.kind == 1) = false := by simp [hk]
            have f4 : (o.kind == 3) = false := by simp [hk]
            cases hit : inL l o.to with
            | false =>
              rw [hit] at m2
              rw [show mayF l o = 5 by simp [mayF, hc, hk, hin, hit]] at hK
              have hcall5 := hko; have hcall6 := m1; have hcall7 := m2; repeat' (first | (simp -implicitDefEqProofs only [go_sem, ↓reduceIte, Nat.reduceEqDiff, Nat.reduceAdd, Nat.reduceSub, Nat.reduceMul, Nat.reduceLeDiff, Nat.reduceLT, reduceCtorEq, Int.reduceToNat, opv_len, e00, opv_at0, opv_at1, opv_at2, e1, e2, f1]) | (with_reducible refine g_noent ?_) | (with_reducible refine g_call0 hcall5 ?_) | (with_reducible refine g_calld0 hcall5 ?_) | (refine g_call hcall6 (by simp [PreOK, hget]; done) (by simp [okU, uph]; done) ?_) | (refine g_calld hcall6 (by simp [PreOK, hget]; done) (by simp [okU, uph]; done) ?_) | (refine g_call hcall7 (by simp [PreOK, hget]; done) (by simp [okU, uph]; done) ?_) | (refine g_calld hcall7 (by simp [PreOK, hget]; done) (by simp [okU, uph]; done) ?_) | (refine cdS (fun hg => ?_) (fun hg => ?_) <;> try simp -implicitDefEqProofs only [hg, Bool.not_true, Bool.not_false]) | (refine gdS (fun hg => ?_) (fun hg => ?_) <;> try simp -implicitDefEqProofs only [hg, Bool.not_true, Bool.not_false]) | (refine gddS (fun hg => ?_) (fun hg => ?_) <;> try simp -implicitDefEqProofs only [hg, Bool.not_true, Bool.not_false]) | ((with_reducible apply And.intro); focus (first | trivial | omega | decide | (simp -implicitDefEqProofs only [maxLen]; omega) | (simp [maxLen, sty_len, nd_len, ndL_len, lnL_len, intsL_len, rvs_len, lensS_len]; done) | (simp [maxLen, sty_len, nd_len, ndL_len, lnL_len, intsL_len, rvs_len, lensS_len]; omega))) | fail)
              exact (hK _ _ (ret_t rfl)).2
            | true =>
              rw [hit] at m2
              cases h0 : (o.n == 0) with
              | true =>
                rw [show mayF l o = 1 by simp at h0; simp [mayF, hc, hk, h0]; simp [← h0, hin, hit]] at hK
                have hcall8 := hko; have hcall9 := m1; have hcall10 := m2; repeat' (first | (simp -implicitDefEqProofs only [go_sem, ↓reduceIte, Nat.reduceEqDiff, Nat.reduceAdd, Nat.reduceSub, Nat.reduceMul, Nat.reduceLeDiff, Nat.reduceLT, reduceCtorEq, Int.reduceToNat, opv_len, e00, opv_at0, opv_at1, opv_at2, e1, e2, f1, f2, h0]) | (with_reducible refine g_noent ?_) | (with_reducible refine g_call0 hcall8 ?_) | (with_reducible refine g_calld0 hcall8 ?_) | (refine g_call hcall9 (by simp [PreOK, hget]; done) (by simp [okU, uph]; done) ?_) | (refine g_calld hcall9 (by simp [PreOK, hget]; done) (by simp [okU, uph]; done) ?_) | (refine g_call hcall10 (by simp [PreOK, hget]; done) (by simp [okU, uph]; done) ?_) | (refine g_calld hcall10 (by simp [PreOK, hget]; done) (by simp [okU, uph]; done) ?_) | (refine cdS (fun hg => ?_) (fun hg => ?_) <;> try simp -implicitDefEqProofs only [hg, Bool.not_true, Bool.not_false]) | (refine gdS (fun hg => ?_) (fun hg => ?_) <;> try simp -implicitDefEqProofs only [hg, Bool.not_true, Bool.not_false]) | (refine gddS (fun hg => ?_) (fun hg => ?_) <;> try simp -implicitDefEqProofs only [hg, Bool.not_true, Bool.not_false]) | ((with_reducible apply And.intro); focus (first | trivial | omega | decide | (simp -implicitDefEqProofs only [maxLen]; omega) | (simp [maxLen, sty_len, nd_len, ndL_len, lnL_len, intsL_len, rvs_len, lensS_len]; done) | (simp [maxLen, sty_len, nd_len, ndL_len, lnL_len, intsL_len, rvs_len, lensS_len]; omega))) | fail)
                exact (hK _ _ (ret_t rfl)).2
              | false =>
                cases hbb : belowAt l o.n o.to with
                | true =>
                  rw [hbb] at hbl
                  rw [show mayF l o = 1 by simp [mayF, hc, hk, hin, hit, hbb]] at hK
                  have hcall11 := hko; have hcall12 := m1; have hcall13 := m2; have hcall14 := hbl; repeat' (first | (simp -implicitDefEqProofs only [go_sem, ↓reduceIte, Nat.reduceEqDiff, Nat.reduceAdd, Nat.reduceSub, Nat.reduceMul, Nat.reduceLeDiff, Nat.reduceLT, reduceCtorEq, Int.reduceToNat, opv_len, e00, opv_at0, opv_at1, opv_at2, e1, e2, f1, f2, h0]) | (with_reducible refine g_noent ?_) | (with_reducible refine g_call0 hcall11 ?_) | (with_reducible refine g_calld0 hcall11 ?_) | (refine g_call hcall12 (by simp [PreOK, hget]; done) (by simp [okU, uph]; done) ?_) | (refine g_calld hcall12 (by simp [PreOK, hget]; done) (by simp [okU, uph]; done) ?_) | (refine g_call hcall13 (by simp [PreOK, hget]; done) (by simp [okU, uph]; done) ?_) | (refine g_calld hcall13 (by simp [PreOK, hget]; done) (by simp [okU, uph]; done) ?_) | (with_reducible refine g_call0 hcall14 ?_) | (with_reducible refine g_calld0 hcall14 ?_) | (refine cdS (fun hg => ?_) (fun hg => ?_) <;> try simp -implicitDefEqProofs only [hg, Bool.not_true, Bool.not_false]) | (refine gdS (fun hg => ?_) (fun hg => ?_) <;> try simp -implicitDefEqProofs only [hg, Bool.not_true, Bool.not_false]) | (refine gddS (fun hg => ?_) (fun hg => ?_) <;> try simp -implicitDefEqProofs only [hg, Bool.not_true, Bool.not_false]) | ((with_reducible apply And.intro); focus (first | trivial | omega | decide | (simp -implicitDefEqProofs only [maxLen]; omega) | (simp [maxLen, sty_len, nd_len, ndL_len, lnL_len, intsL_len, rvs_len, lensS_len]; done) | (simp [maxLen, sty_len, nd_len, ndL_len, lnL_len, intsL_len, rvs_len, lensS_len]; omega))) | fail)
                  exact (hK _ _ (ret_t rfl)).2
                | false =>
                  rw [hbb] at hbl
                  rw [show mayF l o = 0 by simp at h0; simp [mayF, hc, hk, hin, hit, hbb, h0]] at hK
                  have hcall15 := hko; have hcall16 := m1; have hcall17 := m2; have hcall18 := hbl; repeat' (first | (simp -implicitDefEqProofs only [go_sem, ↓reduceIte, Nat.reduceEqDiff, Nat.reduceAdd, Nat.reduceSub, Nat.reduceMul, Nat.reduceLeDiff, Nat.reduceLT, reduceCtorEq, Int.reduceToNat, opv_len, e00, opv_at0, opv_at1, opv_at2, e1, e2, f1, f2, f3, f4, h0]) | (with_reducible refine g_noent ?_) | (with_reducible refine g_call0 hcall15 ?_) | (with_reducible refine g_calld0 hcall15 ?_) | (refine g_call hcall16 (by simp [PreOK, hget]; done) (by simp [okU, uph]; done) ?_) | (refine g_calld hcall16 (by simp [PreOK, hget]; done) (by simp [okU, uph]; done) ?_) | (refine g_call hcall17 (by simp [PreOK, hget]; done) (by simp [okU, uph]; done) ?_) | (refine g_calld hcall17 (by simp [PreOK, hget]; done) (by simp [okU, uph]; done) ?_) | (with_reducible refine g_call0 hcall18 ?_) | (with_reducible refine g_calld0 hcall18 ?_) | (refine cdS (fun hg => ?_) (fun hg => ?_) <;> try simp -implicitDefEqProofs only [hg, Bool.not_true, Bool.not_false]) | (refine gdS (fun hg => ?_) (fun hg => ?_) <;> try simp -implicitDefEqProofs only [hg, Bool.not_true, Bool.not_false]) | (refine gddS (fun hg => ?_) (fun hg => ?_) <;> try simp -implicitDefEqProofs only [hg, Bool.not_true, Bool.not_false]) | ((with_reducible apply And.intro); focus (first | trivial | omega | decide | (simp -implicitDefEqProofs only [maxLen]; omega) | (simp [maxLen, sty_len, nd_len, ndL_len, lnL_len, intsL_len, rvs_len, lensS_len]; done) | (simp [maxLen, sty_len, nd_len, ndL_len, lnL_len, intsL_len, rvs_len, lensS_len]; omega))) | fail)
                  exact (hK _ _ (ret_t rfl)).2
          · have f1 : (o.kind == 4) = false := by simp [hk]
            by_cases hk2 : o.kind = 2
            · have f2 : (o.kind == 2) = true := by simp [hk2]
              have f3 : (o.kind == 1) = false := by simp [hk2]
              have f4 : (o.kind == 3) = false := by simp [hk2]
              cases h0 : (o.n == 0) with
              | true =>
                rw [show mayF l o = 1 by simp at h0; simp [mayF, hc, hk2, h0]; simp [← h0, hin]] at hK
                have hcall19 := hko; have hcall20 := m1; repeat' (first | (simp -implicitDefEqProofs only [go_sem, ↓reduceIte, Nat.reduceEqDiff, Nat.reduceAdd, Nat.reduceSub, Nat.reduceMul, Nat.reduceLeDiff, Nat.reduceLT, reduceCtorEq, Int.reduceToNat, opv_len, e00, opv_at0, opv_at1, opv_at2, e1, e2, f1, f2, h0]) | (with_reducible refine g_noent ?_) | (with_reducible refine g_call0 hcall19 ?_) | (with_reducible refine g_calld0 hcall19 ?_) | (refine g_call hcall20 (by simp [PreOK, hget]; done) (by simp [okU, uph]; done) ?_) | (refine g_calld hcall20 (by simp [PreOK, hget]; done) (by simp [okU, uph]; done) ?_) | (refine cdS (fun hg => ?_) (fun hg => ?_) <;> try simp -implicitDefEqProofs only [hg, Bool.not_true, Bool.not_false]) | (refine gdS (fun hg => ?_) (fun hg => ?_) <;> try simp -implicitDefEqProofs only [hg, Bool.not_true, Bool.not_false]) | (refine gddS (fun hg => ?_) (fun hg => ?_) <;> try simp -implicitDefEqProofs only [hg, Bool.not_true, Bool.not_false]) | ((with_reducible apply And.intro); focus (first | trivial | omega | decide | (simp -implicitDefEqProofs only [maxLen]; omega) | (simp [maxLen, sty_len, nd_len, ndL_len, lnL_len, intsL_len, rvs_len, lensS_len]; done) | (simp [maxLen, sty_len, nd_len, ndL_len, lnL_len, intsL_len, rvs_len, lensS_len]; omega))) | fail)
                exact (hK _ _ (ret_t rfl)).2
              | false =>
                rw [show mayF l o = 0 by simp at h0; simp [mayF, hc, hk2, hin, h0]] at hK
                have hcall21 := hko; have hcall22 := m1; repeat' (first | (simp -implicitDefEqProofs only [go_sem, ↓reduceIte, Nat.reduceEqDiff, Nat.reduceAdd, Nat.reduceSub, Nat.reduceMul, Nat.reduceLeDiff, Nat.reduceLT, reduceCtorEq, Int.reduceToNat, opv_len, e00, opv_at0, opv_at1, opv_at2, e1, e2, f1, f2, f3, f4, h0]) | (with_reducible refine g_noent ?_) | (with_reducible refine g_call0 hcall21 ?_) | (with_reducible refine g_calld0 hcall21 ?_) | (refine g_call hcall22 (by simp [PreOK, hget]; done) (by simp [okU, uph]; done) ?_) | (refine g_calld hcall22 (by simp [PreOK, hget]; done) (by simp [okU, uph]; done) ?_) | (refine cdS (fun hg => ?_) (fun hg => ?_) <;> try simp -implicitDefEqProofs only [hg, Bool.not_true, Bool.not_false]) | (refine gdS (fun hg => ?_) (fun hg => ?_) <;> try simp -implicitDefEqProofs only [hg, Bool.not_true, Bool.not_false]) | (refine gddS (fun hg => ?_) (fun hg => ?_) <;> try simp -implicitDefEqProofs only [hg, Bool.not_true, Bool.not_false]) | ((with_reducible apply And.intro); focus (first | trivial | omega | decide | (simp -implicitDefEqProofs only [maxLen]; omega) | (simp [maxLen, sty_len, nd_len, ndL_len, lnL_len, intsL_len, rvs_len, lensS_len]; done) | (simp [maxLen, sty_len, nd_len, ndL_len, lnL_len, intsL_len, rvs_len, lensS_len]; omega))) | fail)
                exact (hK _ _ (ret_t rfl)).2
            · have f2 : (o.kind == 2) = false := by simp [hk2]
              cases hst : styOK o.s with
              | true =>
                rw [hst] at hfm
                rw [show mayF l o = 0 by simp [mayF, hc, hk1, hk4, hk, hk2, hin, hst]] at hK
                by_cases hk3 : o.kind = 1
                · have f3 : (o.kind == 1) = true := by simp [hk3]
                  have hcall23 := hko; have hcall24 := m1; have hcall25 := hfm; repeat' (first | (simp -implicitDefEqProofs only [go_sem, ↓reduceIte, Nat.reduceEqDiff, Nat.reduceAdd, Nat.reduceSub, Nat.reduceMul, Nat.reduceLeDiff, Nat.reduceLT, reduceCtorEq, Int.reduceToNat, opv_len, e00, opv_at0, opv_at1, opv_at2, e1, e2, f1, f2, f3, opv_s, sty_len]) | (with_reducible refine g_noent ?_) | (with_reducible refine g_call0 hcall23 ?_) | (with_reducible refine g_calld0 hcall23 ?_) | (refine g_call hcall24 (by simp [PreOK, hget]; done) (by simp [okU, uph]; done) ?_) | (refine g_calld hcall24 (by simp [PreOK, hget]; done) (by simp [okU, uph]; done) ?_) | (with_reducible refine g_call0 hcall25 ?_) | (with_reducible refine g_calld0 hcall25 ?_) | (refine cdS (fun hg => ?_) (fun hg => ?_) <;> try simp -implicitDefEqProofs only [hg, Bool.not_true, Bool.not_false]) | (refine gdS (fun hg => ?_) (fun hg => ?_) <;> try simp -implicitDefEqProofs only [hg, Bool.not_true, Bool.not_false]) | (refine gddS (fun hg => ?_) (fun hg => ?_) <;> try simp -implicitDefEqProofs only [hg, Bool.not_true, Bool.not_false]) | ((with_reducible apply And.intro); focus (first | trivial | omega | decide | (simp -implicitDefEqProofs only [maxLen]; omega) | (simp [maxLen, sty_len, nd_len, ndL_len, lnL_len, intsL_len, rvs_len, lensS_len]; done) | (simp [maxLen, sty_len, nd_len, ndL_len, lnL_len, intsL_len, rvs_len, lensS_len]; omega))) | fail)
                  exact (hK _ _ (ret_t rfl)).2
                · have f3 : (o.kind == 1) = false := by simp [hk3]
                  have f4 : (o.kind == 3) = true := by simp; omega
                  have hcall26 := hko; have hcall27 := m1; have hcall28 := hfm; repeat' (first | (simp -implicitDefEqProofs only [go_sem, ↓reduceIte, Nat.reduceEqDiff, Nat.reduceAdd, Nat.reduceSub, Nat.reduceMul, Nat.reduceLeDiff, Nat.reduceLT, reduceCtorEq, Int.reduceToNat, opv_len, e00, opv_at0, opv_at1, opv_at2, e1, e2, f1, f2, f3, f4, opv_s, sty_len]) | (with_reducible refine g_noent ?_) | (with_reducible refine g_call0 hcall26 ?_) | (with_reducible refine g_calld0 hcall26 ?_) | (refine g_call hcall27 (by simp [PreOK, hget]; done) (by simp [okU, uph]; done) ?_) | (refine g_calld hcall27 (by simp [PreOK, hget]; done) (by simp [okU, uph]; done) ?_) | (with_reducible refine g_call0 hcall28 ?_) | (with_reducible refine g_calld0 hcall28 ?_) | (refine cdS (fun hg => ?_) (fun hg => ?_) <;> try simp -implicitDefEqProofs only [hg, Bool.not_true, Bool.not_false]) | (refine gdS (fun hg => ?_) (fun hg => ?_) <;> try simp -implicitDefEqProofs only [hg, Bool.not_true, Bool.not_false]) | (refine gddS (fun hg => ?_) (fun hg => ?_) <;> try simp -implicitDefEqProofs only [hg, Bool.not_true, Bool.not_false]) | ((with_reducible apply And.intro); focus (first | trivial | omega | decide | (simp -implicitDefEqProofs only [maxLen]; omega) | (simp [maxLen, sty_len, nd_len, ndL_len, lnL_len, intsL_len, rvs_len, lensS_len]; done) | (simp [maxLen, sty_len, nd_len, ndL_len, lnL_len, intsL_len, rvs_len, lensS_len]; omega))) | fail)
                  exact (hK _ _ (ret_t rfl)).2
              | false =>
                rw [hst] at hfm
                have hk13 : o.kind = 1 ∨ o.kind = 3 := by omega
                rw [show mayF l o = 1 by simp [mayF, hc, hk1, hk4, hk, hk2, hin, hst, hk13]] at hK
                by_cases hk3 : o.kind = 1
                · have f3 : (o.kind == 1) = true := by simp [hk3]
                  have hcall29 := hko; have hcall30 := m1; have hcall31 := hfm; repeat' (first | (simp -implicitDefEqProofs only [go_sem, ↓reduceIte, Nat.reduceEqDiff, Nat.reduceAdd, Nat.reduceSub, Nat.reduceMul, Nat.reduceLeDiff, Nat.reduceLT, reduceCtorEq, Int.reduceToNat, opv_len, e00, opv_at0, opv_at1, opv_at2, e1, e2, f1, f2, f3, opv_s, sty_len]) | (with_reducible refine g_noent ?_) | (with_reducible refine g_call0 hcall29 ?_) | (with_reducible refine g_calld0 hcall29 ?_) | (refine g_call hcall30 (by simp [PreOK, hget]; done) (by simp [okU, uph]; done) ?_) | (refine g_calld hcall30 (by simp [PreOK, hget]; done) (by simp [okU, uph]; done) ?_) | (with_reducible refine g_call0 hcall31 ?_) | (with_reducible refine g_calld0 hcall31 ?_) | (refine cdS (fun hg => ?_) (fun hg => ?_) <;> try simp -implicitDefEqProofs only [hg, Bool.not_true, Bool.not_false]) | (refine gdS (fun hg => ?_) (fun hg => ?_) <;> try simp -implicitDefEqProofs only [hg, Bool.not_true, Bool.not_false]) | (refine gddS (fun hg => ?_) (fun hg => ?_) <;> try simp -implicitDefEqProofs only [hg, Bool.not_true, Bool.not_false]) | ((with_reducible apply And.intro); focus (first | trivial | omega | decide | (simp -implicitDefEqProofs only [maxLen]; omega) | (simp [maxLen, sty_len, nd_len, ndL_len, lnL_len, intsL_len, rvs_len, lensS_len]; done) | (simp [maxLen, sty_len, nd_len, ndL_len, lnL_len, intsL_len, rvs_len, lensS_len]; omega))) | fail)
                  exact (hK _ _ (ret_t rfl)).2
                · have f3 : (o.kind == 1) = false := by simp [hk3]
                  have f4 : (o.kind == 3) = true := by simp; omega
                  have hcall32 := hko; have hcall33 := m1; have hcall34 := hfm; repeat' (first | (simp -implicitDefEqProofs only [go_sem, ↓reduceIte, Nat.reduceEqDiff, Nat.reduceAdd, Nat.reduceSub, Nat.reduceMul, Nat.reduceLeDiff, Nat.reduceLT, reduceCtorEq, Int.reduceToNat, opv_len, e00, opv_at0, opv_at1, opv_at2, e1, e2, f1, f2, f3, f4, opv_s, sty_len]) | (with_reducible refine g_noent ?_) | (with_reducible refine g_call0 hcall32 ?_) | (with_reducible refine g_calld0 hcall32 ?_) | (refine g_call hcall33 (by simp [PreOK, hget]; done) (by simp [okU, uph]; done) ?_) | (refine g_calld hcall33 (by simp [PreOK, hget]; done) (by simp [okU, uph]; done) ?_) | (with_reducible refine g_call0 hcall34 ?_) | (with_reducible refine g_calld0 hcall34 ?_) | (refine cdS (fun hg => ?_) (fun hg => ?_) <;> try simp -implicitDefEqProofs only [hg, Bool.not_true, Bool.not_false]) | (refine gdS (fun hg => ?_) (fun hg => ?_) <;> try simp -implicitDefEqProofs only [hg, Bool.not_true, Bool.not_false]) | (refine gddS (fun hg => ?_) (fun hg => ?_) <;> try simp -implicitDefEqProofs only [hg, Bool.not_true, Bool.not_false]) | ((with_reducible apply And.intro); focus (first | trivial | omega | decide | (simp -implicitDefEqProofs only [maxLen]; omega) | (simp [maxLen, sty_len, nd_len, ndL_len, lnL_len, intsL_len, rvs_len, lensS_len]; done) | (simp [maxLen, sty_len, nd_len, ndL_len, lnL_len, intsL_len, rvs_len, lensS_len]; omega))) | fail)
                  exact (hK _ _ (ret_t rfl)).2
  · have hko := sp_kin_Of_bad l hb hc
    have e1 : (chk l != 0) = true := by simpa using hc
    rw [show mayF l o = chk l by simp [mayF, hc]] at hK
    have hcall35 := hko; repeat' (first | (simp -implicitDefEqProofs only [go_sem, ↓reduceIte, Nat.reduceEqDiff, Nat.reduceAdd, Nat.reduceSub, Nat.reduceMul, Nat.reduceLeDiff, Nat.reduceLT, reduceCtorEq, Int.reduceToNat, opv_len, e1]) | (with_reducible refine g_noent ?_) | (with_reducible refine g_call0 hcall35 ?_) | (with_reducible refine g_calld0 hcall35 ?_) | (refine cdS (fun hg => ?_) (fun hg => ?_) <;> try simp -implicitDefEqProofs only [hg, Bool.not_true, Bool.not_false]) | (refine gdS (fun hg => ?_) (fun hg => ?_) <;> try simp -implicitDefEqProofs only [hg, Bool.not_true, Bool.not_false]) | (refine gddS (fun hg => ?_) (fun hg => ?_) <;> try simp -implicitDefEqProofs only [hg, Bool.not_true, Bool.not_false]) | ((with_reducible apply And.intro); focus (first | trivial | omega | decide | (simp -implicitDefEqProofs only [maxLen]; omega) | (simp [maxLen, sty_len, nd_len, ndL_len, lnL_len, intsL_len, rvs_len, lensS_len]; done) | (simp [maxLen, sty_len, nd_len, ndL_len, lnL_len, intsL_len, rvs_len, lensS_len]; omega))) | fail)
    exact (hK _ _ (ret_t rfl)).2
end Go.Eng


/- edit: changes. -/
namespace Go.Eng
open Go
/- decoupage/edit.change -/
def c_edit_change : AC := (.seq (.reg [⟨(some 3), .box, [(.t 1)], none⟩, ⟨(some 4), .mv, [(.c (.rv .nilsl))], none⟩, ⟨(some 5), .mv, [(.c (.rv (.int .i64 0)))], none⟩]) (.seq (.seq (.reg [⟨(some 12), (.fld 0), [(.t 3)], none⟩, ⟨(some 13), (.load 1 false), [(.t 12)], none⟩]) (.seq (.block 0 (.seq (.reg [⟨(some 15), (.ibin .eql), [(.t 13), (.c (.rv (.int .i64 1)))], none⟩, ⟨(some 14), .mv, [(.t 15)], none⟩]) (.cond (.t 14) (.seq (.reg [⟨(some 16), .mv, [(.t 0)], none⟩, ⟨(some 17), (.call 47), [(.t 16)], none⟩, ⟨(some 6), .mv, [(.t 17)], none⟩]) (.seq (.reg [⟨(some 18), .mv, [(.t 6)], none⟩, ⟨(some 19), (.fld 1), [(.t 3)], none⟩, ⟨(some 20), (.load 1 false), [(.t 19)], none⟩, ⟨(some 21), (.fld 4), [(.t 3)], none⟩, ⟨(some 22), (.load 48 true), [(.t 21)], none⟩, ⟨(some 23), (.ixs 49), [(.t 18), (.t 20)], none⟩, ⟨(some 24), (.fld 0), [(.t 23)], none⟩, ⟨none, (.store 48), [(.t 24), (.t 22)], none⟩]) (.seq (.reg [⟨(some 25), .mv, [(.t 6)], none⟩, ⟨(some 4), .mv, [(.t 25)], none⟩, ⟨(some 5), .mv, [(.c (.rv (.int .i64 0)))], none⟩]) .ret))) (.seq (.reg [⟨(some 27), (.ibin .eql), [(.t 13), (.c (.rv (.int .i64 2)))], none⟩, ⟨(some 26), .mv, [(.t 27)], none⟩]) (.cond (.t 26) (.seq (.reg [⟨(some 29), .mv, [(.t 0)], none⟩, ⟨(some 30), (.fld 1), [(.t 3)], none⟩, ⟨(some 31), (.load 1 false), [(.t 30)], none⟩, ⟨(some 32), (.call 86), [(.t 29), (.t 31)], none⟩, ⟨(some 28), .mv, [(.t 32)], none⟩, ⟨(some 33), (.ext 0), [(.t 28)], none⟩, ⟨(some 34), (.ext 1), [(.t 28)], none⟩, ⟨(some 7), .mv, [(.t 33)], none⟩, ⟨(some 8), .mv, [(.t 34)], none⟩]) (.seq (.reg [⟨(some 35), .mv, [(.t 7)], none⟩, ⟨(some 4), .mv, [(.t 35)], none⟩, ⟨(some 5), .mv, [(.c (.rv (.int .i64 0)))], none⟩]) .ret)) (.seq (.reg [⟨(some 37), (.ibin .eql), [(.t 13), (.c (.rv (.int .i64 3)))], none⟩, ⟨(some 36), .mv, [(.t 37)], none⟩]) (.cond (.t 36) (.seq (.seq (.regd [0, 1, 3, 7, 15, 31, 15, 15, 143, 463, 1023, 2047] [⟨(some 38), (.fld 3), [(.t 3)], none⟩, ⟨(some 39), (.load 1 false), [(.t 38)], none⟩, ⟨(some 40), (.ibin .lss), [(.t 39), (.c (.rv (.int .i64 0)))], none⟩, ⟨(some 41), .mv, [(.t 40)], none⟩, ⟨(some 42), (.fld 3), [(.t 3)], (some (41, false))⟩, ⟨(some 43), (.load 1 false), [(.t 42)], (some (41, false))⟩, ⟨(some 44), .mv, [(.t 0)], (some (41, false))⟩, ⟨(some 45), (.fld 1), [(.t 3)], (some (41, false))⟩, ⟨(some 46), (.load 1 false), [(.t 45)], (some (41, false))⟩, ⟨(some 47), (.call 87), [(.t 44), (.t 46)], (some (41, false))⟩, ⟨(some 48), (.ibin .gtr), [(.t 43), (.t 47)], (some (41, false))⟩, ⟨(some 49), .pick, [(.t 41), (.c (.rv (.bool true))), (.t 48)], none⟩]) (.cond (.t 49) (.seq (.reg [⟨(some 4), .mv, [(.c (.rv .nilsl))], none⟩, ⟨(some 5), .mv, [(.c (.rv (.int .i64 1)))], none⟩]) .ret) .skip)) (.seq (.reg [⟨(some 50), .mv, [(.t 0)], none⟩, ⟨(some 51), (.fld 4), [(.t 3)], none⟩, ⟨(some 52), (.load 48 true), [(.t 51)], none⟩, ⟨(some 53), (.build [(.bool false), (.int .i64 0), (.int .i64 0), (.int .i64 0), (.int .i64 0), (.int .i64 0), (.int .i64 0), (.int .i64 0), (.int .i64 0), (.int .i64 0), (.int .i64 0), (.int .i64 0), (.int .i64 0), (.int .i64 0), (.int .i64 0), (.int .i64 0), (.int .i64 0), (.int .i64 0), (.int .i64 0), (.int .i64 0), (.int .i64 0), (.int .i64 0), (.int .i64 0), (.int .i64 0), (.int .i64 0), (.int .i64 0), (.int .i64 0), (.int .i64 0), (.int .i64 0), (.int .i64 0), (.int .i64 0), (.int .i64 0), (.int .i64 0), (.int .i64 0), (.int .i64 0), (.int .i64 0), (.int .i64 0), (.int .i64 0), (.int .i64 0), (.int .i64 0), (.int .i64 0), (.int .i64 0), (.bool false), (.bool false), (.int .i64 0), (.bool false), (.int .i64 0), (.int .i64 0), (.int .i64 0)] [(0, 48)]), [(.t 52)], none⟩, ⟨(some 54), (.bsl 49), [(.t 53)], none⟩, ⟨(some 55), (.fld 1), [(.t 3)], none⟩, ⟨(some 56), (.load 1 false), [(.t 55)], none⟩, ⟨(some 57), (.fld 3), [(.t 3)], none⟩, ⟨(some 58), (.load 1 false), [(.t 57)], none⟩, ⟨(some 59), (.call 88), [(.t 50), (.t 54), (.t 56), (.t 58)], none⟩, ⟨(some 4), .mv, [(.t 59)], none⟩, ⟨(some 5), .mv, [(.c (.rv (.int .i64 0)))], none⟩]) .ret)) .skip))))))) .ent)) (.seq (.reg [⟨(some 61), .mv, [(.t 0)], none⟩, ⟨(some 62), (.fld 1), [(.t 3)], none⟩, ⟨(some 63), (.load 1 false), [(.t 62)], none⟩, ⟨(some 64), (.call 86), [(.t 61), (.t 63)], none⟩, ⟨(some 60), .mv, [(.t 64)], none⟩, ⟨(some 65), (.ext 0), [(.t 60)], none⟩, ⟨(some 66), (.ext 1), [(.t 60)], none⟩, ⟨(some 9), .mv, [(.t 65)], none⟩, ⟨(some 10), .mv, [(.t 66)], none⟩]) (.seq (.reg [⟨(some 67), (.fld 2), [(.t 3)], none⟩, ⟨(some 68), (.load 1 false), [(.t 67)], none⟩, ⟨(some 11), .mv, [(.t 68)], none⟩]) (.seq (.seq (.reg [⟨(some 69), .mv, [(.t 11)], none⟩, ⟨(some 70), (.fld 1), [(.t 3)], none⟩, ⟨(some 71), (.load 1 false), [(.t 70)], none⟩, ⟨(some 72), (.ibin .gtr), [(.t 69), (.t 71)], none⟩]) (.seq (.cond (.t 72) (.reg [⟨(some 73), .mv, [(.t 11)], none⟩, ⟨(some 74), .mv, [(.t 10)], none⟩, ⟨(some 75), .len, [(.t 74)], none⟩, ⟨(some 76), (.ibin .sub), [(.t 73), (.t 75)], none⟩, ⟨(some 11), .mv, [(.t 76)], none⟩]) .skip) .ent)) (.seq (.seq (.regd [0, 1, 3, 7, 15, 31, 15, 15, 207, 511, 1023] [⟨(some 77), (.fld 3), [(.t 3)], none⟩, ⟨(some 78), (.load 1 false), [(.t 77)], none⟩, ⟨(some 79), (.ibin .lss), [(.t 78), (.c (.rv (.int .i64 0)))], none⟩, ⟨(some 80), .mv, [(.t 79)], none⟩, ⟨(some 81), (.fld 3), [(.t 3)], (some (80, false))⟩, ⟨(some 82), (.load 1 false), [(.t 81)], (some (80, false))⟩, ⟨(some 83), .mv, [(.t 9)], (some (80, false))⟩, ⟨(some 84), .mv, [(.t 11)], (some (80, false))⟩, ⟨(some 85), (.call 87), [(.t 83), (.t 84)], (some (80, false))⟩, ⟨(some 86), (.ibin .gtr), [(.t 82), (.t 85)], (some (80, false))⟩, ⟨(some 87), .pick, [(.t 80), (.c (.rv (.bool true))), (.t 86)], none⟩]) (.cond (.t 87) (.seq (.reg [⟨(some 4), .mv, [(.c (.rv .nilsl))], none⟩, ⟨(some 5), .mv, [(.c (.rv (.int .i64 1)))], none⟩]) .ret) .skip)) (.seq (.reg [⟨(some 88), .mv, [(.t 9)], none⟩, ⟨(some 89), .mv, [(.t 10)], none⟩, ⟨(some 90), .mv, [(.t 11)], none⟩, ⟨(some 91), (.fld 3), [(.t 3)], none⟩, ⟨(some 92), (.load 1 false), [(.t 91)], none⟩, ⟨(some 93), (.call 88), [(.t 88), (.t 89), (.t 90), (.t 92)], none⟩, ⟨(some 4), .mv, [(.t 93)], none⟩, ⟨(some 5), .mv, [(.c (.rv (.int .i64 0)))], none⟩]) .ret)))))))
theorem k_edit_change : FnOK Go.Proofs.Try.prog 60 94 c_edit_change [(.t 4), (.t 5)] := fnOK_of (by kernel_rfl)

/- decoupage/edit.Apply -/
def c_edit_Apply : AC := (.seq (.reg [⟨(some 3), .box, [(.t 1)], none⟩, ⟨(some 4), .mv, [(.c (.rv .nilsl))], none⟩, ⟨(some 5), .mv, [(.c (.rv (.int .i64 0)))], none⟩]) (.seq (.seq (.reg [⟨(some 10), .mv, [(.t 0)], none⟩, ⟨(some 11), (.load 52 true), [(.t 3)], none⟩, ⟨(some 12), (.call 59), [(.t 10), (.t 11)], none⟩, ⟨(some 6), .mv, [(.t 12)], none⟩]) (.seq (.reg [⟨(some 13), .mv, [(.t 6)], none⟩, ⟨(some 14), (.ibin .neq), [(.t 13), (.c (.rv (.int .i64 0)))], none⟩]) (.cond (.t 14) (.seq (.reg [⟨(some 15), .mv, [(.t 6)], none⟩, ⟨(some 4), .mv, [(.c (.rv .nilsl))], none⟩, ⟨(some 5), .mv, [(.t 15)], none⟩]) .ret) .skip))) (.seq (.reg [⟨(some 17), .mv, [(.t 0)], none⟩, ⟨(some 18), (.load 52 true), [(.t 3)], none⟩, ⟨(some 19), (.call 60), [(.t 17), (.t 18)], none⟩, ⟨(some 16), .mv, [(.t 19)], none⟩, ⟨(some 20), (.ext 0), [(.t 16)], none⟩, ⟨(some 21), (.ext 1), [(.t 16)], none⟩, ⟨(some 7), .mv, [(.t 20)], none⟩, ⟨(some 8), .mv, [(.t 21)], none⟩]) (.seq (.seq (.reg [⟨(some 22), .mv, [(.t 8)], none⟩, ⟨(some 23), (.ibin .neq), [(.t 22), (.c (.rv (.int .i64 0)))], none⟩]) (.cond (.t 23) (.seq (.reg [⟨(some 24), .mv, [(.t 8)], none⟩, ⟨(some 4), .mv, [(.c (.rv .nilsl))], none⟩, ⟨(some 5), .mv, [(.t 24)], none⟩]) .ret) .skip)) (.seq (.seq (.reg [⟨(some 25), .mv, [(.t 7)], none⟩, ⟨(some 26), (.call 46), [(.t 25)], none⟩, ⟨(some 9), .mv, [(.t 26)], none⟩]) (.seq (.reg [⟨(some 27), .mv, [(.t 9)], none⟩, ⟨(some 28), (.ibin .neq), [(.t 27), (.c (.rv (.int .i64 0)))], none⟩]) (.cond (.t 28) (.seq (.reg [⟨(some 29), .mv, [(.t 9)], none⟩, ⟨(some 4), .mv, [(.c (.rv .nilsl))], none⟩, ⟨(some 5), .mv, [(.t 29)], none⟩]) .ret) .skip))) (.seq (.reg [⟨(some 30), .mv, [(.t 7)], none⟩, ⟨(some 4), .mv, [(.t 30)], none⟩, ⟨(some 5), .mv, [(.c (.rv (.int .i64 0)))], none⟩]) .ret))))))
theorem k_edit_Apply : FnOK Go.Proofs.Try.prog 26 31 c_edit_Apply [(.t 4), (.t 5)] := fnOK_of (by kernel_rfl)


theorem parM_of {l : List Nd} (hs : Shp l) (hb : l.length ≤ 1073741824) : ParM l := fun x hx => by
  obtain ⟨k, hk, rfl⟩ := List.getElem_of_mem hx
  rw [parL_eq hk]
  by_cases h0 : k = 0
  · subst h0; rw [hs.root]; omega
  · have := hs.up k (by omega) hk; omega
theorem parb_of {l : List Nd} (hp : ParM l) : Parb l := fun k hk => by
  rw [← parL_eq hk]; exact hp _ (List.getElem_mem hk)
theorem part_parM {l : List Nd} (hp : ParM l) {n : Nat} (hn : n < l.length) (hb : l.length ≤ 1073741824) : ParM (partF l n) := fun x hx => by
  obtain ⟨k, hk, rfl⟩ := List.getElem_of_mem hx
  have hkl : k < (part0 l n).length := by simpa [partF] using hk
  by_cases h0 : k = 0
  · subst h0; simp [partF]
  · have hnk : n + k < l.length := by simp [part0] at hkl; omega
    have e : ((partF l n)[k]'hk).parent = parL l (n + k) - n := by
      simp -implicitDefEqProofs only [partF]
      rw [List.getElem_set_ne (by omega), List.getElem_map]
      simp -implicitDefEqProofs only [subN, part0, List.getElem_drop, List.getElem_take]
      rw [parL_eq hnk]
    have h1 := endR_in (l := l) (n := n) (k := n + k) (by omega) (by have := part0_len hn; omega)
    have h2 := parb_of hp _ hnk
    rw [e]; omega
theorem left_parM {l : List Nd} (hp : ParM l) {n : Nat} (hn : n < l.length) : ParM (leftF l n) := fun x hx => by
  simp -implicitDefEqProofs only [leftF, List.mem_append, List.mem_map] at hx
  rcases hx with hx | ⟨y, hy, rfl⟩
  · exact hp x (List.mem_of_mem_take hx)
  · have h := hp y (List.mem_of_mem_drop hy)
    have := endR_gt hn
    unfold subIf; split
    · dsimp only; omega
    · exact h
theorem leftF_len {l : List Nd} {n : Nat} (hn : n < l.length) : (leftF l n).length = l.length - (endR l n - n) := by
  rw [← left0_len hn]; simp [leftF, left0]
theorem partF_len {l : List Nd} {n : Nat} (hn : n < l.length) : (partF l n).length = endR l n - n := by
  rw [← part0_len hn]; simp [partF]
theorem place_le {l : List Nd} {n : Nat} (h : n < l.length) : ∀ k, placeF l n k ≤ l.length
  | 0 => h
  | k + 1 => endR_le l _

/-- Where what is moved to comes to stand. -/
def toF (l : List Nd) (n to : Nat) : Nat := if to > n then to - (endR l n - n) else to
/-- The list behind a change; none if there is no such child. -/
def changeF (l : List Nd) (o : Opv) : Option (List Nd) :=
  if o.kind = 1 then some (l.set o.n.toNat ⟨o.s, parL l o.n.toNat⟩) else
  if o.kind = 2 then some (leftF l o.n.toNat) else
  if o.kind = 3 then (if o.at' < 0 ∨ o.at' > kidTo l o.n l.length then none else some (pasteF l [⟨o.s, 0⟩] o.n (placeF l o.n.toNat o.at'.toNat))) else
  if o.at' < 0 ∨ o.at' > kidTo (leftF l o.n.toNat) (toF l o.n.toNat o.to.toNat) (leftF l o.n.toNat).length then none else
    some (pasteF (leftF l o.n.toNat) (partF l o.n.toNat) (toF l o.n.toNat o.to.toNat) (placeF (leftF l o.n.toNat) (toF l o.n.toNat o.to.toNat) o.at'.toNat))
def resE : Option (List Nd) → SV
  | none => .tup [.rv .nilsl, .rv (.int .i64 1)]
  | some out => .tup [.rv (.sl 49 (ndL out)), .rv (.int .i64 0)]

theorem nd_dropm (x : Nd) : (x.cells.map SV.rv).drop 48 = [SV.rv (.int .i64 x.parent)] := rfl
theorem nd_mkm (s : Sty) (p : Int) : s.cells.map SV.rv ++ [SV.rv (.int .i64 p)] = (Nd.mk s p).cells.map SV.rv := rfl
theorem flatH_nd {e v : Nat} {l : List Nd} : FlatH (.row e v (rvs (ndL l))) := .row _ _ _ fun i x j y hx hy => by
  simp -implicitDefEqProofs only [rvs, ndL, List.map_map, List.getElem?_map, Option.map_eq_some_iff, Function.comp_apply] at hx
  obtain ⟨n, _, rfl⟩ := hx
  simp -implicitDefEqProofs only [List.getElem?_map, Option.map_eq_some_iff] at hy
  obtain ⟨r, hr, rfl⟩ := hy
  refine .rv _ ?_
  have hm := List.mem_of_getElem? hr
  simp -implicitDefEqProofs only [Nd.cells, Sty.cells, List.mem_append, List.mem_cons, List.not_mem_nil, or_false] at hm
  rcases hm with hm | rfl
  · repeat' rcases hm with rfl | hm
    all_goals first | exact .int _ _ | exact .bool _ | (subst hm; exact .int _ _)
  · exact .int _ _

theorem may_zero {l : List Nd} {o : Opv} (h : mayF l o = 0) : chk l = 0 ∧ ¬ (o.kind < 1 ∨ o.kind > 4) ∧ ¬ (inL l o.n = false ∨ (o.kind = 4 ∧ inL l o.to = false)) ∧ ¬ (((o.kind = 2 ∨ o.kind = 4) ∧ o.n = 0) ∨ (o.kind = 4 ∧ belowAt l o.n o.to = true) ∨ ((o.kind = 1 ∨ o.kind = 3) ∧ styOK o.s = false)) := by
  unfold mayF at h
  by_cases c1 : chk l ≠ 0
  · rw [if_pos c1] at h; exact absurd h c1
  · rw [if_neg c1] at h
    by_cases c2 : o.kind < 1 ∨ o.kind > 4
    · rw [if_pos c2] at h; omega
    · rw [if_neg c2] at h
      by_cases c3 : inL l o.n = false ∨ (o.kind = 4 ∧ inL l o.to = false)
      · rw [if_pos c3] at h; omega
      · rw [if_neg c3] at h
        by_cases c4 : ((o.kind = 2 ∨ o.kind = 4) ∧ o.n = 0) ∨ (o.kind = 4 ∧ belowAt l o.n o.to = true) ∨ ((o.kind = 1 ∨ o.kind = 3) ∧ styOK o.s = false)
        · rw [if_pos c4] at h; omega
        · exact ⟨by simpa using c1, c2, c3, c4⟩
/-- What is moved is not moved below itself. -/
theorem to_in {l : List Nd} (hs : Shp l) {n t : Nat} (hn : n < l.length) (ht : t < l.length) (hb : belowAt l n t = false) : toF l n t < (leftF l n).length ∧ (t ≤ n → t < n) ∧ (n < t → endR l n ≤ t) := by
  have h1 := endR_eq hs hn
  have h2 := endR_gt hn
  have h3 := endR_le l n
  rw [leftF_len hn]
  have : ¬ (n ≤ t ∧ t < endR l n) := fun h => by
    rw [show belowAt l n t = true by simp [belowAt, inL_of hn, inL_of ht, endAt]; omega] at hb
    simp at hb
  unfold toF
  split <;> omega

/-- The part is the caller's own row. -/
theorem sp_pasteO (l part : List Nd) (hb : l.length ≤ 1073741824) (hpb : part.length ≤ 1073741824) (h0 : 0 < part.length) (hl : ParM l) (hp : ParM part) (n : Nat) (hn : n ≤ 1073741824) (at' : Nat) (ha : at' ≤ 8589934592) (hto : placeF l n at' ≤ l.length) (j v m : Nat) (hjm : j ≠ m) :
    CallR Go.Proofs.Try.prog 88 [.rv (.sl 49 (ndL l)), .row j v part.length, .rv (.int .i64 n), .rv (.int .i64 at')] [(j, .row 49 v (rvs (ndL part)))] [(m, .row 49 3 (rvs (ndL (pasteF l part n (placeF l n at')))))] (.row m 3 (l.length + part.length)) := by
  refine callR_borrow (rs := [.sl 49 (ndL l), .sl 49 (ndL part), .int .i64 n, .int .i64 at']) (sp_paste l part hb hpb h0 hl hp n hn at' ha hto m) rfl (fun hp' hpre k y r hy hr => ?_) (.row _ _ _) (fun q hq => ?_)
  · match k, hy, hr with
    | 0, hy, hr => cases hy; cases hr; exact .rv _
    | 1, hy, hr =>
      cases hy; cases hr
      have := fz_row (h := hp') (τ := fun _ => none) (j := j) (e := 49) (ver := v) (len := part.length) (xs := ndL part) (hpre _ (.head _)) rfl (by simp [ndL]) (ndL_one part)
      rwa [List.take_of_length_le (by simp [ndL])] at this
    | 2, hy, hr => cases hy; cases hr; exact .rv _
    | 3, hy, hr => cases hy; cases hr; exact .rv _
    | k + 4, hy, hr => simp at hy
  · simp -implicitDefEqProofs only [List.mem_singleton] at hq
    subst hq
    exact ⟨flatH_nd, fun p hp => by simp -implicitDefEqProofs only [List.mem_singleton] at hp; subst hp; exact hjm⟩

set_option maxRecDepth 20000 in
set_option maxHeartbeats 4000000 in
theorem sp_change (l : List Nd) (hb : l.length ≤ 1073741823) (o : Opv) (hm : mayF l o = 0) : CallR Go.Proofs.Try.prog 60 [.rv (.sl 49 (ndL l)), .agg (o.cells.map .rv)] [] [] (resE (changeF l o)) := by
  refine callR_G k_edit_change [.rv (.sl 49 (ndL l)), .agg (o.cells.map .rv)] _ (by simp) (by simp [BkAll, bk_agg, bkAll_map, bk_rv, bk_fn, Sty.sv, Ln.sv, Nd.sv]) (fun K hK => ?_)
  have hlen := ndL_len l
  obtain ⟨hc, hk14, c3, c4⟩ := may_zero hm
  have hs := tree_shp (chk_tree hc)
  have hin : inL l o.n = true := by
    cases h : inL l o.n with
    | true => rfl
    | false => exact absurd (.inl h) c3
  obtain ⟨n, hn, hnl⟩ := inL_nat hin
  have hpm := parM_of hs (by omega)
  have k1 := opv_at1 o
  have k2 := opv_at2 o
  have k3 := opv_at3 o
  rw [hn] at k1
  have hnt : o.n.toNat = n := by rw [hn]; simp
  have hx := ndL_get hnl
  simp -implicitDefEqProofs only [c_edit_change, go_sem, ↓reduceIte, Nat.reduceEqDiff, Nat.reduceAdd, Nat.reduceSub, Nat.reduceMul, Nat.reduceLeDiff, Nat.reduceLT, reduceCtorEq, Int.reduceToNat]
  by_cases hk1 : o.kind = 1
  · have f1 : (o.kind == 1) = true := by simp [hk1]
    have hcl := sp_Clone_Node (ndL l) 1 (by omega)
    rw [hlen] at hcl
    have hpe := parL_eq hnl
    rw [show changeF l o = some (l.set n ⟨o.s, parL l n⟩) by simp [changeF, hk1, hnt], ← hpe] at hK
    generalize l[n]'hnl = x at *
    have hcall1 := hcl; repeat' (first | (simp -implicitDefEqProofs only [go_sem, ↓reduceIte, Nat.reduceEqDiff, Nat.reduceAdd, Nat.reduceSub, Nat.reduceMul, Nat.reduceLeDiff, Nat.reduceLT, reduceCtorEq, Int.reduceToNat, opv_len, opv_at0, f1, k1, k2, k3, opv_s, sty_len, hx, hlen, nd_len, nd_dropm, nd_mkm, ndL_setE]) | (with_reducible refine g_noent ?_) | (refine g_call hcall1 (by simp [PreOK, hget]; done) (by simp [okU, uph]; done) ?_) | (refine g_calld hcall1 (by simp [PreOK, hget]; done) (by simp [okU, uph]; done) ?_) | (refine cdS (fun hg => ?_) (fun hg => ?_) <;> try simp -implicitDefEqProofs only [hg, Bool.not_true, Bool.not_false]) | (refine gdS (fun hg => ?_) (fun hg => ?_) <;> try simp -implicitDefEqProofs only [hg, Bool.not_true, Bool.not_false]) | (refine gddS (fun hg => ?_) (fun hg => ?_) <;> try simp -implicitDefEqProofs only [hg, Bool.not_true, Bool.not_false]) | ((with_reducible apply And.intro); focus (first | trivial | omega | decide | (simp -implicitDefEqProofs only [maxLen]; omega) | (simp [maxLen, sty_len, nd_len, ndL_len, lnL_len, intsL_len, rvs_len, lensS_len]; done) | (simp [maxLen, sty_len, nd_len, ndL_len, lnL_len, intsL_len, rvs_len, lensS_len]; omega))) | fail)
    have hll : (l.set n ⟨o.s, x.parent⟩).length = l.length := by simp
    exact (hK _ _ ⟨trivial, rn_tup.2 ⟨rn_frz (xs := ndL (l.set n ⟨o.s, x.parent⟩)) rfl rfl (by rw [ndL_len, hll]) (ndL_one _), rn_rv.2 rfl, trivial⟩⟩).2
  · have f1 : (o.kind == 1) = false := by simp [hk1]
    by_cases hk2 : o.kind = 2
    · have f2 : (o.kind == 2) = true := by simp [hk2]
      have hn0 : 0 < n := by
        have : o.n ≠ 0 := fun h => c4 (.inl ⟨.inl hk2, h⟩)
        omega
      have hcut := sp_cut l (by omega) (parb_of hpm) n hn0 hnl
      rw [show changeF l o = some (leftF l n) by simp [changeF, hk2, hnt]] at hK
      have hcall2 := hcut; repeat' (first | (simp -implicitDefEqProofs only [go_sem, ↓reduceIte, Nat.reduceEqDiff, Nat.reduceAdd, Nat.reduceSub, Nat.reduceMul, Nat.reduceLeDiff, Nat.reduceLT, reduceCtorEq, Int.reduceToNat, opv_len, opv_at0, f1, f2, k1, k2, k3]) | (with_reducible refine g_noent ?_) | (with_reducible refine g_call0 hcall2 ?_) | (with_reducible refine g_calld0 hcall2 ?_) | (refine cdS (fun hg => ?_) (fun hg => ?_) <;> try simp -implicitDefEqProofs only [hg, Bool.not_true, Bool.not_false]) | (refine gdS (fun hg => ?_) (fun hg => ?_) <;> try simp -implicitDefEqProofs only [hg, Bool.not_true, Bool.not_false]) | (refine gddS (fun hg => ?_) (fun hg => ?_) <;> try simp -implicitDefEqProofs only [hg, Bool.not_true, Bool.not_false]) | ((with_reducible apply And.intro); focus (first | trivial | omega | decide | (simp -implicitDefEqProofs only [maxLen]; omega) | (simp [maxLen, sty_len, nd_len, ndL_len, lnL_len, intsL_len, rvs_len, lensS_len]; done) | (simp [maxLen, sty_len, nd_len, ndL_len, lnL_len, intsL_len, rvs_len, lensS_len]; omega))) | fail)
      exact (hK _ _ (ret_t2 rfl rfl)).2
    · have f2 : (o.kind == 2) = false := by simp [hk2]
      by_cases hk3 : o.kind = 3
      · have f3 : (o.kind == 3) = true := by simp [hk3]
        have hch := sp_children l (by omega) n
        have hkl := kidTo_le (l := l) (n := n) (k := l.length)
        by_cases ha : o.at' < 0
        · have e1 : decide (o.at' < 0) = true := decide_eq_true ha
          rw [show changeF l o = none by simp [changeF, hk3, ha]] at hK
          repeat' (first | (simp -implicitDefEqProofs only [go_sem, ↓reduceIte, Nat.reduceEqDiff, Nat.reduceAdd, Nat.reduceSub, Nat.reduceMul, Nat.reduceLeDiff, Nat.reduceLT, reduceCtorEq, Int.reduceToNat, opv_len, opv_at0, f1, f2, f3, k1, k2, k3, e1]) | (with_reducible refine g_noent ?_) | (refine cdS (fun hg => ?_) (fun hg => ?_) <;> try simp -implicitDefEqProofs only [hg, Bool.not_true, Bool.not_false]) | (refine gdS (fun hg => ?_) (fun hg => ?_) <;> try simp -implicitDefEqProofs only [hg, Bool.not_true, Bool.not_false]) | (refine gddS (fun hg => ?_) (fun hg => ?_) <;> try simp -implicitDefEqProofs only [hg, Bool.not_true, Bool.not_false]) | ((with_reducible apply And.intro); focus (first | trivial | omega | decide | (simp -implicitDefEqProofs only [maxLen]; omega) | (simp [maxLen, sty_len, nd_len, ndL_len, lnL_len, intsL_len, rvs_len, lensS_len]; done) | (simp [maxLen, sty_len, nd_len, ndL_len, lnL_len, intsL_len, rvs_len, lensS_len]; omega))) | fail)
          exact (hK _ _ (ret_t2 rfl rfl)).2
        · have e1 : decide (o.at' < 0) = false := decide_eq_false ha
          by_cases ha2 : o.at' > kidTo l n l.length
          · have e2 : decide (o.at' > (kidTo l n l.length : Nat)) = true := decide_eq_true ha2
            rw [show changeF l o = none by simp [changeF, hk3, hn, ha2]] at hK
            have hcall3 := hch; repeat' (first | (simp -implicitDefEqProofs only [go_sem, ↓reduceIte, Nat.reduceEqDiff, Nat.reduceAdd, Nat.reduceSub, Nat.reduceMul, Nat.reduceLeDiff, Nat.reduceLT, reduceCtorEq, Int.reduceToNat, opv_len, opv_at0, f1, f2, f3, k1, k2, k3, e1, e2]) | (with_reducible refine g_noent ?_) | (with_reducible refine g_call0 hcall3 ?_) | (with_reducible refine g_calld0 hcall3 ?_) | (refine cdS (fun hg => ?_) (fun hg => ?_) <;> try simp -implicitDefEqProofs only [hg, Bool.not_true, Bool.not_false]) | (refine gdS (fun hg => ?_) (fun hg => ?_) <;> try simp -implicitDefEqProofs only [hg, Bool.not_true, Bool.not_false]) | (refine gddS (fun hg => ?_) (fun hg => ?_) <;> try simp -implicitDefEqProofs only [hg, Bool.not_true, Bool.not_false]) | ((with_reducible apply And.intro); focus (first | trivial | omega | decide | (simp -implicitDefEqProofs only [maxLen]; omega) | (simp [maxLen, sty_len, nd_len, ndL_len, lnL_len, intsL_len, rvs_len, lensS_len]; done) | (simp [maxLen, sty_len, nd_len, ndL_len, lnL_len, intsL_len, rvs_len, lensS_len]; omega))) | fail)
            exact (hK _ _ (ret_t2 rfl rfl)).2
          · have e2 : decide (o.at' > (kidTo l n l.length : Nat)) = false := decide_eq_false ha2
            obtain ⟨a, hat⟩ : ∃ a : Nat, o.at' = a := ⟨o.at'.toNat, by omega⟩
            rw [hat] at k3 e1 e2
            rw [show changeF l o = some (pasteF l [⟨o.s, 0⟩] n (placeF l n a)) by
              have h1 : ¬ (o.at' < 0 ∨ o.at' > kidTo l n l.length) := by omega
              simp -implicitDefEqProofs only [changeF, hk3, hn, h1, if_false, hat, Int.toNat_natCast]; simp [hat] at *; omega] at hK
            have hpo := sp_pasteO l [⟨o.s, 0⟩] (by omega) (by simp) (by simp) hpm (fun x hx => by simp at hx; subst hx; simp) n (by omega) a (by omega) (place_le hnl a) 1 0 2 (by decide)
            have hcall4 := hch; repeat' (first | (simp -implicitDefEqProofs only [go_sem, ↓reduceIte, Nat.reduceEqDiff, Nat.reduceAdd, Nat.reduceSub, Nat.reduceMul, Nat.reduceLeDiff, Nat.reduceLT, reduceCtorEq, Int.reduceToNat, opv_len, opv_at0, f1, f2, f3, k1, k2, k3, e1, e2, opv_s, sty_len]) | (with_reducible refine g_noent ?_) | (with_reducible refine g_call0 hcall4 ?_) | (with_reducible refine g_calld0 hcall4 ?_) | (refine cdS (fun hg => ?_) (fun hg => ?_) <;> try simp -implicitDefEqProofs only [hg, Bool.not_true, Bool.not_false]) | (refine gdS (fun hg => ?_) (fun hg => ?_) <;> try simp -implicitDefEqProofs only [hg, Bool.not_true, Bool.not_false]) | (refine gddS (fun hg => ?_) (fun hg => ?_) <;> try simp -implicitDefEqProofs only [hg, Bool.not_true, Bool.not_false]) | ((with_reducible apply And.intro); focus (first | trivial | omega | decide | (simp -implicitDefEqProofs only [maxLen]; omega) | (simp [maxLen, sty_len, nd_len, ndL_len, lnL_len, intsL_len, rvs_len, lensS_len]; done) | (simp [maxLen, sty_len, nd_len, ndL_len, lnL_len, intsL_len, rvs_len, lensS_len]; omega))) | fail)
            refine g_call hpo (pre_one rfl) (by simp [okU, uph]) ?_
            repeat' (first | (simp -implicitDefEqProofs only [go_sem, ↓reduceIte, Nat.reduceEqDiff, Nat.reduceAdd, Nat.reduceSub, Nat.reduceMul, Nat.reduceLeDiff, Nat.reduceLT, reduceCtorEq, Int.reduceToNat]) | (with_reducible refine g_noent ?_) | (refine cdS (fun hg => ?_) (fun hg => ?_) <;> try simp -implicitDefEqProofs only [hg, Bool.not_true, Bool.not_false]) | (refine gdS (fun hg => ?_) (fun hg => ?_) <;> try simp -implicitDefEqProofs only [hg, Bool.not_true, Bool.not_false]) | (refine gddS (fun hg => ?_) (fun hg => ?_) <;> try simp -implicitDefEqProofs only [hg, Bool.not_true, Bool.not_false]) | ((with_reducible apply And.intro); focus (first | trivial | omega | decide | (simp -implicitDefEqProofs only [maxLen]; omega) | (simp [maxLen, sty_len, nd_len, ndL_len, lnL_len, intsL_len, rvs_len, lensS_len]; done) | (simp [maxLen, sty_len, nd_len, ndL_len, lnL_len, intsL_len, rvs_len, lensS_len]; omega))) | fail)
            exact (hK _ _ ⟨trivial, rn_tup.2 ⟨rn_frz (xs := ndL (pasteF l [⟨o.s, 0⟩] n (placeF l n a))) rfl rfl (by rw [ndL_len, pasteF_len (place_le hnl a)]; rfl) (ndL_one _), rn_rv.2 rfl, trivial⟩⟩).2
      · have f3 : (o.kind == 3) = false := by simp [hk3]
        have hk4 : o.kind = 4 := by omega
        have hit : inL l o.to = true := by
          cases h : inL l o.to with
          | true => rfl
          | false => exact absurd (.inr ⟨hk4, h⟩) c3
        obtain ⟨t, ht, htl⟩ := inL_nat hit
        have hn0 : 0 < n := by
          have : o.n ≠ 0 := fun h => c4 (.inl ⟨.inr hk4, h⟩)
          omega
        have hbl : belowAt l n t = false := by
          cases h : belowAt l n t with
          | false => rfl
          | true => exact absurd (.inr (.inl ⟨hk4, by rw [hn, ht]; exact h⟩)) c4
        obtain ⟨u1, u2, u3⟩ := to_in hs hnl htl hbl
        rw [ht] at k2
        have htt : o.to.toNat = t := by rw [ht]; simp
        have hcut := sp_cut l (by omega) (parb_of hpm) n hn0 hnl
        have hLl := leftF_len hnl
        have hPl := partF_len hnl
        have g1 := endR_gt hnl
        have g2 := endR_le l n
        have hLM := left_parM hpm hnl
        have hPM := part_parM hpm hnl (by omega)
        have hpl2 := ndL_len (partF l n)
        have hto : (toF l n t : Int) = if (t : Int) > n then (t : Int) - (partF l n).length else t := by
          unfold toF; rw [hPl]
          by_cases h : t > n
          · rw [if_pos h, if_pos (by omega)]; have := u3 h; omega
          · rw [if_neg h, if_neg (by omega)]
        have wto : t > n → IntKind.i64.wrap ((t : Int) - ((partF l n).length : Int)) = (toF l n t : Nat) := fun h => by
          rw [hto, if_pos (by omega), wrap_i64 (by omega) (by omega)]
        have htoE : ¬ t > n → ((t : Nat) : Int) = (toF l n t : Nat) := fun h => by rw [hto, if_neg (by omega)]
        have hch := sp_children (leftF l n) (by omega) (toF l n t : Nat)
        have hkl := kidTo_le (l := leftF l n) (n := (toF l n t : Nat)) (k := (leftF l n).length)
        have hcv : changeF l o = if o.at' < 0 ∨ o.at' > kidTo (leftF l n) (toF l n t) (leftF l n).length then none else
            some (pasteF (leftF l n) (partF l n) (toF l n t) (placeF (leftF l n) (toF l n t) o.at'.toNat)) := by
          simp -implicitDefEqProofs only [changeF, hk1, hk2, hk3, if_false, hnt, htt]
        rw [hcv] at hK
        have hall : ∀ a : Nat, o.at' = a → ¬ o.at' > kidTo (leftF l n) (toF l n t) (leftF l n).length → CallR Go.Proofs.Try.prog 88 [.rv (.sl 49 (ndL (leftF l n))), .rv (.sl 49 (ndL (partF l n))), .rv (.int .i64 (toF l n t : Nat)), .rv (.int .i64 (a : Nat))] [] [(1, .row 49 3 (rvs (ndL (pasteF (leftF l n) (partF l n) (toF l n t) (placeF (leftF l n) (toF l n t) a)))))] (.row 1 3 ((leftF l n).length + (partF l n).length)) := fun a h h' =>
          sp_paste (leftF l n) (partF l n) (by omega) (by omega) (by omega) hLM hPM (toF l n t) (by omega) a (by omega) (place_le u1 a) 1
        have hplen := fun a => pasteF_len (part := partF l n) (n := (toF l n t : Nat)) (place_le u1 a)
        generalize toF l n t = T at *
        generalize leftF l n = L at *
        generalize partF l n = Q at *
        by_cases hgt : t > n
        · have e0 : decide ((t : Int) > (n : Int)) = true := decide_eq_true (by omega)
          have wto := wto hgt
          by_cases ha : o.at' < 0
          · have e1 : decide (o.at' < 0) = true := decide_eq_true ha
            rw [if_pos (.inl ha)] at hK
            have hcall5 := hcut; repeat' (first | (simp -implicitDefEqProofs only [go_sem, ↓reduceIte, Nat.reduceEqDiff, Nat.reduceAdd, Nat.reduceSub, Nat.reduceMul, Nat.reduceLeDiff, Nat.reduceLT, reduceCtorEq, Int.reduceToNat, opv_len, opv_at0, f1, f2, f3, k1, k2, k3, e0, hpl2, wto, e1]) | (with_reducible refine g_noent ?_) | (with_reducible refine g_call0 hcall5 ?_) | (with_reducible refine g_calld0 hcall5 ?_) | (refine cdS (fun hg => ?_) (fun hg => ?_) <;> try simp -implicitDefEqProofs only [hg, Bool.not_true, Bool.not_false]) | (refine gdS (fun hg => ?_) (fun hg => ?_) <;> try simp -implicitDefEqProofs only [hg, Bool.not_true, Bool.not_false]) | (refine gddS (fun hg => ?_) (fun hg => ?_) <;> try simp -implicitDefEqProofs only [hg, Bool.not_true, Bool.not_false]) | ((with_reducible apply And.intro); focus (first | trivial | omega | decide | (simp -implicitDefEqProofs only [maxLen]; omega) | (simp [maxLen, sty_len, nd_len, ndL_len, lnL_len, intsL_len, rvs_len, lensS_len]; done) | (simp [maxLen, sty_len, nd_len, ndL_len, lnL_len, intsL_len, rvs_len, lensS_len]; omega))) | fail)
            exact (hK _ _ (ret_t2 rfl rfl)).2
          · have e1 : decide (o.at' < 0) = false := decide_eq_false ha
            by_cases ha2 : o.at' > kidTo L T L.length
            · have e2 : decide (o.at' > (kidTo L T L.length : Nat)) = true := decide_eq_true ha2
              rw [if_pos (.inr ha2)] at hK
              have hcall6 := hcut; have hcall7 := hch; repeat' (first | (simp -implicitDefEqProofs only [go_sem, ↓reduceIte, Nat.reduceEqDiff, Nat.reduceAdd, Nat.reduceSub, Nat.reduceMul, Nat.reduceLeDiff, Nat.reduceLT, reduceCtorEq, Int.reduceToNat, opv_len, opv_at0, f1, f2, f3, k1, k2, k3, e0, hpl2, wto, e1, e2]) | (with_reducible refine g_noent ?_) | (with_reducible refine g_call0 hcall6 ?_) | (with_reducible refine g_calld0 hcall6 ?_) | (with_reducible refine g_call0 hcall7 ?_) | (with_reducible refine g_calld0 hcall7 ?_) | (refine cdS (fun hg => ?_) (fun hg => ?_) <;> try simp -implicitDefEqProofs only [hg, Bool.not_true, Bool.not_false]) | (refine gdS (fun hg => ?_) (fun hg => ?_) <;> try simp -implicitDefEqProofs only [hg, Bool.not_true, Bool.not_false]) | (refine gddS (fun hg => ?_) (fun hg => ?_) <;> try simp -implicitDefEqProofs only [hg, Bool.not_true, Bool.not_false]) | ((with_reducible apply And.intro); focus (first | trivial | omega | decide | (simp -implicitDefEqProofs only [maxLen]; omega) | (simp [maxLen, sty_len, nd_len, ndL_len, lnL_len, intsL_len, rvs_len, lensS_len]; done) | (simp [maxLen, sty_len, nd_len, ndL_len, lnL_len, intsL_len, rvs_len, lensS_len]; omega))) | fail)
              exact (hK _ _ (ret_t2 rfl rfl)).2
            · have e2 : decide (o.at' > (kidTo L T L.length : Nat)) = false := decide_eq_false ha2
              obtain ⟨a, hat⟩ : ∃ a : Nat, o.at' = a := ⟨o.at'.toNat, by omega⟩
              have hpa := hall a hat ha2
              have hpb := hplen a
              rw [if_neg (by omega), show o.at'.toNat = a by rw [hat]; simp] at hK
              rw [hat] at k3 e1 e2
              have hcall8 := hcut; have hcall9 := hch; have hcall10 := hpa; repeat' (first | (simp -implicitDefEqProofs only [go_sem, ↓reduceIte, Nat.reduceEqDiff, Nat.reduceAdd, Nat.reduceSub, Nat.reduceMul, Nat.reduceLeDiff, Nat.reduceLT, reduceCtorEq, Int.reduceToNat, opv_len, opv_at0, f1, f2, f3, k1, k2, k3, e0, hpl2, wto, e1, e2]) | (with_reducible refine g_noent ?_) | (with_reducible refine g_call0 hcall8 ?_) | (with_reducible refine g_calld0 hcall8 ?_) | (with_reducible refine g_call0 hcall9 ?_) | (with_reducible refine g_calld0 hcall9 ?_) | (refine g_call hcall10 (by simp [PreOK, hget]; done) (by simp [okU, uph]; done) ?_) | (refine g_calld hcall10 (by simp [PreOK, hget]; done) (by simp [okU, uph]; done) ?_) | (refine cdS (fun hg => ?_) (fun hg => ?_) <;> try simp -implicitDefEqProofs only [hg, Bool.not_true, Bool.not_false]) | (refine gdS (fun hg => ?_) (fun hg => ?_) <;> try simp -implicitDefEqProofs only [hg, Bool.not_true, Bool.not_false]) | (refine gddS (fun hg => ?_) (fun hg => ?_) <;> try simp -implicitDefEqProofs only [hg, Bool.not_true, Bool.not_false]) | ((with_reducible apply And.intro); focus (first | trivial | omega | decide | (simp -implicitDefEqProofs only [maxLen]; omega) | (simp [maxLen, sty_len, nd_len, ndL_len, lnL_len, intsL_len, rvs_len, lensS_len]; done) | (simp [maxLen, sty_len, nd_len, ndL_len, lnL_len, intsL_len, rvs_len, lensS_len]; omega))) | fail)
              exact (hK _ _ ⟨trivial, rn_tup.2 ⟨rn_frz (xs := ndL (pasteF L Q T (placeF L T a))) rfl rfl (by rw [ndL_len, hpb]) (ndL_one _), rn_rv.2 rfl, trivial⟩⟩).2
        · have e0 : decide ((t : Int) > (n : Int)) = false := decide_eq_false (by omega)
          have htoE := htoE hgt
          by_cases ha : o.at' < 0
          · have e1 : decide (o.at' < 0) = true := decide_eq_true ha
            rw [if_pos (.inl ha)] at hK
            have hcall11 := hcut; repeat' (first | (simp -implicitDefEqProofs only [go_sem, ↓reduceIte, Nat.reduceEqDiff, Nat.reduceAdd, Nat.reduceSub, Nat.reduceMul, Nat.reduceLeDiff, Nat.reduceLT, reduceCtorEq, Int.reduceToNat, opv_len, opv_at0, f1, f2, f3, k1, k2, k3, e0, e1]) | (with_reducible refine g_noent ?_) | (with_reducible refine g_call0 hcall11 ?_) | (with_reducible refine g_calld0 hcall11 ?_) | (refine cdS (fun hg => ?_) (fun hg => ?_) <;> try simp -implicitDefEqProofs only [hg, Bool.not_true, Bool.not_false]) | (refine gdS (fun hg => ?_) (fun hg => ?_) <;> try simp -implicitDefEqProofs only [hg, Bool.not_true, Bool.not_false]) | (refine gddS (fun hg => ?_) (fun hg => ?_) <;> try simp -implicitDefEqProofs only [hg, Bool.not_true, Bool.not_false]) | ((with_reducible apply And.intro); focus (first | trivial | omega | decide | (simp -implicitDefEqProofs only [maxLen]; omega) | (simp [maxLen, sty_len, nd_len, ndL_len, lnL_len, intsL_len, rvs_len, lensS_len]; done) | (simp [maxLen, sty_len, nd_len, ndL_len, lnL_len, intsL_len, rvs_len, lensS_len]; omega))) | fail)
            exact (hK _ _ (ret_t2 rfl rfl)).2
          · have e1 : decide (o.at' < 0) = false := decide_eq_false ha
            obtain rfl : t = T := by omega
            by_cases ha2 : o.at' > kidTo L t L.length
            · have e2 : decide (o.at' > (kidTo L t L.length : Nat)) = true := decide_eq_true ha2
              rw [if_pos (.inr ha2)] at hK
              have hcall12 := hcut; have hcall13 := hch; repeat' (first | (simp -implicitDefEqProofs only [go_sem, ↓reduceIte, Nat.reduceEqDiff, Nat.reduceAdd, Nat.reduceSub, Nat.reduceMul, Nat.reduceLeDiff, Nat.reduceLT, reduceCtorEq, Int.reduceToNat, opv_len, opv_at0, f1, f2, f3, k1, k2, k3, e0, e1, e2]) | (with_reducible refine g_noent ?_) | (with_reducible refine g_call0 hcall12 ?_) | (with_reducible refine g_calld0 hcall12 ?_) | (with_reducible refine g_call0 hcall13 ?_) | (with_reducible refine g_calld0 hcall13 ?_) | (refine cdS (fun hg => ?_) (fun hg => ?_) <;> try simp -implicitDefEqProofs only [hg, Bool.not_true, Bool.not_false]) | (refine gdS (fun hg => ?_) (fun hg => ?_) <;> try simp -implicitDefEqProofs only [hg, Bool.not_true, Bool.not_false]) | (refine gddS (fun hg => ?_) (fun hg => ?_) <;> try simp -implicitDefEqProofs only [hg, Bool.not_true, Bool.not_false]) | ((with_reducible apply And.intro); focus (first | trivial | omega | decide | (simp -implicitDefEqProofs only [maxLen]; omega) | (simp [maxLen, sty_len, nd_len, ndL_len, lnL_len, intsL_len, rvs_len, lensS_len]; done) | (simp [maxLen, sty_len, nd_len, ndL_len, lnL_len, intsL_len, rvs_len, lensS_len]; omega))) | fail)
              exact (hK _ _ (ret_t2 rfl rfl)).2
            · have e2 : decide (o.at' > (kidTo L t L.length : Nat)) = false := decide_eq_false ha2
              obtain ⟨a, hat⟩ : ∃ a : Nat, o.at' = a := ⟨o.at'.toNat, by omega⟩
              have hpa := hall a hat ha2
              have hpb := hplen a
              rw [if_neg (by omega), show o.at'.toNat = a by rw [hat]; simp] at hK
              rw [hat] at k3 e1 e2
              have hcall14 := hcut; have hcall15 := hch; have hcall16 := hpa; repeat' (first | (simp -implicitDefEqProofs only [go_sem, ↓reduceIte, Nat.reduceEqDiff, Nat.reduceAdd, Nat.reduceSub, Nat.reduceMul, Nat.reduceLeDiff, Nat.reduceLT, reduceCtorEq, Int.reduceToNat, opv_len, opv_at0, f1, f2, f3, k1, k2, k3, e0, e1, e2]) | (with_reducible refine g_noent ?_) | (with_reducible refine g_call0 hcall14 ?_) | (with_reducible refine g_calld0 hcall14 ?_) | (with_reducible refine g_call0 hcall15 ?_) | (with_reducible refine g_calld0 hcall15 ?_) | (refine g_call hcall16 (by simp [PreOK, hget]; done) (by simp [okU, uph]; done) ?_) | (refine g_calld hcall16 (by simp [PreOK, hget]; done) (by simp [okU, uph]; done) ?_) | (refine cdS (fun hg => ?_) (fun hg => ?_) <;> try simp -implicitDefEqProofs only [hg, Bool.not_true, Bool.not_false]) | (refine gdS (fun hg => ?_) (fun hg => ?_) <;> try simp -implicitDefEqProofs only [hg, Bool.not_true, Bool.not_false]) | (refine gddS (fun hg => ?_) (fun hg => ?_) <;> try simp -implicitDefEqProofs only [hg, Bool.not_true, Bool.not_false]) | ((with_reducible apply And.intro); focus (first | trivial | omega | decide | (simp -implicitDefEqProofs only [maxLen]; omega) | (simp [maxLen, sty_len, nd_len, ndL_len, lnL_len, intsL_len, rvs_len, lensS_len]; done) | (simp [maxLen, sty_len, nd_len, ndL_len, lnL_len, intsL_len, rvs_len, lensS_len]; omega))) | fail)
              exact (hK _ _ ⟨trivial, rn_tup.2 ⟨rn_frz (xs := ndL (pasteF L Q t (placeF L t a))) rfl rfl (by rw [ndL_len, hpb]) (ndL_one _), rn_rv.2 rfl, trivial⟩⟩).2

/-- A list behind a change, or what bars it. -/
def applyF (l : List Nd) (o : Opv) : Option (List Nd) × Int :=
  if mayF l o ≠ 0 then (none, mayF l o) else match changeF l o with
  | none => (none, 1)
  | some out => if chk out ≠ 0 then (none, chk out) else (some out, 0)
def resA (r : Option (List Nd) × Int) : SV := .tup [match r.1 with | none => .rv .nilsl | some out => .rv (.sl 49 (ndL out)), .rv (.int .i64 r.2)]

theorem change_len {l : List Nd} {o : Opv} {out : List Nd} (hm : mayF l o = 0) (h : changeF l o = some out) : out.length ≤ l.length + 1 := by
  obtain ⟨hc, hk14, c3, c4⟩ := may_zero hm
  have hs := tree_shp (chk_tree hc)
  have hin : inL l o.n = true := by
    cases h : inL l o.n with
    | true => rfl
    | false => exact absurd (.inl h) c3
  obtain ⟨n, hn, hnl⟩ := inL_nat hin
  have hnt : o.n.toNat = n := by rw [hn]; simp
  have g1 := endR_gt hnl
  have g2 := endR_le l n
  unfold changeF at h
  rw [hnt] at h
  split at h
  · cases h; simp
  · split at h
    · cases h; rw [leftF_len hnl]; omega
    · split at h
      · split at h
        · cases h
        · cases h; rw [pasteF_len (place_le hnl _)]; simp
      · rename_i k1 k2 k3
        have hk4 : o.kind = 4 := by omega
        have hit : inL l o.to = true := by
          cases h : inL l o.to with
          | true => rfl
          | false => exact absurd (.inr ⟨hk4, h⟩) c3
        obtain ⟨t, ht, htl⟩ := inL_nat hit
        have htt : o.to.toNat = t := by rw [ht]; simp
        have hbl : belowAt l n t = false := by
          cases h : belowAt l n t with
          | false => rfl
          | true => exact absurd (.inr (.inl ⟨hk4, by rw [hn, ht]; exact h⟩)) c4
        obtain ⟨u1, _⟩ := to_in hs hnl htl hbl
        rw [htt] at h
        split at h
        · cases h
        · cases h; rw [pasteF_len (place_le u1 _), leftF_len hnl, partF_len hnl]; omega

set_option maxRecDepth 20000 in
theorem sp_Apply (l : List Nd) (hb : l.length ≤ 1073741823) (o : Opv) : CallR Go.Proofs.Try.prog 26 [.rv (.sl 49 (ndL l)), .agg (o.cells.map .rv)] [] [] (resA (applyF l o)) := by
  refine callR_G k_edit_Apply [.rv (.sl 49 (ndL l)), .agg (o.cells.map .rv)] _ (by simp) (by simp [BkAll, bk_agg, bkAll_map, bk_rv, bk_fn, Sty.sv, Ln.sv, Nd.sv]) (fun K hK => ?_)
  have hmy := sp_may l (by omega) o
  have e00 : ((0 : Int) != 0) = false := rfl
  have e11 : ((1 : Int) != 0) = true := rfl
  simp -implicitDefEqProofs only [c_edit_Apply, go_sem, ↓reduceIte, Nat.reduceEqDiff, Nat.reduceAdd, Nat.reduceSub, Nat.reduceMul, Nat.reduceLeDiff, Nat.reduceLT, reduceCtorEq, Int.reduceToNat]
  by_cases hm : mayF l o = 0
  · have hch := sp_change l hb o hm
    rw [hm] at hmy
    have hr : applyF l o = match changeF l o with
      | none => (none, 1)
      | some out => if chk out ≠ 0 then (none, chk out) else (some out, 0) := by simp -implicitDefEqProofs only [applyF, hm]; rfl
    have hcl : ∀ out, changeF l o = some out → out.length ≤ l.length + 1 := fun out h => change_len hm h
    rw [hr] at hK
    cases hcf : changeF l o with
    | none =>
      rw [hcf] at hch hK
      have hcall17 := hmy; have hcall18 := hch; repeat' (first | (simp -implicitDefEqProofs only [go_sem, ↓reduceIte, Nat.reduceEqDiff, Nat.reduceAdd, Nat.reduceSub, Nat.reduceMul, Nat.reduceLeDiff, Nat.reduceLT, reduceCtorEq, Int.reduceToNat, opv_len, opv_all, opv_all0, e00, e11, resE]) | (with_reducible refine g_noent ?_) | (with_reducible refine g_call0 hcall17 ?_) | (with_reducible refine g_calld0 hcall17 ?_) | (with_reducible refine g_call0 hcall18 ?_) | (with_reducible refine g_calld0 hcall18 ?_) | (refine cdS (fun hg => ?_) (fun hg => ?_) <;> try simp -implicitDefEqProofs only [hg, Bool.not_true, Bool.not_false]) | (refine gdS (fun hg => ?_) (fun hg => ?_) <;> try simp -implicitDefEqProofs only [hg, Bool.not_true, Bool.not_false]) | (refine gddS (fun hg => ?_) (fun hg => ?_) <;> try simp -implicitDefEqProofs only [hg, Bool.not_true, Bool.not_false]) | ((with_reducible apply And.intro); focus (first | trivial | omega | decide | (simp -implicitDefEqProofs only [maxLen]; omega) | (simp [maxLen, sty_len, nd_len, ndL_len, lnL_len, intsL_len, rvs_len, lensS_len]; done) | (simp [maxLen, sty_len, nd_len, ndL_len, lnL_len, intsL_len, rvs_len, lensS_len]; omega))) | fail)
      exact (hK _ _ (ret_t2 rfl rfl)).2
    | some out =>
      rw [hcf] at hch hK
      have htc := sp_tree_Check out (by have := hcl out hcf; omega)
      by_cases hco : chk out = 0
      · rw [hco] at htc
        have hcall19 := hmy; have hcall20 := hch; have hcall21 := htc; repeat' (first | (simp -implicitDefEqProofs only [go_sem, ↓reduceIte, Nat.reduceEqDiff, Nat.reduceAdd, Nat.reduceSub, Nat.reduceMul, Nat.reduceLeDiff, Nat.reduceLT, reduceCtorEq, Int.reduceToNat, opv_len, opv_all, opv_all0, e00, resE]) | (with_reducible refine g_noent ?_) | (with_reducible refine g_call0 hcall19 ?_) | (with_reducible refine g_calld0 hcall19 ?_) | (with_reducible refine g_call0 hcall20 ?_) | (with_reducible refine g_calld0 hcall20 ?_) | (with_reducible refine g_call0 hcall21 ?_) | (with_reducible refine g_calld0 hcall21 ?_) | (refine cdS (fun hg => ?_) (fun hg => ?_) <;> try simp -implicitDefEqProofs only [hg, Bool.not_true, Bool.not_false]) | (refine gdS (fun hg => ?_) (fun hg => ?_) <;> try simp -implicitDefEqProofs only [hg, Bool.not_true, Bool.not_false]) | (refine gddS (fun hg => ?_) (fun hg => ?_) <;> try simp -implicitDefEqProofs only [hg, Bool.not_true, Bool.not_false]) | ((with_reducible apply And.intro); focus (first | trivial | omega | decide | (simp -implicitDefEqProofs only [maxLen]; omega) | (simp [maxLen, sty_len, nd_len, ndL_len, lnL_len, intsL_len, rvs_len, lensS_len]; done) | (simp [maxLen, sty_len, nd_len, ndL_len, lnL_len, intsL_len, rvs_len, lensS_len]; omega))) | fail)
        refine (hK _ _ ?_).2
        show retP _ _ (resA (if chk out ≠ 0 then (none, chk out) else (some out, 0))) _
        rw [if_neg (by simpa using hco)]
        exact ret_t2 rfl rfl
      · have e2 : (chk out != 0) = true := by simpa using hco
        have hcall22 := hmy; have hcall23 := hch; have hcall24 := htc; repeat' (first | (simp -implicitDefEqProofs only [go_sem, ↓reduceIte, Nat.reduceEqDiff, Nat.reduceAdd, Nat.reduceSub, Nat.reduceMul, Nat.reduceLeDiff, Nat.reduceLT, reduceCtorEq, Int.reduceToNat, opv_len, opv_all, opv_all0, e00, e2, resE]) | (with_reducible refine g_noent ?_) | (with_reducible refine g_call0 hcall22 ?_) | (with_reducible refine g_calld0 hcall22 ?_) | (with_reducible refine g_call0 hcall23 ?_) | (with_reducible refine g_calld0 hcall23 ?_) | (with_reducible refine g_call0 hcall24 ?_) | (with_reducible refine g_calld0 hcall24 ?_) | (refine cdS (fun hg => ?_) (fun hg => ?_) <;> try simp -implicitDefEqProofs only [hg, Bool.not_true, Bool.not_false]) | (refine gdS (fun hg => ?_) (fun hg => ?_) <;> try simp -implicitDefEqProofs only [hg, Bool.not_true, Bool.not_false]) | (refine gddS (fun hg => ?_) (fun hg => ?_) <;> try simp -implicitDefEqProofs only [hg, Bool.not_true, Bool.not_false]) | ((with_reducible apply And.intro); focus (first | trivial | omega | decide | (simp -implicitDefEqProofs only [maxLen]; omega) | (simp [maxLen, sty_len, nd_len, ndL_len, lnL_len, intsL_len, rvs_len, lensS_len]; done) | (simp [maxLen, sty_len, nd_len, ndL_len, lnL_len, intsL_len, rvs_len, lensS_len]; omega))) | fail)
        refine (hK _ _ ?_).2
        show retP _ _ (resA (if chk out ≠ 0 then (none, chk out) else (some out, 0))) _
        rw [if_pos hco]
        exact ret_t2 rfl rfl
  · have e1 : (mayF l o != 0) = true := by simpa using hm
    have hcall25 := hmy; repeat' (first | (simp -implicitDefEqProofs only [go_sem, ↓reduceIte, Nat.reduceEqDiff, Nat.reduceAdd, Nat.reduceSub, Nat.reduceMul, Nat.reduceLeDiff, Nat.reduceLT, reduceCtorEq, Int.reduceToNat, opv_len, opv_all, opv_all0, e1]) | (with_reducible refine g_noent ?_) | (with_reducible refine g_call0 hcall25 ?_) | (with_reducible refine g_calld0 hcall25 ?_) | (refine cdS (fun hg => ?_) (fun hg => ?_) <;> try simp -implicitDefEqProofs only [hg, Bool.not_true, Bool.not_false]) | (refine gdS (fun hg => ?_) (fun hg => ?_) <;> try simp -implicitDefEqProofs only [hg, Bool.not_true, Bool.not_false]) | (refine gddS (fun hg => ?_) (fun hg => ?_) <;> try simp -implicitDefEqProofs only [hg, Bool.not_true, Bool.not_false]) | ((with_reducible apply And.intro); focus (first | trivial | omega | decide | (simp -implicitDefEqProofs only [maxLen]; omega) | (simp [maxLen, sty_len, nd_len, ndL_len, lnL_len, intsL_len, rvs_len, lensS_len]; done) | (simp [maxLen, sty_len, nd_len, ndL_len, lnL_len, intsL_len, rvs_len, lensS_len]; omega))) | fail)
    refine (hK _ _ ?_).2
    rw [applyF, if_pos hm]
    exact ret_t2 rfl rfl
end Go.Eng

/- Things of the call's own under other numbers. -/
namespace Go.Eng
open Go

/-- One thing takes another's place: number j becomes i; what stands from m on is given up, and so is the old i. -/
def τm (i j m k : Nat) : Option Nat := if k = j then some i else if k = i then none else if k < m then some k else none
def σm (i j k : Nat) : Nat := if k = i then j else k
end Go.Eng

/- What is the caller's own is lent to a call that only reads it: whatever its other arguments. -/
namespace Go.Eng
open Go
/-- What is the caller's own is lent to a call that only reads it. -/
theorem callR_borrowN {P : Program} {f : FuncId} {args0 : List SV} {args : List SV} {pre us : List (Nat × HB)} {sv : SV} (H : CallR P f args0 [] us sv) (hl : args.length = args0.length)
    (hz : ∀ hp, PreOK hp pre → ∀ (j : Nat) (y x : SV), args[j]? = some y → args0[j]? = some x → Rn (fun _ => none) hp y x) (hfl : FlatS sv) (hus : ∀ q ∈ us, FlatH q.2 ∧ ∀ p ∈ pre, p.1 ≠ q.1) : CallR P f args pre us sv := by
  refine ⟨H.1, fun C hp w rho vs hpre hnew R hvl hvs => ?_⟩
  let C2 : Ctx := ⟨w, fun b => okk C rho hp b ∨ ∃ id, (hp id).isSome = true ∧ rho id = some b, fun _ => False, C.N, fun _ => none, fun _ => none⟩
  have hok2 : ∀ b, C2.okE b → okk C2 (fun _ => none) (fun _ => none) b := fun b hb => ⟨.inl hb, fun id hid => by simp at hid⟩
  have R2 : RepH C2 (fun _ => none) w (fun _ => none) := ⟨fun id hb h => (by cases h), fun i j b h => (by simp at h), fun i b h => (by simp at h), ⟨rfl, rfl, rfl, Nat.le_refl _, fun b _ _ => rfl⟩, fun id hb hb0 h => (by cases h)⟩
  have hfresh : ∀ id, id ∈ us.map (·.1) → hp id = none ∧ C.h0 id = none := fun id hid => by
    obtain ⟨q, hq, rfl⟩ := List.mem_map.1 hid
    rcases hnew q hq with ⟨hb, hm⟩ | h
    · exact absurd rfl ((hus q hq).2 (q.1, hb) hm)
    · exact h
  refine (H.2 C2 (fun _ => none) w (fun _ => none) vs (fun q hq => by simp at hq) (fun q hq => .inr ⟨rfl, rfl⟩) R2 (by simp [hvl, hl]) (fun j s hj => ?_)).mono ?_
  · have hlt := (List.getElem?_eq_some_iff.1 hj).1
    have hy := List.getElem?_eq_getElem (l := args) (i := j) (by omega)
    exact Rp.leave (τ := fun _ => none) (fun b hb => hok2 b (.inl hb)) (fun i b _ hi hb => hok2 b (.inr ⟨i, hi, hb⟩)) (fun i hb hi => R.heap i hb hi) (fun j id h => by cases h) (hvs j _ hy) (hz hp hpre j _ s hy hj)
  · rintro e w' ⟨v, rho', rfl, S, hR⟩
    have R' := S.mem
    have hblk : ∀ b, b < w.heap.size → w'.heap[b]? = w.heap[b]? := fun b hb => R'.fr.block b hb (fun h => h)
    have hsz : w.heap.size ≤ w'.heap.size := R'.fr.size
    have hnewb : ∀ id b, id ∈ us.map (·.1) → rho' id = some b → w.heap.size ≤ b ∧ b < w'.heap.size := fun id b hid hb => by
      obtain ⟨h1, h2⟩ := R'.own id b (upl_none.2 hid) hb
      rcases h1 with ⟨a, _⟩ | a
      · cases a
      · exact ⟨a, h2⟩
    let rhoF : Nat → Option Nat := fun id => if id ∈ us.map (·.1) then rho' id else rho id
    have rT : ∀ id, id ∈ us.map (·.1) → rhoF id = rho' id := fun id h => if_pos h
    have rN : ∀ id, id ∉ us.map (·.1) → rhoF id = rho id := fun id h => if_neg h
    have hN : ∀ id, id ∉ us.map (·.1) → upl hp us id = hp id := fun id h => upl_or h
    have hT : ∀ id, id ∈ us.map (·.1) → upl hp us id = upl (fun _ => none) us id := fun id h => upl_mem h
    have hs : ∀ j, (upl (fun _ => none) us j).isSome = true → upl hp us j = upl (fun _ => none) us j ∧ rhoF j = rho' j := fun j hj => ⟨hT j (upl_none.1 hj), rT j (upl_none.1 hj)⟩
    have okM : ∀ b, okk C rho hp b → b < w.heap.size → okk C rhoF (upl hp us) b ∧ w'.heap[b]? = w.heap[b]? := fun b hb hlt => by
      refine ⟨⟨hb.1, fun id hid he => ?_⟩, hblk b hlt⟩
      by_cases hm : id ∈ us.map (·.1)
      · rw [rT id hm] at he
        have := (hnewb id b hm he).1; omega
      · rw [hN id hm] at hid
        rw [rN id hm] at he
        exact hb.2 id hid he
    have E : Evo w w' (okk C rho hp) (okk C rhoF (upl hp us)) rho rhoF hp (upl hp us) := Evo.of okM (fun id hb hq => by
      have hm : id ∉ us.map (·.1) := fun hm => by rw [(hfresh id hm).1] at hq; cases hq
      refine ⟨hb, by rw [hN id hm]; exact hq, ?_⟩
      rw [rN id hm]
      cases hb with
      | var cs => rfl
      | row e ver xs => exact ⟨Nat.le_refl _, fun _ => ⟨rfl, rfl, fun b hb cur t hc => ⟨cur, t, by rw [hblk b (R.own id b (by rw [hq]; rfl) hb).2]; exact hc, rfl⟩⟩⟩)
    refine ⟨v, rhoF, rfl, ⟨⟨fun id hb hq => ?_, fun i j b h1 h2 h3 h4 => ?_, fun id b h1 h2 => ?_, ⟨R'.fr.os.trans R.fr.os, R'.fr.tape.trans R.fr.tape, R'.fr.output.trans R.fr.output, Nat.le_trans R.fr.size hsz, fun b h1 h2 => ?_⟩, fun id hb hb0 h1 h2 => ?_⟩, E⟩, hR.flat hs hfl⟩
    · by_cases hm : id ∈ us.map (·.1)
      · rw [hT id hm] at hq
        have hfh : FlatH hb := by
          rcases upl_val hq with h | h
          · cases h
          · exact (hus _ h).1
        exact (R'.heap id hb hq).flat hs (upl_none.2 hm) hfh
      · rw [hN id hm] at hq
        rcases R.heap id hb hq with ⟨a1, a2⟩ | ⟨b, cur, t, a1, a2, a3⟩
        · exact .inl ⟨(rN id hm).trans a1, a2⟩
        · refine .inr ⟨b, cur, t, (rN id hm).trans a1, ?_, a3.mono E⟩
          rw [hblk b (R.own id b (by rw [hq]; rfl) a1).2]; exact a2
    · by_cases hi : i ∈ us.map (·.1) <;> by_cases hj : j ∈ us.map (·.1)
      · rw [rT i hi] at h3; rw [rT j hj] at h4
        exact R'.inj i j b (upl_none.2 hi) (upl_none.2 hj) h3 h4
      · rw [rT i hi] at h3; rw [rN j hj] at h4; rw [hN j hj] at h2
        have h5 := hnewb i b hi h3; have h6 := R.own j b h2 h4; omega
      · rw [rN i hi] at h3; rw [rT j hj] at h4; rw [hN i hi] at h1
        have h5 := hnewb j b hj h4; have h6 := R.own i b h1 h3; omega
      · rw [rN i hi] at h3; rw [rN j hj] at h4; rw [hN i hi] at h1; rw [hN j hj] at h2
        exact R.inj i j b h1 h2 h3 h4
    · by_cases hm : id ∈ us.map (·.1)
      · rw [rT id hm] at h2
        obtain ⟨a1, a2⟩ := hnewb id b hm h2
        exact ⟨.inr (Nat.le_trans R.fr.size a1), a2⟩
      · rw [hN id hm] at h1; rw [rN id hm] at h2
        obtain ⟨a1, a2⟩ := R.own id b h1 h2
        exact ⟨a1, by omega⟩
    · rw [hblk b (by have := R.fr.size; omega)]; exact R.fr.block b h1 h2
    · by_cases hm : id ∈ us.map (·.1)
      · rw [(hfresh id hm).2] at h2; cases h2
      · rw [hN id hm] at h1
        have ev := R.evo id hb hb0 h1 h2
        obtain ⟨hb', g1, g2⟩ : ∃ hb', upl hp us id = some hb' ∧ EvoHB w w' (rho id) (rhoF id) hb hb' := by
          refine ⟨hb, by rw [hN id hm]; exact h1, ?_⟩
          rw [rN id hm]
          cases hb with
          | var cs => rfl
          | row e ver xs => exact ⟨Nat.le_refl _, fun _ => ⟨rfl, rfl, fun b hb cur t hc => ⟨cur, t, by rw [hblk b (R.own id b (by rw [h1]; rfl) hb).2]; exact hc, rfl⟩⟩⟩
        rw [hN id hm, h1] at g1; cases g1
        exact ev.trans g2
end Go.Eng


/- edit: the first check of the statements; the statement on how many nodes one is. -/
namespace Go.Eng
open Go
/- decoupage/decoupagelaw32.awake -/
def c_decoupagelaw32_awake : AC := (.seq (.reg [⟨(some 0), .mv, [(.c (.rv (.bool false)))], none⟩]) (.seq (.reg [⟨(some 4), (.call 44), [], none⟩, ⟨(some 5), (.build [(.bool false), (.int .i64 0), (.int .i64 0), (.int .i64 0), (.int .i64 0), (.int .i64 0), (.int .i64 0), (.int .i64 0), (.int .i64 0), (.int .i64 0), (.int .i64 0), (.int .i64 0), (.int .i64 0), (.int .i64 0), (.int .i64 0), (.int .i64 0), (.int .i64 0), (.int .i64 0), (.int .i64 0), (.int .i64 0), (.int .i64 0), (.int .i64 0), (.int .i64 0), (.int .i64 0), (.int .i64 0), (.int .i64 0), (.int .i64 0), (.int .i64 0), (.int .i64 0), (.int .i64 0), (.int .i64 0), (.int .i64 0), (.int .i64 0), (.int .i64 0), (.int .i64 0), (.int .i64 0), (.int .i64 0), (.int .i64 0), (.int .i64 0), (.int .i64 0), (.int .i64 0), (.int .i64 0), (.bool false), (.bool false), (.int .i64 0), (.bool false), (.int .i64 0), (.int .i64 0), (.int .i64 0)] [(0, 48), (48, 1)]), [(.t 4), (.c (.rv (.int .i64 (-1))))], none⟩, ⟨(some 6), (.bsl 49), [(.t 5)], none⟩, ⟨(some 7), (.call 44), [], none⟩, ⟨(some 8), (.build [(.int .i64 0), (.int .i64 0), (.int .i64 0), (.int .i64 0), (.bool false), (.int .i64 0), (.int .i64 0), (.int .i64 0), (.int .i64 0), (.int .i64 0), (.int .i64 0), (.int .i64 0), (.int .i64 0), (.int .i64 0), (.int .i64 0), (.int .i64 0), (.int .i64 0), (.int .i64 0), (.int .i64 0), (.int .i64 0), (.int .i64 0), (.int .i64 0), (.int .i64 0), (.int .i64 0), (.int .i64 0), (.int .i64 0), (.int .i64 0), (.int .i64 0), (.int .i64 0), (.int .i64 0), (.int .i64 0), (.int .i64 0), (.int .i64 0), (.int .i64 0), (.int .i64 0), (.int .i64 0), (.int .i64 0), (.int .i64 0), (.int .i64 0), (.int .i64 0), (.int .i64 0), (.int .i64 0), (.int .i64 0), (.int .i64 0), (.int .i64 0), (.int .i64 0), (.bool false), (.bool false), (.int .i64 0), (.bool false), (.int .i64 0), (.int .i64 0)] [(0, 1), (4, 48)]), [(.c (.rv (.int .i64 3))), (.t 7)], none⟩, ⟨(some 9), (.call 26), [(.t 6), (.t 8)], none⟩, ⟨(some 3), .mv, [(.t 9)], none⟩, ⟨(some 10), (.ext 0), [(.t 3)], none⟩, ⟨(some 11), (.ext 1), [(.t 3)], none⟩, ⟨(some 1), .mv, [(.t 10)], none⟩, ⟨(some 2), .mv, [(.t 11)], none⟩]) (.seq (.reg [⟨(some 12), .mv, [(.t 2)], none⟩, ⟨(some 13), (.ibin .eql), [(.t 12), (.c (.rv (.int .i64 0)))], none⟩, ⟨(some 14), .mv, [(.t 13)], none⟩, ⟨(some 15), .mv, [(.t 1)], (some (14, true))⟩, ⟨(some 16), .len, [(.t 15)], (some (14, true))⟩, ⟨(some 17), (.ibin .eql), [(.t 16), (.c (.rv (.int .i64 2)))], (some (14, true))⟩, ⟨(some 18), .pick, [(.t 14), (.t 17), (.c (.rv (.bool false)))], none⟩, ⟨(some 19), .mv, [(.t 18)], none⟩, ⟨(some 20), .mv, [(.t 1)], (some (19, true))⟩, ⟨(some 21), (.call 31), [(.t 20), (.c (.rv (.int .i64 0)))], (some (19, true))⟩, ⟨(some 22), (.ibin .eql), [(.t 21), (.c (.rv (.int .i64 2)))], (some (19, true))⟩, ⟨(some 23), .pick, [(.t 19), (.t 22), (.c (.rv (.bool false)))], none⟩, ⟨(some 0), .mv, [(.t 23)], none⟩]) .ret)))
theorem k_decoupagelaw32_awake : FnOK Go.Proofs.Try.prog 25 24 c_decoupagelaw32_awake [(.t 0)] := fnOK_of (by kernel_rfl)

theorem fz_nd {hp : Hp} {j v : Nat} {l : List Nd} (h : hp j = some (.row 49 v (rvs (ndL l)))) : Fz (fun _ => none) hp (.row j v l.length) (.sl 49 (ndL l)) := by
  have := fz_row (h := hp) (τ := fun _ => none) (j := j) (e := 49) (ver := v) (len := l.length) (xs := ndL l) h rfl (by simp [ndL]) (ndL_one l)
  rwa [List.take_of_length_le (by simp [ndL])] at this

theorem sp_mayO (l : List Nd) (hb : l.length ≤ 8589934592) (o : Opv) (j v : Nat) : CallR Go.Proofs.Try.prog 59 [.row j v l.length, .agg (o.cells.map .rv)] [(j, .row 49 v (rvs (ndL l)))] [] (.rv (.int .i64 (mayF l o))) := by
  refine callR_borrowN (args0 := [.rv (.sl 49 (ndL l)), .agg (o.cells.map .rv)]) (sp_may l hb o) rfl (fun hp' hpre k y r hy hr => ?_) (.rv _ (.int _ _)) (by simp)
  match k, hy, hr with
  | 0, hy, hr => cases hy; cases hr; exact .fz _ _ (fz_nd (hpre _ (.head _)))
  | 1, hy, hr => cases hy; cases hr; exact rn_agg.2 (rnAll_map.2 rfl)
  | k + 2, hy, hr => simp at hy
theorem sp_childrenO (l : List Nd) (hb : l.length ≤ 8589934592) (n : Int) (j v : Nat) : CallR Go.Proofs.Try.prog 87 [.row j v l.length, .rv (.int .i64 n)] [(j, .row 49 v (rvs (ndL l)))] [] (.rv (.int .i64 (kidTo l n l.length))) := by
  refine callR_borrowN (args0 := [.rv (.sl 49 (ndL l)), .rv (.int .i64 n)]) (sp_children l hb n) rfl (fun hp' hpre k y r hy hr => ?_) (.rv _ (.int _ _)) (by simp)
  match k, hy, hr with
  | 0, hy, hr => cases hy; cases hr; exact .fz _ _ (fz_nd (hpre _ (.head _)))
  | 1, hy, hr => cases hy; cases hr; exact rn_rv.2 rfl
  | k + 2, hy, hr => simp at hy
theorem sp_pasteOO (l part : List Nd) (hb : l.length ≤ 1073741824) (hpb : part.length ≤ 1073741824) (h0 : 0 < part.length) (hl : ParM l) (hp : ParM part) (n : Nat) (hn : n ≤ 1073741824) (at' : Nat) (ha : at' ≤ 8589934592) (hto : placeF l n at' ≤ l.length) (i u j v m : Nat) (him : i ≠ m) (hjm : j ≠ m) :
    CallR Go.Proofs.Try.prog 88 [.row i u l.length, .row j v part.length, .rv (.int .i64 n), .rv (.int .i64 at')] [(i, .row 49 u (rvs (ndL l))), (j, .row 49 v (rvs (ndL part)))] [(m, .row 49 3 (rvs (ndL (pasteF l part n (placeF l n at')))))] (.row m 3 (l.length + part.length)) := by
  refine callR_borrowN (args0 := [.rv (.sl 49 (ndL l)), .rv (.sl 49 (ndL part)), .rv (.int .i64 n), .rv (.int .i64 at')]) (sp_paste l part hb hpb h0 hl hp n hn at' ha hto m) rfl (fun hp' hpre k y r hy hr => ?_) (.row _ _ _) (fun q hq => ?_)
  · match k, hy, hr with
    | 0, hy, hr => cases hy; cases hr; exact .fz _ _ (fz_nd (hpre _ (.head _)))
    | 1, hy, hr => cases hy; cases hr; exact .fz _ _ (fz_nd (hpre _ (.tail _ (.head _))))
    | 2, hy, hr => cases hy; cases hr; exact rn_rv.2 rfl
    | 3, hy, hr => cases hy; cases hr; exact rn_rv.2 rfl
    | k + 4, hy, hr => simp at hy
  · simp -implicitDefEqProofs only [List.mem_singleton] at hq
    subst hq
    refine ⟨flatH_nd, fun p hp => ?_⟩
    simp -implicitDefEqProofs only [List.mem_cons, List.not_mem_nil, or_false] at hp
    rcases hp with rfl | rfl
    · exact him
    · exact hjm

abbrev oneP : List Nd := [⟨plainS, -1⟩]
abbrev twoP : List Nd := [⟨plainS, -1⟩, ⟨plainS, 0⟩]
def putO : Opv := ⟨3, 0, 0, 0, plainS⟩
theorem oneP_may : mayF oneP putO = 0 := by
  have h1 : chk oneP = 0 := one_chk
  have h2 : styOK plainS = true := by decide +kernel
  have h3 : inL oneP 0 = true := by decide
  simp -implicitDefEqProofs only [mayF, h1, putO, h2, h3]; decide
theorem oneP_kid : kidTo oneP 0 1 = 0 := by decide
theorem oneP_paste : pasteF oneP [⟨plainS, 0⟩] ((0 : Nat) : Int) (placeF oneP 0 0) = twoP := by
  simp [pasteF, placeF, partP, addN]
theorem twoP_chk : chk twoP = 0 := by decide +kernel
theorem twoP_tree : treeOK twoP = true := by decide +kernel
theorem twoP_span : spanF twoP 0 = 2 := by
  have h1 : endR twoP 0 = 2 := by
    unfold endR
    rw [endFrom_miss (by decide) (by decide), endFrom_end (by decide)]; rfl
  have h3 : inL twoP 0 = true := by decide
  simp -implicitDefEqProofs only [spanF, h3, twoP_tree, and_self, if_true]
  rw [show (0 : Int).toNat = 0 from rfl, h1]; rfl

set_option maxRecDepth 20000 in
set_option maxHeartbeats 1000000 in
theorem sp_changeO (i0 v : Nat) : CallR Go.Proofs.Try.prog 60 [.row i0 v 1, .agg (putO.cells.map .rv)] [(i0, .row 49 v (rvs (ndL oneP)))] [] (.tup [.rv (.sl 49 (ndL twoP)), .rv (.int .i64 0)]) := by
  refine callR_M k_edit_change [i0] [.row 49 v (rvs (ndL oneP))] [.row 49 v (rvs (ndL oneP))] [.row 0 v 1, .agg (putO.cells.map .rv)] [.row i0 v 1, .agg (putO.cells.map .rv)] _ _ (by simp) (by simp [BkAll, bk_row, bk_rv, bk_agg, bkAll_map]) rfl (by simp [nodupL]) ⟨rfl, rfl, ⟨rfl, _, rfl⟩, trivial⟩ (fun K hK => ?_)
  have hch := sp_childrenO oneP (by decide) 0 0 v
  rw [show kidTo oneP 0 oneP.length = 0 from oneP_kid, show oneP.length = 1 from rfl] at hch
  have hpm : ParM oneP := fun x hx => by simp at hx; subst hx; simp
  have hpo := sp_pasteOO oneP [⟨plainS, 0⟩] (by decide) (by decide) (by decide) hpm (fun x hx => by simp at hx; subst hx; simp) 0 (by decide) 0 (by decide) (by simp [placeF]) 0 v 2 0 3 (by decide) (by decide)
  rw [oneP_paste] at hpo
  have e0 : ((3 : Int) == 1) = false := rfl
  have e1 : ((3 : Int) == 2) = false := rfl
  have e2 : ((3 : Int) == 3) = true := rfl
  have e3 : decide ((0 : Int) < 0) = false := rfl
  have e4 : decide ((0 : Int) > ((0 : Nat) : Int)) = false := rfl
  have k0 : (putO.cells.map SV.rv)[0]? = some (.rv (.int .i64 3)) := rfl
  have k1 : (putO.cells.map SV.rv)[1]? = some (.rv (.int .i64 0)) := rfl
  have k3 : (putO.cells.map SV.rv)[3]? = some (.rv (.int .i64 0)) := rfl
  have ks : ((putO.cells.map SV.rv).drop 4).take 48 = plainS.cells.map SV.rv := rfl
  simp -implicitDefEqProofs only [c_edit_change, go_sem, ↓reduceIte, Nat.reduceEqDiff, Nat.reduceAdd, Nat.reduceSub, Nat.reduceMul, Nat.reduceLeDiff, Nat.reduceLT, reduceCtorEq, Int.reduceToNat]
  have hcall1 := hch; repeat' (first | (simp -implicitDefEqProofs only [go_sem, ↓reduceIte, Nat.reduceEqDiff, Nat.reduceAdd, Nat.reduceSub, Nat.reduceMul, Nat.reduceLeDiff, Nat.reduceLT, reduceCtorEq, Int.reduceToNat, opv_len, k0, e0, e1, e2, k1, k3, e3, e4, ks, sty_len]) | (with_reducible refine g_noent ?_) | (refine g_call hcall1 (by simp [PreOK, hget]; done) (by simp [okU, uph]; done) ?_) | (refine g_calld hcall1 (by simp [PreOK, hget]; done) (by simp [okU, uph]; done) ?_) | (refine cdS (fun hg => ?_) (fun hg => ?_) <;> try simp -implicitDefEqProofs only [hg, Bool.not_true, Bool.not_false]) | (refine gdS (fun hg => ?_) (fun hg => ?_) <;> try simp -implicitDefEqProofs only [hg, Bool.not_true, Bool.not_false]) | (refine gddS (fun hg => ?_) (fun hg => ?_) <;> try simp -implicitDefEqProofs only [hg, Bool.not_true, Bool.not_false]) | ((with_reducible apply And.intro); focus (first | trivial | omega | decide | (simp -implicitDefEqProofs only [maxLen]; omega) | (simp [maxLen, sty_len, nd_len, ndL_len, lnL_len, intsL_len, rvs_len, lensS_len]; done) | (simp [maxLen, sty_len, nd_len, ndL_len, lnL_len, intsL_len, rvs_len, lensS_len]; omega))) | fail)
  refine g_call hpo ?_ (by simp [okU, uph]) ?_
  · intro q hq
    simp -implicitDefEqProofs only [List.mem_cons, List.not_mem_nil, or_false] at hq
    rcases hq with rfl | rfl <;> rfl
  repeat' (first | (simp -implicitDefEqProofs only [go_sem, ↓reduceIte, Nat.reduceEqDiff, Nat.reduceAdd, Nat.reduceSub, Nat.reduceMul, Nat.reduceLeDiff, Nat.reduceLT, reduceCtorEq, Int.reduceToNat]) | (with_reducible refine g_noent ?_) | (refine cdS (fun hg => ?_) (fun hg => ?_) <;> try simp -implicitDefEqProofs only [hg, Bool.not_true, Bool.not_false]) | (refine gdS (fun hg => ?_) (fun hg => ?_) <;> try simp -implicitDefEqProofs only [hg, Bool.not_true, Bool.not_false]) | (refine gddS (fun hg => ?_) (fun hg => ?_) <;> try simp -implicitDefEqProofs only [hg, Bool.not_true, Bool.not_false]) | ((with_reducible apply And.intro); focus (first | trivial | omega | decide | (simp -implicitDefEqProofs only [maxLen]; omega) | (simp [maxLen, sty_len, nd_len, ndL_len, lnL_len, intsL_len, rvs_len, lensS_len]; done) | (simp [maxLen, sty_len, nd_len, ndL_len, lnL_len, intsL_len, rvs_len, lensS_len]; omega))) | fail)
  refine (hK _ _ _ _ [] (ent_refl _ _) ?_).2
  simp -implicitDefEqProofs only [retM, List.map_cons, List.map_nil, List.append_nil]
  refine ⟨by simp [nodupL], trivial, trivial, ⟨?_, trivial⟩, trivial, rn_tup.2 ⟨rn_frz (xs := ndL twoP) rfl rfl rfl (ndL_one _), rn_rv.2 rfl, trivial⟩⟩
  rw [show finU (lkp ([i0].zip [HB.row 49 v (rvs (ndL oneP))]) i0) [] i0 = some (HB.row 49 v (rvs (ndL oneP))) from by simp [finU, lkp]]
  exact ⟨rfl, rfl, rnRows_rvs.2 rfl⟩

set_option maxRecDepth 20000 in
theorem sp_ApplyO (i0 v : Nat) : CallR Go.Proofs.Try.prog 26 [.row i0 v 1, .agg (putO.cells.map .rv)] [(i0, .row 49 v (rvs (ndL oneP)))] [] (.tup [.rv (.sl 49 (ndL twoP)), .rv (.int .i64 0)]) := by
  refine callR_M k_edit_Apply [i0] [.row 49 v (rvs (ndL oneP))] [.row 49 v (rvs (ndL oneP))] [.row 0 v 1, .agg (putO.cells.map .rv)] [.row i0 v 1, .agg (putO.cells.map .rv)] _ _ (by simp) (by simp [BkAll, bk_row, bk_rv, bk_agg, bkAll_map]) rfl (by simp [nodupL]) ⟨rfl, rfl, ⟨rfl, _, rfl⟩, trivial⟩ (fun K hK => ?_)
  have hmy := sp_mayO oneP (by decide) putO 0 v
  rw [oneP_may, show oneP.length = 1 from rfl] at hmy
  have hch := sp_changeO 0 v
  have htc := sp_tree_Check twoP (by decide)
  rw [twoP_chk] at htc
  have e00 : ((0 : Int) != 0) = false := rfl
  simp -implicitDefEqProofs only [c_edit_Apply, go_sem, ↓reduceIte, Nat.reduceEqDiff, Nat.reduceAdd, Nat.reduceSub, Nat.reduceMul, Nat.reduceLeDiff, Nat.reduceLT, reduceCtorEq, Int.reduceToNat]
  have hcall2 := hmy; have hcall3 := hch; have hcall4 := htc; repeat' (first | (simp -implicitDefEqProofs only [go_sem, ↓reduceIte, Nat.reduceEqDiff, Nat.reduceAdd, Nat.reduceSub, Nat.reduceMul, Nat.reduceLeDiff, Nat.reduceLT, reduceCtorEq, Int.reduceToNat, opv_len, opv_all, opv_all0, e00]) | (with_reducible refine g_noent ?_) | (refine g_call hcall2 (by simp [PreOK, hget]; done) (by simp [okU, uph]; done) ?_) | (refine g_calld hcall2 (by simp [PreOK, hget]; done) (by simp [okU, uph]; done) ?_) | (refine g_call hcall3 (by simp [PreOK, hget]; done) (by simp [okU, uph]; done) ?_) | (refine g_calld hcall3 (by simp [PreOK, hget]; done) (by simp [okU, uph]; done) ?_) | (with_reducible refine g_call0 hcall4 ?_) | (with_reducible refine g_calld0 hcall4 ?_) | (refine cdS (fun hg => ?_) (fun hg => ?_) <;> try simp -implicitDefEqProofs only [hg, Bool.not_true, Bool.not_false]) | (refine gdS (fun hg => ?_) (fun hg => ?_) <;> try simp -implicitDefEqProofs only [hg, Bool.not_true, Bool.not_false]) | (refine gddS (fun hg => ?_) (fun hg => ?_) <;> try simp -implicitDefEqProofs only [hg, Bool.not_true, Bool.not_false]) | ((with_reducible apply And.intro); focus (first | trivial | omega | decide | (simp -implicitDefEqProofs only [maxLen]; omega) | (simp [maxLen, sty_len, nd_len, ndL_len, lnL_len, intsL_len, rvs_len, lensS_len]; done) | (simp [maxLen, sty_len, nd_len, ndL_len, lnL_len, intsL_len, rvs_len, lensS_len]; omega))) | fail)
  refine (hK _ _ _ _ [] (ent_refl _ _) ?_).2
  simp -implicitDefEqProofs only [retM, List.map_cons, List.map_nil, List.append_nil]
  refine ⟨by simp [nodupL], trivial, trivial, ⟨?_, trivial⟩, trivial, rn_tup.2 ⟨rn_rv.2 rfl, rn_rv.2 rfl, trivial⟩⟩
  rw [show finU (lkp ([i0].zip [HB.row 49 v (rvs (ndL oneP))]) i0) [] i0 = some (HB.row 49 v (rvs (ndL oneP))) from by simp [finU, lkp]]
  exact ⟨rfl, rfl, rnRows_rvs.2 rfl⟩

set_option maxRecDepth 20000 in
theorem sp_awake32 : CallR Go.Proofs.Try.prog 25 [] [] [] (.rv (.bool true)) := by
  refine callR_G k_decoupagelaw32_awake [] _ (by simp) (by simp [BkAll, bk_agg, bkAll_map, bk_rv, bk_fn, Sty.sv, Ln.sv, Nd.sv]) (fun K hK => ?_)
  have hap := sp_ApplyO 0 0
  have hsp := sp_Span twoP (by decide) 0
  rw [twoP_span] at hsp
  have e1 : ((0 : Int) == 0) = true := rfl
  have e2 : ((2 : Int) == 2) = true := rfl
  have e3 : (ndL twoP).length = 2 := rfl
  have e4 : (((2 : Nat) : Int) == 2) = true := rfl
  simp -implicitDefEqProofs only [c_decoupagelaw32_awake, go_sem, ↓reduceIte, Nat.reduceEqDiff, Nat.reduceAdd, Nat.reduceSub, Nat.reduceMul, Nat.reduceLeDiff, Nat.reduceLT, reduceCtorEq, Int.reduceToNat]
  have hcall5 := sp_Plain; repeat' (first | (simp -implicitDefEqProofs only [go_sem, ↓reduceIte, Nat.reduceEqDiff, Nat.reduceAdd, Nat.reduceSub, Nat.reduceMul, Nat.reduceLeDiff, Nat.reduceLT, reduceCtorEq, Int.reduceToNat, sty_len]) | (with_reducible refine g_noent ?_) | (with_reducible refine g_call0 hcall5 ?_) | (with_reducible refine g_calld0 hcall5 ?_) | (refine cdS (fun hg => ?_) (fun hg => ?_) <;> try simp -implicitDefEqProofs only [hg, Bool.not_true, Bool.not_false]) | (refine gdS (fun hg => ?_) (fun hg => ?_) <;> try simp -implicitDefEqProofs only [hg, Bool.not_true, Bool.not_false]) | (refine gddS (fun hg => ?_) (fun hg => ?_) <;> try simp -implicitDefEqProofs only [hg, Bool.not_true, Bool.not_false]) | ((with_reducible apply And.intro); focus (first | trivial | omega | decide | (simp -implicitDefEqProofs only [maxLen]; omega) | (simp [maxLen, sty_len, nd_len, ndL_len, lnL_len, intsL_len, rvs_len, lensS_len]; done) | (simp [maxLen, sty_len, nd_len, ndL_len, lnL_len, intsL_len, rvs_len, lensS_len]; omega) | (rfl; done) | (exact ⟨rfl, by decide⟩; done))) | fail)
  refine g_call hap (pre_one rfl) trivial ?_
  have hcall6 := hsp; repeat' (first | (simp -implicitDefEqProofs only [go_sem, ↓reduceIte, Nat.reduceEqDiff, Nat.reduceAdd, Nat.reduceSub, Nat.reduceMul, Nat.reduceLeDiff, Nat.reduceLT, reduceCtorEq, Int.reduceToNat, e1, e3, e4, e2]) | (with_reducible refine g_noent ?_) | (with_reducible refine g_call0 hcall6 ?_) | (with_reducible refine g_calld0 hcall6 ?_) | (refine cdS (fun hg => ?_) (fun hg => ?_) <;> try simp -implicitDefEqProofs only [hg, Bool.not_true, Bool.not_false]) | (refine gdS (fun hg => ?_) (fun hg => ?_) <;> try simp -implicitDefEqProofs only [hg, Bool.not_true, Bool.not_false]) | (refine gddS (fun hg => ?_) (fun hg => ?_) <;> try simp -implicitDefEqProofs only [hg, Bool.not_true, Bool.not_false]) | ((with_reducible apply And.intro); focus (first | trivial | omega | decide | (simp -implicitDefEqProofs only [maxLen]; omega) | (simp [maxLen, sty_len, nd_len, ndL_len, lnL_len, intsL_len, rvs_len, lensS_len]; done) | (simp [maxLen, sty_len, nd_len, ndL_len, lnL_len, intsL_len, rvs_len, lensS_len]; omega))) | fail)
  exact (hK _ _ (ret_t rfl)).2

end Go.Eng


/- edit: the statements as functions: styles. -/
namespace Go.Eng
open Go
/- decoupage/decoupageref07.Same -/
def c_decoupageref07_Same : AC := (.seq (.reg [⟨(some 4), .mv, [(.c (.rv (.bool false)))], none⟩]) (.seq (.seq (.reg [⟨(some 6), .mv, [(.t 0)], none⟩, ⟨(some 7), .len, [(.t 6)], none⟩, ⟨(some 8), .mv, [(.t 1)], none⟩, ⟨(some 9), .len, [(.t 8)], none⟩, ⟨(some 10), (.ibin .neq), [(.t 7), (.t 9)], none⟩]) (.cond (.t 10) (.seq (.reg [⟨(some 4), .mv, [(.c (.rv (.bool false)))], none⟩]) .ret) .skip)) (.seq (.seq (.reg [⟨(some 11), .mv, [(.t 0)], none⟩, ⟨(some 12), .len, [(.t 11)], none⟩, ⟨(some 13), .mv, [(.c (.rv (.int .i64 0)))], none⟩]) (.seq (.block 0 (.loop (.seq (.reg [⟨(some 14), (.ibin .lss), [(.t 13), (.t 12)], none⟩]) (.seq (.cond (.t 14) .skip (.exit 0)) (.seq (.seq (.block 1 (.seq (.reg [⟨(some 15), .mv, [(.t 13)], none⟩, ⟨(some 5), .mv, [(.t 15)], none⟩]) (.seq (.regd [0, 0, 3, 7, 0, 0, 48, 112, 255] [⟨(some 16), .mv, [(.t 0)], none⟩, ⟨(some 17), .mv, [(.t 5)], none⟩, ⟨(some 18), (.ixs 49), [(.t 16), (.t 17)], none⟩, ⟨(some 19), (.load 49 true), [(.t 18)], none⟩, ⟨(some 20), .mv, [(.t 1)], none⟩, ⟨(some 21), .mv, [(.t 5)], none⟩, ⟨(some 22), (.ixs 49), [(.t 20), (.t 21)], none⟩, ⟨(some 23), (.load 49 true), [(.t 22)], none⟩, ⟨(some 24), (.eqs true true [.b, .i, .i, .i, .i, .i, .i, .i, .i, .i, .i, .i, .i, .i, .i, .i, .i, .i, .i, .i, .i, .i, .i, .i, .i, .i, .i, .i, .i, .i, .i, .i, .i, .i, .i, .i, .i, .i, .i, .i, .i, .i, .b, .b, .i, .b, .i, .i, .i]), [(.t 19), (.t 23)], none⟩]) (.cond (.t 24) (.seq (.reg [⟨(some 4), .mv, [(.c (.rv (.bool false)))], none⟩]) .ret) .skip)))) .ent) (.reg [⟨(some 25), (.ibin .add), [(.t 13), (.c (.rv (.int .i64 1)))], none⟩, ⟨(some 13), .mv, [(.t 25)], none⟩])))))) .ent)) (.seq (.reg [⟨(some 4), .mv, [(.c (.rv (.bool true)))], none⟩]) .ret))))
theorem k_decoupageref07_Same : FnOK Go.Proofs.Try.prog 28 26 c_decoupageref07_Same [(.t 4)] := fnOK_of (by kernel_rfl)

def ckOK : CK → RV → Bool
  | .b, .bool _ => true
  | .i, .int _ _ => true
  | _, _ => false
theorem cellsEq_self : ∀ (ks : List CK) (rs : List RV), ks.length = rs.length → ((ks.zip rs).all fun p => ckOK p.1 p.2) = true → cellsEq ks (rs.map SV.rv) (rs.map SV.rv) = some (True, true)
  | [], [], _, _ => rfl
  | k :: ks, r :: rs, hl, ha => by
    simp -implicitDefEqProofs only [List.zip_cons_cons, List.all_cons, Bool.and_eq_true] at ha
    have ih := cellsEq_self ks rs (by simpa using hl) ha.2
    have h1 : cellEq k (.rv r) (.rv r) = some (True, true) := by
      have h := ha.1
      unfold ckOK at h
      split at h
      · simp [cellEq]
      · simp [cellEq]
      · cases h
    simp -implicitDefEqProofs only [List.map_cons, cellsEq, h1, ih, and_self, Bool.and_self]
  | [], _ :: _, h, _ => by simp at h
  | _ :: _, [], h, _ => by simp at h
theorem nd_eqs (x : Nd) : cellsEq [.b,.i,.i,.i,.i,.i,.i,.i,.i,.i,.i,.i,.i,.i,.i,.i,.i,.i,.i,.i,.i,.i,.i,.i,.i,.i,.i,.i,.i,.i,.i,.i,.i,.i,.i,.i,.i,.i,.i,.i,.i,.i,.b,.b,.i,.b,.i,.i,.i] (x.cells.map SV.rv) (x.cells.map SV.rv) = some (True, true) := cellsEq_self _ _ rfl rfl

theorem sp_Same07 (a : List Nd) (hb : a.length ≤ 8589934592) : CallR Go.Proofs.Try.prog 28 [.rv (.sl 49 (ndL a)), .rv (.sl 49 (ndL a))] [] [] (.rv (.bool true)) := by
  refine callR_G k_decoupageref07_Same [.rv (.sl 49 (ndL a)), .rv (.sl 49 (ndL a))] _ (by simp) (by simp [BkAll, bk_agg, bkAll_map, bk_rv, bk_fn, Sty.sv, Ln.sv, Nd.sv]) (fun K hK => ?_)
  have ha := ndL_len a
  simp -implicitDefEqProofs only [c_decoupageref07_Same, go_sem, ↓reduceIte, Nat.reduceEqDiff, Nat.reduceAdd, Nat.reduceSub, Nat.reduceMul, Nat.reduceLeDiff, Nat.reduceLT, reduceCtorEq, Int.reduceToNat]
  repeat' (first | (simp -implicitDefEqProofs only [go_sem, ↓reduceIte, Nat.reduceEqDiff, Nat.reduceAdd, Nat.reduceSub, Nat.reduceMul, Nat.reduceLeDiff, Nat.reduceLT, reduceCtorEq, Int.reduceToNat, ha, bne_self_eq_false]) | (with_reducible refine g_noent ?_) | (refine cdS (fun hg => ?_) (fun hg => ?_) <;> try simp -implicitDefEqProofs only [hg, Bool.not_true, Bool.not_false]) | (refine gdS (fun hg => ?_) (fun hg => ?_) <;> try simp -implicitDefEqProofs only [hg, Bool.not_true, Bool.not_false]) | (refine gddS (fun hg => ?_) (fun hg => ?_) <;> try simp -implicitDefEqProofs only [hg, Bool.not_true, Bool.not_false]) | ((with_reducible apply And.intro); focus (first | trivial | omega | decide | (simp -implicitDefEqProofs only [maxLen]; omega) | (simp [maxLen, sty_len, nd_len, ndL_len, lnL_len, intsL_len, rvs_len, lensS_len]; done) | (simp [maxLen, sty_len, nd_len, ndL_len, lnL_len, intsL_len, rvs_len, lensS_len]; omega))) | fail)
  refine g_loop (ι := Nat) (fun k => [(13, .rv (.int .i64 k)), (12, .rv (.int .i64 a.length)), (0, .rv (.sl 49 (ndL a))), (1, .rv (.sl 49 (ndL a)))]) (fun _ => []) (fun k => k ≤ a.length) (fun k => a.length - k) 0 (by simp) (ent_env (by simp [lk])) (fun k hk K' hN hX hR => ?_)
  simp -implicitDefEqProofs only [go_sem, ↓reduceIte, Nat.reduceEqDiff, Nat.reduceAdd, Nat.reduceSub, Nat.reduceMul, Nat.reduceLeDiff, Nat.reduceLT, reduceCtorEq, Int.reduceToNat]
  refine cdS (fun hg => ?_) (fun hg => ?_)
  · have hk4 : k < a.length := by simp at hg; omega
    have hx := ndL_get (l := a) hk4
    have wu := wrap_up (k := k) (by omega)
    have hcl := nd_len (a[k]'hk4)
    generalize a[k]'hk4 = x at *
    repeat' (first | (simp -implicitDefEqProofs only [go_sem, ↓reduceIte, Nat.reduceEqDiff, Nat.reduceAdd, Nat.reduceSub, Nat.reduceMul, Nat.reduceLeDiff, Nat.reduceLT, reduceCtorEq, Int.reduceToNat, ha, hx, nd_sv48, nd_eqs, wu, hcl]) | (with_reducible refine g_noent ?_) | (refine cdS (fun hg => ?_) (fun hg => ?_) <;> try simp -implicitDefEqProofs only [hg, Bool.not_true, Bool.not_false]) | (refine gdS (fun hg => ?_) (fun hg => ?_) <;> try simp -implicitDefEqProofs only [hg, Bool.not_true, Bool.not_false]) | (refine gddS (fun hg => ?_) (fun hg => ?_) <;> try simp -implicitDefEqProofs only [hg, Bool.not_true, Bool.not_false]) | ((with_reducible apply And.intro); focus (first | trivial | omega | decide | (simp -implicitDefEqProofs only [maxLen]; omega) | (simp [maxLen, sty_len, nd_len, ndL_len, lnL_len, intsL_len, rvs_len, lensS_len]; done) | (simp [maxLen, sty_len, nd_len, ndL_len, lnL_len, intsL_len, rvs_len, lensS_len]; omega))) | fail)
    exact hN (k + 1) _ _ (by omega) (by omega) (ent_env (by simp [lk]))
  · simp -implicitDefEqProofs only [go_sem, ↓reduceIte, Nat.reduceEqDiff, Nat.reduceAdd, Nat.reduceSub, Nat.reduceMul, Nat.reduceLeDiff, Nat.reduceLT, reduceCtorEq, Int.reduceToNat]
    refine hX _ _ _ ?_
    repeat' (first | (simp -implicitDefEqProofs only [go_sem, ↓reduceIte, Nat.reduceEqDiff, Nat.reduceAdd, Nat.reduceSub, Nat.reduceMul, Nat.reduceLeDiff, Nat.reduceLT, reduceCtorEq, Int.reduceToNat]) | (with_reducible refine g_noent ?_) | (refine cdS (fun hg => ?_) (fun hg => ?_) <;> try simp -implicitDefEqProofs only [hg, Bool.not_true, Bool.not_false]) | (refine gdS (fun hg => ?_) (fun hg => ?_) <;> try simp -implicitDefEqProofs only [hg, Bool.not_true, Bool.not_false]) | (refine gddS (fun hg => ?_) (fun hg => ?_) <;> try simp -implicitDefEqProofs only [hg, Bool.not_true, Bool.not_false]) | ((with_reducible apply And.intro); focus (first | trivial | omega | decide | (simp -implicitDefEqProofs only [maxLen]; omega) | (simp [maxLen, sty_len, nd_len, ndL_len, lnL_len, intsL_len, rvs_len, lensS_len]; done) | (simp [maxLen, sty_len, nd_len, ndL_len, lnL_len, intsL_len, rvs_len, lensS_len]; omega))) | fail)
    exact (hK _ _ (ret_t rfl)).2
theorem sp_Same07N : CallR Go.Proofs.Try.prog 28 [.rv .nilsl, .rv .nilsl] [] [] (.rv (.bool true)) := by
  refine callR_G k_decoupageref07_Same [.rv .nilsl, .rv .nilsl] _ (by simp) (by simp [BkAll, bk_agg, bkAll_map, bk_rv, bk_fn, Sty.sv, Ln.sv, Nd.sv]) (fun K hK => ?_)
  have e1 : (((0 : Nat) : Int) != ((0 : Nat) : Int)) = false := rfl
  simp -implicitDefEqProofs only [c_decoupageref07_Same, go_sem, ↓reduceIte, Nat.reduceEqDiff, Nat.reduceAdd, Nat.reduceSub, Nat.reduceMul, Nat.reduceLeDiff, Nat.reduceLT, reduceCtorEq, Int.reduceToNat]
  repeat' (first | (simp -implicitDefEqProofs only [go_sem, ↓reduceIte, Nat.reduceEqDiff, Nat.reduceAdd, Nat.reduceSub, Nat.reduceMul, Nat.reduceLeDiff, Nat.reduceLT, reduceCtorEq, Int.reduceToNat, e1, bne_self_eq_false]) | (with_reducible refine g_noent ?_) | (refine cdS (fun hg => ?_) (fun hg => ?_) <;> try simp -implicitDefEqProofs only [hg, Bool.not_true, Bool.not_false]) | (refine gdS (fun hg => ?_) (fun hg => ?_) <;> try simp -implicitDefEqProofs only [hg, Bool.not_true, Bool.not_false]) | (refine gddS (fun hg => ?_) (fun hg => ?_) <;> try simp -implicitDefEqProofs only [hg, Bool.not_true, Bool.not_false]) | ((with_reducible apply And.intro); focus (first | trivial | omega | decide | (simp -implicitDefEqProofs only [maxLen]; omega) | (simp [maxLen, sty_len, nd_len, ndL_len, lnL_len, intsL_len, rvs_len, lensS_len]; done) | (simp [maxLen, sty_len, nd_len, ndL_len, lnL_len, intsL_len, rvs_len, lensS_len]; omega))) | fail)
  refine g_loop (ι := Unit) (fun _ => [(13, .rv (.int .i64 0)), (12, .rv (.int .i64 0))]) (fun _ => []) (fun _ => True) (fun _ => 0) () trivial (ent_env (by simp [lk])) (fun _ _ K' hN hX hR => ?_)
  have e2 : decide ((0 : Int) < 0) = false := rfl
  simp -implicitDefEqProofs only [go_sem, ↓reduceIte, Nat.reduceEqDiff, Nat.reduceAdd, Nat.reduceSub, Nat.reduceMul, Nat.reduceLeDiff, Nat.reduceLT, reduceCtorEq, Int.reduceToNat]
  repeat' (first | (simp -implicitDefEqProofs only [go_sem, ↓reduceIte, Nat.reduceEqDiff, Nat.reduceAdd, Nat.reduceSub, Nat.reduceMul, Nat.reduceLeDiff, Nat.reduceLT, reduceCtorEq, Int.reduceToNat, e2]) | (with_reducible refine g_noent ?_) | (refine cdS (fun hg => ?_) (fun hg => ?_) <;> try simp -implicitDefEqProofs only [hg, Bool.not_true, Bool.not_false]) | (refine gdS (fun hg => ?_) (fun hg => ?_) <;> try simp -implicitDefEqProofs only [hg, Bool.not_true, Bool.not_false]) | (refine gddS (fun hg => ?_) (fun hg => ?_) <;> try simp -implicitDefEqProofs only [hg, Bool.not_true, Bool.not_false]) | ((with_reducible apply And.intro); focus (first | trivial | omega | decide | (simp -implicitDefEqProofs only [maxLen]; omega) | (simp [maxLen, sty_len, nd_len, ndL_len, lnL_len, intsL_len, rvs_len, lensS_len]; done) | (simp [maxLen, sty_len, nd_len, ndL_len, lnL_len, intsL_len, rvs_len, lensS_len]; omega))) | fail)
  refine hX _ _ _ ?_
  repeat' (first | (simp -implicitDefEqProofs only [go_sem, ↓reduceIte, Nat.reduceEqDiff, Nat.reduceAdd, Nat.reduceSub, Nat.reduceMul, Nat.reduceLeDiff, Nat.reduceLT, reduceCtorEq, Int.reduceToNat]) | (with_reducible refine g_noent ?_) | (refine cdS (fun hg => ?_) (fun hg => ?_) <;> try simp -implicitDefEqProofs only [hg, Bool.not_true, Bool.not_false]) | (refine gdS (fun hg => ?_) (fun hg => ?_) <;> try simp -implicitDefEqProofs only [hg, Bool.not_true, Bool.not_false]) | (refine gddS (fun hg => ?_) (fun hg => ?_) <;> try simp -implicitDefEqProofs only [hg, Bool.not_true, Bool.not_false]) | ((with_reducible apply And.intro); focus (first | trivial | omega | decide | (simp -implicitDefEqProofs only [maxLen]; omega) | (simp [maxLen, sty_len, nd_len, ndL_len, lnL_len, intsL_len, rvs_len, lensS_len]; done) | (simp [maxLen, sty_len, nd_len, ndL_len, lnL_len, intsL_len, rvs_len, lensS_len]; omega))) | fail)
  exact (hK _ _ (ret_t rfl)).2
def resL1 : Option (List Nd) → SV
  | none => .rv .nilsl
  | some out => .rv (.sl 49 (ndL out))
theorem resA_eq (r : Option (List Nd) × Int) : resA r = .tup [resL1 r.1, .rv (.int .i64 r.2)] := by
  obtain ⟨a, b⟩ := r; cases a <;> rfl
theorem sp_Same07R (r : Option (List Nd)) (hb : ∀ out, r = some out → out.length ≤ 8589934592) : CallR Go.Proofs.Try.prog 28 [resL1 r, resL1 r] [] [] (.rv (.bool true)) := by
  cases r with
  | none => exact sp_Same07N
  | some out => exact sp_Same07 out (hb out rfl)

theorem set_par {l : List Nd} {n : Nat} {s : Sty} (hn : n < l.length) : parL (l.set n ⟨s, parL l n⟩) n = parL l n := by
  rw [← parL_eq (l := l.set n ⟨s, parL l n⟩) (by simpa using hn)]; simp
theorem apply_len {l : List Nd} {o : Opv} {out : List Nd} (h : (applyF l o).1 = some out) : out.length ≤ l.length + 1 := by
  unfold applyF at h
  split at h
  · cases h
  · rename_i hm
    split at h
    · cases h
    · rename_i out' hcf
      split at h
      · cases h
      · cases h; exact change_len (by simpa using hm) hcf

theorem sty_mlen (s : Sty) : (s.cells.map SV.rv).length = 48 := rfl
end Go.Eng


/- edit: where a node that is put stands, in plain terms. -/
namespace Go.Eng
open Go

theorem par_lt {l : List Nd} (hs : Shp l) {k : Nat} (hk : k < l.length) : parL l k < k := by
  by_cases h0 : k = 0
  · subst h0; rw [hs.root]; omega
  · exact (hs.up k (by omega) hk).2.1
theorem kidTo_mono {l : List Nd} {n : Int} {a : Nat} : ∀ b, a ≤ b → kidTo l n a ≤ kidTo l n b
  | 0, h => by rw [show a = 0 by omega]; exact Nat.le_refl _
  | b + 1, h => by
    by_cases he : a = b + 1
    · rw [he]; exact Nat.le_refl _
    · have := kidTo_mono (l := l) (n := n) (a := a) b (by omega)
      rw [kidTo_succ]; omega
theorem kidTo_same {l : List Nd} {n : Int} {a : Nat} : ∀ b, a ≤ b → (∀ j, a ≤ j → j < b → parL l j ≠ n) → kidTo l n b = kidTo l n a
  | 0, h, _ => by rw [show a = 0 by omega]
  | b + 1, h, hj => by
    by_cases he : a = b + 1
    · rw [he]
    · rw [kidTo_succ, kidTo_same b (by omega) (fun j h1 h2 => hj j h1 (by omega)), if_neg (hj b (by omega) (by omega))]; rfl
theorem kidTo_more {l : List Nd} {n : Int} {a : Nat} : ∀ b, a ≤ b → kidTo l n a < kidTo l n b → ∃ c, a ≤ c ∧ c < b ∧ parL l c = n
  | 0, h, hl => by rw [show a = 0 by omega] at hl; omega
  | b + 1, h, hl => by
    by_cases he : a = b + 1
    · rw [he] at hl; omega
    · by_cases hp : parL l b = n
      · exact ⟨b, by omega, by omega, hp⟩
      · rw [kidTo_succ, if_neg hp] at hl
        obtain ⟨c, h1, h2, h3⟩ := kidTo_more b (by omega) hl
        exact ⟨c, h1, by omega, h3⟩
theorem mem_of_par {l : List Nd} (hs : Shp l) {n c : Nat} (hc : c < l.length) (hp : parL l c = n) : n ∈ pth l c ∧ n < c := by
  by_cases h0 : c = 0
  · subst h0; rw [hs.root] at hp; omega
  · have h1 := hs.up c (by omega) hc
    refine ⟨(mem_par hs.wf (by omega) hc).2 (.inr ?_), by omega⟩
    rw [hp]; simp [mem_self]
/-- The places of a node's children. -/
theorem place_kid {l : List Nd} (hs : Shp l) {n : Nat} (hn : n < l.length) : ∀ k, k ≤ kidTo l n l.length → n < placeF l n k ∧ placeF l n k ≤ l.length ∧ kidTo l n (placeF l n k) = k ∧ (k < kidTo l n l.length → placeF l n k < l.length ∧ parL l (placeF l n k) = n)
  | 0, _ => by
    have hz : kidTo l n (n + 1) = 0 := by
      rw [kidTo_same (a := 0) (n + 1) (by omega) (fun j _ hj => by
        have := par_lt hs (k := j) (by omega); omega)]
      rfl
    refine ⟨by simp [placeF], hn, hz, fun h => ?_⟩
    obtain ⟨c, h1, h2, h3⟩ := kidTo_more (l := l) (n := n) (a := n + 1) l.length (by omega) (by omega)
    obtain ⟨h4, h5⟩ := mem_of_par hs h2 h3
    have h6 := hs.between c (n + 1) h2 h4 (by omega) h1
    rw [mem_par hs.wf (by omega) (show n + 1 < l.length by omega)] at h6
    have h7 := hs.up (n + 1) (by omega) (by omega)
    rcases h6 with h6 | h6
    · omega
    · have := pth_le _ _ h6
      show n + 1 < l.length ∧ parL l (n + 1) = n
      omega
  | k + 1, hk => by
    obtain ⟨i1, i2, i3, i4⟩ := place_kid hs hn k (by omega)
    obtain ⟨i5, i6⟩ := i4 (by omega)
    show n < endR l (placeF l n k) ∧ endR l (placeF l n k) ≤ l.length ∧ kidTo l n (endR l (placeF l n k)) = k + 1 ∧ (k + 1 < kidTo l n l.length → endR l (placeF l n k) < l.length ∧ parL l (endR l (placeF l n k)) = n)
    generalize placeF l n k = m at *
    have g1 := endR_gt i5
    have g2 := endR_le l m
    have hcnt : kidTo l n (endR l m) = k + 1 := by
      rw [kidTo_same (a := m + 1) (endR l m) (by omega) (fun j h1 h2 => by
        have := endR_in (l := l) (n := m) (k := j) (by omega) h2; omega), kidTo_succ, if_pos i6, i3]
    refine ⟨by omega, g2, hcnt, fun h => ?_⟩
    obtain ⟨c, h1, h2, h3⟩ := kidTo_more (l := l) (n := n) (a := endR l m) l.length g2 (by omega)
    obtain ⟨h4, h5⟩ := mem_of_par hs h2 h3
    have he : endR l m < l.length := by omega
    have h6 := hs.between c (endR l m) h2 h4 (by omega) h1
    rw [mem_par hs.wf (by omega) he] at h6
    have h7 := hs.up (endR l m) (by omega) he
    have h8 := endR_out he
    refine ⟨he, ?_⟩
    rcases h6 with h6 | h6
    · omega
    · have h9 := pth_le _ _ h6
      obtain ⟨q, hq⟩ : ∃ q : Nat, parL l (endR l m) = q := ⟨(parL l (endR l m)).toNat, by omega⟩
      rw [hq] at h6 h8 h9 ⊢
      simp -implicitDefEqProofs only [Int.toNat_natCast] at h6 h9
      have h10 := (mem_of_par hs he hq).1
      have h11 := hs.between (endR l m) m he h10 (by omega) (by omega)
      rw [mem_par hs.wf (by omega) i5, i6] at h11
      rcases h11 with h11 | h11
      · omega
      · have := pth_le _ _ h11
        simp -implicitDefEqProofs only [Int.toNat_natCast] at this
        omega

theorem kidsTo_len2 {l : List Nd} {n : Nat} : ∀ k, parL l 0 = -1 → (kidsTo l k n).length = kidTo l n k
  | 0, _ => rfl
  | k + 1, h0 => by
    rw [kidsTo_succ, kidTo_succ, List.length_append, kidsTo_len2 k h0]
    by_cases hp : parL l k = n
    · have : 0 < k := by
        apply Classical.byContradiction
        intro h
        rw [show k = 0 by omega, h0] at hp; omega
      simp [hp, this]
    · simp [hp]
theorem kidsTo_pre {l : List Nd} {n : Nat} {a : Nat} : ∀ b, a ≤ b → ∃ r, kidsTo l b n = kidsTo l a n ++ r
  | 0, h => ⟨[], by rw [show a = 0 by omega]; simp⟩
  | b + 1, h => by
    by_cases he : a = b + 1
    · exact ⟨[], by rw [he]; simp⟩
    · obtain ⟨r, hr⟩ := kidsTo_pre (l := l) (n := n) (a := a) b (by omega)
      exact ⟨_, by rw [kidsTo_succ, hr, List.append_assoc]⟩
theorem kidsTo_eq {l l' : List Nd} {n : Nat} : ∀ k, (∀ j, j < k → parL l j = parL l' j) → kidsTo l k n = kidsTo l' k n
  | 0, _ => rfl
  | k + 1, h => by rw [kidsTo_succ, kidsTo_succ, kidsTo_eq k (fun j hj => h j (by omega)), h k (by omega)]
/-- A child by its number: it is one, and so many stand ahead. -/
theorem kids_at {l : List Nd} (h0 : parL l 0 = -1) {n c k : Nat} (hc : c < l.length) (hp : parL l c = n) (hk : kidTo l n c = k) : (kidsOf l n)[k]? = some c := by
  have hc0 : 0 < c := by
    apply Classical.byContradiction
    intro h
    rw [show c = 0 by omega, h0] at hp; omega
  obtain ⟨r, hr⟩ := kidsTo_pre (l := l) (n := n) (a := c + 1) l.length (by omega)
  unfold kidsOf
  have hl := kidsTo_len2 (n := n) c h0
  rw [hr, kidsTo_succ, if_pos ⟨hc0, hp⟩, List.append_assoc, List.getElem?_append_right (by omega), hl, hk, Nat.sub_self]
  rfl

end Go.Eng


/- Ways up: the next one, the first that is such. -/
namespace Go.Eng
open Go
theorem nats_ln (xs : List Nat) : (intsL (natsI xs)).length = xs.length := by simp [intsL, natsI]
theorem nats_at {xs : List Nat} {i : Nat} (h : i < xs.length) : (intsL (natsI xs))[i]?.getD [] = [.int .i64 (atI xs i)] := by
  rw [intsL_get (by rw [natsI_len]; exact h), atI_lt h]; simp [natsI]
/-- The first of them that is such, or none. -/
def fstI (p : Int → Bool) (xs : List Nat) : Int := match xs.find? (fun (m : Nat) => p m) with
  | some k => k
  | none => -1
end Go.Eng


/- edit: the statements as functions: puts. -/
namespace Go.Eng
open Go
end Go.Eng


/- edit: what is left is a tree; what was put in as well. -/
namespace Go.Eng
open Go

theorem pth_at {l : List Nd} {k n : Nat} (h : n ∈ pth l k) : n ≤ k := pth_le _ _ h
/-- Who is on two ways down. -/
theorem pth_both {l : List Nd} (hs : Shp l) {a b k : Nat} (hk : k < l.length) (ha : a ∈ pth l k) (hb : b ∈ pth l k) (h : a ≤ b) : a ∈ pth l b :=
  hs.between k b hk ha h (pth_at hb)
theorem below_end {l : List Nd} (hs : Shp l) {n k : Nat} (hn : n < l.length) (hk : k < l.length) : n ∈ pth l k ↔ n ≤ k ∧ k < endR l n := by
  rw [endR_eq hs hn]; exact hs.below hn hk

/-- Where what is left stood. -/
def phiL (n e : Nat) (j : Nat) : Nat := if j < n then j else j + (e - n)
/-- Where what is left stands. -/
def psiL (n e : Nat) (k : Nat) : Nat := if k < n then k else k - (e - n)
theorem left_par {l : List Nd} {n : Nat} (hn : n < l.length) {j : Nat} (hj : j < (leftF l n).length) : parL (leftF l n) j = if j < n then parL l j else if parL l (j + (endR l n - n)) ≥ endR l n then parL l (j + (endR l n - n)) - (endR l n - n : Nat) else parL l (j + (endR l n - n)) := by
  have g1 := endR_gt hn
  have g2 := endR_le l n
  have h1 : (l.take n).length = n := by simp; omega
  rw [leftF_len hn] at hj
  unfold parL leftF
  by_cases h : j < n
  · rw [if_pos h, List.getD_eq_getElem?_getD, List.getElem?_append_left (by omega), List.getElem?_take_of_lt h, ← List.getD_eq_getElem?_getD]
  · rw [if_neg h, List.getD_eq_getElem?_getD, List.getElem?_append_right (by omega), h1, List.getElem?_map, List.getElem?_drop]
    have e1 : endR l n + (j - n) = j + (endR l n - n) := by omega
    rw [e1, List.getElem?_eq_getElem (by omega), List.getD_eq_getElem?_getD, List.getElem?_eq_getElem (by omega)]
    simp -implicitDefEqProofs only [Option.map_some, Option.getD_some, subIf]
    have e2 : ((endR l n : Nat) : Int) - (n : Int) = ((endR l n - n : Nat) : Int) := by omega
    rw [e2]
    split <;> rfl
/-- No one beyond has a parent within. -/
theorem out_par {l : List Nd} (hs : Shp l) {n k : Nat} (hn : n < l.length) (hk : k < l.length) (he : endR l n ≤ k) : parL l k < n ∨ parL l k ≥ endR l n := by
  apply Classical.byContradiction
  intro h
  have g1 := endR_gt hn
  have hu := hs.up k (by omega) hk
  have h2 := (below_end hs hn (k := (parL l k).toNat) (by omega)).2 ⟨by omega, by omega⟩
  have h3 := (mem_par hs.wf (by omega) hk (n := n)).2 (.inr h2)
  have := (below_end hs hn hk).1 h3
  omega
theorem left_par2 {l : List Nd} (hs : Shp l) {n : Nat} (hn : n < l.length) {j : Nat} (h0 : 0 < j) (hj : j < (leftF l n).length) : (parL (leftF l n) j).toNat = psiL n (endR l n) (parL l (phiL n (endR l n) j)).toNat ∧ 0 ≤ parL (leftF l n) j ∧ parL (leftF l n) j < j ∧ phiL n (endR l n) (parL (leftF l n) j).toNat = (parL l (phiL n (endR l n) j)).toNat := by
  have g1 := endR_gt hn
  have g2 := endR_le l n
  have hj2 := hj
  rw [leftF_len hn] at hj2
  rw [left_par hn hj]
  unfold psiL phiL
  by_cases h : j < n
  · have hu := hs.up j h0 (by omega)
    simp -implicitDefEqProofs only [h, if_true]
    rw [if_pos (by omega), if_pos (by omega)]
    omega
  · simp -implicitDefEqProofs only [h, if_false]
    have hu := hs.up (j + (endR l n - n)) (by omega) (by omega)
    have ho := out_par hs hn (k := j + (endR l n - n)) (by omega) (by omega)
    generalize parL l (j + (endR l n - n)) = p at *
    by_cases hp : p ≥ endR l n
    · rw [if_pos hp]
      rw [if_neg (by omega), if_neg (by omega)]
      omega
    · rw [if_neg hp, if_pos (by omega), if_pos (by omega)]
      omega
theorem left_pth {l : List Nd} (hs : Shp l) {n : Nat} (h0 : 0 < n) (hn : n < l.length) : ∀ m j, j ≤ m → j < (leftF l n).length → pth (leftF l n) j = (pth l (phiL n (endR l n) j)).map (psiL n (endR l n))
  | m, j, hm, hj => by
    have g1 := endR_gt hn
    have g2 := endR_le l n
    have hj2 := hj
    rw [leftF_len hn] at hj2
    by_cases hz : j = 0
    · subst hz
      have : phiL n (endR l n) 0 = 0 := by simp [phiL, h0]
      rw [this, pth_zero, pth_zero]; simp [psiL, h0]
    · obtain ⟨a1, a2, a3, a4⟩ := left_par2 hs hn (by omega) hj
      have hfj : phiL n (endR l n) j < l.length := by unfold phiL; split <;> omega
      have hf0 : 0 < phiL n (endR l n) j := by unfold phiL; split <;> omega
      have hu := hs.up _ hf0 hfj
      rw [pth_cons (l := leftF l n) ⟨a2, a3⟩, pth_cons (l := l) ⟨hu.1, hu.2.1⟩, List.map_cons]
      have hps : psiL n (endR l n) (phiL n (endR l n) j) = j := by
        unfold psiL phiL; (repeat' split) <;> omega
      rw [hps]
      match m, hm with
      | 0, hm => omega
      | m + 1, hm => rw [left_pth hs h0 hn m _ (by omega) (by omega), a4]
theorem left_shp {l : List Nd} (hs : Shp l) {n : Nat} (h0 : 0 < n) (hn : n < l.length) : Shp (leftF l n) := by
  have g1 := endR_gt hn
  have g2 := endR_le l n
  have hlen := leftF_len hn
  refine ⟨by omega, ?_, fun j hj0 hj => ?_⟩
  · rw [left_par hn (by omega), if_pos h0]; exact hs.root
  · obtain ⟨a1, a2, a3, a4⟩ := left_par2 hs hn hj0 hj
    refine ⟨a2, a3, ?_⟩
    rw [left_pth hs h0 hn _ (j - 1) (Nat.le_refl _) (by omega), a1]
    refine List.mem_map.2 ⟨_, ?_, rfl⟩
    have hfj : phiL n (endR l n) j < l.length := by unfold phiL; split <;> omega
    have hf0 : 0 < phiL n (endR l n) j := by unfold phiL; split <;> omega
    have hu := hs.up _ hf0 hfj
    by_cases hjn : j = n
    · subst hjn
      have e1 : phiL j (endR l j) j = endR l j := by simp [phiL]; omega
      have e2 : phiL j (endR l j) (j - 1) = j - 1 := by unfold phiL; rw [if_pos (by omega)]
      rw [e1] at hu hfj ⊢
      rw [e2]
      have hout := endR_out hfj
      exact hs.between (endR l j - 1) (j - 1) (by omega) hu.2.2 (by omega) (by omega)
    · have e2 : phiL n (endR l n) (j - 1) = phiL n (endR l n) j - 1 := by unfold phiL; (repeat' split) <;> omega
      rw [e2]; exact hu.2.2

/-- Places lie within what is below. -/
theorem place_end {l : List Nd} (hs : Shp l) {n : Nat} (hn : n < l.length) : ∀ k, k ≤ kidTo l n l.length → placeF l n k ≤ endR l n
  | 0, _ => endR_gt hn
  | k + 1, hk => by
    obtain ⟨p1, p2, p3, p4⟩ := place_kid hs hn k (by omega)
    obtain ⟨p5, p6⟩ := p4 (by omega)
    have g1 := endR_gt p5
    have g2 := endR_le l (placeF l n k)
    show endR l (placeF l n k) ≤ endR l n
    have h1 := (below_end hs p5 (k := endR l (placeF l n k) - 1) (by omega)).2 ⟨by omega, by omega⟩
    have h2 := pth_sub h1 n (mem_of_par hs p5 p6).1
    have := (below_end hs hn (by omega)).1 h2
    omega
/-- Who stands where something is put, has a parent on the way to whom it is put below. -/
theorem place_par {l : List Nd} (hs : Shp l) {n : Nat} (hn : n < l.length) : ∀ k, k ≤ kidTo l n l.length → placeF l n k < l.length → (parL l (placeF l n k)).toNat ∈ pth l n
  | 0, _, hq => by
    have := (hs.up (n + 1) (by omega) hq).2.2
    simpa [placeF] using this
  | k + 1, hk, hq => by
    obtain ⟨p1, p2, p3, p4⟩ := place_kid hs hn k (by omega)
    obtain ⟨p5, p6⟩ := p4 (by omega)
    have hq' : endR l (placeF l n k) < l.length := hq
    show (parL l (endR l (placeF l n k))).toNat ∈ pth l n
    generalize placeF l n k = m at *
    have g1 := endR_gt p5
    have h1 := (below_end hs p5 (k := endR l m - 1) (by omega)).2 ⟨by omega, by omega⟩
    have hu := hs.up (endR l m) (by omega) hq'
    have ho := endR_out hq'
    have h2 := pth_both hs (by omega) hu.2.2 h1 (by omega)
    rw [mem_par hs.wf (by omega) p5, p6] at h2
    rcases h2 with h2 | h2
    · omega
    · simpa using h2
end Go.Eng


/- edit: children and ends in what is left. -/
namespace Go.Eng
open Go

theorem kids_len {l : List Nd} (h0 : parL l 0 = -1) {n : Nat} : (kidsOf l n).length = kidTo l n l.length := kidsTo_len2 _ h0
theorem kid_place {l : List Nd} (hs : Shp l) {n : Nat} (hn : n < l.length) {k : Nat} (hk : k < kidTo l n l.length) : (kidsOf l n)[k]? = some (placeF l n k) := by
  obtain ⟨p1, p2, p3, p4⟩ := place_kid hs hn k (by omega)
  obtain ⟨p5, p6⟩ := p4 hk
  exact kids_at hs.root p5 p6 p3
theorem place_last {l : List Nd} (hs : Shp l) {n : Nat} (hn : n < l.length) : placeF l n (kidTo l n l.length) = endR l n := by
  obtain ⟨p1, p2, p3, p4⟩ := place_kid hs hn _ (Nat.le_refl _)
  have h1 := place_end hs hn _ (Nat.le_refl _)
  have h2 := place_par hs hn _ (Nat.le_refl (kidTo l n l.length))
  generalize placeF l n (kidTo l n l.length) = q at *
  apply Classical.byContradiction
  intro hne
  have hql : q < l.length := by have := endR_le l n; omega
  have h3 := h2 hql
  have h4 := pth_at h3
  have h5 := (below_end hs hn hql).2 ⟨by omega, by omega⟩
  rw [mem_par hs.wf (by omega) hql] at h5
  have hu := hs.up q (by omega) hql
  rcases h5 with h5 | h5
  · omega
  · have h6 := pth_at h5
    have h7 : parL l q = n := by omega
    have h8 := kidTo_succ (l := l) (n := n) (k := q)
    rw [if_pos h7, p3] at h8
    have h9 := kidTo_mono (l := l) (n := n) (a := q + 1) l.length (by omega)
    omega

theorem toF_psi {l : List Nd} {n to : Nat} (h : to ≠ n) : toF l n to = psiL n (endR l n) to := by
  unfold toF psiL; (repeat' split) <;> omega
theorem left_kids {l : List Nd} (hs : Shp l) {n : Nat} (h0 : 0 < n) (hn : n < l.length) {to : Nat} (ht : to < l.length) (hto : ¬ (n ≤ to ∧ to < endR l n)) : kidsOf (leftF l n) (psiL n (endR l n) to) = ((kidsOf l to).filter (fun c => decide (c ≠ n))).map (psiL n (endR l n)) := by
  have g1 := endR_gt hn
  have g2 := endR_le l n
  have hlen := leftF_len hn
  have a1 : ∀ j, j ≤ n → kidsTo (leftF l n) j (psiL n (endR l n) to) = ((kidsTo l j to).filter (fun c => decide (c ≠ n))).map (psiL n (endR l n)) := by
    intro j
    induction j with
    | zero => intro _; rfl
    | succ j ih =>
      intro hj
      have hL : parL (leftF l n) j = parL l j := by rw [left_par hn (by omega), if_pos (by omega)]
      rw [kidsTo_succ, kidsTo_succ, ih (by omega), List.filter_append, List.map_append, hL]
      congr 1
      by_cases hp : 0 < j ∧ parL l j = to
      · have hpl := par_lt hs (k := j) (by omega)
        have : psiL n (endR l n) to = to := by unfold psiL; rw [if_pos (by omega)]
        rw [this, if_pos hp]
        have e1 : decide (j ≠ n) = true := by simp; omega
        simp -implicitDefEqProofs only [List.filter_cons, e1, if_true, List.filter_nil, List.map_cons, List.map_nil]
        unfold psiL; rw [if_pos (by omega)]
      · rw [if_neg hp, if_neg]
        · rfl
        · intro h
          apply hp
          refine ⟨h.1, ?_⟩
          have hpl := par_lt hs (k := j) (by omega)
          have h2 := h.2
          unfold psiL at h2
          split at h2 <;> omega
  have a2 : ∀ i, n + 1 + i ≤ endR l n → (kidsTo l (n + 1 + i) to).filter (fun c => decide (c ≠ n)) = (kidsTo l n to).filter (fun c => decide (c ≠ n)) := by
    intro i
    induction i with
    | zero =>
      intro _
      rw [Nat.add_zero, kidsTo_succ, List.filter_append]
      split <;> simp
    | succ i ih =>
      intro hi
      rw [← Nat.add_assoc, kidsTo_succ, List.filter_append, ih (by omega)]
      have h1 := endR_in (l := l) (n := n) (k := n + 1 + i) (by omega) (by omega)
      have h2 := par_lt hs (k := n + 1 + i) (by omega)
      rw [if_neg (by omega)]; simp
  have a3 : ∀ i, n + i ≤ (leftF l n).length → kidsTo (leftF l n) (n + i) (psiL n (endR l n) to) = ((kidsTo l (endR l n + i) to).filter (fun c => decide (c ≠ n))).map (psiL n (endR l n)) := by
    intro i
    induction i with
    | zero =>
      intro _
      rw [Nat.add_zero, Nat.add_zero, a1 n (Nat.le_refl _)]
      have := a2 (endR l n - (n + 1)) (by omega)
      rw [show n + 1 + (endR l n - (n + 1)) = endR l n by omega] at this
      rw [this]
    | succ i ih =>
      intro hi
      have e1 : n + i + (endR l n - n) = endR l n + i := by omega
      have hL : parL (leftF l n) (n + i) = if parL l (endR l n + i) ≥ ((endR l n : Nat) : Int) then parL l (endR l n + i) - ((endR l n - n : Nat) : Int) else parL l (endR l n + i) := by
        rw [left_par hn (by omega), if_neg (by omega), e1]
      rw [← Nat.add_assoc, ← Nat.add_assoc, kidsTo_succ, kidsTo_succ, ih (by omega), List.filter_append, List.map_append, hL]
      congr 1
      have ho := out_par hs hn (k := endR l n + i) (by omega) (by omega)
      have hu := hs.up (endR l n + i) (by omega) (by omega)
      generalize parL l (endR l n + i) = p at *
      have hiff : (0 < n + i ∧ (if p ≥ ((endR l n : Nat) : Int) then p - ((endR l n - n : Nat) : Int) else p) = ((psiL n (endR l n) to : Nat) : Int)) ↔ (0 < endR l n + i ∧ p = (to : Nat)) := by
        unfold psiL
        by_cases hp : p ≥ ((endR l n : Nat) : Int)
        · simp -implicitDefEqProofs only [hp, if_true]; split <;> omega
        · simp -implicitDefEqProofs only [hp, if_false]; split <;> omega
      by_cases hp : 0 < endR l n + i ∧ p = (to : Nat)
      · rw [if_pos hp, if_pos (hiff.2 hp)]
        have e2 : decide (endR l n + i ≠ n) = true := by simp; omega
        simp -implicitDefEqProofs only [List.filter_cons, e2, if_true, List.filter_nil, List.map_cons, List.map_nil]
        unfold psiL; rw [if_neg (by omega)]; congr 1; omega
      · rw [if_neg hp, if_neg (fun h => hp (hiff.1 h))]; rfl
  unfold kidsOf
  have := a3 ((leftF l n).length - n) (by omega)
  rw [show n + ((leftF l n).length - n) = (leftF l n).length by omega, show endR l n + ((leftF l n).length - n) = l.length by omega] at this
  exact this

/-- Where an end comes to stand. -/
def endP (n e : Nat) (k : Nat) : Nat := if k ≤ n then k else k - (e - n)
theorem left_mem {l : List Nd} (hs : Shp l) {n : Nat} (h0 : 0 < n) (hn : n < l.length) {to j : Nat} (ht : to < l.length) (hto : ¬ (n ≤ to ∧ to < endR l n)) (hj : j < (leftF l n).length) : psiL n (endR l n) to ∈ pth (leftF l n) j ↔ to ∈ pth l (phiL n (endR l n) j) := by
  have g1 := endR_gt hn
  have g2 := endR_le l n
  have hlen := leftF_len hn
  have hfj : phiL n (endR l n) j < l.length := by unfold phiL; split <;> omega
  have hfo : ¬ (n ≤ phiL n (endR l n) j ∧ phiL n (endR l n) j < endR l n) := by unfold phiL; split <;> omega
  rw [left_pth hs h0 hn _ j (Nat.le_refl _) hj]
  constructor
  · intro h
    obtain ⟨a, ha, he⟩ := List.mem_map.1 h
    have hal := pth_at ha
    have hao : ¬ (n ≤ a ∧ a < endR l n) := fun hh => by
      have h1 := (below_end hs hn (k := a) (by omega)).2 hh
      have h2 := (below_end hs hn hfj).1 (pth_sub ha n h1)
      exact hfo h2
    have : a = to := by unfold psiL at he; (repeat' split at he) <;> omega
    rw [← this]; exact ha
  · intro h
    exact List.mem_map.2 ⟨to, h, rfl⟩
theorem left_end {l : List Nd} (hs : Shp l) {n : Nat} (h0 : 0 < n) (hn : n < l.length) {to : Nat} (ht : to < l.length) (hto : ¬ (n ≤ to ∧ to < endR l n)) : endR (leftF l n) (psiL n (endR l n) to) = endP n (endR l n) (endR l to) := by
  have g1 := endR_gt hn
  have g2 := endR_le l n
  have hlen := leftF_len hn
  have t1 := endR_gt ht
  have t2 := endR_le l to
  have hT : psiL n (endR l n) to < (leftF l n).length := by unfold psiL; split <;> omega
  have u1 := endR_gt hT
  have u2 := endR_le (leftF l n) (psiL n (endR l n) to)
  have hsL := left_shp hs h0 hn
  have key : ∀ j, j < (leftF l n).length → ((psiL n (endR l n) to ≤ j ∧ j < endR (leftF l n) (psiL n (endR l n) to)) ↔ (to ≤ phiL n (endR l n) j ∧ phiL n (endR l n) j < endR l to)) := fun j hj => by
    have hfj : phiL n (endR l n) j < l.length := by unfold phiL; split <;> omega
    rw [← below_end hsL hT hj, ← below_end hs ht hfj]
    exact left_mem hs h0 hn ht hto hj
  have hin : ¬ (n < endR l to ∧ endR l to < endR l n) := fun h => by
    have hk : endR l to < l.length := by omega
    have h1 := endR_in (l := l) (n := n) h.1 h.2
    have h2 := endR_out hk
    have h3 := (below_end hs hn (k := endR l to) hk).2 ⟨by omega, h.2⟩
    by_cases hh : to < n
    · have h4 := (below_end hs ht (k := n) hn).2 ⟨by omega, by omega⟩
      omega
    · omega
  generalize hE : endR (leftF l n) (psiL n (endR l n) to) = E at *
  have k1 := (key (E - 1) (by omega)).1 ⟨by omega, by omega⟩
  unfold endP
  by_cases hEl : E < (leftF l n).length
  · have k2 : ¬ (phiL n (endR l n) E < endR l to) := fun h => by
      have hge : to ≤ phiL n (endR l n) E := by
        have := k1.1
        unfold phiL at this ⊢
        split at this <;> split <;> omega
      have := (key E hEl).2 ⟨hge, h⟩
      omega
    have k3 := k1.2
    unfold phiL at k2 k3
    by_cases c1 : E < n
    · rw [if_pos c1] at k2; rw [if_pos (by omega)] at k3; split <;> omega
    · rw [if_neg c1] at k2
      by_cases c2 : E - 1 < n
      · rw [if_pos c2] at k3; split <;> omega
      · rw [if_neg c2] at k3; split <;> omega
  · have k3 := k1.2
    unfold phiL at k3
    by_cases c2 : E - 1 < n
    · rw [if_pos c2] at k3; split <;> omega
    · rw [if_neg c2] at k3; split <;> omega
end Go.Eng


/- edit: what is put in and taken out again; what is taken out and put back. -/
namespace Go.Eng
open Go

theorem endR_unique {l : List Nd} {p e : Nat} (h1 : p < e) (h2 : e ≤ l.length) (h3 : ∀ k, p < k → k < e → (p : Int) ≤ parL l k) (h4 : e < l.length → parL l e < p) : endR l p = e := by
  have g1 := endR_gt (l := l) (n := p) (by omega)
  have g2 := endR_le l p
  rcases Nat.lt_trichotomy (endR l p) e with h | h | h
  · have := endR_out (l := l) (n := p) (by omega)
    have := h3 _ g1 h
    omega
  · exact h
  · have := endR_in (l := l) (n := p) h1 h
    have := h4 (by omega)
    omega
theorem paste_lo {l Q : List Nd} {n : Int} {q j : Nat} (hq : q ≤ l.length) (hj : j < q) : parL (pasteF l Q n q) j = parL l j := by
  have h1 : (l.take q).length = q := by simp; omega
  unfold parL pasteF
  rw [List.getD_eq_getElem?_getD, List.getD_eq_getElem?_getD, List.append_assoc, List.getElem?_append_left (by omega), List.getElem?_take_of_lt hj]
theorem paste_mid {l Q : List Nd} {n : Int} {q j : Nat} (hq : q ≤ l.length) (h1 : q ≤ j) (h2 : j < q + Q.length) : parL (pasteF l Q n q) j = if j = q then n else parL Q (j - q) + q := by
  have h3 : (l.take q).length = q := by simp; omega
  have h4 := partP_len Q n q
  unfold parL pasteF
  rw [List.getD_eq_getElem?_getD, List.append_assoc, List.getElem?_append_right (by omega), h3, List.getElem?_append_left (by omega)]
  unfold partP
  by_cases he : j = q
  · subst he
    rw [if_pos rfl, Nat.sub_self, List.getElem?_set_self (by simp; omega)]; rfl
  · rw [if_neg he, List.getElem?_set_ne (by omega), List.getElem?_map, List.getElem?_eq_getElem (by omega), List.getD_eq_getElem?_getD, List.getElem?_eq_getElem (by omega)]
    rfl
theorem paste_hi {l Q : List Nd} {n : Int} {q j : Nat} (hq : q ≤ l.length) (h1 : q + Q.length ≤ j) (h2 : j < l.length + Q.length) : parL (pasteF l Q n q) j = if parL l (j - Q.length) ≥ q then parL l (j - Q.length) + Q.length else parL l (j - Q.length) := by
  have h3 : (l.take q ++ partP Q n q).length = q + Q.length := by simp [partP_len]; omega
  unfold parL pasteF
  rw [List.getD_eq_getElem?_getD, List.getElem?_append_right (by omega), h3, List.getElem?_map, List.getElem?_drop, show q + (j - (q + Q.length)) = j - Q.length by omega, List.getElem?_eq_getElem (by omega), List.getD_eq_getElem?_getD, List.getElem?_eq_getElem (by omega)]
  simp -implicitDefEqProofs only [Option.map_some, Option.getD_some, addIf]
  split <;> rfl

/-- A part: its first one's parent is nobody. -/
structure PartOK (Q : List Nd) : Prop where
  pos : 0 < Q.length
  root : parL Q 0 = -1
  up : ∀ i, 0 < i → i < Q.length → 0 ≤ parL Q i

section
variable {L Q : List Nd} {T : Int} {p : Nat}
theorem undo_end (hs : Shp L) (hQ : PartOK Q) (hp : p ≤ L.length) : endR (pasteF L Q T p) p = p + Q.length := by
  have hlen := pasteF_len (part := Q) (n := T) hp
  have hpos := hQ.pos
  refine endR_unique (by omega) (by omega) (fun k h1 h2 => ?_) (fun h => ?_)
  · rw [paste_mid hp (by omega) h2, if_neg (by omega)]
    have := hQ.up (k - p) (by omega) (by omega)
    omega
  · rw [paste_hi hp (by omega) (by omega), show p + Q.length - Q.length = p by omega]
    have := par_lt hs (k := p) (by omega)
    rw [if_neg (by omega)]; exact this
theorem undo_left (hs : Shp L) (hQ : PartOK Q) (hp : p ≤ L.length) : leftF (pasteF L Q T p) p = L := by
  have h1 : (L.take p).length = p := by simp; omega
  have h3 : (L.take p ++ partP Q T p).length = p + Q.length := by simp [partP_len]; omega
  unfold leftF
  rw [undo_end hs hQ hp]
  have e1 : (pasteF L Q T p).take p = L.take p := by
    unfold pasteF
    rw [List.append_assoc, List.take_append_of_le_length (by omega), List.take_of_length_le (by omega)]
  have e2 : (pasteF L Q T p).drop (p + Q.length) = (L.drop p).map (addIf p (Q.length : Nat)) := by
    unfold pasteF
    rw [List.drop_append_of_le_length (by omega), List.drop_of_length_le (by omega)]; rfl
  rw [e1, e2, List.map_map]
  have e3 : (subIf ((p + Q.length : Nat) : Int) (((p + Q.length : Nat) : Int) - (p : Int))) ∘ addIf p (Q.length : Nat) = id := by
    funext x
    obtain ⟨xs, xp⟩ := x
    simp -implicitDefEqProofs only [Function.comp_apply, addIf, subIf, id_eq]
    by_cases hx : xp ≥ (p : Int)
    · simp -implicitDefEqProofs only [hx, if_true]
      rw [if_pos (by omega)]
      congr 1; omega
    · simp -implicitDefEqProofs only [hx, if_false]
      rw [if_neg (by omega)]
  rw [e3, List.map_id, List.take_append_drop]
theorem head_of (hQ : PartOK Q) : ∃ s r, Q = ⟨s, -1⟩ :: r := by
  cases Q with
  | nil => have := hQ.pos; simp at this
  | cons x r =>
    have h := hQ.root
    obtain ⟨s, q⟩ := x
    have : q = -1 := h
    subst this
    exact ⟨s, r, rfl⟩
theorem undo_part (hs : Shp L) (hQ : PartOK Q) (hp : p ≤ L.length) : partF (pasteF L Q T p) p = Q := by
  have h1 : (L.take p).length = p := by simp; omega
  have h3 : (L.take p ++ partP Q T p).length = p + Q.length := by simp [partP_len]; omega
  have e1 : part0 (pasteF L Q T p) p = partP Q T p := by
    unfold part0
    rw [undo_end hs hQ hp]
    unfold pasteF
    rw [List.take_append_of_le_length (by omega), List.take_of_length_le (by omega), List.drop_append_of_le_length (by omega), List.drop_of_length_le (by omega)]; rfl
  have e2 : ((pasteF L Q T p).getD p default).s = (Q.headD default).s := by
    unfold pasteF
    rw [List.getD_eq_getElem?_getD, List.append_assoc, List.getElem?_append_right (by omega), h1, Nat.sub_self, List.getElem?_append_left (by rw [partP_len]; exact hQ.pos)]
    unfold partP
    rw [List.getElem?_set_self (by simpa using hQ.pos)]; rfl
  unfold partF
  rw [e1, e2]
  obtain ⟨s, r, rfl⟩ := head_of hQ
  unfold partP
  simp -implicitDefEqProofs only [List.map_cons, List.set_cons_zero, List.headD_cons, List.map_map]
  have : subN p ∘ addN p = id := by
    funext x
    obtain ⟨xs, xp⟩ := x
    simp -implicitDefEqProofs only [Function.comp_apply, addN, subN, id_eq]
    congr 1; omega
  rw [this, List.map_id]
end

theorem part_ok {l : List Nd} (hs : Shp l) {n : Nat} (hn : n < l.length) : PartOK (partF l n) := by
  have g1 := endR_gt hn
  have hl := partF_len hn
  refine ⟨by omega, ?_, fun i h0 hi => ?_⟩
  · unfold parL partF
    have : 0 < ((part0 l n).map (subN n)).length := by rw [List.length_map, part0_len hn]; omega
    rw [List.getD_eq_getElem?_getD, List.getElem?_set_self this]; rfl
  · have hi2 : i < (part0 l n).length := by rw [part0_len hn]; omega
    have hni : n + i < l.length := by have := endR_le l n; omega
    have : parL (partF l n) i = parL l (n + i) - n := by
      unfold parL partF
      rw [List.getD_eq_getElem?_getD, List.getElem?_set_ne (by omega), List.getElem?_map, List.getElem?_eq_getElem hi2]
      simp -implicitDefEqProofs only [Option.map_some, Option.getD_some, subN, part0, List.getElem_drop, List.getElem_take]
      rw [List.getD_eq_getElem?_getD, List.getElem?_eq_getElem hni]; rfl
    rw [this]
    have := endR_in (l := l) (n := n) (k := n + i) (by omega) (by omega)
    omega
theorem back_paste {l : List Nd} (hs : Shp l) {n : Nat} (hn : n < l.length) : pasteF (leftF l n) (partF l n) (parL l n) n = l := by
  have g1 := endR_gt hn
  have g2 := endR_le l n
  have h1 : (l.take n).length = n := by simp; omega
  have hpl := partF_len hn
  unfold pasteF
  have e1 : (leftF l n).take n = l.take n := by
    unfold leftF
    rw [List.take_append_of_le_length (by omega), List.take_of_length_le (by omega)]
  have e2 : (leftF l n).drop n = (l.drop (endR l n)).map (subIf (endR l n) ((endR l n : Nat) - (n : Nat) : Int)) := by
    unfold leftF
    rw [List.drop_append_of_le_length (by omega), List.drop_of_length_le (by omega)]; rfl
  have e3 : partP (partF l n) (parL l n) n = part0 l n := by
    have hp0 := part0_len hn
    have h0 : 0 < (part0 l n).length := by omega
    have hget : (part0 l n)[0]'h0 = l[n]'hn := by simp [part0]
    unfold partP partF
    generalize hP : part0 l n = P at *
    cases P with
    | nil => simp at h0
    | cons x r =>
      simp -implicitDefEqProofs only [List.getElem_cons_zero] at hget
      simp -implicitDefEqProofs only [List.map_cons, List.set_cons_zero, List.headD_cons, List.map_map]
      have : addN n ∘ subN n = id := by
        funext y
        obtain ⟨ys, yp⟩ := y
        simp -implicitDefEqProofs only [Function.comp_apply, addN, subN, id_eq]
        congr 1; omega
      rw [this, List.map_id, hget, ← parL_eq hn]
      have : (l.getD n default).s = (l[n]'hn).s := by rw [List.getD_eq_getElem?_getD, List.getElem?_eq_getElem hn]; rfl
      rw [this]
  have e4 : ((l.drop (endR l n)).map (subIf (endR l n) ((endR l n : Nat) - (n : Nat) : Int))).map (addIf n ((partF l n).length : Nat)) = l.drop (endR l n) := by
    rw [List.map_map]
    conv => rhs; rw [← List.map_id (l.drop (endR l n))]
    refine List.map_congr_left fun x hx => ?_
    obtain ⟨i, hi, rfl⟩ := List.getElem_of_mem hx
    have hil : endR l n + i < l.length := by simp at hi; omega
    have ho := out_par hs hn (k := endR l n + i) hil (by omega)
    rw [← parL_eq hil] at ho
    have : (l.drop (endR l n))[i] = l[endR l n + i] := by simp
    rw [this]
    generalize l[endR l n + i] = y at *
    obtain ⟨ys, yp⟩ := y
    simp -implicitDefEqProofs only [Function.comp_apply, addIf, subIf, id_eq, hpl] at ho ⊢
    by_cases hy : yp ≥ ((endR l n : Nat) : Int)
    · simp -implicitDefEqProofs only [hy, if_true]
      rw [if_pos (by omega)]
      congr 1; omega
    · simp -implicitDefEqProofs only [hy, if_false]
      rw [if_neg (by omega)]
  rw [e1, e2, e3, e4]
  unfold part0
  have e5 : l.take n = (l.take (endR l n)).take n := by rw [List.take_take]; congr 1; omega
  rw [e5, List.take_append_drop, List.take_append_drop]
theorem kid_unique {l : List Nd} {n : Int} {a b : Nat} (ha : parL l a = n) (hb : parL l b = n) (h : kidTo l n a = kidTo l n b) : a = b := by
  have h1 := kidTo_succ (l := l) (n := n) (k := a)
  have h2 := kidTo_succ (l := l) (n := n) (k := b)
  rw [if_pos ha] at h1
  rw [if_pos hb] at h2
  rcases Nat.lt_trichotomy a b with hh | hh | hh
  · have := kidTo_mono (l := l) (n := n) (a := a + 1) b (by omega); omega
  · exact hh
  · have := kidTo_mono (l := l) (n := n) (a := b + 1) a (by omega); omega
theorem back_place {l : List Nd} (hs : Shp l) {n f : Nat} (h0 : 0 < n) (hn : n < l.length) (hf : parL l n = f) : placeF (leftF l n) f (kidTo l f n) = n ∧ kidTo l f n ≤ kidTo (leftF l n) f (leftF l n).length := by
  have hfn : f < n := by have := par_lt hs hn; omega
  have g1 := endR_gt hn
  have g2 := endR_le l n
  have hlen := leftF_len hn
  have hk1 := kidTo_succ (l := l) (n := f) (k := n)
  rw [if_pos hf] at hk1
  have hk2 := kidTo_mono (l := l) (n := f) (a := n + 1) l.length (by omega)
  have key : ∀ j, j ≤ kidTo l f n → placeF (leftF l n) f j = placeF l f j := by
    intro j
    induction j with
    | zero => intro _; rfl
    | succ j ih =>
      intro hj
      show endR (leftF l n) (placeF (leftF l n) f j) = endR l (placeF l f j)
      rw [ih (by omega)]
      obtain ⟨p1, p2, p3, p4⟩ := place_kid hs (n := f) (by omega) j (by omega)
      obtain ⟨p5, p6⟩ := p4 (by omega)
      obtain ⟨q1, q2, q3, q4⟩ := place_kid hs (n := f) (by omega) (j + 1) (by omega)
      have hm : placeF l f j < n := by
        apply Classical.byContradiction
        intro h
        have := kidTo_mono (l := l) (n := f) (a := n) (placeF l f j) (by omega)
        omega
      have he : endR l (placeF l f j) ≤ n := by
        apply Classical.byContradiction
        intro h
        have := kidTo_mono (l := l) (n := f) (a := n + 1) (placeF l f (j + 1)) (by show n + 1 ≤ endR l (placeF l f j); omega)
        omega
      have h1 := left_end hs h0 hn (to := placeF l f j) p5 (by omega)
      have h2 : psiL n (endR l n) (placeF l f j) = placeF l f j := by unfold psiL; rw [if_pos hm]
      rw [h2] at h1
      rw [h1]; unfold endP; rw [if_pos he]
  constructor
  · rw [key _ (Nat.le_refl _)]
    obtain ⟨p1, p2, p3, p4⟩ := place_kid hs (n := f) (by omega) (kidTo l f n) (by omega)
    obtain ⟨p5, p6⟩ := p4 (by omega)
    exact kid_unique p6 hf p3
  · have h1 : kidTo (leftF l n) f n = kidTo l f n := by
      unfold kidTo
      congr 1
      refine List.filter_congr fun j hj => ?_
      have hj : j < n := by simpa using hj
      rw [left_par hn (by omega), if_pos hj]
    rw [← h1]
    exact kidTo_mono _ (by omega)
end Go.Eng


/- edit: where things stand after a move. -/
namespace Go.Eng
open Go
theorem end_out {l : List Nd} (hs : Shp l) {n to : Nat} (hn : n < l.length) (ht : to < l.length) (hto : ¬ (n ≤ to ∧ to < endR l n)) : endR l to ≤ n ∨ endR l n ≤ endR l to := by
  apply Classical.byContradiction
  intro h
  have g1 := endR_gt hn
  have g2 := endR_le l n
  have t1 := endR_gt ht
  have hk : endR l to < l.length := by omega
  have h1 := endR_in (l := l) (n := n) (k := endR l to) (by omega) (by omega)
  have h2 := endR_out hk
  by_cases hh : to < n
  · have h4 := (below_end hs ht (k := n) hn).2 ⟨by omega, by omega⟩
    omega
  · omega
/-- A node's children but one. -/
def kidsBut (l : List Nd) (n to : Nat) : List Nat := (kidsOf l to).filter (fun c => decide (c ≠ n))
def nextF (l : List Nd) (n to a : Nat) : Nat := if a < (kidsBut l n to).length then (kidsBut l n to).getD a 0 else endR l to
theorem mem_but {l : List Nd} {n to c : Nat} (h : c ∈ kidsBut l n to) : c < l.length ∧ parL l c = to ∧ c ≠ n := by
  simp -implicitDefEqProofs only [kidsBut, List.mem_filter, decide_eq_true_eq] at h
  obtain ⟨h1, h2⟩ := h
  rw [mem_kids] at h1
  exact ⟨h1.2.1, h1.2.2, h2⟩
theorem but_len {l : List Nd} (hs : Shp l) {n : Nat} (h0 : 0 < n) (hn : n < l.length) {to : Nat} (ht : to < l.length) (hto : ¬ (n ≤ to ∧ to < endR l n)) : (kidsBut l n to).length = kidTo (leftF l n) (psiL n (endR l n) to : Nat) (leftF l n).length := by
  rw [← kids_len (left_shp hs h0 hn).root, left_kids hs h0 hn ht hto, List.length_map]; rfl
theorem next_place {l : List Nd} (hs : Shp l) {n : Nat} (h0 : 0 < n) (hn : n < l.length) {to a : Nat} (ht : to < l.length) (hto : ¬ (n ≤ to ∧ to < endR l n)) (ha : a ≤ kidTo (leftF l n) (psiL n (endR l n) to : Nat) (leftF l n).length) :
    placeF (leftF l n) (psiL n (endR l n) to) a = endP n (endR l n) (nextF l n to a) ∧ (nextF l n to a ≤ n ∨ endR l n ≤ nextF l n to a) ∧ to < nextF l n to a ∧ nextF l n to a ≤ l.length := by
  have g1 := endR_gt hn
  have g2 := endR_le l n
  have hlen := leftF_len hn
  have hsL := left_shp hs h0 hn
  have hT : psiL n (endR l n) to < (leftF l n).length := by unfold psiL; split <;> omega
  have hbl := but_len hs h0 hn ht hto
  unfold nextF
  by_cases h : a < (kidsBut l n to).length
  · rw [if_pos h]
    have hc := List.getElem_mem h
    have hge : (kidsBut l n to).getD a 0 = (kidsBut l n to)[a] := by rw [List.getD_eq_getElem?_getD, List.getElem?_eq_getElem h]; rfl
    rw [hge]
    obtain ⟨c1, c2, c3⟩ := mem_but hc
    have hk := kid_place hsL hT (k := a) (by omega)
    rw [left_kids hs h0 hn ht hto, List.getElem?_map] at hk
    have : ((kidsOf l to).filter (fun c => decide (c ≠ n)))[a]? = some ((kidsBut l n to)[a]) := List.getElem?_eq_getElem h
    rw [this] at hk
    simp -implicitDefEqProofs only [Option.map_some, Option.some.injEq] at hk
    generalize (kidsBut l n to)[a] = c at *
    have hpl := par_lt hs c1
    have hco : c < n ∨ endR l n ≤ c := by
      apply Classical.byContradiction
      intro hh
      have := endR_in (l := l) (n := n) (k := c) (by omega) (by omega)
      omega
    refine ⟨?_, by omega, by omega, by omega⟩
    rw [← hk]; unfold psiL endP; (repeat' split) <;> omega
  · rw [if_neg h]
    have hae : a = kidTo (leftF l n) (psiL n (endR l n) to : Nat) (leftF l n).length := by omega
    have t1 := endR_gt ht
    have t2 := endR_le l to
    refine ⟨?_, end_out hs hn ht hto, t1, t2⟩
    rw [hae, place_last hsL hT, left_end hs h0 hn ht hto]

/-- Where a node that is not moved stands. -/
def shiftF (l : List Nd) (n to a m sp : Nat) : Int := (if m > n then (m : Int) - sp else m) + if m ≥ nextF l n to a then (sp : Int) else 0
def kbTo (l : List Nd) (n to k : Nat) : List Nat := ((kidsOf l to).take k).filter (fun c => decide (c ≠ n))
def kbR (l : List Nd) (n to k : Nat) : List (Option HB) := [some (.row 1 (kbTo l n to k).length (rvs (intsL (natsI (kbTo l n to k)))))]
end Go.Eng


/- edit: trees of children: how they grow. -/
namespace Go.Eng
open Go
/- decoupage/decoupageref32.Grow -/
def c_decoupageref32_Grow : AC := (.seq (.reg [⟨(some 4), (.alloc [(.bool false), (.int .i64 0), (.int .i64 0), (.int .i64 0), (.int .i64 0), (.int .i64 0), (.int .i64 0), (.int .i64 0), (.int .i64 0), (.int .i64 0), (.int .i64 0), (.int .i64 0), (.int .i64 0), (.int .i64 0), (.int .i64 0), (.int .i64 0), (.int .i64 0), (.int .i64 0), (.int .i64 0), (.int .i64 0), (.int .i64 0), (.int .i64 0), (.int .i64 0), (.int .i64 0), (.int .i64 0), (.int .i64 0), (.int .i64 0), (.int .i64 0), (.int .i64 0), (.int .i64 0), (.int .i64 0), (.int .i64 0), (.int .i64 0), (.int .i64 0), (.int .i64 0), (.int .i64 0), (.int .i64 0), (.int .i64 0), (.int .i64 0), (.int .i64 0), (.int .i64 0), (.int .i64 0), (.bool false), (.bool false), (.int .i64 0), (.bool false), (.int .i64 0), (.int .i64 0), (.int .i64 0), .nilsl]), [], none⟩]) (.seq (.reg [⟨(some 8), .mv, [(.t 0)], none⟩, ⟨(some 9), .mv, [(.t 1)], none⟩, ⟨(some 10), (.ixs 49), [(.t 8), (.t 9)], none⟩, ⟨(some 11), (.fld 0), [(.t 10)], none⟩, ⟨(some 12), (.load 48 true), [(.t 11)], none⟩, ⟨(some 13), .mv, [(.t 1)], none⟩, ⟨(some 14), (.build [(.bool false), (.int .i64 0), (.int .i64 0), (.int .i64 0), (.int .i64 0), (.int .i64 0), (.int .i64 0), (.int .i64 0), (.int .i64 0), (.int .i64 0), (.int .i64 0), (.int .i64 0), (.int .i64 0), (.int .i64 0), (.int .i64 0), (.int .i64 0), (.int .i64 0), (.int .i64 0), (.int .i64 0), (.int .i64 0), (.int .i64 0), (.int .i64 0), (.int .i64 0), (.int .i64 0), (.int .i64 0), (.int .i64 0), (.int .i64 0), (.int .i64 0), (.int .i64 0), (.int .i64 0), (.int .i64 0), (.int .i64 0), (.int .i64 0), (.int .i64 0), (.int .i64 0), (.int .i64 0), (.int .i64 0), (.int .i64 0), (.int .i64 0), (.int .i64 0), (.int .i64 0), (.int .i64 0), (.bool false), (.bool false), (.int .i64 0), (.bool false), (.int .i64 0), (.int .i64 0), (.int .i64 0), .nilsl] [(0, 48), (48, 1)]), [(.t 12), (.t 13)], none⟩, ⟨(some 5), (.alloc [(.bool false), (.int .i64 0), (.int .i64 0), (.int .i64 0), (.int .i64 0), (.int .i64 0), (.int .i64 0), (.int .i64 0), (.int .i64 0), (.int .i64 0), (.int .i64 0), (.int .i64 0), (.int .i64 0), (.int .i64 0), (.int .i64 0), (.int .i64 0), (.int .i64 0), (.int .i64 0), (.int .i64 0), (.int .i64 0), (.int .i64 0), (.int .i64 0), (.int .i64 0), (.int .i64 0), (.int .i64 0), (.int .i64 0), (.int .i64 0), (.int .i64 0), (.int .i64 0), (.int .i64 0), (.int .i64 0), (.int .i64 0), (.int .i64 0), (.int .i64 0), (.int .i64 0), (.int .i64 0), (.int .i64 0), (.int .i64 0), (.int .i64 0), (.int .i64 0), (.int .i64 0), (.int .i64 0), (.bool false), (.bool false), (.int .i64 0), (.bool false), (.int .i64 0), (.int .i64 0), (.int .i64 0), .nilsl]), [], none⟩, ⟨none, (.store 50), [(.t 5), (.t 14)], none⟩]) (.seq (.reg [⟨(some 15), .mv, [(.t 0)], none⟩, ⟨(some 16), .mv, [(.t 1)], none⟩, ⟨(some 17), (.call 34), [(.t 15), (.t 16)], none⟩, ⟨(some 6), .mv, [(.t 17)], none⟩]) (.seq (.seq (.reg [⟨(some 18), .mv, [(.t 6)], none⟩, ⟨(some 19), .len, [(.t 18)], none⟩, ⟨(some 20), .mv, [(.c (.rv (.int .i64 0)))], none⟩]) (.seq (.block 0 (.loop (.seq (.reg [⟨(some 21), (.ibin .lss), [(.t 20), (.t 19)], none⟩]) (.seq (.cond (.t 21) .skip (.exit 0)) (.seq (.seq (.block 1 (.seq (.reg [⟨(some 22), .mv, [(.t 20)], none⟩, ⟨(some 7), .mv, [(.t 22)], none⟩]) (.regd [0, 1, 0, 0, 0, 24, 56, 124, 252, 511, 1023, 2047] [⟨(some 23), (.fld 49), [(.t 5)], none⟩, ⟨(some 24), (.load 1 false), [(.t 23)], none⟩, ⟨(some 25), .mv, [(.t 0)], none⟩, ⟨(some 26), .mv, [(.t 6)], none⟩, ⟨(some 27), .mv, [(.t 7)], none⟩, ⟨(some 28), (.ixs 1), [(.t 26), (.t 27)], none⟩, ⟨(some 29), (.load 1 false), [(.t 28)], none⟩, ⟨(some 30), (.call 35), [(.t 25), (.t 29)], none⟩, ⟨(some 31), (.bsl 50), [(.t 30)], none⟩, ⟨(some 32), (.app 50 408), [(.t 24), (.t 31)], none⟩, ⟨(some 33), (.fld 49), [(.t 5)], none⟩, ⟨none, (.store 1), [(.t 33), (.t 32)], none⟩]))) .ent) (.reg [⟨(some 34), (.ibin .add), [(.t 20), (.c (.rv (.int .i64 1)))], none⟩, ⟨(some 20), .mv, [(.t 34)], none⟩])))))) .ent)) (.seq (.reg [⟨(some 35), (.load 50 true), [(.t 5)], none⟩, ⟨none, (.store 50), [(.t 4), (.t 35)], none⟩]) .ret)))))
theorem k_decoupageref32_Grow : FnOK Go.Proofs.Try.prog 35 36 c_decoupageref32_Grow [(.c 4 50 true)] := fnOK_of (by kernel_rfl)


theorem ent_ghostVarE {n0 : Nat} {env : List (Nat × SV)} {h : List (Option HB)} (i0 e o : Nat) {cs : List SV} (hi : hget h i0 = some (.var cs)) (ho : cs[o]? = some (.rv .nilsl)) : Ent n0 ⟨env, h⟩ ⟨env, uph (uph h (h.length, .row e 0 [])) (i0, .var (cs.set o (.row h.length 0 0)))⟩ := by
  intro C a w R
  obtain ⟨⟨rho, RF⟩, h1, h0⟩ := R
  have hnone : hget h h.length = none := by unfold hget; rw [List.getElem?_eq_none (Nat.le_refl _)]
  have hC0 : C.h0 h.length = none := h0 _ h1
  obtain ⟨rho', S⟩ := RF.mem.ghostVar e hi ho hnone hC0
  have RF' := RF.step S
  have hlt : i0 < h.length := by
    apply Classical.byContradiction
    intro hc
    unfold hget at hi
    rw [List.getElem?_eq_none (by omega)] at hi; cases hi
  have e1 := hget_uph (h := h) (q := (h.length, .row e 0 [])) (Nat.le_refl _)
  have l1 := uph_length h (h.length, .row e 0 [])
  have e2 := hget_uph (h := uph h (h.length, .row e 0 [])) (q := (i0, .var (cs.set o (.row h.length 0 0)))) (by show i0 ≤ _; omega)
  have l2 := uph_length (uph h (h.length, .row e 0 [])) (i0, .var (cs.set o (.row h.length 0 0)))
  refine ⟨⟨rho', ?_⟩, ?_, h0⟩
  · show RepF C (lk env) (hget (uph (uph h (h.length, .row e 0 [])) (i0, .var (cs.set o (.row h.length 0 0))))) a w rho'
    rw [e2, e1]; exact RF'
  · have h1' : n0 ≤ h.length := h1
    show n0 ≤ (uph (uph h (h.length, .row e 0 [])) (i0, .var (cs.set o (.row h.length 0 0)))).length
    omega

theorem clA_pre {n : Nat} : ∀ (rs : List RV) {ys : List SV}, ClA n ys → ClA n (rs.map SV.rv ++ ys)
  | [], _, h => h
  | r :: rs, _, h => ⟨clS_rv.2 trivial, clA_pre rs h⟩

inductive Trx where
  | mk (s : Sty) (was : Int) (kids : List Trx)
mutual
def Trx.cells : Trx → List RV
  | .mk s w ks => s.cells ++ [.int .i64 w, .sl 50 (trL ks)]
def trL : List Trx → List (List RV)
  | [] => []
  | t :: ts => t.cells :: trL ts
end
theorem trL_map : ∀ (ks : List Trx), trL ks = ks.map Trx.cells
  | [] => by rw [trL]; rfl
  | t :: ts => by rw [trL, trL_map ts]; rfl
theorem tr_mk (s : Sty) (w : Int) (ks : List Trx) : (Trx.mk s w ks).cells = s.cells ++ [.int .i64 w, .sl 50 (trL ks)] := by rw [Trx.cells]
theorem tr_len : ∀ t : Trx, t.cells.length = 50
  | .mk s w ks => by rw [tr_mk]; rfl
theorem trL_len (ks : List Trx) : (trL ks).length = ks.length := by rw [trL_map]; simp
theorem trL_get {ks : List Trx} {k : Nat} (h : k < ks.length) : (trL ks)[k]?.getD [] = (ks[k]'h).cells := by rw [trL_map]; simp [h]
theorem tr_one : ∀ t : Trx, ∀ r ∈ t.cells, r.one = true
  | .mk s w ks => by
    intro r hr
    rw [tr_mk, List.mem_append] at hr
    rcases hr with hr | hr
    · exact sty_one _ r hr
    · simp -implicitDefEqProofs only [List.mem_cons, List.not_mem_nil, or_false] at hr
      rcases hr with rfl | rfl <;> rfl
theorem trL_one (ks : List Trx) : ∀ x ∈ trL ks, ∀ r ∈ x, r.one = true := by
  intro x hx
  rw [trL_map] at hx
  obtain ⟨t, _, rfl⟩ := List.mem_map.1 hx
  exact tr_one t
theorem trL_app {ks : List Trx} {t : Trx} : rvs (trL ks) ++ [t.cells.map SV.rv] = rvs (trL (ks ++ [t])) := by simp [rvs, trL_map]
theorem rnAll_pre {τ : Nat → Option Nat} {h : Hp} : ∀ (rs : List RV) {ys zs : List SV}, RnAll τ h ys zs → RnAll τ h (rs.map SV.rv ++ ys) (rs.map SV.rv ++ zs)
  | [], _, _, hh => hh
  | r :: rs, _, _, hh => ⟨rn_rv.2 rfl, rnAll_pre rs hh⟩

/-- The tree below a node, so deep. -/
def growF (l : List Nd) : Nat → Nat → Trx
  | 0, n => .mk (l.getD n default).s n []
  | d + 1, n => .mk (l.getD n default).s n ((kidsOf l n).map (growF l d))
def gkTo (l : List Nd) (d n k : Nat) : List Trx := ((kidsOf l n).take k).map (growF l d)
theorem gkTo_len {l : List Nd} {d n k : Nat} (h : k ≤ (kidsOf l n).length) : (gkTo l d n k).length = k := by simp [gkTo]; omega
theorem gkTo_succ {l : List Nd} {d n k : Nat} (h : k < (kidsOf l n).length) : gkTo l d n (k + 1) = gkTo l d n k ++ [growF l d ((kidsOf l n)[k]'h)] := by
  unfold gkTo; rw [List.take_succ_eq_append_getElem h, List.map_append]; rfl

theorem sty_t48 (s : Sty) (r : List SV) : List.take 48 (s.cells.map SV.rv ++ r) = s.cells.map SV.rv := rfl
theorem sty_d49 (s : Sty) (a : SV) (r : List SV) : List.drop 49 (s.cells.map SV.rv ++ a :: r) = r := rfl
theorem sty_i48 (s : Sty) (a b : SV) : (s.cells.map SV.rv ++ [a, b])[48]? = some a := rfl
theorem sty_i49 (s : Sty) (a b : SV) : (s.cells.map SV.rv ++ [a, b])[49]? = some b := rfl
theorem sty_s49 (s : Sty) (a b x : SV) : List.take 49 (s.cells.map SV.rv ++ [a, b]) ++ [x] ++ List.drop 50 (s.cells.map SV.rv ++ [a, b]) = s.cells.map SV.rv ++ [a, x] := rfl
theorem sty_t50 (s : Sty) (a b : SV) : List.take 50 (s.cells.map SV.rv ++ [a, b]) = s.cells.map SV.rv ++ [a, b] := rfl
theorem sty_l50 (s : Sty) (a b : SV) : (s.cells.map SV.rv ++ [a, b]).length = 50 := rfl
theorem sty_a2 (s : Sty) (a b : SV) : s.cells.map SV.rv ++ [a] ++ [b] = s.cells.map SV.rv ++ [a, b] := by simp
theorem tr_t50 (t : Trx) : (t.cells.map SV.rv).take 50 = t.cells.map SV.rv := List.take_of_length_le (by rw [List.length_map, tr_len]; exact Nat.le_refl _)
theorem tr_mlen (t : Trx) : (t.cells.map SV.rv).length = 50 := by rw [List.length_map, tr_len]
def zero50 : List SV := (default : Sty).cells.map SV.rv ++ [.rv (.int .i64 0), .rv .nilsl]
theorem zero50_len : zero50.length = 50 := rfl
theorem zero50_drop : zero50.drop 50 = [] := rfl

set_option maxRecDepth 20000 in
set_option maxHeartbeats 4000000 in
theorem sp_Grow32 (l : List Nd) (hs : Shp l) (hb : l.length ≤ 1073741823) : ∀ d n, n < l.length → l.length - n ≤ d → CallR Go.Proofs.Try.prog 35 [.rv (.sl 49 (ndL l)), .rv (.int .i64 n)] [] [] (.agg ((growF l d n).cells.map .rv)) := by
  intro d
  induction d with
  | zero => intro n hn hd; omega
  | succ d ih =>
    intro n hn hd
    refine callR_G k_decoupageref32_Grow [.rv (.sl 49 (ndL l)), .rv (.int .i64 n)] _ (by simp) (by simp [BkAll, bk_agg, bkAll_map, bk_rv, bk_fn, Sty.sv, Ln.sv, Nd.sv]) (fun K hK => ?_)
    have hlen := ndL_len l
    have hx := ndL_get hn
    have hk := sp_ref08_Kids l (by omega) n hn
    have hkl := nats_ln (kidsOf l n)
    have hkn : (kidsOf l n).length ≤ l.length := kidsTo_len
    simp -implicitDefEqProofs only [c_decoupageref32_Grow, go_sem, ↓reduceIte, Nat.reduceEqDiff, Nat.reduceAdd, Nat.reduceSub, Nat.reduceMul, Nat.reduceLeDiff, Nat.reduceLT, reduceCtorEq, Int.reduceToNat]
    have hcall1 := hk; repeat' (first | (simp -implicitDefEqProofs only [go_sem, ↓reduceIte, Nat.reduceEqDiff, Nat.reduceAdd, Nat.reduceSub, Nat.reduceMul, Nat.reduceLeDiff, Nat.reduceLT, reduceCtorEq, Int.reduceToNat, hx, hlen, nd_len, nd_style, sty_mlen, sty_len, sty_t48, sty_d49, sty_a2, hkl]) | (with_reducible refine g_noent ?_) | (with_reducible refine g_call0 hcall1 ?_) | (with_reducible refine g_calld0 hcall1 ?_) | (refine cdS (fun hg => ?_) (fun hg => ?_) <;> try simp -implicitDefEqProofs only [hg, Bool.not_true, Bool.not_false]) | (refine gdS (fun hg => ?_) (fun hg => ?_) <;> try simp -implicitDefEqProofs only [hg, Bool.not_true, Bool.not_false]) | (refine gddS (fun hg => ?_) (fun hg => ?_) <;> try simp -implicitDefEqProofs only [hg, Bool.not_true, Bool.not_false]) | ((with_reducible apply And.intro); focus (first | trivial | omega | decide | (simp -implicitDefEqProofs only [maxLen]; omega) | (simp [maxLen, sty_len, nd_len, ndL_len, lnL_len, intsL_len, rvs_len, lensS_len]; done) | (simp [maxLen, sty_len, nd_len, ndL_len, lnL_len, intsL_len, rvs_len, lensS_len]; omega))) | fail)
    have hsx : (l.getD n default).s = (l[n]'hn).s := by rw [List.getD_eq_getElem?_getD, List.getElem?_eq_getElem hn]; rfl
    have hgr : growF l (d + 1) n = .mk (l[n]'hn).s n (gkTo l d n (kidsOf l n).length) := by rw [growF, hsx]; unfold gkTo; rw [List.take_length]
    rw [hgr] at hK
    generalize (l[n]'hn).s = s at *
    refine g_loop (ι := Nat) (fun k => [(20, .rv (.int .i64 k)), (19, .rv (.int .i64 (kidsOf l n).length)), (6, .rv (.sl 1 (intsL (natsI (kidsOf l n))))), (5, .ptr 1 0), (4, .ptr 0 0), (0, .rv (.sl 49 (ndL l)))]) (fun k => [some (.var zero50), some (.var (s.cells.map SV.rv ++ [.rv (.int .i64 n), .row 2 k k])), some (.row 50 k (rvs (trL (gkTo l d n k))))]) (fun k => k ≤ (kidsOf l n).length) (fun k => (kidsOf l n).length - k) 0 (by simp) ((ent_ghostVarE 1 50 49 rfl rfl).trans (ent_env (by simp [lk, uph]))) (fun k hk' K' hN hX hR => ?_)
    simp -implicitDefEqProofs only [go_sem, ↓reduceIte, Nat.reduceEqDiff, Nat.reduceAdd, Nat.reduceSub, Nat.reduceMul, Nat.reduceLeDiff, Nat.reduceLT, reduceCtorEq, Int.reduceToNat]
    refine cdS (fun hg => ?_) (fun hg => ?_)
    · have hk4 : k < (kidsOf l n).length := by simp at hg; omega
      have wu := wrap_up (k := k) (by omega)
      have hat := nats_at hk4
      rw [atI_lt hk4] at hat
      have hmem := List.getElem_mem hk4
      rw [mem_kids] at hmem
      have hsu := gkTo_succ (d := d) hk4
      have hpl := par_lt hs hmem.2.1
      have hcall := ih ((kidsOf l n)[k]'hk4) hmem.2.1 (by omega)
      generalize (kidsOf l n)[k]'hk4 = c at *
      have hgl := gkTo_len (d := d) (Nat.le_of_lt hk4)
      have htl := trL_len (gkTo l d n k)
      have htk : (trL (gkTo l d n k)).take k = trL (gkTo l d n k) := List.take_of_length_le (by omega)
      generalize growF l d c = t at *
      have hap : gkTo l d n k ++ [t] = gkTo l d n (k + 1) := hsu.symm
      have hcall2 := hcall; repeat' (first | (simp -implicitDefEqProofs only [go_sem, ↓reduceIte, Nat.reduceEqDiff, Nat.reduceAdd, Nat.reduceSub, Nat.reduceMul, Nat.reduceLeDiff, Nat.reduceLT, reduceCtorEq, Int.reduceToNat, sty_i49, hat, hkl, tr_mlen, hgl, htl, htk, trL_app, hap, sty_s49, sty_l50, wu]) | (with_reducible refine g_noent ?_) | (with_reducible refine g_call0 hcall2 ?_) | (with_reducible refine g_calld0 hcall2 ?_) | (refine cdS (fun hg => ?_) (fun hg => ?_) <;> try simp -implicitDefEqProofs only [hg, Bool.not_true, Bool.not_false]) | (refine gdS (fun hg => ?_) (fun hg => ?_) <;> try simp -implicitDefEqProofs only [hg, Bool.not_true, Bool.not_false]) | (refine gddS (fun hg => ?_) (fun hg => ?_) <;> try simp -implicitDefEqProofs only [hg, Bool.not_true, Bool.not_false]) | ((with_reducible apply And.intro); focus (first | trivial | omega | decide | (simp -implicitDefEqProofs only [maxLen]; omega) | (simp [maxLen, sty_len, nd_len, ndL_len, lnL_len, intsL_len, rvs_len, lensS_len]; done) | (simp [maxLen, sty_len, nd_len, ndL_len, lnL_len, intsL_len, rvs_len, lensS_len]; omega))) | fail)
      refine hN (k + 1) _ _ (by omega) (by omega) ?_
      have a1 : ClH 3 (.var zero50) := clA_pre (default : Sty).cells (ys := [.rv (.int .i64 0), .rv .nilsl]) ⟨clS_rv.2 trivial, clS_rv.2 trivial, trivial⟩
      have a2 : ClH 3 (.var (s.cells.map SV.rv ++ [.rv (.int .i64 n), .row 2 (k + 1) (k + 1)])) := clA_pre s.cells (ys := [.rv (.int .i64 n), .row 2 (k + 1) (k + 1)]) ⟨clS_rv.2 trivial, clS_row.2 (by decide), trivial⟩
      refine ent_tail (h' := [some (.var zero50), some (.var (s.cells.map SV.rv ++ [.rv (.int .i64 n), .row 2 (k + 1) (k + 1)])), some (.row 50 (k + 1) (rvs (trL (gkTo l d n (k + 1)))))]) (C := [some (.row 50 0 [t.cells.map SV.rv])]) (Nat.zero_le _) ⟨a1, a2, clH_rvs, trivial⟩ ?_
      simp [ClEnv, lk, clS_rv, clS_row, clS_ptr]
    · have hk4 : k = (kidsOf l n).length := by simp at hg; omega
      subst hk4
      simp -implicitDefEqProofs only [go_sem, ↓reduceIte, Nat.reduceEqDiff, Nat.reduceAdd, Nat.reduceSub, Nat.reduceMul, Nat.reduceLeDiff, Nat.reduceLT, reduceCtorEq, Int.reduceToNat]
      refine hX _ _ _ ?_
      repeat' (first | (simp -implicitDefEqProofs only [go_sem, ↓reduceIte, Nat.reduceEqDiff, Nat.reduceAdd, Nat.reduceSub, Nat.reduceMul, Nat.reduceLeDiff, Nat.reduceLT, reduceCtorEq, Int.reduceToNat, sty_t50, sty_l50, zero50_len, zero50_drop, List.append_nil]) | (with_reducible refine g_noent ?_) | (refine cdS (fun hg => ?_) (fun hg => ?_) <;> try simp -implicitDefEqProofs only [hg, Bool.not_true, Bool.not_false]) | (refine gdS (fun hg => ?_) (fun hg => ?_) <;> try simp -implicitDefEqProofs only [hg, Bool.not_true, Bool.not_false]) | (refine gddS (fun hg => ?_) (fun hg => ?_) <;> try simp -implicitDefEqProofs only [hg, Bool.not_true, Bool.not_false]) | ((with_reducible apply And.intro); focus (first | trivial | omega | decide | (simp -implicitDefEqProofs only [maxLen]; omega) | (simp [maxLen, sty_len, nd_len, ndL_len, lnL_len, intsL_len, rvs_len, lensS_len]; done) | (simp [maxLen, sty_len, nd_len, ndL_len, lnL_len, intsL_len, rvs_len, lensS_len]; omega))) | fail)
      refine (hK _ _ ?_).2
      rw [tr_mk, List.map_append]
      simp -implicitDefEqProofs only [retP, resL, lk, resT_one, go_sem, ↓reduceIte, Nat.reduceEqDiff, Nat.reduceAdd, Nat.reduceSub, Nat.reduceMul, Nat.reduceLeDiff, Nat.reduceLT, reduceCtorEq, Int.reduceToNat, sty_t50, sty_l50]
      exact rn_agg.2 (rnAll_pre s.cells ⟨rn_rv.2 rfl, rn_frz (xs := trL (gkTo l d n (kidsOf l n).length)) rfl rfl (by rw [trL_len, gkTo_len (Nat.le_refl _)]) (trL_one _), trivial⟩)
end Go.Eng


/- edit: the statements as functions: moves. -/
namespace Go.Eng
open Go

theorem apply_of {l : List Nd} {o : Opv} {out : List Nd} (hm : mayF l o = 0) (hc : changeF l o = some out) (ho : chk out = 0) : applyF l o = (some out, 0) := by
  unfold applyF
  rw [if_neg (by simpa using hm), hc]
  simp only
  rw [if_neg (by simpa using ho)]

/-- What a move does, and what is known of it. -/
structure Mv (l : List Nd) (n to a : Nat) (x : List Nd) : Prop where
  n0 : 0 < n
  hn : n < l.length
  ht : to < l.length
  hto : ¬ (n ≤ to ∧ to < endR l n)
  ha : a ≤ kidTo (leftF l n) (psiL n (endR l n) to : Nat) (leftF l n).length
  hx : x = pasteF (leftF l n) (partF l n) (psiL n (endR l n) to : Nat) (placeF (leftF l n) (psiL n (endR l n) to) a)
theorem Mv.lt {l : List Nd} {n to a : Nat} {x : List Nd} (M : Mv l n to a x) : psiL n (endR l n) to < (leftF l n).length := by
  have g1 := endR_gt M.hn
  have g2 := endR_le l n
  have := M.hto; have := M.ht
  rw [leftF_len M.hn]; unfold psiL; split <;> omega
theorem Mv.len {l : List Nd} {n to a : Nat} {x : List Nd} (M : Mv l n to a x) : x.length = l.length := by
  have g1 := endR_gt M.hn
  have g2 := endR_le l n
  rw [M.hx, pasteF_len (place_le (M.lt) a), leftF_len M.hn, partF_len M.hn]; omega
section
variable {l : List Nd} {n to a : Nat} {x : List Nd} (hs : Shp l) (M : Mv l n to a x)
include hs M
theorem Mv.kid (hx : Shp x) : (kidsOf x (psiL n (endR l n) to))[a]? = some (placeF (leftF l n) (psiL n (endR l n) to) a) ∧ placeF (leftF l n) (psiL n (endR l n) to) a < x.length := by
  have hsL := left_shp hs M.n0 M.hn
  have hT := M.lt
  obtain ⟨p1, p2, p3, p4⟩ := place_kid hsL hT a M.ha
  have hl := M.len
  have hL := leftF_len M.hn
  have hQ := partF_len M.hn
  have g1 := endR_gt M.hn
  have g2 := endR_le l n
  have hpx : placeF (leftF l n) (psiL n (endR l n) to) a < x.length := by omega
  refine ⟨?_, hpx⟩
  have hpar : parL x (placeF (leftF l n) (psiL n (endR l n) to) a) = (psiL n (endR l n) to : Nat) := by
    rw [M.hx, paste_mid p2 (Nat.le_refl _) (by omega), if_pos rfl]
  refine kids_at hx.root hpx hpar ?_
  conv => rhs; rw [← p3]
  unfold kidTo
  congr 1
  refine List.filter_congr fun j hj => ?_
  rw [M.hx, paste_lo p2 (by simpa using hj)]
/-- Where the one that it was taken from stands. -/
theorem Mv.from {f : Nat} (hf : parL l n = f) : shiftF l n to a f (endR l n - n) = ((if f ≥ placeF (leftF l n) (psiL n (endR l n) to) a then f + (endR l n - n) else f : Nat) : Int) ∧ shiftF l n to a to (endR l n - n) = (psiL n (endR l n) to : Nat) := by
  obtain ⟨q1, q2, q3, q4⟩ := next_place hs M.n0 M.hn M.ht M.hto M.ha
  have hfn : f < n := by have := par_lt hs M.hn; omega
  have g1 := endR_gt M.hn
  have hto := M.hto
  constructor
  · rw [q1]
    unfold shiftF endP
    rw [if_neg (by omega)]
    (repeat' split) <;> omega
  · unfold shiftF psiL
    rw [if_neg (show ¬ to ≥ nextF l n to a by omega)]
    (repeat' split) <;> omega
theorem Mv.back (hx : chk x = 0) (hc : chk l = 0) {f : Nat} (hf : parL l n = f) : applyF x ⟨4, (placeF (leftF l n) (psiL n (endR l n) to) a : Nat), ((if f ≥ placeF (leftF l n) (psiL n (endR l n) to) a then f + (endR l n - n) else f : Nat) : Int), (kidTo l f n : Nat), default⟩ = (some l, 0) := by
  have hsx := tree_shp (chk_tree hx)
  have hsL := left_shp hs M.n0 M.hn
  have hQ := part_ok hs M.hn
  have hT := M.lt
  obtain ⟨p1, p2, p3, p4⟩ := place_kid hsL hT a M.ha
  have hpx := (M.kid hs hsx).2
  have hl := M.len
  have hL := leftF_len M.hn
  have hQl := partF_len M.hn
  have g1 := endR_gt M.hn
  have g2 := endR_le l n
  have hfn : f < n := by have := par_lt hs M.hn; omega
  obtain ⟨b1, b2⟩ := back_place hs M.n0 M.hn hf
  have hbp := back_paste hs M.hn
  rw [hf] at hbp
  have hxx := M.hx
  generalize placeF (leftF l n) (psiL n (endR l n) to) a = p at *
  have ue : endR x p = p + (endR l n - n) := by rw [hxx, undo_end hsL hQ p2, hQl]
  have ul : leftF x p = leftF l n := by rw [hxx, undo_left hsL hQ p2]
  have up : partF x p = partF l n := by rw [hxx, undo_part hsL hQ p2]
  obtain ⟨F, hF⟩ : ∃ F : Nat, F = if f ≥ p then f + (endR l n - n) else f := ⟨_, rfl⟩
  have hFb : (f ≥ p ∧ F = f + (endR l n - n)) ∨ (f < p ∧ F = f) := by rw [hF]; split <;> omega
  rw [← hF]
  have hFx : F < x.length := by omega
  have hbF : belowAt x p F = false := by
    have : endAt x p = ((p + (endR l n - n) : Nat) : Int) := by simp -implicitDefEqProofs only [endAt, inL_of hpx, if_true, Int.toNat_natCast, ← endR_eq hsx hpx, ue]
    unfold belowAt
    rw [this, inL_of hpx, inL_of hFx]
    simp -implicitDefEqProofs only [Bool.true_and]
    rw [Bool.and_eq_false_iff, decide_eq_false_iff_not, decide_eq_false_iff_not]
    omega
  have hmay : mayF x ⟨4, p, F, (kidTo l f n : Nat), default⟩ = 0 := by
    unfold mayF
    have h1 : ¬ (p : Int) = 0 := by omega
    have h2 : ¬ p = 0 := by omega
    simp [hx, inL_of hpx, inL_of hFx, hbF, h1, h2]
  have htF : toF x p F = f := by
    unfold toF; rw [ue]; split <;> omega
  refine apply_of hmay ?_ hc
  unfold changeF
  simp -implicitDefEqProofs only [show ¬ ((4 : Int) = 1) by decide, show ¬ ((4 : Int) = 2) by decide, show ¬ ((4 : Int) = 3) by decide, if_false, Int.toNat_natCast, ul, up, htF, b1]
  rw [if_neg (by omega), hbp]
end

end Go.Eng


/- edit: the statements as functions: moves. -/
namespace Go.Eng
open Go
end Go.Eng


/- edit: what the document does with trees of children, in plain terms. -/
namespace Go.Eng
open Go
/- decoupage/decoupageref32.style -/
def c_decoupageref32_style : AC := (.seq (.reg [⟨(some 3), .box, [(.t 0)], none⟩, ⟨(some 5), .box, [(.t 2)], none⟩, ⟨(some 6), (.alloc [(.bool false), (.int .i64 0), (.int .i64 0), (.int .i64 0), (.int .i64 0), (.int .i64 0), (.int .i64 0), (.int .i64 0), (.int .i64 0), (.int .i64 0), (.int .i64 0), (.int .i64 0), (.int .i64 0), (.int .i64 0), (.int .i64 0), (.int .i64 0), (.int .i64 0), (.int .i64 0), (.int .i64 0), (.int .i64 0), (.int .i64 0), (.int .i64 0), (.int .i64 0), (.int .i64 0), (.int .i64 0), (.int .i64 0), (.int .i64 0), (.int .i64 0), (.int .i64 0), (.int .i64 0), (.int .i64 0), (.int .i64 0), (.int .i64 0), (.int .i64 0), (.int .i64 0), (.int .i64 0), (.int .i64 0), (.int .i64 0), (.int .i64 0), (.int .i64 0), (.int .i64 0), (.int .i64 0), (.bool false), (.bool false), (.int .i64 0), (.bool false), (.int .i64 0), (.int .i64 0), (.int .i64 0), .nilsl]), [], none⟩]) (.seq (.seq (.reg [⟨(some 9), (.fld 48), [(.t 3)], none⟩, ⟨(some 10), (.load 1 false), [(.t 9)], none⟩, ⟨(some 11), .mv, [(.t 1)], none⟩, ⟨(some 12), (.ibin .eql), [(.t 10), (.t 11)], none⟩]) (.seq (.cond (.t 12) (.reg [⟨(some 13), (.load 48 true), [(.t 5)], none⟩, ⟨(some 14), (.fld 0), [(.t 3)], none⟩, ⟨none, (.store 48), [(.t 14), (.t 13)], none⟩]) .skip) .ent)) (.seq (.reg [⟨(some 7), .mv, [(.c (.rv .nilsl))], none⟩]) (.seq (.seq (.reg [⟨(some 15), (.fld 49), [(.t 3)], none⟩, ⟨(some 16), (.load 1 false), [(.t 15)], none⟩, ⟨(some 17), .len, [(.t 16)], none⟩, ⟨(some 18), .mv, [(.c (.rv (.int .i64 0)))], none⟩]) (.seq (.block 0 (.loop (.seq (.reg [⟨(some 19), (.ibin .lss), [(.t 18), (.t 17)], none⟩]) (.seq (.cond (.t 19) .skip (.exit 0)) (.seq (.seq (.block 1 (.seq (.reg [⟨(some 20), .mv, [(.t 18)], none⟩, ⟨(some 8), .mv, [(.t 20)], none⟩]) (.regd [0, 0, 2, 0, 14, 30, 0, 0, 254, 510, 1023, 2047] [⟨(some 21), .mv, [(.t 7)], none⟩, ⟨(some 22), (.fld 49), [(.t 3)], none⟩, ⟨(some 23), (.load 1 false), [(.t 22)], none⟩, ⟨(some 24), .mv, [(.t 8)], none⟩, ⟨(some 25), (.ixs 50), [(.t 23), (.t 24)], none⟩, ⟨(some 26), (.load 50 true), [(.t 25)], none⟩, ⟨(some 27), .mv, [(.t 1)], none⟩, ⟨(some 28), (.load 48 true), [(.t 5)], none⟩, ⟨(some 29), (.call 62), [(.t 26), (.t 27), (.t 28)], none⟩, ⟨(some 30), (.bsl 50), [(.t 29)], none⟩, ⟨(some 31), (.app 50 408), [(.t 21), (.t 30)], none⟩, ⟨(some 7), .mv, [(.t 31)], none⟩]))) .ent) (.reg [⟨(some 32), (.ibin .add), [(.t 18), (.c (.rv (.int .i64 1)))], none⟩, ⟨(some 18), .mv, [(.t 32)], none⟩])))))) .ent)) (.seq (.reg [⟨(some 33), .mv, [(.t 7)], none⟩, ⟨(some 34), (.fld 49), [(.t 3)], none⟩, ⟨none, (.store 1), [(.t 34), (.t 33)], none⟩]) (.seq (.reg [⟨(some 35), (.load 50 true), [(.t 3)], none⟩, ⟨none, (.store 50), [(.t 6), (.t 35)], none⟩]) .ret))))))
theorem k_decoupageref32_style : FnOK Go.Proofs.Try.prog 62 36 c_decoupageref32_style [(.c 6 50 true)] := fnOK_of (by kernel_rfl)

/- decoupage/decoupageref32.take -/
def c_decoupageref32_take : AC := (.seq (.reg [⟨(some 2), .box, [(.t 0)], none⟩, ⟨(some 4), (.alloc [(.bool false), (.int .i64 0), (.int .i64 0), (.int .i64 0), (.int .i64 0), (.int .i64 0), (.int .i64 0), (.int .i64 0), (.int .i64 0), (.int .i64 0), (.int .i64 0), (.int .i64 0), (.int .i64 0), (.int .i64 0), (.int .i64 0), (.int .i64 0), (.int .i64 0), (.int .i64 0), (.int .i64 0), (.int .i64 0), (.int .i64 0), (.int .i64 0), (.int .i64 0), (.int .i64 0), (.int .i64 0), (.int .i64 0), (.int .i64 0), (.int .i64 0), (.int .i64 0), (.int .i64 0), (.int .i64 0), (.int .i64 0), (.int .i64 0), (.int .i64 0), (.int .i64 0), (.int .i64 0), (.int .i64 0), (.int .i64 0), (.int .i64 0), (.int .i64 0), (.int .i64 0), (.int .i64 0), (.bool false), (.bool false), (.int .i64 0), (.bool false), (.int .i64 0), (.int .i64 0), (.int .i64 0), .nilsl]), [], none⟩]) (.seq (.reg [⟨(some 5), .mv, [(.c (.rv .nilsl))], none⟩]) (.seq (.seq (.reg [⟨(some 7), (.fld 49), [(.t 2)], none⟩, ⟨(some 8), (.load 1 false), [(.t 7)], none⟩, ⟨(some 9), .len, [(.t 8)], none⟩, ⟨(some 10), .mv, [(.c (.rv (.int .i64 0)))], none⟩]) (.seq (.block 0 (.loop (.seq (.reg [⟨(some 11), (.ibin .lss), [(.t 10), (.t 9)], none⟩]) (.seq (.cond (.t 11) .skip (.exit 0)) (.seq (.seq (.block 1 (.seq (.reg [⟨(some 12), .mv, [(.t 10)], none⟩, ⟨(some 6), .mv, [(.t 12)], none⟩]) (.seq (.reg [⟨(some 13), (.fld 49), [(.t 2)], none⟩, ⟨(some 14), (.load 1 false), [(.t 13)], none⟩, ⟨(some 15), .mv, [(.t 6)], none⟩, ⟨(some 16), (.ixs 50), [(.t 14), (.t 15)], none⟩, ⟨(some 17), (.fld 48), [(.t 16)], none⟩, ⟨(some 18), (.load 1 false), [(.t 17)], none⟩, ⟨(some 19), .mv, [(.t 1)], none⟩, ⟨(some 20), (.ibin .neq), [(.t 18), (.t 19)], none⟩]) (.seq (.cond (.t 20) (.reg [⟨(some 21), .mv, [(.t 5)], none⟩, ⟨(some 22), (.fld 49), [(.t 2)], none⟩, ⟨(some 23), (.load 1 false), [(.t 22)], none⟩, ⟨(some 24), .mv, [(.t 6)], none⟩, ⟨(some 25), (.ixs 50), [(.t 23), (.t 24)], none⟩, ⟨(some 26), (.load 50 true), [(.t 25)], none⟩, ⟨(some 27), .mv, [(.t 1)], none⟩, ⟨(some 28), (.call 63), [(.t 26), (.t 27)], none⟩, ⟨(some 29), (.bsl 50), [(.t 28)], none⟩, ⟨(some 30), (.app 50 408), [(.t 21), (.t 29)], none⟩, ⟨(some 5), .mv, [(.t 30)], none⟩]) .skip) .ent)))) .ent) (.reg [⟨(some 31), (.ibin .add), [(.t 10), (.c (.rv (.int .i64 1)))], none⟩, ⟨(some 10), .mv, [(.t 31)], none⟩])))))) .ent)) (.seq (.reg [⟨(some 32), .mv, [(.t 5)], none⟩, ⟨(some 33), (.fld 49), [(.t 2)], none⟩, ⟨none, (.store 1), [(.t 33), (.t 32)], none⟩]) (.seq (.reg [⟨(some 34), (.load 50 true), [(.t 2)], none⟩, ⟨none, (.store 50), [(.t 4), (.t 34)], none⟩]) .ret)))))
theorem k_decoupageref32_take : FnOK Go.Proofs.Try.prog 63 35 c_decoupageref32_take [(.c 4 50 true)] := fnOK_of (by kernel_rfl)


mutual
def Trx.sz : Trx → Nat
  | .mk _ _ ks => szL ks + 1
def szL : List Trx → Nat
  | [] => 0
  | t :: ts => t.sz + szL ts
end
def Trx.was : Trx → Int
  | .mk _ w _ => w
mutual
def listT : Trx → Int → Nat → List Nd
  | .mk s _ ks, p, i => ⟨s, p⟩ :: listF ks i (i + 1)
def listF : List Trx → Nat → Nat → List Nd
  | [], _, _ => []
  | t :: ts, p, i => listT t p i ++ listF ts p (i + t.sz)
end
mutual
def styT : Trx → Int → Sty → Trx
  | .mk s w ks, m, st => .mk (if w = m then st else s) w (styF ks m st)
def styF : List Trx → Int → Sty → List Trx
  | [], _, _ => []
  | t :: ts, m, st => styT t m st :: styF ts m st
end
mutual
def takT : Trx → Int → Trx
  | .mk s w ks, m => .mk s w (takF ks m)
def takF : List Trx → Int → List Trx
  | [], _ => []
  | t :: ts, m => if t.was = m then takF ts m else takT t m :: takF ts m
end
mutual
def putT : Trx → Int → Int → Trx → Trx × Bool
  | .mk s w ks, n, a, x => if w = n then (if a < 0 ∨ a > (putF ks n a x).1.length then (.mk s w ks, false) else (.mk s w ((putF ks n a x).1.take a.toNat ++ x :: (putF ks n a x).1.drop a.toNat), (putF ks n a x).2)) else (.mk s w (putF ks n a x).1, (putF ks n a x).2)
def putF : List Trx → Int → Int → Trx → List Trx × Bool
  | [], _, _, _ => ([], true)
  | t :: ts, n, a, x => ((putT t n a x).1 :: (putF ts n a x).1, (putT t n a x).2 && (putF ts n a x).2)
end
theorem sz_mk (s : Sty) (w : Int) (ks : List Trx) : (Trx.mk s w ks).sz = szL ks + 1 := by rw [Trx.sz]
theorem szL_cons (t : Trx) (ts : List Trx) : szL (t :: ts) = t.sz + szL ts := by rw [szL]
theorem szL_nil : szL [] = 0 := by rw [szL]
theorem sz_pos : ∀ t : Trx, 0 < t.sz
  | .mk s w ks => by rw [sz_mk]; omega
theorem sz_mem : ∀ {ks : List Trx} {t : Trx}, t ∈ ks → t.sz ≤ szL ks
  | [], t, h => by cases h
  | x :: xs, t, h => by
    rw [szL_cons]
    rcases List.mem_cons.1 h with rfl | h
    · omega
    · have := sz_mem h; omega
theorem szL_len : ∀ (ks : List Trx), ks.length ≤ szL ks
  | [] => by simp
  | t :: ts => by rw [szL_cons]; have := szL_len ts; have := sz_pos t; simp; omega
theorem listT_mk (s : Sty) (w : Int) (ks : List Trx) (p : Int) (i : Nat) : listT (.mk s w ks) p i = ⟨s, p⟩ :: listF ks i (i + 1) := by rw [listT]
theorem listF_cons (t : Trx) (ts : List Trx) (p i : Nat) : listF (t :: ts) p i = listT t p i ++ listF ts p (i + t.sz) := by rw [listF]
theorem listF_nil (p i : Nat) : listF [] p i = [] := by rw [listF]
theorem styT_mk (s : Sty) (w : Int) (ks : List Trx) (m : Int) (st : Sty) : styT (.mk s w ks) m st = .mk (if w = m then st else s) w (styF ks m st) := by rw [styT]
theorem styF_map : ∀ (ks : List Trx) (m : Int) (st : Sty), styF ks m st = ks.map fun t => styT t m st
  | [], _, _ => by rw [styF]; rfl
  | t :: ts, m, st => by rw [styF, styF_map ts]; rfl
theorem takT_mk (s : Sty) (w : Int) (ks : List Trx) (m : Int) : takT (.mk s w ks) m = .mk s w (takF ks m) := by rw [takT]
theorem takF_map : ∀ (ks : List Trx) (m : Int), takF ks m = (ks.filter fun t => t.was != m).map fun t => takT t m
  | [], _ => by rw [takF]; rfl
  | t :: ts, m => by
    rw [takF, takF_map ts]
    by_cases h : t.was = m
    · simp [h]
    · simp [h]
theorem putF_map : ∀ (ks : List Trx) (n a : Int) (x : Trx), putF ks n a x = (ks.map fun t => (putT t n a x).1, ks.all fun t => (putT t n a x).2)
  | [], _, _, _ => by rw [putF]; rfl
  | t :: ts, n, a, x => by rw [putF, putF_map ts]; rfl
theorem putT_mk (s : Sty) (w : Int) (ks : List Trx) (n a : Int) (x : Trx) : putT (.mk s w ks) n a x = if w = n then (if a < 0 ∨ a > (putF ks n a x).1.length then (.mk s w ks, false) else (.mk s w ((putF ks n a x).1.take a.toNat ++ x :: (putF ks n a x).1.drop a.toNat), (putF ks n a x).2)) else (.mk s w (putF ks n a x).1, (putF ks n a x).2) := by rw [putT]

theorem tr_t50c (t : Trx) : t.cells.take 50 = t.cells := List.take_of_length_le (by rw [tr_len]; exact Nat.le_refl _)
theorem tr_map (s : Sty) (w : Int) (ks : List Trx) : (Trx.mk s w ks).cells.map SV.rv = s.cells.map SV.rv ++ [.rv (.int .i64 w), .rv (.sl 50 (trL ks))] := by rw [tr_mk, List.map_append]; rfl
theorem sty_d48 (s : Sty) (r : List SV) : List.drop 48 (s.cells.map SV.rv ++ r) = r := rfl
theorem tr_wasg (t : Trx) : (t.cells.drop 48)[0]? = some (.int .i64 t.was) := by
  obtain ⟨s, w, ks⟩ := t
  rw [tr_mk]; rfl
def stTo (ks : List Trx) (m : Int) (st : Sty) (k : Nat) : List Trx := (ks.take k).map fun t => styT t m st
theorem stTo_succ {ks : List Trx} {m : Int} {st : Sty} {k : Nat} (h : k < ks.length) : stTo ks m st (k + 1) = stTo ks m st k ++ [styT (ks[k]'h) m st] := by
  unfold stTo; rw [List.take_succ_eq_append_getElem h, List.map_append]; rfl
theorem stTo_len {ks : List Trx} {m : Int} {st : Sty} {k : Nat} (h : k ≤ ks.length) : (stTo ks m st k).length = k := by simp [stTo]; omega
theorem clA_zero50 {n : Nat} : ClH n (.var zero50) := clA_pre (default : Sty).cells (ys := [.rv (.int .i64 0), .rv .nilsl]) ⟨clS_rv.2 trivial, clS_rv.2 trivial, trivial⟩

set_option maxRecDepth 20000 in
set_option maxHeartbeats 4000000 in
theorem sp_sty32 : ∀ (m : Nat) (t : Trx), t.sz ≤ m → m ≤ 1073741823 → ∀ (n : Int) (st : Sty), CallR Go.Proofs.Try.prog 62 [.agg (t.cells.map .rv), .rv (.int .i64 n), .agg (st.cells.map .rv)] [] [] (.agg ((styT t n st).cells.map .rv)) := by
  intro m
  induction m with
  | zero => intro t ht; have := sz_pos t; omega
  | succ m ih =>
    intro t ht hmb n st
    obtain ⟨s, w, ks⟩ := t
    rw [sz_mk] at ht
    have hkl := szL_len ks
    have hlen := trL_len ks
    refine callR_G k_decoupageref32_style [.agg ((Trx.mk s w ks).cells.map .rv), .rv (.int .i64 n), .agg (st.cells.map .rv)] _ (by simp) (by simp [BkAll, bk_agg, bkAll_map, bk_rv, bk_fn, Sty.sv, Ln.sv, Nd.sv]) (fun K hK => ?_)
    have hst : stTo ks n st ks.length = styF ks n st := by rw [styF_map]; unfold stTo; rw [List.take_length]
    rw [styT_mk, tr_map, ← hst] at hK
    rw [tr_map]
    simp -implicitDefEqProofs only [c_decoupageref32_style, go_sem, ↓reduceIte, Nat.reduceEqDiff, Nat.reduceAdd, Nat.reduceSub, Nat.reduceMul, Nat.reduceLeDiff, Nat.reduceLT, reduceCtorEq, Int.reduceToNat]
    by_cases hw : w = n
    · have e1 : (w == n) = true := by simpa using hw
      rw [if_pos hw] at hK
      repeat' (first | (simp -implicitDefEqProofs only [go_sem, ↓reduceIte, Nat.reduceEqDiff, Nat.reduceAdd, Nat.reduceSub, Nat.reduceMul, Nat.reduceLeDiff, Nat.reduceLT, reduceCtorEq, Int.reduceToNat, sty_i48, sty_l50, sty_len, e1, sty_mlen, sty_all, sty_all2, sty_d48, sty_i49, hlen]) | (with_reducible refine g_noent ?_) | (refine cdS (fun hg => ?_) (fun hg => ?_) <;> try simp -implicitDefEqProofs only [hg, Bool.not_true, Bool.not_false]) | (refine gdS (fun hg => ?_) (fun hg => ?_) <;> try simp -implicitDefEqProofs only [hg, Bool.not_true, Bool.not_false]) | (refine gddS (fun hg => ?_) (fun hg => ?_) <;> try simp -implicitDefEqProofs only [hg, Bool.not_true, Bool.not_false]) | ((with_reducible apply And.intro); focus (first | trivial | omega | decide | (simp -implicitDefEqProofs only [maxLen]; omega) | (simp [maxLen, sty_len, nd_len, ndL_len, lnL_len, intsL_len, rvs_len, lensS_len]; done) | (simp [maxLen, sty_len, nd_len, ndL_len, lnL_len, intsL_len, rvs_len, lensS_len]; omega))) | fail)
      refine g_loop (ι := Nat) (fun k => [(18, .rv (.int .i64 k)), (17, .rv (.int .i64 ks.length)), (7, .row 3 k k), (6, .ptr 2 0), (5, .ptr 1 0), (3, .ptr 0 0), (1, .rv (.int .i64 n))]) (fun k => [some (.var (st.cells.map SV.rv ++ [.rv (.int .i64 w), .rv (.sl 50 (trL ks))])), some (.var (st.cells.map SV.rv)), some (.var zero50), some (.row 50 k (rvs (trL (stTo ks n st k))))]) (fun k => k ≤ ks.length) (fun k => ks.length - k) 0 (by simp) ((ent_ghostv 7 50 0 rfl).trans (ent_env (by simp [lk]))) (fun k hk' K' hN hX hR => ?_)
      simp -implicitDefEqProofs only [go_sem, ↓reduceIte, Nat.reduceEqDiff, Nat.reduceAdd, Nat.reduceSub, Nat.reduceMul, Nat.reduceLeDiff, Nat.reduceLT, reduceCtorEq, Int.reduceToNat]
      refine cdS (fun hg => ?_) (fun hg => ?_)
      · have hk4 : k < ks.length := by simp at hg; omega
        have wu := wrap_up (k := k) (by omega)
        have hx := trL_get hk4
        have hsz := sz_mem (List.getElem_mem hk4)
        have hsu := stTo_succ (m := n) (st := st) hk4
        have hcall := ih (ks[k]'hk4) (by omega) (by omega) n st
        generalize ks[k]'hk4 = c at *
        have hgl := stTo_len (m := n) (st := st) (Nat.le_of_lt hk4)
        have htl := trL_len (stTo ks n st k)
        have htk : (trL (stTo ks n st k)).take k = trL (stTo ks n st k) := List.take_of_length_le (by omega)
        have htln := tr_len c
        generalize styT c n st = t at *
        have hap : stTo ks n st k ++ [t] = stTo ks n st (k + 1) := hsu.symm
        have hcall1 := hcall; repeat' (first | (simp -implicitDefEqProofs only [go_sem, ↓reduceIte, Nat.reduceEqDiff, Nat.reduceAdd, Nat.reduceSub, Nat.reduceMul, Nat.reduceLeDiff, Nat.reduceLT, reduceCtorEq, Int.reduceToNat, sty_i49, sty_l50, hx, hlen, tr_t50c, htln, sty_all, sty_all2, sty_len, tr_mlen, hgl, htl, htk, trL_app, hap, wu]) | (with_reducible refine g_noent ?_) | (with_reducible refine g_call0 hcall1 ?_) | (with_reducible refine g_calld0 hcall1 ?_) | (refine cdS (fun hg => ?_) (fun hg => ?_) <;> try simp -implicitDefEqProofs only [hg, Bool.not_true, Bool.not_false]) | (refine gdS (fun hg => ?_) (fun hg => ?_) <;> try simp -implicitDefEqProofs only [hg, Bool.not_true, Bool.not_false]) | (refine gddS (fun hg => ?_) (fun hg => ?_) <;> try simp -implicitDefEqProofs only [hg, Bool.not_true, Bool.not_false]) | ((with_reducible apply And.intro); focus (first | trivial | omega | decide | (simp -implicitDefEqProofs only [maxLen]; omega) | (simp [maxLen, sty_len, nd_len, ndL_len, lnL_len, intsL_len, rvs_len, lensS_len]; done) | (simp [maxLen, sty_len, nd_len, ndL_len, lnL_len, intsL_len, rvs_len, lensS_len]; omega))) | fail)
        refine hN (k + 1) _ _ (by omega) (by omega) ?_
        have a1 : ClH 4 (.var (st.cells.map SV.rv ++ [.rv (.int .i64 w), .rv (.sl 50 (trL ks))])) := clA_pre st.cells (ys := [.rv (.int .i64 w), .rv (.sl 50 (trL ks))]) ⟨clS_rv.2 trivial, clS_rv.2 trivial, trivial⟩
        refine ent_tail (h' := [some (.var (st.cells.map SV.rv ++ [.rv (.int .i64 w), .rv (.sl 50 (trL ks))])), some (.var (st.cells.map SV.rv)), some (.var zero50), some (.row 50 (k + 1) (rvs (trL (stTo ks n st (k + 1)))))]) (C := [some (.row 50 0 [t.cells.map SV.rv])]) (Nat.zero_le _) ⟨a1, clA_map, clA_zero50, clH_rvs, trivial⟩ ?_
        simp [ClEnv, lk, clS_rv, clS_row, clS_ptr]
      · have hk4 : k = ks.length := by simp at hg; omega
        subst hk4
        simp -implicitDefEqProofs only [go_sem, ↓reduceIte, Nat.reduceEqDiff, Nat.reduceAdd, Nat.reduceSub, Nat.reduceMul, Nat.reduceLeDiff, Nat.reduceLT, reduceCtorEq, Int.reduceToNat]
        refine hX _ _ _ ?_
        repeat' (first | (simp -implicitDefEqProofs only [go_sem, ↓reduceIte, Nat.reduceEqDiff, Nat.reduceAdd, Nat.reduceSub, Nat.reduceMul, Nat.reduceLeDiff, Nat.reduceLT, reduceCtorEq, Int.reduceToNat, sty_s49, sty_t50, sty_l50, zero50_len, zero50_drop, List.append_nil]) | (with_reducible refine g_noent ?_) | (refine cdS (fun hg => ?_) (fun hg => ?_) <;> try simp -implicitDefEqProofs only [hg, Bool.not_true, Bool.not_false]) | (refine gdS (fun hg => ?_) (fun hg => ?_) <;> try simp -implicitDefEqProofs only [hg, Bool.not_true, Bool.not_false]) | (refine gddS (fun hg => ?_) (fun hg => ?_) <;> try simp -implicitDefEqProofs only [hg, Bool.not_true, Bool.not_false]) | ((with_reducible apply And.intro); focus (first | trivial | omega | decide | (simp -implicitDefEqProofs only [maxLen]; omega) | (simp [maxLen, sty_len, nd_len, ndL_len, lnL_len, intsL_len, rvs_len, lensS_len]; done) | (simp [maxLen, sty_len, nd_len, ndL_len, lnL_len, intsL_len, rvs_len, lensS_len]; omega))) | fail)
        refine (hK _ _ ?_).2
        simp -implicitDefEqProofs only [retP, resL, lk, resT_one, go_sem, ↓reduceIte, Nat.reduceEqDiff, Nat.reduceAdd, Nat.reduceSub, Nat.reduceMul, Nat.reduceLeDiff, Nat.reduceLT, reduceCtorEq, Int.reduceToNat, sty_t50, sty_l50]
        exact rn_agg.2 (rnAll_pre st.cells ⟨rn_rv.2 rfl, rn_frz (xs := trL (stTo ks n st ks.length)) rfl rfl (by rw [trL_len, stTo_len (Nat.le_refl _)]) (trL_one _), trivial⟩)
    · have e1 : (w == n) = false := by simpa using hw
      rw [if_neg hw] at hK
      repeat' (first | (simp -implicitDefEqProofs only [go_sem, ↓reduceIte, Nat.reduceEqDiff, Nat.reduceAdd, Nat.reduceSub, Nat.reduceMul, Nat.reduceLeDiff, Nat.reduceLT, reduceCtorEq, Int.reduceToNat, sty_i48, sty_l50, sty_len, e1, sty_i49, hlen]) | (with_reducible refine g_noent ?_) | (refine cdS (fun hg => ?_) (fun hg => ?_) <;> try simp -implicitDefEqProofs only [hg, Bool.not_true, Bool.not_false]) | (refine gdS (fun hg => ?_) (fun hg => ?_) <;> try simp -implicitDefEqProofs only [hg, Bool.not_true, Bool.not_false]) | (refine gddS (fun hg => ?_) (fun hg => ?_) <;> try simp -implicitDefEqProofs only [hg, Bool.not_true, Bool.not_false]) | ((with_reducible apply And.intro); focus (first | trivial | omega | decide | (simp -implicitDefEqProofs only [maxLen]; omega) | (simp [maxLen, sty_len, nd_len, ndL_len, lnL_len, intsL_len, rvs_len, lensS_len]; done) | (simp [maxLen, sty_len, nd_len, ndL_len, lnL_len, intsL_len, rvs_len, lensS_len]; omega))) | fail)
      refine g_loop (ι := Nat) (fun k => [(18, .rv (.int .i64 k)), (17, .rv (.int .i64 ks.length)), (7, .row 3 k k), (6, .ptr 2 0), (5, .ptr 1 0), (3, .ptr 0 0), (1, .rv (.int .i64 n))]) (fun k => [some (.var (s.cells.map SV.rv ++ [.rv (.int .i64 w), .rv (.sl 50 (trL ks))])), some (.var (st.cells.map SV.rv)), some (.var zero50), some (.row 50 k (rvs (trL (stTo ks n st k))))]) (fun k => k ≤ ks.length) (fun k => ks.length - k) 0 (by simp) ((ent_ghostv 7 50 0 rfl).trans (ent_env (by simp [lk]))) (fun k hk' K' hN hX hR => ?_)
      simp -implicitDefEqProofs only [go_sem, ↓reduceIte, Nat.reduceEqDiff, Nat.reduceAdd, Nat.reduceSub, Nat.reduceMul, Nat.reduceLeDiff, Nat.reduceLT, reduceCtorEq, Int.reduceToNat]
      refine cdS (fun hg => ?_) (fun hg => ?_)
      · have hk4 : k < ks.length := by simp at hg; omega
        have wu := wrap_up (k := k) (by omega)
        have hx := trL_get hk4
        have hsz := sz_mem (List.getElem_mem hk4)
        have hsu := stTo_succ (m := n) (st := st) hk4
        have hcall := ih (ks[k]'hk4) (by omega) (by omega) n st
        generalize ks[k]'hk4 = c at *
        have hgl := stTo_len (m := n) (st := st) (Nat.le_of_lt hk4)
        have htl := trL_len (stTo ks n st k)
        have htk : (trL (stTo ks n st k)).take k = trL (stTo ks n st k) := List.take_of_length_le (by omega)
        have htln := tr_len c
        generalize styT c n st = t at *
        have hap : stTo ks n st k ++ [t] = stTo ks n st (k + 1) := hsu.symm
        have hcall2 := hcall; repeat' (first | (simp -implicitDefEqProofs only [go_sem, ↓reduceIte, Nat.reduceEqDiff, Nat.reduceAdd, Nat.reduceSub, Nat.reduceMul, Nat.reduceLeDiff, Nat.reduceLT, reduceCtorEq, Int.reduceToNat, sty_i49, sty_l50, hx, hlen, tr_t50c, htln, sty_all, sty_all2, sty_len, tr_mlen, hgl, htl, htk, trL_app, hap, wu]) | (with_reducible refine g_noent ?_) | (with_reducible refine g_call0 hcall2 ?_) | (with_reducible refine g_calld0 hcall2 ?_) | (refine cdS (fun hg => ?_) (fun hg => ?_) <;> try simp -implicitDefEqProofs only [hg, Bool.not_true, Bool.not_false]) | (refine gdS (fun hg => ?_) (fun hg => ?_) <;> try simp -implicitDefEqProofs only [hg, Bool.not_true, Bool.not_false]) | (refine gddS (fun hg => ?_) (fun hg => ?_) <;> try simp -implicitDefEqProofs only [hg, Bool.not_true, Bool.not_false]) | ((with_reducible apply And.intro); focus (first | trivial | omega | decide | (simp -implicitDefEqProofs only [maxLen]; omega) | (simp [maxLen, sty_len, nd_len, ndL_len, lnL_len, intsL_len, rvs_len, lensS_len]; done) | (simp [maxLen, sty_len, nd_len, ndL_len, lnL_len, intsL_len, rvs_len, lensS_len]; omega))) | fail)
        refine hN (k + 1) _ _ (by omega) (by omega) ?_
        have a1 : ClH 4 (.var (s.cells.map SV.rv ++ [.rv (.int .i64 w), .rv (.sl 50 (trL ks))])) := clA_pre s.cells (ys := [.rv (.int .i64 w), .rv (.sl 50 (trL ks))]) ⟨clS_rv.2 trivial, clS_rv.2 trivial, trivial⟩
        refine ent_tail (h' := [some (.var (s.cells.map SV.rv ++ [.rv (.int .i64 w), .rv (.sl 50 (trL ks))])), some (.var (st.cells.map SV.rv)), some (.var zero50), some (.row 50 (k + 1) (rvs (trL (stTo ks n st (k + 1)))))]) (C := [some (.row 50 0 [t.cells.map SV.rv])]) (Nat.zero_le _) ⟨a1, clA_map, clA_zero50, clH_rvs, trivial⟩ ?_
        simp [ClEnv, lk, clS_rv, clS_row, clS_ptr]
      · have hk4 : k = ks.length := by simp at hg; omega
        subst hk4
        simp -implicitDefEqProofs only [go_sem, ↓reduceIte, Nat.reduceEqDiff, Nat.reduceAdd, Nat.reduceSub, Nat.reduceMul, Nat.reduceLeDiff, Nat.reduceLT, reduceCtorEq, Int.reduceToNat]
        refine hX _ _ _ ?_
        repeat' (first | (simp -implicitDefEqProofs only [go_sem, ↓reduceIte, Nat.reduceEqDiff, Nat.reduceAdd, Nat.reduceSub, Nat.reduceMul, Nat.reduceLeDiff, Nat.reduceLT, reduceCtorEq, Int.reduceToNat, sty_s49, sty_t50, sty_l50, zero50_len, zero50_drop, List.append_nil]) | (with_reducible refine g_noent ?_) | (refine cdS (fun hg => ?_) (fun hg => ?_) <;> try simp -implicitDefEqProofs only [hg, Bool.not_true, Bool.not_false]) | (refine gdS (fun hg => ?_) (fun hg => ?_) <;> try simp -implicitDefEqProofs only [hg, Bool.not_true, Bool.not_false]) | (refine gddS (fun hg => ?_) (fun hg => ?_) <;> try simp -implicitDefEqProofs only [hg, Bool.not_true, Bool.not_false]) | ((with_reducible apply And.intro); focus (first | trivial | omega | decide | (simp -implicitDefEqProofs only [maxLen]; omega) | (simp [maxLen, sty_len, nd_len, ndL_len, lnL_len, intsL_len, rvs_len, lensS_len]; done) | (simp [maxLen, sty_len, nd_len, ndL_len, lnL_len, intsL_len, rvs_len, lensS_len]; omega))) | fail)
        refine (hK _ _ ?_).2
        simp -implicitDefEqProofs only [retP, resL, lk, resT_one, go_sem, ↓reduceIte, Nat.reduceEqDiff, Nat.reduceAdd, Nat.reduceSub, Nat.reduceMul, Nat.reduceLeDiff, Nat.reduceLT, reduceCtorEq, Int.reduceToNat, sty_t50, sty_l50]
        exact rn_agg.2 (rnAll_pre s.cells ⟨rn_rv.2 rfl, rn_frz (xs := trL (stTo ks n st ks.length)) rfl rfl (by rw [trL_len, stTo_len (Nat.le_refl _)]) (trL_one _), trivial⟩)
end Go.Eng


/- edit: trees of children: taking. -/
namespace Go.Eng
open Go

def tkTo (ks : List Trx) (n : Int) (k : Nat) : List Trx := ((ks.take k).filter fun t => t.was != n).map fun t => takT t n
theorem tkTo_succ {ks : List Trx} {n : Int} {k : Nat} (h : k < ks.length) : tkTo ks n (k + 1) = tkTo ks n k ++ if (ks[k]'h).was = n then [] else [takT (ks[k]'h) n] := by
  unfold tkTo; rw [List.take_succ_eq_append_getElem h, List.filter_append, List.map_append]
  congr 1
  by_cases hc : (ks[k]'h).was = n <;> simp [hc]
theorem tkTo_len {ks : List Trx} {n : Int} {k : Nat} : (tkTo ks n k).length ≤ ks.length := by
  unfold tkTo
  rw [List.length_map]
  have h1 := List.length_filter_le (fun t => t.was != n) (ks.take k)
  have h2 : (ks.take k).length ≤ ks.length := by simp; omega
  exact Nat.le_trans h1 h2
def tkR (s : Sty) (w : Int) (ks : List Trx) (n : Int) (k : Nat) : List (Option HB) := [some (.var (s.cells.map SV.rv ++ [.rv (.int .i64 w), .rv (.sl 50 (trL ks))])), some (.var zero50), some (.row 50 (tkTo ks n k).length (rvs (trL (tkTo ks n k))))]
theorem tkR_eq (s : Sty) (w : Int) (ks : List Trx) (n : Int) (k : Nat) : tkR s w ks n k = [some (.var (s.cells.map SV.rv ++ [.rv (.int .i64 w), .rv (.sl 50 (trL ks))])), some (.var zero50), some (.row 50 (tkTo ks n k).length (rvs (trL (tkTo ks n k))))] := rfl

set_option maxRecDepth 20000 in
set_option maxHeartbeats 4000000 in
theorem sp_take32 : ∀ (m : Nat) (t : Trx), t.sz ≤ m → m ≤ 1073741823 → ∀ (n : Int), CallR Go.Proofs.Try.prog 63 [.agg (t.cells.map .rv), .rv (.int .i64 n)] [] [] (.agg ((takT t n).cells.map .rv)) := by
  intro m
  induction m with
  | zero => intro t ht; have := sz_pos t; omega
  | succ m ih =>
    intro t ht hmb n
    obtain ⟨s, w, ks⟩ := t
    rw [sz_mk] at ht
    have hkl := szL_len ks
    have hlen := trL_len ks
    refine callR_G k_decoupageref32_take [.agg ((Trx.mk s w ks).cells.map .rv), .rv (.int .i64 n)] _ (by simp) (by simp [BkAll, bk_agg, bkAll_map, bk_rv, bk_fn, Sty.sv, Ln.sv, Nd.sv]) (fun K hK => ?_)
    have hst : tkTo ks n ks.length = takF ks n := by rw [takF_map]; unfold tkTo; rw [List.take_length]
    rw [takT_mk, tr_map, ← hst] at hK
    rw [tr_map]
    simp -implicitDefEqProofs only [c_decoupageref32_take, go_sem, ↓reduceIte, Nat.reduceEqDiff, Nat.reduceAdd, Nat.reduceSub, Nat.reduceMul, Nat.reduceLeDiff, Nat.reduceLT, reduceCtorEq, Int.reduceToNat]
    repeat' (first | (simp -implicitDefEqProofs only [go_sem, ↓reduceIte, Nat.reduceEqDiff, Nat.reduceAdd, Nat.reduceSub, Nat.reduceMul, Nat.reduceLeDiff, Nat.reduceLT, reduceCtorEq, Int.reduceToNat, sty_i49, sty_l50, hlen]) | (with_reducible refine g_noent ?_) | (refine cdS (fun hg => ?_) (fun hg => ?_) <;> try simp -implicitDefEqProofs only [hg, Bool.not_true, Bool.not_false]) | (refine gdS (fun hg => ?_) (fun hg => ?_) <;> try simp -implicitDefEqProofs only [hg, Bool.not_true, Bool.not_false]) | (refine gddS (fun hg => ?_) (fun hg => ?_) <;> try simp -implicitDefEqProofs only [hg, Bool.not_true, Bool.not_false]) | ((with_reducible apply And.intro); focus (first | trivial | omega | decide | (simp -implicitDefEqProofs only [maxLen]; omega) | (simp [maxLen, sty_len, nd_len, ndL_len, lnL_len, intsL_len, rvs_len, lensS_len]; done) | (simp [maxLen, sty_len, nd_len, ndL_len, lnL_len, intsL_len, rvs_len, lensS_len]; omega))) | fail)
    refine g_loop (ι := Nat) (fun k => [(10, .rv (.int .i64 k)), (9, .rv (.int .i64 ks.length)), (5, .row 2 (tkTo ks n k).length (tkTo ks n k).length), (4, .ptr 1 0), (2, .ptr 0 0), (1, .rv (.int .i64 n))]) (tkR s w ks n) (fun k => k ≤ ks.length) (fun k => ks.length - k) 0 (by simp) ((ent_ghostv 5 50 0 rfl).trans (ent_env (by simp [lk, tkTo]))) (fun k hk' K' hN hX hR => ?_)
    rw [tkR_eq]
    simp -implicitDefEqProofs only [go_sem, ↓reduceIte, Nat.reduceEqDiff, Nat.reduceAdd, Nat.reduceSub, Nat.reduceMul, Nat.reduceLeDiff, Nat.reduceLT, reduceCtorEq, Int.reduceToNat]
    refine cdS (fun hg => ?_) (fun hg => ?_)
    · have hk4 : k < ks.length := by simp at hg; omega
      have wu := wrap_up (k := k) (by omega)
      have hx := trL_get hk4
      have hsz := sz_mem (List.getElem_mem hk4)
      have hsu := tkTo_succ (n := n) hk4
      have hcall := ih (ks[k]'hk4) (by omega) (by omega) n
      have hww := tr_wasg (ks[k]'hk4)
      have htln := tr_len (ks[k]'hk4)
      have hgl := tkTo_len (ks := ks) (n := n) (k := k)
      generalize ks[k]'hk4 = c at *
      by_cases hc : c.was = n
      · have e1 : (c.was != n) = false := by simp [hc]
        rw [if_pos hc, List.append_nil] at hsu
        repeat' (first | (simp -implicitDefEqProofs only [go_sem, ↓reduceIte, Nat.reduceEqDiff, Nat.reduceAdd, Nat.reduceSub, Nat.reduceMul, Nat.reduceLeDiff, Nat.reduceLT, reduceCtorEq, Int.reduceToNat, sty_i49, sty_l50, hx, hlen, hww, htln, e1, wu]) | (with_reducible refine g_noent ?_) | (refine cdS (fun hg => ?_) (fun hg => ?_) <;> try simp -implicitDefEqProofs only [hg, Bool.not_true, Bool.not_false]) | (refine gdS (fun hg => ?_) (fun hg => ?_) <;> try simp -implicitDefEqProofs only [hg, Bool.not_true, Bool.not_false]) | (refine gddS (fun hg => ?_) (fun hg => ?_) <;> try simp -implicitDefEqProofs only [hg, Bool.not_true, Bool.not_false]) | ((with_reducible apply And.intro); focus (first | trivial | omega | decide | (simp -implicitDefEqProofs only [maxLen]; omega) | (simp [maxLen, sty_len, nd_len, ndL_len, lnL_len, intsL_len, rvs_len, lensS_len]; done) | (simp [maxLen, sty_len, nd_len, ndL_len, lnL_len, intsL_len, rvs_len, lensS_len]; omega))) | fail)
        refine hN (k + 1) _ _ (by omega) (by omega) ?_
        rw [tkR_eq, hsu]
        exact ent_env (by simp [lk])
      · have e1 : (c.was != n) = true := by simpa using hc
        rw [if_neg hc] at hsu
        have htl := trL_len (tkTo ks n k)
        have htk : (trL (tkTo ks n k)).take (tkTo ks n k).length = trL (tkTo ks n k) := List.take_of_length_le (by omega)
        have hll : (tkTo ks n (k + 1)).length = (tkTo ks n k).length + 1 := by rw [hsu]; simp
        generalize takT c n = t at *
        have hap : tkTo ks n k ++ [t] = tkTo ks n (k + 1) := hsu.symm
        have hcall1 := hcall; repeat' (first | (simp -implicitDefEqProofs only [go_sem, ↓reduceIte, Nat.reduceEqDiff, Nat.reduceAdd, Nat.reduceSub, Nat.reduceMul, Nat.reduceLeDiff, Nat.reduceLT, reduceCtorEq, Int.reduceToNat, sty_i49, sty_l50, hx, hlen, hww, htln, e1, tr_t50c, tr_mlen, htl, htk, trL_app, hap, wu]) | (with_reducible refine g_noent ?_) | (with_reducible refine g_call0 hcall1 ?_) | (with_reducible refine g_calld0 hcall1 ?_) | (refine cdS (fun hg => ?_) (fun hg => ?_) <;> try simp -implicitDefEqProofs only [hg, Bool.not_true, Bool.not_false]) | (refine gdS (fun hg => ?_) (fun hg => ?_) <;> try simp -implicitDefEqProofs only [hg, Bool.not_true, Bool.not_false]) | (refine gddS (fun hg => ?_) (fun hg => ?_) <;> try simp -implicitDefEqProofs only [hg, Bool.not_true, Bool.not_false]) | ((with_reducible apply And.intro); focus (first | trivial | omega | decide | (simp -implicitDefEqProofs only [maxLen]; omega) | (simp [maxLen, sty_len, nd_len, ndL_len, lnL_len, intsL_len, rvs_len, lensS_len]; done) | (simp [maxLen, sty_len, nd_len, ndL_len, lnL_len, intsL_len, rvs_len, lensS_len]; omega))) | fail)
        refine hN (k + 1) _ _ (by omega) (by omega) ?_
        have a1 : ClH 3 (.var (s.cells.map SV.rv ++ [.rv (.int .i64 w), .rv (.sl 50 (trL ks))])) := clA_pre s.cells (ys := [.rv (.int .i64 w), .rv (.sl 50 (trL ks))]) ⟨clS_rv.2 trivial, clS_rv.2 trivial, trivial⟩
        rw [tkR_eq, hll]
        refine ent_tail (h' := [some (.var (s.cells.map SV.rv ++ [.rv (.int .i64 w), .rv (.sl 50 (trL ks))])), some (.var zero50), some (.row 50 ((tkTo ks n k).length + 1) (rvs (trL (tkTo ks n (k + 1)))))]) (C := [some (.row 50 0 [t.cells.map SV.rv])]) (Nat.zero_le _) ⟨a1, clA_zero50, clH_rvs, trivial⟩ ?_
        simp [ClEnv, lk, clS_rv, clS_row, clS_ptr]
    · have hk4 : k = ks.length := by simp at hg; omega
      subst hk4
      simp -implicitDefEqProofs only [go_sem, ↓reduceIte, Nat.reduceEqDiff, Nat.reduceAdd, Nat.reduceSub, Nat.reduceMul, Nat.reduceLeDiff, Nat.reduceLT, reduceCtorEq, Int.reduceToNat]
      refine hX _ _ _ ?_
      repeat' (first | (simp -implicitDefEqProofs only [go_sem, ↓reduceIte, Nat.reduceEqDiff, Nat.reduceAdd, Nat.reduceSub, Nat.reduceMul, Nat.reduceLeDiff, Nat.reduceLT, reduceCtorEq, Int.reduceToNat, sty_s49, sty_t50, sty_l50, zero50_len, zero50_drop, List.append_nil]) | (with_reducible refine g_noent ?_) | (refine cdS (fun hg => ?_) (fun hg => ?_) <;> try simp -implicitDefEqProofs only [hg, Bool.not_true, Bool.not_false]) | (refine gdS (fun hg => ?_) (fun hg => ?_) <;> try simp -implicitDefEqProofs only [hg, Bool.not_true, Bool.not_false]) | (refine gddS (fun hg => ?_) (fun hg => ?_) <;> try simp -implicitDefEqProofs only [hg, Bool.not_true, Bool.not_false]) | ((with_reducible apply And.intro); focus (first | trivial | omega | decide | (simp -implicitDefEqProofs only [maxLen]; omega) | (simp [maxLen, sty_len, nd_len, ndL_len, lnL_len, intsL_len, rvs_len, lensS_len]; done) | (simp [maxLen, sty_len, nd_len, ndL_len, lnL_len, intsL_len, rvs_len, lensS_len]; omega))) | fail)
      refine (hK _ _ ?_).2
      simp -implicitDefEqProofs only [retP, resL, lk, resT_one, go_sem, ↓reduceIte, Nat.reduceEqDiff, Nat.reduceAdd, Nat.reduceSub, Nat.reduceMul, Nat.reduceLeDiff, Nat.reduceLT, reduceCtorEq, Int.reduceToNat, sty_t50, sty_l50]
      exact rn_agg.2 (rnAll_pre s.cells ⟨rn_rv.2 rfl, rn_frz (xs := trL (tkTo ks n ks.length)) rfl rfl (by rw [trL_len]) (trL_one _), trivial⟩)
end Go.Eng
