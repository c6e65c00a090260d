/- Part 5 of the proof: K9R, K13, C5, C6, KI. -/
import Derived.Test.YtiajmaeempoihaaClipInside4
set_option linter.unusedSimpArgs false
set_option linter.unusedVariables false

/- kin: of a list that is the caller's own. -/
namespace Go.Eng
open Go

theorem flat_cells (s : Sty) : ∀ r ∈ s.cells, FlatR r := by
  intro r hr
  simp -implicitDefEqProofs only [Sty.cells, List.mem_cons, List.not_mem_nil, or_false] at hr
  repeat' rcases hr with rfl | hr
  all_goals first | exact .int _ _ | exact .bool _ | (subst hr; exact .int _ _)
theorem flat_nd (x : Nd) : ∀ r ∈ x.cells, FlatR r := by
  intro r hr
  rcases List.mem_append.1 hr with hr | hr
  · exact flat_cells _ r hr
  · simp at hr; rw [hr]; exact .int _ _
theorem flatH_rvs {e v : Nat} {xs : List (List RV)} (h : ∀ x ∈ xs, ∀ r ∈ x, FlatR r) : FlatH (.row e v (rvs xs)) := by
  refine .row _ _ _ (fun i x j y hx hy => ?_)
  unfold rvs at hx
  rw [List.getElem?_map] at hx
  cases hq : xs[i]? with
  | none => simp [hq] at hx
  | some z =>
    simp [hq] at hx
    subst hx
    rw [List.getElem?_map] at hy
    cases hr : z[j]? with
    | none => simp [hr] at hy
    | some r => simp [hr] at hy; subst hy; exact .rv _ (h z (List.mem_of_getElem? hq) r (List.mem_of_getElem? hr))
theorem sp_Clone_NodeR (l : List Nd) (hb : l.length ≤ 8589934592) (i v m : Nat) (hne : i ≠ m) : CallR Go.Proofs.Try.prog 47 [.row i v l.length] [(i, .row 49 v (rvs (ndL l)))] [(m, .row 49 1 (rvs (ndL l)))] (.row m 1 l.length) := by
  have h := sp_Clone_Node (ndL l) m (by rw [ndL_len]; exact hb)
  rw [ndL_len] at h
  refine callR_lend (rs := [.sl 49 (ndL l)]) h (fun hp hpre => ⟨?_, trivial⟩) rfl (.row _ _ _) (fun q hq => ?_)
  · exact fz_rows (hpre _ (.head _)) rfl (by simp [ndL]) (ndL_one l)
  · simp at hq; subst hq
    refine ⟨flatH_rvs fun x hx => ?_, by simpa using hne⟩
    obtain ⟨n, _, rfl⟩ := List.mem_map.1 hx
    exact flat_nd n

theorem nd_sv49m (x : Nd) : (x.cells.map SV.rv).take 49 = x.cells.map SV.rv := rfl
def kTabR (l : List Nd) (k : Nat) : List (List SV) := (List.range l.length).map fun p => [.row (p + 7) (kidsTo l k p).length (kidsTo l k p).length]
def kRowsR (l : List Nd) (k : Nat) : List (Option HB) := (List.range l.length).map fun p => some (.row 1 (kidsTo l k p).length (rvs (intsL (natsI (kidsTo l k p)))))
theorem kTab_lenR (l : List Nd) (k : Nat) : (kTabR l k).length = l.length := by simp [kTabR]
theorem kRows_lenR (l : List Nd) (k : Nat) : (kRowsR l k).length = l.length := by simp [kRowsR]
theorem kTab_getR {l : List Nd} {k p : Nat} (hp : p < l.length) : (kTabR l k)[p]?.getD [] = [.row (p + 7) (kidsTo l k p).length (kidsTo l k p).length] := by simp [kTabR, hp]
theorem kRows_getR {l : List Nd} {k p : Nat} {C : List (Option HB)} (hp : p < l.length) : hget (kRowsR l k ++ C) p = some (.row 1 (kidsTo l k p).length (rvs (intsL (natsI (kidsTo l k p))))) := by
  unfold hget
  rw [List.getElem?_append_left (by rw [kRows_lenR]; exact hp)]
  simp [kRowsR, hp]
theorem kRows_endR {l : List Nd} {k : Nat} {x : Option HB} {C : List (Option HB)} : hget (kRowsR l k ++ x :: C) l.length = x := by
  unfold hget
  rw [List.getElem?_append_right (by rw [kRows_lenR]; exact Nat.le_refl _), kRows_lenR]
  simp
theorem kRows_end1R {l : List Nd} {k : Nat} {x y : Option HB} {C : List (Option HB)} : hget (kRowsR l k ++ x :: y :: C) (l.length + 1) = y := by
  unfold hget
  rw [List.getElem?_append_right (by rw [kRows_lenR]; omega), kRows_lenR, show l.length + 1 - l.length = 1 by omega]
  simp
theorem kRows_end2R {l : List Nd} {k p : Nat} {hb : Option HB} {x y : Option HB} {C : List (Option HB)} : hget ((kRowsR l k).set p hb ++ x :: C) l.length = x := by
  unfold hget
  rw [List.getElem?_append_right (by rw [List.length_set, kRows_lenR]; exact Nat.le_refl _), List.length_set, kRows_lenR]
  simp
theorem kRows_setER {l : List Nd} {k : Nat} {x y : Option HB} {C : List (Option HB)} : (kRowsR l k ++ x :: C).set l.length y = kRowsR l k ++ y :: C := by
  rw [List.set_append_right _ _ (by rw [kRows_lenR]; exact Nat.le_refl _), kRows_lenR, Nat.sub_self]; rfl
theorem kRows_setPR {l : List Nd} {k p : Nat} {y : Option HB} {C : List (Option HB)} (hp : p < l.length) : (kRowsR l k ++ C).set p y = (kRowsR l k).set p y ++ C := by
  rw [List.set_append_left _ _ (by rw [kRows_lenR]; exact hp)]
theorem kRows_zeroR (l : List Nd) : kRowsR l 0 = ghRows l.length 1 := by
  refine List.ext_getElem (by simp [kRowsR, ghRows]) (fun i h1 h2 => ?_)
  simp [kRowsR, ghRows, kidsTo_zero, natsI, intsL, rvs]
theorem kTab_zeroR (l : List Nd) : kTabR l 0 = ghTab 7 l.length l.length := by
  refine List.ext_getElem (by simp [kTabR, ghTab]) (fun i h1 h2 => ?_)
  simp [kTabR] at h1
  simp [kTabR, ghTab, kidsTo_zero, h1]; omega
theorem kRows_nextR {l : List Nd} {k p : Nat} (h0 : 0 < k) (hp : parL l k = p) (hl : p < l.length) :
    (kRowsR l k).set p (some (.row 1 ((kidsTo l k p).length + 1) (rvs (intsL (natsI (kidsTo l k p) ++ [(k : Int)]))))) = kRowsR l (k + 1) := by
  refine List.ext_getElem (by simp [kRowsR]) (fun i h1 h2 => ?_)
  simp -implicitDefEqProofs only [List.getElem_set, kRowsR, List.getElem_map, List.getElem_range, kidsTo_succ]
  by_cases h : p = i
  · subst h; simp [h0, hp, natsI]
  · rw [if_neg h, if_neg (by rw [hp]; omega)]; simp
theorem kTab_nextR {l : List Nd} {k p : Nat} (h0 : 0 < k) (hp : parL l k = p) (hl : p < l.length) :
    (kTabR l k).set p [.row (p + 7) ((kidsTo l k p).length + 1) ((kidsTo l k p).length + 1)] = kTabR l (k + 1) := by
  refine List.ext_getElem (by simp [kTabR]) (fun i h1 h2 => ?_)
  simp -implicitDefEqProofs only [List.getElem_set, kTabR, List.getElem_map, List.getElem_range, kidsTo_succ]
  by_cases h : p = i
  · subst h; simp [h0, hp]
  · rw [if_neg h, if_neg (by rw [hp]; omega)]; simp
theorem kRows_firstR (l : List Nd) : kRowsR l 1 = kRowsR l 0 := by
  refine List.ext_getElem (by simp [kRowsR]) (fun i h1 h2 => ?_)
  simp [kRowsR, kidsTo, List.range_succ]
theorem kTab_firstR (l : List Nd) : kTabR l 1 = kTabR l 0 := by
  refine List.ext_getElem (by simp [kTabR]) (fun i h1 h2 => ?_)
  simp [kTabR, kidsTo, List.range_succ]

def kHeapR (v : Nat) (l : List Nd) (k : Nat) (es ds : List Int) (bs : List Bool) : List (Option HB) := some (.row 49 v (rvs (ndL l))) :: some (.row 49 1 (rvs (ndL l))) :: some (.row 1 0 (kTabR l k)) :: some (.row 1 0 (rvs (intsL es))) :: some (.row 1 0 (rvs (intsL ds))) :: some (.row 1 0 (rvs (boolL bs))) :: some (.var [.row 1 1 l.length, .row 2 0 l.length, .row 3 0 l.length, .row 4 0 l.length, .row 5 0 l.length]) :: kRowsR l k
theorem kHeap_lenR {v : Nat} {l : List Nd} {k : Nat} {es ds : List Int} {bs : List Bool} : (kHeapR v l k es ds bs).length = l.length + 7 := by simp [kHeapR, kRows_lenR]
theorem kHeap_clR {v : Nat} {l : List Nd} {k : Nat} {es ds : List Int} {bs : List Bool} : AllSome (ClH (l.length + 7)) (kHeapR v l k es ds bs) := by
  refine ⟨clH_rvs, clH_rvs, fun i x hx => ?_, clH_rvs, clH_rvs, clH_rvs, by simp [ClH, ClA, clS_row], AllSome.of fun j x hx => ?_⟩
  · obtain ⟨hl, rfl⟩ := List.getElem?_eq_some_iff.1 hx
    simp [kTab_lenR] at hl
    simp [kTabR, ClA, clS_row, hl]
  · obtain ⟨hl, rfl⟩ := List.getElem?_eq_some_iff.1 hx
    exact ⟨.row 1 (kidsTo l k j).length (rvs (intsL (natsI (kidsTo l k j)))), by simp [kRowsR], clH_rvs⟩
theorem kHeap_tailR {v : Nat} {l : List Nd} {k : Nat} {es ds : List Int} {bs : List Bool} {env env' : List (Nat × SV)} {C : List (Option HB)} (he : ClEnv (l.length + 7) env env') : Ent 1 ⟨env, kHeapR v l k es ds bs ++ C⟩ ⟨env', kHeapR v l k es ds bs⟩ :=
  ent_tail (by rw [kHeap_lenR]; omega) (by rw [kHeap_lenR]; exact kHeap_clR) (by rw [kHeap_lenR]; exact he)

theorem kin_fzR (v : Nat) (l : List Nd) {τ : Nat → Option Nat} (hτ : ∀ j, 0 < j → τ j = none) : Fz τ (hget (kHeapR v l l.length (endsL l) (depTo l l.length) (madeTo l l.length))) (.ptr 6 0) (kinV l) := by
  refine .ptr 6 [.row 1 1 l.length, .row 2 0 l.length, .row 3 0 l.length, .row 4 0 l.length, .row 5 0 l.length] _ (hτ _ (by decide)) rfl rfl (fun i r hr => ?_) (fun i x r hx hr => ?_)
  · match i with
    | 0 => cases hr; rfl
    | 1 => cases hr; rfl
    | 2 => cases hr; rfl
    | 3 => cases hr; rfl
    | 4 => cases hr; rfl
    | i + 5 => simp at hr
  · match i with
    | 0 => cases hx; cases hr; exact fz_rows rfl (hτ _ (by decide)) (by simp [ndL]) (ndL_one l)
    | 1 =>
      cases hx; cases hr
      refine .row 2 1 0 l.length (kTabR l l.length) (kidsL l) (hτ _ (by decide)) rfl (by simp [kidsL]) (by rw [kTab_lenR]; exact Nat.le_refl _) (fun i x r hx hr => ?_) (fun i r k q hr hq => ?_) (fun i x r k y q hx hr hy hq => ?_)
      · obtain ⟨_, rfl⟩ := List.getElem?_eq_some_iff.1 hx
        obtain ⟨_, rfl⟩ := List.getElem?_eq_some_iff.1 hr
        simp [kTabR, kidsL]
      · obtain ⟨_, rfl⟩ := List.getElem?_eq_some_iff.1 hr
        have := List.mem_of_getElem? hq
        simp [kidsL] at this
        rw [this]; rfl
      · obtain ⟨hl, rfl⟩ := List.getElem?_eq_some_iff.1 hx
        obtain ⟨_, rfl⟩ := List.getElem?_eq_some_iff.1 hr
        rw [kTab_lenR] at hl
        cases k with
        | succ k => simp [kTabR] at hy
        | zero =>
          simp [kTabR] at hy
          simp [kidsL] at hq
          subst hy; subst hq
          refine fz_rows (xs := intsL (natsI (kidsOf l i))) ?_ (hτ _ (by omega)) (by simp [intsL, natsI, kidsOf]) (intsL_one _)
          have := kRows_getR (k := l.length) (C := []) hl
          rw [List.append_nil] at this
          exact this
    | 2 => cases hx; cases hr; exact fz_rows rfl (hτ _ (by decide)) (by simp [intsL, endsL]) (intsL_one _)
    | 3 => cases hx; cases hr; exact fz_rows rfl (hτ _ (by decide)) (by simp [intsL, depTo]) (intsL_one _)
    | 4 => cases hx; cases hr; exact fz_rows rfl (hτ _ (by decide)) (by simp [boolL, madeTo]) (boolL_one _)
    | i + 5 => simp at hx

set_option maxRecDepth 20000 in
set_option maxHeartbeats 8000000 in
theorem sp_kin_OfR (l : List Nd) (hb : l.length ≤ 8589934592) (hc : chk l = 0) (i0 v : Nat) : CallR Go.Proofs.Try.prog 17 [.row i0 v l.length] [(i0, .row 49 v (rvs (ndL l)))] [] (.tup [.rv (kinV l), .rv (.int .i64 0)]) := by
  refine callR_M k_kin_Of [i0] [.row 49 v (rvs (ndL l))] [.row 49 v (rvs (ndL l))] [.row 0 v l.length] [.row i0 v l.length] _ _ (by simp) (by simp [BkAll, bk_row]) rfl (by simp [nodupL]) ⟨rfl, rfl, ⟨rfl, _, rfl⟩, trivial⟩ (fun K hK => ?_)
  have hlen := ndL_len l
  have hck0 := sp_tree_Check l hb
  rw [hc] at hck0
  have hck := lend1 (id := 0) (v := v) (n := l.length) (bs := []) hck0 (.int _ _) (by simp [ndL]) (ndL_one l)
  have ht : treeOK l = true := by
    unfold chk at hc
    cases h : treeOK l with
    | true => rfl
    | false => rw [h] at hc; simp at hc
  have hs : Shp l := shape_iff.1 (by unfold treeOK at ht; simp -implicitDefEqProofs only [Bool.and_eq_true] at ht; exact ht.1)
  have e00 : (((0 : Int)) != 0) = false := rfl
  simp -implicitDefEqProofs only [c_kin_Of, go_sem, ↓reduceIte, Nat.reduceEqDiff, Nat.reduceAdd, Nat.reduceSub, Nat.reduceMul, Nat.reduceLeDiff, Nat.reduceLT, reduceCtorEq, Int.reduceToNat]
  have hb2 : (ndL l).length ≤ 8589934592 := by rw [hlen]; exact hb
  have hcall1 := hck; have hcall2 := sp_Clone_NodeR l hb 0 v 1 (by decide); repeat' (first | (simp -implicitDefEqProofs only [go_sem, ↓reduceIte, Nat.reduceEqDiff, Nat.reduceAdd, Nat.reduceSub, Nat.reduceMul, Nat.reduceLeDiff, Nat.reduceLT, reduceCtorEq, Int.reduceToNat, e00, hlen, rvs_rep1, rvs_repB]) | (with_reducible refine g_noent ?_) | (refine g_call hcall1 (by simp [PreOK, hget]; done) (by simp [okU, uph]; done) ?_) | (refine g_calld hcall1 (by simp [PreOK, hget]; done) (by simp [okU, uph]; done) ?_) | (refine g_call hcall2 (by simp [PreOK, hget]; done) (by simp [okU, uph]; done) ?_) | (refine g_calld hcall2 (by simp [PreOK, hget]; done) (by simp [okU, uph]; done) ?_) | (refine cdS (fun hg => ?_) (fun hg => ?_) <;> try simp -implicitDefEqProofs only [hg, Bool.not_true, Bool.not_false]) | (refine gdS (fun hg => ?_) (fun hg => ?_) <;> try simp -implicitDefEqProofs only [hg, Bool.not_true, Bool.not_false]) | (refine gddS (fun hg => ?_) (fun hg => ?_) <;> try simp -implicitDefEqProofs only [hg, Bool.not_true, Bool.not_false]) | ((with_reducible apply And.intro); focus (first | trivial | omega | decide | (simp -implicitDefEqProofs only [maxLen]; omega) | (simp [maxLen, sty_len, nd_len, ndL_len, lnL_len, intsL_len, rvs_len, lensS_len]; done) | (simp [maxLen, sty_len, nd_len, ndL_len, lnL_len, intsL_len, rvs_len, lensS_len]; omega))) | fail)
  have hkt : ∀ n : Nat, kTabR l 0 = ghTab 7 l.length l.length := fun _ => kTab_zeroR l
  let ev : Nat → List (Nat × SV) := fun k => [(33, .rv (.int .i64 k)), (32, .rv (.int .i64 l.length)), (31, .row 0 v l.length), (5, .ptr 6 0), (0, .row 0 v l.length)]
  refine g_loop (ι := Nat) (fun k => [(33, .rv (.int .i64 k)), (32, .rv (.int .i64 l.length)), (31, .row 0 v l.length), (5, .ptr 6 0), (0, .row 0 v l.length)]) (fun k => some (.row 49 v (rvs (ndL l))) :: some (.row 49 1 (rvs (ndL l))) :: some (.row 1 0 (kTabR l k)) :: some (.row 1 0 (rvs (intsL (List.replicate l.length 0)))) :: some (.row 1 0 (rvs (intsL (depTo l k)))) :: some (.row 1 0 (rvs (boolL (madeTo l k)))) :: some (.var [.row 1 1 l.length, .row 2 0 l.length, .row 3 0 l.length, .row 4 0 l.length, .row 5 0 l.length]) :: kRowsR l k) (fun k => k ≤ l.length) (fun k => l.length - k) 0 (by simp) ?_ (fun k hk K' hN hX hR => ?_)
  · refine (ent_env (env' := [(33, .rv (.int .i64 0)), (32, .rv (.int .i64 l.length)), (31, .row 0 v l.length), (5, .ptr 6 0), (0, .row 0 v l.length)]) (by simp [lk])).trans ?_
    rw [kTab_zeroR, kRows_zeroR, depTo_zero, madeTo_zero]
    exact ent_ghosts (r := 2) (v := 0) (n := l.length) (e := 1) rfl
  simp -implicitDefEqProofs only [go_sem, ↓reduceIte, Nat.reduceEqDiff, Nat.reduceAdd, Nat.reduceSub, Nat.reduceMul, Nat.reduceLeDiff, Nat.reduceLT, reduceCtorEq, Int.reduceToNat]
  refine cdS (fun hg => ?_) (fun hg => ?_)
  · have hk4 : k < l.length := by simp at hg; omega
    have hx := ndL_get hk4
    have krl := kRows_lenR l k
    have hdl := depTo_len l k
    have hdd := intsL_len (depTo l k)
    have hd1 := intsL_getD (l := depTo l k) (i := k) (by omega)
    have hml := madeTo_len l k
    have hmm := boolL_len (madeTo l k)
    have hm1 := boolL_getD (bs := madeTo l k) (i := k) (by omega)
    have hsh := shownL_eq hk4
    have e1 : (l.length = l.length + 1) = False := eq_false (by omega)
    have e2 : (l.length = l.length + 2) = False := eq_false (by omega)
    have hds := depTo_set hk4
    have hds2 := depTo_set2 hk4
    have wu := wrap_up (k := k) (by omega)
    by_cases hk0 : 0 < k
    · have hgt : decide ((k : Int) > 0) = true := decide_eq_true (by omega)
      obtain ⟨p1, p2⟩ := hs.wf.2 k hk0 hk4
      obtain ⟨p, hp⟩ : ∃ p : Nat, parL l k = p := ⟨(parL l k).toNat, by omega⟩
      have hpl : p < l.length := by omega
      have q0 : (p = l.length) = False := eq_false (by omega)
      have q1 : (p = l.length + 1) = False := eq_false (by omega)
      have q2 : (p = l.length + 2) = False := eq_false (by omega)
      have hpk := parL_eq hk4
      have hds3 : (depTo l k).set k 1 = (depTo l k).set k 1 := rfl
      have hdsl : ((depTo l k).set k 1).length = l.length := by simp [hdl]
      have hdsl2 := intsL_len ((depTo l k).set k 1)
      have hdp := intsL_getD (l := (depTo l k).set k 1) (i := p) (by omega)
      have hdk := intsL_getD (l := (depTo l k).set k 1) (i := k) (by omega)
      rw [depTo_get (by omega) (by omega)] at hdp
      have hdep := depth_par hs.wf hk0 hk4
      rw [hp, Int.toNat_natCast] at hdep
      have wd := wrap_up (k := depth l p) (by have := pth_len (l := l) p; unfold depth; omega)
      rw [← hdep] at wd
      obtain ⟨b, hsv⟩ : ∃ b, shownL l k = b := ⟨_, rfl⟩
      have hmp := boolL_getD (bs := (madeTo l k).set k b) (i := p) (by simp [hml]; omega)
      have hmk := boolL_getD (bs := (madeTo l k).set k b) (i := k) (by simp [hml]; omega)
      rw [madeTo_get (by omega) (by omega)] at hmp
      have hmsl : ((madeTo l k).set k b).length = l.length := by simp [hml]
      have hmsl2 := boolL_len ((madeTo l k).set k b)
      have hms : ((madeTo l k).set k b).set k (b && madeS l p) = madeTo l (k + 1) := by
        have := madeS_par hs.wf hk0 hk4
        rw [hp, Int.toNat_natCast, hsv] at this
        rw [List.set_set, ← this, madeTo_set hk4]
      have hktl := kTab_lenR l k
      have hktg := kTab_getR (k := k) hpl
      have hkrg := fun C => kRows_getR (k := k) (C := C) hpl
      have hkn := kRows_nextR hk0 hp hpl
      have htn := kTab_nextR hk0 hp hpl
      have hsp := fun (y : Option HB) C => kRows_setPR (k := k) (y := y) (C := C) hpl
      have hkl : (natsI (kidsTo l k p)).length = (kidsTo l k p).length := by simp [natsI]
      have hkl2 := intsL_len (natsI (kidsTo l k p))
      have htk : (intsL (natsI (kidsTo l k p))).take (kidsTo l k p).length = intsL (natsI (kidsTo l k p)) := List.take_of_length_le (by rw [hkl2, hkl]; exact Nat.le_refl _)
      have hkk := kidsTo_len (l := l) (k := k) (p := p)
      cases b
      all_goals simp -implicitDefEqProofs only [Bool.false_and, Bool.true_and] at hms
      · repeat' (first | (simp -implicitDefEqProofs only [go_sem, ↓reduceIte, Nat.reduceEqDiff, Nat.reduceAdd, Nat.reduceSub, Nat.reduceMul, Nat.reduceLeDiff, Nat.reduceLT, reduceCtorEq, Int.reduceToNat, hlen, hx, krl, nd_len, nd_sv48, nd_sv49m, Nat.add_assoc, kRows_endR, List.append_assoc, hdl, hdd, hd1, hml, hmm, hm1, rvs_set1, rvs_setB, nd_at0, hsh, hsv, e1, e2, kRows_setER, hgt, hpk, hp, nd_atp, hktl, hktg, hkrg, q0, q1, q2, hsp, kRows_end1R, kRows_end2R, hkl, hkl2, htk, rvs_app1, hkn, htn, hdsl, hdsl2, hdp, hdk, wd, hds2, wu, hmp, hmk, hmsl, hmsl2]) | (with_reducible refine g_noent ?_) | (refine cdS (fun hg => ?_) (fun hg => ?_) <;> try simp -implicitDefEqProofs only [hg, Bool.not_true, Bool.not_false]) | (refine gdS (fun hg => ?_) (fun hg => ?_) <;> try simp -implicitDefEqProofs only [hg, Bool.not_true, Bool.not_false]) | (refine gddS (fun hg => ?_) (fun hg => ?_) <;> try simp -implicitDefEqProofs only [hg, Bool.not_true, Bool.not_false]) | ((with_reducible apply And.intro); focus (first | trivial | omega | decide | (simp -implicitDefEqProofs only [maxLen]; omega) | (simp [maxLen, sty_len, nd_len, ndL_len, lnL_len, intsL_len, rvs_len, lensS_len]; done) | (simp [maxLen, sty_len, nd_len, ndL_len, lnL_len, intsL_len, rvs_len, lensS_len]; omega) | (simp (decide := true) [compatB, compatB1, apartT, disj, Nat.testBit, q0, q1, q2]; done))) | fail)
        rw [hms]
        exact hN (k + 1) _ _ (by omega) (by omega) (kHeap_tailR (v := v) (l := l) (k := k + 1) (by simp [ClEnv, lk, clS_rv, clS_ptr, clS_row]))
      · repeat' (first | (simp -implicitDefEqProofs only [go_sem, ↓reduceIte, Nat.reduceEqDiff, Nat.reduceAdd, Nat.reduceSub, Nat.reduceMul, Nat.reduceLeDiff, Nat.reduceLT, reduceCtorEq, Int.reduceToNat, hlen, hx, krl, nd_len, nd_sv48, nd_sv49m, Nat.add_assoc, kRows_endR, List.append_assoc, hdl, hdd, hd1, hml, hmm, hm1, rvs_set1, rvs_setB, nd_at0, hsh, hsv, e1, e2, kRows_setER, hgt, hpk, hp, nd_atp, hktl, hktg, hkrg, q0, q1, q2, hsp, kRows_end1R, kRows_end2R, hkl, hkl2, htk, rvs_app1, hkn, htn, hdsl, hdsl2, hdp, hdk, wd, hds2, wu, hmp, hmk, hmsl, hmsl2]) | (with_reducible refine g_noent ?_) | (refine cdS (fun hg => ?_) (fun hg => ?_) <;> try simp -implicitDefEqProofs only [hg, Bool.not_true, Bool.not_false]) | (refine gdS (fun hg => ?_) (fun hg => ?_) <;> try simp -implicitDefEqProofs only [hg, Bool.not_true, Bool.not_false]) | (refine gddS (fun hg => ?_) (fun hg => ?_) <;> try simp -implicitDefEqProofs only [hg, Bool.not_true, Bool.not_false]) | ((with_reducible apply And.intro); focus (first | trivial | omega | decide | (simp -implicitDefEqProofs only [maxLen]; omega) | (simp [maxLen, sty_len, nd_len, ndL_len, lnL_len, intsL_len, rvs_len, lensS_len]; done) | (simp [maxLen, sty_len, nd_len, ndL_len, lnL_len, intsL_len, rvs_len, lensS_len]; omega) | (simp (decide := true) [compatB, compatB1, apartT, disj, Nat.testBit, q0, q1, q2]; done))) | fail)
        rw [hms]
        exact hN (k + 1) _ _ (by omega) (by omega) (kHeap_tailR (v := v) (l := l) (k := k + 1) (by simp [ClEnv, lk, clS_rv, clS_ptr, clS_row]))
    · obtain rfl : k = 0 := by omega
      have hgt : decide (((0 : Nat) : Int) > 0) = false := rfl
      rw [depth_zero] at hds
      have hms := madeTo_set hk4
      rw [madeS_zero] at hms
      have hds1 : (depTo l 0).set 0 1 = depTo l (0 + 1) := hds
      repeat' (first | (simp -implicitDefEqProofs only [go_sem, ↓reduceIte, Nat.reduceEqDiff, Nat.reduceAdd, Nat.reduceSub, Nat.reduceMul, Nat.reduceLeDiff, Nat.reduceLT, reduceCtorEq, Int.reduceToNat, hlen, hx, krl, nd_len, nd_sv48, nd_sv49m, Nat.add_assoc, kRows_endR, List.append_assoc, hdl, hdd, hd1, hml, hmm, hm1, rvs_set1, rvs_setB, nd_at0, hsh, e1, e2, kRows_setER, hgt, wu, hms, hds1]) | (with_reducible refine g_noent ?_) | (refine cdS (fun hg => ?_) (fun hg => ?_) <;> try simp -implicitDefEqProofs only [hg, Bool.not_true, Bool.not_false]) | (refine gdS (fun hg => ?_) (fun hg => ?_) <;> try simp -implicitDefEqProofs only [hg, Bool.not_true, Bool.not_false]) | (refine gddS (fun hg => ?_) (fun hg => ?_) <;> try simp -implicitDefEqProofs only [hg, Bool.not_true, Bool.not_false]) | ((with_reducible apply And.intro); focus (first | trivial | omega | decide | (simp -implicitDefEqProofs only [maxLen]; omega) | (simp [maxLen, sty_len, nd_len, ndL_len, lnL_len, intsL_len, rvs_len, lensS_len]; done) | (simp [maxLen, sty_len, nd_len, ndL_len, lnL_len, intsL_len, rvs_len, lensS_len]; omega))) | fail)
      refine hN 1 _ _ (by omega) (by omega) ?_
      rw [kTab_firstR, kRows_firstR]
      exact kHeap_tailR (v := v) (l := l) (k := 0) (es := List.replicate l.length 0) (ds := depTo l (0 + 1)) (bs := madeTo l (0 + 1)) (C := [some (.var ((l[0]'hk4).cells.map .rv))]) (by simp [ClEnv, lk, clS_rv, clS_ptr, clS_row])
  · have hk4 : k = l.length := by simp at hg; omega
    subst hk4
    simp -implicitDefEqProofs only [go_sem, ↓reduceIte, Nat.reduceEqDiff, Nat.reduceAdd, Nat.reduceSub, Nat.reduceMul, Nat.reduceLeDiff, Nat.reduceLT, reduceCtorEq, Int.reduceToNat]
    refine hX _ _ _ ?_
    have wl := wrap_dn hs.pos (by omega)
    repeat' (first | (simp -implicitDefEqProofs only [go_sem, ↓reduceIte, Nat.reduceEqDiff, Nat.reduceAdd, Nat.reduceSub, Nat.reduceMul, Nat.reduceLeDiff, Nat.reduceLT, reduceCtorEq, Int.reduceToNat, hlen, wl]) | (with_reducible refine g_noent ?_) | (refine cdS (fun hg => ?_) (fun hg => ?_) <;> try simp -implicitDefEqProofs only [hg, Bool.not_true, Bool.not_false]) | (refine gdS (fun hg => ?_) (fun hg => ?_) <;> try simp -implicitDefEqProofs only [hg, Bool.not_true, Bool.not_false]) | (refine gddS (fun hg => ?_) (fun hg => ?_) <;> try simp -implicitDefEqProofs only [hg, Bool.not_true, Bool.not_false]) | ((with_reducible apply And.intro); focus (first | trivial | omega | decide | (simp -implicitDefEqProofs only [maxLen]; omega) | (simp [maxLen, sty_len, nd_len, ndL_len, lnL_len, intsL_len, rvs_len, lensS_len]; done) | (simp [maxLen, sty_len, nd_len, ndL_len, lnL_len, intsL_len, rvs_len, lensS_len]; omega))) | fail)
    clear hN hX hR
    refine g_loop (ι := Nat) (fun k => [(8, .rv (.int .i64 ((k : Int) - 1))), (5, .ptr 6 0)]) (fun k => kHeapR v l l.length (endTo l k) (depTo l l.length) (madeTo l l.length)) (fun k => k ≤ l.length) (fun k => k) l.length (Nat.le_refl _) (by rw [endTo_top]; exact ent_env (by simp [lk]; have := hs.pos; omega)) (fun k hk K' hN hX hR => ?_)
    simp -implicitDefEqProofs only [kHeapR, go_sem, ↓reduceIte, Nat.reduceEqDiff, Nat.reduceAdd, Nat.reduceSub, Nat.reduceMul, Nat.reduceLeDiff, Nat.reduceLT, reduceCtorEq, Int.reduceToNat]
    refine cdS (fun hg => ?_) (fun hg => ?_)
    · have hk0 : 0 < k := by simp at hg; omega
      obtain ⟨j, rfl⟩ : ∃ j, k = j + 1 := ⟨k - 1, by omega⟩
      have ej : (((j + 1 : Nat) : Int) - 1) = (j : Int) := by omega
      have wj := wrap_up (k := j) (by omega)
      have hjl : j < l.length := by omega
      have hel := endTo_len l (j + 1)
      have hell := intsL_len (endTo l (j + 1))
      have he1 := intsL_getD (l := endTo l (j + 1)) (i := j) (by omega)
      have hktl := kTab_lenR l l.length
      have hktg := kTab_getR (k := l.length) hjl
      have hkrg := kRows_getR (k := l.length) (C := []) hjl
      simp -implicitDefEqProofs only [List.append_nil] at hkrg
      have hkl : (natsI (kidsTo l l.length j)).length = (kidsTo l l.length j).length := by simp [natsI]
      have hkl2 := intsL_len (natsI (kidsTo l l.length j))
      have hkk := kidsTo_len (l := l) (k := l.length) (p := j)
      have hsl : ((endTo l (j + 1)).set j ((j + 1 : Nat) : Int)).length = l.length := by simp [hel]
      have hsll := intsL_len ((endTo l (j + 1)).set j ((j + 1 : Nat) : Int))
      have hse := endTo_set (l := l) (k := j + 1) (by omega) (by omega)
      simp -implicitDefEqProofs only [Nat.add_sub_cancel] at hse
      have wd : IntKind.i64.wrap ((j : Int) - 1) = ((j : Int) - 1) := wrap_i64 (by omega) (by omega)
      by_cases hk1 : kidsTo l l.length j = []
      · have hm0 : decide ((((kidsTo l l.length j).length : Nat) : Int) > 0) = false := by rw [hk1]; rfl
        have he := endS_leaf hk1
        rw [he] at hse
        repeat' (first | (simp -implicitDefEqProofs only [go_sem, ↓reduceIte, Nat.reduceEqDiff, Nat.reduceAdd, Nat.reduceSub, Nat.reduceMul, Nat.reduceLeDiff, Nat.reduceLT, reduceCtorEq, Int.reduceToNat, hel, hell, he1, hktl, hktg, hkrg, ej, wj, hm0, rvs_set1, hse, wd]) | (with_reducible refine g_noent ?_) | (refine cdS (fun hg => ?_) (fun hg => ?_) <;> try simp -implicitDefEqProofs only [hg, Bool.not_true, Bool.not_false]) | (refine gdS (fun hg => ?_) (fun hg => ?_) <;> try simp -implicitDefEqProofs only [hg, Bool.not_true, Bool.not_false]) | (refine gddS (fun hg => ?_) (fun hg => ?_) <;> try simp -implicitDefEqProofs only [hg, Bool.not_true, Bool.not_false]) | ((with_reducible apply And.intro); focus (first | trivial | omega | decide | (simp -implicitDefEqProofs only [maxLen]; omega) | (simp [maxLen, sty_len, nd_len, ndL_len, lnL_len, intsL_len, rvs_len, lensS_len]; done) | (simp [maxLen, sty_len, nd_len, ndL_len, lnL_len, intsL_len, rvs_len, lensS_len]; omega))) | fail)
        refine hN j _ _ (by omega) (by omega) (ent_env (by simp [lk]))
      · obtain ⟨c, hc⟩ : ∃ c, (kidsTo l l.length j).getLast? = some c := by
          cases h : (kidsTo l l.length j).getLast? with
          | none => exact absurd (List.getLast?_eq_none_iff.1 h) hk1
          | some c => exact ⟨c, rfl⟩
        have hpos : 0 < (kidsTo l l.length j).length := List.length_pos_iff.2 hk1
        have hm0 : decide ((((kidsTo l l.length j).length : Nat) : Int) > 0) = true := decide_eq_true (by omega)
        have hcm : c ∈ kidsOf l j := List.mem_of_getLast? hc
        obtain ⟨c1, c2, c3⟩ := mem_kids.1 hcm
        have hcj : j < c := by have := (hs.wf.2 c c1 c2).2; omega
        have he := endS_last hc hcj c2
        rw [he] at hse
        have wm := wrap_dn hpos (by omega)
        have hcg : (natsI (kidsTo l l.length j)).getD ((kidsTo l l.length j).length - 1) 0 = (c : Int) := by
          rw [List.getLast?_eq_getElem?] at hc
          simp [natsI, List.getD_eq_getElem?_getD, hc]
        have hcx := intsL_getD (l := natsI (kidsTo l l.length j)) (i := (kidsTo l l.length j).length - 1) (by omega)
        rw [hcg] at hcx
        have hec := intsL_getD (l := (endTo l (j + 1)).set j ((j + 1 : Nat) : Int)) (i := c) (by omega)
        have hev := endTo_get (l := l) (k := j + 1) (j := c) (v := ((j + 1 : Nat) : Int)) (by omega) (by omega) c2
        simp -implicitDefEqProofs only [Nat.add_sub_cancel] at hev
        rw [hev] at hec
        have hej := intsL_getD (l := (endTo l (j + 1)).set j ((j + 1 : Nat) : Int)) (i := j) (by omega)
        have hset : ((endTo l (j + 1)).set j ((j + 1 : Nat) : Int)).set j (endS l c) = endTo l j := by rw [List.set_set, hse]
        repeat' (first | (simp -implicitDefEqProofs only [go_sem, ↓reduceIte, Nat.reduceEqDiff, Nat.reduceAdd, Nat.reduceSub, Nat.reduceMul, Nat.reduceLeDiff, Nat.reduceLT, reduceCtorEq, Int.reduceToNat, hel, hell, he1, hktl, hktg, hkrg, ej, wj, hm0, rvs_set1, wd, wm, hcx, hec, hej, hset, hsl, hsll, hkl, hkl2]) | (with_reducible refine g_noent ?_) | (refine cdS (fun hg => ?_) (fun hg => ?_) <;> try simp -implicitDefEqProofs only [hg, Bool.not_true, Bool.not_false]) | (refine gdS (fun hg => ?_) (fun hg => ?_) <;> try simp -implicitDefEqProofs only [hg, Bool.not_true, Bool.not_false]) | (refine gddS (fun hg => ?_) (fun hg => ?_) <;> try simp -implicitDefEqProofs only [hg, Bool.not_true, Bool.not_false]) | ((with_reducible apply And.intro); focus (first | trivial | omega | decide | (simp -implicitDefEqProofs only [maxLen]; omega) | (simp [maxLen, sty_len, nd_len, ndL_len, lnL_len, intsL_len, rvs_len, lensS_len]; done) | (simp [maxLen, sty_len, nd_len, ndL_len, lnL_len, intsL_len, rvs_len, lensS_len]; omega))) | fail)
        refine hN j _ _ (by omega) (by omega) (ent_env (by simp [lk]))
    · obtain rfl : k = 0 := by simp at hg; omega
      simp -implicitDefEqProofs only [go_sem, ↓reduceIte, Nat.reduceEqDiff, Nat.reduceAdd, Nat.reduceSub, Nat.reduceMul, Nat.reduceLeDiff, Nat.reduceLT, reduceCtorEq, Int.reduceToNat]
      refine hX _ _ _ ?_
      repeat' (first | (simp -implicitDefEqProofs only [go_sem, ↓reduceIte, Nat.reduceEqDiff, Nat.reduceAdd, Nat.reduceSub, Nat.reduceMul, Nat.reduceLeDiff, Nat.reduceLT, reduceCtorEq, Int.reduceToNat]) | (with_reducible refine g_noent ?_) | (refine cdS (fun hg => ?_) (fun hg => ?_) <;> try simp -implicitDefEqProofs only [hg, Bool.not_true, Bool.not_false]) | (refine gdS (fun hg => ?_) (fun hg => ?_) <;> try simp -implicitDefEqProofs only [hg, Bool.not_true, Bool.not_false]) | (refine gddS (fun hg => ?_) (fun hg => ?_) <;> try simp -implicitDefEqProofs only [hg, Bool.not_true, Bool.not_false]) | ((with_reducible apply And.intro); focus (first | trivial | omega | decide | (simp -implicitDefEqProofs only [maxLen]; omega) | (simp [maxLen, sty_len, nd_len, ndL_len, lnL_len, intsL_len, rvs_len, lensS_len]; done) | (simp [maxLen, sty_len, nd_len, ndL_len, lnL_len, intsL_len, rvs_len, lensS_len]; omega))) | fail)
      refine (hK _ _ _ _ [] (ent_refl _ _) ?_).2
      rw [endTo_zero]
      simp -implicitDefEqProofs only [retM, List.map_cons, List.map_nil, List.append_nil]
      refine ⟨by simp [nodupL], trivial, trivial, ⟨?_, trivial⟩, trivial, rn_tup.2 ⟨?_, rn_rv.2 rfl, trivial⟩⟩
      · rw [show finU (lkp ([i0].zip [HB.row 49 v (rvs (ndL l))]) i0) [] i0 = some (HB.row 49 v (rvs (ndL l))) from by simp [finU, lkp]]
        exact ⟨rfl, rfl, rnRows_rvs.2 rfl⟩
      · exact .fz _ _ (kin_fzR v l (fun j hj => by cases j with
          | zero => omega
          | succ j => rfl))


end Go.Eng


/- kin: what is told of a node is what the document says. -/
namespace Go.Eng
open Go
/- decoupage/decoupagelaw06.Plain -/
def c_decoupagelaw06_Plain : AC := (.seq (.reg [⟨(some 0), (.alloc [(.bool false), (.int .i64 0), (.int .i64 0), (.int .i64 0), (.int .i64 0), (.int .i64 0), (.int .i64 0), (.int .i64 0), (.int .i64 0), (.int .i64 0), (.int .i64 0), (.int .i64 0), (.int .i64 0), (.int .i64 0), (.int .i64 0), (.int .i64 0), (.int .i64 0), (.int .i64 0), (.int .i64 0), (.int .i64 0), (.int .i64 0), (.int .i64 0), (.int .i64 0), (.int .i64 0), (.int .i64 0), (.int .i64 0), (.int .i64 0), (.int .i64 0), (.int .i64 0), (.int .i64 0), (.int .i64 0), (.int .i64 0), (.int .i64 0), (.int .i64 0), (.int .i64 0), (.int .i64 0), (.int .i64 0), (.int .i64 0), (.int .i64 0), (.int .i64 0), (.int .i64 0), (.int .i64 0), (.bool false), (.bool false), (.int .i64 0), (.bool false), (.int .i64 0), (.int .i64 0)]), [], none⟩]) (.seq (.reg [⟨(some 3), (.build [(.bool false), (.int .i64 0), (.int .i64 0), (.int .i64 0), (.int .i64 0), (.int .i64 0), (.int .i64 0), (.int .i64 0), (.int .i64 0), (.int .i64 0), (.int .i64 0), (.int .i64 0), (.int .i64 0), (.int .i64 0), (.int .i64 0), (.int .i64 0), (.int .i64 0), (.int .i64 0), (.int .i64 0), (.int .i64 0), (.int .i64 0), (.int .i64 0), (.int .i64 0), (.int .i64 0), (.int .i64 0), (.int .i64 0), (.int .i64 0), (.int .i64 0), (.int .i64 0), (.int .i64 0), (.int .i64 0), (.int .i64 0), (.int .i64 0), (.int .i64 0), (.int .i64 0), (.int .i64 0), (.int .i64 0), (.int .i64 0), (.int .i64 0), (.int .i64 0), (.int .i64 0), (.int .i64 0), (.bool false), (.bool false), (.int .i64 0), (.bool false), (.int .i64 0), (.int .i64 0)] [(0, 1)]), [(.c (.rv (.bool true)))], none⟩, ⟨(some 1), (.alloc [(.bool false), (.int .i64 0), (.int .i64 0), (.int .i64 0), (.int .i64 0), (.int .i64 0), (.int .i64 0), (.int .i64 0), (.int .i64 0), (.int .i64 0), (.int .i64 0), (.int .i64 0), (.int .i64 0), (.int .i64 0), (.int .i64 0), (.int .i64 0), (.int .i64 0), (.int .i64 0), (.int .i64 0), (.int .i64 0), (.int .i64 0), (.int .i64 0), (.int .i64 0), (.int .i64 0), (.int .i64 0), (.int .i64 0), (.int .i64 0), (.int .i64 0), (.int .i64 0), (.int .i64 0), (.int .i64 0), (.int .i64 0), (.int .i64 0), (.int .i64 0), (.int .i64 0), (.int .i64 0), (.int .i64 0), (.int .i64 0), (.int .i64 0), (.int .i64 0), (.int .i64 0), (.int .i64 0), (.bool false), (.bool false), (.int .i64 0), (.bool false), (.int .i64 0), (.int .i64 0)]), [], none⟩, ⟨none, (.store 48), [(.t 1), (.t 3)], none⟩]) (.seq (.seq (.reg [⟨(some 4), .mv, [(.c (.rv (.int .i64 0)))], none⟩]) (.seq (.block 0 (.loop (.seq (.reg [⟨(some 5), (.ibin .lss), [(.t 4), (.c (.rv (.int .i64 4)))], none⟩]) (.seq (.cond (.t 5) .skip (.exit 0)) (.seq (.seq (.block 1 (.seq (.reg [⟨(some 6), .mv, [(.t 4)], none⟩, ⟨(some 2), .mv, [(.t 6)], none⟩]) (.reg [⟨(some 7), .mv, [(.t 2)], none⟩, ⟨(some 8), (.build [(.int .i64 0), (.int .i64 0)] [(0, 1)]), [(.c (.rv (.int .i64 1)))], none⟩, ⟨(some 9), (.fld 30), [(.t 1)], none⟩, ⟨(some 10), (.ixa 4 2), [(.t 9), (.t 7)], none⟩, ⟨none, (.store 2), [(.t 10), (.t 8)], none⟩]))) .ent) (.reg [⟨(some 11), (.ibin .add), [(.t 4), (.c (.rv (.int .i64 1)))], none⟩, ⟨(some 4), .mv, [(.t 11)], none⟩])))))) .ent)) (.seq (.reg [⟨(some 12), (.load 48 true), [(.t 1)], none⟩, ⟨none, (.store 48), [(.t 0), (.t 12)], none⟩]) .ret))))
theorem k_decoupagelaw06_Plain : FnOK Go.Proofs.Try.prog 44 13 c_decoupagelaw06_Plain [(.c 0 48 true)] := fnOK_of (by kernel_rfl)

def kindsB : List CK → List RV → Bool
  | [], [] => true
  | .b :: ks, .bool _ :: rs => kindsB ks rs
  | .i :: ks, .int _ _ :: rs => kindsB ks rs
  | .s :: ks, .str _ :: rs => kindsB ks rs
  | _, _ => false
/-- A style that says nothing. -/
def plainS : Sty := { (default : Sty) with shown := true, pad := ⟨⟨1, 0⟩, ⟨1, 0⟩, ⟨1, 0⟩, ⟨1, 0⟩⟩ }
def plainTo (k : Nat) : Sty := { (default : Sty) with shown := true, pad := ⟨if 0 < k then ⟨1, 0⟩ else default, if 1 < k then ⟨1, 0⟩ else default, if 2 < k then ⟨1, 0⟩ else default, if 3 < k then ⟨1, 0⟩ else default⟩ }

theorem sp_Plain : CallR Go.Proofs.Try.prog 44 [] [] [] plainS.sv := by
  refine callR_G k_decoupagelaw06_Plain [] _ (by simp) (by simp [BkAll, bk_agg, bkAll_map, bk_rv, bk_fn, Sty.sv, Ln.sv, Nd.sv]) (fun K hK => ?_)
  simp -implicitDefEqProofs only [c_decoupagelaw06_Plain, go_sem, ↓reduceIte, Nat.reduceEqDiff, Nat.reduceAdd, Nat.reduceSub, Nat.reduceMul, Nat.reduceLeDiff, Nat.reduceLT, reduceCtorEq, Int.reduceToNat]
  repeat' (first | (simp -implicitDefEqProofs only [go_sem, ↓reduceIte, Nat.reduceEqDiff, Nat.reduceAdd, Nat.reduceSub, Nat.reduceMul, Nat.reduceLeDiff, Nat.reduceLT, reduceCtorEq, Int.reduceToNat]) | (with_reducible refine g_noent ?_) | (refine cdS (fun hg => ?_) (fun hg => ?_) <;> try simp -implicitDefEqProofs only [hg, Bool.not_true, Bool.not_false]) | (refine gdS (fun hg => ?_) (fun hg => ?_) <;> try simp -implicitDefEqProofs only [hg, Bool.not_true, Bool.not_false]) | (refine gddS (fun hg => ?_) (fun hg => ?_) <;> try simp -implicitDefEqProofs only [hg, Bool.not_true, Bool.not_false]) | ((with_reducible apply And.intro); focus (first | trivial | omega | decide | (simp -implicitDefEqProofs only [maxLen]; omega) | (simp [maxLen, sty_len, nd_len, ndL_len, lnL_len, intsL_len, rvs_len, lensS_len]; done) | (simp [maxLen, sty_len, nd_len, ndL_len, lnL_len, intsL_len, rvs_len, lensS_len]; omega) | (exact ⟨rfl, by decide⟩; done))) | fail)
  refine g_loop (ι := Nat) (fun k => [(4, .rv (.int .i64 k)), (0, .ptr 0 0), (1, .ptr 1 0)]) (fun k => [some (.var ((default : Sty).cells.map .rv)), some (.var ((plainTo k).cells.map .rv))]) (fun k => k ≤ 4) (fun k => 4 - k) 0 (by simp) (ent_env (by simp [lk])) (fun k hk K' hN hX hR => ?_)
  simp -implicitDefEqProofs only [go_sem, ↓reduceIte, Nat.reduceEqDiff, Nat.reduceAdd, Nat.reduceSub, Nat.reduceMul, Nat.reduceLeDiff, Nat.reduceLT, reduceCtorEq, Int.reduceToNat]
  refine cdS (fun hg => ?_) (fun hg => ?_)
  · have : k = 0 ∨ k = 1 ∨ k = 2 ∨ k = 3 := by simp at hg; omega
    rcases this with rfl | rfl | rfl | rfl
    all_goals
      repeat' (first | (simp -implicitDefEqProofs only [go_sem, ↓reduceIte, Nat.reduceEqDiff, Nat.reduceAdd, Nat.reduceSub, Nat.reduceMul, Nat.reduceLeDiff, Nat.reduceLT, reduceCtorEq, Int.reduceToNat, sty_len, wrap_up (k := 0) (by decide), wrap_up (k := 1) (by decide), wrap_up (k := 2) (by decide), wrap_up (k := 3) (by decide)]) | (with_reducible refine g_noent ?_) | (refine cdS (fun hg => ?_) (fun hg => ?_) <;> try simp -implicitDefEqProofs only [hg, Bool.not_true, Bool.not_false]) | (refine gdS (fun hg => ?_) (fun hg => ?_) <;> try simp -implicitDefEqProofs only [hg, Bool.not_true, Bool.not_false]) | (refine gddS (fun hg => ?_) (fun hg => ?_) <;> try simp -implicitDefEqProofs only [hg, Bool.not_true, Bool.not_false]) | ((with_reducible apply And.intro); focus (first | trivial | omega | decide | (simp -implicitDefEqProofs only [maxLen]; omega) | (simp [maxLen, sty_len, nd_len, ndL_len, lnL_len, intsL_len, rvs_len, lensS_len]; done) | (simp [maxLen, sty_len, nd_len, ndL_len, lnL_len, intsL_len, rvs_len, lensS_len]; omega))) | fail)
    · exact hN 1 _ _ (by omega) (by omega) (ent_env (by simp [lk]))
    · exact hN 2 _ _ (by omega) (by omega) (ent_env (by simp [lk]))
    · exact hN 3 _ _ (by omega) (by omega) (ent_env (by simp [lk]))
    · exact hN 4 _ _ (by omega) (by omega) (ent_env (by simp [lk]))
  · have hk4 : k = 4 := by simp at hg; omega
    subst hk4
    simp -implicitDefEqProofs only [go_sem, ↓reduceIte, Nat.reduceEqDiff, Nat.reduceAdd, Nat.reduceSub, Nat.reduceMul, Nat.reduceLeDiff, Nat.reduceLT, reduceCtorEq, Int.reduceToNat]
    refine hX _ _ _ ?_
    repeat' (first | (simp -implicitDefEqProofs only [go_sem, ↓reduceIte, Nat.reduceEqDiff, Nat.reduceAdd, Nat.reduceSub, Nat.reduceMul, Nat.reduceLeDiff, Nat.reduceLT, reduceCtorEq, Int.reduceToNat, sty_len, sty_all2]) | (with_reducible refine g_noent ?_) | (refine cdS (fun hg => ?_) (fun hg => ?_) <;> try simp -implicitDefEqProofs only [hg, Bool.not_true, Bool.not_false]) | (refine gdS (fun hg => ?_) (fun hg => ?_) <;> try simp -implicitDefEqProofs only [hg, Bool.not_true, Bool.not_false]) | (refine gddS (fun hg => ?_) (fun hg => ?_) <;> try simp -implicitDefEqProofs only [hg, Bool.not_true, Bool.not_false]) | ((with_reducible apply And.intro); focus (first | trivial | omega | decide | (simp -implicitDefEqProofs only [maxLen]; omega) | (simp [maxLen, sty_len, nd_len, ndL_len, lnL_len, intsL_len, rvs_len, lensS_len]; done) | (simp [maxLen, sty_len, nd_len, ndL_len, lnL_len, intsL_len, rvs_len, lensS_len]; omega) | (rfl; done) | (exact ⟨rfl, by decide⟩; done))) | fail)
    exact (hK _ _ (ret_c (rs := plainS.cells) rfl rfl rfl)).2

theorem one_chk : chk [⟨plainS, -1⟩] = 0 := by decide +kernel
theorem one_made : madeAt [⟨plainS, -1⟩] 0 = true := by
  simp [madeAt, inL, madeS_zero, shownL, plainS]

end Go.Eng


/- clip: the statements as functions: tells, inside. -/
namespace Go.Eng
open Go
/- decoupage/decoupagelaw22.awake -/
def c_decoupagelaw22_awake : AC := (.seq (.reg [⟨(some 0), .mv, [(.c (.rv (.bool false)))], none⟩]) (.seq (.reg [⟨(some 5), (.call 44), [], none⟩, ⟨(some 6), (.build [(.bool false), (.int .i64 0), (.int .i64 0), (.int .i64 0), (.int .i64 0), (.int .i64 0), (.int .i64 0), (.int .i64 0), (.int .i64 0), (.int .i64 0), (.int .i64 0), (.int .i64 0), (.int .i64 0), (.int .i64 0), (.int .i64 0), (.int .i64 0), (.int .i64 0), (.int .i64 0), (.int .i64 0), (.int .i64 0), (.int .i64 0), (.int .i64 0), (.int .i64 0), (.int .i64 0), (.int .i64 0), (.int .i64 0), (.int .i64 0), (.int .i64 0), (.int .i64 0), (.int .i64 0), (.int .i64 0), (.int .i64 0), (.int .i64 0), (.int .i64 0), (.int .i64 0), (.int .i64 0), (.int .i64 0), (.int .i64 0), (.int .i64 0), (.int .i64 0), (.int .i64 0), (.int .i64 0), (.bool false), (.bool false), (.int .i64 0), (.bool false), (.int .i64 0), (.int .i64 0), (.int .i64 0)] [(0, 48), (48, 1)]), [(.t 5), (.c (.rv (.int .i64 (-1))))], none⟩, ⟨(some 7), (.bsl 49), [(.t 6)], none⟩, ⟨(some 8), (.call 17), [(.t 7)], none⟩, ⟨(some 4), .mv, [(.t 8)], none⟩, ⟨(some 9), (.ext 0), [(.t 4)], none⟩, ⟨(some 10), (.ext 1), [(.t 4)], none⟩, ⟨(some 1), .mv, [(.t 9)], none⟩, ⟨(some 2), .mv, [(.t 10)], none⟩]) (.seq (.reg [⟨(some 11), .mv, [(.t 1)], none⟩, ⟨(some 12), (.build [(.bool false), (.int .i64 0), (.int .i64 0), (.int .i64 0), (.int .i64 0), (.int .i64 0), (.int .i64 0), (.int .i64 0), (.int .i64 0), (.int .i64 0), (.int .i64 0), (.int .i64 0), (.int .i64 0), (.int .i64 0), (.int .i64 0), (.int .i64 0), (.int .i64 0), (.int .i64 0), (.int .i64 0), (.int .i64 0), (.int .i64 0)] [(0, 1)]), [(.c (.rv (.bool true)))], none⟩, ⟨(some 13), (.bsl 21), [(.t 12)], none⟩, ⟨(some 14), (.build [(.int .i64 0), (.int .i64 0)] [(0, 1), (1, 1)]), [(.c (.rv (.int .i64 3))), (.c (.rv (.int .i64 4)))], none⟩, ⟨(some 15), (.call 19), [(.t 11), (.t 13), (.t 14)], none⟩, ⟨(some 3), .mv, [(.t 15)], none⟩]) (.seq (.reg [⟨(some 16), .mv, [(.t 2)], none⟩, ⟨(some 17), (.ibin .eql), [(.t 16), (.c (.rv (.int .i64 0)))], none⟩, ⟨(some 18), .mv, [(.t 17)], none⟩, ⟨(some 19), .mv, [(.t 3)], (some (18, true))⟩, ⟨(some 20), .len, [(.t 19)], (some (18, true))⟩, ⟨(some 21), (.ibin .eql), [(.t 20), (.c (.rv (.int .i64 1)))], (some (18, true))⟩, ⟨(some 22), .pick, [(.t 18), (.t 21), (.c (.rv (.bool false)))], none⟩, ⟨(some 23), .mv, [(.t 22)], none⟩, ⟨(some 24), .mv, [(.t 3)], (some (23, true))⟩, ⟨(some 25), (.ixs 4), [(.t 24), (.c (.rv (.int .i64 0)))], (some (23, true))⟩, ⟨(some 26), (.load 4 true), [(.t 25)], (some (23, true))⟩, ⟨(some 27), (.build [(.int .i64 0), (.int .i64 0), (.int .i64 0), (.int .i64 0)] [(2, 1), (3, 1)]), [(.c (.rv (.int .i64 3))), (.c (.rv (.int .i64 4)))], (some (23, true))⟩, ⟨(some 28), (.eqs false true [.i, .i, .i, .i]), [(.t 26), (.t 27)], (some (23, true))⟩, ⟨(some 29), .pick, [(.t 23), (.t 28), (.c (.rv (.bool false)))], none⟩, ⟨(some 0), .mv, [(.t 29)], none⟩]) .ret))))
theorem k_decoupagelaw22_awake : FnOK Go.Proofs.Try.prog 14 30 c_decoupagelaw22_awake [(.t 0)] := fnOK_of (by kernel_rfl)

/- decoupage/decoupagelaw22.ClipInside -/
def c_decoupagelaw22_ClipInside : AC := (.seq (.reg [⟨(some 5), .box, [(.t 2)], none⟩, ⟨(some 6), .mv, [(.c (.rv (.bool false)))], none⟩]) (.seq (.seq (.reg [⟨(some 12), (.call 14), [], none⟩, ⟨(some 13), .not, [(.t 12)], none⟩, ⟨(some 14), .mv, [(.t 13)], none⟩, ⟨(some 15), .mv, [(.t 0)], (some (14, false))⟩, ⟨(some 16), .len, [(.t 15)], (some (14, false))⟩, ⟨(some 17), (.ibin .gtr), [(.t 16), (.c (.rv (.int .i64 30)))], (some (14, false))⟩, ⟨(some 18), .pick, [(.t 14), (.c (.rv (.bool true))), (.t 17)], none⟩, ⟨(some 19), .mv, [(.t 18)], none⟩, ⟨(some 20), .mv, [(.t 1)], (some (19, false))⟩, ⟨(some 21), .len, [(.t 20)], (some (19, false))⟩, ⟨(some 22), .mv, [(.t 0)], (some (19, false))⟩, ⟨(some 23), .len, [(.t 22)], (some (19, false))⟩, ⟨(some 24), (.ibin .neq), [(.t 21), (.t 23)], (some (19, false))⟩, ⟨(some 25), .pick, [(.t 19), (.c (.rv (.bool true))), (.t 24)], none⟩, ⟨(some 26), .mv, [(.t 25)], none⟩, ⟨(some 27), .mv, [(.t 1)], (some (26, false))⟩, ⟨(some 28), (.call 15), [(.t 27)], (some (26, false))⟩, ⟨(some 29), .not, [(.t 28)], (some (26, false))⟩, ⟨(some 30), .pick, [(.t 26), (.c (.rv (.bool true))), (.t 29)], none⟩, ⟨(some 31), .mv, [(.t 30)], none⟩, ⟨(some 32), .mv, [(.t 0)], (some (31, false))⟩, ⟨(some 33), (.call 16), [(.t 32)], (some (31, false))⟩, ⟨(some 34), (.ibin .neq), [(.t 33), (.c (.rv (.int .i64 0)))], (some (31, false))⟩, ⟨(some 35), .pick, [(.t 31), (.c (.rv (.bool true))), (.t 34)], none⟩]) (.cond (.t 35) (.seq (.reg [⟨(some 36), (.call 14), [], none⟩, ⟨(some 6), .mv, [(.t 36)], none⟩]) .ret) .skip)) (.seq (.reg [⟨(some 38), .mv, [(.t 0)], none⟩, ⟨(some 39), (.call 17), [(.t 38)], none⟩, ⟨(some 37), .mv, [(.t 39)], none⟩, ⟨(some 40), (.ext 0), [(.t 37)], none⟩, ⟨(some 41), (.ext 1), [(.t 37)], none⟩, ⟨(some 7), .mv, [(.t 40)], none⟩, ⟨(some 8), .mv, [(.t 41)], none⟩]) (.seq (.reg [⟨(some 42), .mv, [(.t 7)], none⟩, ⟨(some 43), .mv, [(.t 1)], none⟩, ⟨(some 44), (.load 2 true), [(.t 5)], none⟩, ⟨(some 45), (.call 19), [(.t 42), (.t 43), (.t 44)], none⟩, ⟨(some 9), .mv, [(.t 45)], none⟩]) (.seq (.seq (.reg [⟨(some 46), .mv, [(.t 8)], none⟩, ⟨(some 47), (.ibin .neq), [(.t 46), (.c (.rv (.int .i64 0)))], none⟩, ⟨(some 48), .mv, [(.t 47)], none⟩, ⟨(some 49), .mv, [(.t 9)], (some (48, false))⟩, ⟨(some 50), .len, [(.t 49)], (some (48, false))⟩, ⟨(some 51), .mv, [(.t 0)], (some (48, false))⟩, ⟨(some 52), .len, [(.t 51)], (some (48, false))⟩, ⟨(some 53), (.ibin .neq), [(.t 50), (.t 52)], (some (48, false))⟩, ⟨(some 54), .pick, [(.t 48), (.c (.rv (.bool true))), (.t 53)], none⟩]) (.cond (.t 54) (.seq (.reg [⟨(some 6), .mv, [(.c (.rv (.bool false)))], none⟩]) .ret) .skip)) (.seq (.seq (.reg [⟨(some 55), .mv, [(.t 9)], none⟩, ⟨(some 56), .len, [(.t 55)], none⟩, ⟨(some 57), .mv, [(.c (.rv (.int .i64 0)))], none⟩]) (.seq (.block 0 (.loop (.seq (.reg [⟨(some 58), (.ibin .lss), [(.t 57), (.t 56)], none⟩]) (.seq (.cond (.t 58) .skip (.exit 0)) (.seq (.seq (.block 1 (.seq (.reg [⟨(some 59), .mv, [(.t 57)], none⟩, ⟨(some 10), .mv, [(.t 59)], none⟩]) (.seq (.seq (.regd [0, 0, 3, 7, 0, 16, 0, 64, 240, 511, 1023] [⟨(some 60), .mv, [(.t 9)], none⟩, ⟨(some 61), .mv, [(.t 10)], none⟩, ⟨(some 62), (.ixs 4), [(.t 60), (.t 61)], none⟩, ⟨(some 63), (.load 4 true), [(.t 62)], none⟩, ⟨(some 64), (.fld 0), [(.t 5)], none⟩, ⟨(some 65), (.load 1 false), [(.t 64)], none⟩, ⟨(some 66), (.fld 1), [(.t 5)], none⟩, ⟨(some 67), (.load 1 false), [(.t 66)], none⟩, ⟨(some 68), (.build [(.int .i64 0), (.int .i64 0), (.int .i64 0), (.int .i64 0)] [(2, 1), (3, 1)]), [(.t 65), (.t 67)], none⟩, ⟨(some 69), (.call 23), [(.t 63), (.t 68)], none⟩, ⟨(some 70), .not, [(.t 69)], none⟩]) (.cond (.t 70) (.seq (.reg [⟨(some 6), .mv, [(.c (.rv (.bool false)))], none⟩]) .ret) .skip)) (.seq (.reg [⟨(some 71), .mv, [(.t 0)], none⟩, ⟨(some 72), .mv, [(.t 10)], none⟩, ⟨(some 73), (.call 24), [(.t 71), (.t 72)], none⟩, ⟨(some 11), .mv, [(.t 73)], none⟩]) (.seq (.regd [0, 1, 3, 7, 7, 31, 63, 7, 7, 391, 903, 2047, 4095, 8191] [⟨(some 74), .mv, [(.t 11)], none⟩, ⟨(some 75), (.ibin .geq), [(.t 74), (.c (.rv (.int .i64 0)))], none⟩, ⟨(some 76), .mv, [(.t 75)], none⟩, ⟨(some 77), .mv, [(.t 9)], (some (76, true))⟩, ⟨(some 78), .mv, [(.t 10)], (some (76, true))⟩, ⟨(some 79), (.ixs 4), [(.t 77), (.t 78)], (some (76, true))⟩, ⟨(some 80), (.load 4 true), [(.t 79)], (some (76, true))⟩, ⟨(some 81), .mv, [(.t 9)], (some (76, true))⟩, ⟨(some 82), .mv, [(.t 11)], (some (76, true))⟩, ⟨(some 83), (.ixs 4), [(.t 81), (.t 82)], (some (76, true))⟩, ⟨(some 84), (.load 4 true), [(.t 83)], (some (76, true))⟩, ⟨(some 85), (.call 23), [(.t 80), (.t 84)], (some (76, true))⟩, ⟨(some 86), .not, [(.t 85)], (some (76, true))⟩, ⟨(some 87), .pick, [(.t 76), (.t 86), (.c (.rv (.bool false)))], none⟩]) (.cond (.t 87) (.seq (.reg [⟨(some 6), .mv, [(.c (.rv (.bool false)))], none⟩]) .ret) .skip)))))) .ent) (.reg [⟨(some 88), (.ibin .add), [(.t 57), (.c (.rv (.int .i64 1)))], none⟩, ⟨(some 57), .mv, [(.t 88)], none⟩])))))) .ent)) (.seq (.reg [⟨(some 6), .mv, [(.c (.rv (.bool true)))], none⟩]) .ret)))))))
theorem k_decoupagelaw22_ClipInside : FnOK Go.Proofs.Try.prog 5 89 c_decoupagelaw22_ClipInside [(.t 6)] := fnOK_of (by kernel_rfl)


theorem sp_ClipsN (l : List Nd) (hs : Shp l) (hb : l.length ≤ 100) (bx : List Bx) (hnc : ∀ p : Nat, (styAt l p).clip = false) (w h : Int) (hl : bx.length = l.length) (i0 v : Nat) : CallR Go.Proofs.Try.prog 19 [.rv (kinV l), .row i0 v l.length, .agg [.rv (.int .i64 w), .rv (.int .i64 h)]] [(i0, .row 21 v (rvs (bxL bx)))] [] (.rv (.sl 4 (rcL (clipTo l bx (vwR w h) l.length)))) := by
  refine callR_M k_clip_Clips [i0] [.row 21 v (rvs (bxL bx))] [.row 21 v (rvs (bxL bx))] [.rv (kinV l), .row 0 v l.length, .agg [.rv (.int .i64 w), .rv (.int .i64 h)]] [.rv (kinV l), .row i0 v l.length, .agg [.rv (.int .i64 w), .rv (.int .i64 h)]] _ _ (by simp) (by simp [BkAll, bk_row, bk_rv, bk_agg]) rfl (by simp [nodupL]) ⟨rfl, rfl, ⟨rfl, _, rfl⟩, trivial⟩ (fun K hK => ?_)
  have hlen := bxL_len bx
  simp -implicitDefEqProofs only [c_clip_Clips, go_sem, ↓reduceIte, Nat.reduceEqDiff, Nat.reduceAdd, Nat.reduceSub, Nat.reduceMul, Nat.reduceLeDiff, Nat.reduceLT, reduceCtorEq, Int.reduceToNat]
  have hcall1 := sp_Len l; repeat' (first | (simp -implicitDefEqProofs only [go_sem, ↓reduceIte, Nat.reduceEqDiff, Nat.reduceAdd, Nat.reduceSub, Nat.reduceMul, Nat.reduceLeDiff, Nat.reduceLT, reduceCtorEq, Int.reduceToNat, hlen, hl, bne_self_eq_false, rc_rep]) | (with_reducible refine g_noent ?_) | (with_reducible refine g_call0 hcall1 ?_) | (with_reducible refine g_calld0 hcall1 ?_) | (refine cdS (fun hg => ?_) (fun hg => ?_) <;> try simp -implicitDefEqProofs only [hg, Bool.not_true, Bool.not_false]) | (refine gdS (fun hg => ?_) (fun hg => ?_) <;> try simp -implicitDefEqProofs only [hg, Bool.not_true, Bool.not_false]) | (refine gddS (fun hg => ?_) (fun hg => ?_) <;> try simp -implicitDefEqProofs only [hg, Bool.not_true, Bool.not_false]) | ((with_reducible apply And.intro); focus (first | trivial | omega | decide | (simp -implicitDefEqProofs only [maxLen]; omega) | (simp [maxLen, sty_len, nd_len, ndL_len, lnL_len, intsL_len, rvs_len, lensS_len]; done) | (simp [maxLen, sty_len, nd_len, ndL_len, lnL_len, intsL_len, rvs_len, lensS_len]; omega))) | fail)
  refine g_loop (ι := Nat) (fun k => [(20, .rv (.int .i64 k)), (19, .rv (.int .i64 l.length)), (7, .row 2 0 l.length), (5, .ptr 1 0), (0, .rv (kinV l)), (1, .row 0 v l.length)]) (fun k => [some (.row 21 v (rvs (bxL bx))), some (.var [.rv (.int .i64 w), .rv (.int .i64 h)]), some (.row 4 0 (rvs (rcL (rowTo l bx (vwR w h) l.length k))))]) (fun k => k ≤ l.length) (fun k => l.length - k) 0 (by simp) (by rw [← rowTo_zero]; exact ent_env (by simp [lk])) (fun k hk K' hN hX hR => ?_)
  simp -implicitDefEqProofs only [go_sem, ↓reduceIte, Nat.reduceEqDiff, Nat.reduceAdd, Nat.reduceSub, Nat.reduceMul, Nat.reduceLeDiff, Nat.reduceLT, reduceCtorEq, Int.reduceToNat]
  refine cdS (fun hg => ?_) (fun hg => ?_)
  · have hk4 : k < l.length := by simp at hg; omega
    have wu := wrap_up (k := k) (by omega)
    have hm := sp_Made l k
    have ho := sp_Of l hs k
    have hrl := rowTo_len l bx (vwR w h) hk
    have hrl2 := rcL_len (rowTo l bx (vwR w h) l.length k)
    have hk0 := rcL_getD (l := rowTo l bx (vwR w h) l.length k) (i := k) (by omega)
    generalize (rowTo l bx (vwR w h) l.length k).getD k zeroR = zk at hk0
    cases hmm : madeAt l k with
    | false =>
      rw [hmm] at hm
      have hcall2 := hm; repeat' (first | (simp -implicitDefEqProofs only [go_sem, ↓reduceIte, Nat.reduceEqDiff, Nat.reduceAdd, Nat.reduceSub, Nat.reduceMul, Nat.reduceLeDiff, Nat.reduceLT, reduceCtorEq, Int.reduceToNat, wu]) | (with_reducible refine g_noent ?_) | (with_reducible refine g_call0 hcall2 ?_) | (with_reducible refine g_calld0 hcall2 ?_) | (refine cdS (fun hg => ?_) (fun hg => ?_) <;> try simp -implicitDefEqProofs only [hg, Bool.not_true, Bool.not_false]) | (refine gdS (fun hg => ?_) (fun hg => ?_) <;> try simp -implicitDefEqProofs only [hg, Bool.not_true, Bool.not_false]) | (refine gddS (fun hg => ?_) (fun hg => ?_) <;> try simp -implicitDefEqProofs only [hg, Bool.not_true, Bool.not_false]) | ((with_reducible apply And.intro); focus (first | trivial | omega | decide | (simp -implicitDefEqProofs only [maxLen]; omega) | (simp [maxLen, sty_len, nd_len, ndL_len, lnL_len, intsL_len, rvs_len, lensS_len]; done) | (simp [maxLen, sty_len, nd_len, ndL_len, lnL_len, intsL_len, rvs_len, lensS_len]; omega))) | fail)
      refine hN (k + 1) _ _ (by omega) (by omega) ?_
      rw [rowTo_skip l bx _ hk4 (by simp [clipStep, hmm])]
      exact ent_env (by simp [lk])
    | true =>
      rw [hmm] at hm
      rcases hold_nat hs hmm with h1 | ⟨p, h1, h2, h3, h4⟩
      · rw [h1] at ho
        have e2 : ((-1 : Int) == -1) = true := rfl
        have hmt : CallR Go.Proofs.Try.prog 50 [.agg [.rv (.int .i64 0), .rv (.int .i64 0), .rv (.int .i64 w), .rv (.int .i64 h)], .agg [.rv (.int .i64 0), .rv (.int .i64 0), .rv (.int .i64 w), .rv (.int .i64 h)]] [] [] (.agg ((vwR w h).cells.map SV.rv)) := sp_rect_Meet (viewR w h) (viewR w h)
        have hcall3 := hm; have hcall4 := ho; have hcall5 := hmt; repeat' (first | (simp -implicitDefEqProofs only [go_sem, ↓reduceIte, Nat.reduceEqDiff, Nat.reduceAdd, Nat.reduceSub, Nat.reduceMul, Nat.reduceLeDiff, Nat.reduceLT, reduceCtorEq, Int.reduceToNat, e2, rcL_set, hk0, rc_tkm, rc_mlen, rc_dr, List.append_nil, hrl, hrl2, wu, rc_len]) | (with_reducible refine g_noent ?_) | (with_reducible refine g_call0 hcall3 ?_) | (with_reducible refine g_calld0 hcall3 ?_) | (with_reducible refine g_call0 hcall4 ?_) | (with_reducible refine g_calld0 hcall4 ?_) | (with_reducible refine g_call0 hcall5 ?_) | (with_reducible refine g_calld0 hcall5 ?_) | (refine cdS (fun hg => ?_) (fun hg => ?_) <;> try simp -implicitDefEqProofs only [hg, Bool.not_true, Bool.not_false]) | (refine gdS (fun hg => ?_) (fun hg => ?_) <;> try simp -implicitDefEqProofs only [hg, Bool.not_true, Bool.not_false]) | (refine gddS (fun hg => ?_) (fun hg => ?_) <;> try simp -implicitDefEqProofs only [hg, Bool.not_true, Bool.not_false]) | ((with_reducible apply And.intro); focus (first | trivial | omega | decide | (simp -implicitDefEqProofs only [maxLen]; omega) | (simp [maxLen, sty_len, nd_len, ndL_len, lnL_len, intsL_len, rvs_len, lensS_len]; done) | (simp [maxLen, sty_len, nd_len, ndL_len, lnL_len, intsL_len, rvs_len, lensS_len]; omega))) | fail)
        refine hN (k + 1) _ _ (by omega) (by omega) ?_
        rw [rowTo_set l bx _ hk4 (by simp [clipStep, hmm, h1, vwR])]
        exact ent_env (by simp [lk])
      · rw [h1] at ho
        have e2 : ((p : Int) == -1) = false := by simp
        have hst := sp_Style l p
        have hx := rcL_getD (l := rowTo l bx (vwR w h) l.length k) (i := p) (by omega)
        rw [rowTo_at _ _ _ h2] at hx
        generalize hxx : (clipTo l bx (vwR w h) k).getD p zeroR = x at *
        have e45 := sty_at45 (styAt l p)
        have hc := hnc p
        rw [hc] at e45
        have hcall6 := hm; have hcall7 := ho; have hcall8 := hst; repeat' (first | (simp -implicitDefEqProofs only [go_sem, ↓reduceIte, Nat.reduceEqDiff, Nat.reduceAdd, Nat.reduceSub, Nat.reduceMul, Nat.reduceLeDiff, Nat.reduceLT, reduceCtorEq, Int.reduceToNat, e2, e45, hx, rcL_set, hk0, rc_tkm, rc_mlen, rc_dr, List.append_nil, hrl, hrl2, wu, rc_len, rc_tk]) | (with_reducible refine g_noent ?_) | (with_reducible refine g_call0 hcall6 ?_) | (with_reducible refine g_calld0 hcall6 ?_) | (with_reducible refine g_call0 hcall7 ?_) | (with_reducible refine g_calld0 hcall7 ?_) | (with_reducible refine g_call0 hcall8 ?_) | (with_reducible refine g_calld0 hcall8 ?_) | (refine cdS (fun hg => ?_) (fun hg => ?_) <;> try simp -implicitDefEqProofs only [hg, Bool.not_true, Bool.not_false]) | (refine gdS (fun hg => ?_) (fun hg => ?_) <;> try simp -implicitDefEqProofs only [hg, Bool.not_true, Bool.not_false]) | (refine gddS (fun hg => ?_) (fun hg => ?_) <;> try simp -implicitDefEqProofs only [hg, Bool.not_true, Bool.not_false]) | ((with_reducible apply And.intro); focus (first | trivial | omega | decide | (simp -implicitDefEqProofs only [maxLen]; omega) | (simp [maxLen, sty_len, nd_len, ndL_len, lnL_len, intsL_len, rvs_len, lensS_len]; done) | (simp [maxLen, sty_len, nd_len, ndL_len, lnL_len, intsL_len, rvs_len, lensS_len]; omega))) | fail)
        refine hN (k + 1) _ _ (by omega) (by omega) ?_
        rw [rowTo_set l bx _ hk4 (by rw [← hxx]; simp [clipStep, hmm, h1, hc])]
        exact ent_env (by simp [lk])
  · have hk4 : k = l.length := by simp at hg; omega
    subst hk4
    simp -implicitDefEqProofs only [go_sem, ↓reduceIte, Nat.reduceEqDiff, Nat.reduceAdd, Nat.reduceSub, Nat.reduceMul, Nat.reduceLeDiff, Nat.reduceLT, reduceCtorEq, Int.reduceToNat]
    refine hX _ _ _ ?_
    repeat' (first | (simp -implicitDefEqProofs only [go_sem, ↓reduceIte, Nat.reduceEqDiff, Nat.reduceAdd, Nat.reduceSub, Nat.reduceMul, Nat.reduceLeDiff, Nat.reduceLT, reduceCtorEq, Int.reduceToNat]) | (with_reducible refine g_noent ?_) | (refine cdS (fun hg => ?_) (fun hg => ?_) <;> try simp -implicitDefEqProofs only [hg, Bool.not_true, Bool.not_false]) | (refine gdS (fun hg => ?_) (fun hg => ?_) <;> try simp -implicitDefEqProofs only [hg, Bool.not_true, Bool.not_false]) | (refine gddS (fun hg => ?_) (fun hg => ?_) <;> try simp -implicitDefEqProofs only [hg, Bool.not_true, Bool.not_false]) | ((with_reducible apply And.intro); focus (first | trivial | omega | decide | (simp -implicitDefEqProofs only [maxLen]; omega) | (simp [maxLen, sty_len, nd_len, ndL_len, lnL_len, intsL_len, rvs_len, lensS_len]; done) | (simp [maxLen, sty_len, nd_len, ndL_len, lnL_len, intsL_len, rvs_len, lensS_len]; omega))) | fail)
    rw [rowTo_full]
    refine (hK _ _ _ _ [] (ent_refl _ _) ?_).2
    simp -implicitDefEqProofs only [retM, List.map_cons, List.map_nil, List.append_nil]
    refine ⟨by simp [nodupL], trivial, trivial, ⟨?_, trivial⟩, trivial, ?_⟩
    · rw [show finU (lkp ([i0].zip [HB.row 21 v (rvs (bxL bx))]) i0) [] i0 = some (HB.row 21 v (rvs (bxL bx))) from by simp [finU, lkp]]
      exact ⟨rfl, rfl, rnRows_rvs.2 rfl⟩
    · exact rn_frz (xs := rcL (clipTo l bx (vwR w h) l.length)) rfl rfl (by rw [rcL_len, clipTo_len]) (rcL_one _)

abbrev oneN : List Nd := [⟨plainS, -1⟩]
theorem one_tree : treeOK oneN = true := by decide +kernel
theorem one_hold : holdAt oneN 0 = -1 := by
  have : outAt oneN 0 = false := by simp [outAt]
  have hp : parAt oneN 0 = -1 := rfl
  have hm : madeAt oneN 0 = true := one_made
  simp [holdAt, this, hm, hp]
def oneB : List Bx := [⟨true, 0, 0, 0, 0, ⟨0, 0, 0, 0⟩, ⟨0, 0, 0, 0⟩, ⟨0, 0, 0, 0⟩, ⟨0, 0, 0, 0⟩⟩]
theorem one_vw : vwR 3 4 = ⟨0, 0, 3, 4⟩ := by decide
theorem one_clip : clipTo oneN oneB (vwR 3 4) 1 = [⟨0, 0, 3, 4⟩] := by
  have h1 : madeAt oneN ((0 : Nat) : Int) = true := one_made
  have h2 : holdAt oneN ((0 : Nat) : Int) = -1 := one_hold
  simp -implicitDefEqProofs only [clipTo, clipStep, h1, h2, Bool.true_eq_false, if_false, if_true, one_vw, List.nil_append]
theorem one_noclip (p : Nat) : (styAt oneN p).clip = false := by
  unfold styAt
  split
  · match p with
    | 0 => rfl
    | p + 1 => rfl
  · rfl

theorem sp_awake22 : CallR Go.Proofs.Try.prog 14 [] [] [] (.rv (.bool true)) := by
  refine callR_G k_decoupagelaw22_awake [] _ (by simp) (by simp [BkAll, bk_agg, bkAll_map, bk_rv, bk_fn, Sty.sv, Ln.sv, Nd.sv]) (fun K hK => ?_)
  have hk := sp_kin_OfR oneN (by decide) one_chk 0 0
  have hc : CallR Go.Proofs.Try.prog 19 [.rv (kinV oneN), .row 1 0 1, .agg [.rv (.int .i64 3), .rv (.int .i64 4)]] [(1, .row 21 0 (rvs (bxL oneB)))] [] (.rv (.sl 4 [[.int .i64 0, .int .i64 0, .int .i64 3, .int .i64 4]])) := by
    have := sp_ClipsN oneN (tree_shp one_tree) (by decide) oneB one_noclip 3 4 rfl 1 0
    rw [show oneN.length = 1 from rfl, one_clip] at this
    exact this
  have e1 : ((0 : Int) == 0) = true := rfl
  have e2 : ((((1 : Nat) : Int)) == 1) = true := rfl
  have e3 : ((3 : Int) == 3) = true := rfl
  have e4 : ((4 : Int) == 4) = true := rfl
  simp -implicitDefEqProofs only [c_decoupagelaw22_awake, go_sem, ↓reduceIte, Nat.reduceEqDiff, Nat.reduceAdd, Nat.reduceSub, Nat.reduceMul, Nat.reduceLeDiff, Nat.reduceLT, reduceCtorEq, Int.reduceToNat]
  have hcall9 := sp_Plain; repeat' (first | (simp -implicitDefEqProofs only [go_sem, ↓reduceIte, Nat.reduceEqDiff, Nat.reduceAdd, Nat.reduceSub, Nat.reduceMul, Nat.reduceLeDiff, Nat.reduceLT, reduceCtorEq, Int.reduceToNat, sty_len]) | (with_reducible refine g_noent ?_) | (with_reducible refine g_call0 hcall9 ?_) | (with_reducible refine g_calld0 hcall9 ?_) | (refine cdS (fun hg => ?_) (fun hg => ?_) <;> try simp -implicitDefEqProofs only [hg, Bool.not_true, Bool.not_false]) | (refine gdS (fun hg => ?_) (fun hg => ?_) <;> try simp -implicitDefEqProofs only [hg, Bool.not_true, Bool.not_false]) | (refine gddS (fun hg => ?_) (fun hg => ?_) <;> try simp -implicitDefEqProofs only [hg, Bool.not_true, Bool.not_false]) | ((with_reducible apply And.intro); focus (first | trivial | omega | decide | (simp -implicitDefEqProofs only [maxLen]; omega) | (simp [maxLen, sty_len, nd_len, ndL_len, lnL_len, intsL_len, rvs_len, lensS_len]; done) | (simp [maxLen, sty_len, nd_len, ndL_len, lnL_len, intsL_len, rvs_len, lensS_len]; omega) | (rfl; done) | (exact ⟨rfl, by decide⟩; done))) | fail)
  refine g_call hk (pre_one rfl) trivial ?_
  repeat' (first | (simp -implicitDefEqProofs only [go_sem, ↓reduceIte, Nat.reduceEqDiff, Nat.reduceAdd, Nat.reduceSub, Nat.reduceMul, Nat.reduceLeDiff, Nat.reduceLT, reduceCtorEq, Int.reduceToNat]) | (with_reducible refine g_noent ?_) | (refine cdS (fun hg => ?_) (fun hg => ?_) <;> try simp -implicitDefEqProofs only [hg, Bool.not_true, Bool.not_false]) | (refine gdS (fun hg => ?_) (fun hg => ?_) <;> try simp -implicitDefEqProofs only [hg, Bool.not_true, Bool.not_false]) | (refine gddS (fun hg => ?_) (fun hg => ?_) <;> try simp -implicitDefEqProofs only [hg, Bool.not_true, Bool.not_false]) | ((with_reducible apply And.intro); focus (first | trivial | omega | decide | (simp -implicitDefEqProofs only [maxLen]; omega) | (simp [maxLen, sty_len, nd_len, ndL_len, lnL_len, intsL_len, rvs_len, lensS_len]; done) | (simp [maxLen, sty_len, nd_len, ndL_len, lnL_len, intsL_len, rvs_len, lensS_len]; omega))) | fail)
  refine g_call hc (pre_one rfl) trivial ?_
  repeat' (first | (simp -implicitDefEqProofs only [go_sem, ↓reduceIte, Nat.reduceEqDiff, Nat.reduceAdd, Nat.reduceSub, Nat.reduceMul, Nat.reduceLeDiff, Nat.reduceLT, reduceCtorEq, Int.reduceToNat, e1, e2, e3, e4, Bool.and_true, Bool.and_self]) | (with_reducible refine g_noent ?_) | (refine cdS (fun hg => ?_) (fun hg => ?_) <;> try simp -implicitDefEqProofs only [hg, Bool.not_true, Bool.not_false]) | (refine gdS (fun hg => ?_) (fun hg => ?_) <;> try simp -implicitDefEqProofs only [hg, Bool.not_true, Bool.not_false]) | (refine gddS (fun hg => ?_) (fun hg => ?_) <;> try simp -implicitDefEqProofs only [hg, Bool.not_true, Bool.not_false]) | ((with_reducible apply And.intro); focus (first | trivial | omega | decide | (simp -implicitDefEqProofs only [maxLen]; omega) | (simp [maxLen, sty_len, nd_len, ndL_len, lnL_len, intsL_len, rvs_len, lensS_len]; done) | (simp [maxLen, sty_len, nd_len, ndL_len, lnL_len, intsL_len, rvs_len, lensS_len]; omega))) | fail)
  exact (hK _ _ (ret_t rfl)).2

end Go.Eng


/- clip: the statements as functions: inside. -/
namespace Go.Eng
open Go

theorem int_of_mt {r s : Rc} (h : mtR r s = r) (he : ¬ emptyR r = true) : intR r s = r := by
  rw [mtR_nz] at h
  by_cases h6 : emptyR (intR r s) = true
  · rw [show nzR (intR r s) = zeroR from if_pos h6] at h
    rw [← h] at he; exact absurd rfl he
  · rwa [show nzR (intR r s) = intR r s from if_neg h6] at h
theorem bounded_of {o : Rc} {w h : Int} (hm : mtR o (viewR w h) = o) (hw : w < 9223372036854775808) (hh : h < 9223372036854775808) : emptyR o = true ∨ (-9223372036854775808 < o.x1 ∧ o.x1 < 9223372036854775808 ∧ -9223372036854775808 < o.y1 ∧ o.y1 < 9223372036854775808) := by
  by_cases he : emptyR o = true
  · exact .inl he
  · right
    have h5 := int_of_mt hm he
    have a1 : mxI o.x0 0 = o.x0 := congrArg Rc.x0 h5
    have a2 : mxI o.y0 0 = o.y0 := congrArg Rc.y0 h5
    have a3 : mnI o.x1 w = o.x1 := congrArg Rc.x1 h5
    have a4 : mnI o.y1 h = o.y1 := congrArg Rc.y1 h5
    have b1 := mxI_iff o.x0 0
    have b2 := mxI_iff o.y0 0
    have b3 := mnI_iff o.x1 w
    have b4 := mnI_iff o.y1 h
    rw [empty_iff] at he
    omega
theorem vw_self (w h : Int) : mtR (vwR w h) (vwR w h) = vwR w h := by unfold vwR; rw [mtR_self (viewR w h), nzR_idem]
theorem clip_in {l : List Nd} (hs : Shp l) (bx : List Bx) (w h : Int) {n : Nat} (hn : n < l.length) : (mtR ((clipTo l bx (vwR w h) l.length).getD n zeroR) (viewR w h) = (clipTo l bx (vwR w h) l.length).getD n zeroR ∨ (clipTo l bx (vwR w h) l.length).getD n zeroR = zeroR) ∧
    ∀ p : Nat, holdAt l n = p → mtR ((clipTo l bx (vwR w h) l.length).getD n zeroR) ((clipTo l bx (vwR w h) l.length).getD p zeroR) = (clipTo l bx (vwR w h) l.length).getD n zeroR := by
  cases hm : madeAt l n with
  | false =>
    refine ⟨.inr ?_, fun p hp => ?_⟩
    · rw [clipTo_at _ _ _ _ hn]; simp [clipStep, hm]
    · rw [show holdAt l n = -1 by simp [holdAt, hm]] at hp; omega
  | true =>
    have e1 := clip_full hs bx (vwR w h) hm
    have e2 := clip_view hs bx (vwR w h) (vw_self w h) _ n (Nat.lt_succ_self n) hm
    rw [← e1] at e2
    refine ⟨.inl ?_, fun p hp => ?_⟩
    · generalize (clipTo l bx (vwR w h) l.length).getD n zeroR = o at *
      have : mtR (vwR w h) (viewR w h) = vwR w h := by unfold vwR; rw [mtR_right]
      rw [← e2, mtR_assoc, mtR_comm o, ← mtR_assoc, this]
    · rcases hold_nat hs hm with h1 | ⟨p', h1, h2, h3, h4⟩
      · omega
      · obtain rfl : p = p' := by omega
        have f1 := clip_full hs bx (vwR w h) h4
        have f2 := clip_view hs bx (vwR w h) (vw_self w h) _ p (Nat.lt_succ_self p) h4
        rw [← f1] at f2
        have e : ((p : Int) = -1) = False := by simp
        rw [e1, hp]
        simp -implicitDefEqProofs only [clAt, e, if_false, Int.toNat_natCast]
        generalize (clipTo l bx (vwR w h) l.length).getD p zeroR = f at *
        split
        · rw [mtR_comm, mtR_left]
        · conv => lhs; arg 1; rw [← f2]
          rw [mtR_right, f2]
set_option maxHeartbeats 1000000 in
theorem sp_ClipInside (l : List Nd) (bx : List Bx) (w h : Int) (hw : w < 9223372036854775808) (hh : h < 9223372036854775808) : CallR Go.Proofs.Try.prog 5 [.rv (.sl 49 (ndL l)), .rv (.sl 21 (bxL bx)), .agg [.rv (.int .i64 w), .rv (.int .i64 h)]] [] [] (.rv (.bool true)) := by
  refine callR_G k_decoupagelaw22_ClipInside [.rv (.sl 49 (ndL l)), .rv (.sl 21 (bxL bx)), .agg [.rv (.int .i64 w), .rv (.int .i64 h)]] _ (by simp) (by simp [BkAll, bk_agg, bkAll_map, bk_rv, bk_fn, Sty.sv, Ln.sv, Nd.sv]) (fun K hK => ?_)
  have hlen := ndL_len l
  have hbl := bxL_len bx
  simp -implicitDefEqProofs only [c_decoupagelaw22_ClipInside, go_sem, ↓reduceIte, Nat.reduceEqDiff, Nat.reduceAdd, Nat.reduceSub, Nat.reduceMul, Nat.reduceLeDiff, Nat.reduceLT, reduceCtorEq, Int.reduceToNat]
  by_cases hl : l.length > 30
  · have e1 : decide ((l.length : Int) > 30) = true := decide_eq_true (by omega)
    have hcall1 := sp_awake22; repeat' (first | (simp -implicitDefEqProofs only [go_sem, ↓reduceIte, Nat.reduceEqDiff, Nat.reduceAdd, Nat.reduceSub, Nat.reduceMul, Nat.reduceLeDiff, Nat.reduceLT, reduceCtorEq, Int.reduceToNat, hlen, e1]) | (with_reducible refine g_noent ?_) | (with_reducible refine g_call0 hcall1 ?_) | (with_reducible refine g_calld0 hcall1 ?_) | (refine cdS (fun hg => ?_) (fun hg => ?_) <;> try simp -implicitDefEqProofs only [hg, Bool.not_true, Bool.not_false]) | (refine gdS (fun hg => ?_) (fun hg => ?_) <;> try simp -implicitDefEqProofs only [hg, Bool.not_true, Bool.not_false]) | (refine gddS (fun hg => ?_) (fun hg => ?_) <;> try simp -implicitDefEqProofs only [hg, Bool.not_true, Bool.not_false]) | ((with_reducible apply And.intro); focus (first | trivial | omega | decide | (simp -implicitDefEqProofs only [maxLen]; omega) | (simp [maxLen, sty_len, nd_len, ndL_len, lnL_len, intsL_len, rvs_len, lensS_len]; done) | (simp [maxLen, sty_len, nd_len, ndL_len, lnL_len, intsL_len, rvs_len, lensS_len]; omega))) | fail)
    exact (hK _ _ (ret_t rfl)).2
  · have e1 : decide ((l.length : Int) > 30) = false := decide_eq_false (by omega)
    have hb : l.length ≤ 8589934592 := by omega
    by_cases hl2 : bx.length = l.length
    · have e2 : ((bx.length : Int) != (l.length : Int)) = false := by simp; omega
      have hfw := sp_few bx (by omega)
      have hck := sp_ref07_Check l hb
      cases hf : bx.all fewB with
      | false =>
        rw [hf] at hfw
        have hcall2 := sp_awake22; have hcall3 := hfw; repeat' (first | (simp -implicitDefEqProofs only [go_sem, ↓reduceIte, Nat.reduceEqDiff, Nat.reduceAdd, Nat.reduceSub, Nat.reduceMul, Nat.reduceLeDiff, Nat.reduceLT, reduceCtorEq, Int.reduceToNat, hlen, hbl, e1, e2]) | (with_reducible refine g_noent ?_) | (with_reducible refine g_call0 hcall2 ?_) | (with_reducible refine g_calld0 hcall2 ?_) | (with_reducible refine g_call0 hcall3 ?_) | (with_reducible refine g_calld0 hcall3 ?_) | (refine cdS (fun hg => ?_) (fun hg => ?_) <;> try simp -implicitDefEqProofs only [hg, Bool.not_true, Bool.not_false]) | (refine gdS (fun hg => ?_) (fun hg => ?_) <;> try simp -implicitDefEqProofs only [hg, Bool.not_true, Bool.not_false]) | (refine gddS (fun hg => ?_) (fun hg => ?_) <;> try simp -implicitDefEqProofs only [hg, Bool.not_true, Bool.not_false]) | ((with_reducible apply And.intro); focus (first | trivial | omega | decide | (simp -implicitDefEqProofs only [maxLen]; omega) | (simp [maxLen, sty_len, nd_len, ndL_len, lnL_len, intsL_len, rvs_len, lensS_len]; done) | (simp [maxLen, sty_len, nd_len, ndL_len, lnL_len, intsL_len, rvs_len, lensS_len]; omega))) | fail)
        exact (hK _ _ (ret_t rfl)).2
      | true =>
        rw [hf] at hfw
        by_cases hc : chk l = 0
        · have ht := chk_tree hc
          have hs := tree_shp ht
          rw [hc] at hck
          have e00 : ((0 : Int) != 0) = false := rfl
          have e01 : ((0 : Int) == 0) = true := rfl
          have hko := sp_kin_Of l hb hc
          have h1 := sp_Clips l hs (by omega) bx hf w h hl2
          have hcin := fun (n : Nat) (hn : n < l.length) => clip_in hs bx w h hn
          have hcl := clipTo_len l bx (vwR w h) l.length
          generalize hO : clipTo l bx (vwR w h) l.length = O at *
          have hrl := rcL_len O
          have hcall4 := sp_awake22; have hcall5 := hfw; have hcall6 := hck; have hcall7 := hko; have hcall8 := h1; repeat' (first | (simp -implicitDefEqProofs only [go_sem, ↓reduceIte, Nat.reduceEqDiff, Nat.reduceAdd, Nat.reduceSub, Nat.reduceMul, Nat.reduceLeDiff, Nat.reduceLT, reduceCtorEq, Int.reduceToNat, hlen, hbl, e1, e2, e00, e01, hrl, hcl, bne_self_eq_false]) | (with_reducible refine g_noent ?_) | (with_reducible refine g_call0 hcall4 ?_) | (with_reducible refine g_calld0 hcall4 ?_) | (with_reducible refine g_call0 hcall5 ?_) | (with_reducible refine g_calld0 hcall5 ?_) | (with_reducible refine g_call0 hcall6 ?_) | (with_reducible refine g_calld0 hcall6 ?_) | (with_reducible refine g_call0 hcall7 ?_) | (with_reducible refine g_calld0 hcall7 ?_) | (with_reducible refine g_call0 hcall8 ?_) | (with_reducible refine g_calld0 hcall8 ?_) | (refine cdS (fun hg => ?_) (fun hg => ?_) <;> try simp -implicitDefEqProofs only [hg, Bool.not_true, Bool.not_false]) | (refine gdS (fun hg => ?_) (fun hg => ?_) <;> try simp -implicitDefEqProofs only [hg, Bool.not_true, Bool.not_false]) | (refine gddS (fun hg => ?_) (fun hg => ?_) <;> try simp -implicitDefEqProofs only [hg, Bool.not_true, Bool.not_false]) | ((with_reducible apply And.intro); focus (first | trivial | omega | decide | (simp -implicitDefEqProofs only [maxLen]; omega) | (simp [maxLen, sty_len, nd_len, ndL_len, lnL_len, intsL_len, rvs_len, lensS_len]; done) | (simp [maxLen, sty_len, nd_len, ndL_len, lnL_len, intsL_len, rvs_len, lensS_len]; omega))) | fail)
          refine g_loop (ι := Nat) (fun k => [(57, .rv (.int .i64 k)), (56, .rv (.int .i64 l.length)), (9, .rv (.sl 4 (rcL O))), (5, .ptr 0 0), (0, .rv (.sl 49 (ndL l)))]) (fun k => [some (.var [.rv (.int .i64 w), .rv (.int .i64 h)])]) (fun k => k ≤ l.length) (fun k => l.length - k) 0 (by simp) (ent_env (by simp [lk])) (fun k hk K' hN hX hR => ?_)
          simp -implicitDefEqProofs only [go_sem, ↓reduceIte, Nat.reduceEqDiff, Nat.reduceAdd, Nat.reduceSub, Nat.reduceMul, Nat.reduceLeDiff, Nat.reduceLT, reduceCtorEq, Int.reduceToNat]
          refine cdS (fun hg => ?_) (fun hg => ?_)
          · have hk4 : k < l.length := by simp at hg; omega
            have wu := wrap_up (k := k) (by omega)
            obtain ⟨c1, c2⟩ := hcin k hk4
            have ho := sp_ref18_Of l ht (by omega) k
            have hx := rcL_getD (l := O) (i := k) (by omega)
            generalize O.getD k zeroR = x at *
            have hbd : emptyR x = true ∨ (-9223372036854775808 < x.x1 ∧ x.x1 < 9223372036854775808 ∧ -9223372036854775808 < x.y1 ∧ x.y1 < 9223372036854775808) := by
              rcases c1 with c1 | c1
              · exact bounded_of c1 hw hh
              · exact .inl (by rw [c1]; rfl)
            have i1 : CallR Go.Proofs.Try.prog 23 [.agg (x.cells.map .rv), .agg [.rv (.int .i64 0), .rv (.int .i64 0), .rv (.int .i64 w), .rv (.int .i64 h)]] [] [] (.rv (.bool true)) := by
              have := sp_ref02_Inside x (viewR w h)
              rw [show insideR x (viewR w h) = true by
                rcases c1 with c1 | c1
                · exact inside_of c1 hbd
                · rw [c1]; rfl] at this
              exact this
            by_cases hh2 : holdAt l k ≥ 0
            · have e3 : decide (holdAt l k ≥ 0) = true := decide_eq_true hh2
              have hm : madeAt l k = true := by
                cases h : madeAt l k with
                | true => rfl
                | false => rw [show holdAt l k = -1 by simp [holdAt, h]] at hh2; omega
              obtain ⟨p, hp, hp1, hp2, hp3⟩ := (hold_nat hs hm).resolve_left (by omega)
              have c3 := c2 p hp
              rw [hp] at ho e3
              have hy := rcL_getD (l := O) (i := p) (by omega)
              generalize O.getD p zeroR = y at *
              have i2 := sp_ref02_Inside x y
              rw [inside_of c3 hbd] at i2
              simp -implicitDefEqProofs only [Rc.sv] at i2
              have hcall9 := i1; have hcall10 := ho; have hcall11 := i2; repeat' (first | (simp -implicitDefEqProofs only [go_sem, ↓reduceIte, Nat.reduceEqDiff, Nat.reduceAdd, Nat.reduceSub, Nat.reduceMul, Nat.reduceLeDiff, Nat.reduceLT, reduceCtorEq, Int.reduceToNat, hx, hrl, hcl, rc_tk, rc_len, e3, hy, wu]) | (with_reducible refine g_noent ?_) | (with_reducible refine g_call0 hcall9 ?_) | (with_reducible refine g_calld0 hcall9 ?_) | (with_reducible refine g_call0 hcall10 ?_) | (with_reducible refine g_calld0 hcall10 ?_) | (with_reducible refine g_call0 hcall11 ?_) | (with_reducible refine g_calld0 hcall11 ?_) | (refine cdS (fun hg => ?_) (fun hg => ?_) <;> try simp -implicitDefEqProofs only [hg, Bool.not_true, Bool.not_false]) | (refine gdS (fun hg => ?_) (fun hg => ?_) <;> try simp -implicitDefEqProofs only [hg, Bool.not_true, Bool.not_false]) | (refine gddS (fun hg => ?_) (fun hg => ?_) <;> try simp -implicitDefEqProofs only [hg, Bool.not_true, Bool.not_false]) | ((with_reducible apply And.intro); focus (first | trivial | omega | decide | (simp -implicitDefEqProofs only [maxLen]; omega) | (simp [maxLen, sty_len, nd_len, ndL_len, lnL_len, intsL_len, rvs_len, lensS_len]; done) | (simp [maxLen, sty_len, nd_len, ndL_len, lnL_len, intsL_len, rvs_len, lensS_len]; omega))) | fail)
              exact hN (k + 1) _ _ (by omega) (by omega) (ent_env (by simp [lk]))
            · have e3 : decide (holdAt l k ≥ 0) = false := decide_eq_false hh2
              have hcall12 := i1; have hcall13 := ho; repeat' (first | (simp -implicitDefEqProofs only [go_sem, ↓reduceIte, Nat.reduceEqDiff, Nat.reduceAdd, Nat.reduceSub, Nat.reduceMul, Nat.reduceLeDiff, Nat.reduceLT, reduceCtorEq, Int.reduceToNat, hx, hrl, hcl, rc_tk, rc_len, e3, wu]) | (with_reducible refine g_noent ?_) | (with_reducible refine g_call0 hcall12 ?_) | (with_reducible refine g_calld0 hcall12 ?_) | (with_reducible refine g_call0 hcall13 ?_) | (with_reducible refine g_calld0 hcall13 ?_) | (refine cdS (fun hg => ?_) (fun hg => ?_) <;> try simp -implicitDefEqProofs only [hg, Bool.not_true, Bool.not_false]) | (refine gdS (fun hg => ?_) (fun hg => ?_) <;> try simp -implicitDefEqProofs only [hg, Bool.not_true, Bool.not_false]) | (refine gddS (fun hg => ?_) (fun hg => ?_) <;> try simp -implicitDefEqProofs only [hg, Bool.not_true, Bool.not_false]) | ((with_reducible apply And.intro); focus (first | trivial | omega | decide | (simp -implicitDefEqProofs only [maxLen]; omega) | (simp [maxLen, sty_len, nd_len, ndL_len, lnL_len, intsL_len, rvs_len, lensS_len]; done) | (simp [maxLen, sty_len, nd_len, ndL_len, lnL_len, intsL_len, rvs_len, lensS_len]; omega))) | fail)
              exact hN (k + 1) _ _ (by omega) (by omega) (ent_env (by simp [lk]))
          · simp -implicitDefEqProofs only [go_sem, ↓reduceIte, Nat.reduceEqDiff, Nat.reduceAdd, Nat.reduceSub, Nat.reduceMul, Nat.reduceLeDiff, Nat.reduceLT, reduceCtorEq, Int.reduceToNat]
            refine hX _ _ _ ?_
            repeat' (first | (simp -implicitDefEqProofs only [go_sem, ↓reduceIte, Nat.reduceEqDiff, Nat.reduceAdd, Nat.reduceSub, Nat.reduceMul, Nat.reduceLeDiff, Nat.reduceLT, reduceCtorEq, Int.reduceToNat]) | (with_reducible refine g_noent ?_) | (refine cdS (fun hg => ?_) (fun hg => ?_) <;> try simp -implicitDefEqProofs only [hg, Bool.not_true, Bool.not_false]) | (refine gdS (fun hg => ?_) (fun hg => ?_) <;> try simp -implicitDefEqProofs only [hg, Bool.not_true, Bool.not_false]) | (refine gddS (fun hg => ?_) (fun hg => ?_) <;> try simp -implicitDefEqProofs only [hg, Bool.not_true, Bool.not_false]) | ((with_reducible apply And.intro); focus (first | trivial | omega | decide | (simp -implicitDefEqProofs only [maxLen]; omega) | (simp [maxLen, sty_len, nd_len, ndL_len, lnL_len, intsL_len, rvs_len, lensS_len]; done) | (simp [maxLen, sty_len, nd_len, ndL_len, lnL_len, intsL_len, rvs_len, lensS_len]; omega))) | fail)
            exact (hK _ _ (ret_t rfl)).2
        · have e00 : (chk l != 0) = true := by simpa using hc
          have hcall14 := sp_awake22; have hcall15 := hfw; have hcall16 := hck; repeat' (first | (simp -implicitDefEqProofs only [go_sem, ↓reduceIte, Nat.reduceEqDiff, Nat.reduceAdd, Nat.reduceSub, Nat.reduceMul, Nat.reduceLeDiff, Nat.reduceLT, reduceCtorEq, Int.reduceToNat, hlen, hbl, e1, e2, e00]) | (with_reducible refine g_noent ?_) | (with_reducible refine g_call0 hcall14 ?_) | (with_reducible refine g_calld0 hcall14 ?_) | (with_reducible refine g_call0 hcall15 ?_) | (with_reducible refine g_calld0 hcall15 ?_) | (with_reducible refine g_call0 hcall16 ?_) | (with_reducible refine g_calld0 hcall16 ?_) | (refine cdS (fun hg => ?_) (fun hg => ?_) <;> try simp -implicitDefEqProofs only [hg, Bool.not_true, Bool.not_false]) | (refine gdS (fun hg => ?_) (fun hg => ?_) <;> try simp -implicitDefEqProofs only [hg, Bool.not_true, Bool.not_false]) | (refine gddS (fun hg => ?_) (fun hg => ?_) <;> try simp -implicitDefEqProofs only [hg, Bool.not_true, Bool.not_false]) | ((with_reducible apply And.intro); focus (first | trivial | omega | decide | (simp -implicitDefEqProofs only [maxLen]; omega) | (simp [maxLen, sty_len, nd_len, ndL_len, lnL_len, intsL_len, rvs_len, lensS_len]; done) | (simp [maxLen, sty_len, nd_len, ndL_len, lnL_len, intsL_len, rvs_len, lensS_len]; omega))) | fail)
          exact (hK _ _ (ret_t rfl)).2
    · have e2 : ((bx.length : Int) != (l.length : Int)) = true := by simp; omega
      have hcall17 := sp_awake22; repeat' (first | (simp -implicitDefEqProofs only [go_sem, ↓reduceIte, Nat.reduceEqDiff, Nat.reduceAdd, Nat.reduceSub, Nat.reduceMul, Nat.reduceLeDiff, Nat.reduceLT, reduceCtorEq, Int.reduceToNat, hlen, hbl, e1, e2]) | (with_reducible refine g_noent ?_) | (with_reducible refine g_call0 hcall17 ?_) | (with_reducible refine g_calld0 hcall17 ?_) | (refine cdS (fun hg => ?_) (fun hg => ?_) <;> try simp -implicitDefEqProofs only [hg, Bool.not_true, Bool.not_false]) | (refine gdS (fun hg => ?_) (fun hg => ?_) <;> try simp -implicitDefEqProofs only [hg, Bool.not_true, Bool.not_false]) | (refine gddS (fun hg => ?_) (fun hg => ?_) <;> try simp -implicitDefEqProofs only [hg, Bool.not_true, Bool.not_false]) | ((with_reducible apply And.intro); focus (first | trivial | omega | decide | (simp -implicitDefEqProofs only [maxLen]; omega) | (simp [maxLen, sty_len, nd_len, ndL_len, lnL_len, intsL_len, rvs_len, lensS_len]; done) | (simp [maxLen, sty_len, nd_len, ndL_len, lnL_len, intsL_len, rvs_len, lensS_len]; omega))) | fail)
      exact (hK _ _ (ret_t rfl)).2
end Go.Eng


/- What comes in, as boxes and views. -/
namespace Go.Eng
open Go Go.Proofs
structure Vw where
  w : Int
  h : Int
  hw : w < 9223372036854775808
  hh : h < 9223372036854775808
theorem tyBox {n : Nat} {rs : List RV} (h : TyC Go.Proofs.Try.prog (n + 3) 89 rs) : ∃ x : Bx, rs = x.cells := by
  have h := tyC_struct Try.underlying89 h
  obtain ⟨_, _, rfl, h1, _, _, rfl, h2, _, _, rfl, h3, _, _, rfl, h4, _, _, rfl, h5, _, _, rfl, h6, _, _, rfl, h7, _, _, rfl, h8, _, _, rfl, h9, rfl⟩ := h
  obtain ⟨b1, rfl⟩ := tyBool h1
  obtain ⟨i2, rfl⟩ := tyInt64 h2
  obtain ⟨i3, rfl⟩ := tyInt64 h3
  obtain ⟨i4, rfl⟩ := tyInt64 h4
  obtain ⟨i5, rfl⟩ := tyInt64 h5
  obtain ⟨q6, rfl⟩ := tyB h6
  obtain ⟨q7, rfl⟩ := tyB h7
  obtain ⟨q8, rfl⟩ := tyB h8
  obtain ⟨q9, rfl⟩ := tyB h9
  exact ⟨⟨b1, i2, i3, i4, i5, q6, q7, q8, q9⟩, rfl⟩
theorem cells21 : Program.cellsOf Go.Proofs.Try.prog 89 = 21 := by kernel_rfl
theorem aggBx : aggT Go.Proofs.Try.prog 23 = some false := by kernel_rfl
theorem openBoxes {rs : List RV} (h : TyC Go.Proofs.Try.prog 4 23 rs) : ∃ l : List Bx, argS Go.Proofs.Try.prog 23 rs = .rv (.sl 21 (bxL l)) := by
  obtain ⟨xs, rfl, _, hx⟩ := tyC_slice Try.underlying23 h
  obtain ⟨l, rfl⟩ := list_of fun x hx' => tyBox (hx x hx')
  refine ⟨l, ?_⟩
  rw [argS_one aggBx, cells21]; rfl
theorem aggV : aggT Go.Proofs.Try.prog 25 = some true := by kernel_rfl
theorem openView {rs : List RV} (h : TyC Go.Proofs.Try.prog 2 25 rs) : ∃ v : Vw, argS Go.Proofs.Try.prog 25 rs = .agg [.rv (.int .i64 v.w), .rv (.int .i64 v.h)] := by
  have h := tyC_struct Try.underlying25 h
  obtain ⟨_, _, rfl, h1, _, _, rfl, h2, rfl⟩ := h
  obtain ⟨i, rfl, hw⟩ := tyC_int Try.underlying2 h1
  obtain ⟨j, rfl, hh⟩ := tyC_int Try.underlying2 h2
  have m : IntKind.i64.max = 9223372036854775807 := rfl
  simp [Lit.wf, m] at hw hh
  exact ⟨⟨i, j, by omega, by omega⟩, argS_agg aggV⟩
theorem sp_ClipInsideV (l : List Nd) (bx : List Bx) (v : Vw) : CallR Go.Proofs.Try.prog 5 [.rv (.sl 49 (ndL l)), .rv (.sl 21 (bxL bx)), .agg [.rv (.int .i64 v.w), .rv (.int .i64 v.h)]] [] [] (.rv (.bool true)) := sp_ClipInside l bx v.w v.h v.hw v.hh
end Go.Eng
