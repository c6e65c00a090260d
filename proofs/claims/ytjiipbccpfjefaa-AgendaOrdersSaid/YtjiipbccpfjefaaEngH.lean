/- append, make, parts of slices. -/
import Derived.Test.YtjiipbccpfjefaaEngG
set_option linter.unusedSimpArgs false
namespace Go.Eng
open Go

section
variable {P : Program} {C : Ctx} {hp : Hp} {w : World} {rho : Nat → Option Nat}

/-- A row that has no block: nothing was appended yet. -/
theorem RepH.ghost (R : RepH C hp w rho) (id e ver' : Nat) (h : (hp id = none ∧ C.h0 id = none) ∨ ∃ e0 ver xs, hp id = some (.row e0 ver xs) ∧ ver < ver') :
    Step C hp (up hp id (some (.row e ver' []))) w w rho (up rho id none) := by
  have hok : ∀ b, okk C rho hp b → b < w.heap.size → okk C (up rho id none) (up hp id (some (.row e ver' []))) b ∧ w.heap[b]? = w.heap[b]? := fun b hb _ => by
    refine ⟨⟨hb.1, fun id2 h2 => ?_⟩, rfl⟩
    by_cases hi : id2 = id
    · subst hi; rw [up_same]; intro he; cases he
    · rw [up_other _ _ hi]; rw [up_other _ _ hi] at h2; exact hb.2 id2 h2
  have E : Evo w w (okk C rho hp) (okk C (up rho id none) (up hp id (some (.row e ver' [])))) rho (up rho id none) hp (up hp id (some (.row e ver' []))) := by
    refine Evo.of hok (fun id2 hb hq => ?_)
    by_cases hi : id2 = id
    · subst hi
      refine ⟨_, up_same _ _ _, ?_⟩
      rcases h with ⟨h, _⟩ | ⟨e0, ver, xs, h, hlt⟩
      · rw [h] at hq; cases hq
      · rw [h] at hq; cases hq
        exact ⟨by omega, fun he => by omega⟩
    · refine ⟨hb, by rw [up_other _ _ hi]; exact hq, ?_⟩
      rw [up_other _ _ hi]; exact EvoHB.refl _ _ _
  refine ⟨⟨fun id2 hb hq => ?_, fun id1 id2 b h1 h2 h3 h4 => ?_, fun id2 b h1 h2 => ?_, R.fr, fun id2 hb hb0 h1 h2 => ?_⟩, E⟩
  · by_cases hi : id2 = id
    · subst hi
      rw [up_same] at hq; cases hq
      exact .inl ⟨up_same _ _ _, e, ver', rfl⟩
    · rw [up_other _ _ hi] at hq
      rcases R.heap id2 hb hq with g | ⟨b, cur, t, g1, g2, g3⟩
      · exact .inl ⟨by rw [up_other _ _ hi]; exact g.1, g.2⟩
      · exact .inr ⟨b, cur, t, by rw [up_other _ _ hi]; exact g1, g2, g3.mono E⟩
  · by_cases e1 : id1 = id
    · subst e1; rw [up_same] at h3; cases h3
    · by_cases e2 : id2 = id
      · subst e2; rw [up_same] at h4; cases h4
      · rw [up_other _ _ e1] at h1 h3; rw [up_other _ _ e2] at h2 h4
        exact R.inj id1 id2 b h1 h2 h3 h4
  · by_cases hi : id2 = id
    · subst hi; rw [up_same] at h2; cases h2
    · rw [up_other _ _ hi] at h1 h2; exact R.own id2 b h1 h2
  · by_cases hi : id2 = id
    · subst hi
      rw [up_same] at h1; cases h1
      rw [up_same]
      rcases h with ⟨_, h⟩ | ⟨e0, ver, xs, h, hlt⟩
      · rw [h] at h2; cases h2
      · have := R.evo id2 _ hb0 h h2
        cases hb0 with
        | var => exact this.elim
        | row => exact ⟨by have := this.1; omega, fun he => by have := this.1; omega⟩
    · rw [up_other _ _ hi] at h1 ⊢; exact R.evo id2 hb hb0 h1 h2

theorem ElemsOf.src {ok : Nat → Prop} {e : Nat} {x : Value} {ys : List (List SV)} (E : ElemsOf w ok rho hp e x ys) {tx et : TypeId} (htx : P.underlying tx = some (.slice et)) :
    ∃ us : List (List Value), us.length = ys.length ∧ Src P e tx x ys.length us.flatten w ∧ (∀ c ∈ ys, c.length = e) ∧ (∀ u ∈ us, u.length = e) ∧
      ∀ (j : Nat) (c : List SV), ys[j]? = some c → ∃ u, us[j]? = some u ∧ u.length = c.length ∧ (∀ (i : Nat) (x : Value), u[i]? = some x → x.oneCell' = true) ∧ ∀ (i : Nat) (y : SV), c[i]? = some y → Rp w ok rho hp y (u.getD i undef) := by
  obtain ⟨a, cap, us, rfl, h1, h2, h3, h4, h5, h6, h7⟩ := E
  have hl : us.flatten.length = ys.length * e := by rw [flat_length e us h2, h1]
  have hone : ∀ u ∈ us.flatten, u.oneCell' = true := fun v hv => by
    obtain ⟨k, hk⟩ := List.getElem?_of_mem hv
    obtain ⟨i, j, u, g1, g2, _⟩ := flat_get_inv e us h2 k v hk
    have hi : i < ys.length := by rw [← h1]; exact (List.getElem?_eq_some_iff.1 g1).1
    obtain ⟨u', k1, _, k3, _⟩ := h5 i _ (List.getElem?_eq_getElem hi)
    rw [g1] at k1; cases k1
    exact k3 j v g2
  refine ⟨us, h1, ?_, h3, h2, h5⟩
  cases a with
  | none =>
    obtain ⟨rfl, rfl⟩ := h6 rfl
    have : us = [] := List.eq_nil_of_length_eq_zero (by simpa using h1)
    subst this
    exact Src.ofNil w htx 0
  | some ad => exact Src.ofSlice w htx ad ys.length cap us.flatten hl (h7 ad rfl) hone

theorem Rp.rows_mono {w' : World} {ok ok' : Nat → Prop} {rho' : Nat → Option Nat} {hp' : Hp} (h : Evo w w' ok ok' rho rho' hp hp') {cs : List (List SV)} {us : List (List Value)}
    (H : ∀ (j : Nat) (c : List SV), cs[j]? = some c → ∃ u, us[j]? = some u ∧ u.length = c.length ∧ (∀ (i : Nat) (x : Value), u[i]? = some x → x.oneCell' = true) ∧ ∀ (i : Nat) (y : SV), c[i]? = some y → Rp w ok rho hp y (u.getD i undef)) :
    ∀ (j : Nat) (c : List SV), cs[j]? = some c → ∃ u, us[j]? = some u ∧ u.length = c.length ∧ (∀ (i : Nat) (x : Value), u[i]? = some x → x.oneCell' = true) ∧ ∀ (i : Nat) (y : SV), c[i]? = some y → Rp w' ok' rho' hp' y (u.getD i undef) := fun j c hc => by
  obtain ⟨u, h1, h2, h3, h4⟩ := H j c hc
  exact ⟨u, h1, h2, h3, fun i y hy => (h4 i y hy).mono h⟩

structure Elt (P : Program) (t et : TypeId) (e bytes : Nat) : Prop where
  ht : P.underlying t = some (.slice et)
  hi : ∃ i z, P.info? et = some i ∧ i.zero = some z ∧ i.size = e ∧ i.bytes = bytes ∧ z.cells.size = e
  pos : 0 < e

theorem app_grow (R : RepH C hp w rho) {t et : TypeId} {e bytes : Nat} (T : Elt P t et e bytes) (ty : TypeId) (id ver' : Nat) (base : Option Addr) (len cap : Nat) {olds : List (List Value)} {xs : List (List SV)} (ho : olds.length = xs.length) (hxl : xs.length = len) (hxe : ∀ c ∈ xs, c.length = e)
    (hold : (Builtin.firstCells e len (.slice base len cap)).run P w.drew = .ok olds.flatten.toArray w.drew)
    (hO : ∀ (j : Nat) (c : List SV), xs[j]? = some c → ∃ u, olds[j]? = some u ∧ u.length = c.length ∧ (∀ (i : Nat) (x : Value), u[i]? = some x → x.oneCell' = true) ∧ ∀ (i : Nat) (y : SV), c[i]? = some y → Rp w (okk C rho hp) rho hp y (u.getD i undef))
    {x : Value} {ys : List (List SV)} (E : ElemsOf w (okk C rho hp) rho hp e x ys) (hgr : cap < len + ys.length) (h63 : len + ys.length ≤ maxLen) (hby : (len + ys.length) * bytes ≤ 140737488355328)
    (hid : (hp id = none ∧ C.h0 id = none) ∨ ∃ e0 ver xs0, hp id = some (.row e0 ver xs0) ∧ ver < ver') :
    ∃ u w' rho', (Builtin.append_ #[t, t] ty #[.slice base len cap, x]).run P w = .ok u w' ∧ Step C hp (up hp id (some (.row e ver' (xs ++ ys)))) w w' rho rho' ∧
      Rp w' (okk C rho' (up hp id (some (.row e ver' (xs ++ ys))))) rho' (up hp id (some (.row e ver' (xs ++ ys)))) (.row id ver' (len + ys.length)) u := by
  obtain ⟨i, z, hi, hz, hsz, hbt, hzs⟩ := T.hi
  obtain ⟨us, h1, hsrc, h3, h4, h5⟩ := E.src T.ht
  subst hsz
  have hr := run_append_grow_src (P := P) w t t ty et i z T.ht hi hz base len cap olds.flatten hold x ys.length us.flatten hsrc hgr (by simp only [maxLen] at h63; omega) (by rw [hbt]; exact growslice_fits hgr hby)
  have hcapm := grownCap_le_maxLen w (len + ys.length) cap et h63
  have hcapg := grownCap_ge w (len + ys.length) cap et
  have hfl : olds.flatten ++ us.flatten = (olds ++ us).flatten := by simp
  have hcur : ((olds.flatten ++ us.flatten).toArray ++ Builtin.zeroCells z.cells (grownCap w (len + ys.length) cap et - (len + ys.length))) = ((olds ++ us).flatten ++ (Builtin.zeroCells z.cells (grownCap w (len + ys.length) cap et - (len + ys.length))).toList).toArray := by
    apply Array.ext'; simp
  rw [hcur] at hr
  have hxy : ∀ c ∈ xs ++ ys, c.length = i.size := fun c hc => by
    rcases List.mem_append.1 hc with h | h
    · exact hxe c h
    · exact h3 c h
  have hrows : ∀ (j : Nat) (c : List SV), (xs ++ ys)[j]? = some c → ∃ u, (olds ++ us)[j]? = some u ∧ u.length = c.length ∧ (∀ (i : Nat) (x : Value), u[i]? = some x → x.oneCell' = true) ∧ ∀ (i : Nat) (y : SV), c[i]? = some y → Rp w (okk C rho hp) rho hp y (u.getD i undef) := fun j c hc => by
    by_cases hj : j < xs.length
    · rw [List.getElem?_append_left hj] at hc
      obtain ⟨u, g1, g2⟩ := hO j c hc
      exact ⟨u, by rw [List.getElem?_append_left (by omega)]; exact g1, g2⟩
    · rw [List.getElem?_append_right (by omega)] at hc
      obtain ⟨u, g1, g2⟩ := h5 _ c hc
      exact ⟨u, by rw [List.getElem?_append_right (by omega), ho]; exact g1, g2⟩
  have hold' : ∀ u ∈ olds, u.length = i.size := fun u hu => by
    obtain ⟨j, hj⟩ := List.getElem?_of_mem hu
    have hjl : j < xs.length := by rw [← ho]; exact (List.getElem?_eq_some_iff.1 hj).1
    obtain ⟨u', g1, g2, _⟩ := hO j _ (List.getElem?_eq_getElem hjl)
    rw [hj] at g1; cases g1
    rw [g2]; exact hxe _ (List.getElem_mem hjl)
  have hzl : (Builtin.zeroCells z.cells (grownCap w (len + ys.length) cap et - (len + ys.length))).toList.length = (grownCap w (len + ys.length) cap et - (len + ys.length)) * i.size := by
    rw [Array.length_toList, size_zeroCells, hzs]
  have hsize : ((olds ++ us).flatten ++ (Builtin.zeroCells z.cells (grownCap w (len + ys.length) cap et - (len + ys.length))).toList).length = grownCap w (len + ys.length) cap et * i.size := by
    rw [List.length_append, flat_length i.size (olds ++ us) (fun u hu => by
      rcases List.mem_append.1 hu with h | h
      · exact hold' u h
      · exact h4 u h), hzl, List.length_append, ho, h1, hxl, ← Nat.add_mul]
    congr 1; omega
  have hHold := Holds.row_of (w := w) (ok := okk C rho hp) (rho := rho) (hp := hp) (ver := ver') (tail := (Builtin.zeroCells z.cells (grownCap w (len + ys.length) cap et - (len + ys.length))).toList) (cs := xs ++ ys) (us := olds ++ us) (by simp [ho, h1]) hxy hrows
  have S : Step C hp (up hp id (some (.row i.size ver' (xs ++ ys)))) w (w.drew.alloc (.cells ((olds ++ us).flatten ++ (Builtin.zeroCells z.cells (grownCap w (len + ys.length) cap et - (len + ys.length))).toList).toArray et)) rho (up rho id (some w.heap.size)) := by
    refine R.replace id _ w.heap.size _ et rfl rfl rfl (by simp) (heap_alloc_new w.drew _) (fun k hk _ => heap_alloc_old w.drew _ k hk) (.inr (Nat.le_refl _)) (fun hb hq => ?_) (fun hn => ?_) hHold
    · rcases hid with ⟨h, _⟩ | ⟨e0, ver, xs0, h, hlt⟩
      · rw [h] at hq; cases hq
      · rw [h] at hq; cases hq
        exact ⟨by omega, fun he => by omega⟩
    · rcases hid with ⟨_, h⟩ | ⟨e0, ver, xs0, h, hlt⟩
      · exact h
      · rw [h] at hn; cases hn
  refine ⟨_, _, _, hr, S, .row id ver' _ _ rfl (by simp) (fun e' v' xs' h' => ?_) (fun e' xs' h' => .inr ⟨w.heap.size, _, _, et, up_same _ _ _, rfl, heap_alloc_new w.drew _, hcapg, hcapm, ?_⟩)⟩
  · rw [up_same] at h'; cases h'; exact Nat.le_refl _
  · rw [up_same] at h'; cases h'
    simp only [List.size_toArray, hsize]; exact Nat.le_refl _

theorem app_nil (R : RepH C hp w rho) {t et : TypeId} {e bytes : Nat} (T : Elt P t et e bytes) (ty : TypeId) {id : Nat} (hf : hp id = none) (hf0 : C.h0 id = none)
    {x : Value} {ys : List (List SV)} (E : ElemsOf w (okk C rho hp) rho hp e x ys) (h63 : ys.length ≤ maxLen) (hby : ys.length * bytes ≤ 140737488355328) :
    ∃ u w' rho', (Builtin.append_ #[t, t] ty #[.slice none 0 0, x]).run P w = .ok u w' ∧ Step C hp (up hp id (some (.row e 0 ys))) w w' rho rho' ∧
      Rp w' (okk C rho' (up hp id (some (.row e 0 ys)))) rho' (up hp id (some (.row e 0 ys))) (.row id 0 ys.length) u := by
  by_cases hm : ys.length = 0
  · have hy : ys = [] := List.eq_nil_of_length_eq_zero hm
    subst hy
    obtain ⟨i, z, hi, hz, hsz, hbt, hzs⟩ := T.hi
    obtain ⟨us, h1, hsrc, h3, h4, h5⟩ := E.src T.ht
    have hus : us = [] := List.eq_nil_of_length_eq_zero h1
    subst hus
    refine ⟨.slice none 0 0, w, _, ?_, R.ghost id e 0 (.inl ⟨hf, hf0⟩), .row id 0 0 _ rfl (by simp) (fun e' v' xs' h' => by omega) (fun _ _ _ => .inl ⟨up_same _ _ _, rfl, rfl⟩)⟩
    have hl := hsrc.len w
    have hc := hsrc.cells
    subst hsz
    simp only [List.length_nil, List.flatten_nil] at hl hc
    simp [Builtin.append_, run_underlying T.ht, sizeOf, typeInfo, hi, hl, hc]
  · have := app_grow R T ty id 0 none 0 0 (olds := []) (xs := []) rfl rfl (fun c hc => by simp at hc) (by simp [Builtin.firstCells]) (fun j c hc => by simp at hc) E (by omega) (by omega) (by simpa using hby) (.inl ⟨hf, hf0⟩)
    simpa using this

theorem app_row (R : RepH C hp w rho) {t et : TypeId} {e bytes : Nat} (T : Elt P t et e bytes) (ty : TypeId) {id ver len : Nat} {v : Value} (hv : Rp w (okk C rho hp) rho hp (.row id ver len) v) {xs : List (List SV)} (hq : hp id = some (.row e ver xs)) (hl : len ≤ xs.length)
    {x : Value} {ys : List (List SV)} (E : ElemsOf w (okk C rho hp) rho hp e x ys) (h63 : len + ys.length ≤ maxLen) (hby : (len + ys.length) * bytes ≤ 140737488355328) :
    ∃ u w' rho', (Builtin.append_ #[t, t] ty #[v, x]).run P w = .ok u w' ∧ Step C hp (up hp id (some (.row e (ver + 1) (xs.take len ++ ys)))) w w' rho rho' ∧
      Rp w' (okk C rho' (up hp id (some (.row e (ver + 1) (xs.take len ++ ys))))) rho' (up hp id (some (.row e (ver + 1) (xs.take len ++ ys)))) (.row id (ver + 1) (len + ys.length)) u := by
  have hEl := elems_row R hv hq hl
  obtain ⟨olds, ho1, hosrc, ho3, ho4, ho5⟩ := hEl.src T.ht
  have hlt : (xs.take len).length = len := by simp; omega
  cases hv with
  | row _ _ _ _ g1 g0 gle gv =>
    rcases gv e xs hq with ⟨gr, rfl, rfl⟩ | ⟨b, cap, cur, t0, k1, rfl, k3, k4, k5, k6⟩
    · by_cases hm : ys.length = 0
      · have hy : ys = [] := List.eq_nil_of_length_eq_zero hm
        subst hy
        obtain ⟨i, z, hi, hz, hsz, hbt, hzs⟩ := T.hi
        obtain ⟨us, h1, hsrc, h3, h4, h5⟩ := E.src T.ht
        have hus : us = [] := List.eq_nil_of_length_eq_zero h1
        subst hus
        refine ⟨.slice none 0 0, w, _, ?_, R.ghost id e (ver + 1) (.inr ⟨e, ver, xs, hq, by omega⟩), .row id (ver + 1) 0 _ rfl (by simp) (fun e' v' xs' h' => by simp at h'; omega) (fun _ _ _ => .inl ⟨up_same _ _ _, rfl, rfl⟩)⟩
        have hl := hsrc.len w
        have hc := hsrc.cells
        subst hsz
        simp only [List.length_nil, List.flatten_nil] at hl hc
        simp [Builtin.append_, run_underlying T.ht, sizeOf, typeInfo, hi, hl, hc]
      · have := app_grow R T ty id (ver + 1) none 0 0 (olds := []) (xs := []) rfl rfl (fun c hc => by simp at hc) (by simp [Builtin.firstCells]) (fun j c hc => by simp at hc) E (by omega) (by omega) (by simpa using hby) (.inr ⟨e, ver, xs, hq, by omega⟩)
        simpa using this
    · rcases R.heap id _ hq with ⟨hn, _⟩ | ⟨b', cur', t1, m1, m2, m3⟩
      · rw [k1] at hn; cases hn
      · rw [k1] at m1; cases m1
        rw [k3] at m2; cases m2
        by_cases hroom : len + ys.length ≤ cap
        · obtain ⟨i, z, hi, hz, hsz, hbt, hzs⟩ := T.hi
          obtain ⟨us, h1, hsrc, h3, h4, h5⟩ := E.src T.ht
          subst hsz
          have hfl : us.flatten.length = ys.length * i.size := by rw [flat_length i.size us h4, h1]
          have hfit : len * i.size + us.flatten.length ≤ cur.size := by
            rw [hfl, ← Nat.add_mul]
            exact Nat.le_trans (Nat.mul_le_mul_right _ hroom) k6
          have hst := run_storeCells_at P b (len * i.size) t0 us.flatten 0 cur w k3 (by simpa using hfit) hsrc.one
          simp only [Nat.add_zero] at hst
          have hrun : (Builtin.append_ #[t, t] ty #[.slice (some ⟨b, 0, none⟩) len cap, x]).run P w = .ok (.slice (some ⟨b, 0, none⟩) (len + ys.length) cap) (w.setRow b (splice cur.toList (len * i.size) us.flatten).toArray) := by
            simp [Builtin.append_, run_underlying T.ht, sizeOf, typeInfo, hi, hsrc.len, hroom, hsrc.cells, Addr.add_lit, hst, splice]
          have hcs : (splice cur.toList (len * i.size) us.flatten).toArray.size = cur.size := by
            simp only [List.size_toArray]; rw [splice_length _ _ _ (by simpa using hfit)]; simp
          have hmul : ∀ a b : Nat, a < b → a * i.size + i.size ≤ b * i.size := fun a b h => by
            have : (a + 1) * i.size ≤ b * i.size := Nat.mul_le_mul_right _ h
            rw [Nat.add_mul] at this; omega
          have hH : Holds w (okk C rho hp) rho hp (splice cur.toList (len * i.size) us.flatten).toArray (.row i.size (ver + 1) (xs.take len ++ ys)) := by
            refine ⟨fun c hc => ?_, ?_, fun j c hc => ?_⟩
            · rcases List.mem_append.1 hc with h | h
              · exact ho3 c h
              · exact h3 c h
            · rw [hcs, List.length_append, hlt, Nat.add_mul]; omega
            · by_cases hj : j < len
              · rw [List.getElem?_append_left (by omega), List.getElem?_take, if_pos hj] at hc
                have hce := m3.1 c (List.mem_of_getElem? hc)
                refine (m3.2.2 j c hc).apart hfit (.inl ?_)
                have := hmul j len hj; omega
              · rw [List.getElem?_append_right (by omega), hlt] at hc
                obtain ⟨u, q1, q2, q3, q4⟩ := h5 _ c hc
                have hce := h3 c (List.mem_of_getElem? hc)
                intro jj y hy
                have hjj : jj < u.length := by rw [q2]; exact (List.getElem?_eq_some_iff.1 hy).1
                have hg := List.getElem?_eq_getElem hjj
                refine ⟨u[jj], ?_, q3 jj _ hg, ?_⟩
                · have hf := flat_get i.size us h4 (j - len) jj u _ q1 hg
                  have hfb := (List.getElem?_eq_some_iff.1 hf).1
                  simp only [List.getElem?_toArray]
                  have hje : j * i.size = len * i.size + (j - len) * i.size := by rw [← Nat.add_mul]; congr 1; omega
                  rw [splice_get _ _ _ (by simpa using hfit), if_pos (by omega)]
                  rw [show j * i.size + jj - len * i.size = (j - len) * i.size + jj by omega]; exact hf
                · have := q4 jj y hy
                  rwa [List.getD_eq_getElem?_getD, hg, Option.getD_some] at this
          have S := R.write (hb' := .row i.size (ver + 1) (xs.take len ++ ys)) hq k1 k3 hcs ⟨by omega, fun he => by omega⟩ hH
          refine ⟨_, _, _, hrun, S, .row id (ver + 1) _ _ rfl (by simp) (fun e' v' xs' h' => by simp at h'; omega) (fun e' xs' h' => .inr ⟨b, cap, _, t0, up_same _ _ _, rfl, setRow_heap w b cur _ t0 _ k3, hroom, k5, ?_⟩)⟩
          rw [up_same] at h'; cases h'
          rw [hcs]; exact k6
        · have hold : (Builtin.firstCells e len (.slice (some ⟨b, 0, none⟩) len cap)).run P w.drew = .ok olds.flatten.toArray w.drew := by
            have := hosrc.cellsD
            rwa [hlt] at this
          have := app_grow R T ty id (ver + 1) (some ⟨b, 0, none⟩) len cap (olds := olds) (xs := xs.take len) (by rw [ho1]) hlt ho3 hold ho5 E (by omega) h63 hby (.inr ⟨e, ver, xs, hq, by omega⟩)
          exact this
end
end Go.Eng
