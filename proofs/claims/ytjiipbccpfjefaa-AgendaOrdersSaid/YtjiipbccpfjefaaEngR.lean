/- Code of functions, compiled and evaluated. -/
import Derived.Test.YtjiipbccpfjefaaEngQ
set_option linter.unusedSimpArgs false
set_option linter.unusedVariables false
namespace Go.Eng
open Go

inductive AC where
  | skip
  | reg (ops : List AOp)
  | regd (bef : List Nat) (ops : List AOp)
  | seq (a b : AC)
  | cond (x : XO) (a b : AC)
  | block (id : Nat) (a : AC)
  | loop (a : AC)
  | exit (id : Nat)
  | ret
  | ent
  deriving Inhabited

/-- It may come to its end. -/
def AC.falls : AC → Bool
  | .seq a b => a.falls && b.falls
  | .cond _ a b => a.falls || b.falls
  | .loop _ | .exit _ | .ret => false
  | _ => true

def compOps (P : Program) (ops : Array Oper) (N : Nat) : List Oper → Option (List AOp)
  | [] => some []
  | o :: r => match compOper P ops N o, compOps P ops N r with
    | some x, some l => some (x :: l)
    | _, _ => none

theorem compOps_get {P : Program} {ops : Array Oper} {N : Nat} : ∀ {os : List Oper} {l : List AOp}, compOps P ops N os = some l → os.length = l.length ∧ ∀ (j : Nat) (op : AOp), l[j]? = some op → ∃ o, os[j]? = some o ∧ compOper P ops N o = some op
  | [], l, h => by cases h; exact ⟨rfl, fun j op hj => by simp at hj⟩
  | o :: r, l, h => by
    unfold compOps at h
    split at h
    · rename_i x l' hx hl
      cases h
      obtain ⟨g1, g2⟩ := compOps_get hl
      refine ⟨by simp [g1], fun j op hj => ?_⟩
      cases j with
      | zero => simp at hj; subst hj; exact ⟨o, rfl, hx⟩
      | succ j => simp only [List.getElem?_cons_succ] at hj ⊢; exact g2 j op hj
    · cases h

def comp (P : Program) (N : Nat) : Code → Option AC
  | .skip => some .skip
  | .region _ ops draw => match draw, compOps P ops N ops.toList with
    | false, some l => some (.reg l)
    | true, some l => if P.follows .mixedOrders && backOk 0 ops.toList then some (.regd (befL ops.toList []) l) else none
    | _, none => none
  | .seq a b => match comp P N a, comp P N b with
    | some x, some y => some (.seq x y)
    | _, _ => none
  | .cond c a b => match cvO c, comp P N a, comp P N b with
    | some q, some x, some y => if x.falls && y.falls then some (.seq (.cond q x y) .ent) else some (.cond q x y)
    | _, _, _ => none
  | .block id c => match comp P N c with
    | some x => some (.seq (.block id x) .ent)
    | none => none
  | .loop c => match comp P N c with
    | some x => some (.loop x)
    | none => none
  | .exit id => some (.exit id)
  | .ret => some .ret
  | _ => none

inductive Ex where
  | normal
  | exit (id : Nat)
  | ret

def Ex.toX : Ex → Exit
  | .normal => .normal
  | .exit id => .exit id
  | .ret => .ret

/-- One state says all that the other says. -/
def Ent (n0 : Nat) (s s' : St) : Prop := ∀ C a w, RepS C n0 s a w → RepS C n0 s' a w

def thenK (n : St → Prop) (K : Ex → St → Prop) : Ex → St → Prop
  | .normal, s => n s
  | .exit id, s => K (.exit id) s
  | .ret, s => K .ret s

def blockK (id : Nat) (K : Ex → St → Prop) : Ex → St → Prop
  | .normal, s => K .normal s
  | .exit j, s => if j = id then K .normal s else K (.exit j) s
  | .ret, s => K .ret s

def condW (T F : Prop) : SV → Prop
  | .rv (.bool t) => if t = true then T else F
  | _ => False

def W (P : Program) (n0 : Nat) : AC → (Ex → St → Prop) → St → Prop
  | .skip, K, s => K .normal s
  | .reg ops, K, s => RW P (K .normal) ops s
  | .regd bef ops, K, s => RD P bef (K .normal) ops [] s
  | .seq a b, K, s => W P n0 a (thenK (W P n0 b K) K) s
  | .cond x a b, K, s => condW (W P n0 a K s) (W P n0 b K s) (evX (lk s.env) x)
  | .block id a, K, s => W P n0 a (blockK id K) s
  | .loop a, K, s => ∃ (ι : Type) (σ : ι → St) (pr : ι → Prop) (μ : ι → Nat) (i0 : ι), pr i0 ∧ Ent n0 s (σ i0) ∧ ∀ i, pr i → W P n0 a (thenK (fun s' => ∃ i', pr i' ∧ μ i' < μ i ∧ Ent n0 s' (σ i')) K) (σ i)
  | .exit id, K, s => K (.exit id) s
  | .ret, K, s => K .ret s
  | .ent, K, s => ∃ s', Ent n0 s s' ∧ K .normal s'

theorem thenK_mono {n n' : St → Prop} {K K' : Ex → St → Prop} (hn : ∀ s, n s → n' s) (h : ∀ e s, K e s → K' e s) : ∀ e s, thenK n K e s → thenK n' K' e s
  | .normal, s, hk => hn s hk
  | .exit id, s, hk => h _ s hk
  | .ret, s, hk => h _ s hk

theorem blockK_mono {id : Nat} {K K' : Ex → St → Prop} (h : ∀ e s, K e s → K' e s) : ∀ e s, blockK id K e s → blockK id K' e s
  | .normal, s, hk => h _ s hk
  | .exit j, s, hk => by
    have hk' : if j = id then K .normal s else K (.exit j) s := hk
    show if j = id then K' .normal s else K' (.exit j) s
    by_cases hj : j = id
    · rw [if_pos hj] at hk' ⊢; exact h _ s hk'
    · rw [if_neg hj] at hk' ⊢; exact h _ s hk'
  | .ret, s, hk => h _ s hk

theorem opW_mono {P : Program} {ao : AO} {args : List SV} {h : List (Option HB)} {K K' : SV → List (Option HB) → Prop} (hk : ∀ sv h, K sv h → K' sv h) (hw : opW P ao args h K) : opW P ao args h K' := by
  have hc : ∀ f args, CallW P f args h K → CallW P f args h K' := fun f args ⟨pre, us, sv, h1, h2, h3, h4⟩ => ⟨pre, us, sv, h1, h2, h3, hk _ _ h4⟩
  unfold opW at hw ⊢
  split at hw
  · exact hc _ _ hw
  · unfold callvW at hw ⊢
    split at hw
    · exact hc _ _ hw
    · exact hw.elim
  · unfold invW at hw ⊢
    split at hw
    · split at hw
      · split at hw
        · exact hc _ _ hw
        · split at hw
          · exact ⟨hw.1, hc _ _ hw.2⟩
          · exact hw.elim
        · exact hw.elim
      · exact hw.elim
    · exact hw.elim
  · unfold plainW at hw ⊢
    split at hw
    · exact ⟨hw.1, hk _ _ hw.2⟩
    · exact hw.elim

theorem RW_mono {P : Program} {K K' : St → Prop} (hk : ∀ s, K s → K' s) : ∀ {l : List AOp} {s : St}, RW P K l s → RW P K' l s
  | [], s, h => hk s h
  | op :: l, s, h => by
    unfold RW at h ⊢
    split at h
    · exact opW_mono (fun sv h' hh => RW_mono hk hh) h
    · exact RW_mono hk h
    · exact h.elim

theorem opD_mono {P : Program} {ao : AO} {args : List SV} {h : List (Option HB)} {K K' : SV → List (Option HB) → List Nat → List Nat → Prop} (hk : ∀ sv h p u, K sv h p u → K' sv h p u) (hw : opD P ao args h K) : opD P ao args h K' := by
  have hc : ∀ f args, CallD P f args h K → CallD P f args h K' := fun f args ⟨pre, us, sv, h1, h2, h3, h4⟩ => ⟨pre, us, sv, h1, h2, h3, hk _ _ _ _ h4⟩
  have hcd : ∀ f args rd, (CallD P f args h fun sv h' pre us => K sv h' (rd ++ pre) us) → CallD P f args h fun sv h' pre us => K' sv h' (rd ++ pre) us := fun f args rd ⟨pre, us, sv, h1, h2, h3, h4⟩ => ⟨pre, us, sv, h1, h2, h3, hk _ _ _ _ h4⟩
  unfold opD at hw ⊢
  split at hw
  · exact hc _ _ hw
  · unfold callvD at hw ⊢
    split at hw
    · exact hc _ _ hw
    · exact hw.elim
  · unfold invD at hw ⊢
    split at hw
    · split at hw
      · split at hw
        · exact hc _ _ hw
        · split at hw
          · exact ⟨hw.1, hcd _ _ _ hw.2⟩
          · exact hw.elim
        · exact hw.elim
      · exact hw.elim
    · exact hw.elim
  · unfold plainD at hw ⊢
    split at hw
    · exact ⟨hw.1, hk _ _ _ _ hw.2⟩
    · exact hw.elim

theorem RD_mono {P : Program} {bef : List Nat} {K K' : St → Prop} (hk : ∀ s, K s → K' s) : ∀ {l : List AOp} {acc : List TE} {s : St}, RD P bef K l acc s → RD P bef K' l acc s
  | [], acc, s, h => ⟨h.1, hk s h.2⟩
  | op :: l, acc, s, h => by
    unfold RD at h ⊢
    split at h
    · exact opD_mono (fun sv h' p u hh => RD_mono hk hh) h
    · exact RD_mono hk h
    · exact h.elim

theorem W_mono {P : Program} {n0 : Nat} : ∀ {ac : AC} {K K' : Ex → St → Prop} {s : St}, (∀ e s, K e s → K' e s) → W P n0 ac K s → W P n0 ac K' s
  | .skip, K, K', s, h, hw => h _ _ hw
  | .reg ops, K, K', s, h, hw => RW_mono (h _) hw
  | .regd bef ops, K, K', s, h, hw => RD_mono (h _) hw
  | .seq a b, K, K', s, h, hw => W_mono (ac := a) (thenK_mono (fun s hb => W_mono (ac := b) h hb) h) hw
  | .cond x a b, K, K', s, h, hw => by
    unfold W condW at hw ⊢
    split at hw
    · split at hw
      · rename_i ht; rw [if_pos ht]; exact W_mono (ac := a) h hw
      · rename_i ht; rw [if_neg ht]; exact W_mono (ac := b) h hw
    · exact hw.elim
  | .block id a, K, K', s, h, hw => W_mono (ac := a) (blockK_mono h) hw
  | .loop a, K, K', s, h, hw => by
    obtain ⟨ι, σ, pr, μ, i0, h0, he, hr⟩ := hw
    exact ⟨ι, σ, pr, μ, i0, h0, he, fun i hi => W_mono (ac := a) (thenK_mono (fun s hs => hs) h) (hr i hi)⟩
  | .exit id, K, K', s, h, hw => h _ _ hw
  | .ret, K, K', s, h, hw => h _ _ hw
  | .ent, K, K', s, h, hw => by obtain ⟨s', h1, h2⟩ := hw; exact ⟨s', h1, h _ _ h2⟩

theorem least {p : Nat → Prop} (h : ∃ m, p m) : ∃ m, p m ∧ ∀ k, p k → m ≤ k := by
  obtain ⟨m, hm⟩ := h
  induction m using Nat.strongRecOn with
  | _ m ih =>
    by_cases hl : ∃ k, p k ∧ k < m
    · obtain ⟨k, hk, hlt⟩ := hl
      exact ih k hlt hk
    · exact ⟨m, hm, fun k hk => by
        by_cases hlt : k < m
        · exact absurd ⟨k, hk, hlt⟩ hl
        · omega⟩

theorem ent_post {P : Program} {n0 : Nat} {C : Ctx} {K : Ex → St → Prop} {Q : Exit → Act → World → Prop} (hq : ∀ e s a w, K e s → RepS C n0 s a w → Q e.toX a w) :
    ∀ e s a w, thenK (W P n0 .ent K) K e s → RepS C n0 s a w → Q e.toX a w
  | .normal, s, a, w, ⟨s', h1, h2⟩, R => hq .normal s' a w h2 (h1 C a w R)
  | .exit id, s, a, w, hk, R => hq (.exit id) s a w hk R
  | .ret, s, a, w, hk, R => hq .ret s a w hk R

theorem w_sound {P : Program} {n0 : Nat} {C : Ctx} : ∀ (c : Code) (ac : AC) (K : Ex → St → Prop) (Q : Exit → Act → World → Prop) (s : St) (a : Act) (w : World), comp P C.N c = some ac → W P n0 ac K s → RepS C n0 s a w → (∀ e s a w, K e s → RepS C n0 s a w → Q e.toX a w) → c.wp P Q a w := by
  intro c
  induction c with
  | skip => intro ac K Q s a w hc hw R hq; cases hc; exact wp_skip (hq _ _ _ _ hw R)
  | region id ops draw =>
    intro ac K Q s a w hc hw R hq
    unfold comp at hc
    split at hc
    · rename_i l hl
      cases hc
      obtain ⟨g1, g2⟩ := compOps_get hl
      refine wp_region (rw_sound (C := C) (n0 := n0) (fun s a w hk R => hq .normal s a w hk R) l _ s a w (by simpa using g1) (fun j i op hi hj => ?_) hw R)
      obtain ⟨o, ho, hco⟩ := g2 j op hj
      have hlt : j < ops.size := by
        have := (List.getElem?_eq_some_iff.1 hj).1
        have e : ops.toList.length = ops.size := by simp
        omega
      rw [List.getElem?_range hlt] at hi
      cases hi
      exact ⟨o, by simpa using ho, hco⟩
    · rename_i l hl
      split at hc
      · rename_i hb
        cases hc
        simp only [Bool.and_eq_true] at hb
        obtain ⟨g1, g2⟩ := compOps_get hl
        exact rd_sound hb.1 (by simpa using g1) (fun j op hj => by
          obtain ⟨o, ho, hco⟩ := g2 j op hj
          exact ⟨o, by simpa using ho, hco⟩) hb.2 hw R (fun s a w hk R => hq .normal s a w hk R) id
      · cases hc
    · cases hc
  | seq x y ihx ihy =>
    intro ac K Q s a w hc hw R hq
    unfold comp at hc
    split at hc
    · rename_i x' y' hx hy
      cases hc
      refine wp_seq (ihx x' _ _ s a w hx hw R (fun e s a w hk R => ?_))
      cases e with
      | normal => exact ihy y' K Q s a w hy hk R hq
      | exit id => exact hq (.exit id) s a w hk R
      | ret => exact hq .ret s a w hk R
    · cases hc
  | cond c x y ihx ihy =>
    intro ac K Q s a w hc hw R hq
    unfold comp at hc
    split at hc
    · rename_i q x' y' hcv hx hy
      have base : ∀ (K : Ex → St → Prop), W P n0 (.cond q x' y') K s → (∀ e s a w, K e s → RepS C n0 s a w → Q e.toX a w) → (Code.cond c x y).wp P Q a w := by
        intro K hw hq
        unfold W condW at hw
        split at hw
        · rename_i t ht
          obtain ⟨rho, RF⟩ := R.rep
          have hA := args_of RF (xs := [c]) (ys := [q]) (by simp [cvOs, hcv])
          cases hA with
          | cons h1 _ =>
            rw [ht] at h1
            have hb := rp_bool h1
            refine wp_cond hb ?_
            cases t with
            | true => exact ihx x' K Q s a w hx (by simpa using hw) R hq
            | false => exact ihy y' K Q s a w hy (by simpa using hw) R hq
        · exact hw.elim
      split at hc
      · cases hc
        exact base _ hw (ent_post hq)
      · cases hc
        exact base K hw hq
    · cases hc
  | block id c ih =>
    intro ac K Q s a w hc hw R hq
    unfold comp at hc
    split at hc
    · rename_i x hx
      cases hc
      have hq' := ent_post (P := P) hq
      refine wp_block (ih x _ _ s a w hx hw R (fun e s a w hk R => ?_))
      cases e with
      | normal => exact hq' .normal s a w hk R
      | exit j =>
        have hk' : if j = id then (∃ s', Ent n0 s s' ∧ K .normal s') else K (.exit j) s := hk
        show if j = id then Q .normal a w else Q (.exit j) a w
        by_cases hj : j = id
        · rw [if_pos hj] at hk' ⊢; exact hq' .normal s a w hk' R
        · rw [if_neg hj] at hk' ⊢; exact hq (.exit j) s a w hk' R
      | ret => exact hq .ret s a w hk R
    · cases hc
  | loop c ih =>
    intro ac K Q s a w hc hw R hq
    unfold comp at hc
    split at hc
    · rename_i x hx
      cases hc
      obtain ⟨ι, σ, pr, μ, i0, h0, he, hr⟩ := hw
      -- the measure, read off a state of the machine: the least index that fits
      have key : ∀ n i, μ i = n → pr i → ∀ a w, RepS C n0 (σ i) a w → (Code.loop c).wp P Q a w := by
        classical
        intro n i hn hi a w R
        let I : Act → World → Prop := fun a w => ∃ i, pr i ∧ RepS C n0 (σ i) a w
        have hex : ∀ a w, I a w → ∃ m, ∃ i, pr i ∧ RepS C n0 (σ i) a w ∧ μ i = m := fun a w ⟨i, h1, h2⟩ => ⟨μ i, i, h1, h2, rfl⟩
        have hex2 : ∀ a w, ∃ m, I a w → (∃ i, pr i ∧ RepS C n0 (σ i) a w ∧ μ i = m) ∧ ∀ i, pr i → RepS C n0 (σ i) a w → m ≤ μ i := fun a w => by
          by_cases h : I a w
          · obtain ⟨m, hm, hl⟩ := least (p := fun m => ∃ i, pr i ∧ RepS C n0 (σ i) a w ∧ μ i = m) (hex a w h)
            exact ⟨m, fun _ => ⟨hm, fun i hi hR => hl _ ⟨i, hi, hR, rfl⟩⟩⟩
          · exact ⟨0, fun h' => absurd h' h⟩
        let M : Act → World → Nat := fun a w => (hex2 a w).choose
        have hM : ∀ a w, I a w → (∃ i, pr i ∧ RepS C n0 (σ i) a w ∧ μ i = M a w) ∧ ∀ i, pr i → RepS C n0 (σ i) a w → M a w ≤ μ i := fun a w h => (hex2 a w).choose_spec h
        refine wp_loop I M ⟨i, hi, R⟩ (fun a w hI => ?_)
        obtain ⟨⟨j, hj, hR, hmu⟩, _⟩ := hM a w hI
        refine ih x _ _ (σ j) a w hx (hr j hj) hR (fun e s' a' w' hk R' => ?_)
        cases e with
        | normal =>
          obtain ⟨j', hj', hlt, hent⟩ := hk
          have hR' := hent C a' w' R'
          have hI' : I a' w' := ⟨j', hj', hR'⟩
          refine ⟨hI', ?_⟩
          have := (hM a' w' hI').2 j' hj' hR'
          omega
        | exit id => exact hq (.exit id) s' a' w' hk R'
        | ret => exact hq .ret s' a' w' hk R'
      exact key _ i0 rfl h0 a w (he C a w R)
    · cases hc
  | exit id => intro ac K Q s a w hc hw R hq; cases hc; exact wp_exit (hq _ _ _ _ hw R)
  | ret => intro ac K Q s a w hc hw R hq; cases hc; exact wp_ret (hq _ _ _ _ hw R)
  | rangeFunc => intro ac K Q s a w hc; cases hc
  | scope => intro ac K Q s a w hc; cases hc
  | label => intro ac K Q s a w hc; cases hc
  | goto => intro ac K Q s a w hc; cases hc
  | refuse => intro ac K Q s a w hc; cases hc
end Go.Eng
