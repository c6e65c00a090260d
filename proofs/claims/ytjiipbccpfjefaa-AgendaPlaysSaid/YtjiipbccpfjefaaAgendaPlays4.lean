/- Part 4 of the proof: EngZe, B2, B3, B5, B6, BF, BG. -/
import Derived.Test.YtjiipbccpfjefaaAgendaPlays3
import Derived.Test.YtjiipbccpfjefaaProg
import Derived.KernelRfl
set_option linter.unusedSimpArgs false
set_option linter.unusedVariables false
/- Things of the call's own under other numbers. -/
namespace Go.Eng
open Go

theorem ent_ren {n0 : Nat} {env env' : List (Nat × SV)} {h h' : List (Option HB)} (τ : Nat → Option Nat) (σ : Nat → Nat) (hn : n0 ≤ h'.length)
    (h1 : ∀ j i, τ j = some i → σ i = j) (hlow : ∀ j i, τ j = some i → j < n0 ∨ i < n0 → i = j) (hkeep : ∀ j, τ j = none → n0 ≤ j)
    (hh : ∀ i hb', hget h' i = some hb' → τ (σ i) = some i ∧ ∃ hb, hget h (σ i) = some hb ∧ RnH τ (hget h) hb hb')
    (hsm : ∀ j i, τ j = some i → (hget h j).isSome = true → (hget h' i).isSome = true)
    (he : ∀ n, Rn τ (hget h) (lk env n) (lk env' n)) : Ent n0 ⟨env, h⟩ ⟨env', h'⟩ := by
  intro C a w R
  obtain ⟨⟨rho, RF⟩, _, h0⟩ := R
  have M := RF.mem
  have hsome : ∀ i, (hget h' i).isSome = true → τ (σ i) = some i ∧ (hget h (σ i)).isSome = true := fun i hi => by
    obtain ⟨hb', hb2⟩ := Option.isSome_iff_exists.1 hi
    obtain ⟨a1, hb, a2, _⟩ := hh i hb' hb2
    exact ⟨a1, by rw [a2]; rfl⟩
  have okIn : ∀ b, okk C rho (hget h) b → okk C (fun i => rho (σ i)) (hget h') b := fun b hb => ⟨hb.1, fun id hid => hb.2 (σ id) (hsome id hid).2⟩
  have okfz : ∀ j b, τ j = none → (hget h j).isSome = true → rho j = some b → okk C (fun i => rho (σ i)) (hget h') b := fun j b hj hs hb => by
    refine ⟨?_, fun id hid he => ?_⟩
    · rcases (M.own j b hs hb).1 with ⟨a1, _⟩ | a
      · rw [h0 j (hkeep j hj)] at a1; cases a1
      · exact .inr a
    · have := M.inj (σ id) j b (hsome id hid).2 hs he hb
      rw [← this, (hsome id hid).1] at hj; cases hj
  have hs : ∀ j i, τ j = some i → rho j = (fun i => rho (σ i)) i ∧ ((hget h j).isSome = true → (hget h' i).isSome = true) ∧ (∀ cs, hget h' i = some (.var cs) → ∃ cs', hget h j = some (.var cs')) ∧ ∀ e ver xs, hget h' i = some (.row e ver xs) → ∃ xs', hget h j = some (.row e ver xs') := fun j i hj => by
    have hσ := h1 j i hj
    refine ⟨by simp only [hσ], hsm j i hj, fun cs hc => ?_, fun e ver xs hc => ?_⟩
    · obtain ⟨_, hb, a1, a2⟩ := hh i _ hc
      rw [hσ] at a1
      cases a2 with
      | var xs _ _ => exact ⟨xs, a1⟩
    · obtain ⟨_, hb, a1, a2⟩ := hh i _ hc
      rw [hσ] at a1
      cases a2 with
      | row _ _ xs _ _ _ => exact ⟨xs, a1⟩
  refine ⟨⟨fun i => rho (σ i), ⟨⟨fun i hb' hi => ?_, fun i j b g1 g2 g3 g4 => ?_, fun j b g1 g2 => ?_, M.fr, fun i hb' hb0 g1 g2 => ?_⟩, fun n => (RF.env n).leave okIn okfz (fun j hb hj => M.heap j hb hj) hs (he n), RF.size, RF.defers⟩⟩, hn, h0⟩
  · obtain ⟨a1, hb, a2, a3⟩ := hh i hb' hi
    exact (M.heap (σ i) hb a2).leave okIn okfz (fun j hb hj => M.heap j hb hj) hs a1 a3
  · have e := M.inj (σ i) (σ j) b (hsome i g1).2 (hsome j g2).2 g3 g4
    have t1 := (hsome i g1).1
    rw [e, (hsome j g2).1] at t1
    cases t1; rfl
  · obtain ⟨a, b2⟩ := M.own (σ j) b (hsome j g1).2 g2
    refine ⟨?_, b2⟩
    rcases a with ⟨p1, p2, p3⟩ | a
    · have hlt : σ j < n0 := by
        apply Classical.byContradiction
        intro hc
        rw [h0 (σ j) (by omega)] at p1; cases p1
      have := hlow _ _ (hsome j g1).1 (.inl hlt)
      rw [← this] at p1 p2
      exact .inl ⟨p1, p2, p3⟩
    · exact .inr a
  · obtain ⟨a1, hb, a2, a3⟩ := hh i hb' g1
    have hlt : i < n0 := by
      apply Classical.byContradiction
      intro hc
      rw [h0 i (by omega)] at g2; cases g2
    have hi := hlow _ _ a1 (.inr hlt)
    rw [← hi] at a2
    have ev := M.evo i hb hb0 a2 g2
    rw [← hi]
    cases a3 with
    | var xs ys _ => cases hb0 <;> exact ev
    | row e ver xs ys _ _ => cases hb0 <;> exact ev

/-- One thing takes another's place: number j becomes i; what stands from m on is given up, and so is the old i. -/
def τm (i j m k : Nat) : Option Nat := if k = j then some i else if k = i then none else if k < m then some k else none
def σm (i j k : Nat) : Nat := if k = i then j else k
theorem ent_move {n0 : Nat} {env env' : List (Nat × SV)} {h h' : List (Option HB)} (i j : Nat) (hi : n0 ≤ i) (him : i < h'.length) (hj : h'.length ≤ j)
    (hh : ∀ k, k < h'.length → ∃ hb hb', hget h (σm i j k) = some hb ∧ hget h' k = some hb' ∧ RnH (τm i j h'.length) (hget h) hb hb')
    (he : ∀ p ∈ env', Rn (τm i j h'.length) (hget h) (lk env p.1) p.2) : Ent n0 ⟨env, h⟩ ⟨env', h'⟩ := by
  refine ent_ren (τm i j h'.length) (σm i j) (by omega) (fun a b hab => ?_) (fun a b hab hlt => ?_) (fun a ha => ?_) (fun k hb' hk => ?_) (fun a b hab hs => ?_) (lk_dead_of (fun x => .dead x) he)
  · unfold τm at hab; unfold σm
    split at hab
    · cases hab; simp_all
    · split at hab
      · cases hab
      · split at hab
        · cases hab; rw [if_neg (by assumption)]
        · cases hab
  · unfold τm at hab
    split at hab
    · cases hab; omega
    · split at hab
      · cases hab
      · split at hab
        · cases hab; rfl
        · cases hab
  · unfold τm at ha
    split at ha
    · cases ha
    · split at ha
      · omega
      · split at ha
        · cases ha
        · omega
  · have hk2 : k < h'.length := by
      apply Classical.byContradiction
      intro hc
      unfold hget at hk
      rw [List.getElem?_eq_none (by omega)] at hk; cases hk
    obtain ⟨hb, hb2, a1, a2, a3⟩ := hh k hk2
    rw [a2] at hk; cases hk
    refine ⟨?_, hb, a1, a3⟩
    unfold σm τm
    by_cases e : k = i
    · simp [e]
    · rw [if_neg e, if_neg (by omega), if_neg e, if_pos hk2]
  · have hb : b < h'.length := by
      unfold τm at hab
      split at hab
      · cases hab; exact him
      · split at hab
        · cases hab
        · split at hab
          · cases hab; assumption
          · cases hab
    obtain ⟨_, hb', _, a2, _⟩ := hh b hb
    rw [a2]; rfl
end Go.Eng

/- agenda: is it in order; copies. -/
namespace Go.Eng
open Go

theorem ent_cells {es : List Ent3} {k : Nat} (h : k < es.length) : (cellsL es)[k]?.getD [] = [.int .i64 (ga es k).key, .int .i64 (ga es k).tie, .int .i64 (ga es k).n] := by
  rw [← ga_eq h]; simp [cellsL, h, Ent3.cells]

end Go.Eng

/- agenda: Sorted. -/
namespace Go.Eng
open Go
theorem rh_rvs {τ : Nat → Option Nat} {h : Hp} {e v : Nat} {xs : List (List RV)} : RnH τ h (.row e v (rvs xs)) (.row e v (rvs xs)) := by
  obtain ⟨a, b⟩ := rnRows_rvs (τ := τ) (h := h) (xs := xs) (ys := xs) |>.2 rfl
  exact .row _ _ _ _ a b
theorem rh_vrow {τ : Nat → Option Nat} {h : Hp} {i j v n : Nat} (hτ : τ i = some j) : RnH τ h (.var [.row i v n]) (.var [.row j v n]) := .var _ _ (rnAll_iff.1 ⟨rn_row.2 ⟨hτ, rfl, rfl⟩, trivial⟩)
/-- The agenda's things while it is filled. -/
def fillH (x : Ent3) (k : Nat) (es : List Ent3) : List (Option HB) := if k = 0 then [some (.var [.rv .nilsl])] else [some (.var [.row 2 k k]), some (.var (x.cells.map .rv)), some (.row 3 k (rvs (cellsL es)))]
def fillP (l : List Ent3) (k : Nat) (es : List Ent3) : Prop := es.length = k ∧ HeapP es k ∧ es.Perm (l.take k)
end Go.Eng

/- agenda: the statements as functions: in order. -/
namespace Go.Eng
open Go
end Go.Eng

/- agenda: the statements as functions: whatever is added and taken. -/
namespace Go.Eng
open Go
/- decoupage/decoupagelaw04.AgendaPlays -/
def c_decoupagelaw04_AgendaPlays : AC := (.seq (.reg [⟨(some 2), .mv, [(.c (.rv (.bool false)))], none⟩]) (.seq (.seq (.reg [⟨(some 12), (.call 7), [], none⟩, ⟨(some 13), .not, [(.t 12)], none⟩, ⟨(some 14), .mv, [(.t 13)], none⟩, ⟨(some 15), .mv, [(.t 0)], (some (14, false))⟩, ⟨(some 16), .len, [(.t 15)], (some (14, false))⟩, ⟨(some 17), (.ibin .gtr), [(.t 16), (.c (.rv (.int .i64 200)))], (some (14, false))⟩, ⟨(some 18), .pick, [(.t 14), (.c (.rv (.bool true))), (.t 17)], none⟩]) (.cond (.t 18) (.seq (.reg [⟨(some 19), (.call 7), [], none⟩, ⟨(some 2), .mv, [(.t 19)], none⟩]) .ret) .skip)) (.seq (.reg [⟨(some 3), (.alloc [.nilsl]), [], none⟩]) (.seq (.reg [⟨(some 4), .mv, [(.c (.rv .nilsl))], none⟩]) (.seq (.seq (.reg [⟨(some 20), .mv, [(.t 0)], none⟩, ⟨(some 21), .len, [(.t 20)], none⟩, ⟨(some 22), .mv, [(.c (.rv (.int .i64 0)))], none⟩]) (.seq (.block 0 (.loop (.seq (.reg [⟨(some 23), (.ibin .lss), [(.t 22), (.t 21)], none⟩]) (.seq (.cond (.t 23) .skip (.exit 0)) (.seq (.seq (.block 1 (.seq (.reg [⟨(some 24), .mv, [(.t 22)], none⟩, ⟨(some 5), .mv, [(.t 24)], none⟩]) (.seq (.reg [⟨(some 25), .mv, [(.t 4)], none⟩, ⟨(some 26), (.call 10), [(.t 25)], none⟩, ⟨(some 6), .mv, [(.t 26)], none⟩]) (.seq (.reg [⟨(some 27), (.build [(.int .i64 0), (.int .i64 0), (.int .i64 0)] []), [], none⟩, ⟨(some 7), (.alloc [(.int .i64 0), (.int .i64 0), (.int .i64 0)]), [], none⟩, ⟨none, (.store 3), [(.t 7), (.t 27)], none⟩]) (.seq (.seq (.reg [⟨(some 28), .mv, [(.t 6)], none⟩, ⟨(some 29), (.ibin .geq), [(.t 28), (.c (.rv (.int .i64 0)))], none⟩]) (.seq (.cond (.t 29) (.reg [⟨(some 30), .mv, [(.t 4)], none⟩, ⟨(some 31), .mv, [(.t 6)], none⟩, ⟨(some 32), (.ixs 3), [(.t 30), (.t 31)], none⟩, ⟨(some 33), (.load 3 true), [(.t 32)], none⟩, ⟨none, (.store 3), [(.t 7), (.t 33)], none⟩]) .skip) .ent)) (.seq (.seq (.reg [⟨(some 34), .mv, [(.t 0)], none⟩, ⟨(some 35), .mv, [(.t 5)], none⟩, ⟨(some 36), (.ixs 4), [(.t 34), (.t 35)], none⟩, ⟨(some 37), (.fld 0), [(.t 36)], none⟩, ⟨(some 38), (.load 1 false), [(.t 37)], none⟩]) (.seq (.block 2 (.seq (.reg [⟨(some 53), (.ibin .eql), [(.t 38), (.c (.rv (.int .u8 0)))], none⟩, ⟨(some 52), .mv, [(.t 53)], none⟩]) (.seq (.cond (.t 52) (.seq (.reg [⟨(some 54), .mv, [(.t 0)], none⟩, ⟨(some 55), .mv, [(.t 5)], none⟩, ⟨(some 56), (.ixs 4), [(.t 54), (.t 55)], none⟩, ⟨(some 57), (.fld 1), [(.t 56)], none⟩, ⟨(some 58), (.load 3 true), [(.t 57)], none⟩, ⟨(some 59), (.call 11), [(.t 3), (.t 58)], none⟩]) (.reg [⟨(some 60), .mv, [(.t 4)], none⟩, ⟨(some 61), .mv, [(.t 0)], none⟩, ⟨(some 62), .mv, [(.t 5)], none⟩, ⟨(some 63), (.ixs 4), [(.t 61), (.t 62)], none⟩, ⟨(some 64), (.fld 1), [(.t 63)], none⟩, ⟨(some 65), (.load 3 true), [(.t 64)], none⟩, ⟨(some 66), (.bsl 3), [(.t 65)], none⟩, ⟨(some 67), (.app 3 24), [(.t 60), (.t 66)], none⟩, ⟨(some 4), .mv, [(.t 67)], none⟩])) (.seq (.reg [⟨(some 69), (.ibin .eql), [(.t 38), (.c (.rv (.int .u8 1)))], none⟩, ⟨(some 68), .mv, [(.t 69)], none⟩]) (.seq (.cond (.t 68) (.seq (.reg [⟨(some 71), (.call 12), [(.t 3)], none⟩, ⟨(some 70), .mv, [(.t 71)], none⟩, ⟨(some 72), (.ext 0), [(.t 70)], none⟩, ⟨(some 73), (.ext 1), [(.t 70)], none⟩, ⟨(some 8), (.alloc [(.int .i64 0), (.int .i64 0), (.int .i64 0)]), [], none⟩, ⟨none, (.store 3), [(.t 8), (.t 72)], none⟩, ⟨(some 9), .mv, [(.t 73)], none⟩]) (.seq (.seq (.reg [⟨(some 74), (.load 3 true), [(.t 8)], none⟩, ⟨(some 75), (.load 3 true), [(.t 7)], none⟩, ⟨(some 76), (.eqs true true [.i, .i, .i]), [(.t 74), (.t 75)], none⟩, ⟨(some 77), .mv, [(.t 76)], none⟩, ⟨(some 78), .mv, [(.t 9)], (some (77, false))⟩, ⟨(some 79), .mv, [(.t 6)], (some (77, false))⟩, ⟨(some 80), (.ibin .geq), [(.t 79), (.c (.rv (.int .i64 0)))], (some (77, false))⟩, ⟨(some 81), (.eqb true), [(.t 78), (.t 80)], (some (77, false))⟩, ⟨(some 82), .pick, [(.t 77), (.c (.rv (.bool true))), (.t 81)], none⟩]) (.cond (.t 82) (.seq (.reg [⟨(some 2), .mv, [(.c (.rv (.bool false)))], none⟩]) .ret) .skip)) (.seq (.reg [⟨(some 83), .mv, [(.t 9)], none⟩]) (.seq (.cond (.t 83) (.reg [⟨(some 84), .mv, [(.t 4)], none⟩, ⟨(some 85), .mv, [(.t 6)], none⟩, ⟨(some 86), (.call 13), [(.t 84), (.t 85)], none⟩, ⟨(some 4), .mv, [(.t 86)], none⟩]) .skip) .ent)))) (.seq (.reg [⟨(some 40), (.call 14), [(.t 3)], none⟩, ⟨(some 39), .mv, [(.t 40)], none⟩, ⟨(some 41), (.ext 0), [(.t 39)], none⟩, ⟨(some 42), (.ext 1), [(.t 39)], none⟩, ⟨(some 10), (.alloc [(.int .i64 0), (.int .i64 0), (.int .i64 0)]), [], none⟩, ⟨none, (.store 3), [(.t 10), (.t 41)], none⟩, ⟨(some 11), .mv, [(.t 42)], none⟩]) (.seq (.reg [⟨(some 43), (.load 3 true), [(.t 10)], none⟩, ⟨(some 44), (.load 3 true), [(.t 7)], none⟩, ⟨(some 45), (.eqs true true [.i, .i, .i]), [(.t 43), (.t 44)], none⟩, ⟨(some 46), .mv, [(.t 45)], none⟩, ⟨(some 47), .mv, [(.t 11)], (some (46, false))⟩, ⟨(some 48), .mv, [(.t 6)], (some (46, false))⟩, ⟨(some 49), (.ibin .geq), [(.t 48), (.c (.rv (.int .i64 0)))], (some (46, false))⟩, ⟨(some 50), (.eqb true), [(.t 47), (.t 49)], (some (46, false))⟩, ⟨(some 51), .pick, [(.t 46), (.c (.rv (.bool true))), (.t 50)], none⟩]) (.cond (.t 51) (.seq (.reg [⟨(some 2), .mv, [(.c (.rv (.bool false)))], none⟩]) .ret) .skip)))) .ent))) .ent))) .ent)) (.seq (.reg [⟨(some 87), (.call 15), [(.t 3)], none⟩, ⟨(some 88), .mv, [(.t 4)], none⟩, ⟨(some 89), .len, [(.t 88)], none⟩, ⟨(some 90), (.ibin .neq), [(.t 87), (.t 89)], none⟩]) (.cond (.t 90) (.seq (.reg [⟨(some 2), .mv, [(.c (.rv (.bool false)))], none⟩]) .ret) .skip)))))))) .ent) (.reg [⟨(some 91), (.ibin .add), [(.t 22), (.c (.rv (.int .i64 1)))], none⟩, ⟨(some 22), .mv, [(.t 91)], none⟩])))))) .ent)) (.seq (.reg [⟨(some 2), .mv, [(.c (.rv (.bool true)))], none⟩]) .ret))))))
theorem k_decoupagelaw04_AgendaPlays : FnOK Go.Proofs.Try.prog 4 92 c_decoupagelaw04_AgendaPlays [(.t 2)] := fnOK_of (by kernel_rfl)


theorem ent_ghostVar {n0 : Nat} {env : List (Nat × SV)} {h : List (Option HB)} (i0 e o : Nat) {cs : List SV} (hi : hget h i0 = some (.var cs)) (ho : cs[o]? = some (.rv .nilsl)) : Ent n0 ⟨env, h⟩ ⟨env, uph (uph h (h.length, .row e 0 [])) (i0, .var (cs.set o (.row h.length 0 0)))⟩ := by
  intro C a w R
  obtain ⟨⟨rho, RF⟩, h1, h0⟩ := R
  have hnone : hget h h.length = none := by unfold hget; rw [List.getElem?_eq_none (Nat.le_refl _)]
  have hC0 : C.h0 h.length = none := h0 _ h1
  obtain ⟨rho', S⟩ := RF.mem.ghostVar e hi ho hnone hC0
  have RF' := RF.step S
  have hlt : i0 < h.length := by
    apply Classical.byContradiction
    intro hc
    unfold hget at hi
    rw [List.getElem?_eq_none (by omega)] at hi; cases hi
  have e1 := hget_uph (h := h) (q := (h.length, .row e 0 [])) (Nat.le_refl _)
  have l1 := uph_length h (h.length, .row e 0 [])
  have e2 := hget_uph (h := uph h (h.length, .row e 0 [])) (q := (i0, .var (cs.set o (.row h.length 0 0)))) (by show i0 ≤ _; omega)
  have l2 := uph_length (uph h (h.length, .row e 0 [])) (i0, .var (cs.set o (.row h.length 0 0)))
  refine ⟨⟨rho', ?_⟩, ?_, h0⟩
  · show RepF C (lk env) (hget (uph (uph h (h.length, .row e 0 [])) (i0, .var (cs.set o (.row h.length 0 0))))) a w rho'
    rw [e2, e1]; exact RF'
  · have h1' : n0 ≤ h.length := h1
    show n0 ≤ (uph (uph h (h.length, .row e 0 [])) (i0, .var (cs.set o (.row h.length 0 0)))).length
    omega

theorem sp13L (es : List Ent3) (i i0 v m : Nat) (hi : i < es.length) (hb : es.length < 100000) (hne : i0 ≠ m) :
    CallR Go.Proofs.Try.prog 13 [.row i0 v es.length, .rv (.int .i64 i)] [(i0, .row 3 v (rvs (cellsL es)))] [(m, .row 3 2 (rvs (cellsL (without es i))))] (.row m 2 (es.length - 1)) := by
  refine callR_lend (rs := [.sl 3 (cellsL es), .int .i64 i]) (sp13 es i m hi hb) (fun hp hpre => ⟨?_, ?_⟩) rfl ?_ ?_
  · have := fz_row (h := hp) (τ := fun _ => none) (j := i0) (e := 3) (ver := v) (len := es.length) (xs := cellsL es) (hpre _ (.head _)) rfl (by simp [cellsL]) cells_one
    rwa [List.take_of_length_le (by simp [cellsL])] at this
  · exact fzAll_map [.int .i64 i]
  · exact .row _ _ _
  · intro q hq
    simp -implicitDefEqProofs only [List.mem_singleton] at hq
    subst hq
    refine ⟨.row _ _ _ (fun a x j y hx hy => ?_), fun p hp => ?_⟩
    · simp -implicitDefEqProofs only [rvs, List.getElem?_map] at hx
      cases hq : (cellsL (without es i))[a]? with
      | none =>
        simp -implicitDefEqProofs only [cellsL, List.getElem?_map] at hq
        rw [hq] at hx; cases hx
      | some z =>
        have hz := List.mem_of_getElem? hq
        simp -implicitDefEqProofs only [cellsL, List.getElem?_map] at hq
        rw [hq] at hx
        simp -implicitDefEqProofs only [Option.map_some, Option.some.injEq] at hx
        subst hx
        obtain ⟨e, _, rfl⟩ := List.mem_map.1 hz
        simp -implicitDefEqProofs only [Ent3.cells, List.map_cons, List.map_nil] at hy
        match j, hy with
        | 0, hy => cases hy; exact .rv _ (.int _ _)
        | 1, hy => cases hy; exact .rv _ (.int _ _)
        | 2, hy => cases hy; exact .rv _ (.int _ _)
        | j + 3, hy => simp at hy
    · simp -implicitDefEqProofs only [List.mem_singleton] at hp
      subst hp; exact hne

structure Act3 where
  kind : Int
  e : Ent3
def Act3.cells (a : Act3) : List RV := .int .u8 a.kind :: a.e.cells
def actsL (l : List Act3) : List (List RV) := l.map Act3.cells
def actOf (l : List Act3) (k : Nat) : Act3 := l.getD k ⟨0, ⟨0, 0, 0⟩⟩
theorem acts_len (l : List Act3) : (actsL l).length = l.length := by simp [actsL]
theorem acts_get {l : List Act3} {k : Nat} (h : k < l.length) : (actsL l)[k]?.getD [] = [.int .u8 (actOf l k).kind, .int .i64 (actOf l k).e.key, .int .i64 (actOf l k).e.tie, .int .i64 (actOf l k).e.n] := by
  simp [actsL, actOf, h, Act3.cells, Ent3.cells]

def plH (es : List Ent3) (n V : Nat) (w : List Ent3) (u : Nat) : List (Option HB) := [some (.var [.row 1 V n]), some (.row 3 V (rvs (cellsL es))), some (.row 3 u (rvs (cellsL w)))]
structure PlI where
  k : Nat
  es : List Ent3
  n : Nat
  V : Nat
  w : List Ent3
  u : Nat
def PlP (l : List Act3) (q : PlI) : Prop := q.k ≤ l.length ∧ q.n ≤ q.es.length ∧ q.n ≤ q.k ∧ HeapP q.es q.n ∧ (q.es.take q.n).Perm q.w ∧ q.w.length = q.n

set_option maxHeartbeats 8000000 in
theorem sp_AgendaPlays (l : List Act3) : CallR Go.Proofs.Try.prog 4 [.rv (.sl 4 (actsL l))] [] [] (.rv (.bool true)) := by
  have hlen := acts_len l
  refine callR_G k_decoupagelaw04_AgendaPlays [.rv (.sl 4 (actsL l))] _ (by simp) (by simp [BkAll, bk_agg, bkAll_map, bk_rv, bk_fn, Ent3.sv]) (fun K hK => ?_)
  simp -implicitDefEqProofs only [c_decoupagelaw04_AgendaPlays, go_sem, ↓reduceIte, Nat.reduceEqDiff, Nat.reduceAdd, Nat.reduceSub, Nat.reduceMul, Nat.reduceLeDiff, Nat.reduceLT, reduceCtorEq, Int.reduceToNat]
  by_cases hl : l.length > 200
  · have e1 : decide ((l.length : Int) > 200) = true := decide_eq_true (by omega)
    have hcall1 := sp7; repeat' (first | (simp -implicitDefEqProofs only [go_sem, ↓reduceIte, Nat.reduceEqDiff, Nat.reduceAdd, Nat.reduceSub, Nat.reduceMul, Nat.reduceLeDiff, Nat.reduceLT, reduceCtorEq, Int.reduceToNat, hlen, e1]) | (with_reducible refine g_noent ?_) | (with_reducible refine g_call0 hcall1 ?_) | (with_reducible refine g_calld0 hcall1 ?_) | (refine cdS (fun hg => ?_) (fun hg => ?_) <;> try simp -implicitDefEqProofs only [hg, Bool.not_true, Bool.not_false]) | (refine gdS (fun hg => ?_) (fun hg => ?_) <;> try simp -implicitDefEqProofs only [hg, Bool.not_true, Bool.not_false]) | (refine gddS (fun hg => ?_) (fun hg => ?_) <;> try simp -implicitDefEqProofs only [hg, Bool.not_true, Bool.not_false]) | ((with_reducible apply And.intro); focus (first | trivial | omega | decide | (simp -implicitDefEqProofs only [maxLen]; omega) | (simp [maxLen, sty_len, nd_len, ndL_len, lnL_len, intsL_len, rvs_len, lensS_len]; done) | (simp [maxLen, sty_len, nd_len, ndL_len, lnL_len, intsL_len, rvs_len, lensS_len]; omega))) | fail)
    exact (hK _ _ (ret_t rfl)).2
  · have e1 : decide ((l.length : Int) > 200) = false := decide_eq_false (by omega)
    have hcall2 := sp7; repeat' (first | (simp -implicitDefEqProofs only [go_sem, ↓reduceIte, Nat.reduceEqDiff, Nat.reduceAdd, Nat.reduceSub, Nat.reduceMul, Nat.reduceLeDiff, Nat.reduceLT, reduceCtorEq, Int.reduceToNat, hlen, e1]) | (with_reducible refine g_noent ?_) | (with_reducible refine g_call0 hcall2 ?_) | (with_reducible refine g_calld0 hcall2 ?_) | (refine cdS (fun hg => ?_) (fun hg => ?_) <;> try simp -implicitDefEqProofs only [hg, Bool.not_true, Bool.not_false]) | (refine gdS (fun hg => ?_) (fun hg => ?_) <;> try simp -implicitDefEqProofs only [hg, Bool.not_true, Bool.not_false]) | (refine gddS (fun hg => ?_) (fun hg => ?_) <;> try simp -implicitDefEqProofs only [hg, Bool.not_true, Bool.not_false]) | ((with_reducible apply And.intro); focus (first | trivial | omega | decide | (simp -implicitDefEqProofs only [maxLen]; omega) | (simp [maxLen, sty_len, nd_len, ndL_len, lnL_len, intsL_len, rvs_len, lensS_len]; done) | (simp [maxLen, sty_len, nd_len, ndL_len, lnL_len, intsL_len, rvs_len, lensS_len]; omega))) | fail)
    refine g_loop (ι := PlI) (fun q => [(22, .rv (.int .i64 q.k)), (21, .rv (.int .i64 l.length)), (0, .rv (.sl 4 (actsL l))), (3, .ptr 0 0), (4, .row 2 q.u q.n)]) (fun q => plH q.es q.n q.V q.w q.u) (PlP l) (fun q => l.length - q.k) ⟨0, [], 0, 0, [], 0⟩ ⟨by simp, by simp, by simp, fun k a b => absurd b (by simp), by simp, rfl⟩ ((ent_ghostVar 0 3 0 rfl rfl).trans ((ent_ghostv 4 3 0 rfl).trans (ent_env (by simp [lk, uph])))) (fun q hq K' hN hX hR => ?_)
    obtain ⟨k, es, n, V, w, u⟩ := q
    obtain ⟨q1, q2, q3, q4, q5, q6⟩ := hq
    dsimp only at q1 q2 q3 q4 q5 q6 ⊢
    subst q6
    simp -implicitDefEqProofs only [plH, go_sem, ↓reduceIte, Nat.reduceEqDiff, Nat.reduceAdd, Nat.reduceSub, Nat.reduceMul, Nat.reduceLeDiff, Nat.reduceLT, reduceCtorEq, Int.reduceToNat]
    refine cdS (fun hg => ?_) (fun hg => ?_)
    · have hk4 : k < l.length := by simp at hg; omega
      have hx := acts_get hk4
      have wu : IntKind.i64.wrap ((k : Int) + 1) = ((k + 1 : Nat) : Int) := by rw [wrap_i64 (by omega) (by omega)]; omega
      have hls := lend1 (id := 2) (v := u) (n := w.length) (bs := []) (sp10 w (by omega)) (.int _ _) (by simp [cellsL]) cells_one
      have hlb := sp15 0 1 V w.length es (by decide)
      have hwl : (cellsL w).length = w.length := by simp [cellsL]
      have kne1 : (actOf l k).kind ≠ 0 → ((actOf l k).kind == 0) = false := fun h => by simp [h]
      by_cases hn0 : w.length = 0
      · have hw : w = [] := List.eq_nil_of_length_eq_zero hn0
        have hl1 : leastUp w w.length = -1 := by subst hw; rfl
        rw [hl1] at hls
        have e2 : decide ((-1 : Int) ≥ 0) = false := rfl
        by_cases h0 : (actOf l k).kind = 0
        · have k0 : ((actOf l k).kind == 0) = true := by simp [h0]
          have ha := sp11 0 1 V w.length es (actOf l k).e (by decide) q2 (by omega)
          simp -implicitDefEqProofs only [Ent3.sv] at ha
          obtain ⟨r1, r2, r3⟩ := push_ok (es := es) (n := w.length) (e := (actOf l k).e) q2 q4
          have hln := sp15 0 1 (V + 1) (w.length + 1) (pushF es w.length (actOf l k).e) (by decide)
          have hol : (cellsL w).length = w.length := by simp [cellsL]
          have hot : (cellsL w).take w.length = cellsL w := List.take_of_length_le (by omega)
          have happ : rvs (cellsL w) ++ [[.rv (.int .i64 (actOf l k).e.key), .rv (.int .i64 (actOf l k).e.tie), .rv (.int .i64 (actOf l k).e.n)]] = rvs (cellsL (w ++ [(actOf l k).e])) := by simp [rvs, cellsL, Ent3.cells]
          have hcall3 := hls; have hcall4 := ha; have hcall5 := hln; repeat' (first | (simp -implicitDefEqProofs only [go_sem, ↓reduceIte, Nat.reduceEqDiff, Nat.reduceAdd, Nat.reduceSub, Nat.reduceMul, Nat.reduceLeDiff, Nat.reduceLT, reduceCtorEq, Int.reduceToNat, e2, hwl, hx, hlen, k0, hol, hot, happ, wu, beq_self_eq_true, bne_self_eq_false, Bool.and_self, Bool.and_true]) | (with_reducible refine g_noent ?_) | (refine g_call hcall3 (by simp [PreOK, hget]; done) (by simp [okU, uph]; done) ?_) | (refine g_calld hcall3 (by simp [PreOK, hget]; done) (by simp [okU, uph]; done) ?_) | (refine g_call hcall4 (by simp [PreOK, hget]; done) (by simp [okU, uph]; done) ?_) | (refine g_calld hcall4 (by simp [PreOK, hget]; done) (by simp [okU, uph]; done) ?_) | (refine g_call hcall5 (by simp [PreOK, hget]; done) (by simp [okU, uph]; done) ?_) | (refine g_calld hcall5 (by simp [PreOK, hget]; done) (by simp [okU, uph]; done) ?_) | (refine cdS (fun hg => ?_) (fun hg => ?_) <;> try simp -implicitDefEqProofs only [hg, Bool.not_true, Bool.not_false]) | (refine gdS (fun hg => ?_) (fun hg => ?_) <;> try simp -implicitDefEqProofs only [hg, Bool.not_true, Bool.not_false]) | (refine gddS (fun hg => ?_) (fun hg => ?_) <;> try simp -implicitDefEqProofs only [hg, Bool.not_true, Bool.not_false]) | ((with_reducible apply And.intro); focus (first | trivial | omega | decide | (simp -implicitDefEqProofs only [maxLen]; omega) | (simp [maxLen, sty_len, nd_len, ndL_len, lnL_len, intsL_len, rvs_len, lensS_len]; done) | (simp [maxLen, sty_len, nd_len, ndL_len, lnL_len, intsL_len, rvs_len, lensS_len]; omega))) | fail)
          refine hN ⟨k + 1, pushF es w.length (actOf l k).e, w.length + 1, V + 1, w ++ [(actOf l k).e], u + 1⟩ _ _ ⟨by dsimp only; omega, by dsimp only; omega, by dsimp only; omega, r1, ?_, by simp⟩ (by dsimp only; omega) (ent_tail (h' := plH (pushF es w.length (actOf l k).e) (w.length + 1) (V + 1) (w ++ [(actOf l k).e]) (u + 1)) (by simp) ⟨by simp [ClH, ClA, clS_row, plH], clH_rvs, clH_rvs, trivial⟩ (by simp [ClEnv, lk, clS_rv, clS_row, clS_ptr, plH]))
          dsimp only
          rw [List.take_of_length_le (by omega)]
          exact r2.trans ((List.Perm.cons _ q5).trans (List.perm_append_comm (l₁ := [(actOf l k).e])))
        · have k0 := kne1 h0
          by_cases h1 : (actOf l k).kind = 1
          · have k1 : ((actOf l k).kind == 1) = true := by simp [h1]
            have hn : CallR Go.Proofs.Try.prog 12 [.ptr 0 0] [(0, .var [.row 1 V w.length]), (1, .row 3 V (rvs (cellsL es)))] [] (.tup [(⟨0, 0, 0⟩ : Ent3).sv, .rv (.bool false)]) := by rw [hn0]; exact sp12e 0 1 V es (by decide)
            simp -implicitDefEqProofs only [Ent3.sv] at hn
            have hcall6 := hls; have hcall7 := hn; have hcall8 := hlb; repeat' (first | (simp -implicitDefEqProofs only [go_sem, ↓reduceIte, Nat.reduceEqDiff, Nat.reduceAdd, Nat.reduceSub, Nat.reduceMul, Nat.reduceLeDiff, Nat.reduceLT, reduceCtorEq, Int.reduceToNat, e2, hwl, hx, hlen, k0, k1, wu, beq_self_eq_true, bne_self_eq_false, Bool.and_self, Bool.and_true]) | (with_reducible refine g_noent ?_) | (refine g_call hcall6 (by simp [PreOK, hget]; done) (by simp [okU, uph]; done) ?_) | (refine g_calld hcall6 (by simp [PreOK, hget]; done) (by simp [okU, uph]; done) ?_) | (refine g_call hcall7 (by simp [PreOK, hget]; done) (by simp [okU, uph]; done) ?_) | (refine g_calld hcall7 (by simp [PreOK, hget]; done) (by simp [okU, uph]; done) ?_) | (refine g_call hcall8 (by simp [PreOK, hget]; done) (by simp [okU, uph]; done) ?_) | (refine g_calld hcall8 (by simp [PreOK, hget]; done) (by simp [okU, uph]; done) ?_) | (refine cdS (fun hg => ?_) (fun hg => ?_) <;> try simp -implicitDefEqProofs only [hg, Bool.not_true, Bool.not_false]) | (refine gdS (fun hg => ?_) (fun hg => ?_) <;> try simp -implicitDefEqProofs only [hg, Bool.not_true, Bool.not_false]) | (refine gddS (fun hg => ?_) (fun hg => ?_) <;> try simp -implicitDefEqProofs only [hg, Bool.not_true, Bool.not_false]) | ((with_reducible apply And.intro); focus (first | trivial | omega | decide | (simp -implicitDefEqProofs only [maxLen]; omega) | (simp [maxLen, sty_len, nd_len, ndL_len, lnL_len, intsL_len, rvs_len, lensS_len]; done) | (simp [maxLen, sty_len, nd_len, ndL_len, lnL_len, intsL_len, rvs_len, lensS_len]; omega))) | fail)
            exact hN ⟨k + 1, es, w.length, V, w, u⟩ _ _ ⟨by dsimp only; omega, q2, by dsimp only; omega, q4, q5, rfl⟩ (by dsimp only; omega) (ent_tail (h' := plH es w.length V w u) (by simp) ⟨by simp [ClH, ClA, clS_row, plH], clH_rvs, clH_rvs, trivial⟩ (by simp [ClEnv, lk, clS_rv, clS_row, clS_ptr, plH]))
          · have k1 : ((actOf l k).kind == 1) = false := by simp [h1]
            have hn := sp14 0 1 V w.length es (by decide) q2
            rw [if_pos hn0, show decide (w.length ≠ 0) = false from decide_eq_false (by simp [hn0])] at hn
            simp -implicitDefEqProofs only [Ent3.sv] at hn
            have hcall9 := hls; have hcall10 := hn; have hcall11 := hlb; repeat' (first | (simp -implicitDefEqProofs only [go_sem, ↓reduceIte, Nat.reduceEqDiff, Nat.reduceAdd, Nat.reduceSub, Nat.reduceMul, Nat.reduceLeDiff, Nat.reduceLT, reduceCtorEq, Int.reduceToNat, e2, hwl, hx, hlen, k0, k1, wu, beq_self_eq_true, bne_self_eq_false, Bool.and_self, Bool.and_true]) | (with_reducible refine g_noent ?_) | (refine g_call hcall9 (by simp [PreOK, hget]; done) (by simp [okU, uph]; done) ?_) | (refine g_calld hcall9 (by simp [PreOK, hget]; done) (by simp [okU, uph]; done) ?_) | (refine g_call hcall10 (by simp [PreOK, hget]; done) (by simp [okU, uph]; done) ?_) | (refine g_calld hcall10 (by simp [PreOK, hget]; done) (by simp [okU, uph]; done) ?_) | (refine g_call hcall11 (by simp [PreOK, hget]; done) (by simp [okU, uph]; done) ?_) | (refine g_calld hcall11 (by simp [PreOK, hget]; done) (by simp [okU, uph]; done) ?_) | (refine cdS (fun hg => ?_) (fun hg => ?_) <;> try simp -implicitDefEqProofs only [hg, Bool.not_true, Bool.not_false]) | (refine gdS (fun hg => ?_) (fun hg => ?_) <;> try simp -implicitDefEqProofs only [hg, Bool.not_true, Bool.not_false]) | (refine gddS (fun hg => ?_) (fun hg => ?_) <;> try simp -implicitDefEqProofs only [hg, Bool.not_true, Bool.not_false]) | ((with_reducible apply And.intro); focus (first | trivial | omega | decide | (simp -implicitDefEqProofs only [maxLen]; omega) | (simp [maxLen, sty_len, nd_len, ndL_len, lnL_len, intsL_len, rvs_len, lensS_len]; done) | (simp [maxLen, sty_len, nd_len, ndL_len, lnL_len, intsL_len, rvs_len, lensS_len]; omega))) | fail)
            exact hN ⟨k + 1, es, w.length, V, w, u⟩ _ _ ⟨by dsimp only; omega, q2, by dsimp only; omega, q4, q5, rfl⟩ (by dsimp only; omega) (ent_tail (h' := plH es w.length V w u) (by simp) ⟨by simp [ClH, ClA, clS_row, plH], clH_rvs, clH_rvs, trivial⟩ (by simp [ClEnv, lk, clS_rv, clS_row, clS_ptr, plH]))
      · have hlt := leastN_lt w (by omega)
        rw [leastN_eq w (by omega)] at hls
        have e2 : decide (((leastN w : Nat) : Int) ≥ 0) = true := decide_eq_true (by omega)
        have hxw := ent_cells (es := w) (k := leastN w) hlt
        obtain ⟨m1, m2, m3, m4⟩ := pop_ok (es := es) (n := w.length) q2 (by omega) q4
        have hmin : ga es 0 = ga w (leastN w) := by
          have hm : ga es 0 ∈ es.take w.length := by rw [← take_ga (n := w.length) (by omega)]; exact ga_mem (by simp; omega)
          refine leE_anti ?_ (least_le (q5.subset hm))
          have h2 : ga w (leastN w) ∈ es.take w.length := q5.symm.subset (ga_mem hlt)
          obtain ⟨j, hj, hj2⟩ := List.getElem_of_mem h2
          rw [← hj2, ga_eq hj, take_ga (by simp at hj; omega)]
          exact heap_min q4 j j (Nat.le_refl _) (by simp at hj; omega)
        by_cases h0 : (actOf l k).kind = 0
        · have k0 : ((actOf l k).kind == 0) = true := by simp [h0]
          have ha := sp11 0 1 V w.length es (actOf l k).e (by decide) q2 (by omega)
          simp -implicitDefEqProofs only [Ent3.sv] at ha
          obtain ⟨r1, r2, r3⟩ := push_ok (es := es) (n := w.length) (e := (actOf l k).e) q2 q4
          have hln := sp15 0 1 (V + 1) (w.length + 1) (pushF es w.length (actOf l k).e) (by decide)
          have hol : (cellsL w).length = w.length := by simp [cellsL]
          have hot : (cellsL w).take w.length = cellsL w := List.take_of_length_le (by omega)
          have happ : rvs (cellsL w) ++ [[.rv (.int .i64 (actOf l k).e.key), .rv (.int .i64 (actOf l k).e.tie), .rv (.int .i64 (actOf l k).e.n)]] = rvs (cellsL (w ++ [(actOf l k).e])) := by simp [rvs, cellsL, Ent3.cells]
          have hcall12 := hls; have hcall13 := ha; have hcall14 := hln; repeat' (first | (simp -implicitDefEqProofs only [go_sem, ↓reduceIte, Nat.reduceEqDiff, Nat.reduceAdd, Nat.reduceSub, Nat.reduceMul, Nat.reduceLeDiff, Nat.reduceLT, reduceCtorEq, Int.reduceToNat, e2, hxw, hwl, hx, hlen, k0, hol, hot, happ, wu, beq_self_eq_true, bne_self_eq_false, Bool.and_self, Bool.and_true]) | (with_reducible refine g_noent ?_) | (refine g_call hcall12 (by simp [PreOK, hget]; done) (by simp [okU, uph]; done) ?_) | (refine g_calld hcall12 (by simp [PreOK, hget]; done) (by simp [okU, uph]; done) ?_) | (refine g_call hcall13 (by simp [PreOK, hget]; done) (by simp [okU, uph]; done) ?_) | (refine g_calld hcall13 (by simp [PreOK, hget]; done) (by simp [okU, uph]; done) ?_) | (refine g_call hcall14 (by simp [PreOK, hget]; done) (by simp [okU, uph]; done) ?_) | (refine g_calld hcall14 (by simp [PreOK, hget]; done) (by simp [okU, uph]; done) ?_) | (refine cdS (fun hg => ?_) (fun hg => ?_) <;> try simp -implicitDefEqProofs only [hg, Bool.not_true, Bool.not_false]) | (refine gdS (fun hg => ?_) (fun hg => ?_) <;> try simp -implicitDefEqProofs only [hg, Bool.not_true, Bool.not_false]) | (refine gddS (fun hg => ?_) (fun hg => ?_) <;> try simp -implicitDefEqProofs only [hg, Bool.not_true, Bool.not_false]) | ((with_reducible apply And.intro); focus (first | trivial | omega | decide | (simp -implicitDefEqProofs only [maxLen]; omega) | (simp [maxLen, sty_len, nd_len, ndL_len, lnL_len, intsL_len, rvs_len, lensS_len]; done) | (simp [maxLen, sty_len, nd_len, ndL_len, lnL_len, intsL_len, rvs_len, lensS_len]; omega))) | fail)
          refine hN ⟨k + 1, pushF es w.length (actOf l k).e, w.length + 1, V + 1, w ++ [(actOf l k).e], u + 1⟩ _ _ ⟨by dsimp only; omega, by dsimp only; omega, by dsimp only; omega, r1, ?_, by simp⟩ (by dsimp only; omega) (ent_tail (h' := plH (pushF es w.length (actOf l k).e) (w.length + 1) (V + 1) (w ++ [(actOf l k).e]) (u + 1)) (by simp) ⟨by simp [ClH, ClA, clS_row, plH], clH_rvs, clH_rvs, trivial⟩ (by simp [ClEnv, lk, clS_rv, clS_row, clS_ptr, plH]))
          dsimp only
          rw [List.take_of_length_le (by omega)]
          exact r2.trans ((List.Perm.cons _ q5).trans (List.perm_append_comm (l₁ := [(actOf l k).e])))
        · have k0 := kne1 h0
          by_cases h1 : (actOf l k).kind = 1
          · have k1 : ((actOf l k).kind == 1) = true := by simp [h1]
            have hn := sp12 0 1 V w.length es (by decide) q2 hn0 (by omega)
            rw [m2, hmin] at hn
            simp -implicitDefEqProofs only [Ent3.sv] at hn
            have hwo := sp13L w (leastN w) 2 u 5 hlt (by omega) (by decide)
            have hln := sp15 0 1 V (w.length - 1) (popF es w.length) (by decide)
            have hcall15 := hls; have hcall16 := hn; have hcall17 := hwo; have hcall18 := hln; repeat' (first | (simp -implicitDefEqProofs only [go_sem, ↓reduceIte, Nat.reduceEqDiff, Nat.reduceAdd, Nat.reduceSub, Nat.reduceMul, Nat.reduceLeDiff, Nat.reduceLT, reduceCtorEq, Int.reduceToNat, e2, hxw, hwl, hx, hlen, k0, k1, wu, beq_self_eq_true, bne_self_eq_false, Bool.and_self, Bool.and_true]) | (with_reducible refine g_noent ?_) | (refine g_call hcall15 (by simp [PreOK, hget]; done) (by simp [okU, uph]; done) ?_) | (refine g_calld hcall15 (by simp [PreOK, hget]; done) (by simp [okU, uph]; done) ?_) | (refine g_call hcall16 (by simp [PreOK, hget]; done) (by simp [okU, uph]; done) ?_) | (refine g_calld hcall16 (by simp [PreOK, hget]; done) (by simp [okU, uph]; done) ?_) | (refine g_call hcall17 (by simp [PreOK, hget]; done) (by simp [okU, uph]; done) ?_) | (refine g_calld hcall17 (by simp [PreOK, hget]; done) (by simp [okU, uph]; done) ?_) | (refine g_call hcall18 (by simp [PreOK, hget]; done) (by simp [okU, uph]; done) ?_) | (refine g_calld hcall18 (by simp [PreOK, hget]; done) (by simp [okU, uph]; done) ?_) | (refine cdS (fun hg => ?_) (fun hg => ?_) <;> try simp -implicitDefEqProofs only [hg, Bool.not_true, Bool.not_false]) | (refine gdS (fun hg => ?_) (fun hg => ?_) <;> try simp -implicitDefEqProofs only [hg, Bool.not_true, Bool.not_false]) | (refine gddS (fun hg => ?_) (fun hg => ?_) <;> try simp -implicitDefEqProofs only [hg, Bool.not_true, Bool.not_false]) | ((with_reducible apply And.intro); focus (first | trivial | omega | decide | (simp -implicitDefEqProofs only [maxLen]; omega) | (simp [maxLen, sty_len, nd_len, ndL_len, lnL_len, intsL_len, rvs_len, lensS_len]; done) | (simp [maxLen, sty_len, nd_len, ndL_len, lnL_len, intsL_len, rvs_len, lensS_len]; omega))) | fail)
            have hwl2 := without_len hlt
            rw [hmin] at m3
            refine hN ⟨k + 1, popF es w.length, w.length - 1, V, without w (leastN w), 2⟩ _ _ ⟨by dsimp only; omega, by dsimp only; omega, by dsimp only; omega, m1, (m3.symm.trans (q5.trans (without_perm hlt))).cons_inv, by dsimp only; omega⟩ (by dsimp only; omega) (ent_move 2 5 (by decide) (by simp [plH]) (by simp [plH]) (fun q hq => ?_) (by simp [lk, rn_rv, rn_ptr, rn_row, τm, plH]))
            simp -implicitDefEqProofs only [plH, List.length_cons, List.length_nil] at hq
            match q, hq with
            | 0, _ => exact ⟨_, _, rfl, rfl, rh_vrow rfl⟩
            | 1, _ => exact ⟨_, _, rfl, rfl, rh_rvs⟩
            | 2, _ => exact ⟨_, _, rfl, rfl, rh_rvs⟩
          · have k1 : ((actOf l k).kind == 1) = false := by simp [h1]
            have hn := sp14 0 1 V w.length es (by decide) q2
            rw [if_neg hn0, hmin, show decide (w.length ≠ 0) = true from decide_eq_true hn0] at hn
            simp -implicitDefEqProofs only [Ent3.sv] at hn
            have hcall19 := hls; have hcall20 := hn; have hcall21 := hlb; repeat' (first | (simp -implicitDefEqProofs only [go_sem, ↓reduceIte, Nat.reduceEqDiff, Nat.reduceAdd, Nat.reduceSub, Nat.reduceMul, Nat.reduceLeDiff, Nat.reduceLT, reduceCtorEq, Int.reduceToNat, e2, hxw, hwl, hx, hlen, k0, k1, wu, beq_self_eq_true, bne_self_eq_false, Bool.and_self, Bool.and_true]) | (with_reducible refine g_noent ?_) | (refine g_call hcall19 (by simp [PreOK, hget]; done) (by simp [okU, uph]; done) ?_) | (refine g_calld hcall19 (by simp [PreOK, hget]; done) (by simp [okU, uph]; done) ?_) | (refine g_call hcall20 (by simp [PreOK, hget]; done) (by simp [okU, uph]; done) ?_) | (refine g_calld hcall20 (by simp [PreOK, hget]; done) (by simp [okU, uph]; done) ?_) | (refine g_call hcall21 (by simp [PreOK, hget]; done) (by simp [okU, uph]; done) ?_) | (refine g_calld hcall21 (by simp [PreOK, hget]; done) (by simp [okU, uph]; done) ?_) | (refine cdS (fun hg => ?_) (fun hg => ?_) <;> try simp -implicitDefEqProofs only [hg, Bool.not_true, Bool.not_false]) | (refine gdS (fun hg => ?_) (fun hg => ?_) <;> try simp -implicitDefEqProofs only [hg, Bool.not_true, Bool.not_false]) | (refine gddS (fun hg => ?_) (fun hg => ?_) <;> try simp -implicitDefEqProofs only [hg, Bool.not_true, Bool.not_false]) | ((with_reducible apply And.intro); focus (first | trivial | omega | decide | (simp -implicitDefEqProofs only [maxLen]; omega) | (simp [maxLen, sty_len, nd_len, ndL_len, lnL_len, intsL_len, rvs_len, lensS_len]; done) | (simp [maxLen, sty_len, nd_len, ndL_len, lnL_len, intsL_len, rvs_len, lensS_len]; omega))) | fail)
            exact hN ⟨k + 1, es, w.length, V, w, u⟩ _ _ ⟨by dsimp only; omega, q2, by dsimp only; omega, q4, q5, rfl⟩ (by dsimp only; omega) (ent_tail (h' := plH es w.length V w u) (by simp) ⟨by simp [ClH, ClA, clS_row, plH], clH_rvs, clH_rvs, trivial⟩ (by simp [ClEnv, lk, clS_rv, clS_row, clS_ptr, plH]))
    · simp -implicitDefEqProofs only [go_sem, ↓reduceIte, Nat.reduceEqDiff, Nat.reduceAdd, Nat.reduceSub, Nat.reduceMul, Nat.reduceLeDiff, Nat.reduceLT, reduceCtorEq, Int.reduceToNat]
      refine hX _ _ _ ?_
      repeat' (first | (simp -implicitDefEqProofs only [go_sem, ↓reduceIte, Nat.reduceEqDiff, Nat.reduceAdd, Nat.reduceSub, Nat.reduceMul, Nat.reduceLeDiff, Nat.reduceLT, reduceCtorEq, Int.reduceToNat]) | (with_reducible refine g_noent ?_) | (refine cdS (fun hg => ?_) (fun hg => ?_) <;> try simp -implicitDefEqProofs only [hg, Bool.not_true, Bool.not_false]) | (refine gdS (fun hg => ?_) (fun hg => ?_) <;> try simp -implicitDefEqProofs only [hg, Bool.not_true, Bool.not_false]) | (refine gddS (fun hg => ?_) (fun hg => ?_) <;> try simp -implicitDefEqProofs only [hg, Bool.not_true, Bool.not_false]) | ((with_reducible apply And.intro); focus (first | trivial | omega | decide | (simp -implicitDefEqProofs only [maxLen]; omega) | (simp [maxLen, sty_len, nd_len, ndL_len, lnL_len, intsL_len, rvs_len, lensS_len]; done) | (simp [maxLen, sty_len, nd_len, ndL_len, lnL_len, intsL_len, rvs_len, lensS_len]; omega))) | fail)
      exact (hK _ _ (ret_t rfl)).2
end Go.Eng

/- What comes in, as entries. -/
namespace Go.Eng
open Go Go.Proofs
theorem tyIntE {n : Nat} {rs : List RV} (h : TyC Go.Proofs.Try.prog (n + 1) 3 rs) : ∃ i, rs = [.int .i64 i] := by
  obtain ⟨i, h, _⟩ := tyC_int Try.underlying3 h
  exact ⟨i, h⟩
theorem tyInt64E {n : Nat} {rs : List RV} (h : TyC Go.Proofs.Try.prog (n + 1) 2 rs) : ∃ i, rs = [.int .i64 i] := by
  obtain ⟨i, h, _⟩ := tyC_int Try.underlying2 h
  exact ⟨i, h⟩
theorem tyEnt {n : Nat} {rs : List RV} (h : TyC Go.Proofs.Try.prog (n + 2) 23 rs) : ∃ x : Ent3, rs = x.cells := by
  have h := tyC_struct Try.underlying23 h
  obtain ⟨_, _, rfl, h1, _, _, rfl, h2, _, _, rfl, h3, rfl⟩ := h
  obtain ⟨i, rfl⟩ := tyInt64E h1
  obtain ⟨j, rfl⟩ := tyInt64E h2
  obtain ⟨k, rfl⟩ := tyIntE h3
  exact ⟨⟨i, j, k⟩, rfl⟩
theorem list_ofE {α : Type} {f : α → List RV} : ∀ {xs : List (List RV)}, (∀ x ∈ xs, ∃ a, x = f a) → ∃ l : List α, xs = l.map f
  | [], _ => ⟨[], rfl⟩
  | x :: xs, h => by
    obtain ⟨a, rfl⟩ := h x (by simp)
    obtain ⟨l, rfl⟩ := list_ofE (xs := xs) fun y hy => h y (by simp [hy])
    exact ⟨a :: l, rfl⟩
end Go.Eng

/- What comes in, as acts. -/
namespace Go.Eng
open Go Go.Proofs
theorem tyAct {n : Nat} {rs : List RV} (h : TyC Go.Proofs.Try.prog (n + 3) 37 rs) : ∃ x : Act3, rs = x.cells := by
  have h := tyC_struct Try.underlying37 h
  obtain ⟨_, _, rfl, h1, _, _, rfl, h2, rfl⟩ := h
  obtain ⟨i, rfl, _⟩ := tyC_int Try.underlying5 h1
  obtain ⟨e, rfl⟩ := tyEnt h2
  exact ⟨⟨i, e⟩, rfl⟩
theorem aggActs : aggT Go.Proofs.Try.prog 29 = some false := by kernel_rfl
theorem cells4 : Program.cellsOf Go.Proofs.Try.prog 37 = 4 := by kernel_rfl
theorem openActs {rs : List RV} (h : TyC Go.Proofs.Try.prog 4 29 rs) : ∃ l : List Act3, argS Go.Proofs.Try.prog 29 rs = .rv (.sl 4 (actsL l)) := by
  obtain ⟨xs, rfl, _, hx⟩ := tyC_slice Try.underlying29 h
  obtain ⟨l, rfl⟩ := list_ofE fun x hx' => tyAct (hx x hx')
  refine ⟨l, ?_⟩
  rw [argS_one aggActs, cells4]; rfl
end Go.Eng
