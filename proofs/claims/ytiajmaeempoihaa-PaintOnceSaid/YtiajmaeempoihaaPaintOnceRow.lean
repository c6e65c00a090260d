/- PaintOnce: whatever the input, the statement's function gives true, and the input reads as it did. -/
import Derived.Test.YtiajmaeempoihaaPaintOnce4
import Derived.Test.YtiajmaeempoihaaRows
import Derived.WalkKit
import Derived.ProofKit
import Derived.OpenShut
import Derived.ShutString
import Derived.ChangeOld
import Derived.Below
namespace Go.Proofs.Ytiajmaeempoihaa.paintOnce
open Go.ChangeShapes Go.WideShapes Go.ChangeAt Go.RowKit Go.ay
open Go.ChangeMaps (open_string shut_string)
theorem own:ownKnob Try.prog.godebug=none:=by kernel_rfl
theorem laidOut:laidOutB Try.prog=true:=by kernel_rfl
set_option maxRecDepth 100000 in
theorem lifted (os:Os) (started:os.Started) (H:Type) (enc:TypeId×Value→H) :
 ReturnsInHanded {} Try.checked os 12 .any (Rows.paintOnceSpec.pre6 enc Try.prog Try.f12 Rows.paintOnceRow.domain false) (Rows.paintOnceSpec.post enc Try.prog Try.f12 false true false false):=by
 refine returnsInHanded_of_change (C:=Try.checked) own started (by kernel_rfl) Try.func12
  (ChangeSpec.witness6 (enc:=enc) (C:=Try.checked) false ⟨#[],#[.slice .none 0 0],[]⟩ 8 (by kernel_rfl) (by kernel_rfl) (by kernel_rfl) (by kernel_rfl)) ?_
 intro W base args ds gs before FN hW TY _
 have hval:∀ (j:Nat) t v,Try.f12.params[j]?=some t→args[j]?=some v→Value.okWide Try.prog W .any base t v:=FN
 have Mt:=hW
 obtain ⟨p,q,EP,hV,rfl,hfz,xS⟩:=hW
 have hA:DataW.TrodAll enc Try.prog W 0 (fun _=>true) true Try.f12.params.toList args.toList ds p:=EP
 rw [Try.params12] at hA hval
 obtain ⟨v0,Ut,d0,TO,p0,q0,hargs,rfl,rfl,h0,r0⟩:=trodAll_cons hA
 obtain ⟨rfl,rfl,rfl⟩:=trodAll_nil r0
 obtain rfl:args = #[v0]:=by cases args;simp_all
 obtain ⟨rfl,rfl⟩:=trodVars_none hV
 obtain ⟨s0,t0,o0⟩:=QI (n:=6) (t:=22) (by kernel_rfl) (hval 0 22 v0 rfl rfl) h0
 obtain ⟨e0,g0⟩:=QG t0
 rw [g0] at o0
 have Qi:∀ x∈p0,x.block<W.heap.size:=by obtain ⟨m,hm⟩:=h0;exact DataW.trod_lt m _ _ _ hm
 clear EP FN
 refine (PK (Sm e0) (vs:=[v0]) rfl (fun j s hj=>by
  match j with
  | 0=>cases hj;exact o0
  | j+1=>simp at hj)).mono fun e W' ⟨he,Du⟩=>?_
 subst he
 exact ⟨_,rfl,_,_,_,[],_,[],Mt,trodAll_mk1 (shut_bool Try.underlying4 _),(trodAll_cons_mk (Below.trod laidOut (by kernel_rfl) (of_decide_eq_true (by kernel_rfl)) h0 Du Qi) trodAll_mk0),rfl,Du.frame _,fun h=>by cases h⟩
theorem yG:Rows.paintOnceRow.holds Try.pinned (OpenSpec.ofChange Rows.paintOnceSpec):=
 OpenClaim.holds_of_wide 12 Try.f12 rfl rfl rfl rfl rfl rfl rfl ⟨rfl,rfl,rfl,rfl,rfl⟩ rfl rfl rfl rfl rfl (by kernel_rfl) Try.func12 (by kernel_rfl)
  (of_decide_eq_true (by kernel_rfl)) (by unfold Func.isWrapper;first | (rw [if_pos (by decide +kernel)];kernel_rfl) | (rw [if_neg (by decide +kernel)];exact ⟨rfl,rfl⟩))
  (fun os started H enc _=>lifted os started H enc)
theorem paintOnce_holds:Rows.PaintOnceSaid:=yG
#print axioms paintOnce_holds
end Go.Proofs.Ytiajmaeempoihaa.paintOnce
