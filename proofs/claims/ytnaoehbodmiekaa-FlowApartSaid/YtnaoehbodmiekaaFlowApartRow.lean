/- FlowApart: whatever the input, the statement's function gives true, and the input reads as it did. -/
import Derived.Test.YtnaoehbodmiekaaFlowApart4
import Derived.Test.YtnaoehbodmiekaaRows
import Derived.WalkKit
import Derived.ProofKit
import Derived.OpenShut
import Derived.ShutString
import Derived.ChangeOld
import Derived.Below
namespace Go.Proofs.Ytnaoehbodmiekaa.flowApart
open Go.ChangeShapes Go.WideShapes Go.ChangeAt Go.RowKit Go.aI
open Go.ChangeMaps (open_string shut_string)
theorem own:ownKnob Try.prog.godebug=none:=by kernel_rfl
theorem laidOut:laidOutB Try.prog=true:=by kernel_rfl
set_option maxRecDepth 100000 in
theorem lifted (os:Os) (started:os.Started) (H:Type) (enc:TypeId×Value→H) :
 ReturnsInHanded {} Try.checked os 3 .any (Rows.flowApartSpec.pre6 enc Try.prog Try.f3 Rows.flowApartRow.domain false) (Rows.flowApartSpec.post enc Try.prog Try.f3 false true false false):=by
 refine returnsInHanded_of_change (C:=Try.checked) own started (by kernel_rfl) Try.func3
  (ChangeSpec.witness6 (enc:=enc) (C:=Try.checked) false ⟨#[],#[.slice .none 0 0,.int .i64 0,.agg #[.bool false,.int .i64 0]],[]⟩ 8 (by kernel_rfl) (by kernel_rfl) (by kernel_rfl) (by kernel_rfl)) ?_
 intro W base args ds gs before CP hW Rt _
 have hval:∀ (j:Nat) t v,Try.f3.params[j]?=some t→args[j]?=some v→Value.okWide Try.prog W .any base t v:=CP
 have Jn:=hW
 obtain ⟨p,q,Ce,hV,rfl,hfz,oY⟩:=hW
 have hA:DataW.TrodAll enc Try.prog W 0 (fun _=>true) true Try.f3.params.toList args.toList ds p:=Ce
 rw [Try.params3] at hA hval
 obtain ⟨v0,RK,d0,Rj,p0,q0,hargs,rfl,rfl,h0,r0⟩:=trodAll_cons hA
 obtain ⟨v1,RM,d1,Rk,p1,q1,rfl,rfl,rfl,h1,r1⟩:=trodAll_cons r0
 obtain ⟨v2,RN,d2,Rl,p2,q2,rfl,rfl,rfl,h2,r2⟩:=trodAll_cons r1
 obtain ⟨rfl,rfl,rfl⟩:=trodAll_nil r2
 obtain rfl:args = #[v0,v1,v2]:=by cases args;simp_all
 obtain ⟨rfl,rfl⟩:=trodVars_none hV
 obtain ⟨s0,t0,o0⟩:=Ag (n:=6) (t:=22) (by kernel_rfl) (hval 0 22 v0 rfl rfl) h0
 obtain ⟨s1,t1,o1⟩:=Ag (n:=1) (t:=2) (by kernel_rfl) (hval 1 2 v1 rfl rfl) h1
 obtain ⟨s2,t2,o2⟩:=Ag (n:=2) (t:=24) (by kernel_rfl) (hval 2 24 v2 rfl rfl) h2
 obtain ⟨e0,g0⟩:=Oh t0
 obtain ⟨e1,g1⟩:=Og t1
 obtain ⟨e2,g2⟩:=Oi t2
 rw [g0] at o0
 rw [g1] at o1
 rw [g2] at o2
 have NB:∀ x∈p0,x.block<W.heap.size:=by obtain ⟨m,hm⟩:=h0;exact DataW.trod_lt m _ _ _ hm
 have NC:∀ x∈p1,x.block<W.heap.size:=by obtain ⟨m,hm⟩:=h1;exact DataW.trod_lt m _ _ _ hm
 have ND:∀ x∈p2,x.block<W.heap.size:=by obtain ⟨m,hm⟩:=h2;exact DataW.trod_lt m _ _ _ hm
 clear Ce CP
 refine (MV (Pz e0 e1 e2) (vs:=[v0,v1,v2]) rfl (fun j s hj=>by
  match j with
  | 0=>cases hj;exact o0
  | 1=>cases hj;exact o1
  | 2=>cases hj;exact o2
  | j+3=>simp at hj)).mono fun e W' ⟨he,vg⟩=>?_
 subst he
 exact ⟨_,rfl,_,_,_,[],_,[],Jn,trodAll_mk1 (shut_bool Try.underlying4 _),(trodAll_cons_mk (Below.trod laidOut (by kernel_rfl) (of_decide_eq_true (by kernel_rfl)) h0 vg NB) (trodAll_cons_mk (Below.trod laidOut (by kernel_rfl) (of_decide_eq_true (by kernel_rfl)) h1 vg NC) (trodAll_cons_mk (Below.trod laidOut (by kernel_rfl) (of_decide_eq_true (by kernel_rfl)) h2 vg ND) trodAll_mk0))),rfl,vg.frame _,fun h=>by cases h⟩
theorem xj:Rows.flowApartRow.holds Try.pinned (OpenSpec.ofChange Rows.flowApartSpec):=
 OpenClaim.holds_of_wide 3 Try.f3 rfl rfl rfl rfl rfl rfl rfl ⟨rfl,rfl,rfl,rfl,rfl⟩ rfl rfl rfl rfl rfl (by kernel_rfl) Try.func3 (by kernel_rfl)
  (of_decide_eq_true (by kernel_rfl)) (by unfold Func.isWrapper;first | (rw [if_pos (by decide +kernel)];kernel_rfl) | (rw [if_neg (by decide +kernel)];exact ⟨rfl,rfl⟩))
  (fun os started H enc _=>lifted os started H enc)
theorem flowApart_holds:Rows.FlowApartSaid:=xj
#print axioms flowApart_holds
end Go.Proofs.Ytnaoehbodmiekaa.flowApart
