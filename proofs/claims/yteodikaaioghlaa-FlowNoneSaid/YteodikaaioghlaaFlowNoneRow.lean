/- FlowNone: whatever the input, the statement's function gives true, and the input reads as it did. -/
import Derived.Test.YteodikaaioghlaaFlowNone4
import Derived.Test.YteodikaaioghlaaRows
import Derived.WalkKit
import Derived.ProofKit
import Derived.OpenShut
import Derived.ShutString
import Derived.ChangeOld
import Derived.Below
namespace Go.Proofs.Yteodikaaioghlaa.flowNone
open Go.ChangeShapes Go.WideShapes Go.ChangeAt Go.RowKit Go.aH
open Go.ChangeMaps (open_string shut_string)
theorem own:ownKnob Try.prog.godebug=none:=by kernel_rfl
theorem laidOut:laidOutB Try.prog=true:=by kernel_rfl
set_option maxRecDepth 100000 in
theorem lifted (os:Os) (started:os.Started) (H:Type) (enc:TypeId×Value→H) :
 ReturnsInHanded {} Try.checked os 5 .any (Rows.flowNoneSpec.pre6 enc Try.prog Try.f5 Rows.flowNoneRow.domain false) (Rows.flowNoneSpec.post enc Try.prog Try.f5 false true false false):=by
 refine returnsInHanded_of_change (C:=Try.checked) own started (by kernel_rfl) Try.func5
  (ChangeSpec.witness6 (enc:=enc) (C:=Try.checked) false ⟨#[],#[.slice .none 0 0,.int .i64 0,.int .i64 0,.agg #[.bool false,.int .i64 0]],[]⟩ 8 (by kernel_rfl) (by kernel_rfl) (by kernel_rfl) (by kernel_rfl)) ?_
 intro W base args ds gs before Bu hW OR _
 have hval:∀ (j:Nat) t v,Try.f5.params[j]?=some t→args[j]?=some v→Value.okWide Try.prog W .any base t v:=Bu
 have Ho:=hW
 obtain ⟨p,q,AL,hV,rfl,hfz,vk⟩:=hW
 have hA:DataW.TrodAll enc Try.prog W 0 (fun _=>true) true Try.f5.params.toList args.toList ds p:=AL
 rw [Try.params5] at hA hval
 obtain ⟨v0,Pg,d0,OH,p0,q0,hargs,rfl,rfl,h0,r0⟩:=trodAll_cons hA
 obtain ⟨v1,Ph,d1,OI,p1,q1,rfl,rfl,rfl,h1,r1⟩:=trodAll_cons r0
 obtain ⟨v2,Pj,d2,OJ,p2,q2,rfl,rfl,rfl,h2,r2⟩:=trodAll_cons r1
 obtain ⟨v3,Pk,d3,OK,p3,q3,rfl,rfl,rfl,h3,r3⟩:=trodAll_cons r2
 obtain ⟨rfl,rfl,rfl⟩:=trodAll_nil r3
 obtain rfl:args = #[v0,v1,v2,v3]:=by cases args;simp_all
 obtain ⟨rfl,rfl⟩:=trodVars_none hV
 obtain ⟨s0,t0,o0⟩:=vL (n:=6) (t:=22) (by kernel_rfl) (hval 0 22 v0 rfl rfl) h0
 obtain ⟨s1,t1,o1⟩:=vL (n:=1) (t:=3) (by kernel_rfl) (hval 1 3 v1 rfl rfl) h1
 obtain ⟨s2,t2,o2⟩:=vL (n:=1) (t:=2) (by kernel_rfl) (hval 2 2 v2 rfl rfl) h2
 obtain ⟨s3,t3,o3⟩:=vL (n:=2) (t:=24) (by kernel_rfl) (hval 3 24 v3 rfl rfl) h3
 obtain ⟨e0,g0⟩:=LU t0
 obtain ⟨e1,g1⟩:=LR t1
 obtain ⟨e2,g2⟩:=LS t2
 obtain ⟨e3,g3⟩:=LV t3
 rw [g0] at o0
 rw [g1] at o1
 rw [g2] at o2
 rw [g3] at o3
 have Lh:∀ x∈p0,x.block<W.heap.size:=by obtain ⟨m,hm⟩:=h0;exact DataW.trod_lt m _ _ _ hm
 have Li:∀ x∈p1,x.block<W.heap.size:=by obtain ⟨m,hm⟩:=h1;exact DataW.trod_lt m _ _ _ hm
 have Lj:∀ x∈p2,x.block<W.heap.size:=by obtain ⟨m,hm⟩:=h2;exact DataW.trod_lt m _ _ _ hm
 have Lk:∀ x∈p3,x.block<W.heap.size:=by obtain ⟨m,hm⟩:=h3;exact DataW.trod_lt m _ _ _ hm
 clear AL Bu
 refine (KM (Na e0 e1 e2 e3) (vs:=[v0,v1,v2,v3]) rfl (fun j s hj=>by
  match j with
  | 0=>cases hj;exact o0
  | 1=>cases hj;exact o1
  | 2=>cases hj;exact o2
  | 3=>cases hj;exact o3
  | j+4=>simp at hj)).mono fun e W' ⟨he,rO⟩=>?_
 subst he
 exact ⟨_,rfl,_,_,_,[],_,[],Ho,trodAll_mk1 (shut_bool Try.underlying4 _),(trodAll_cons_mk (Below.trod laidOut (by kernel_rfl) (of_decide_eq_true (by kernel_rfl)) h0 rO Lh) (trodAll_cons_mk (Below.trod laidOut (by kernel_rfl) (of_decide_eq_true (by kernel_rfl)) h1 rO Li) (trodAll_cons_mk (Below.trod laidOut (by kernel_rfl) (of_decide_eq_true (by kernel_rfl)) h2 rO Lj) (trodAll_cons_mk (Below.trod laidOut (by kernel_rfl) (of_decide_eq_true (by kernel_rfl)) h3 rO Lk) trodAll_mk0)))),rfl,rO.frame _,fun h=>by cases h⟩
theorem vN:Rows.flowNoneRow.holds Try.pinned (OpenSpec.ofChange Rows.flowNoneSpec):=
 OpenClaim.holds_of_wide 5 Try.f5 rfl rfl rfl rfl rfl rfl rfl ⟨rfl,rfl,rfl,rfl,rfl⟩ rfl rfl rfl rfl rfl (by kernel_rfl) Try.func5 (by kernel_rfl)
  (of_decide_eq_true (by kernel_rfl)) (by unfold Func.isWrapper;first | (rw [if_pos (by decide +kernel)];kernel_rfl) | (rw [if_neg (by decide +kernel)];exact ⟨rfl,rfl⟩))
  (fun os started H enc _=>lifted os started H enc)
theorem flowNone_holds:Rows.FlowNoneSaid:=vN
#print axioms flowNone_holds
end Go.Proofs.Yteodikaaioghlaa.flowNone
