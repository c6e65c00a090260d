/- PlaceAsked: whatever the input, the statement's function gives true, and the input reads as it did. -/
import Derived.Test.YtnaoehbodmiekaaPlaceAsked4
import Derived.Test.YtnaoehbodmiekaaRows
import Derived.WalkKit
import Derived.ProofKit
import Derived.OpenShut
import Derived.ShutString
import Derived.ChangeOld
import Derived.Below
namespace Go.Proofs.Ytnaoehbodmiekaa.placeAsked
open Go.ChangeShapes Go.WideShapes Go.ChangeAt Go.RowKit Go.aG
open Go.ChangeMaps (open_string shut_string)
theorem own:ownKnob Try.prog.godebug=none:=by kernel_rfl
theorem laidOut:laidOutB Try.prog=true:=by kernel_rfl
set_option maxRecDepth 100000 in
theorem lifted (os:Os) (started:os.Started) (H:Type) (enc:TypeId×Value→H) :
 ReturnsInHanded {} Try.checked os 6 .any (Rows.placeAskedSpec.pre6 enc Try.prog Try.f6 Rows.placeAskedRow.domain false) (Rows.placeAskedSpec.post enc Try.prog Try.f6 false true false false):=by
 refine returnsInHanded_of_change (C:=Try.checked) own started (by kernel_rfl) Try.func6
  (ChangeSpec.witness6 (enc:=enc) (C:=Try.checked) false ⟨#[],#[.agg #[.bool false,.int .i64 0,.int .i64 0,.int .i64 0,.int .i64 0,.int .i64 0,.int .i64 0,.int .i64 0,.int .i64 0,.int .i64 0,.int .i64 0,.int .i64 0,.int .i64 0,.int .i64 0,.int .i64 0,.int .i64 0,.int .i64 0,.int .i64 0,.int .i64 0,.int .i64 0,.int .i64 0,.int .i64 0,.int .i64 0,.int .i64 0,.int .i64 0,.int .i64 0,.int .i64 0,.int .i64 0,.int .i64 0,.int .i64 0,.int .i64 0,.int .i64 0,.int .i64 0,.int .i64 0,.int .i64 0,.int .i64 0,.int .i64 0,.int .i64 0,.int .i64 0,.int .i64 0,.int .i64 0,.int .i64 0,.bool false,.bool false,.int .i64 0,.bool false,.int .i64 0,.int .i64 0]],[]⟩ 8 (by kernel_rfl) (by kernel_rfl) (by kernel_rfl) (by kernel_rfl)) ?_
 intro W base args ds gs before BL hW PB _
 have hval:∀ (j:Nat) t v,Try.f6.params[j]?=some t→args[j]?=some v→Value.okWide Try.prog W .any base t v:=BL
 have HE:=hW
 obtain ⟨p,q,AY,hV,rfl,hfz,vg⟩:=hW
 have hA:DataW.TrodAll enc Try.prog W 0 (fun _=>true) true Try.f6.params.toList args.toList ds p:=AY
 rw [Try.params6] at hA hval
 obtain ⟨v0,PZ,d0,Pr,p0,q0,hargs,rfl,rfl,h0,r0⟩:=trodAll_cons hA
 obtain ⟨rfl,rfl,rfl⟩:=trodAll_nil r0
 obtain rfl:args = #[v0]:=by cases args;simp_all
 obtain ⟨rfl,rfl⟩:=trodVars_none hV
 obtain ⟨s0,t0,o0⟩:=Mj (n:=4) (t:=39) (by kernel_rfl) (hval 0 39 v0 rfl rfl) h0
 obtain ⟨e0,g0⟩:=Mh t0
 rw [g0] at o0
 have LF:∀ x∈p0,x.block<W.heap.size:=by obtain ⟨m,hm⟩:=h0;exact DataW.trod_lt m _ _ _ hm
 clear AY BL
 refine (Li (NQ e0) (vs:=[v0]) rfl (fun j s hj=>by
  match j with
  | 0=>cases hj;exact o0
  | j+1=>simp at hj)).mono fun e W' ⟨he,zT⟩=>?_
 subst he
 exact ⟨_,rfl,_,_,_,[],_,[],HE,trodAll_mk1 (shut_bool Try.underlying4 _),(trodAll_cons_mk (Below.trod laidOut (by kernel_rfl) (of_decide_eq_true (by kernel_rfl)) h0 zT LF) trodAll_mk0),rfl,zT.frame _,fun h=>by cases h⟩
theorem vH:Rows.placeAskedRow.holds Try.pinned (OpenSpec.ofChange Rows.placeAskedSpec):=
 OpenClaim.holds_of_wide 6 Try.f6 rfl rfl rfl rfl rfl rfl rfl ⟨rfl,rfl,rfl,rfl,rfl⟩ rfl rfl rfl rfl rfl (by kernel_rfl) Try.func6 (by kernel_rfl)
  (of_decide_eq_true (by kernel_rfl)) (by unfold Func.isWrapper;first | (rw [if_pos (by decide +kernel)];kernel_rfl) | (rw [if_neg (by decide +kernel)];exact ⟨rfl,rfl⟩))
  (fun os started H enc _=>lifted os started H enc)
theorem placeAsked_holds:Rows.PlaceAskedSaid:=vH
#print axioms placeAsked_holds
end Go.Proofs.Ytnaoehbodmiekaa.placeAsked
