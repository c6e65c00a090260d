/- PlaceAlone: whatever the input, the statement's function gives true, and the input reads as it did. -/
import Derived.Test.YtnaoehbodmiekaaGreatPlaceAlone5
import Derived.Test.YtnaoehbodmiekaaGreatRows
import Derived.WalkKit
import Derived.ProofKit
import Derived.OpenShut
import Derived.ShutString
import Derived.ChangeOld
import Derived.Below
namespace Go.Proofs.YtnaoehbodmiekaaGreat.placeAlone
open Go.ChangeShapes Go.WideShapes Go.ChangeAt Go.RowKit Go.aJ
open Go.ChangeMaps (open_string shut_string)
theorem own:ownKnob Tryz.prog.godebug=none:=by kernel_rfl
theorem laidOut:laidOutB Tryz.prog=true:=by kernel_rfl
set_option maxRecDepth 100000 in
theorem lifted (os:Os) (started:os.Started) (H:Type) (enc:TypeId×Value→H) :
 ReturnsInHanded {} Tryz.checked os 5 .any (Rows.placeAloneSpec.pre6 enc Tryz.prog Tryz.f5 Rows.placeAloneRow.domain false) (Rows.placeAloneSpec.post enc Tryz.prog Tryz.f5 false true false false):=by
 refine returnsInHanded_of_change (C:=Tryz.checked) own started (by kernel_rfl) Tryz.func5
  (ChangeSpec.witness6 (enc:=enc) (C:=Tryz.checked) false ⟨#[],#[.slice .none 0 0,.int .i64 0,.int .i64 0,.agg #[.bool false,.int .i64 0],.bool false],[]⟩ 8 (by kernel_rfl) (by kernel_rfl) (by kernel_rfl) (by kernel_rfl)) ?_
 intro W base args ds gs before Gg hW WY _
 have hval:∀ (j:Nat) t v,Tryz.f5.params[j]?=some t→args[j]?=some v→Value.okWide Tryz.prog W .any base t v:=Gg
 have NM:=hW
 obtain ⟨p,q,Fu,hV,rfl,hfz,zj⟩:=hW
 have hA:DataW.TrodAll enc Tryz.prog W 0 (fun _=>true) true Tryz.f5.params.toList args.toList ds p:=Fu
 rw [Tryz.params5] at hA hval
 obtain ⟨v0,Xs,d0,WI,p0,q0,hargs,rfl,rfl,h0,r0⟩:=trodAll_cons hA
 obtain ⟨v1,Xt,d1,WJ,p1,q1,rfl,rfl,rfl,h1,r1⟩:=trodAll_cons r0
 obtain ⟨v2,Xu,d2,WK,p2,q2,rfl,rfl,rfl,h2,r2⟩:=trodAll_cons r1
 obtain ⟨v3,Xv,d3,WM,p3,q3,rfl,rfl,rfl,h3,r3⟩:=trodAll_cons r2
 obtain ⟨v4,Xw,d4,WN,p4,q4,rfl,rfl,rfl,h4,r4⟩:=trodAll_cons r3
 obtain ⟨rfl,rfl,rfl⟩:=trodAll_nil r4
 obtain rfl:args = #[v0,v1,v2,v3,v4]:=by cases args;simp_all
 obtain ⟨rfl,rfl⟩:=trodVars_none hV
 obtain ⟨s0,t0,o0⟩:=xe (n:=6) (t:=22) (by kernel_rfl) (hval 0 22 v0 rfl rfl) h0
 obtain ⟨s1,t1,o1⟩:=xe (n:=1) (t:=3) (by kernel_rfl) (hval 1 3 v1 rfl rfl) h1
 obtain ⟨s2,t2,o2⟩:=xe (n:=1) (t:=2) (by kernel_rfl) (hval 2 2 v2 rfl rfl) h2
 obtain ⟨s3,t3,o3⟩:=xe (n:=2) (t:=24) (by kernel_rfl) (hval 3 24 v3 rfl rfl) h3
 obtain ⟨s4,t4,o4⟩:=xe (n:=1) (t:=4) (by kernel_rfl) (hval 4 4 v4 rfl rfl) h4
 obtain ⟨e0,g0⟩:=Tn t0
 obtain ⟨e1,g1⟩:=Tl t1
 obtain ⟨e2,g2⟩:=Tm t2
 obtain ⟨e3,g3⟩:=To t3
 obtain ⟨e4,g4⟩:=Tk t4
 rw [g0] at o0
 rw [g1] at o1
 rw [g2] at o2
 rw [g3] at o3
 rw [g4] at o4
 have SI:∀ x∈p0,x.block<W.heap.size:=by obtain ⟨m,hm⟩:=h0;exact DataW.trod_lt m _ _ _ hm
 have SJ:∀ x∈p1,x.block<W.heap.size:=by obtain ⟨m,hm⟩:=h1;exact DataW.trod_lt m _ _ _ hm
 have SK:∀ x∈p2,x.block<W.heap.size:=by obtain ⟨m,hm⟩:=h2;exact DataW.trod_lt m _ _ _ hm
 have SL:∀ x∈p3,x.block<W.heap.size:=by obtain ⟨m,hm⟩:=h3;exact DataW.trod_lt m _ _ _ hm
 have SM:∀ x∈p4,x.block<W.heap.size:=by obtain ⟨m,hm⟩:=h4;exact DataW.trod_lt m _ _ _ hm
 clear Fu Gg
 refine (Sm (UN e0 e1 e2 e3 e4) (vs:=[v0,v1,v2,v3,v4]) rfl (fun j s hj=>by
  match j with
  | 0=>cases hj;exact o0
  | 1=>cases hj;exact o1
  | 2=>cases hj;exact o2
  | 3=>cases hj;exact o3
  | 4=>cases hj;exact o4
  | j+5=>simp at hj)).mono fun e W' ⟨he,tO⟩=>?_
 subst he
 exact ⟨_,rfl,_,_,_,[],_,[],NM,trodAll_mk1 (shut_bool Tryz.underlying4 _),(trodAll_cons_mk (Below.trod laidOut (by kernel_rfl) (of_decide_eq_true (by kernel_rfl)) h0 tO SI) (trodAll_cons_mk (Below.trod laidOut (by kernel_rfl) (of_decide_eq_true (by kernel_rfl)) h1 tO SJ) (trodAll_cons_mk (Below.trod laidOut (by kernel_rfl) (of_decide_eq_true (by kernel_rfl)) h2 tO SK) (trodAll_cons_mk (Below.trod laidOut (by kernel_rfl) (of_decide_eq_true (by kernel_rfl)) h3 tO SL) (trodAll_cons_mk (Below.trod laidOut (by kernel_rfl) (of_decide_eq_true (by kernel_rfl)) h4 tO SM) trodAll_mk0))))),rfl,tO.frame _,fun h=>by cases h⟩
theorem zQ:Rows.placeAloneRow.holds Tryz.pinned (OpenSpec.ofChange Rows.placeAloneSpec):=
 OpenClaim.holds_of_wide 5 Tryz.f5 rfl rfl rfl rfl rfl rfl rfl ⟨rfl,rfl,rfl,rfl,rfl⟩ rfl rfl rfl rfl rfl (by kernel_rfl) Tryz.func5 (by kernel_rfl)
  (of_decide_eq_true (by kernel_rfl)) (by unfold Func.isWrapper;first | (rw [if_pos (by decide +kernel)];kernel_rfl) | (rw [if_neg (by decide +kernel)];exact ⟨rfl,rfl⟩))
  (fun os started H enc _=>lifted os started H enc)
theorem placeAlone_holds:Rows.PlaceAloneSaid:=zQ
#print axioms placeAlone_holds
end Go.Proofs.YtnaoehbodmiekaaGreat.placeAlone
