/- Part 4 of the proof: F9, F10, F11, F12, K9R, K13, F13, K14, K15, F16. -/
import Derived.Test.YteodikaaioghlaaFlowNone3
set_option linter.unusedSimpArgs false
set_option linter.unusedVariables false
set_option maxRecDepth 100000
set_option maxHeartbeats 16000000
namespace Go.aH
open Go
def ez (l:List Nd) (n:Int) (w:Int) (h:Sz):Ed:=uL (cF l n) w h (decide (n=0) || (cF l n).clip)
def okB (l:List Nd) (n:Int) (w:Int) (h:Sz):Bool:=uK (cF l n) w h && dL (ng (ez l n w h)) && ef (cF l n).width w true && ef (cF l n).eU w true && ef (cF l n).eT w true
def rG (l:List Nd) (n:Int) (w:Int) (h:Sz) (bZ:Bool):Ai:=⟨w,(ez l n w h).bE.d,dD (cF l n).width w true,(ez l n w h).bE.b,dM (ng (ez l n w h)),bZ,bh (dD (cF l n).eU w true) 0,bh (dD (cF l n).eT w true) 1125899906842624⟩
def rP (l:List Nd) (ins:Ed→Ao→Option La×Bool) (n:Int) (w:Int) (h:Sz) (bZ:Bool):Option (Fm×La):=
 if okB l n w h=true then (oZ (rG l n w h bZ)).bind fun x=>qD (ez l n w h) x (cH l n).length (ins (ez l n w h) x) else none
theorem CA {x:Ln} {b d:Int} {has:Bool} (h:ef x b has=true) (hd:bS d=true):bS (bh (dD x b has) d)=true:=by
 unfold dD
 split
 ·simpa [bh] using hd
 ·split
  ·rename_i h1;simpa [bh] using h1.2
  ·split
   ·rename_i h1 h2 h3
    simp [h3] at h1
    simp [ef,h3,h1] at h
    simp -implicitDefEqProofs only [bh,Bool.false_eq_true,if_false,tw,h,if_true]
    unfold oC at h;simp at h;exact h.2
   ·rfl
theorem Ns (l:List Nd) (hb:l.length≤8589934592) (n:Int) (w:Int) (h:Sz) (bZ:Bool) (ins:Ed→Ao→Option La×Bool) (hr:∀ e x,(ins e x).2=true→(ins e x).1.isSome=true)
 (hI:∀ x:Ao,aJ Go.Proofs.Try.prog 28 [.rv (cg l),.rv (.int .i64 n),.rv (.int .i64 x.w),(oh (ez l n w h)).sv,(ez l n w h).sv,.rv (.int .i64 (-1))] [] [] (.aM [.agg ((cE (ins (ez l n w h) x).1).map .rv),.rv (.bool (ins (ez l n w h) x).2)])) :
 aJ Go.Proofs.Try.prog 26 [.rv (cg l),.rv (.int .i64 n),.rv (.int .i64 w),h.sv,.rv (.bool bZ)] [] [] (jK (rP l ins n w h bZ)):=by
 refine bz JR [.rv (cg l),.rv (.int .i64 n),.rv (.int .i64 w),h.sv,.rv (.bool bZ)] _ (by simp) (by simp [aN,aW,bn,aT,bf,aj.sv,Ln.sv,Nd.sv]) (fun K hK=>?_)
 have hst:=Dq l n
 have h0:((n == 0):Bool)=decide (n=0):=by rw [Bool.eq_iff_iff];simp
 have he:=Nu (cF l n) w h (decide (n=0) || (cF l n).clip)
 have ha:=Nq (ez l n w h)
 have h1:=oN (cF l n).width w true
 have h2:=Dx (cF l n).eU w true
 have h3:=Dy (cF l n).eT w true
 have od:=fun x=>Nv l hb n (ez l n w h) x (ins (ez l n w h) x) (hr _ _) (hI x)
 have hac:=fun a b=>No (rG l n w h bZ) a b
 have f1:=fun hq=>CA (x:=(cF l n).eU) (b:=w) (has:=true) hq (d:=0) rfl
 have f2:=fun hq=>CA (x:=(cF l n).eT) (b:=w) (has:=true) hq (d:=1125899906842624) rfl
 clear hI
 rw [show uL (cF l n) w h (decide (n=0) || (cF l n).clip)=ez l n w h from rfl] at he
 unfold rG at hac
 unfold rP rG okB at hK
 generalize hee:ez l n w h=e at *
 generalize dD (cF l n).width w true=W at *
 generalize bh (dD (cF l n).eU w true) 0=L at *
 generalize bh (dD (cF l n).eT w true) 1125899906842624=X at *
 generalize cF l n=s at *
 have q1:(s.cells.map U.rv).length=48:=rfl
 generalize hA:dM (ng e)=A at *
 generalize OO:dL (ng e)=Ei at *
 generalize uK s w h=b1 at *
 generalize ef s.width w true=b2 at *
 generalize ef s.eU w true=b3 at *
 generalize ef s.eT w true=b4 at *
 simp -implicitDefEqProofs only [Ed.sv,Ed.cells,Q4.fo,Q4.ints,Sz.sv,Sz.cells,Ai.sv,Ai.cells,List.map_cons,List.map_nil,List.cons_append,List.nil_append] at he ha h1 h2 h3 od hac
 conv in fc _ _ _ _=>reduce
 simp -implicitDefEqProofs only [Sz.sv,Sz.cells,go_sem,Int.reduceNegSucc]
 cases hall:(b1 && Ei && b2 && b3 && b4) with
 | true=>
   simp -implicitDefEqProofs only [Bool.and_eq_true] at hall
   obtain ⟨⟨⟨⟨rfl,rfl⟩,rfl⟩,rfl⟩,rfl⟩:=hall
   have hx:=hac (f1 rfl) (f2 rfl)
   simp -implicitDefEqProofs only [Bool.and_self,if_true] at hK
   generalize oZ ⟨w,e.bE.d,W,e.bE.b,A,bZ,L,X⟩=o at *
   cases o with
   | none=>
     simp -implicitDefEqProofs only [oA,Option.isSome,Ao.cells,List.map_cons,List.map_nil,Option.bind] at hx hK
     cases hn0:decide (n=0) <;> rw [hn0] at he h0 <;> simp -implicitDefEqProofs only [Bool.true_or,Bool.false_or] at he
     all_goals ((have bq:=hst;have y_2:=he;have bP:=ha;have bV:=h1;have cq:=h2;have bW:=h3;have cr:=hx;repeat' (first | (simp -implicitDefEqProofs only [go_sem,Int.reduceNegSucc,q1,gj,iH,gk,iI,gC,iT,gN,je,gY,jr,ig,jA,ij,jB,iq,jC,ir,jD,iu,jE,gl,iJ,gn,iK,gp,iL,gq,iM,gu,iN,gw,iO,gx,iP,gz,iQ,gA,iR,gB,iS,gD,iU,gE,iV,gF,iW,gG,iX,gH,iY,gI,iZ,gJ,ja,gK,jb,gL,jc,gM,jd,gO,jf,gP,jg,gQ,jh,gR,ji,gS,jk,gT,jl,gU,jm,gV,jn,gW,jo,gX,jq,gZ,js,hD,jt,fT,ju,hJ,jv,hU,jw,ia,jx,ic,jy,ie,jz,iC,iw,iy,iz,iA,iB,iD,iE,iF,iG,gi,fS,an,h0]) | (with_reducible refine az ?_) | (with_reducible first | refine aC bq ?_ | refine aD bq ?_) | (with_reducible first | refine aC y_2 ?_ | refine aD y_2 ?_) | (with_reducible first | refine aC bP ?_ | refine aD bP ?_) | (with_reducible first | refine aC bV ?_ | refine aD bV ?_) | (with_reducible first | refine aC cq ?_ | refine aD cq ?_) | (with_reducible first | refine aC bW ?_ | refine aD bW ?_) | (with_reducible first | refine aC cr ?_ | refine aD cr ?_) | ((first | refine ai (fun hg=>?_) (fun hg=>?_) | refine aA (fun hg=>?_) (fun hg=>?_) | refine aB (fun hg=>?_) (fun hg=>?_)) <;> try simp -implicitDefEqProofs only [hg,Bool.not_true,Bool.not_false]) | ((with_reducible apply And.intro);focus (first | trivial | omega | decide | (simp -implicitDefEqProofs only [maxLen];omega) | (simp [maxLen,an,aq,au,ay,ak,ax,av] <;> omega))) | fail)))
     all_goals (refine (hK _ _ ?_).2;clear hK;simp -implicitDefEqProofs only [go_sem,Int.reduceNegSucc,br,bB,bJ,bN,aU,aQ,aP,dG,cE,Option.map,Option.isSome] <;>(try simp_all [-Int.not_lt,-Int.not_le,aU,aQ,aP,bY,dG,cE,Option.map,Option.isSome]) <;> try omega)
   | some x=>
     have hfl:=od x
     simp -implicitDefEqProofs only [oA,Option.isSome,Ao.cells,List.map_cons,List.map_nil,Option.bind] at hx hK hfl
     generalize qD e x (cH l n).length (ins e x)=r at *
     obtain ⟨u,hu,fQ⟩:∃ u,dG (r.map (·.1))=u∧u.length=25:=⟨_,rfl,by cases r <;> rfl⟩
     obtain ⟨v,hv,hvl⟩:∃ v,cE (r.map (·.2))=v∧v.length=9:=⟨_,rfl,by cases r <;> rfl⟩
     simp -implicitDefEqProofs only [jK] at hfl hK
     rw [hu,hv] at hfl hK
     have u1:(u.map U.rv).drop 25=[]:=List.drop_of_length_le (by simp [fQ])
     have u2:(u.map U.rv).take 25=u.map U.rv:=List.take_of_length_le (by simp [fQ])
     have v1:(v.map U.rv).drop 9=[]:=List.drop_of_length_le (by simp [hvl])
     have v2:(v.map U.rv).take 9=v.map U.rv:=List.take_of_length_le (by simp [hvl])
     cases hn0:decide (n=0) <;> rw [hn0] at he h0 <;> simp -implicitDefEqProofs only [Bool.true_or,Bool.false_or] at he
     all_goals ((have cA:=hst;have cT:=he;have de:=ha;have eL:=h1;have jY:=h2;have jZ:=h3;have ke:=hx;have mh:=hfl;repeat' (first | (simp -implicitDefEqProofs only [go_sem,Int.reduceNegSucc,q1,gj,iH,gk,iI,gC,iT,gN,je,gY,jr,ig,jA,ij,jB,iq,jC,ir,jD,iu,jE,gl,iJ,gn,iK,gp,iL,gq,iM,gu,iN,gw,iO,gx,iP,gz,iQ,gA,iR,gB,iS,gD,iU,gE,iV,gF,iW,gG,iX,gH,iY,gI,iZ,gJ,ja,gK,jb,gL,jc,gM,jd,gO,jf,gP,jg,gQ,jh,gR,ji,gS,jk,gT,jl,gU,jm,gV,jn,gW,jo,gX,jq,gZ,js,hD,jt,fT,ju,hJ,jv,hU,jw,ia,jx,ic,jy,ie,jz,iC,iw,iy,iz,iA,iB,iD,iE,iF,iG,gi,fS,an,h0,fQ,hvl,u1,u2,v1,v2,List.length_map,List.append_nil]) | (with_reducible refine az ?_) | (with_reducible first | refine aC cA ?_ | refine aD cA ?_) | (with_reducible first | refine aC cT ?_ | refine aD cT ?_) | (with_reducible first | refine aC de ?_ | refine aD de ?_) | (with_reducible first | refine aC eL ?_ | refine aD eL ?_) | (with_reducible first | refine aC jY ?_ | refine aD jY ?_) | (with_reducible first | refine aC jZ ?_ | refine aD jZ ?_) | (with_reducible first | refine aC ke ?_ | refine aD ke ?_) | (with_reducible first | refine aC mh ?_ | refine aD mh ?_) | ((first | refine ai (fun hg=>?_) (fun hg=>?_) | refine aA (fun hg=>?_) (fun hg=>?_) | refine aB (fun hg=>?_) (fun hg=>?_)) <;> try simp -implicitDefEqProofs only [hg,Bool.not_true,Bool.not_false]) | ((with_reducible apply And.intro);focus (first | trivial | omega | decide | (simp -implicitDefEqProofs only [maxLen];omega) | (simp [maxLen,an,aq,au,ay,ak,ax,av] <;> omega))) | fail)))
     all_goals (refine (hK _ _ ?_).2;simp -implicitDefEqProofs only [go_sem,Int.reduceNegSucc,br,bB,bJ,bN,aU,aQ,aP,cL,fQ,hvl,u2,v2,List.length_map,List.drop_zero])
 | false=>
   simp -implicitDefEqProofs only [hall,Bool.false_eq_true,if_false] at hK
   cases hn0:decide (n=0) <;> rw [hn0] at he h0 <;> simp -implicitDefEqProofs only [Bool.true_or,Bool.false_or] at he
   all_goals ((have mj:=hst;have mm:=he;have mo:=ha;have oQ:=h1;have oR:=h2;have oS:=h3;repeat' (first | (simp -implicitDefEqProofs only [go_sem,Int.reduceNegSucc,q1,gj,iH,gk,iI,gC,iT,gN,je,gY,jr,ig,jA,ij,jB,iq,jC,ir,jD,iu,jE,gl,iJ,gn,iK,gp,iL,gq,iM,gu,iN,gw,iO,gx,iP,gz,iQ,gA,iR,gB,iS,gD,iU,gE,iV,gF,iW,gG,iX,gH,iY,gI,iZ,gJ,ja,gK,jb,gL,jc,gM,jd,gO,jf,gP,jg,gQ,jh,gR,ji,gS,jk,gT,jl,gU,jm,gV,jn,gW,jo,gX,jq,gZ,js,hD,jt,fT,ju,hJ,jv,hU,jw,ia,jx,ic,jy,ie,jz,iC,iw,iy,iz,iA,iB,iD,iE,iF,iG,gi,fS,an,h0]) | (with_reducible refine az ?_) | (with_reducible first | refine aC mj ?_ | refine aD mj ?_) | (with_reducible first | refine aC mm ?_ | refine aD mm ?_) | (with_reducible first | refine aC mo ?_ | refine aD mo ?_) | (with_reducible first | refine aC oQ ?_ | refine aD oQ ?_) | (with_reducible first | refine aC oR ?_ | refine aD oR ?_) | (with_reducible first | refine aC oS ?_ | refine aD oS ?_) | ((first | refine ai (fun hg=>?_) (fun hg=>?_) | refine aA (fun hg=>?_) (fun hg=>?_) | refine aB (fun hg=>?_) (fun hg=>?_)) <;> try simp -implicitDefEqProofs only [hg,Bool.not_true,Bool.not_false]) | ((with_reducible apply And.intro);focus (first | trivial | omega | decide | (simp -implicitDefEqProofs only [maxLen];omega) | (simp [maxLen,an,aq,au,ay,ak,ax,av] <;> omega))) | fail)))
   all_goals first | (exfalso;simp_all;done) | skip
   all_goals (refine (hK _ _ ?_).2;clear hK;simp -implicitDefEqProofs only [go_sem,Int.reduceNegSucc,br,bB,bJ,bN,aU,aQ,aP,dG,cE,Option.map,Option.isSome] <;>(try simp_all [-Int.not_lt,-Int.not_le,aU,aQ,aP,bY,dG,cE,Option.map,Option.isSome]) <;> try omega)
end Go.aH

namespace Go.aH
open Go
theorem JW:aV Go.Proofs.Try.prog 28 160 (fc Go.Proofs.Try.prog 28 160 [(.c 12 9 true),(.t 13)]) [(.c 12 9 true),(.t 13)]:=bl (by kernel_rfl)
def mD (r:Nat×Fm×La):List (Nat×Fm):=(r.1,r.2.1)::r.2.2.L
def ck (rs:List (Nat×Fm×La)):List (Nat×Fm):=rs.flatMap mD
def ga (rs:List (Nat×Fm×La)):List Int:=(List.range rs.length).map fun i=>((ck (rs.take i)).length:Int)
def fh (rs:List (Nat×Fm×La)):List Ch:=rs.map fun r=>r.2.1.child
def eV:List (Nat×Fm×La)→List Int→List (Nat×Fm)
 | [],_=>[]
 | r::rs,[]=>mD r++eV rs []
 | r::rs,y::ys=>(r.1,{ r.2.1 with y:=y })::(r.2.2.L++eV rs ys)
def mV (bx:Nat→Option (Fm×La)):List Nat→Option (List (Nat×Fm×La))
 | []=>some []
 | m::ms=>match bx m with
   | some q=>(mV bx ms).map ((m,q) :: ·)
   | none=>none
def qN (rs:List (Nat×Fm×La)) (q:Pl×List Int) (ob:Bool):La:=
 ⟨eV rs q.2,q.1,q.2,if q.1.nh=true then 0 else (let a:=if ob=true then q.1.lA else IntKind.i64.wrap (q.1.lA+nJ q.1.cur);if 0>a then 0 else a)⟩
def mS (bx:Nat→Option (Fm×La)) (kids:List Nat) (ok ot ob:Bool):Option La×Bool:=
 if ok=true then match mV bx kids with
  | some rs=>match mg (fh rs) ot with
    | some q=>if rC q.1.cur=true then (some (qN rs q ob),bS (qN rs q ob).high) else (none,false)
    | none=>(none,false)
  | none=>(none,false)
 else (none,false)
theorem IK {bx:Nat→Option (Fm×La)} {kids:List Nat} {ok ot ob:Bool} (h:(mS bx kids ok ot ob).2=true):(mS bx kids ok ot ob).1.isSome=true:=by
 revert h
 unfold mS
 repeat' split
 all_goals simp
theorem Ej {rs:List (Nat×Fm×La)} {r:Nat×Fm×La}:ck (rs++[r])=ck rs++mD r:=by simp [ck]
theorem qh (a:List (Nat×Fm)):(dX a).length=a.length:=by simp [dX]
theorem yM {rs:List (Nat×Fm×La)}:(ga rs).length=rs.length:=by simp [ga]
theorem LG {rs:List (Nat×Fm×La)} {r:Nat×Fm×La}:ga (rs++[r])=ga rs++[((ck rs).length:Int)]:=by
 simp -implicitDefEqProofs only [ga,List.length_append,List.length_cons,List.length_nil,Nat.zero_add,List.range_succ,List.map_append,List.map_cons,List.map_nil]
 congr 1
 ·refine List.map_congr_left (fun i hi=>?_)
  rw [List.take_append_of_le_length (by simp at hi;omega)]
 ·simp
theorem LF {rs:List (Nat×Fm×La)} {i:Nat} (h:i<rs.length):(aL (ga rs))[i]?.getD []=[.int .i64 ((ck (rs.take i)).length:Int)]:=by simp [aL,ga,h]
theorem yV:∀ (rs:List (Nat×Fm×La)),eV rs []=ck rs
 | []=>rfl
 | r::rs=>by rw [eV,yV rs];simp [ck]
theorem tB:∀ (rs:List (Nat×Fm×La)) (ys:List Int),(eV rs ys).length=(ck rs).length
 | [],_=>rfl
 | r::rs,[]=>by rw [yV]
 | r::rs,y::ys=>by rw [eV];simp [ck,mD,tB rs ys]
theorem vV:∀ (rs:List (Nat×Fm×La)) (ys:List Int) (i:Nat) (h:i<rs.length) (h2:i<ys.length),(eV rs (ys.take i))[(ck (rs.take i)).length]?=some ((rs[i]'h).1,(rs[i]'h).2.1)∧
 (eV rs (ys.take i)).set (ck (rs.take i)).length ((rs[i]'h).1,{ (rs[i]'h).2.1 with y:=ys[i]'h2 })=eV rs (ys.take (i+1))
 | [],_,i,h,_=>by simp at h
 | r::rs,[],i,_,h=>by simp at h
 | r::rs,y::ys,0,_,_=>by
   refine ⟨by simp [eV,ck,mD],?_⟩
   simp -implicitDefEqProofs only [List.take_zero,eV,ck,List.flatMap_nil,List.length_nil,mD,List.cons_append,List.set_cons_zero,List.getElem_cons_zero,Nat.zero_add,List.take_succ_cons]
 | r::rs,y::ys,i+1,h,h2=>by
   have ih:=vV rs ys i (by simpa using h) (by simpa using h2)
   have e:(ck ((r::rs).take (i+1))).length=(r.2.2.L.length+(ck (rs.take i)).length)+1:=by simp [ck,mD]
   rw [e]
   simp -implicitDefEqProofs only [List.take_succ_cons,eV,List.getElem?_cons_succ,List.set_cons_succ,List.getElem_cons_succ]
   refine ⟨?_,?_⟩
   ·rw [List.getElem?_append_right (by omega),Nat.add_sub_cancel_left];exact ih.1
   ·rw [List.set_append_right _ _ (by omega),Nat.add_sub_cancel_left,ih.2]
theorem Md {rs:List (Nat×Fm×La)} {ys:List Int} {i:Nat} (h:i<rs.length) (h2:i<ys.length):(aI (dX (eV rs (ys.take i))))[(ck (rs.take i)).length]?.getD []=(oD ((rs[i]'h).1,(rs[i]'h).2.1)).map U.rv:=by
 have:=(vV rs ys i h h2).1
 simp [aI,dX,this]
theorem Me {rs:List (Nat×Fm×La)} {ys:List Int} {i:Nat} (h:i<rs.length) (h2:i<ys.length):(aI (dX (eV rs (ys.take i)))).set (ck (rs.take i)).length ((oD ((rs[i]'h).1,{ (rs[i]'h).2.1 with y:=ys[i]'h2 })).map U.rv)=aI (dX (eV rs (ys.take (i+1)))):=by
 rw [← (vV rs ys i h h2).2]
 simp [aI,dX,List.map_set]
theorem NY (q:Nat×Fm) (y:Int):splice ((oD q).map U.rv) 2 [.rv (.int .i64 y)]=(oD (q.1,{ q.2 with y:=y })).map U.rv:=rfl
theorem Mb (q:Nat×Fm):(oD q).length=26:=rfl
theorem Gc (f:Fm):f.cells.length=25:=rfl
theorem Mc (L:List (Nat×Fm)):∀ x∈dX L,∀ r∈x,r.one=true:=by
 intro x hx r hr
 obtain ⟨q,_,rfl⟩:=List.mem_map.1 hx
 simp -implicitDefEqProofs only [oD,Fm.cells,Q4.ints,Ch.cells,List.cons_append,List.nil_append,List.mem_cons,List.not_mem_nil,or_false] at hr
 rcases hr with h | h | h | h | h | h | h | h | h | h | h | h | h | h | h | h | h | h | h | h | h | h | h | h | h | h <;> rw [h] <;> rfl
theorem Fo {rs:List (Nat×Fm×La)} {r:Nat×Fm×La}:fh (rs++[r])=fh rs++[r.2.1.child]:=by simp [fh]
theorem DI:∀ {l:List Ch} {p:Pl} {ys:List Int} {q:Pl×List Int},ql l p ys=some q→q.2.length=ys.length+l.length
 | [],p,ys,q,h=>by cases h;rfl
 | c::l,p,ys,q,h=>by
   rw [ql] at h
   split at h
   ·have:=DI h;simp at this ⊢;omega
   ·cases h
end Go.aH

namespace Go.aH
open Go
theorem FM (l:List Nd) (n:Int):(cH l n).length≤l.length:=by
 have h1:=List.length_filter_le (fun (m:Nat)=>kX l m) (eH l n)
 have h2:=BY l n
 unfold cH;omega
theorem xk (e:Ed):(e.cells.map U.rv)[26]?=some (.rv (.bool e.qg)):=rfl
theorem Fy (e:Ed):(e.cells.map U.rv)[27]?=some (.rv (.bool e.oz)):=rfl
theorem qy (e:Ed):e.cells.length=28:=rfl
theorem Gd (f:Fm):(f.cells.map U.rv).take 25=f.cells.map U.rv:=rfl
theorem Ge (f:Fm):f.cells.take 25=f.cells:=rfl
theorem Gb (f:Fm):(f.cells.map U.rv).drop 25=[]:=rfl
theorem Ga (f:Fm):((f.cells.map U.rv).drop 17).take 8=f.child.cells.map U.rv:=rfl
theorem Fp (c:Ch):c.cells.length=8:=rfl
theorem ED {X:List (Nat×Fm)} {m:Nat} {f:Fm}:aI (dX X)++[U.rv (.int .i64 m)::f.cells.map U.rv]=aI (dX (X++[(m,f)])):=by simp [aI,dX,oD]
theorem EE {X Y:List (Nat×Fm)}:aI (dX X)++aI (dX Y)=aI (dX (X++Y)):=by simp [aI,dX]
theorem EA {X:List Ch} {c:Ch}:aI (ff X)++[c.cells.map U.rv]=aI (ff (X++[c])):=by simp [aI,ff]
theorem Og {X:List (Nat×Fm)}:(dX X).take X.length=dX X:=List.take_of_length_le (by rw [qh];omega)
theorem Oh {X:List (Nat×Fm)} {y:Nat×Fm}:(dX (X++[y])).take (X.length+1)=dX (X++[y]):=List.take_of_length_le (by rw [qh];simp)
def OD:List U:=[.rv .bQ,.rv .bQ,.rv (.int .i64 0),.rv (.int .i64 0),.rv (.int .i64 0),.rv (.int .i64 0),.rv (.int .i64 0),.rv (.bool false),.rv (.int .i64 0)]
def ou (h:Sz) (e:Ed) (k n:Nat) (o:List Int) (c:List Ch) (L:List (Nat×Fm)):List (Option HB):=
 [some (.var (h.cells.map .rv)),some (.var (e.cells.map .rv)),some (.var OD),some (.var [.row 6 (2*k) n,.rv .bQ,.rv (.int .i64 0),.rv (.int .i64 0),.rv (.int .i64 0),.rv (.int .i64 0),.rv (.int .i64 0),.rv (.bool false),.rv (.int .i64 0)]),
  some (.row 1 k (aI (aL o))),some (.row 8 k (aI (ff c))),some (.row 26 (2*k) (aI (dX L)))]
def vr (h:Sz) (e:Ed) (rs:List (Nat×Fm×La)):List (Option HB):=ou h e rs.length (ck rs).length (ga rs) (fh rs) (ck rs)
theorem II (h:Sz) (e:Ed) (k n:Nat) (o:List Int) (c:List Ch) (L:List (Nat×Fm)):kD (mZ 7) (ou h e k n o c L):=
 ⟨pn,pn,pn (rs:=cE none),⟨mE.2 (by decide),pn (rs:=[.bQ,.int .i64 0,.int .i64 0,.int .i64 0,.int .i64 0,.int .i64 0,.bool false,.int .i64 0])⟩,fW,fW,fW,trivial⟩
theorem NA (l:List Nd) (hb:l.length≤1000) (n:Int) (w:Int) (h:Sz) (e:Ed) (bx:Nat→Option (Fm×La)) (hlen:∀ m∈cH l n,∀ q,bx m=some q→q.2.L.length≤1000)
 (hB:∀ m∈cH l n,aJ Go.Proofs.Try.prog 26 [.rv (cg l),.rv (.int .i64 m),.rv (.int .i64 w),h.sv,.rv (.bool (cF l n).bZ)] [] [] (jK (bx m))) :
 aJ Go.Proofs.Try.prog 28 [.rv (cg l),.rv (.int .i64 n),.rv (.int .i64 w),h.sv,e.sv,.rv (.int .i64 (-1))] [] [] (.aM [.agg ((cE (mS bx (cH l n) (lW w h) e.qg e.oz).1).map .rv),.rv (.bool (mS bx (cH l n) (lW w h) e.qg e.oz).2)]):=by
 refine bz JW [.rv (cg l),.rv (.int .i64 n),.rv (.int .i64 w),h.sv,e.sv,.rv (.int .i64 (-1))] _ (by simp) (by simp [aN,aW,bn,aT,bf,aj.sv,Ln.sv,Nd.sv]) (fun K hK=>?_)
 have hm:=Du w h
 have hf:=Dp l n (by omega)
 have hfl:=Cw (cH l n)
 have hst:=Dq l n
 have FA:=FM l n
 have g0:decide ((-1:Int)≥0)=false:=rfl
 unfold mS at hK
 cases hmay:lW w h with
 | false=>
   rw [hmay] at hm
   simp -implicitDefEqProofs only [hmay,Bool.false_eq_true,if_false] at hK
   conv in fc _ _ _ _=>reduce
   simp -implicitDefEqProofs only [Sz.sv,Sz.cells,Ed.sv,go_sem,Int.reduceNegSucc] at hm ⊢
   have bq:=hm;repeat' (first | (simp -implicitDefEqProofs only [go_sem,Int.reduceNegSucc,qy]) | (with_reducible refine az ?_) | (with_reducible first | refine aC bq ?_ | refine aD bq ?_) | ((first | refine ai (fun hg=>?_) (fun hg=>?_) | refine aA (fun hg=>?_) (fun hg=>?_) | refine aB (fun hg=>?_) (fun hg=>?_)) <;> try simp -implicitDefEqProofs only [hg,Bool.not_true,Bool.not_false]) | ((with_reducible apply And.intro);focus (first | trivial | omega | decide | (simp -implicitDefEqProofs only [maxLen];omega) | (simp [maxLen,an,aq,au,ay,ak,ax,av] <;> omega))) | fail)
   all_goals (refine (hK _ _ ?_).2;clear hK;simp -implicitDefEqProofs only [go_sem,Int.reduceNegSucc,br,bB,bJ,bN,aU,aQ,aP,cE] <;>(try simp_all [-Int.not_lt,-Int.not_le,aU,aQ,aP,bY,cE]) <;> try omega)
 | true=>
   rw [hmay] at hm
   simp -implicitDefEqProofs only [hmay,if_true] at hK
   obtain ⟨ks,hks⟩:∃ ks,ks=cH l n:=⟨_,rfl⟩
   rw [← hks] at hf hfl hB hK FA hlen
   clear hks
   conv in fc _ _ _ _=>reduce
   simp -implicitDefEqProofs only [Sz.sv,Sz.cells,Ed.sv,go_sem,Int.reduceNegSucc] at hm ⊢
   have y_2:=hm;have bP:=hf;repeat' (first | (simp -implicitDefEqProofs only [go_sem,Int.reduceNegSucc,hfl,g0,qy]) | (with_reducible refine az ?_) | (with_reducible first | refine aC y_2 ?_ | refine aD y_2 ?_) | (with_reducible first | refine aC bP ?_ | refine aD bP ?_) | ((first | refine ai (fun hg=>?_) (fun hg=>?_) | refine aA (fun hg=>?_) (fun hg=>?_) | refine aB (fun hg=>?_) (fun hg=>?_)) <;> try simp -implicitDefEqProofs only [hg,Bool.not_true,Bool.not_false]) | ((with_reducible apply And.intro);focus (first | trivial | omega | decide | (simp -implicitDefEqProofs only [maxLen];omega) | (simp [maxLen,an,aq,au,ay,ak,ax,av] <;> omega))) | fail)
   refine cN (ι:=List (Nat×Fm×La)) (fun rs=>[(54,.rv (.int .i64 rs.length)),(53,.rv (.int .i64 ks.length)),(52,.rv (.sl 1 (aL (bt ks)))),(17,.ptr 3 0),(18,.row 4 rs.length rs.length),(19,.row 5 rs.length rs.length),(12,.ptr 2 0),(9,.ptr 0 0),(10,.ptr 1 0),(0,.rv (cg l)),(1,.rv (.int .i64 n)),(2,.rv (.int .i64 w))]) (vr h e)
    (fun rs=>rs.length≤ks.length∧(ck rs).length≤1001*rs.length∧mV bx ks=(mV bx (ks.drop rs.length)).map (rs ++ ·)) (fun rs=>ks.length - rs.length) [] ⟨Nat.zero_le _,by simp [ck],by cases hq:mV bx ks <;> simp [hq]⟩
    ((rY 18 1 0 rfl).trans ((rY 19 8 0 rfl).trans ((As 3 26 0 rfl rfl).trans (bw (by simp [lk,bk]))))) (fun rs Im K' hN hX hR=>?_)
   obtain ⟨Ij,OV,lJ⟩:=Im
   simp -implicitDefEqProofs only [vr,ou,Sz.cells,go_sem,Int.reduceNegSucc]
   refine ai (fun hg=>?_) (fun hg=>?_)
   ·have aE:rs.length<ks.length:=by simp at hg;omega
    have wu:=cu (k:=rs.length) (by omega)
    have hx:(aL (bt ks))[rs.length]?.getD []=[.int .i64 (ks[rs.length]:Nat)]:=by simp [aL,bt,aE]
    have lE:=hB _ (List.getElem_mem aE)
    rw [List.drop_eq_getElem_cons aE,mV] at lJ
    have sE:=hlen _ (List.getElem_mem aE)
    have AK:=fT (cF l n)
    have q1:((cF l n).cells.map U.rv).length=48:=rfl
    generalize ks[rs.length]=m at *
    cases xE:bx m with
    | none=>
      rw [xE] at lE lJ
      simp -implicitDefEqProofs only [Option.map] at lJ
      rw [lJ] at hK
      simp -implicitDefEqProofs only [jK,dG,cE,Option.map,Option.isSome,List.map_cons,List.map_nil,Sz.sv,Sz.cells] at lE
      have bV:=hst;have cq:=lE;repeat' (first | (simp -implicitDefEqProofs only [go_sem,Int.reduceNegSucc,hfl,hx,AK,q1,an]) | (with_reducible refine az ?_) | (with_reducible first | refine aC bV ?_ | refine aD bV ?_) | (with_reducible first | refine aC cq ?_ | refine aD cq ?_) | ((first | refine ai (fun hg=>?_) (fun hg=>?_) | refine aA (fun hg=>?_) (fun hg=>?_) | refine aB (fun hg=>?_) (fun hg=>?_)) <;> try simp -implicitDefEqProofs only [hg,Bool.not_true,Bool.not_false]) | ((with_reducible apply And.intro);focus (first | trivial | omega | decide | (simp -implicitDefEqProofs only [maxLen];omega) | (simp [maxLen,an,aq,au,ay,ak,ax,av] <;> omega))) | fail)
      refine hR _ _ (hK _ _ ?_).2
      simp -implicitDefEqProofs only [go_sem,Int.reduceNegSucc,br,bB,bJ,bN,aU,aQ,aP,cE]
    | some q=>
      rw [xE] at lE lJ
      obtain ⟨f,t⟩:=q
      have HY:=sE _ xE
      simp -implicitDefEqProofs only [Option.map_map] at lJ
      have Bf:(ck rs).length≤1001000:=by omega
      have hrl:rs.length≤1000:=by omega
      have hv:2*rs.length+1+1=2*(rs.length+1):=by omega
      have ho:=LG (rs:=rs) (r:=(m,f,t))
      have hc:=Fo (rs:=rs) (r:=(m,f,t))
      have hls:ck rs++[(m,f)]++t.L=ck (rs++[(m,f,t)]):=by rw [Ej];simp [mD]
      have Ip:(aL (ga rs)).take rs.length=aL (ga rs):=List.take_of_length_le (by rw [ak,yM];omega)
      have Iq:(ff (fh rs)).take rs.length=ff (fh rs):=List.take_of_length_le (by rw [rU];simp [fh])
      have l1:(aL (ga rs)).length=rs.length:=by rw [ak,yM]
      have l2:(ff (fh rs)).length=rs.length:=by rw [rU];simp [fh]
      have l3:=qh (ck rs)
      have l4:=qh t.L
      have l5:(dX (ck rs++[(m,f)])).length=(ck rs).length+1:=by rw [qh];simp
      simp only at HY
      simp -implicitDefEqProofs only [jK,dG,cE,Option.map,Option.isSome,Pl.cells,List.map_cons,List.map_nil,List.cons_append,List.nil_append,Sz.sv,Sz.cells] at lE
      have bW:=hst;have cr:=lE;repeat' (first | (simp -implicitDefEqProofs only [go_sem,Int.reduceNegSucc,hfl,hx,AK,q1,an,Gc,Gd,Ge,Gb,Ga,Fp,ED,EE,EA,ri,Og,Oh,Ip,Iq,l1,l2,l3,l4,l5,wu,hv]) | (with_reducible refine az ?_) | (with_reducible first | refine aC bW ?_ | refine aD bW ?_) | (with_reducible first | refine aC cr ?_ | refine aD cr ?_) | ((first | refine ai (fun hg=>?_) (fun hg=>?_) | refine aA (fun hg=>?_) (fun hg=>?_) | refine aB (fun hg=>?_) (fun hg=>?_)) <;> try simp -implicitDefEqProofs only [hg,Bool.not_true,Bool.not_false]) | ((with_reducible apply And.intro);focus (first | trivial | omega | decide | (simp -implicitDefEqProofs only [maxLen];omega) | (simp [maxLen,an,aq,au,ay,ak,ax,av] <;> omega) | (omega;done))) | fail)
      have hq:vr h e (rs++[(m,f,t)])=ou h e (rs.length+1) ((ck rs).length+1+t.L.length) (ga rs++[((ck rs).length:Int)]) (fh rs++[f.child]) (ck rs++[(m,f)]++t.L):=by
       unfold vr
       rw [ho,hc,← hls]
       simp -implicitDefEqProofs only [List.length_append,List.length_cons,List.length_nil,Nat.zero_add]
      refine hN (rs++[(m,f,t)]) _ _ ⟨by simp;omega,by rw [← hls];simp;omega,?_⟩ (by simp;omega) ?_
      ·rw [lJ]
       simp -implicitDefEqProofs only [List.length_append,List.length_cons,List.length_nil,Nat.zero_add]
       congr 1
       funext x
       simp
      ·rw [hq]
       exact uM (h':=ou h e (rs.length+1) ((ck rs).length+1+t.L.length) (ga rs++[((ck rs).length:Int)]) (fh rs++[f.child]) (ck rs++[(m,f)]++t.L)) (Nat.zero_le _) (II _ _ _ _ _ _ _) (by simp [jG,lk,nT,mE,nS,ou])
   ·have aE:rs.length=ks.length:=by simp at hg;omega
    rw [aE,List.drop_length] at lJ
    simp -implicitDefEqProofs only [mV,Option.map,List.append_nil] at lJ
    rw [lJ] at hK
    simp -implicitDefEqProofs only [lJ] at hK
    simp -implicitDefEqProofs only [go_sem,Int.reduceNegSucc]
    refine hX _ _ _ ?_
    clear hN hX hR
    have hrl:rs.length≤1000:=by omega
    have jP:(fh rs).length=rs.length:=by simp [fh]
    have hS:=Nn (fh rs) e.qg (by omega) 5 rs.length 7 (by decide)
    rw [jP] at hS
    cases sL:mg (fh rs) e.qg with
    | none=>
      rw [sL] at hS
      simp -implicitDefEqProofs only [sL] at hK
      have hv:=zn ⟨0,0⟩
      simp -implicitDefEqProofs only [qi,oF,Option.isSome,Su.sv,Su.cells,List.map_cons,List.map_nil] at hS hv
      have cA:=hS;have cT:=hv;repeat' (first | (simp -implicitDefEqProofs only [go_sem,Int.reduceNegSucc,xk,qy]) | (with_reducible refine az ?_) | (refine cC cA ?_ ?_ ?_;(focus (simp [aZ,ag] <;> fail));(focus (simp [bp,bk] <;> fail))) | (refine dc cA ?_ ?_ ?_;(focus (simp [aZ,ag] <;> fail));(focus (simp [bp,bk] <;> fail))) | (with_reducible first | refine aC cT ?_ | refine aD cT ?_) | ((first | refine ai (fun hg=>?_) (fun hg=>?_) | refine aA (fun hg=>?_) (fun hg=>?_) | refine aB (fun hg=>?_) (fun hg=>?_)) <;> try simp -implicitDefEqProofs only [hg,Bool.not_true,Bool.not_false]) | ((with_reducible apply And.intro);focus (first | trivial | omega | decide | (simp -implicitDefEqProofs only [maxLen];omega) | (simp [maxLen,an,aq,au,ay,ak,ax,av] <;> omega))) | fail)
      all_goals (refine (hK _ _ ?_).2;clear hK;simp -implicitDefEqProofs only [go_sem,Int.reduceNegSucc,br,bB,bJ,bN,aU,aQ,aP,cE] <;>(try simp_all [-Int.not_lt,-Int.not_le,aU,aQ,aP,bY,cE]) <;> try omega)
    | some q=>
      obtain ⟨p,ys⟩:=q
      rw [sL] at hS
      simp -implicitDefEqProofs only [sL] at hK
      have IB:=DI sL
      simp -implicitDefEqProofs only [List.length_nil,Nat.zero_add,jP] at IB
      have hv:=zn p.cur
      simp -implicitDefEqProofs only [qi,oF,kf,Option.isSome,Pl.cells,Su.sv,Su.cells,List.map_cons,List.map_nil] at hS hv
      cases vo:rC p.cur with
      | false=>
        rw [vo] at hv
        simp -implicitDefEqProofs only [vo,Bool.false_eq_true,if_false] at hK
        have de:=hS;have eL:=hv;repeat' (first | (simp -implicitDefEqProofs only [go_sem,Int.reduceNegSucc,xk,qy]) | (with_reducible refine az ?_) | (refine cC de ?_ ?_ ?_;(focus (simp [aZ,ag] <;> fail));(focus (simp [bp,bk] <;> fail))) | (refine dc de ?_ ?_ ?_;(focus (simp [aZ,ag] <;> fail));(focus (simp [bp,bk] <;> fail))) | (with_reducible first | refine aC eL ?_ | refine aD eL ?_) | ((first | refine ai (fun hg=>?_) (fun hg=>?_) | refine aA (fun hg=>?_) (fun hg=>?_) | refine aB (fun hg=>?_) (fun hg=>?_)) <;> try simp -implicitDefEqProofs only [hg,Bool.not_true,Bool.not_false]) | ((with_reducible apply And.intro);focus (first | trivial | omega | decide | (simp -implicitDefEqProofs only [maxLen];omega) | (simp [maxLen,an,aq,au,ay,ak,ax,av] <;> omega))) | fail)
        all_goals (refine (hK _ _ ?_).2;clear hK;simp -implicitDefEqProofs only [go_sem,Int.reduceNegSucc,br,bB,bJ,bN,aU,aQ,aP,cE] <;>(try simp_all [-Int.not_lt,-Int.not_le,aU,aQ,aP,bY,cE]) <;> try omega)
      | true=>
        rw [vo] at hv
        simp -implicitDefEqProofs only [vo,if_true] at hK
        have jY:=hS;have jZ:=hv;repeat' (first | (simp -implicitDefEqProofs only [go_sem,Int.reduceNegSucc,xk,qy]) | (with_reducible refine az ?_) | (refine cC jY ?_ ?_ ?_;(focus (simp [aZ,ag] <;> fail));(focus (simp [bp,bk] <;> fail))) | (refine dc jY ?_ ?_ ?_;(focus (simp [aZ,ag] <;> fail));(focus (simp [bp,bk] <;> fail))) | (with_reducible first | refine aC jZ ?_ | refine aD jZ ?_) | ((first | refine ai (fun hg=>?_) (fun hg=>?_) | refine aA (fun hg=>?_) (fun hg=>?_) | refine aB (fun hg=>?_) (fun hg=>?_)) <;> try simp -implicitDefEqProofs only [hg,Bool.not_true,Bool.not_false]) | ((with_reducible apply And.intro);focus (first | trivial | omega | decide | (simp -implicitDefEqProofs only [maxLen];omega) | (simp [maxLen,an,aq,au,ay,ak,ax,av] <;> omega))) | fail)
        have IC:=ak ys
        have pS:=yV rs
        refine cN (ι:=Nat) (fun i=>[(119,.rv (.int .i64 i)),(118,.rv (.int .i64 rs.length)),(117,.row 4 rs.length rs.length),(17,.ptr 3 0),(25,.ptr 8 0),(27,.rv (.int .i64 (nJ p.cur))),(10,.ptr 1 0),(12,.ptr 2 0)])
         (fun i=>ou h e rs.length (ck rs).length (ga rs) (fh rs) (eV rs (ys.take i))++[some (.row 1 ys.length (aI (aL ys))),some (.var [.row 7 ys.length ys.length,.rv (.int .i64 p.lA),.rv (.int .i64 p.top.p),.rv (.int .i64 p.top.n),.rv (.int .i64 p.cur.p),.rv (.int .i64 p.cur.n),.rv (.bool p.nh)])])
         (fun i=>i≤rs.length) (fun i=>rs.length - i) 0 (Nat.zero_le _) (by rw [List.take_zero,pS];exact bw (by simp [lk])) (fun i hi K' hN hX hR=>?_)
        simp -implicitDefEqProofs only [ou,Sz.cells,go_sem,Int.reduceNegSucc]
        refine ai (fun hg=>?_) (fun hg=>?_)
        ·have hi4:i<rs.length:=by simp at hg;omega
         have wu:=cu (k:=i) (by omega)
         have ho:=LF hi4
         have Ig:=yM (rs:=rs)
         have hy:=ov (show i<ys.length by omega)
         have kk:=Md hi4 (show i<ys.length by omega)
         have kr:=Me hi4 (show i<ys.length by omega)
         have hlt:(ck (rs.take i)).length<(ck rs).length:=by
          have:=(vV rs ys i hi4 (by omega)).1
          have:=(List.getElem?_eq_some_iff.1 this).1
          rwa [tB] at this
         have dS:(dX (eV rs (ys.take i))).length=(ck rs).length:=by rw [qh,tB]
         have cQ:=ak (ga rs)
         have NX:=NY (rs[i].1,rs[i].2.1) ys[i]
         have xZ:=Mb (rs[i].1,rs[i].2.1)
         repeat' (first | (simp -implicitDefEqProofs only [go_sem,Int.reduceNegSucc,ho,hy,kk,kr,dS,cQ,Ig,NX,xZ,wu,IC]) | (with_reducible refine az ?_) | ((first | refine ai (fun hg=>?_) (fun hg=>?_) | refine aA (fun hg=>?_) (fun hg=>?_) | refine aB (fun hg=>?_) (fun hg=>?_)) <;> try simp -implicitDefEqProofs only [hg,Bool.not_true,Bool.not_false]) | ((with_reducible apply And.intro);focus (first | trivial | omega | decide | (simp -implicitDefEqProofs only [maxLen];omega) | (simp [maxLen,an,aq,au,ay,ak,ax,av] <;> omega) | (omega;done))) | fail)
         exact hN (i+1) _ _ (by omega) (by omega) (bw (by simp [lk]))
        ·have hi4:i=rs.length:=by simp at hg;omega
         have mQ:ys.take i=ys:=List.take_of_length_le (by omega)
         rw [mQ]
         clear mQ hg
         simp -implicitDefEqProofs only [go_sem,Int.reduceNegSucc]
         refine hX _ _ _ ?_
         clear hN hX hR
         have hfit:=gh (qN rs (p,ys) e.oz).high
         have dS:(dX (eV rs ys)).length=(ck rs).length:=by rw [qh,tB]
         simp -implicitDefEqProofs only [qN] at hfit hK
         cases kk:p.nh <;> cases Bl:e.oz <;> simp -implicitDefEqProofs only [kk,Bl,Bool.false_eq_true,if_true,if_false] at hfit hK
         all_goals ((have ke:=hfit;repeat' (first | (simp -implicitDefEqProofs only [go_sem,Int.reduceNegSucc,Fy,qy,kk,Bl]) | (with_reducible refine az ?_) | (with_reducible first | refine aC ke ?_ | refine aD ke ?_) | ((first | refine ai (fun hg=>?_) (fun hg=>?_) | refine aA (fun hg=>?_) (fun hg=>?_) | refine aB (fun hg=>?_) (fun hg=>?_)) <;> try simp -implicitDefEqProofs only [hg,Bool.not_true,Bool.not_false]) | ((with_reducible apply And.intro);focus (first | trivial | omega | decide | (simp -implicitDefEqProofs only [maxLen];omega) | (simp [maxLen,an,aq,au,ay,ak,ax,av] <;> omega))) | fail)))
         all_goals (refine (hK _ _ ?_).2;simp -implicitDefEqProofs only [go_sem,Int.reduceNegSucc,br,bB,bJ,bN,aU,aQ,aP,cE,Pl.cells,kk])
         all_goals (refine ⟨zc rfl rfl (by rw [dS]) (Mc _),zc rfl rfl (by rw [ak]) (lO _)⟩)
end Go.aH

namespace Go.aH
open Go
theorem BM:aV Go.Proofs.Try.prog 13 34 (fc Go.Proofs.Try.prog 13 34 [(.c 10 25 true),(.c 11 9 true),(.t 12)]) [(.c 10 25 true),(.c 11 9 true),(.t 12)]:=bl (by kernel_rfl)
def yp (l:List Nd) (bd:Nat→Int→Sz→Bool→Option (Fm×La)) (n:Nat) (e:Ed) (x:Ao):Option La×Bool:=
 mS (fun m=>bd m x.w (oh e) (cF l n).bZ) (cH l n) (lW x.w (oh e)) e.qg e.oz
def nP (l:List Nd):Nat→Nat→Int→Sz→Bool→Option (Fm×La)
 | 0,_,_,_,_=>none
 | d+1,n,w,h,bZ=>rP l (yp l (nP l d) n) n w h bZ
def qt (l:List Nd) (n:Int) (w:Int) (h:Sz) (bZ:Bool):Option (Fm×La):=if (fR l n && lW w h)=true then nP l (l.length+1) n.toNat w h bZ else none
theorem FY (l:List Nd) (n:Int):(cH l n).Pairwise (·< ·):=by
 unfold cH eH
 split
 ·unfold dw aR
  exact (List.pairwise_lt_range.filter _).filter _
 ·exact .nil
theorem pG {l:List Nd} {n:Nat} {m:Nat} (h:m∈cH l n):0<m∧m<l.length∧aX l m=n:=by
 have h:=(List.mem_filter.1 h).1
 unfold eH at h
 split at h
 ·exact qO.1 (by simpa using h)
 ·simp at h
theorem FZ {l:List Nd} (hs:dN l) {n:Nat} (hn:n<l.length):(cH l n).Pairwise (fun x y=>cZ l x≤y)∧∀ m∈cH l n,n+1≤m∧m≤cZ l m∧cZ l m≤cZ l n:=by
 have hwf:=hs.wf
 refine ⟨?_,fun m hm=>?_⟩
 ·refine List.Pairwise.imp_of_mem (fun {x y} hx hy hlt=>?_) (FY l n)
  obtain ⟨x1,x2,x3⟩:=pG hx
  obtain ⟨y1,y2,y3⟩:=pG hy
  have OZ:=hs.up x x1 x2
  apply Classical.byContradiction
  intro hc
  have:=(hs.below x2 y2).2 ⟨by omega,by omega⟩
  rcases (pZ hwf y1 y2).1 this with h | h
  ·omega
  ·rw [y3] at h
   have:=qT _ _ h
   simp at this
   omega
 ·obtain ⟨m1,m2,m3⟩:=pG hm
  have hu:=hs.up m m1 m2
  obtain ⟨g1,g2⟩:=hs.xq m2
  refine ⟨by omega,by omega,?_⟩
  have h1:=(hs.below m2 (show cZ l m - 1<l.length by omega)).2 ⟨by omega,by omega⟩
  have h2:n∈aO l m:=(pZ hwf m1 m2).2 (.inr (by rw [m3];simpa using vC))
  have:=(hs.below hn (show cZ l m - 1<l.length by omega)).1 (yT h1 n h2)
  omega
theorem DE (e:Nat→Nat):∀ (ks:List Nat) (a b:Nat),ks.Pairwise (fun x y=>e x≤y)→(∀ k∈ks,a≤k∧k≤e k∧e k≤b)→(ks.map fun k=>e k - k).sum≤b - a
 | [],_,_,_,_=>by simp
 | k::ks,a,b,hp,hk=>by
   rw [List.pairwise_cons] at hp
   have:=DE e ks (e k) b hp.2 (fun x hx=>⟨hp.1 x hx,(hk x (.tail _ hx)).2⟩)
   have:=hk k (.head _)
   simp -implicitDefEqProofs only [List.map_cons,List.sum_cons]
   omega
theorem CW {bx:Nat→Option (Fm×La)} {g:Nat→Nat}:∀ {ks:List Nat} {rs:List (Nat×Fm×La)},mV bx ks=some rs→(∀ m∈ks,∀ q,bx m=some q→q.2.L.length+1≤g m)→(ck rs).length≤(ks.map g).sum
 | [],rs,h,_=>by cases h;simp [ck]
 | m::ks,rs,h,hg=>by
   rw [mV] at h
   split at h
   ·rename_i q hq
    rw [Option.map_eq_some_iff] at h
    obtain ⟨rs',h1,rfl⟩:=h
    have:=CW h1 (fun x hx=>hg x (.tail _ hx))
    have:=hg m (.head _) q hq
    show (mD (m,q)++ck rs').length≤_
    simp -implicitDefEqProofs only [mD,List.length_append,List.length_cons,List.map_cons,List.sum_cons]
    omega
   ·cases h
theorem IJ {bx:Nat→Option (Fm×La)} {ks:List Nat} {ok ot ob:Bool} {t:La} (h:(mS bx ks ok ot ob).1=some t):∃ rs q,mV bx ks=some rs∧mg (fh rs) ot=some q∧t=qN rs q ob:=by
 unfold mS at h
 repeat' split at h
 all_goals first | (cases h;done) | (cases h;exact ⟨_,_,by assumption,by assumption,rfl⟩)
theorem EW {l:List Nd} {ins:Ed→Ao→Option La×Bool} {n w:Int} {h:Sz} {bZ:Bool} {q:Fm×La} (hq:rP l ins n w h bZ=some q):∃ x,oZ (rG l n w h bZ)=some x∧okB l n w h=true∧(ins (ez l n w h) x)=(some q.2,true)∧q.1=uW (ez l n w h) x (cH l n).length q.2:=by
 unfold rP at hq
 split at hq
 ·rename_i hok
  rw [Option.bind_eq_some_iff] at hq
  obtain ⟨x,hx,hf⟩:=hq
  unfold qD at hf
  split at hf
  ·rename_i h2
   rw [Option.bind_eq_some_iff] at hf
   obtain ⟨t,ht,hf⟩:=hf
   split at hf
   ·cases hf;exact ⟨x,hx,hok,Prod.ext ht h2,rfl⟩
   ·cases hf
  ·cases hf
 ·cases hq
theorem zP {l:List Nd} (hs:dN l):∀ (d n:Nat) (w:Int) (h:Sz) (bZ:Bool) (q:Fm×La),n<l.length→nP l d n w h bZ=some q→q.2.L.length+1≤cZ l n - n
 | 0,_,_,_,_,_,_,h=>by cases h
 | d+1,n,w,h,bZ,q,hn,hq=>by
   obtain ⟨x,_,_,hi,_⟩:=EW hq
   obtain ⟨rs,z,h1,h2,h3⟩:=IJ (t:=q.2) (by rw [show mS _ _ _ _ _=yp l (nP l d) n (ez l n w h) x from rfl,hi])
   obtain ⟨p1,p2⟩:=FZ hs hn
   have hl:=CW (g:=fun m=>cZ l m - m) h1 (fun m hm r hr=>zP hs d m _ _ _ r (pG hm).2.1 hr)
   have OY:=DE (cZ l) _ (n+1) (cZ l n) p1 p2
   have:=(hs.xq hn).1
   rw [h3]
   simp -implicitDefEqProofs only [qN,tB]
   omega
theorem Dr (l:List Nd) (hs:dN l) (hb:l.length≤1000):∀ (d n:Nat) (w:Int) (h:Sz) (bZ:Bool),n<l.length→l.length<n+d→aJ Go.Proofs.Try.prog 26 [.rv (cg l),.rv (.int .i64 n),.rv (.int .i64 w),h.sv,.rv (.bool bZ)] [] [] (jK (nP l d n w h bZ))
 | 0,n,w,h,bZ,hn,hd=>by omega
 | d+1,n,w,h,bZ,hn,hd=>by
   refine Ns l (by omega) n w h bZ (yp l (nP l d) n) (fun e x hq=>IK hq) (fun x=>?_)
   refine NA l hb n x.w (oh (ez l n w h)) (ez l n w h) (fun m=>nP l d m x.w (oh (ez l n w h)) (cF l n).bZ) (fun m hm q hq=>?_) (fun m hm=>?_)
   ·have:=zP hs d m _ _ _ q (pG hm).2.1 hq
    have:=(hs.xq (pG hm).2.1).2
    omega
   ·obtain ⟨h1,h2,h3⟩:=pG hm
    have:=hs.up m h1 h2
    exact Dr l hs hb d m _ _ _ h2 (by omega)
theorem Dt (l:List Nd) (hs:dN l) (hb:l.length≤1000) (n:Int) (w:Int) (h:Sz) (bZ:Bool):aJ Go.Proofs.Try.prog 13 [.rv (cg l),.rv (.int .i64 n),.rv (.int .i64 w),h.sv,.rv (.bool bZ)] [] [] (jK (qt l n w h bZ)):=by
 refine bz BM [.rv (cg l),.rv (.int .i64 n),.rv (.int .i64 w),h.sv,.rv (.bool bZ)] _ (by simp) (by simp [aN,aW,bn,aT,bf,aj.sv,Ln.sv,Nd.sv]) (fun K hK=>?_)
 have hm:=zj l n
 have hw:=Du w h
 unfold qt at hK
 cases pQ:fR l n with
 | false=>
   rw [pQ] at hm
   simp -implicitDefEqProofs only [pQ,Bool.false_and,Bool.false_eq_true,if_false] at hK
   conv in fc _ _ _ _=>reduce
   simp -implicitDefEqProofs only [Sz.sv,Sz.cells,go_sem,Int.reduceNegSucc]
   have bq:=hm;repeat' (first | (simp -implicitDefEqProofs only [go_sem,Int.reduceNegSucc]) | (with_reducible refine az ?_) | (with_reducible first | refine aC bq ?_ | refine aD bq ?_) | ((first | refine ai (fun hg=>?_) (fun hg=>?_) | refine aA (fun hg=>?_) (fun hg=>?_) | refine aB (fun hg=>?_) (fun hg=>?_)) <;> try simp -implicitDefEqProofs only [hg,Bool.not_true,Bool.not_false]) | ((with_reducible apply And.intro);focus (first | trivial | omega | decide | (simp -implicitDefEqProofs only [maxLen];omega) | (simp [maxLen,an,aq,au,ay,ak,ax,av] <;> omega))) | fail)
   all_goals (refine (hK _ _ ?_).2;clear hK;simp -implicitDefEqProofs only [go_sem,Int.reduceNegSucc,br,bB,bJ,bN,aU,aQ,aP,dG,cE,Option.map,Option.isSome] <;>(try simp_all [-Int.not_lt,-Int.not_le,aU,aQ,aP,bY,dG,cE,Option.map,Option.isSome]) <;> try omega)
 | true=>
   rw [pQ] at hm
   cases vj:lW w h with
   | false=>
     rw [vj] at hw
     simp -implicitDefEqProofs only [pQ,vj,Bool.true_and,Bool.false_eq_true,if_false] at hK
     conv in fc _ _ _ _=>reduce
     simp -implicitDefEqProofs only [Sz.sv,Sz.cells,go_sem,Int.reduceNegSucc] at hw ⊢
     have y_2:=hm;have bP:=hw;repeat' (first | (simp -implicitDefEqProofs only [go_sem,Int.reduceNegSucc]) | (with_reducible refine az ?_) | (with_reducible first | refine aC y_2 ?_ | refine aD y_2 ?_) | (with_reducible first | refine aC bP ?_ | refine aD bP ?_) | ((first | refine ai (fun hg=>?_) (fun hg=>?_) | refine aA (fun hg=>?_) (fun hg=>?_) | refine aB (fun hg=>?_) (fun hg=>?_)) <;> try simp -implicitDefEqProofs only [hg,Bool.not_true,Bool.not_false]) | ((with_reducible apply And.intro);focus (first | trivial | omega | decide | (simp -implicitDefEqProofs only [maxLen];omega) | (simp [maxLen,an,aq,au,ay,ak,ax,av] <;> omega))) | fail)
     all_goals (refine (hK _ _ ?_).2;clear hK;simp -implicitDefEqProofs only [go_sem,Int.reduceNegSucc,br,bB,bJ,bN,aU,aQ,aP,dG,cE,Option.map,Option.isSome] <;>(try simp_all [-Int.not_lt,-Int.not_le,aU,aQ,aP,bY,dG,cE,Option.map,Option.isSome]) <;> try omega)
   | true=>
     rw [vj] at hw
     simp -implicitDefEqProofs only [pQ,vj,Bool.and_self,if_true] at hK
     have hin:dH l n=true:=by simp [fR] at pQ;exact pQ.1
     obtain ⟨k,rfl,hk⟩:=sQ hin
     have hx:=Dr l hs hb (l.length+1) k w h bZ hk (by omega)
     simp -implicitDefEqProofs only [Int.toNat_natCast] at hK
     generalize nP l (l.length+1) k w h bZ=r at *
     simp -implicitDefEqProofs only [jK] at hx hK
     obtain ⟨u,hu,fQ⟩:∃ u,dG (r.map (·.1))=u∧u.length=25:=⟨_,rfl,by cases r <;> rfl⟩
     obtain ⟨v,hv,hvl⟩:∃ v,cE (r.map (·.2))=v∧v.length=9:=⟨_,rfl,by cases r <;> rfl⟩
     rw [hu,hv] at hx hK
     have u1:(u.map U.rv).drop 25=[]:=List.drop_of_length_le (by simp [fQ])
     have u2:(u.map U.rv).take 25=u.map U.rv:=List.take_of_length_le (by simp [fQ])
     have v1:(v.map U.rv).drop 9=[]:=List.drop_of_length_le (by simp [hvl])
     have v2:(v.map U.rv).take 9=v.map U.rv:=List.take_of_length_le (by simp [hvl])
     conv in fc _ _ _ _=>reduce
     simp -implicitDefEqProofs only [Sz.sv,Sz.cells,go_sem,Int.reduceNegSucc] at hw hx ⊢
     have bV:=hm;have cq:=hw;have bW:=hx;repeat' (first | (simp -implicitDefEqProofs only [go_sem,Int.reduceNegSucc,fQ,hvl,u1,u2,v1,v2,List.length_map,List.append_nil]) | (with_reducible refine az ?_) | (with_reducible first | refine aC bV ?_ | refine aD bV ?_) | (with_reducible first | refine aC cq ?_ | refine aD cq ?_) | (with_reducible first | refine aC bW ?_ | refine aD bW ?_) | ((first | refine ai (fun hg=>?_) (fun hg=>?_) | refine aA (fun hg=>?_) (fun hg=>?_) | refine aB (fun hg=>?_) (fun hg=>?_)) <;> try simp -implicitDefEqProofs only [hg,Bool.not_true,Bool.not_false]) | ((with_reducible apply And.intro);focus (first | trivial | omega | decide | (simp -implicitDefEqProofs only [maxLen];omega) | (simp [maxLen,an,aq,au,ay,ak,ax,av] <;> omega))) | fail)
     all_goals (refine (hK _ _ ?_).2;simp -implicitDefEqProofs only [go_sem,Int.reduceNegSucc,br,bB,bJ,bN,aU,aQ,aP,cL,fQ,hvl,u2,v2,List.length_map,List.drop_zero])
end Go.aH

namespace Go.aH
open Go
theorem FO (s:aj):∀ r∈s.cells,ep r:=by
 intro r hr
 simp -implicitDefEqProofs only [aj.cells,List.mem_cons,List.not_mem_nil,or_false] at hr
 repeat' rcases hr with rfl | hr
 all_goals first | exact .int _ _ | exact .bool _ | (subst hr;exact .int _ _)
theorem FP (x:Nd):∀ r∈x.cells,ep r:=by
 intro r hr
 rcases List.mem_append.1 hr with hr | hr
 ·exact FO _ r hr
 ·simp at hr;rw [hr];exact .int _ _
theorem FN {e v:Nat} {xs:List (List RV)} (h:∀ x∈xs,∀ r∈x,ep r):mu (.row e v (aI xs)):=by
 refine .row _ _ _ (fun i x j y hx hy=>?_)
 unfold aI at hx
 rw [List.getElem?_map] at hx
 cases hq:xs[i]? with
 | none=>simp [hq] at hx
 | some z=>
   simp [hq] at hx
   subst hx
   rw [List.getElem?_map] at hy
   cases hr:z[j]? with
   | none=>simp [hr] at hy
   | some r=>simp [hr] at hy;subst hy;exact .rv _ (h z (List.mem_of_getElem? hq) r (List.mem_of_getElem? hr))
theorem MT (l:List Nd) (hb:l.length≤8589934592) (i v m:Nat) (hne:i≠m):aJ Go.Proofs.Try.prog 23 [.row i v l.length] [(i,.row 49 v (aI (bg l)))] [(m,.row 49 1 (aI (bg l)))] (.row m 1 l.length):=by
 have h:=Dn (bg l) m (by rw [au];exact hb)
 rw [au] at h
 refine uo (rs:=[.sl 49 (bg l)]) h (fun hp hpre=>⟨?_,trivial⟩) rfl (.row _ _ _) (fun q hq=>?_)
 ·exact lD (hpre _ (.head _)) rfl (by simp [bg]) (vG l)
 ·simp at hq;subst hq
  refine ⟨FN fun x hx=>?_,by simpa using hne⟩
  obtain ⟨n,_,rfl⟩:=List.mem_map.1 hx
  exact FP n
theorem yJ (x:Nd):(x.cells.map U.rv).take 49=x.cells.map U.rv:=rfl
def dV (l:List Nd) (k:Nat):List (List U):=(List.range l.length).map fun p=>[.row (p+7) (aR l k p).length (aR l k p).length]
def dJ (l:List Nd) (k:Nat):List (Option HB):=(List.range l.length).map fun p=>some (.row 1 (aR l k p).length (aI (aL (bt (aR l k p)))))
theorem sX (l:List Nd) (k:Nat):(dV l k).length=l.length:=by simp [dV]
theorem kP (l:List Nd) (k:Nat):(dJ l k).length=l.length:=by simp [dJ]
theorem BJ {l:List Nd} {k p:Nat} (hp:p<l.length):(dV l k)[p]?.getD []=[.row (p+7) (aR l k p).length (aR l k p).length]:=by simp [dV,hp]
theorem yB {l:List Nd} {k p:Nat} {C:List (Option HB)} (hp:p<l.length):ag (dJ l k++C) p=some (.row 1 (aR l k p).length (aI (aL (bt (aR l k p))))):=by
 unfold ag
 rw [List.getElem?_append_left (by rw [kP];exact hp)]
 simp [dJ,hp]
theorem yz {l:List Nd} {k:Nat} {x:Option HB} {C:List (Option HB)}:ag (dJ l k++x::C) l.length=x:=by
 unfold ag
 rw [List.getElem?_append_right (by rw [kP];exact Nat.le_refl _),kP]
 simp
theorem BF {l:List Nd} {k:Nat} {x y:Option HB} {C:List (Option HB)}:ag (dJ l k++x::y::C) (l.length+1)=y:=by
 unfold ag
 rw [List.getElem?_append_right (by rw [kP];omega),kP,show l.length+1 - l.length=1 by omega]
 simp
theorem BH {l:List Nd} {k p:Nat} {hb:Option HB} {x y:Option HB} {C:List (Option HB)}:ag ((dJ l k).set p hb++x::C) l.length=x:=by
 unfold ag
 rw [List.getElem?_append_right (by rw [List.length_set,kP];exact Nat.le_refl _),List.length_set,kP]
 simp
theorem yD {l:List Nd} {k:Nat} {x y:Option HB} {C:List (Option HB)}:(dJ l k++x::C).set l.length y=dJ l k++y::C:=by
 rw [List.set_append_right _ _ (by rw [kP];exact Nat.le_refl _),kP,Nat.sub_self];rfl
theorem Jl {l:List Nd} {k p:Nat} {y:Option HB} {C:List (Option HB)} (hp:p<l.length):(dJ l k++C).set p y=(dJ l k).set p y++C:=by
 rw [List.set_append_left _ _ (by rw [kP];exact hp)]
theorem Jn (l:List Nd):dJ l 0=dO l.length 1:=by
 refine List.ext_getElem (by simp [dJ,dO]) (fun i h1 h2=>?_)
 simp [dJ,dO,sZ,bt,aL,aI]
theorem BL (l:List Nd):dV l 0=dn 7 l.length l.length:=by
 refine List.ext_getElem (by simp [dV,dn]) (fun i h1 h2=>?_)
 simp [dV] at h1
 simp [dV,dn,sZ,h1];omega
theorem Jj {l:List Nd} {k p:Nat} (h0:0<k) (hp:aX l k=p) (hl:p<l.length) :
 (dJ l k).set p (some (.row 1 ((aR l k p).length+1) (aI (aL (bt (aR l k p)++[(k:Int)])))))=dJ l (k+1):=by
 refine List.ext_getElem (by simp [dJ]) (fun i h1 h2=>?_)
 simp -implicitDefEqProofs only [List.getElem_set,dJ,List.getElem_map,List.getElem_range,sY]
 by_cases h:p=i
 ·subst h;simp [h0,hp,bt]
 ·rw [if_neg h,if_neg (by rw [hp];omega)];simp
theorem Jr {l:List Nd} {k p:Nat} (h0:0<k) (hp:aX l k=p) (hl:p<l.length) :
 (dV l k).set p [.row (p+7) ((aR l k p).length+1) ((aR l k p).length+1)]=dV l (k+1):=by
 refine List.ext_getElem (by simp [dV]) (fun i h1 h2=>?_)
 simp -implicitDefEqProofs only [List.getElem_set,dV,List.getElem_map,List.getElem_range,sY]
 by_cases h:p=i
 ·subst h;simp [h0,hp]
 ·rw [if_neg h,if_neg (by rw [hp];omega)];simp
theorem Jh (l:List Nd):dJ l 1=dJ l 0:=by
 refine List.ext_getElem (by simp [dJ]) (fun i h1 h2=>?_)
 simp [dJ,aR,List.range_succ]
theorem Jp (l:List Nd):dV l 1=dV l 0:=by
 refine List.ext_getElem (by simp [dV]) (fun i h1 h2=>?_)
 simp [dV,aR,List.range_succ]
def oy (v:Nat) (l:List Nd) (k:Nat) (es ds:List Int) (bs:List Bool):List (Option HB):=some (.row 49 v (aI (bg l)))::some (.row 49 1 (aI (bg l)))::some (.row 1 0 (dV l k))::some (.row 1 0 (aI (aL es)))::some (.row 1 0 (aI (aL ds)))::some (.row 1 0 (aI (ey bs)))::some (.var [.row 1 1 l.length,.row 2 0 l.length,.row 3 0 l.length,.row 4 0 l.length,.row 5 0 l.length])::dJ l k
theorem yu {v:Nat} {l:List Nd} {k:Nat} {es ds:List Int} {bs:List Bool}:(oy v l k es ds bs).length=l.length+7:=by simp [oy,kP]
theorem Jf {v:Nat} {l:List Nd} {k:Nat} {es ds:List Int} {bs:List Bool}:kD (mZ (l.length+7)) (oy v l k es ds bs):=by
 refine ⟨fW,fW,fun i x hx=>?_,fW,fW,fW,by simp [mZ,kE,mE],kD.of fun j x hx=>?_⟩
 ·obtain ⟨hl,rfl⟩:=List.getElem?_eq_some_iff.1 hx
  simp [sX] at hl
  simp [dV,kE,mE,hl]
 ·obtain ⟨hl,rfl⟩:=List.getElem?_eq_some_iff.1 hx
  exact ⟨.row 1 (aR l k j).length (aI (aL (bt (aR l k j)))),by simp [dJ],fW⟩
theorem yx {v:Nat} {l:List Nd} {k:Nat} {es ds:List Int} {bs:List Bool} {env env':List (Nat×U)} {C:List (Option HB)} (he:jG (l.length+7) env env'):cB 1 ⟨env,oy v l k es ds bs++C⟩ ⟨env',oy v l k es ds bs⟩:=
 uM (by rw [yu];omega) (by rw [yu];exact Jf) (by rw [yu];exact he)
theorem KK (v:Nat) (l:List Nd) {τ:Nat→Option Nat} (fX:∀ j,0<j→τ j=none):Fz τ (ag (oy v l l.length (pz l) (bH l l.length) (cn l l.length))) (.ptr 6 0) (cg l):=by
 refine .ptr 6 [.row 1 1 l.length,.row 2 0 l.length,.row 3 0 l.length,.row 4 0 l.length,.row 5 0 l.length] _ (fX _ (by decide)) rfl rfl (fun i r hr=>?_) (fun i x r hx hr=>?_)
 ·match i with
  | 0=>cases hr;rfl
  | 1=>cases hr;rfl
  | 2=>cases hr;rfl
  | 3=>cases hr;rfl
  | 4=>cases hr;rfl
  | i+5=>simp at hr
 ·match i with
  | 0=>cases hx;cases hr;exact lD rfl (fX _ (by decide)) (by simp [bg]) (vG l)
  | 1=>
    cases hx;cases hr
    refine .row 2 1 0 l.length (dV l l.length) (fY l) (fX _ (by decide)) rfl (by simp [fY]) (by rw [sX];exact Nat.le_refl _) (fun i x r hx hr=>?_) (fun i r k q hr hq=>?_) (fun i x r k y q hx hr hy hq=>?_)
    ·obtain ⟨_,rfl⟩:=List.getElem?_eq_some_iff.1 hx
     obtain ⟨_,rfl⟩:=List.getElem?_eq_some_iff.1 hr
     simp [dV,fY]
    ·obtain ⟨_,rfl⟩:=List.getElem?_eq_some_iff.1 hr
     have:=List.mem_of_getElem? hq
     simp [fY] at this
     rw [this];rfl
    ·obtain ⟨hl,rfl⟩:=List.getElem?_eq_some_iff.1 hx
     obtain ⟨_,rfl⟩:=List.getElem?_eq_some_iff.1 hr
     rw [sX] at hl
     cases k with
     | succ k=>simp [dV] at hy
     | zero=>
       simp [dV] at hy
       simp [fY] at hq
       subst hy;subst hq
       refine lD (xs:=aL (bt (dw l i))) ?_ (fX _ (by omega)) (by simp [aL,bt,dw]) (lO _)
       have:=yB (k:=l.length) (C:=[]) hl
       rw [List.append_nil] at this
       exact this
  | 2=>cases hx;cases hr;exact lD rfl (fX _ (by decide)) (by simp [aL,pz]) (lO _)
  | 3=>cases hx;cases hr;exact lD rfl (fX _ (by decide)) (by simp [aL,bH]) (lO _)
  | 4=>cases hx;cases hr;exact lD rfl (fX _ (by decide)) (by simp [ey,cn]) (zO _)
  | i+5=>simp at hx
theorem NC (l:List Nd) (hb:l.length≤8589934592) (hc:fA l=0) (i0 v:Nat):aJ Go.Proofs.Try.prog 9 [.row i0 v l.length] [(i0,.row 49 v (aI (bg l)))] [] (.aM [.rv (cg l),.rv (.int .i64 0)]):=by
 refine kF BS [i0] [.row 49 v (aI (bg l))] [.row 49 v (aI (bg l))] [.row 0 v l.length] [.row i0 v l.length] _ _ (by simp) (by simp [aN,fL]) rfl (by simp [bL]) ⟨rfl,rfl,⟨rfl,_,rfl⟩,trivial⟩ (fun K hK=>?_)
 have hlen:=au l
 have AR:=DC l hb
 rw [hc] at AR
 have mI:=Cd (id:=0) (v:=v) (n:=l.length) (bs:=[]) AR (.int _ _) (by simp [bg]) (vG l)
 have ht:cY l=true:=by
  unfold fA at hc
  cases h:cY l with
  | true=>rfl
  | false=>rw [h] at hc;simp at hc
 have hs:dN l:=tC.1 (by unfold cY at ht;simp -implicitDefEqProofs only [Bool.and_eq_true] at ht;exact ht.1)
 have nq:(((0:Int)) != 0)=false:=rfl
 conv in fc _ _ _ _=>reduce
 simp -implicitDefEqProofs only [go_sem,Int.reduceNegSucc]
 have jN:(bg l).length≤8589934592:=by rw [hlen];exact hb
 have bq:=mI;have y_2:=MT l hb 0 v 1 (by decide);repeat' (first | (simp -implicitDefEqProofs only [go_sem,Int.reduceNegSucc,nq,hlen,wk,Dh]) | (with_reducible refine az ?_) | (refine cC bq ?_ ?_ ?_;(focus (simp [aZ,ag] <;> fail));(focus (simp [bp,bk] <;> fail))) | (refine dc bq ?_ ?_ ?_;(focus (simp [aZ,ag] <;> fail));(focus (simp [bp,bk] <;> fail))) | (refine cC y_2 ?_ ?_ ?_;(focus (simp [aZ,ag] <;> fail));(focus (simp [bp,bk] <;> fail))) | (refine dc y_2 ?_ ?_ ?_;(focus (simp [aZ,ag] <;> fail));(focus (simp [bp,bk] <;> fail))) | ((first | refine ai (fun hg=>?_) (fun hg=>?_) | refine aA (fun hg=>?_) (fun hg=>?_) | refine aB (fun hg=>?_) (fun hg=>?_)) <;> try simp -implicitDefEqProofs only [hg,Bool.not_true,Bool.not_false]) | ((with_reducible apply And.intro);focus (first | trivial | omega | decide | (simp -implicitDefEqProofs only [maxLen];omega) | (simp [maxLen,an,aq,au,ay,ak,ax,av] <;> omega))) | fail)
 have HT:∀ n:Nat,dV l 0=dn 7 l.length l.length:=fun _=>BL l
 let ev:Nat→List (Nat×U):=fun k=>[(33,.rv (.int .i64 k)),(32,.rv (.int .i64 l.length)),(31,.row 0 v l.length),(5,.ptr 6 0),(0,.row 0 v l.length)]
 refine cN (ι:=Nat) (fun k=>[(33,.rv (.int .i64 k)),(32,.rv (.int .i64 l.length)),(31,.row 0 v l.length),(5,.ptr 6 0),(0,.row 0 v l.length)]) (fun k=>some (.row 49 v (aI (bg l)))::some (.row 49 1 (aI (bg l)))::some (.row 1 0 (dV l k))::some (.row 1 0 (aI (aL (List.replicate l.length 0))))::some (.row 1 0 (aI (aL (bH l k))))::some (.row 1 0 (aI (ey (cn l k))))::some (.var [.row 1 1 l.length,.row 2 0 l.length,.row 3 0 l.length,.row 4 0 l.length,.row 5 0 l.length])::dJ l k) (fun k=>k≤l.length) (fun k=>l.length - k) 0 (by simp) ?_ (fun k hk K' hN hX hR=>?_)
 ·refine (bw (env':=[(33,.rv (.int .i64 0)),(32,.rv (.int .i64 l.length)),(31,.row 0 v l.length),(5,.ptr 6 0),(0,.row 0 v l.length)]) (by simp [lk])).trans ?_
  rw [BL,Jn,xe,Cq]
  exact Ar (r:=2) (v:=0) (n:=l.length) (e:=1) rfl
 simp -implicitDefEqProofs only [go_sem,Int.reduceNegSucc]
 refine ai (fun hg=>?_) (fun hg=>?_)
 ·have aE:k<l.length:=by simp at hg;omega
  have hx:=fG aE
  have pV:=kP l k
  have fO:=qx l k
  have fN:=ak (bH l k)
  have mJ:=fE (l:=bH l k) (i:=k) (by omega)
  have hml:=Cp l k
  have kM:=ug (cn l k)
  have pP:=qq (bs:=cn l k) (i:=k) (by omega)
  have hsh:=zh aE
  have e1:(l.length=l.length+1)=False:=eq_false (by omega)
  have e2:(l.length=l.length+2)=False:=eq_false (by omega)
  have hds:=uI aE
  have pM:=xd aE
  have wu:=cu (k:=k) (by omega)
  by_cases cK:0<k
  ·have hgt:decide ((k:Int)>0)=true:=decide_eq_true (by omega)
   obtain ⟨p1,p2⟩:=hs.wf.2 k cK aE
   obtain ⟨p,hp⟩:∃ p:Nat,aX l k=p:=⟨(aX l k).toNat,by omega⟩
   have dS:p<l.length:=by omega
   have q0:(p=l.length)=False:=eq_false (by omega)
   have q1:(p=l.length+1)=False:=eq_false (by omega)
   have q2:(p=l.length+2)=False:=eq_false (by omega)
   have hpk:=lZ aE
   have HC:(bH l k).set k 1=(bH l k).set k 1:=rfl
   have pN:((bH l k).set k 1).length=l.length:=by simp [fO]
   have sx:=ak ((bH l k).set k 1)
   have mK:=fE (l:=(bH l k).set k 1) (i:=p) (by omega)
   have pL:=fE (l:=(bH l k).set k 1) (i:=k) (by omega)
   rw [xb (by omega) (by omega)] at mK
   have oc:=xg hs.wf cK aE
   rw [hp,Int.toNat_natCast] at oc
   have wd:=cu (k:=depth l p) (by have:=qU (l:=l) p;unfold depth;omega)
   rw [← oc] at wd
   obtain ⟨b,pU⟩:∃ b,mW l k=b:=⟨_,rfl⟩
   have hmp:=qq (bs:=(cn l k).set k b) (i:=p) (by simp [hml];omega)
   have hmk:=qq (bs:=(cn l k).set k b) (i:=k) (by simp [hml];omega)
   rw [Co (by omega) (by omega)] at hmp
   have sG:((cn l k).set k b).length=l.length:=by simp [hml]
   have sH:=ug ((cn l k).set k b)
   have ko:((cn l k).set k b).set k (b && jT l p)=cn l (k+1):=by
    have:=Cm hs.wf cK aE
    rw [hp,Int.toNat_natCast,pU] at this
    rw [List.set_set,← this,vB aE]
   have lH:=sX l k
   have lG:=BJ (k:=k) dS
   have kn:=fun C=>yB (k:=k) (C:=C) dS
   have hkn:=Jj cK hp dS
   have sM:=Jr cK hp dS
   have hsp:=fun (y:Option HB) C=>Jl (k:=k) (y:=y) (C:=C) dS
   have fj:(bt (aR l k p)).length=(aR l k p).length:=by simp [bt]
   have lF:=ak (bt (aR l k p))
   have mQ:(aL (bt (aR l k p))).take (aR l k p).length=aL (bt (aR l k p)):=List.take_of_length_le (by rw [lF,fj];exact Nat.le_refl _)
   have hkk:=qM (l:=l) (k:=k) (p:=p)
   cases b
   all_goals simp -implicitDefEqProofs only [Bool.false_and,Bool.true_and] at ko
   ·repeat' (first | (simp -implicitDefEqProofs only [go_sem,Int.reduceNegSucc,hlen,hx,pV,aq,nE,yJ,Nat.add_assoc,yz,List.append_assoc,fO,fN,mJ,hml,kM,pP,ku,rj,qP,hsh,pU,e1,e2,yD,hgt,hpk,hp,qQ,lH,lG,kn,q0,q1,q2,hsp,BF,BH,fj,lF,mQ,ri,hkn,sM,pN,sx,mK,pL,wd,pM,wu,hmp,hmk,sG,sH]) | (with_reducible refine az ?_) | ((first | refine ai (fun hg=>?_) (fun hg=>?_) | refine aA (fun hg=>?_) (fun hg=>?_) | refine aB (fun hg=>?_) (fun hg=>?_)) <;> try simp -implicitDefEqProofs only [hg,Bool.not_true,Bool.not_false]) | ((with_reducible apply And.intro);focus (first | trivial | omega | decide | (simp -implicitDefEqProofs only [maxLen];omega) | (simp [maxLen,an,aq,au,ay,ak,ax,av] <;> omega) | (simp (decide:=true) [mG,nW,ki,nk,Nat.testBit,q0,q1,q2];done))) | fail)
    rw [ko]
    exact hN (k+1) _ _ (by omega) (by omega) (yx (v:=v) (l:=l) (k:=k+1) (by simp [jG,lk,nT,nS,mE]))
   ·repeat' (first | (simp -implicitDefEqProofs only [go_sem,Int.reduceNegSucc,hlen,hx,pV,aq,nE,yJ,Nat.add_assoc,yz,List.append_assoc,fO,fN,mJ,hml,kM,pP,ku,rj,qP,hsh,pU,e1,e2,yD,hgt,hpk,hp,qQ,lH,lG,kn,q0,q1,q2,hsp,BF,BH,fj,lF,mQ,ri,hkn,sM,pN,sx,mK,pL,wd,pM,wu,hmp,hmk,sG,sH]) | (with_reducible refine az ?_) | ((first | refine ai (fun hg=>?_) (fun hg=>?_) | refine aA (fun hg=>?_) (fun hg=>?_) | refine aB (fun hg=>?_) (fun hg=>?_)) <;> try simp -implicitDefEqProofs only [hg,Bool.not_true,Bool.not_false]) | ((with_reducible apply And.intro);focus (first | trivial | omega | decide | (simp -implicitDefEqProofs only [maxLen];omega) | (simp [maxLen,an,aq,au,ay,ak,ax,av] <;> omega) | (simp (decide:=true) [mG,nW,ki,nk,Nat.testBit,q0,q1,q2];done))) | fail)
    rw [ko]
    exact hN (k+1) _ _ (by omega) (by omega) (yx (v:=v) (l:=l) (k:=k+1) (by simp [jG,lk,nT,nS,mE]))
  ·obtain rfl:k=0:=by omega
   have hgt:decide (((0:Nat):Int)>0)=false:=rfl
   rw [xh] at hds
   have ko:=vB aE
   rw [Cn] at ko
   have xN:(bH l 0).set 0 1=bH l (0+1):=hds
   repeat' (first | (simp -implicitDefEqProofs only [go_sem,Int.reduceNegSucc,hlen,hx,pV,aq,nE,yJ,Nat.add_assoc,yz,List.append_assoc,fO,fN,mJ,hml,kM,pP,ku,rj,qP,hsh,e1,e2,yD,hgt,wu,ko,xN]) | (with_reducible refine az ?_) | ((first | refine ai (fun hg=>?_) (fun hg=>?_) | refine aA (fun hg=>?_) (fun hg=>?_) | refine aB (fun hg=>?_) (fun hg=>?_)) <;> try simp -implicitDefEqProofs only [hg,Bool.not_true,Bool.not_false]) | ((with_reducible apply And.intro);focus (first | trivial | omega | decide | (simp -implicitDefEqProofs only [maxLen];omega) | (simp [maxLen,an,aq,au,ay,ak,ax,av] <;> omega))) | fail)
   refine hN 1 _ _ (by omega) (by omega) ?_
   rw [Jp,Jh]
   exact yx (v:=v) (l:=l) (k:=0) (es:=List.replicate l.length 0) (ds:=bH l (0+1)) (bs:=cn l (0+1)) (C:=[some (.var ((l[0]'aE).cells.map .rv))]) (by simp [jG,lk,nT,nS,mE])
 ·have aE:k=l.length:=by simp at hg;omega
  subst aE
  simp -implicitDefEqProofs only [go_sem,Int.reduceNegSucc]
  refine hX _ _ _ ?_
  have wl:=rD hs.pos (by omega)
  repeat' (first | (simp -implicitDefEqProofs only [go_sem,Int.reduceNegSucc,hlen,wl]) | (with_reducible refine az ?_) | ((first | refine ai (fun hg=>?_) (fun hg=>?_) | refine aA (fun hg=>?_) (fun hg=>?_) | refine aB (fun hg=>?_) (fun hg=>?_)) <;> try simp -implicitDefEqProofs only [hg,Bool.not_true,Bool.not_false]) | ((with_reducible apply And.intro);focus (first | trivial | omega | decide | (simp -implicitDefEqProofs only [maxLen];omega) | (simp [maxLen,an,aq,au,ay,ak,ax,av] <;> omega))) | fail)
  clear hN hX hR
  refine cN (ι:=Nat) (fun k=>[(8,.rv (.int .i64 ((k:Int) - 1))),(5,.ptr 6 0)]) (fun k=>oy v l l.length (cP l k) (bH l l.length) (cn l l.length)) (fun k=>k≤l.length) (fun k=>k) l.length (Nat.le_refl _) (by rw [An];exact bw (by simp [lk];have:=hs.pos;omega)) (fun k hk K' hN hX hR=>?_)
  simp -implicitDefEqProofs only [oy,go_sem,Int.reduceNegSucc]
  refine ai (fun hg=>?_) (fun hg=>?_)
  ·have cK:0<k:=by simp at hg;omega
   obtain ⟨j,rfl⟩:∃ j,k=j+1:=⟨k - 1,by omega⟩
   have ej:(((j+1:Nat):Int) - 1)=(j:Int):=by omega
   have wj:=cu (k:=j) (by omega)
   have hjl:j<l.length:=by omega
   have hel:=Al l (j+1)
   have sA:=ak (cP l (j+1))
   have pO:=fE (l:=cP l (j+1)) (i:=j) (by omega)
   have lH:=sX l l.length
   have lG:=BJ (k:=l.length) hjl
   have kn:=yB (k:=l.length) (C:=[]) hjl
   simp -implicitDefEqProofs only [List.append_nil] at kn
   have fj:(bt (aR l l.length j)).length=(aR l l.length j).length:=by simp [bt]
   have lF:=ak (bt (aR l l.length j))
   have hkk:=qM (l:=l) (k:=l.length) (p:=j)
   have kN:((cP l (j+1)).set j ((j+1:Nat):Int)).length=l.length:=by simp [hel]
   have yg:=ak ((cP l (j+1)).set j ((j+1:Nat):Int))
   have kr:=Am (l:=l) (k:=j+1) (by omega) (by omega)
   simp -implicitDefEqProofs only [Nat.add_sub_cancel] at kr
   have wd:IntKind.i64.wrap ((j:Int) - 1)=((j:Int) - 1):=wrap_i64 (by omega) (by omega)
   by_cases ct:aR l l.length j=[]
   ·have hm0:decide ((((aR l l.length j).length:Nat):Int)>0)=false:=by rw [ct];rfl
    have he:=xp ct
    rw [he] at kr
    repeat' (first | (simp -implicitDefEqProofs only [go_sem,Int.reduceNegSucc,hel,sA,pO,lH,lG,kn,ej,wj,hm0,ku,kr,wd]) | (with_reducible refine az ?_) | ((first | refine ai (fun hg=>?_) (fun hg=>?_) | refine aA (fun hg=>?_) (fun hg=>?_) | refine aB (fun hg=>?_) (fun hg=>?_)) <;> try simp -implicitDefEqProofs only [hg,Bool.not_true,Bool.not_false]) | ((with_reducible apply And.intro);focus (first | trivial | omega | decide | (simp -implicitDefEqProofs only [maxLen];omega) | (simp [maxLen,an,aq,au,ay,ak,ax,av] <;> omega))) | fail)
    refine hN j _ _ (by omega) (by omega) (bw (by simp [lk]))
   ·obtain ⟨c,hc⟩:∃ c,(aR l l.length j).getLast?=some c:=by
     cases h:(aR l l.length j).getLast? with
     | none=>exact absurd (List.getLast?_eq_none_iff.1 h) ct
     | some c=>exact ⟨c,rfl⟩
    have hpos:0<(aR l l.length j).length:=List.length_pos_iff.2 ct
    have hm0:decide ((((aR l l.length j).length:Nat):Int)>0)=true:=decide_eq_true (by omega)
    have sw:c∈dw l j:=List.mem_of_getLast? hc
    obtain ⟨c1,c2,c3⟩:=qO.1 sw
    have xI:j<c:=by have:=(hs.wf.2 c c1 c2).2;omega
    have he:=xo hc xI c2
    rw [he] at kr
    have wm:=rD hpos (by omega)
    have xH:(bt (aR l l.length j)).getD ((aR l l.length j).length - 1) 0=(c:Int):=by
     rw [List.getLast?_eq_getElem?] at hc
     simp [bt,List.getD_eq_getElem?_getD,hc]
    have eG:=fE (l:=bt (aR l l.length j)) (i:=(aR l l.length j).length - 1) (by omega)
    rw [xH] at eG
    have sy:=fE (l:=(cP l (j+1)).set j ((j+1:Nat):Int)) (i:=c) (by omega)
    have nw:=Ak (l:=l) (k:=j+1) (j:=c) (v:=((j+1:Nat):Int)) (by omega) (by omega) c2
    simp -implicitDefEqProofs only [Nat.add_sub_cancel] at nw
    rw [nw] at sy
    have xQ:=fE (l:=(cP l (j+1)).set j ((j+1:Nat):Int)) (i:=j) (by omega)
    have sK:((cP l (j+1)).set j ((j+1:Nat):Int)).set j (cZ l c)=cP l j:=by rw [List.set_set,kr]
    repeat' (first | (simp -implicitDefEqProofs only [go_sem,Int.reduceNegSucc,hel,sA,pO,lH,lG,kn,ej,wj,hm0,ku,wd,wm,eG,sy,xQ,sK,kN,yg,fj,lF]) | (with_reducible refine az ?_) | ((first | refine ai (fun hg=>?_) (fun hg=>?_) | refine aA (fun hg=>?_) (fun hg=>?_) | refine aB (fun hg=>?_) (fun hg=>?_)) <;> try simp -implicitDefEqProofs only [hg,Bool.not_true,Bool.not_false]) | ((with_reducible apply And.intro);focus (first | trivial | omega | decide | (simp -implicitDefEqProofs only [maxLen];omega) | (simp [maxLen,an,aq,au,ay,ak,ax,av] <;> omega))) | fail)
    refine hN j _ _ (by omega) (by omega) (bw (by simp [lk]))
  ·obtain rfl:k=0:=by simp at hg;omega
   simp -implicitDefEqProofs only [go_sem,Int.reduceNegSucc]
   refine hX _ _ _ ?_
   repeat' (first | (simp -implicitDefEqProofs only [go_sem,Int.reduceNegSucc]) | (with_reducible refine az ?_) | ((first | refine ai (fun hg=>?_) (fun hg=>?_) | refine aA (fun hg=>?_) (fun hg=>?_) | refine aB (fun hg=>?_) (fun hg=>?_)) <;> try simp -implicitDefEqProofs only [hg,Bool.not_true,Bool.not_false]) | ((with_reducible apply And.intro);focus (first | trivial | omega | decide | (simp -implicitDefEqProofs only [maxLen];omega) | (simp [maxLen,an,aq,au,ay,ak,ax,av] <;> omega))) | fail)
   refine (hK _ _ _ _ [] (dh _ _) ?_).2
   rw [Ap]
   simp -implicitDefEqProofs only [dx,List.map_cons,List.map_nil,List.append_nil]
   refine ⟨by simp [bL],trivial,trivial,⟨?_,trivial⟩,trivial,bN.2 ⟨?_,aQ.2 rfl,trivial⟩⟩
   ·rw [show cJ (cR ([i0].zip [HB.row 49 v (aI (bg l))]) i0) [] i0=some (HB.row 49 v (aI (bg l))) from by simp [cJ,cR]]
    exact ⟨rfl,rfl,dy.2 rfl⟩
   ·exact .fz _ _ (KK v l (fun j hj=>by cases j with
     | zero=>omega
     | succ j=>rfl))
end Go.aH

namespace Go.aH
open Go
theorem Jy:aV Go.Proofs.Try.prog 18 13 (fc Go.Proofs.Try.prog 18 13 [(.c 0 48 true)]) [(.c 0 48 true)]:=bl (by kernel_rfl)
def yF:List CK→List RV→Bool
 | [],[]=>true
 | .b::ks,.bool _::rs=>yF ks rs
 | .i::ks,.int _ _::rs=>yF ks rs
 | .s::ks,.str _::rs=>yF ks rs
 | _,_=>false
def qS:aj:={ (default:aj) with shown:=true,pad:=⟨⟨1,0⟩,⟨1,0⟩,⟨1,0⟩,⟨1,0⟩⟩ }
def Mk (k:Nat):aj:={ (default:aj) with shown:=true,pad:=⟨if 0<k then ⟨1,0⟩ else default,if 1<k then ⟨1,0⟩ else default,if 2<k then ⟨1,0⟩ else default,if 3<k then ⟨1,0⟩ else default⟩ }
theorem Nl:aJ Go.Proofs.Try.prog 18 [] [] [] qS.sv:=by
 refine bz Jy [] _ (by simp) (by simp [aN,aW,bn,aT,bf,aj.sv,Ln.sv,Nd.sv]) (fun K hK=>?_)
 conv in fc _ _ _ _=>reduce
 simp -implicitDefEqProofs only [go_sem,Int.reduceNegSucc]
 repeat' (first | (simp -implicitDefEqProofs only [go_sem,Int.reduceNegSucc]) | (with_reducible refine az ?_) | ((first | refine ai (fun hg=>?_) (fun hg=>?_) | refine aA (fun hg=>?_) (fun hg=>?_) | refine aB (fun hg=>?_) (fun hg=>?_)) <;> try simp -implicitDefEqProofs only [hg,Bool.not_true,Bool.not_false]) | ((with_reducible apply And.intro);focus (first | trivial | omega | decide | (simp -implicitDefEqProofs only [maxLen];omega) | (simp [maxLen,an,aq,au,ay,ak,ax,av] <;> omega) | (exact ⟨rfl,by decide⟩;done))) | fail)
 refine cN (ι:=Nat) (fun k=>[(4,.rv (.int .i64 k)),(0,.ptr 0 0),(1,.ptr 1 0)]) (fun k=>[some (.var ((default:aj).cells.map .rv)),some (.var ((Mk k).cells.map .rv))]) (fun k=>k≤4) (fun k=>4 - k) 0 (by simp) (bw (by simp [lk])) (fun k hk K' hN hX hR=>?_)
 simp -implicitDefEqProofs only [go_sem,Int.reduceNegSucc]
 refine ai (fun hg=>?_) (fun hg=>?_)
 ·have:k=0∨k=1∨k=2∨k=3:=by simp at hg;omega
  rcases this with rfl | rfl | rfl | rfl
  all_goals
   repeat' (first | (simp -implicitDefEqProofs only [go_sem,Int.reduceNegSucc,an,cu (k:=0) (by decide),cu (k:=1) (by decide),cu (k:=2) (by decide),cu (k:=3) (by decide)]) | (with_reducible refine az ?_) | ((first | refine ai (fun hg=>?_) (fun hg=>?_) | refine aA (fun hg=>?_) (fun hg=>?_) | refine aB (fun hg=>?_) (fun hg=>?_)) <;> try simp -implicitDefEqProofs only [hg,Bool.not_true,Bool.not_false]) | ((with_reducible apply And.intro);focus (first | trivial | omega | decide | (simp -implicitDefEqProofs only [maxLen];omega) | (simp [maxLen,an,aq,au,ay,ak,ax,av] <;> omega))) | fail)
  ·exact hN 1 _ _ (by omega) (by omega) (bw (by simp [lk]))
  ·exact hN 2 _ _ (by omega) (by omega) (bw (by simp [lk]))
  ·exact hN 3 _ _ (by omega) (by omega) (bw (by simp [lk]))
  ·exact hN 4 _ _ (by omega) (by omega) (bw (by simp [lk]))
 ·have aE:k=4:=by simp at hg;omega
  subst aE
  simp -implicitDefEqProofs only [go_sem,Int.reduceNegSucc]
  refine hX _ _ _ ?_
  repeat' (first | (simp -implicitDefEqProofs only [go_sem,Int.reduceNegSucc,an,fS]) | (with_reducible refine az ?_) | ((first | refine ai (fun hg=>?_) (fun hg=>?_) | refine aA (fun hg=>?_) (fun hg=>?_) | refine aB (fun hg=>?_) (fun hg=>?_)) <;> try simp -implicitDefEqProofs only [hg,Bool.not_true,Bool.not_false]) | ((with_reducible apply And.intro);focus (first | trivial | omega | decide | (simp -implicitDefEqProofs only [maxLen];omega) | (simp [maxLen,an,aq,au,ay,ak,ax,av] <;> omega) | (rfl;done) | (exact ⟨rfl,by decide⟩;done))) | fail)
  exact (hK _ _ (za (rs:=qS.cells) rfl rfl rfl)).2
theorem CD:fA [⟨qS,-1⟩]=0:=by decide +kernel
end Go.aH

namespace Go.aH
open Go
theorem JA:aV Go.Proofs.Try.prog 7 28 (fc Go.Proofs.Try.prog 7 28 [(.t 0)]) [(.t 0)]:=bl (by kernel_rfl)
theorem LK:(qt [⟨qS,-1⟩] 0 640 ⟨false,480⟩ false).map (·.1.w)=some 640:=by decide +kernel
theorem tE:aJ Go.Proofs.Try.prog 7 [] [] [] (.rv (.bool true)):=by
 refine bz JA [] _ (by simp) (by simp [aN,aW,bn,aT,bf,aj.sv,Ln.sv,Nd.sv]) (fun K hK=>?_)
 have hk:=NC [⟨qS,-1⟩] (by decide) CD 0 0
 have hb:=Dt [⟨qS,-1⟩] (zx (zV CD)) (by decide) 0 640 ⟨false,480⟩ false
 obtain ⟨q,hq,hw⟩:=Option.map_eq_some_iff.1 LK
 rw [hq] at hb
 obtain ⟨f,t⟩:=q
 have e0:((0:Int) != 0)=false:=rfl
 have q1:f.cells.length=25:=rfl
 have q2:(f.cells.map U.rv).take 25=f.cells.map U.rv:=rfl
 have q3:(f.cells.map U.rv).drop 25=[]:=rfl
 have q4:(f.cells.map U.rv)[2]?=some (.rv (.int .i64 f.w)):=rfl
 simp only at hw
 have e1:(f.w == 640)=true:=by simp [hw]
 simp -implicitDefEqProofs only [jK,dG,cE,Option.map,Option.isSome,Pl.cells,List.map_cons,List.map_nil,List.cons_append,List.nil_append,Sz.sv,Sz.cells] at hb
 conv in fc _ _ _ _=>reduce
 simp -implicitDefEqProofs only [go_sem,Int.reduceNegSucc]
 have bq:=Nl;repeat' (first | (simp -implicitDefEqProofs only [go_sem,Int.reduceNegSucc,an]) | (with_reducible refine az ?_) | (with_reducible first | refine aC bq ?_ | refine aD bq ?_) | ((first | refine ai (fun hg=>?_) (fun hg=>?_) | refine aA (fun hg=>?_) (fun hg=>?_) | refine aB (fun hg=>?_) (fun hg=>?_)) <;> try simp -implicitDefEqProofs only [hg,Bool.not_true,Bool.not_false]) | ((with_reducible apply And.intro);focus (first | trivial | omega | decide | (simp -implicitDefEqProofs only [maxLen];omega) | (simp [maxLen,an,aq,au,ay,ak,ax,av] <;> omega))) | fail)
 refine cC hk (Mm rfl) trivial ?_
 have y_2:=hb;repeat' (first | (simp -implicitDefEqProofs only [go_sem,Int.reduceNegSucc,e0,q1,q2,q3,q4,e1,List.append_nil]) | (with_reducible refine az ?_) | (with_reducible first | refine aC y_2 ?_ | refine aD y_2 ?_) | ((first | refine ai (fun hg=>?_) (fun hg=>?_) | refine aA (fun hg=>?_) (fun hg=>?_) | refine aB (fun hg=>?_) (fun hg=>?_)) <;> try simp -implicitDefEqProofs only [hg,Bool.not_true,Bool.not_false]) | ((with_reducible apply And.intro);focus (first | trivial | omega | decide | (simp -implicitDefEqProofs only [maxLen];omega) | (simp [maxLen,an,aq,au,ay,ak,ax,av] <;> omega))) | fail)
 exact (hK _ _ (bM rfl)).2
end Go.aH

namespace Go.aH
open Go
end Go.aH

namespace Go.aH
open Go
section
variable (n:Int)
theorem Cy:aJ Go.Proofs.Try.prog 39 [.rv .dj] [] [] (.rv (.int .i64 0)):=by
 refine bz BO [.rv .dj] _ (by simp) (by simp [aN,aW,bn,aT,bf,aj.sv,Ln.sv,Nd.sv]) (fun K hK=>?_)
 conv in fc _ _ _ _=>reduce
 simp -implicitDefEqProofs only [go_sem,Int.reduceNegSucc]
 repeat' (first | (simp -implicitDefEqProofs only [go_sem,Int.reduceNegSucc]) | (with_reducible refine az ?_) | ((first | refine ai (fun hg=>?_) (fun hg=>?_) | refine aA (fun hg=>?_) (fun hg=>?_) | refine aB (fun hg=>?_) (fun hg=>?_)) <;> try simp -implicitDefEqProofs only [hg,Bool.not_true,Bool.not_false]) | ((with_reducible apply And.intro);focus (first | trivial | omega | decide | (simp -implicitDefEqProofs only [maxLen];omega) | (simp [maxLen,an,aq,au,ay,ak,ax,av] <;> omega))) | fail)
 exact (hK _ _ (bM rfl)).2
theorem LA:aJ Go.Proofs.Try.prog 24 [.rv .dj,.rv (.int .i64 n)] [] [] (.rv (.bool false)):=by
 refine bz BR [.rv .dj,.rv (.int .i64 n)] _ (by simp) (by simp [aN,aW,bn,aT,bf,aj.sv,Ln.sv,Nd.sv]) (fun K hK=>?_)
 conv in fc _ _ _ _=>reduce
 simp -implicitDefEqProofs only [go_sem,Int.reduceNegSucc]
 by_cases h:n≥0
 ·have e1:decide (n≥0)=true:=decide_eq_true h
  have e2:decide (n<0)=false:=decide_eq_false (by omega)
  have bq:=Cy;repeat' (first | (simp -implicitDefEqProofs only [go_sem,Int.reduceNegSucc,e1,e2]) | (with_reducible refine az ?_) | (with_reducible first | refine aC bq ?_ | refine aD bq ?_) | ((first | refine ai (fun hg=>?_) (fun hg=>?_) | refine aA (fun hg=>?_) (fun hg=>?_) | refine aB (fun hg=>?_) (fun hg=>?_)) <;> try simp -implicitDefEqProofs only [hg,Bool.not_true,Bool.not_false]) | ((with_reducible apply And.intro);focus (first | trivial | omega | decide | (simp -implicitDefEqProofs only [maxLen];omega) | (simp [maxLen,an,aq,au,ay,ak,ax,av] <;> omega))) | fail)
  exact (hK _ _ (bM rfl)).2
 ·have e1:decide (n≥0)=false:=decide_eq_false h
  have y_2:=Cy;repeat' (first | (simp -implicitDefEqProofs only [go_sem,Int.reduceNegSucc,e1]) | (with_reducible refine az ?_) | (with_reducible first | refine aC y_2 ?_ | refine aD y_2 ?_) | ((first | refine ai (fun hg=>?_) (fun hg=>?_) | refine aA (fun hg=>?_) (fun hg=>?_) | refine aB (fun hg=>?_) (fun hg=>?_)) <;> try simp -implicitDefEqProofs only [hg,Bool.not_true,Bool.not_false]) | ((with_reducible apply And.intro);focus (first | trivial | omega | decide | (simp -implicitDefEqProofs only [maxLen];omega) | (simp [maxLen,an,aq,au,ay,ak,ax,av] <;> omega))) | fail)
  exact (hK _ _ (bM rfl)).2
theorem Cz:aJ Go.Proofs.Try.prog 10 [.rv .dj,.rv (.int .i64 n)] [] [] (.rv (.bool false)):=by
 refine bz BP [.rv .dj,.rv (.int .i64 n)] _ (by simp) (by simp [aN,aW,bn,aT,bf,aj.sv,Ln.sv,Nd.sv]) (fun K hK=>?_)
 conv in fc _ _ _ _=>reduce
 simp -implicitDefEqProofs only [go_sem,Int.reduceNegSucc]
 have bW:=LA n;repeat' (first | (simp -implicitDefEqProofs only [go_sem,Int.reduceNegSucc]) | (with_reducible refine az ?_) | (with_reducible first | refine aC bW ?_ | refine aD bW ?_) | ((first | refine ai (fun hg=>?_) (fun hg=>?_) | refine aA (fun hg=>?_) (fun hg=>?_) | refine aB (fun hg=>?_) (fun hg=>?_)) <;> try simp -implicitDefEqProofs only [hg,Bool.not_true,Bool.not_false]) | ((with_reducible apply And.intro);focus (first | trivial | omega | decide | (simp -implicitDefEqProofs only [maxLen];omega) | (simp [maxLen,an,aq,au,ay,ak,ax,av] <;> omega))) | fail)
 exact (hK _ _ (bM rfl)).2
theorem Ly:aJ Go.Proofs.Try.prog 27 [.rv .dj,.rv (.int .i64 n)] [] [] (.rv (.bool false)):=by
 refine bz BQ [.rv .dj,.rv (.int .i64 n)] _ (by simp) (by simp [aN,aW,bn,aT,bf,aj.sv,Ln.sv,Nd.sv]) (fun K hK=>?_)
 conv in fc _ _ _ _=>reduce
 simp -implicitDefEqProofs only [go_sem,Int.reduceNegSucc]
 have cr:=Cz n;repeat' (first | (simp -implicitDefEqProofs only [go_sem,Int.reduceNegSucc]) | (with_reducible refine az ?_) | (with_reducible first | refine aC cr ?_ | refine aD cr ?_) | ((first | refine ai (fun hg=>?_) (fun hg=>?_) | refine aA (fun hg=>?_) (fun hg=>?_) | refine aB (fun hg=>?_) (fun hg=>?_)) <;> try simp -implicitDefEqProofs only [hg,Bool.not_true,Bool.not_false]) | ((with_reducible apply And.intro);focus (first | trivial | omega | decide | (simp -implicitDefEqProofs only [maxLen];omega) | (simp [maxLen,an,aq,au,ay,ak,ax,av] <;> omega))) | fail)
 exact (hK _ _ (bM rfl)).2
end
end Go.aH

namespace Go.aH
open Go
theorem JQ:aV Go.Proofs.Try.prog 15 60 (fc Go.Proofs.Try.prog 15 60 [(.c 10 25 true),(.t 11)]) [(.c 10 25 true),(.t 11)]:=bl (by kernel_rfl)
theorem Jz:aV Go.Proofs.Try.prog 5 118 (fc Go.Proofs.Try.prog 5 118 [(.t 8)]) [(.t 8)]:=bl (by kernel_rfl)
theorem Lx (n w:Int) (h:Sz) (bZ:Bool):aJ Go.Proofs.Try.prog 13 [.rv .dj,.rv (.int .i64 n),.rv (.int .i64 w),h.sv,.rv (.bool bZ)] [] [] (jK none):=by
 refine bz BM [.rv .dj,.rv (.int .i64 n),.rv (.int .i64 w),h.sv,.rv (.bool bZ)] _ (by simp) (by simp [aN,aW,bn,aT,bf,aj.sv,Ln.sv,Nd.sv]) (fun K hK=>?_)
 have hm:=Cz n
 conv in fc _ _ _ _=>reduce
 simp -implicitDefEqProofs only [Sz.sv,Sz.cells,go_sem,Int.reduceNegSucc]
 have bq:=hm;repeat' (first | (simp -implicitDefEqProofs only [go_sem,Int.reduceNegSucc]) | (with_reducible refine az ?_) | (with_reducible first | refine aC bq ?_ | refine aD bq ?_) | ((first | refine ai (fun hg=>?_) (fun hg=>?_) | refine aA (fun hg=>?_) (fun hg=>?_) | refine aB (fun hg=>?_) (fun hg=>?_)) <;> try simp -implicitDefEqProofs only [hg,Bool.not_true,Bool.not_false]) | ((with_reducible apply And.intro);focus (first | trivial | omega | decide | (simp -implicitDefEqProofs only [maxLen];omega) | (simp [maxLen,an,aq,au,ay,ak,ax,av] <;> omega))) | fail)
 all_goals (refine (hK _ _ ?_).2;clear hK;simp -implicitDefEqProofs only [go_sem,Int.reduceNegSucc,br,bB,bJ,bN,aU,aQ,aP,dG,cE,Option.map,Option.isSome] <;>(try simp_all [-Int.not_lt,-Int.not_le,aU,aQ,aP,bY,dG,cE,Option.map,Option.isSome]) <;> try omega)
theorem Lz (n w:Int) (h:Sz) (o:Bool):aJ Go.Proofs.Try.prog 15 [.rv .dj,.rv (.int .i64 n),.rv (.int .i64 w),h.sv,.rv (.bool o)] [] [] (.aM [.agg ((dG none).map .rv),.rv (.bool false)]):=by
 refine bz JQ [.rv .dj,.rv (.int .i64 n),.rv (.int .i64 w),h.sv,.rv (.bool o)] _ (by simp) (by simp [aN,aW,bn,aT,bf,aj.sv,Ln.sv,Nd.sv]) (fun K hK=>?_)
 have hm:=Ly n
 conv in fc _ _ _ _=>reduce
 simp -implicitDefEqProofs only [Sz.sv,Sz.cells,go_sem,Int.reduceNegSucc]
 have y_2:=hm;repeat' (first | (simp -implicitDefEqProofs only [go_sem,Int.reduceNegSucc]) | (with_reducible refine az ?_) | (with_reducible first | refine aC y_2 ?_ | refine aD y_2 ?_) | ((first | refine ai (fun hg=>?_) (fun hg=>?_) | refine aA (fun hg=>?_) (fun hg=>?_) | refine aB (fun hg=>?_) (fun hg=>?_)) <;> try simp -implicitDefEqProofs only [hg,Bool.not_true,Bool.not_false]) | ((with_reducible apply And.intro);focus (first | trivial | omega | decide | (simp -implicitDefEqProofs only [maxLen];omega) | (simp [maxLen,an,aq,au,ay,ak,ax,av] <;> omega))) | fail)
 all_goals (refine (hK _ _ ?_).2;clear hK;simp -implicitDefEqProofs only [go_sem,Int.reduceNegSucc,br,bB,bJ,bN,aU,aQ,aP,dG] <;>(try simp_all [-Int.not_lt,-Int.not_le,aU,aQ,aP,bY,dG]) <;> try omega)
theorem Na (l:List Nd) (n w:Int) (h:Sz):aJ Go.Proofs.Try.prog 5 [.rv (.sl 49 (bg l)),.rv (.int .i64 n),.rv (.int .i64 w),h.sv] [] [] (.rv (.bool true)):=by
 refine bz Jz [.rv (.sl 49 (bg l)),.rv (.int .i64 n),.rv (.int .i64 w),h.sv] _ (by simp) (by simp [aN,aW,bn,aT,bf,aj.sv,Ln.sv,Nd.sv]) (fun K hK=>?_)
 have hlen:=au l
 conv in fc _ _ _ _=>reduce
 simp -implicitDefEqProofs only [Sz.sv,Sz.cells,go_sem,Int.reduceNegSucc]
 by_cases hl:l.length>10
 ·have e1:decide ((l.length:Int)>10)=true:=decide_eq_true (by omega)
  have bP:=tE;repeat' (first | (simp -implicitDefEqProofs only [go_sem,Int.reduceNegSucc,hlen,e1]) | (with_reducible refine az ?_) | (with_reducible first | refine aC bP ?_ | refine aD bP ?_) | ((first | refine ai (fun hg=>?_) (fun hg=>?_) | refine aA (fun hg=>?_) (fun hg=>?_) | refine aB (fun hg=>?_) (fun hg=>?_)) <;> try simp -implicitDefEqProofs only [hg,Bool.not_true,Bool.not_false]) | ((with_reducible apply And.intro);focus (first | trivial | omega | decide | (simp -implicitDefEqProofs only [maxLen];omega) | (simp [maxLen,an,aq,au,ay,ak,ax,av] <;> omega))) | fail)
  exact (hK _ _ (bM rfl)).2
 ·have e1:decide ((l.length:Int)>10)=false:=decide_eq_false (by omega)
  have mI:=NL l (by omega)
  by_cases hc:fA l=0
  ·have ht:=zV hc
   have hs:=zx ht
   rw [hc] at mI
   have nq:((0:Int) != 0)=false:=rfl
   have xj:((0:Int) == 0)=true:=rfl
   have xV:=NB l (by omega) hc
   have hx:=Dt l hs (by omega) n w h false
   have hb:=Lx n w h true
   have hw:=Lz n w h true
   have hm:=NP l ht n
   simp -implicitDefEqProofs only [jK,dG,cE,Option.map,Option.isSome,List.map_cons,List.map_nil,Sz.sv,Sz.cells] at hb hw
   by_cases kM:(fR l n && lW w h)=true
   ·simp -implicitDefEqProofs only [Bool.and_eq_true] at kM
    rw [kM.1] at hm
    have hy:=kM.2
    simp -implicitDefEqProofs only [lW,Bool.and_eq_true,Bool.or_eq_true,decide_eq_true_eq] at hy
    have g1:decide (w<0)=false:=decide_eq_false (by omega)
    have g2:decide (w>1125899906842624)=false:=decide_eq_false (by omega)
    generalize qt l n w h false=r at *
    obtain ⟨u,hu,fQ⟩:∃ u,dG (r.map (·.1))=u∧u.length=25:=⟨_,rfl,by cases r <;> rfl⟩
    obtain ⟨v,hv,hvl⟩:∃ v,cE (r.map (·.2))=v∧v.length=9:=⟨_,rfl,by cases r <;> rfl⟩
    simp -implicitDefEqProofs only [jK] at hx
    rw [hu,hv] at hx
    have u1:(u.map U.rv).drop 25=[]:=List.drop_of_length_le (by simp [fQ])
    have v1:(v.map U.rv).drop 9=[]:=List.drop_of_length_le (by simp [hvl])
    simp -implicitDefEqProofs only [Sz.sv,Sz.cells,List.map_cons,List.map_nil] at hx
    cases ha:h.auto with
    | true=>
      rw [ha] at hx hb hw
      have bV:=tE;have cq:=mI;have bW:=xV;have cr:=hx;have cA:=hb;have cT:=hw;have de:=hm;repeat' (first | (simp -implicitDefEqProofs only [go_sem,Int.reduceNegSucc,hlen,e1,nq,xj,fQ,hvl,u1,v1,List.length_map,List.append_nil,g1,g2]) | (with_reducible refine az ?_) | (with_reducible first | refine aC bV ?_ | refine aD bV ?_) | (with_reducible first | refine aC cq ?_ | refine aD cq ?_) | (with_reducible first | refine aC bW ?_ | refine aD bW ?_) | (with_reducible first | refine aC cr ?_ | refine aD cr ?_) | (with_reducible first | refine aC cA ?_ | refine aD cA ?_) | (with_reducible first | refine aC cT ?_ | refine aD cT ?_) | (with_reducible first | refine aC de ?_ | refine aD de ?_) | ((first | refine ai (fun hg=>?_) (fun hg=>?_) | refine aA (fun hg=>?_) (fun hg=>?_) | refine aB (fun hg=>?_) (fun hg=>?_)) <;> try simp -implicitDefEqProofs only [hg,Bool.not_true,Bool.not_false]) | ((with_reducible apply And.intro);focus (first | trivial | omega | decide | (simp -implicitDefEqProofs only [maxLen];omega) | (simp [maxLen,an,aq,au,ay,ak,ax,av] <;> omega))) | fail)
      exact (hK _ _ (bM rfl)).2
    | false=>
      rw [ha] at hx hb hw hy
      have hq:=hy.2.resolve_left (by simp)
      have g3:decide (h.n<0)=false:=decide_eq_false (by omega)
      have g4:decide (h.n>1125899906842624)=false:=decide_eq_false (by omega)
      have eL:=tE;have jY:=mI;have jZ:=xV;have ke:=hx;have mh:=hb;have mj:=hw;have mm:=hm;repeat' (first | (simp -implicitDefEqProofs only [go_sem,Int.reduceNegSucc,hlen,e1,nq,xj,fQ,hvl,u1,v1,List.length_map,List.append_nil,g1,g2,g3,g4]) | (with_reducible refine az ?_) | (with_reducible first | refine aC eL ?_ | refine aD eL ?_) | (with_reducible first | refine aC jY ?_ | refine aD jY ?_) | (with_reducible first | refine aC jZ ?_ | refine aD jZ ?_) | (with_reducible first | refine aC ke ?_ | refine aD ke ?_) | (with_reducible first | refine aC mh ?_ | refine aD mh ?_) | (with_reducible first | refine aC mj ?_ | refine aD mj ?_) | (with_reducible first | refine aC mm ?_ | refine aD mm ?_) | ((first | refine ai (fun hg=>?_) (fun hg=>?_) | refine aA (fun hg=>?_) (fun hg=>?_) | refine aB (fun hg=>?_) (fun hg=>?_)) <;> try simp -implicitDefEqProofs only [hg,Bool.not_true,Bool.not_false]) | ((with_reducible apply And.intro);focus (first | trivial | omega | decide | (simp -implicitDefEqProofs only [maxLen];omega) | (simp [maxLen,an,aq,au,ay,ak,ax,av] <;> omega))) | fail)
      exact (hK _ _ (bM rfl)).2
   ·rw [show qt l n w h false=none by unfold qt;rw [if_neg kM]] at hx
    simp -implicitDefEqProofs only [jK,dG,cE,Option.map,Option.isSome,List.map_cons,List.map_nil,Sz.sv,Sz.cells] at hx
    have mo:=tE;have oQ:=mI;have oR:=xV;have oS:=hx;have Eb:=hb;have Ec:=hw;have Ee:=hm;repeat' (first | (simp -implicitDefEqProofs only [go_sem,Int.reduceNegSucc,hlen,e1,nq,xj]) | (with_reducible refine az ?_) | (with_reducible first | refine aC mo ?_ | refine aD mo ?_) | (with_reducible first | refine aC oQ ?_ | refine aD oQ ?_) | (with_reducible first | refine aC oR ?_ | refine aD oR ?_) | (with_reducible first | refine aC oS ?_ | refine aD oS ?_) | (with_reducible first | refine aC Eb ?_ | refine aD Eb ?_) | (with_reducible first | refine aC Ec ?_ | refine aD Ec ?_) | (with_reducible first | refine aC Ee ?_ | refine aD Ee ?_) | ((first | refine ai (fun hg=>?_) (fun hg=>?_) | refine aA (fun hg=>?_) (fun hg=>?_) | refine aB (fun hg=>?_) (fun hg=>?_)) <;> try simp -implicitDefEqProofs only [hg,Bool.not_true,Bool.not_false]) | ((with_reducible apply And.intro);focus (first | trivial | omega | decide | (simp -implicitDefEqProofs only [maxLen];omega) | (simp [maxLen,an,aq,au,ay,ak,ax,av] <;> omega))) | fail)
    all_goals exact (hK _ _ (bM rfl)).2
  ·have nq:(fA l != 0)=true:=by simpa using hc
   have Ef:=tE;have Eg:=mI;repeat' (first | (simp -implicitDefEqProofs only [go_sem,Int.reduceNegSucc,hlen,e1,nq]) | (with_reducible refine az ?_) | (with_reducible first | refine aC Ef ?_ | refine aD Ef ?_) | (with_reducible first | refine aC Eg ?_ | refine aD Eg ?_) | ((first | refine ai (fun hg=>?_) (fun hg=>?_) | refine aA (fun hg=>?_) (fun hg=>?_) | refine aB (fun hg=>?_) (fun hg=>?_)) <;> try simp -implicitDefEqProofs only [hg,Bool.not_true,Bool.not_false]) | ((with_reducible apply And.intro);focus (first | trivial | omega | decide | (simp -implicitDefEqProofs only [maxLen];omega) | (simp [maxLen,an,aq,au,ay,ak,ax,av] <;> omega))) | fail)
   exact (hK _ _ (bM rfl)).2
end Go.aH
