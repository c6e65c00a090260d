/- Part 4 of the proof: F9, F10, F11, F12, F14, K9R, K13, F13, F15. -/
import Derived.Test.YteodikaaioghlaaFlowSums3
set_option linter.unusedSimpArgs false
set_option linter.unusedVariables false
set_option maxRecDepth 100000
set_option maxHeartbeats 16000000
namespace Go.aH
open Go
def dL (l:List Nd) (n:Int) (w:Int) (h:Sz):Ed:=uT (cC l n) w h (decide (n=0) || (cC l n).clip)
def okB (l:List Nd) (n:Int) (w:Int) (h:Sz):Bool:=uS (cC l n) w h && dH (kA (dL l n w h)) && ef (cC l n).width w true && ef (cC l n).eV w true && ef (cC l n).eU w true
def nQ (l:List Nd) (n:Int) (w:Int) (h:Sz) (bM:Bool):Ai:=⟨w,(dL l n w h).aY.d,dF (cC l n).width w true,(dL l n w h).aY.b,dA (kA (dL l n w h)),bM,bh (dF (cC l n).eV w true) 0,bh (dF (cC l n).eU w true) 1125899906842624⟩
def qw (l:List Nd) (ins:Ed→Ao→Option La×Bool) (n:Int) (w:Int) (h:Sz) (bM:Bool):Option (Fm×La):=
 if okB l n w h=true then (mV (nQ l n w h bM)).bind fun x=>qG (dL l n w h) x (cH l n).length (ins (dL l n w h) x) else none
theorem CC {x:Ln} {b d:Int} {has:Bool} (h:ef x b has=true) (hd:bR d=true):bR (bh (dF x b has) d)=true:=by
 unfold dF
 split
 ·simpa [bh] using hd
 ·split
  ·rename_i h1;simpa [bh] using h1.2
  ·split
   ·rename_i h1 h2 h3
    simp [h3] at h1
    simp [ef,h3,h1] at h
    simp -implicitDefEqProofs only [bh,Bool.false_eq_true,if_false,tC,h,if_true]
    unfold oD at h;simp at h;exact h.2
   ·rfl
theorem NU (l:List Nd) (hb:l.length≤8589934592) (n:Int) (w:Int) (h:Sz) (bM:Bool) (ins:Ed→Ao→Option La×Bool) (hr:∀ e x,(ins e x).2=true→(ins e x).1.isSome=true)
 (hI:∀ x:Ao,aJ Go.Proofs.Try.prog 28 [.rv (bZ l),.rv (.int .i64 n),.rv (.int .i64 x.w),(nB (dL l n w h)).sv,(dL l n w h).sv,.rv (.int .i64 (-1))] [] [] (.aM [.agg ((cF (ins (dL l n w h) x).1).map .rv),.rv (.bool (ins (dL l n w h) x).2)])) :
 aJ Go.Proofs.Try.prog 26 [.rv (bZ l),.rv (.int .i64 n),.rv (.int .i64 w),h.sv,.rv (.bool bM)] [] [] (kB (qw l ins n w h bM)):=by
 refine bJ Kb [.rv (bZ l),.rv (.int .i64 n),.rv (.int .i64 w),h.sv,.rv (.bool bM)] _ (by simp) (by simp [aN,bl,bz,bf,bq,ai.sv,Ln.sv,Nd.sv]) (fun K hK=>?_)
 have hst:=Du l n
 have h0:((n == 0):Bool)=decide (n=0):=by rw [Bool.eq_iff_iff];simp
 have he:=NW (cC l n) w h (decide (n=0) || (cC l n).clip)
 have ha:=NS (dL l n w h)
 have h1:=oO (cC l n).width w true
 have h2:=DB (cC l n).eV w true
 have h3:=DC (cC l n).eU w true
 have og:=fun x=>NX l hb n (dL l n w h) x (ins (dL l n w h) x) (hr _ _) (hI x)
 have hac:=fun a b=>NQ (nQ l n w h bM) a b
 have f1:=fun hq=>CC (x:=(cC l n).eV) (b:=w) (has:=true) hq (d:=0) rfl
 have f2:=fun hq=>CC (x:=(cC l n).eU) (b:=w) (has:=true) hq (d:=1125899906842624) rfl
 clear hI
 rw [show uT (cC l n) w h (decide (n=0) || (cC l n).clip)=dL l n w h from rfl] at he
 unfold nQ at hac
 unfold qw nQ okB at hK
 generalize hee:dL l n w h=e at *
 generalize dF (cC l n).width w true=W at *
 generalize bh (dF (cC l n).eV w true) 0=L at *
 generalize bh (dF (cC l n).eU w true) 1125899906842624=X at *
 generalize cC l n=s at *
 have q1:(s.cells.map U.rv).length=48:=rfl
 generalize hA:dA (kA e)=A at *
 generalize Pt:dH (kA e)=Ej at *
 generalize uS s w h=b1 at *
 generalize ef s.width w true=b2 at *
 generalize ef s.eV w true=b3 at *
 generalize ef s.eU w true=b4 at *
 simp -implicitDefEqProofs only [Ed.sv,Ed.cells,Q4.fm,Q4.ints,Sz.sv,Sz.cells,Ai.sv,Ai.cells,List.map_cons,List.map_nil,List.cons_append,List.nil_append] at he ha h1 h2 h3 og hac
 conv in fc _ _ _ _=>reduce
 simp -implicitDefEqProofs only [Sz.sv,Sz.cells,go_sem,Int.reduceNegSucc]
 cases hall:(b1 && Ej && b2 && b3 && b4) with
 | true=>
   simp -implicitDefEqProofs only [Bool.and_eq_true] at hall
   obtain ⟨⟨⟨⟨rfl,rfl⟩,rfl⟩,rfl⟩,rfl⟩:=hall
   have hx:=hac (f1 rfl) (f2 rfl)
   simp -implicitDefEqProofs only [Bool.and_self,if_true] at hK
   generalize mV ⟨w,e.aY.d,W,e.aY.b,A,bM,L,X⟩=o at *
   cases o with
   | none=>
     simp -implicitDefEqProofs only [oB,Option.isSome,Ao.cells,List.map_cons,List.map_nil,Option.bind] at hx hK
     cases hn0:decide (n=0) <;> rw [hn0] at he h0 <;> simp -implicitDefEqProofs only [Bool.true_or,Bool.false_or] at he
     all_goals ((have br:=hst;have y_2:=he;have bP:=ha;have bV:=h1;have cq:=h2;have cg:=h3;have cz:=hx;repeat' (first | (simp -implicitDefEqProofs only [go_sem,Int.reduceNegSucc,q1,gl,iJ,gn,iK,gE,iV,gP,jg,hD,jt,iq,jC,ir,jD,iu,jE,iw,jF,iy,jG,gp,iL,gq,iM,gu,iN,gw,iO,gx,iP,gz,iQ,gA,iR,gB,iS,gC,iT,gD,iU,gF,iW,gG,iX,gH,iY,gI,iZ,gJ,ja,gK,jb,gL,jc,gM,jd,gN,je,gO,jf,gQ,jh,gR,ji,gS,jk,gT,jl,gU,jm,gV,jn,gW,jo,gX,jq,gY,jr,gZ,js,hJ,ju,hU,jv,fT,jw,ia,jx,ic,jy,ie,jz,ig,jA,ij,jB,iE,iz,iA,iB,iC,iD,iF,iG,iH,iI,gk,fS,an,h0]) | (with_reducible refine aB ?_) | (with_reducible first | refine aF br ?_ | refine aG br ?_) | (with_reducible first | refine aF y_2 ?_ | refine aG y_2 ?_) | (with_reducible first | refine aF bP ?_ | refine aG bP ?_) | (with_reducible first | refine aF bV ?_ | refine aG bV ?_) | (with_reducible first | refine aF cq ?_ | refine aG cq ?_) | (with_reducible first | refine aF cg ?_ | refine aG cg ?_) | (with_reducible first | refine aF cz ?_ | refine aG cz ?_) | ((first | refine aj (fun hg=>?_) (fun hg=>?_) | refine aC (fun hg=>?_) (fun hg=>?_) | refine aD (fun hg=>?_) (fun hg=>?_)) <;> try simp -implicitDefEqProofs only [hg,Bool.not_true,Bool.not_false]) | ((with_reducible apply And.intro);focus (first | trivial | omega | decide | (simp -implicitDefEqProofs only [maxLen];omega) | (simp [maxLen,an,aq,au,aA,ak,ax,av] <;> omega))) | fail)))
     all_goals (refine (hK _ _ ?_).2;clear hK;simp -implicitDefEqProofs only [go_sem,Int.reduceNegSucc,bw,bD,bL,bN,aZ,aR,aP,eP,cF,Option.map,Option.isSome] <;>(try simp_all [-Int.not_lt,-Int.not_le,aZ,aR,aP,ck,eP,cF,Option.map,Option.isSome]) <;> try omega)
   | some x=>
     have hfl:=og x
     simp -implicitDefEqProofs only [oB,Option.isSome,Ao.cells,List.map_cons,List.map_nil,Option.bind] at hx hK hfl
     generalize qG e x (cH l n).length (ins e x)=r at *
     obtain ⟨u,hu,kK⟩:∃ u,eP (r.map (·.1))=u∧u.length=25:=⟨_,rfl,by cases r <;> rfl⟩
     obtain ⟨v,hv,hvl⟩:∃ v,cF (r.map (·.2))=v∧v.length=9:=⟨_,rfl,by cases r <;> rfl⟩
     simp -implicitDefEqProofs only [kB] at hfl hK
     rw [hu,hv] at hfl hK
     have u1:(u.map U.rv).drop 25=[]:=List.drop_of_length_le (by simp [kK])
     have u2:(u.map U.rv).take 25=u.map U.rv:=List.take_of_length_le (by simp [kK])
     have v1:(v.map U.rv).drop 9=[]:=List.drop_of_length_le (by simp [hvl])
     have v2:(v.map U.rv).take 9=v.map U.rv:=List.take_of_length_le (by simp [hvl])
     cases hn0:decide (n=0) <;> rw [hn0] at he h0 <;> simp -implicitDefEqProofs only [Bool.true_or,Bool.false_or] at he
     all_goals ((have cA:=hst;have cS:=he;have dc:=ha;have eM:=h1;have mj:=h2;have mm:=h3;have mo:=hx;have oR:=hfl;repeat' (first | (simp -implicitDefEqProofs only [go_sem,Int.reduceNegSucc,q1,gl,iJ,gn,iK,gE,iV,gP,jg,hD,jt,iq,jC,ir,jD,iu,jE,iw,jF,iy,jG,gp,iL,gq,iM,gu,iN,gw,iO,gx,iP,gz,iQ,gA,iR,gB,iS,gC,iT,gD,iU,gF,iW,gG,iX,gH,iY,gI,iZ,gJ,ja,gK,jb,gL,jc,gM,jd,gN,je,gO,jf,gQ,jh,gR,ji,gS,jk,gT,jl,gU,jm,gV,jn,gW,jo,gX,jq,gY,jr,gZ,js,hJ,ju,hU,jv,fT,jw,ia,jx,ic,jy,ie,jz,ig,jA,ij,jB,iE,iz,iA,iB,iC,iD,iF,iG,iH,iI,gk,fS,an,h0,kK,hvl,u1,u2,v1,v2,List.length_map,List.append_nil]) | (with_reducible refine aB ?_) | (with_reducible first | refine aF cA ?_ | refine aG cA ?_) | (with_reducible first | refine aF cS ?_ | refine aG cS ?_) | (with_reducible first | refine aF dc ?_ | refine aG dc ?_) | (with_reducible first | refine aF eM ?_ | refine aG eM ?_) | (with_reducible first | refine aF mj ?_ | refine aG mj ?_) | (with_reducible first | refine aF mm ?_ | refine aG mm ?_) | (with_reducible first | refine aF mo ?_ | refine aG mo ?_) | (with_reducible first | refine aF oR ?_ | refine aG oR ?_) | ((first | refine aj (fun hg=>?_) (fun hg=>?_) | refine aC (fun hg=>?_) (fun hg=>?_) | refine aD (fun hg=>?_) (fun hg=>?_)) <;> try simp -implicitDefEqProofs only [hg,Bool.not_true,Bool.not_false]) | ((with_reducible apply And.intro);focus (first | trivial | omega | decide | (simp -implicitDefEqProofs only [maxLen];omega) | (simp [maxLen,an,aq,au,aA,ak,ax,av] <;> omega))) | fail)))
     all_goals (refine (hK _ _ ?_).2;simp -implicitDefEqProofs only [go_sem,Int.reduceNegSucc,bw,bD,bL,bN,aZ,aR,aP,cL,kK,hvl,u2,v2,List.length_map,List.drop_zero])
 | false=>
   simp -implicitDefEqProofs only [hall,Bool.false_eq_true,if_false] at hK
   cases hn0:decide (n=0) <;> rw [hn0] at he h0 <;> simp -implicitDefEqProofs only [Bool.true_or,Bool.false_or] at he
   all_goals ((have oS:=hst;have oT:=he;have oU:=ha;have tW:=h1;have tX:=h2;have tY:=h3;repeat' (first | (simp -implicitDefEqProofs only [go_sem,Int.reduceNegSucc,q1,gl,iJ,gn,iK,gE,iV,gP,jg,hD,jt,iq,jC,ir,jD,iu,jE,iw,jF,iy,jG,gp,iL,gq,iM,gu,iN,gw,iO,gx,iP,gz,iQ,gA,iR,gB,iS,gC,iT,gD,iU,gF,iW,gG,iX,gH,iY,gI,iZ,gJ,ja,gK,jb,gL,jc,gM,jd,gN,je,gO,jf,gQ,jh,gR,ji,gS,jk,gT,jl,gU,jm,gV,jn,gW,jo,gX,jq,gY,jr,gZ,js,hJ,ju,hU,jv,fT,jw,ia,jx,ic,jy,ie,jz,ig,jA,ij,jB,iE,iz,iA,iB,iC,iD,iF,iG,iH,iI,gk,fS,an,h0]) | (with_reducible refine aB ?_) | (with_reducible first | refine aF oS ?_ | refine aG oS ?_) | (with_reducible first | refine aF oT ?_ | refine aG oT ?_) | (with_reducible first | refine aF oU ?_ | refine aG oU ?_) | (with_reducible first | refine aF tW ?_ | refine aG tW ?_) | (with_reducible first | refine aF tX ?_ | refine aG tX ?_) | (with_reducible first | refine aF tY ?_ | refine aG tY ?_) | ((first | refine aj (fun hg=>?_) (fun hg=>?_) | refine aC (fun hg=>?_) (fun hg=>?_) | refine aD (fun hg=>?_) (fun hg=>?_)) <;> try simp -implicitDefEqProofs only [hg,Bool.not_true,Bool.not_false]) | ((with_reducible apply And.intro);focus (first | trivial | omega | decide | (simp -implicitDefEqProofs only [maxLen];omega) | (simp [maxLen,an,aq,au,aA,ak,ax,av] <;> omega))) | fail)))
   all_goals first | (exfalso;simp_all;done) | skip
   all_goals (refine (hK _ _ ?_).2;clear hK;simp -implicitDefEqProofs only [go_sem,Int.reduceNegSucc,bw,bD,bL,bN,aZ,aR,aP,eP,cF,Option.map,Option.isSome] <;>(try simp_all [-Int.not_lt,-Int.not_le,aZ,aR,aP,ck,eP,cF,Option.map,Option.isSome]) <;> try omega)
end Go.aH

namespace Go.aH
open Go
theorem Kg:aV Go.Proofs.Try.prog 28 160 (fc Go.Proofs.Try.prog 28 160 [(.c 12 9 true),(.t 13)]) [(.c 12 9 true),(.t 13)]:=bn (by kernel_rfl)
def mA (r:Nat×Fm×La):List (Nat×Fm):=(r.1,r.2.1)::r.2.2.L
def cj (rs:List (Nat×Fm×La)):List (Nat×Fm):=rs.flatMap mA
def gd (rs:List (Nat×Fm×La)):List Int:=(List.range rs.length).map fun i=>((cj (rs.take i)).length:Int)
def ff (rs:List (Nat×Fm×La)):List Ch:=rs.map fun r=>r.2.1.child
def ep:List (Nat×Fm×La)→List Int→List (Nat×Fm)
 | [],_=>[]
 | r::rs,[]=>mA r++ep rs []
 | r::rs,y::ys=>(r.1,{ r.2.1 with y:=y })::(r.2.2.L++ep rs ys)
def kU (bx:Nat→Option (Fm×La)):List Nat→Option (List (Nat×Fm×La))
 | []=>some []
 | m::ms=>match bx m with
   | some q=>(kU bx ms).map ((m,q) :: ·)
   | none=>none
def qT (rs:List (Nat×Fm×La)) (q:Pl×List Int) (ob:Bool):La:=
 ⟨ep rs q.2,q.1,q.2,if q.1.mZ=true then 0 else (let a:=if ob=true then q.1.lA else IntKind.i64.wrap (q.1.lA+nM q.1.cur);if 0>a then 0 else a)⟩
def lP (bx:Nat→Option (Fm×La)) (kids:List Nat) (ok ot ob:Bool):Option La×Bool:=
 if ok=true then match kU bx kids with
  | some rs=>match mh (ff rs) ot with
    | some q=>if rJ q.1.cur=true then (some (qT rs q ob),bR (qT rs q ob).high) else (none,false)
    | none=>(none,false)
  | none=>(none,false)
 else (none,false)
theorem IX {bx:Nat→Option (Fm×La)} {kids:List Nat} {ok ot ob:Bool} (h:(lP bx kids ok ot ob).2=true):(lP bx kids ok ot ob).1.isSome=true:=by
 revert h
 unfold lP
 repeat' split
 all_goals simp
theorem Ek {rs:List (Nat×Fm×La)} {r:Nat×Fm×La}:cj (rs++[r])=cj rs++mA r:=by simp [cj]
theorem oE (a:List (Nat×Fm)):(dG a).length=a.length:=by simp [dG]
theorem yP {rs:List (Nat×Fm×La)}:(gd rs).length=rs.length:=by simp [gd]
theorem LR {rs:List (Nat×Fm×La)} {r:Nat×Fm×La}:gd (rs++[r])=gd rs++[((cj rs).length:Int)]:=by
 simp -implicitDefEqProofs only [gd,List.length_append,List.length_cons,List.length_nil,Nat.zero_add,List.range_succ,List.map_append,List.map_cons,List.map_nil]
 congr 1
 ·refine List.map_congr_left (fun i hi=>?_)
  rw [List.take_append_of_le_length (by simp at hi;omega)]
 ·simp
theorem LQ {rs:List (Nat×Fm×La)} {i:Nat} (h:i<rs.length):(aK (gd rs))[i]?.getD []=[.int .i64 ((cj (rs.take i)).length:Int)]:=by simp [aK,gd,h]
theorem za:∀ (rs:List (Nat×Fm×La)),ep rs []=cj rs
 | []=>rfl
 | r::rs=>by rw [ep,za rs];simp [cj]
theorem tE:∀ (rs:List (Nat×Fm×La)) (ys:List Int),(ep rs ys).length=(cj rs).length
 | [],_=>rfl
 | r::rs,[]=>by rw [za]
 | r::rs,y::ys=>by rw [ep];simp [cj,mA,tE rs ys]
theorem vZ:∀ (rs:List (Nat×Fm×La)) (ys:List Int) (i:Nat) (h:i<rs.length) (h2:i<ys.length),(ep rs (ys.take i))[(cj (rs.take i)).length]?=some ((rs[i]'h).1,(rs[i]'h).2.1)∧
 (ep rs (ys.take i)).set (cj (rs.take i)).length ((rs[i]'h).1,{ (rs[i]'h).2.1 with y:=ys[i]'h2 })=ep rs (ys.take (i+1))
 | [],_,i,h,_=>by simp at h
 | r::rs,[],i,_,h=>by simp at h
 | r::rs,y::ys,0,_,_=>by
   refine ⟨by simp [ep,cj,mA],?_⟩
   simp -implicitDefEqProofs only [List.take_zero,ep,cj,List.flatMap_nil,List.length_nil,mA,List.cons_append,List.set_cons_zero,List.getElem_cons_zero,Nat.zero_add,List.take_succ_cons]
 | r::rs,y::ys,i+1,h,h2=>by
   have ih:=vZ rs ys i (by simpa using h) (by simpa using h2)
   have e:(cj ((r::rs).take (i+1))).length=(r.2.2.L.length+(cj (rs.take i)).length)+1:=by simp [cj,mA]
   rw [e]
   simp -implicitDefEqProofs only [List.take_succ_cons,ep,List.getElem?_cons_succ,List.set_cons_succ,List.getElem_cons_succ]
   refine ⟨?_,?_⟩
   ·rw [List.getElem?_append_right (by omega),Nat.add_sub_cancel_left];exact ih.1
   ·rw [List.set_append_right _ _ (by omega),Nat.add_sub_cancel_left,ih.2]
theorem Mz {rs:List (Nat×Fm×La)} {ys:List Int} {i:Nat} (h:i<rs.length) (h2:i<ys.length):(aI (dG (ep rs (ys.take i))))[(cj (rs.take i)).length]?.getD []=(dX ((rs[i]'h).1,(rs[i]'h).2.1)).map U.rv:=by
 have:=(vZ rs ys i h h2).1
 simp [aI,dG,this]
theorem MC {rs:List (Nat×Fm×La)} {ys:List Int} {i:Nat} (h:i<rs.length) (h2:i<ys.length):(aI (dG (ep rs (ys.take i)))).set (cj (rs.take i)).length ((dX ((rs[i]'h).1,{ (rs[i]'h).2.1 with y:=ys[i]'h2 })).map U.rv)=aI (dG (ep rs (ys.take (i+1)))):=by
 rw [← (vZ rs ys i h h2).2]
 simp [aI,dG,List.map_set]
theorem OB (q:Nat×Fm) (y:Int):splice ((dX q).map U.rv) 2 [.rv (.int .i64 y)]=(dX (q.1,{ q.2 with y:=y })).map U.rv:=rfl
theorem Mn (q:Nat×Fm):(dX q).length=26:=rfl
theorem xD (f:Fm):f.cells.length=25:=rfl
theorem Mp (L:List (Nat×Fm)):∀ x∈dG L,∀ r∈x,r.one=true:=by
 intro x hx r hr
 obtain ⟨q,_,rfl⟩:=List.mem_map.1 hx
 simp -implicitDefEqProofs only [dX,Fm.cells,Q4.ints,Ch.cells,List.cons_append,List.nil_append,List.mem_cons,List.not_mem_nil,or_false] at hr
 rcases hr with h | h | h | h | h | h | h | h | h | h | h | h | h | h | h | h | h | h | h | h | h | h | h | h | h | h <;> rw [h] <;> rfl
theorem Fs {rs:List (Nat×Fm×La)} {r:Nat×Fm×La}:ff (rs++[r])=ff rs++[r.2.1.child]:=by simp [ff]
theorem DM:∀ {l:List Ch} {p:Pl} {ys:List Int} {q:Pl×List Int},qm l p ys=some q→q.2.length=ys.length+l.length
 | [],p,ys,q,h=>by cases h;rfl
 | c::l,p,ys,q,h=>by
   rw [qm] at h
   split at h
   ·have:=DM h;simp at this ⊢;omega
   ·cases h
end Go.aH

namespace Go.aH
open Go
theorem FW (l:List Nd) (n:Int):(cH l n).length≤l.length:=by
 have h1:=List.length_filter_le (fun (m:Nat)=>kW l m) (eI l n)
 have h2:=Cc l n
 unfold cH;omega
theorem xp (e:Ed):(e.cells.map U.rv)[26]?=some (.rv (.bool e.qh)):=rfl
theorem FC (e:Ed):(e.cells.map U.rv)[27]?=some (.rv (.bool e.oA)):=rfl
theorem qB (e:Ed):e.cells.length=28:=rfl
theorem AM (f:Fm):(f.cells.map U.rv).take 25=f.cells.map U.rv:=rfl
theorem Gk (f:Fm):f.cells.take 25=f.cells:=rfl
theorem AL (f:Fm):(f.cells.map U.rv).drop 25=[]:=rfl
theorem Gj (f:Fm):((f.cells.map U.rv).drop 17).take 8=f.child.cells.map U.rv:=rfl
theorem Ft (c:Ch):c.cells.length=8:=rfl
theorem EG {X:List (Nat×Fm)} {m:Nat} {f:Fm}:aI (dG X)++[U.rv (.int .i64 m)::f.cells.map U.rv]=aI (dG (X++[(m,f)])):=by simp [aI,dG,dX]
theorem EH {X Y:List (Nat×Fm)}:aI (dG X)++aI (dG Y)=aI (dG (X++Y)):=by simp [aI,dG]
theorem ED {X:List Ch} {c:Ch}:aI (fe X)++[c.cells.map U.rv]=aI (fe (X++[c])):=by simp [aI,fe]
theorem OJ {X:List (Nat×Fm)}:(dG X).take X.length=dG X:=List.take_of_length_le (by rw [oE];omega)
theorem OK {X:List (Nat×Fm)} {y:Nat×Fm}:(dG (X++[y])).take (X.length+1)=dG (X++[y]):=List.take_of_length_le (by rw [oE];simp)
def Pe:List U:=[.rv .bS,.rv .bS,.rv (.int .i64 0),.rv (.int .i64 0),.rv (.int .i64 0),.rv (.int .i64 0),.rv (.int .i64 0),.rv (.bool false),.rv (.int .i64 0)]
def ov (h:Sz) (e:Ed) (k n:Nat) (o:List Int) (c:List Ch) (L:List (Nat×Fm)):List (Option HB):=
 [some (.var (h.cells.map .rv)),some (.var (e.cells.map .rv)),some (.var Pe),some (.var [.row 6 (2*k) n,.rv .bS,.rv (.int .i64 0),.rv (.int .i64 0),.rv (.int .i64 0),.rv (.int .i64 0),.rv (.int .i64 0),.rv (.bool false),.rv (.int .i64 0)]),
  some (.row 1 k (aI (aK o))),some (.row 8 k (aI (fe c))),some (.row 26 (2*k) (aI (dG L)))]
def vA (h:Sz) (e:Ed) (rs:List (Nat×Fm×La)):List (Option HB):=ov h e rs.length (cj rs).length (gd rs) (ff rs) (cj rs)
theorem IW (h:Sz) (e:Ed) (k n:Nat) (o:List Int) (c:List Ch) (L:List (Nat×Fm)):kr (mT 7) (ov h e k n o c L):=
 ⟨mB,mB,mB (rs:=cF none),⟨lz.2 (by decide),mB (rs:=[.bS,.int .i64 0,.int .i64 0,.int .i64 0,.int .i64 0,.int .i64 0,.bool false,.int .i64 0])⟩,fM,fM,fM,trivial⟩
theorem Oc (l:List Nd) (hb:l.length≤1000) (n:Int) (w:Int) (h:Sz) (e:Ed) (bx:Nat→Option (Fm×La)) (hlen:∀ m∈cH l n,∀ q,bx m=some q→q.2.L.length≤1000)
 (hB:∀ m∈cH l n,aJ Go.Proofs.Try.prog 26 [.rv (bZ l),.rv (.int .i64 m),.rv (.int .i64 w),h.sv,.rv (.bool (cC l n).bM)] [] [] (kB (bx m))) :
 aJ Go.Proofs.Try.prog 28 [.rv (bZ l),.rv (.int .i64 n),.rv (.int .i64 w),h.sv,e.sv,.rv (.int .i64 (-1))] [] [] (.aM [.agg ((cF (lP bx (cH l n) (nG w h) e.qh e.oA).1).map .rv),.rv (.bool (lP bx (cH l n) (nG w h) e.qh e.oA).2)]):=by
 refine bJ Kg [.rv (bZ l),.rv (.int .i64 n),.rv (.int .i64 w),h.sv,e.sv,.rv (.int .i64 (-1))] _ (by simp) (by simp [aN,bl,bz,bf,bq,ai.sv,Ln.sv,Nd.sv]) (fun K hK=>?_)
 have hm:=Dy w h
 have hf:=Dt l n (by omega)
 have hfl:=CA (cH l n)
 have hst:=Du l n
 have FD:=FW l n
 have g0:decide ((-1:Int)≥0)=false:=rfl
 unfold lP at hK
 cases hmay:nG w h with
 | false=>
   rw [hmay] at hm
   simp -implicitDefEqProofs only [hmay,Bool.false_eq_true,if_false] at hK
   conv in fc _ _ _ _=>reduce
   simp -implicitDefEqProofs only [Sz.sv,Sz.cells,Ed.sv,go_sem,Int.reduceNegSucc] at hm ⊢
   have br:=hm;repeat' (first | (simp -implicitDefEqProofs only [go_sem,Int.reduceNegSucc,qB]) | (with_reducible refine aB ?_) | (with_reducible first | refine aF br ?_ | refine aG br ?_) | ((first | refine aj (fun hg=>?_) (fun hg=>?_) | refine aC (fun hg=>?_) (fun hg=>?_) | refine aD (fun hg=>?_) (fun hg=>?_)) <;> try simp -implicitDefEqProofs only [hg,Bool.not_true,Bool.not_false]) | ((with_reducible apply And.intro);focus (first | trivial | omega | decide | (simp -implicitDefEqProofs only [maxLen];omega) | (simp [maxLen,an,aq,au,aA,ak,ax,av] <;> omega))) | fail)
   all_goals (refine (hK _ _ ?_).2;clear hK;simp -implicitDefEqProofs only [go_sem,Int.reduceNegSucc,bw,bD,bL,bN,aZ,aR,aP,cF] <;>(try simp_all [-Int.not_lt,-Int.not_le,aZ,aR,aP,ck,cF]) <;> try omega)
 | true=>
   rw [hmay] at hm
   simp -implicitDefEqProofs only [hmay,if_true] at hK
   obtain ⟨ks,hks⟩:∃ ks,ks=cH l n:=⟨_,rfl⟩
   rw [← hks] at hf hfl hB hK FD hlen
   clear hks
   conv in fc _ _ _ _=>reduce
   simp -implicitDefEqProofs only [Sz.sv,Sz.cells,Ed.sv,go_sem,Int.reduceNegSucc] at hm ⊢
   have y_2:=hm;have bP:=hf;repeat' (first | (simp -implicitDefEqProofs only [go_sem,Int.reduceNegSucc,hfl,g0,qB]) | (with_reducible refine aB ?_) | (with_reducible first | refine aF y_2 ?_ | refine aG y_2 ?_) | (with_reducible first | refine aF bP ?_ | refine aG bP ?_) | ((first | refine aj (fun hg=>?_) (fun hg=>?_) | refine aC (fun hg=>?_) (fun hg=>?_) | refine aD (fun hg=>?_) (fun hg=>?_)) <;> try simp -implicitDefEqProofs only [hg,Bool.not_true,Bool.not_false]) | ((with_reducible apply And.intro);focus (first | trivial | omega | decide | (simp -implicitDefEqProofs only [maxLen];omega) | (simp [maxLen,an,aq,au,aA,ak,ax,av] <;> omega))) | fail)
   refine cN (ι:=List (Nat×Fm×La)) (fun rs=>[(54,.rv (.int .i64 rs.length)),(53,.rv (.int .i64 ks.length)),(52,.rv (.sl 1 (aK (bt ks)))),(17,.ptr 3 0),(18,.row 4 rs.length rs.length),(19,.row 5 rs.length rs.length),(12,.ptr 2 0),(9,.ptr 0 0),(10,.ptr 1 0),(0,.rv (bZ l)),(1,.rv (.int .i64 n)),(2,.rv (.int .i64 w))]) (vA h e)
    (fun rs=>rs.length≤ks.length∧(cj rs).length≤1001*rs.length∧kU bx ks=(kU bx (ks.drop rs.length)).map (rs ++ ·)) (fun rs=>ks.length - rs.length) [] ⟨Nat.zero_le _,by simp [cj],by cases hq:kU bx ks <;> simp [hq]⟩
    ((si 18 1 0 rfl).trans ((si 19 8 0 rfl).trans ((Aw 3 26 0 rfl rfl).trans (bA (by simp [lk,bk]))))) (fun rs Iz K' hN hX hR=>?_)
   obtain ⟨Iw,PA,lK⟩:=Iz
   simp -implicitDefEqProofs only [vA,ov,Sz.cells,go_sem,Int.reduceNegSucc]
   refine aj (fun hg=>?_) (fun hg=>?_)
   ·have ay:rs.length<ks.length:=by simp at hg;omega
    have wu:=cr (k:=rs.length) (by omega)
    have hx:(aK (bt ks))[rs.length]?.getD []=[.int .i64 (ks[rs.length]:Nat)]:=by simp [aK,bt,ay]
    have lG:=hB _ (List.getElem_mem ay)
    rw [List.drop_eq_getElem_cons ay,kU] at lK
    have sI:=hlen _ (List.getElem_mem ay)
    have AR:=fT (cC l n)
    have q1:((cC l n).cells.map U.rv).length=48:=rfl
    generalize ks[rs.length]=m at *
    cases fX:bx m with
    | none=>
      rw [fX] at lG lK
      simp -implicitDefEqProofs only [Option.map] at lK
      rw [lK] at hK
      simp -implicitDefEqProofs only [kB,eP,cF,Option.map,Option.isSome,List.map_cons,List.map_nil,Sz.sv,Sz.cells] at lG
      have bV:=hst;have cq:=lG;repeat' (first | (simp -implicitDefEqProofs only [go_sem,Int.reduceNegSucc,hfl,hx,AR,q1,an]) | (with_reducible refine aB ?_) | (with_reducible first | refine aF bV ?_ | refine aG bV ?_) | (with_reducible first | refine aF cq ?_ | refine aG cq ?_) | ((first | refine aj (fun hg=>?_) (fun hg=>?_) | refine aC (fun hg=>?_) (fun hg=>?_) | refine aD (fun hg=>?_) (fun hg=>?_)) <;> try simp -implicitDefEqProofs only [hg,Bool.not_true,Bool.not_false]) | ((with_reducible apply And.intro);focus (first | trivial | omega | decide | (simp -implicitDefEqProofs only [maxLen];omega) | (simp [maxLen,an,aq,au,aA,ak,ax,av] <;> omega))) | fail)
      refine hR _ _ (hK _ _ ?_).2
      simp -implicitDefEqProofs only [go_sem,Int.reduceNegSucc,bw,bD,bL,bN,aZ,aR,aP,cF]
    | some q=>
      rw [fX] at lG lK
      obtain ⟨f,t⟩:=q
      have Ii:=sI _ fX
      simp -implicitDefEqProofs only [Option.map_map] at lK
      have Bn:(cj rs).length≤1001000:=by omega
      have hrl:rs.length≤1000:=by omega
      have hv:2*rs.length+1+1=2*(rs.length+1):=by omega
      have ho:=LR (rs:=rs) (r:=(m,f,t))
      have hc:=Fs (rs:=rs) (r:=(m,f,t))
      have hls:cj rs++[(m,f)]++t.L=cj (rs++[(m,f,t)]):=by rw [Ek];simp [mA]
      have IB:(aK (gd rs)).take rs.length=aK (gd rs):=List.take_of_length_le (by rw [ak,yP];omega)
      have IC:(fe (ff rs)).take rs.length=fe (ff rs):=List.take_of_length_le (by rw [rX];simp [ff])
      have l1:(aK (gd rs)).length=rs.length:=by rw [ak,yP]
      have l2:(fe (ff rs)).length=rs.length:=by rw [rX];simp [ff]
      have l3:=oE (cj rs)
      have l4:=oE t.L
      have l5:(dG (cj rs++[(m,f)])).length=(cj rs).length+1:=by rw [oE];simp
      simp only at Ii
      simp -implicitDefEqProofs only [kB,eP,cF,Option.map,Option.isSome,Pl.cells,List.map_cons,List.map_nil,List.cons_append,List.nil_append,Sz.sv,Sz.cells] at lG
      have cg:=hst;have cz:=lG;repeat' (first | (simp -implicitDefEqProofs only [go_sem,Int.reduceNegSucc,hfl,hx,AR,q1,an,xD,AM,Gk,AL,Gj,Ft,EG,EH,ED,rz,OJ,OK,IB,IC,l1,l2,l3,l4,l5,wu,hv]) | (with_reducible refine aB ?_) | (with_reducible first | refine aF cg ?_ | refine aG cg ?_) | (with_reducible first | refine aF cz ?_ | refine aG cz ?_) | ((first | refine aj (fun hg=>?_) (fun hg=>?_) | refine aC (fun hg=>?_) (fun hg=>?_) | refine aD (fun hg=>?_) (fun hg=>?_)) <;> try simp -implicitDefEqProofs only [hg,Bool.not_true,Bool.not_false]) | ((with_reducible apply And.intro);focus (first | trivial | omega | decide | (simp -implicitDefEqProofs only [maxLen];omega) | (simp [maxLen,an,aq,au,aA,ak,ax,av] <;> omega) | (omega;done))) | fail)
      have hq:vA h e (rs++[(m,f,t)])=ov h e (rs.length+1) ((cj rs).length+1+t.L.length) (gd rs++[((cj rs).length:Int)]) (ff rs++[f.child]) (cj rs++[(m,f)]++t.L):=by
       unfold vA
       rw [ho,hc,← hls]
       simp -implicitDefEqProofs only [List.length_append,List.length_cons,List.length_nil,Nat.zero_add]
      refine hN (rs++[(m,f,t)]) _ _ ⟨by simp;omega,by rw [← hls];simp;omega,?_⟩ (by simp;omega) ?_
      ·rw [lK]
       simp -implicitDefEqProofs only [List.length_append,List.length_cons,List.length_nil,Nat.zero_add]
       congr 1
       funext x
       simp
      ·rw [hq]
       exact sj (h':=ov h e (rs.length+1) ((cj rs).length+1+t.L.length) (gd rs++[((cj rs).length:Int)]) (ff rs++[f.child]) (cj rs++[(m,f)]++t.L)) (Nat.zero_le _) (IW _ _ _ _ _ _ _) (by simp [fU,lk,ng,lz,nc,ov])
   ·have ay:rs.length=ks.length:=by simp at hg;omega
    rw [ay,List.drop_length] at lK
    simp -implicitDefEqProofs only [kU,Option.map,List.append_nil] at lK
    rw [lK] at hK
    simp -implicitDefEqProofs only [lK] at hK
    simp -implicitDefEqProofs only [go_sem,Int.reduceNegSucc]
    refine hX _ _ _ ?_
    clear hN hX hR
    have hrl:rs.length≤1000:=by omega
    have jP:(ff rs).length=rs.length:=by simp [ff]
    have hS:=NP (ff rs) e.qh (by omega) 5 rs.length 7 (by decide)
    rw [jP] at hS
    cases sP:mh (ff rs) e.qh with
    | none=>
      rw [sP] at hS
      simp -implicitDefEqProofs only [sP] at hK
      have hv:=zu ⟨0,0⟩
      simp -implicitDefEqProofs only [qi,oG,Option.isSome,Su.sv,Su.cells,List.map_cons,List.map_nil] at hS hv
      have cA:=hS;have cS:=hv;repeat' (first | (simp -implicitDefEqProofs only [go_sem,Int.reduceNegSucc,xp,qB]) | (with_reducible refine aB ?_) | (refine cD cA ?_ ?_ ?_;(focus (simp [aW,ag] <;> fail));(focus (simp [bp,bk] <;> fail))) | (refine cY cA ?_ ?_ ?_;(focus (simp [aW,ag] <;> fail));(focus (simp [bp,bk] <;> fail))) | (with_reducible first | refine aF cS ?_ | refine aG cS ?_) | ((first | refine aj (fun hg=>?_) (fun hg=>?_) | refine aC (fun hg=>?_) (fun hg=>?_) | refine aD (fun hg=>?_) (fun hg=>?_)) <;> try simp -implicitDefEqProofs only [hg,Bool.not_true,Bool.not_false]) | ((with_reducible apply And.intro);focus (first | trivial | omega | decide | (simp -implicitDefEqProofs only [maxLen];omega) | (simp [maxLen,an,aq,au,aA,ak,ax,av] <;> omega))) | fail)
      all_goals (refine (hK _ _ ?_).2;clear hK;simp -implicitDefEqProofs only [go_sem,Int.reduceNegSucc,bw,bD,bL,bN,aZ,aR,aP,cF] <;>(try simp_all [-Int.not_lt,-Int.not_le,aZ,aR,aP,ck,cF]) <;> try omega)
    | some q=>
      obtain ⟨p,ys⟩:=q
      rw [sP] at hS
      simp -implicitDefEqProofs only [sP] at hK
      have IQ:=DM sP
      simp -implicitDefEqProofs only [List.length_nil,Nat.zero_add,jP] at IQ
      have hv:=zu p.cur
      simp -implicitDefEqProofs only [qi,oG,jX,Option.isSome,Pl.cells,Su.sv,Su.cells,List.map_cons,List.map_nil] at hS hv
      cases vv:rJ p.cur with
      | false=>
        rw [vv] at hv
        simp -implicitDefEqProofs only [vv,Bool.false_eq_true,if_false] at hK
        have dc:=hS;have eM:=hv;repeat' (first | (simp -implicitDefEqProofs only [go_sem,Int.reduceNegSucc,xp,qB]) | (with_reducible refine aB ?_) | (refine cD dc ?_ ?_ ?_;(focus (simp [aW,ag] <;> fail));(focus (simp [bp,bk] <;> fail))) | (refine cY dc ?_ ?_ ?_;(focus (simp [aW,ag] <;> fail));(focus (simp [bp,bk] <;> fail))) | (with_reducible first | refine aF eM ?_ | refine aG eM ?_) | ((first | refine aj (fun hg=>?_) (fun hg=>?_) | refine aC (fun hg=>?_) (fun hg=>?_) | refine aD (fun hg=>?_) (fun hg=>?_)) <;> try simp -implicitDefEqProofs only [hg,Bool.not_true,Bool.not_false]) | ((with_reducible apply And.intro);focus (first | trivial | omega | decide | (simp -implicitDefEqProofs only [maxLen];omega) | (simp [maxLen,an,aq,au,aA,ak,ax,av] <;> omega))) | fail)
        all_goals (refine (hK _ _ ?_).2;clear hK;simp -implicitDefEqProofs only [go_sem,Int.reduceNegSucc,bw,bD,bL,bN,aZ,aR,aP,cF] <;>(try simp_all [-Int.not_lt,-Int.not_le,aZ,aR,aP,ck,cF]) <;> try omega)
      | true=>
        rw [vv] at hv
        simp -implicitDefEqProofs only [vv,if_true] at hK
        have mj:=hS;have mm:=hv;repeat' (first | (simp -implicitDefEqProofs only [go_sem,Int.reduceNegSucc,xp,qB]) | (with_reducible refine aB ?_) | (refine cD mj ?_ ?_ ?_;(focus (simp [aW,ag] <;> fail));(focus (simp [bp,bk] <;> fail))) | (refine cY mj ?_ ?_ ?_;(focus (simp [aW,ag] <;> fail));(focus (simp [bp,bk] <;> fail))) | (with_reducible first | refine aF mm ?_ | refine aG mm ?_) | ((first | refine aj (fun hg=>?_) (fun hg=>?_) | refine aC (fun hg=>?_) (fun hg=>?_) | refine aD (fun hg=>?_) (fun hg=>?_)) <;> try simp -implicitDefEqProofs only [hg,Bool.not_true,Bool.not_false]) | ((with_reducible apply And.intro);focus (first | trivial | omega | decide | (simp -implicitDefEqProofs only [maxLen];omega) | (simp [maxLen,an,aq,au,aA,ak,ax,av] <;> omega))) | fail)
        have IS:=ak ys
        have pS:=za rs
        refine cN (ι:=Nat) (fun i=>[(119,.rv (.int .i64 i)),(118,.rv (.int .i64 rs.length)),(117,.row 4 rs.length rs.length),(17,.ptr 3 0),(25,.ptr 8 0),(27,.rv (.int .i64 (nM p.cur))),(10,.ptr 1 0),(12,.ptr 2 0)])
         (fun i=>ov h e rs.length (cj rs).length (gd rs) (ff rs) (ep rs (ys.take i))++[some (.row 1 ys.length (aI (aK ys))),some (.var [.row 7 ys.length ys.length,.rv (.int .i64 p.lA),.rv (.int .i64 p.top.p),.rv (.int .i64 p.top.n),.rv (.int .i64 p.cur.p),.rv (.int .i64 p.cur.n),.rv (.bool p.mZ)])])
         (fun i=>i≤rs.length) (fun i=>rs.length - i) 0 (Nat.zero_le _) (by rw [List.take_zero,pS];exact bA (by simp [lk])) (fun i hi K' hN hX hR=>?_)
        simp -implicitDefEqProofs only [ov,Sz.cells,go_sem,Int.reduceNegSucc]
        refine aj (fun hg=>?_) (fun hg=>?_)
        ·have hi4:i<rs.length:=by simp at hg;omega
         have wu:=cr (k:=i) (by omega)
         have ho:=LQ hi4
         have Ir:=yP (rs:=rs)
         have hy:=ow (show i<ys.length by omega)
         have lF:=Mz hi4 (show i<ys.length by omega)
         have kj:=MC hi4 (show i<ys.length by omega)
         have hlt:(cj (rs.take i)).length<(cj rs).length:=by
          have:=(vZ rs ys i hi4 (by omega)).1
          have:=(List.getElem?_eq_some_iff.1 this).1
          rwa [tE] at this
         have dr:(dG (ep rs (ys.take i))).length=(cj rs).length:=by rw [oE,tE]
         have dn:=ak (gd rs)
         have OA:=OB (rs[i].1,rs[i].2.1) ys[i]
         have yc:=Mn (rs[i].1,rs[i].2.1)
         repeat' (first | (simp -implicitDefEqProofs only [go_sem,Int.reduceNegSucc,ho,hy,lF,kj,dr,dn,Ir,OA,yc,wu,IS]) | (with_reducible refine aB ?_) | ((first | refine aj (fun hg=>?_) (fun hg=>?_) | refine aC (fun hg=>?_) (fun hg=>?_) | refine aD (fun hg=>?_) (fun hg=>?_)) <;> try simp -implicitDefEqProofs only [hg,Bool.not_true,Bool.not_false]) | ((with_reducible apply And.intro);focus (first | trivial | omega | decide | (simp -implicitDefEqProofs only [maxLen];omega) | (simp [maxLen,an,aq,au,aA,ak,ax,av] <;> omega) | (omega;done))) | fail)
         exact hN (i+1) _ _ (by omega) (by omega) (bA (by simp [lk]))
        ·have hi4:i=rs.length:=by simp at hg;omega
         have mM:ys.take i=ys:=List.take_of_length_le (by omega)
         rw [mM]
         clear mM hg
         simp -implicitDefEqProofs only [go_sem,Int.reduceNegSucc]
         refine hX _ _ _ ?_
         clear hN hX hR
         have hfit:=gj (qT rs (p,ys) e.oA).high
         have dr:(dG (ep rs ys)).length=(cj rs).length:=by rw [oE,tE]
         simp -implicitDefEqProofs only [qT] at hfit hK
         cases lF:p.mZ <;> cases Bt:e.oA <;> simp -implicitDefEqProofs only [lF,Bt,Bool.false_eq_true,if_true,if_false] at hfit hK
         all_goals ((have mo:=hfit;repeat' (first | (simp -implicitDefEqProofs only [go_sem,Int.reduceNegSucc,FC,qB,lF,Bt]) | (with_reducible refine aB ?_) | (with_reducible first | refine aF mo ?_ | refine aG mo ?_) | ((first | refine aj (fun hg=>?_) (fun hg=>?_) | refine aC (fun hg=>?_) (fun hg=>?_) | refine aD (fun hg=>?_) (fun hg=>?_)) <;> try simp -implicitDefEqProofs only [hg,Bool.not_true,Bool.not_false]) | ((with_reducible apply And.intro);focus (first | trivial | omega | decide | (simp -implicitDefEqProofs only [maxLen];omega) | (simp [maxLen,an,aq,au,aA,ak,ax,av] <;> omega))) | fail)))
         all_goals (refine (hK _ _ ?_).2;simp -implicitDefEqProofs only [go_sem,Int.reduceNegSucc,bw,bD,bL,bN,aZ,aR,aP,cF,Pl.cells,lF])
         all_goals (refine ⟨zh rfl rfl (by rw [dr]) (Mp _),zh rfl rfl (by rw [ak]) (lQ _)⟩)
end Go.aH

namespace Go.aH
open Go
theorem Ka:aV Go.Proofs.Try.prog 13 34 (fc Go.Proofs.Try.prog 13 34 [(.c 10 25 true),(.c 11 9 true),(.t 12)]) [(.c 10 25 true),(.c 11 9 true),(.t 12)]:=bn (by kernel_rfl)
def vB (l:List Nd) (bd:Nat→Int→Sz→Bool→Option (Fm×La)) (n:Nat) (e:Ed) (x:Ao):Option La×Bool:=
 lP (fun m=>bd m x.w (nB e) (cC l n).bM) (cH l n) (nG x.w (nB e)) e.qh e.oA
def lq (l:List Nd):Nat→Nat→Int→Sz→Bool→Option (Fm×La)
 | 0,_,_,_,_=>none
 | d+1,n,w,h,bM=>qw l (vB l (lq l d) n) n w h bM
def rS (l:List Nd) (n:Int) (w:Int) (h:Sz) (bM:Bool):Option (Fm×La):=if (lX l n && nG w h)=true then lq l (l.length+1) n.toNat w h bM else none
theorem Gh (l:List Nd) (n:Int):(cH l n).Pairwise (·< ·):=by
 unfold cH eI
 split
 ·unfold dw aS
  exact (List.pairwise_lt_range.filter _).filter _
 ·exact .nil
theorem nr {l:List Nd} {n:Nat} {m:Nat} (h:m∈cH l n):0<m∧m<l.length∧aQ l m=n:=by
 have h:=(List.mem_filter.1 h).1
 unfold eI at h
 split at h
 ·exact qV.1 (by simpa using h)
 ·simp at h
theorem Gi {l:List Nd} (hs:dJ l) {n:Nat} (hn:n<l.length):(cH l n).Pairwise (fun x y=>cX l x≤y)∧∀ m∈cH l n,n+1≤m∧m≤cX l m∧cX l m≤cX l n:=by
 have hwf:=hs.wf
 refine ⟨?_,fun m hm=>?_⟩
 ·refine List.Pairwise.imp_of_mem (fun {x y} hx hy hlt=>?_) (Gh l n)
  obtain ⟨x1,x2,x3⟩:=nr hx
  obtain ⟨y1,y2,y3⟩:=nr hy
  have PE:=hs.up x x1 x2
  apply Classical.byContradiction
  intro hc
  have:=(hs.below x2 y2).2 ⟨by omega,by omega⟩
  rcases (pZ hwf y1 y2).1 this with h | h
  ·omega
  ·rw [y3] at h
   have:=qZ _ _ h
   simp at this
   omega
 ·obtain ⟨m1,m2,m3⟩:=nr hm
  have hu:=hs.up m m1 m2
  obtain ⟨g1,g2⟩:=hs.uU m2
  refine ⟨by omega,by omega,?_⟩
  have h1:=(hs.below m2 (show cX l m - 1<l.length by omega)).2 ⟨by omega,by omega⟩
  have h2:n∈aO l m:=(pZ hwf m1 m2).2 (.inr (by rw [m3];simpa using vJ))
  have:=(hs.below hn (show cX l m - 1<l.length by omega)).1 (yY h1 n h2)
  omega
theorem DI (e:Nat→Nat):∀ (ks:List Nat) (a b:Nat),ks.Pairwise (fun x y=>e x≤y)→(∀ k∈ks,a≤k∧k≤e k∧e k≤b)→(ks.map fun k=>e k - k).sum≤b - a
 | [],_,_,_,_=>by simp
 | k::ks,a,b,hp,hk=>by
   rw [List.pairwise_cons] at hp
   have:=DI e ks (e k) b hp.2 (fun x hx=>⟨hp.1 x hx,(hk x (.tail _ hx)).2⟩)
   have:=hk k (.head _)
   simp -implicitDefEqProofs only [List.map_cons,List.sum_cons]
   omega
theorem CY {bx:Nat→Option (Fm×La)} {g:Nat→Nat}:∀ {ks:List Nat} {rs:List (Nat×Fm×La)},kU bx ks=some rs→(∀ m∈ks,∀ q,bx m=some q→q.2.L.length+1≤g m)→(cj rs).length≤(ks.map g).sum
 | [],rs,h,_=>by cases h;simp [cj]
 | m::ks,rs,h,hg=>by
   rw [kU] at h
   split at h
   ·rename_i q hq
    rw [Option.map_eq_some_iff] at h
    obtain ⟨rs',h1,rfl⟩:=h
    have:=CY h1 (fun x hx=>hg x (.tail _ hx))
    have:=hg m (.head _) q hq
    show (mA (m,q)++cj rs').length≤_
    simp -implicitDefEqProofs only [mA,List.length_append,List.length_cons,List.map_cons,List.sum_cons]
    omega
   ·cases h
theorem BF {bx:Nat→Option (Fm×La)} {ks:List Nat} {ok ot ob:Bool} {t:La} (h:(lP bx ks ok ot ob).1=some t):∃ rs q,kU bx ks=some rs∧mh (ff rs) ot=some q∧t=qT rs q ob:=by
 unfold lP at h
 repeat' split at h
 all_goals first | (cases h;done) | (cases h;exact ⟨_,_,by assumption,by assumption,rfl⟩)
theorem wV {l:List Nd} {ins:Ed→Ao→Option La×Bool} {n w:Int} {h:Sz} {bM:Bool} {q:Fm×La} (hq:qw l ins n w h bM=some q):∃ x,mV (nQ l n w h bM)=some x∧okB l n w h=true∧(ins (dL l n w h) x)=(some q.2,true)∧q.1=qI (dL l n w h) x (cH l n).length q.2:=by
 unfold qw at hq
 split at hq
 ·rename_i hok
  rw [Option.bind_eq_some_iff] at hq
  obtain ⟨x,hx,hf⟩:=hq
  unfold qG at hf
  split at hf
  ·rename_i h2
   rw [Option.bind_eq_some_iff] at hf
   obtain ⟨t,ht,hf⟩:=hf
   split at hf
   ·cases hf;exact ⟨x,hx,hok,Prod.ext ht h2,rfl⟩
   ·cases hf
  ·cases hf
 ·cases hq
theorem wU {l:List Nd} (hs:dJ l):∀ (d n:Nat) (w:Int) (h:Sz) (bM:Bool) (q:Fm×La),n<l.length→lq l d n w h bM=some q→q.2.L.length+1≤cX l n - n
 | 0,_,_,_,_,_,_,h=>by cases h
 | d+1,n,w,h,bM,q,hn,hq=>by
   obtain ⟨x,_,_,hi,_⟩:=wV hq
   obtain ⟨rs,z,h1,h2,h3⟩:=BF (t:=q.2) (by rw [show lP _ _ _ _ _=vB l (lq l d) n (dL l n w h) x from rfl,hi])
   obtain ⟨p1,p2⟩:=Gi hs hn
   have hl:=CY (g:=fun m=>cX l m - m) h1 (fun m hm r hr=>wU hs d m _ _ _ r (nr hm).2.1 hr)
   have PD:=DI (cX l) _ (n+1) (cX l n) p1 p2
   have:=(hs.uU hn).1
   rw [h3]
   simp -implicitDefEqProofs only [qT,tE]
   omega
theorem Dv (l:List Nd) (hs:dJ l) (hb:l.length≤1000):∀ (d n:Nat) (w:Int) (h:Sz) (bM:Bool),n<l.length→l.length<n+d→aJ Go.Proofs.Try.prog 26 [.rv (bZ l),.rv (.int .i64 n),.rv (.int .i64 w),h.sv,.rv (.bool bM)] [] [] (kB (lq l d n w h bM))
 | 0,n,w,h,bM,hn,hd=>by omega
 | d+1,n,w,h,bM,hn,hd=>by
   refine NU l (by omega) n w h bM (vB l (lq l d) n) (fun e x hq=>IX hq) (fun x=>?_)
   refine Oc l hb n x.w (nB (dL l n w h)) (dL l n w h) (fun m=>lq l d m x.w (nB (dL l n w h)) (cC l n).bM) (fun m hm q hq=>?_) (fun m hm=>?_)
   ·have:=wU hs d m _ _ _ q (nr hm).2.1 hq
    have:=(hs.uU (nr hm).2.1).2
    omega
   ·obtain ⟨h1,h2,h3⟩:=nr hm
    have:=hs.up m h1 h2
    exact Dv l hs hb d m _ _ _ h2 (by omega)
theorem Dx (l:List Nd) (hs:dJ l) (hb:l.length≤1000) (n:Int) (w:Int) (h:Sz) (bM:Bool):aJ Go.Proofs.Try.prog 13 [.rv (bZ l),.rv (.int .i64 n),.rv (.int .i64 w),h.sv,.rv (.bool bM)] [] [] (kB (rS l n w h bM)):=by
 refine bJ Ka [.rv (bZ l),.rv (.int .i64 n),.rv (.int .i64 w),h.sv,.rv (.bool bM)] _ (by simp) (by simp [aN,bl,bz,bf,bq,ai.sv,Ln.sv,Nd.sv]) (fun K hK=>?_)
 have hm:=zn l n
 have hw:=Dy w h
 unfold rS at hK
 cases pQ:lX l n with
 | false=>
   rw [pQ] at hm
   simp -implicitDefEqProofs only [pQ,Bool.false_and,Bool.false_eq_true,if_false] at hK
   conv in fc _ _ _ _=>reduce
   simp -implicitDefEqProofs only [Sz.sv,Sz.cells,go_sem,Int.reduceNegSucc]
   have br:=hm;repeat' (first | (simp -implicitDefEqProofs only [go_sem,Int.reduceNegSucc]) | (with_reducible refine aB ?_) | (with_reducible first | refine aF br ?_ | refine aG br ?_) | ((first | refine aj (fun hg=>?_) (fun hg=>?_) | refine aC (fun hg=>?_) (fun hg=>?_) | refine aD (fun hg=>?_) (fun hg=>?_)) <;> try simp -implicitDefEqProofs only [hg,Bool.not_true,Bool.not_false]) | ((with_reducible apply And.intro);focus (first | trivial | omega | decide | (simp -implicitDefEqProofs only [maxLen];omega) | (simp [maxLen,an,aq,au,aA,ak,ax,av] <;> omega))) | fail)
   all_goals (refine (hK _ _ ?_).2;clear hK;simp -implicitDefEqProofs only [go_sem,Int.reduceNegSucc,bw,bD,bL,bN,aZ,aR,aP,eP,cF,Option.map,Option.isSome] <;>(try simp_all [-Int.not_lt,-Int.not_le,aZ,aR,aP,ck,eP,cF,Option.map,Option.isSome]) <;> try omega)
 | true=>
   rw [pQ] at hm
   cases vq:nG w h with
   | false=>
     rw [vq] at hw
     simp -implicitDefEqProofs only [pQ,vq,Bool.true_and,Bool.false_eq_true,if_false] at hK
     conv in fc _ _ _ _=>reduce
     simp -implicitDefEqProofs only [Sz.sv,Sz.cells,go_sem,Int.reduceNegSucc] at hw ⊢
     have y_2:=hm;have bP:=hw;repeat' (first | (simp -implicitDefEqProofs only [go_sem,Int.reduceNegSucc]) | (with_reducible refine aB ?_) | (with_reducible first | refine aF y_2 ?_ | refine aG y_2 ?_) | (with_reducible first | refine aF bP ?_ | refine aG bP ?_) | ((first | refine aj (fun hg=>?_) (fun hg=>?_) | refine aC (fun hg=>?_) (fun hg=>?_) | refine aD (fun hg=>?_) (fun hg=>?_)) <;> try simp -implicitDefEqProofs only [hg,Bool.not_true,Bool.not_false]) | ((with_reducible apply And.intro);focus (first | trivial | omega | decide | (simp -implicitDefEqProofs only [maxLen];omega) | (simp [maxLen,an,aq,au,aA,ak,ax,av] <;> omega))) | fail)
     all_goals (refine (hK _ _ ?_).2;clear hK;simp -implicitDefEqProofs only [go_sem,Int.reduceNegSucc,bw,bD,bL,bN,aZ,aR,aP,eP,cF,Option.map,Option.isSome] <;>(try simp_all [-Int.not_lt,-Int.not_le,aZ,aR,aP,ck,eP,cF,Option.map,Option.isSome]) <;> try omega)
   | true=>
     rw [vq] at hw
     simp -implicitDefEqProofs only [pQ,vq,Bool.and_self,if_true] at hK
     have hin:eH l n=true:=by simp [lX] at pQ;exact pQ.1
     obtain ⟨k,rfl,hk⟩:=qQ hin
     have hx:=Dv l hs hb (l.length+1) k w h bM hk (by omega)
     simp -implicitDefEqProofs only [Int.toNat_natCast] at hK
     generalize lq l (l.length+1) k w h bM=r at *
     simp -implicitDefEqProofs only [kB] at hx hK
     obtain ⟨u,hu,kK⟩:∃ u,eP (r.map (·.1))=u∧u.length=25:=⟨_,rfl,by cases r <;> rfl⟩
     obtain ⟨v,hv,hvl⟩:∃ v,cF (r.map (·.2))=v∧v.length=9:=⟨_,rfl,by cases r <;> rfl⟩
     rw [hu,hv] at hx hK
     have u1:(u.map U.rv).drop 25=[]:=List.drop_of_length_le (by simp [kK])
     have u2:(u.map U.rv).take 25=u.map U.rv:=List.take_of_length_le (by simp [kK])
     have v1:(v.map U.rv).drop 9=[]:=List.drop_of_length_le (by simp [hvl])
     have v2:(v.map U.rv).take 9=v.map U.rv:=List.take_of_length_le (by simp [hvl])
     conv in fc _ _ _ _=>reduce
     simp -implicitDefEqProofs only [Sz.sv,Sz.cells,go_sem,Int.reduceNegSucc] at hw hx ⊢
     have bV:=hm;have cq:=hw;have cg:=hx;repeat' (first | (simp -implicitDefEqProofs only [go_sem,Int.reduceNegSucc,kK,hvl,u1,u2,v1,v2,List.length_map,List.append_nil]) | (with_reducible refine aB ?_) | (with_reducible first | refine aF bV ?_ | refine aG bV ?_) | (with_reducible first | refine aF cq ?_ | refine aG cq ?_) | (with_reducible first | refine aF cg ?_ | refine aG cg ?_) | ((first | refine aj (fun hg=>?_) (fun hg=>?_) | refine aC (fun hg=>?_) (fun hg=>?_) | refine aD (fun hg=>?_) (fun hg=>?_)) <;> try simp -implicitDefEqProofs only [hg,Bool.not_true,Bool.not_false]) | ((with_reducible apply And.intro);focus (first | trivial | omega | decide | (simp -implicitDefEqProofs only [maxLen];omega) | (simp [maxLen,an,aq,au,aA,ak,ax,av] <;> omega))) | fail)
     all_goals (refine (hK _ _ ?_).2;simp -implicitDefEqProofs only [go_sem,Int.reduceNegSucc,bw,bD,bL,bN,aZ,aR,aP,cL,kK,hvl,u2,v2,List.length_map,List.drop_zero])
end Go.aH

namespace Go.aH
open Go
theorem EM (i:Ai) (s:Sz):(dK i s).l+(dK i s).w+(dK i s).r+i.around=i.base:=by
 unfold dK
 split
 ·simp -implicitDefEqProofs only [];omega
 ·simp -implicitDefEqProofs only [qU]
  split
  ·simp -implicitDefEqProofs only [];omega
  ·split
   ·simp -implicitDefEqProofs only [];omega
   ·simp -implicitDefEqProofs only [];omega
theorem Ep {i:Ai} {x:Ao} (h:mV i=some x):∃ s,x=dK i s∧nS i s=true:=by
 unfold mV at h
 split at h
 ·unfold rO at h
  split at h
  ·rename_i h0
   rw [Option.bind_eq_some_iff] at h
   obtain ⟨a,ha,hx⟩:=h
   have key:∃ s,a=dK i s∧nS i s=true:=by
    unfold tL at ha
    split at ha
    ·split at ha
     ·cases ha;exact ⟨_,rfl,by assumption⟩
     ·cases ha
    ·cases ha;exact ⟨_,rfl,h0⟩
   unfold tL at hx
   split at hx
   ·split at hx
    ·cases hx;exact ⟨_,rfl,by assumption⟩
    ·cases hx
   ·cases hx;exact key
  ·cases h
 ·cases h
structure GF (b:Int) (f:Fm):Prop where
 sum:f.aY.d+f.aX.d+f.pad.d+f.w+f.pad.b+f.aX.b+f.aY.b=b
 x:f.x=f.aY.d
 fit:∀ v∈[f.aY.d,f.aX.d,f.pad.d,f.w,f.pad.b,f.aX.b,f.aY.b],bR v=true
theorem zR {l:List Nd} {ins:Ed→Ao→Option La×Bool} {n w:Int} {h:Sz} {bM:Bool} {q:Fm×La} (hq:qw l ins n w h bM=some q):GF w q.1:=by
 obtain ⟨x,hx,hok,_,hf⟩:=wV hq
 obtain ⟨s,rfl,hs⟩:=Ep hx
 have h1:=EM (nQ l n w h bM) s
 unfold okB at hok
 simp -implicitDefEqProofs only [Bool.and_eq_true] at hok
 have h2:=hok.1.1.1.2
 have h3:dA (kA (dL l n w h))=(kA (dL l n w h)).sum:=by simp [dA,h2]
 simp -implicitDefEqProofs only [nS,Bool.and_eq_true] at hs
 unfold dH at h2
 simp -implicitDefEqProofs only [Bool.and_eq_true,List.all_eq_true] at h2
 have h4:=h2.1
 rw [show (nQ l n w h bM).around=_ from h3,show (nQ l n w h bM).base=w from rfl] at h1
 simp -implicitDefEqProofs only [kA,List.mem_cons,List.not_mem_nil,or_false,forall_eq_or_imp,forall_eq,List.sum_cons,List.sum_nil] at h1 h4
 rw [hf]
 refine ⟨by simp -implicitDefEqProofs only [qI];omega,rfl,?_⟩
 intro v hv
 simp -implicitDefEqProofs only [qI,List.mem_cons,List.not_mem_nil,or_false] at hv
 rcases hv with rfl | rfl | rfl | rfl | rfl | rfl | rfl
 ·exact hs.1.1
 ·exact h4.1
 ·exact h4.2.1
 ·exact hs.1.2
 ·exact h4.2.2.1
 ·exact h4.2.2.2
 ·exact hs.2
theorem GF.y {b:Int} {f:Fm} (h:GF b f) (y:Int):GF b { f with y:=y }:=⟨h.sum,h.x,h.fit⟩
inductive pe (par:Nat→Nat) (N:Nat):List (Nat×Fm)→List Int→Prop where
 | nil (wd:List Int):pe par N [] wd
 | cons (m:Nat) (f:Fm) (L:List (Nat×Fm)) (wd:List Int) (h0:0<m) (hm:m<N) (hp:par m<N) (hg:GF (wd.getD (par m) 0) f) (hr:pe par N L (wd.set m f.w)):pe par N ((m,f)::L) wd
def Lets (par:Nat→Nat) (N n:Nat) (L:List (Nat×Fm)) (W:Int):Prop:=
 ∀ (M:List (Nat×Fm)) (wd:List Int),wd.length=N→wd.getD n 0=W→(∀ wd',wd'.length=N→(∀ k,k≤n→wd'.getD k 0=wd.getD k 0)→pe par N M wd')→pe par N (L++M) wd
theorem No {wd:List Int} {m k:Nat} {v:Int} (h:k≠m):(wd.set m v).getD k 0=wd.getD k 0:=by
 simp [List.getD_eq_getElem?_getD,List.getElem?_set,Ne.symm h]
theorem CZ {par:Nat→Nat} {N n:Nat} {W:Int} {bx:Nat→Option (Fm×La)} (Ij:n<N):∀ {ks:List Nat} {rs:List (Nat×Fm×La)} (ys:List Int),kU bx ks=some rs→(∀ m∈ks,n<m∧m<N∧par m=n)→
 (∀ m∈ks,∀ q,bx m=some q→GF W q.1∧Lets par N m q.2.L q.1.w)→Lets par N n (ep rs ys) W
 | [],rs,ys,h,_,_=>by
   cases h
   intro M wd h1 h2 h3
   exact h3 wd h1 (fun _ _=>rfl)
 | m::ks,rs,ys,h,hk,hq=>by
   rw [kU] at h
   split at h
   ·rename_i q fX
    rw [Option.map_eq_some_iff] at h
    obtain ⟨rs',h1,rfl⟩:=h
    obtain ⟨f,t⟩:=q
    obtain ⟨g1,g2⟩:=hq m (.head _) _ fX
    obtain ⟨m1,m2,m3⟩:=hk m (.head _)
    have key:∀ (f':Fm) (ys':List Int),GF W f'→f'.w=f.w→Lets par N n ((m,f')::(t.L++ep rs' ys')) W:=fun f' ys' hg hw M wd w1 w2 w3=>by
     refine .cons m f' _ wd (by omega) m2 (by omega) (by rw [m3,w2];exact hg) ?_
     show pe par N ((t.L++ep rs' ys')++M) _
     rw [List.append_assoc]
     refine g2 _ _ (by simp [w1]) (by rw [hw];simp [List.getD_eq_getElem?_getD,List.getElem?_set,w1,m2]) (fun wd' v1 v2=>?_)
     have hv:∀ k,k≤n→wd'.getD k 0=wd.getD k 0:=fun k hkn=>by rw [v2 k (by omega),No (by omega)]
     exact CZ Ij ys' h1 (fun x hx=>hk x (.tail _ hx)) (fun x hx=>hq x (.tail _ hx)) M wd' v1 (by rw [hv n (Nat.le_refl _)];exact w2) (fun OY u1 u2=>w3 OY u1 (fun k hkn=>by rw [u2 k hkn,hv k hkn]))
    cases ys with
    | nil=>exact key f [] g1 rfl
    | cons y ys=>exact key { f with y:=y } ys (g1.y y) rfl
   ·cases h
theorem zS {l:List Nd} (hs:dJ l):∀ (d n:Nat) (w:Int) (h:Sz) (bM:Bool) (q:Fm×La),n<l.length→lq l d n w h bM=some q→Lets (fun m=>(aQ l m).toNat) l.length n q.2.L q.1.w
 | 0,_,_,_,_,_,_,h=>by cases h
 | d+1,n,w,h,bM,q,hn,hq=>by
   obtain ⟨x,hx,_,hi,hf⟩:=wV hq
   obtain ⟨rs,z,h1,h2,h3⟩:=BF (t:=q.2) (by rw [show lP _ _ _ _ _=vB l (lq l d) n (dL l n w h) x from rfl,hi])
   have hw:q.1.w=x.w:=by rw [hf];rfl
   rw [h3,hw]
   refine CZ (bx:=fun m=>lq l d m x.w (nB (dL l n w h)) (cC l n).bM) hn z.2 h1 (fun m hm=>?_) (fun m hm r hr=>?_)
   ·obtain ⟨a,b,c⟩:=nr hm
    have:=hs.up m a b
    exact ⟨by omega,b,by show (aQ l m).toNat=n;omega⟩
   ·refine ⟨?_,zS hs d m _ _ _ r (nr hm).2.1 hr⟩
    cases d with
    | zero=>cases hr
    | succ d=>exact zR hr
end Go.aH

namespace Go.aH
open Go
theorem FY (s:ai):∀ r∈s.cells,eu r:=by
 intro r hr
 simp -implicitDefEqProofs only [ai.cells,List.mem_cons,List.not_mem_nil,or_false] at hr
 repeat' rcases hr with rfl | hr
 all_goals first | exact .int _ _ | exact .bool _ | (subst hr;exact .int _ _)
theorem FZ (x:Nd):∀ r∈x.cells,eu r:=by
 intro r hr
 rcases List.mem_append.1 hr with hr | hr
 ·exact FY _ r hr
 ·simp at hr;rw [hr];exact .int _ _
theorem FX {e v:Nat} {xs:List (List RV)} (h:∀ x∈xs,∀ r∈x,eu r):mu (.row e v (aI xs)):=by
 refine .row _ _ _ (fun i x j y hx hy=>?_)
 unfold aI at hx
 rw [List.getElem?_map] at hx
 cases hq:xs[i]? with
 | none=>simp [hq] at hx
 | some z=>
   simp [hq] at hx
   subst hx
   rw [List.getElem?_map] at hy
   cases hr:z[j]? with
   | none=>simp [hr] at hy
   | some r=>simp [hr] at hy;subst hy;exact .rv _ (h z (List.mem_of_getElem? hq) r (List.mem_of_getElem? hr))
theorem Nw (l:List Nd) (hb:l.length≤8589934592) (i v m:Nat) (hne:i≠m):aJ Go.Proofs.Try.prog 23 [.row i v l.length] [(i,.row 49 v (aI (bg l)))] [(m,.row 49 1 (aI (bg l)))] (.row m 1 l.length):=by
 have h:=Ds (bg l) m (by rw [au];exact hb)
 rw [au] at h
 refine uA (rs:=[.sl 49 (bg l)]) h (fun hp hpre=>⟨?_,trivial⟩) rfl (.row _ _ _) (fun q hq=>?_)
 ·exact lE (hpre _ (.head _)) rfl (by simp [bg]) (vN l)
 ·simp at hq;subst hq
  refine ⟨FX fun x hx=>?_,by simpa using hne⟩
  obtain ⟨n,_,rfl⟩:=List.mem_map.1 hx
  exact FZ n
theorem yM (x:Nd):(x.cells.map U.rv).take 49=x.cells.map U.rv:=rfl
def dV (l:List Nd) (k:Nat):List (List U):=(List.range l.length).map fun p=>[.row (p+7) (aS l k p).length (aS l k p).length]
def dN (l:List Nd) (k:Nat):List (Option HB):=(List.range l.length).map fun p=>some (.row 1 (aS l k p).length (aI (aK (bt (aS l k p)))))
theorem ta (l:List Nd) (k:Nat):(dV l k).length=l.length:=by simp [dV]
theorem kM (l:List Nd) (k:Nat):(dN l k).length=l.length:=by simp [dN]
theorem BS {l:List Nd} {k p:Nat} (hp:p<l.length):(dV l k)[p]?.getD []=[.row (p+7) (aS l k p).length (aS l k p).length]:=by simp [dV,hp]
theorem yE {l:List Nd} {k p:Nat} {C:List (Option HB)} (hp:p<l.length):ag (dN l k++C) p=some (.row 1 (aS l k p).length (aI (aK (bt (aS l k p))))):=by
 unfold ag
 rw [List.getElem?_append_left (by rw [kM];exact hp)]
 simp [dN,hp]
theorem yC {l:List Nd} {k:Nat} {x:Option HB} {C:List (Option HB)}:ag (dN l k++x::C) l.length=x:=by
 unfold ag
 rw [List.getElem?_append_right (by rw [kM];exact Nat.le_refl _),kM]
 simp
theorem BO {l:List Nd} {k:Nat} {x y:Option HB} {C:List (Option HB)}:ag (dN l k++x::y::C) (l.length+1)=y:=by
 unfold ag
 rw [List.getElem?_append_right (by rw [kM];omega),kM,show l.length+1 - l.length=1 by omega]
 simp
theorem BQ {l:List Nd} {k p:Nat} {hb:Option HB} {x y:Option HB} {C:List (Option HB)}:ag ((dN l k).set p hb++x::C) l.length=x:=by
 unfold ag
 rw [List.getElem?_append_right (by rw [List.length_set,kM];exact Nat.le_refl _),List.length_set,kM]
 simp
theorem yG {l:List Nd} {k:Nat} {x y:Option HB} {C:List (Option HB)}:(dN l k++x::C).set l.length y=dN l k++y::C:=by
 rw [List.set_append_right _ _ (by rw [kM];exact Nat.le_refl _),kM,Nat.sub_self];rfl
theorem Jw {l:List Nd} {k p:Nat} {y:Option HB} {C:List (Option HB)} (hp:p<l.length):(dN l k++C).set p y=(dN l k).set p y++C:=by
 rw [List.set_append_left _ _ (by rw [kM];exact hp)]
theorem Jy (l:List Nd):dN l 0=dP l.length 1:=by
 refine List.ext_getElem (by simp [dN,dP]) (fun i h1 h2=>?_)
 simp [dN,dP,td,bt,aK,aI]
theorem BU (l:List Nd):dV l 0=dj 7 l.length l.length:=by
 refine List.ext_getElem (by simp [dV,dj]) (fun i h1 h2=>?_)
 simp [dV] at h1
 simp [dV,dj,td,h1];omega
theorem Ju {l:List Nd} {k p:Nat} (h0:0<k) (hp:aQ l k=p) (hl:p<l.length) :
 (dN l k).set p (some (.row 1 ((aS l k p).length+1) (aI (aK (bt (aS l k p)++[(k:Int)])))))=dN l (k+1):=by
 refine List.ext_getElem (by simp [dN]) (fun i h1 h2=>?_)
 simp -implicitDefEqProofs only [List.getElem_set,dN,List.getElem_map,List.getElem_range,tc]
 by_cases h:p=i
 ·subst h;simp [h0,hp,bt]
 ·rw [if_neg h,if_neg (by rw [hp];omega)];simp
theorem JC {l:List Nd} {k p:Nat} (h0:0<k) (hp:aQ l k=p) (hl:p<l.length) :
 (dV l k).set p [.row (p+7) ((aS l k p).length+1) ((aS l k p).length+1)]=dV l (k+1):=by
 refine List.ext_getElem (by simp [dV]) (fun i h1 h2=>?_)
 simp -implicitDefEqProofs only [List.getElem_set,dV,List.getElem_map,List.getElem_range,tc]
 by_cases h:p=i
 ·subst h;simp [h0,hp]
 ·rw [if_neg h,if_neg (by rw [hp];omega)];simp
theorem Js (l:List Nd):dN l 1=dN l 0:=by
 refine List.ext_getElem (by simp [dN]) (fun i h1 h2=>?_)
 simp [dN,aS,List.range_succ]
theorem JA (l:List Nd):dV l 1=dV l 0:=by
 refine List.ext_getElem (by simp [dV]) (fun i h1 h2=>?_)
 simp [dV,aS,List.range_succ]
def oz (v:Nat) (l:List Nd) (k:Nat) (es ds:List Int) (bs:List Bool):List (Option HB):=some (.row 49 v (aI (bg l)))::some (.row 49 1 (aI (bg l)))::some (.row 1 0 (dV l k))::some (.row 1 0 (aI (aK es)))::some (.row 1 0 (aI (aK ds)))::some (.row 1 0 (aI (ez bs)))::some (.var [.row 1 1 l.length,.row 2 0 l.length,.row 3 0 l.length,.row 4 0 l.length,.row 5 0 l.length])::dN l k
theorem yy {v:Nat} {l:List Nd} {k:Nat} {es ds:List Int} {bs:List Bool}:(oz v l k es ds bs).length=l.length+7:=by simp [oz,kM]
theorem Jq {v:Nat} {l:List Nd} {k:Nat} {es ds:List Int} {bs:List Bool}:kr (mT (l.length+7)) (oz v l k es ds bs):=by
 refine ⟨fM,fM,fun i x hx=>?_,fM,fM,fM,by simp [mT,ku,lz],kr.of fun j x hx=>?_⟩
 ·obtain ⟨hl,rfl⟩:=List.getElem?_eq_some_iff.1 hx
  simp [ta] at hl
  simp [dV,ku,lz,hl]
 ·obtain ⟨hl,rfl⟩:=List.getElem?_eq_some_iff.1 hx
  exact ⟨.row 1 (aS l k j).length (aI (aK (bt (aS l k j)))),by simp [dN],fM⟩
theorem yA {v:Nat} {l:List Nd} {k:Nat} {es ds:List Int} {bs:List Bool} {env env':List (Nat×U)} {C:List (Option HB)} (he:fU (l.length+7) env env'):cB 1 ⟨env,oz v l k es ds bs++C⟩ ⟨env',oz v l k es ds bs⟩:=
 sj (by rw [yy];omega) (by rw [yy];exact Jq) (by rw [yy];exact he)
theorem KY (v:Nat) (l:List Nd) {τ:Nat→Option Nat} (fY:∀ j,0<j→τ j=none):Fz τ (ag (oz v l l.length (pF l) (bG l l.length) (cn l l.length))) (.ptr 6 0) (bZ l):=by
 refine .ptr 6 [.row 1 1 l.length,.row 2 0 l.length,.row 3 0 l.length,.row 4 0 l.length,.row 5 0 l.length] _ (fY _ (by decide)) rfl rfl (fun i r hr=>?_) (fun i x r hx hr=>?_)
 ·match i with
  | 0=>cases hr;rfl
  | 1=>cases hr;rfl
  | 2=>cases hr;rfl
  | 3=>cases hr;rfl
  | 4=>cases hr;rfl
  | i+5=>simp at hr
 ·match i with
  | 0=>cases hx;cases hr;exact lE rfl (fY _ (by decide)) (by simp [bg]) (vN l)
  | 1=>
    cases hx;cases hr
    refine .row 2 1 0 l.length (dV l l.length) (fZ l) (fY _ (by decide)) rfl (by simp [fZ]) (by rw [ta];exact Nat.le_refl _) (fun i x r hx hr=>?_) (fun i r k q hr hq=>?_) (fun i x r k y q hx hr hy hq=>?_)
    ·obtain ⟨_,rfl⟩:=List.getElem?_eq_some_iff.1 hx
     obtain ⟨_,rfl⟩:=List.getElem?_eq_some_iff.1 hr
     simp [dV,fZ]
    ·obtain ⟨_,rfl⟩:=List.getElem?_eq_some_iff.1 hr
     have:=List.mem_of_getElem? hq
     simp [fZ] at this
     rw [this];rfl
    ·obtain ⟨hl,rfl⟩:=List.getElem?_eq_some_iff.1 hx
     obtain ⟨_,rfl⟩:=List.getElem?_eq_some_iff.1 hr
     rw [ta] at hl
     cases k with
     | succ k=>simp [dV] at hy
     | zero=>
       simp [dV] at hy
       simp [fZ] at hq
       subst hy;subst hq
       refine lE (xs:=aK (bt (dw l i))) ?_ (fY _ (by omega)) (by simp [aK,bt,dw]) (lQ _)
       have:=yE (k:=l.length) (C:=[]) hl
       rw [List.append_nil] at this
       exact this
  | 2=>cases hx;cases hr;exact lE rfl (fY _ (by decide)) (by simp [aK,pF]) (lQ _)
  | 3=>cases hx;cases hr;exact lE rfl (fY _ (by decide)) (by simp [aK,bG]) (lQ _)
  | 4=>cases hx;cases hr;exact lE rfl (fY _ (by decide)) (by simp [ez,cn]) (zQ _)
  | i+5=>simp at hx
theorem Oe (l:List Nd) (hb:l.length≤8589934592) (hc:fA l=0) (i0 v:Nat):aJ Go.Proofs.Try.prog 9 [.row i0 v l.length] [(i0,.row 49 v (aI (bg l)))] [] (.aM [.rv (bZ l),.rv (.int .i64 0)]):=by
 refine kC BW [i0] [.row 49 v (aI (bg l))] [.row 49 v (aI (bg l))] [.row 0 v l.length] [.row i0 v l.length] _ _ (by simp) (by simp [aN,fL]) rfl (by simp [bK]) ⟨rfl,rfl,⟨rfl,_,rfl⟩,trivial⟩ (fun K hK=>?_)
 have hlen:=au l
 have AX:=DG l hb
 rw [hc] at AX
 have nv:=Ci (id:=0) (v:=v) (n:=l.length) (bs:=[]) AX (.int _ _) (by simp [bg]) (vN l)
 have ht:cZ l=true:=by
  unfold fA at hc
  cases h:cZ l with
  | true=>rfl
  | false=>rw [h] at hc;simp at hc
 have hs:dJ l:=tG.1 (by unfold cZ at ht;simp -implicitDefEqProofs only [Bool.and_eq_true] at ht;exact ht.1)
 have nY:(((0:Int)) != 0)=false:=rfl
 conv in fc _ _ _ _=>reduce
 simp -implicitDefEqProofs only [go_sem,Int.reduceNegSucc]
 have jN:(bg l).length≤8589934592:=by rw [hlen];exact hb
 have br:=nv;have y_2:=Nw l hb 0 v 1 (by decide);repeat' (first | (simp -implicitDefEqProofs only [go_sem,Int.reduceNegSucc,nY,hlen,tF,Dk]) | (with_reducible refine aB ?_) | (refine cD br ?_ ?_ ?_;(focus (simp [aW,ag] <;> fail));(focus (simp [bp,bk] <;> fail))) | (refine cY br ?_ ?_ ?_;(focus (simp [aW,ag] <;> fail));(focus (simp [bp,bk] <;> fail))) | (refine cD y_2 ?_ ?_ ?_;(focus (simp [aW,ag] <;> fail));(focus (simp [bp,bk] <;> fail))) | (refine cY y_2 ?_ ?_ ?_;(focus (simp [aW,ag] <;> fail));(focus (simp [bp,bk] <;> fail))) | ((first | refine aj (fun hg=>?_) (fun hg=>?_) | refine aC (fun hg=>?_) (fun hg=>?_) | refine aD (fun hg=>?_) (fun hg=>?_)) <;> try simp -implicitDefEqProofs only [hg,Bool.not_true,Bool.not_false]) | ((with_reducible apply And.intro);focus (first | trivial | omega | decide | (simp -implicitDefEqProofs only [maxLen];omega) | (simp [maxLen,an,aq,au,aA,ak,ax,av] <;> omega))) | fail)
 have Ib:∀ n:Nat,dV l 0=dj 7 l.length l.length:=fun _=>BU l
 let ev:Nat→List (Nat×U):=fun k=>[(33,.rv (.int .i64 k)),(32,.rv (.int .i64 l.length)),(31,.row 0 v l.length),(5,.ptr 6 0),(0,.row 0 v l.length)]
 refine cN (ι:=Nat) (fun k=>[(33,.rv (.int .i64 k)),(32,.rv (.int .i64 l.length)),(31,.row 0 v l.length),(5,.ptr 6 0),(0,.row 0 v l.length)]) (fun k=>some (.row 49 v (aI (bg l)))::some (.row 49 1 (aI (bg l)))::some (.row 1 0 (dV l k))::some (.row 1 0 (aI (aK (List.replicate l.length 0))))::some (.row 1 0 (aI (aK (bG l k))))::some (.row 1 0 (aI (ez (cn l k))))::some (.var [.row 1 1 l.length,.row 2 0 l.length,.row 3 0 l.length,.row 4 0 l.length,.row 5 0 l.length])::dN l k) (fun k=>k≤l.length) (fun k=>l.length - k) 0 (by simp) ?_ (fun k hk K' hN hX hR=>?_)
 ·refine (bA (env':=[(33,.rv (.int .i64 0)),(32,.rv (.int .i64 l.length)),(31,.row 0 v l.length),(5,.ptr 6 0),(0,.row 0 v l.length)]) (by simp [lk])).trans ?_
  rw [BU,Jy,xl,Cu]
  exact Av (r:=2) (v:=0) (n:=l.length) (e:=1) rfl
 simp -implicitDefEqProofs only [go_sem,Int.reduceNegSucc]
 refine aj (fun hg=>?_) (fun hg=>?_)
 ·have ay:k<l.length:=by simp at hg;omega
  have hx:=fG ay
  have pV:=kM l k
  have fP:=qA l k
  have fO:=ak (bG l k)
  have mE:=fE (l:=bG l k) (i:=k) (by omega)
  have hml:=Ct l k
  have mJ:=uv (cn l k)
  have pP:=qv (bs:=cn l k) (i:=k) (by omega)
  have hsh:=Dp ay
  have e1:(l.length=l.length+1)=False:=eq_false (by omega)
  have e2:(l.length=l.length+2)=False:=eq_false (by omega)
  have hds:=uQ ay
  have pM:=xk ay
  have wu:=cr (k:=k) (by omega)
  by_cases cK:0<k
  ·have hgt:decide ((k:Int)>0)=true:=decide_eq_true (by omega)
   obtain ⟨p1,p2⟩:=hs.wf.2 k cK ay
   obtain ⟨p,hp⟩:∃ p:Nat,aQ l k=p:=⟨(aQ l k).toNat,by omega⟩
   have dr:p<l.length:=by omega
   have q0:(p=l.length)=False:=eq_false (by omega)
   have q1:(p=l.length+1)=False:=eq_false (by omega)
   have q2:(p=l.length+2)=False:=eq_false (by omega)
   have hpk:=mb ay
   have HJ:(bG l k).set k 1=(bG l k).set k 1:=rfl
   have pN:((bG l k).set k 1).length=l.length:=by simp [fP]
   have sC:=ak ((bG l k).set k 1)
   have mF:=fE (l:=(bG l k).set k 1) (i:=p) (by omega)
   have pL:=fE (l:=(bG l k).set k 1) (i:=k) (by omega)
   rw [xj (by omega) (by omega)] at mF
   have oe:=xm hs.wf cK ay
   rw [hp,Int.toNat_natCast] at oe
   have wd:=cr (k:=depth l p) (by have:=ri (l:=l) p;unfold depth;omega)
   rw [← oe] at wd
   obtain ⟨b,pU⟩:∃ b,ql l k=b:=⟨_,rfl⟩
   have hmp:=qv (bs:=(cn l k).set k b) (i:=p) (by simp [hml];omega)
   have hmk:=qv (bs:=(cn l k).set k b) (i:=k) (by simp [hml];omega)
   rw [Cs (by omega) (by omega)] at hmp
   have sK:((cn l k).set k b).length=l.length:=by simp [hml]
   have sL:=uv ((cn l k).set k b)
   have kg:((cn l k).set k b).set k (b && kP l p)=cn l (k+1):=by
    have:=Cq hs.wf cK ay
    rw [hp,Int.toNat_natCast,pU] at this
    rw [List.set_set,← this,vI ay]
   have lJ:=ta l k
   have lI:=BS (k:=k) dr
   have kf:=fun C=>yE (k:=k) (C:=C) dr
   have hkn:=Ju cK hp dr
   have sQ:=JC cK hp dr
   have hsp:=fun (y:Option HB) C=>Jw (k:=k) (y:=y) (C:=C) dr
   have fh:(bt (aS l k p)).length=(aS l k p).length:=by simp [bt]
   have lH:=ak (bt (aS l k p))
   have mM:(aK (bt (aS l k p))).take (aS l k p).length=aK (bt (aS l k p)):=List.take_of_length_le (by rw [lH,fh];exact Nat.le_refl _)
   have hkk:=qS (l:=l) (k:=k) (p:=p)
   cases b
   all_goals simp -implicitDefEqProofs only [Bool.false_and,Bool.true_and] at kg
   ·repeat' (first | (simp -implicitDefEqProofs only [go_sem,Int.reduceNegSucc,hlen,hx,pV,aq,nH,yM,Nat.add_assoc,yC,List.append_assoc,fP,fO,mE,hml,mJ,pP,gh,rA,qW,hsh,pU,e1,e2,yG,hgt,hpk,hp,qa,lJ,lI,kf,q0,q1,q2,hsp,BO,BQ,fh,lH,mM,rz,hkn,sQ,pN,sC,mF,pL,wd,pM,wu,hmp,hmk,sK,sL]) | (with_reducible refine aB ?_) | ((first | refine aj (fun hg=>?_) (fun hg=>?_) | refine aC (fun hg=>?_) (fun hg=>?_) | refine aD (fun hg=>?_) (fun hg=>?_)) <;> try simp -implicitDefEqProofs only [hg,Bool.not_true,Bool.not_false]) | ((with_reducible apply And.intro);focus (first | trivial | omega | decide | (simp -implicitDefEqProofs only [maxLen];omega) | (simp [maxLen,an,aq,au,aA,ak,ax,av] <;> omega) | (simp (decide:=true) [mD,nX,jZ,nj,Nat.testBit,q0,q1,q2];done))) | fail)
    rw [kg]
    exact hN (k+1) _ _ (by omega) (by omega) (yA (v:=v) (l:=l) (k:=k+1) (by simp [fU,lk,ng,nc,lz]))
   ·repeat' (first | (simp -implicitDefEqProofs only [go_sem,Int.reduceNegSucc,hlen,hx,pV,aq,nH,yM,Nat.add_assoc,yC,List.append_assoc,fP,fO,mE,hml,mJ,pP,gh,rA,qW,hsh,pU,e1,e2,yG,hgt,hpk,hp,qa,lJ,lI,kf,q0,q1,q2,hsp,BO,BQ,fh,lH,mM,rz,hkn,sQ,pN,sC,mF,pL,wd,pM,wu,hmp,hmk,sK,sL]) | (with_reducible refine aB ?_) | ((first | refine aj (fun hg=>?_) (fun hg=>?_) | refine aC (fun hg=>?_) (fun hg=>?_) | refine aD (fun hg=>?_) (fun hg=>?_)) <;> try simp -implicitDefEqProofs only [hg,Bool.not_true,Bool.not_false]) | ((with_reducible apply And.intro);focus (first | trivial | omega | decide | (simp -implicitDefEqProofs only [maxLen];omega) | (simp [maxLen,an,aq,au,aA,ak,ax,av] <;> omega) | (simp (decide:=true) [mD,nX,jZ,nj,Nat.testBit,q0,q1,q2];done))) | fail)
    rw [kg]
    exact hN (k+1) _ _ (by omega) (by omega) (yA (v:=v) (l:=l) (k:=k+1) (by simp [fU,lk,ng,nc,lz]))
  ·obtain rfl:k=0:=by omega
   have hgt:decide (((0:Nat):Int)>0)=false:=rfl
   rw [xo] at hds
   have kg:=vI ay
   rw [Cr] at kg
   have xQ:(bG l 0).set 0 1=bG l (0+1):=hds
   repeat' (first | (simp -implicitDefEqProofs only [go_sem,Int.reduceNegSucc,hlen,hx,pV,aq,nH,yM,Nat.add_assoc,yC,List.append_assoc,fP,fO,mE,hml,mJ,pP,gh,rA,qW,hsh,e1,e2,yG,hgt,wu,kg,xQ]) | (with_reducible refine aB ?_) | ((first | refine aj (fun hg=>?_) (fun hg=>?_) | refine aC (fun hg=>?_) (fun hg=>?_) | refine aD (fun hg=>?_) (fun hg=>?_)) <;> try simp -implicitDefEqProofs only [hg,Bool.not_true,Bool.not_false]) | ((with_reducible apply And.intro);focus (first | trivial | omega | decide | (simp -implicitDefEqProofs only [maxLen];omega) | (simp [maxLen,an,aq,au,aA,ak,ax,av] <;> omega))) | fail)
   refine hN 1 _ _ (by omega) (by omega) ?_
   rw [JA,Js]
   exact yA (v:=v) (l:=l) (k:=0) (es:=List.replicate l.length 0) (ds:=bG l (0+1)) (bs:=cn l (0+1)) (C:=[some (.var ((l[0]'ay).cells.map .rv))]) (by simp [fU,lk,ng,nc,lz])
 ·have ay:k=l.length:=by simp at hg;omega
  subst ay
  simp -implicitDefEqProofs only [go_sem,Int.reduceNegSucc]
  refine hX _ _ _ ?_
  have wl:=rK hs.pos (by omega)
  repeat' (first | (simp -implicitDefEqProofs only [go_sem,Int.reduceNegSucc,hlen,wl]) | (with_reducible refine aB ?_) | ((first | refine aj (fun hg=>?_) (fun hg=>?_) | refine aC (fun hg=>?_) (fun hg=>?_) | refine aD (fun hg=>?_) (fun hg=>?_)) <;> try simp -implicitDefEqProofs only [hg,Bool.not_true,Bool.not_false]) | ((with_reducible apply And.intro);focus (first | trivial | omega | decide | (simp -implicitDefEqProofs only [maxLen];omega) | (simp [maxLen,an,aq,au,aA,ak,ax,av] <;> omega))) | fail)
  clear hN hX hR
  refine cN (ι:=Nat) (fun k=>[(8,.rv (.int .i64 ((k:Int) - 1))),(5,.ptr 6 0)]) (fun k=>oz v l l.length (cP l k) (bG l l.length) (cn l l.length)) (fun k=>k≤l.length) (fun k=>k) l.length (Nat.le_refl _) (by rw [As];exact bA (by simp [lk];have:=hs.pos;omega)) (fun k hk K' hN hX hR=>?_)
  simp -implicitDefEqProofs only [oz,go_sem,Int.reduceNegSucc]
  refine aj (fun hg=>?_) (fun hg=>?_)
  ·have cK:0<k:=by simp at hg;omega
   obtain ⟨j,rfl⟩:∃ j,k=j+1:=⟨k - 1,by omega⟩
   have ej:(((j+1:Nat):Int) - 1)=(j:Int):=by omega
   have wj:=cr (k:=j) (by omega)
   have hjl:j<l.length:=by omega
   have hel:=Aq l (j+1)
   have sE:=ak (cP l (j+1))
   have pO:=fE (l:=cP l (j+1)) (i:=j) (by omega)
   have lJ:=ta l l.length
   have lI:=BS (k:=l.length) hjl
   have kf:=yE (k:=l.length) (C:=[]) hjl
   simp -implicitDefEqProofs only [List.append_nil] at kf
   have fh:(bt (aS l l.length j)).length=(aS l l.length j).length:=by simp [bt]
   have lH:=ak (bt (aS l l.length j))
   have hkk:=qS (l:=l) (k:=l.length) (p:=j)
   have kJ:((cP l (j+1)).set j ((j+1:Nat):Int)).length=l.length:=by simp [hel]
   have yl:=ak ((cP l (j+1)).set j ((j+1:Nat):Int))
   have kj:=Ar (l:=l) (k:=j+1) (by omega) (by omega)
   simp -implicitDefEqProofs only [Nat.add_sub_cancel] at kj
   have wd:IntKind.i64.wrap ((j:Int) - 1)=((j:Int) - 1):=wrap_i64 (by omega) (by omega)
   by_cases ct:aS l l.length j=[]
   ·have hm0:decide ((((aS l l.length j).length:Nat):Int)>0)=false:=by rw [ct];rfl
    have he:=xx ct
    rw [he] at kj
    repeat' (first | (simp -implicitDefEqProofs only [go_sem,Int.reduceNegSucc,hel,sE,pO,lJ,lI,kf,ej,wj,hm0,gh,kj,wd]) | (with_reducible refine aB ?_) | ((first | refine aj (fun hg=>?_) (fun hg=>?_) | refine aC (fun hg=>?_) (fun hg=>?_) | refine aD (fun hg=>?_) (fun hg=>?_)) <;> try simp -implicitDefEqProofs only [hg,Bool.not_true,Bool.not_false]) | ((with_reducible apply And.intro);focus (first | trivial | omega | decide | (simp -implicitDefEqProofs only [maxLen];omega) | (simp [maxLen,an,aq,au,aA,ak,ax,av] <;> omega))) | fail)
    refine hN j _ _ (by omega) (by omega) (bA (by simp [lk]))
   ·obtain ⟨c,hc⟩:∃ c,(aS l l.length j).getLast?=some c:=by
     cases h:(aS l l.length j).getLast? with
     | none=>exact absurd (List.getLast?_eq_none_iff.1 h) ct
     | some c=>exact ⟨c,rfl⟩
    have hpos:0<(aS l l.length j).length:=List.length_pos_iff.2 ct
    have hm0:decide ((((aS l l.length j).length:Nat):Int)>0)=true:=decide_eq_true (by omega)
    have sB:c∈dw l j:=List.mem_of_getLast? hc
    obtain ⟨c1,c2,c3⟩:=qV.1 sB
    have xL:j<c:=by have:=(hs.wf.2 c c1 c2).2;omega
    have he:=xw hc xL c2
    rw [he] at kj
    have wm:=rK hpos (by omega)
    have xK:(bt (aS l l.length j)).getD ((aS l l.length j).length - 1) 0=(c:Int):=by
     rw [List.getLast?_eq_getElem?] at hc
     simp [bt,List.getD_eq_getElem?_getD,hc]
    have eG:=fE (l:=bt (aS l l.length j)) (i:=(aS l l.length j).length - 1) (by omega)
    rw [xK] at eG
    have sD:=fE (l:=(cP l (j+1)).set j ((j+1:Nat):Int)) (i:=c) (by omega)
    have nw:=Ap (l:=l) (k:=j+1) (j:=c) (v:=((j+1:Nat):Int)) (by omega) (by omega) c2
    simp -implicitDefEqProofs only [Nat.add_sub_cancel] at nw
    rw [nw] at sD
    have xT:=fE (l:=(cP l (j+1)).set j ((j+1:Nat):Int)) (i:=j) (by omega)
    have sO:((cP l (j+1)).set j ((j+1:Nat):Int)).set j (cX l c)=cP l j:=by rw [List.set_set,kj]
    repeat' (first | (simp -implicitDefEqProofs only [go_sem,Int.reduceNegSucc,hel,sE,pO,lJ,lI,kf,ej,wj,hm0,gh,wd,wm,eG,sD,xT,sO,kJ,yl,fh,lH]) | (with_reducible refine aB ?_) | ((first | refine aj (fun hg=>?_) (fun hg=>?_) | refine aC (fun hg=>?_) (fun hg=>?_) | refine aD (fun hg=>?_) (fun hg=>?_)) <;> try simp -implicitDefEqProofs only [hg,Bool.not_true,Bool.not_false]) | ((with_reducible apply And.intro);focus (first | trivial | omega | decide | (simp -implicitDefEqProofs only [maxLen];omega) | (simp [maxLen,an,aq,au,aA,ak,ax,av] <;> omega))) | fail)
    refine hN j _ _ (by omega) (by omega) (bA (by simp [lk]))
  ·obtain rfl:k=0:=by simp at hg;omega
   simp -implicitDefEqProofs only [go_sem,Int.reduceNegSucc]
   refine hX _ _ _ ?_
   repeat' (first | (simp -implicitDefEqProofs only [go_sem,Int.reduceNegSucc]) | (with_reducible refine aB ?_) | ((first | refine aj (fun hg=>?_) (fun hg=>?_) | refine aC (fun hg=>?_) (fun hg=>?_) | refine aD (fun hg=>?_) (fun hg=>?_)) <;> try simp -implicitDefEqProofs only [hg,Bool.not_true,Bool.not_false]) | ((with_reducible apply And.intro);focus (first | trivial | omega | decide | (simp -implicitDefEqProofs only [maxLen];omega) | (simp [maxLen,an,aq,au,aA,ak,ax,av] <;> omega))) | fail)
   refine (hK _ _ _ _ [] (dg _ _) ?_).2
   rw [At]
   simp -implicitDefEqProofs only [dx,List.map_cons,List.map_nil,List.append_nil]
   refine ⟨by simp [bK],trivial,trivial,⟨?_,trivial⟩,trivial,bN.2 ⟨?_,aR.2 rfl,trivial⟩⟩
   ·rw [show cJ (cQ ([i0].zip [HB.row 49 v (aI (bg l))]) i0) [] i0=some (HB.row 49 v (aI (bg l))) from by simp [cJ,cQ]]
    exact ⟨rfl,rfl,dy.2 rfl⟩
   ·exact .fz _ _ (KY v l (fun j hj=>by cases j with
     | zero=>omega
     | succ j=>rfl))
end Go.aH

namespace Go.aH
open Go
theorem JJ:aV Go.Proofs.Try.prog 18 13 (fc Go.Proofs.Try.prog 18 13 [(.c 0 48 true)]) [(.c 0 48 true)]:=bn (by kernel_rfl)
def yI:List CK→List RV→Bool
 | [],[]=>true
 | .b::ks,.bool _::rs=>yI ks rs
 | .i::ks,.int _ _::rs=>yI ks rs
 | .s::ks,.str _::rs=>yI ks rs
 | _,_=>false
def qY:ai:={ (default:ai) with shown:=true,pad:=⟨⟨1,0⟩,⟨1,0⟩,⟨1,0⟩,⟨1,0⟩⟩ }
def MK (k:Nat):ai:={ (default:ai) with shown:=true,pad:=⟨if 0<k then ⟨1,0⟩ else default,if 1<k then ⟨1,0⟩ else default,if 2<k then ⟨1,0⟩ else default,if 3<k then ⟨1,0⟩ else default⟩ }
theorem NN:aJ Go.Proofs.Try.prog 18 [] [] [] qY.sv:=by
 refine bJ JJ [] _ (by simp) (by simp [aN,bl,bz,bf,bq,ai.sv,Ln.sv,Nd.sv]) (fun K hK=>?_)
 conv in fc _ _ _ _=>reduce
 simp -implicitDefEqProofs only [go_sem,Int.reduceNegSucc]
 repeat' (first | (simp -implicitDefEqProofs only [go_sem,Int.reduceNegSucc]) | (with_reducible refine aB ?_) | ((first | refine aj (fun hg=>?_) (fun hg=>?_) | refine aC (fun hg=>?_) (fun hg=>?_) | refine aD (fun hg=>?_) (fun hg=>?_)) <;> try simp -implicitDefEqProofs only [hg,Bool.not_true,Bool.not_false]) | ((with_reducible apply And.intro);focus (first | trivial | omega | decide | (simp -implicitDefEqProofs only [maxLen];omega) | (simp [maxLen,an,aq,au,aA,ak,ax,av] <;> omega) | (exact ⟨rfl,by decide⟩;done))) | fail)
 refine cN (ι:=Nat) (fun k=>[(4,.rv (.int .i64 k)),(0,.ptr 0 0),(1,.ptr 1 0)]) (fun k=>[some (.var ((default:ai).cells.map .rv)),some (.var ((MK k).cells.map .rv))]) (fun k=>k≤4) (fun k=>4 - k) 0 (by simp) (bA (by simp [lk])) (fun k hk K' hN hX hR=>?_)
 simp -implicitDefEqProofs only [go_sem,Int.reduceNegSucc]
 refine aj (fun hg=>?_) (fun hg=>?_)
 ·have:k=0∨k=1∨k=2∨k=3:=by simp at hg;omega
  rcases this with rfl | rfl | rfl | rfl
  all_goals
   repeat' (first | (simp -implicitDefEqProofs only [go_sem,Int.reduceNegSucc,an,cr (k:=0) (by decide),cr (k:=1) (by decide),cr (k:=2) (by decide),cr (k:=3) (by decide)]) | (with_reducible refine aB ?_) | ((first | refine aj (fun hg=>?_) (fun hg=>?_) | refine aC (fun hg=>?_) (fun hg=>?_) | refine aD (fun hg=>?_) (fun hg=>?_)) <;> try simp -implicitDefEqProofs only [hg,Bool.not_true,Bool.not_false]) | ((with_reducible apply And.intro);focus (first | trivial | omega | decide | (simp -implicitDefEqProofs only [maxLen];omega) | (simp [maxLen,an,aq,au,aA,ak,ax,av] <;> omega))) | fail)
  ·exact hN 1 _ _ (by omega) (by omega) (bA (by simp [lk]))
  ·exact hN 2 _ _ (by omega) (by omega) (bA (by simp [lk]))
  ·exact hN 3 _ _ (by omega) (by omega) (bA (by simp [lk]))
  ·exact hN 4 _ _ (by omega) (by omega) (bA (by simp [lk]))
 ·have ay:k=4:=by simp at hg;omega
  subst ay
  simp -implicitDefEqProofs only [go_sem,Int.reduceNegSucc]
  refine hX _ _ _ ?_
  repeat' (first | (simp -implicitDefEqProofs only [go_sem,Int.reduceNegSucc,an,fS]) | (with_reducible refine aB ?_) | ((first | refine aj (fun hg=>?_) (fun hg=>?_) | refine aC (fun hg=>?_) (fun hg=>?_) | refine aD (fun hg=>?_) (fun hg=>?_)) <;> try simp -implicitDefEqProofs only [hg,Bool.not_true,Bool.not_false]) | ((with_reducible apply And.intro);focus (first | trivial | omega | decide | (simp -implicitDefEqProofs only [maxLen];omega) | (simp [maxLen,an,aq,au,aA,ak,ax,av] <;> omega) | (rfl;done) | (exact ⟨rfl,by decide⟩;done))) | fail)
  exact (hK _ _ (zf (rs:=qY.cells) rfl rfl rfl)).2
theorem CF:fA [⟨qY,-1⟩]=0:=by decide +kernel
end Go.aH

namespace Go.aH
open Go
theorem JL:aV Go.Proofs.Try.prog 7 28 (fc Go.Proofs.Try.prog 7 28 [(.t 0)]) [(.t 0)]:=bn (by kernel_rfl)
theorem LW:(rS [⟨qY,-1⟩] 0 640 ⟨false,480⟩ false).map (·.1.w)=some 640:=by decide +kernel
theorem wB:aJ Go.Proofs.Try.prog 7 [] [] [] (.rv (.bool true)):=by
 refine bJ JL [] _ (by simp) (by simp [aN,bl,bz,bf,bq,ai.sv,Ln.sv,Nd.sv]) (fun K hK=>?_)
 have hk:=Oe [⟨qY,-1⟩] (by decide) CF 0 0
 have hb:=Dx [⟨qY,-1⟩] (DQ (zY CF)) (by decide) 0 640 ⟨false,480⟩ false
 obtain ⟨q,hq,hw⟩:=Option.map_eq_some_iff.1 LW
 rw [hq] at hb
 obtain ⟨f,t⟩:=q
 have e0:((0:Int) != 0)=false:=rfl
 have q1:f.cells.length=25:=rfl
 have q2:(f.cells.map U.rv).take 25=f.cells.map U.rv:=rfl
 have q3:(f.cells.map U.rv).drop 25=[]:=rfl
 have q4:(f.cells.map U.rv)[2]?=some (.rv (.int .i64 f.w)):=rfl
 simp only at hw
 have e1:(f.w == 640)=true:=by simp [hw]
 simp -implicitDefEqProofs only [kB,eP,cF,Option.map,Option.isSome,Pl.cells,List.map_cons,List.map_nil,List.cons_append,List.nil_append,Sz.sv,Sz.cells] at hb
 conv in fc _ _ _ _=>reduce
 simp -implicitDefEqProofs only [go_sem,Int.reduceNegSucc]
 have br:=NN;repeat' (first | (simp -implicitDefEqProofs only [go_sem,Int.reduceNegSucc,an]) | (with_reducible refine aB ?_) | (with_reducible first | refine aF br ?_ | refine aG br ?_) | ((first | refine aj (fun hg=>?_) (fun hg=>?_) | refine aC (fun hg=>?_) (fun hg=>?_) | refine aD (fun hg=>?_) (fun hg=>?_)) <;> try simp -implicitDefEqProofs only [hg,Bool.not_true,Bool.not_false]) | ((with_reducible apply And.intro);focus (first | trivial | omega | decide | (simp -implicitDefEqProofs only [maxLen];omega) | (simp [maxLen,an,aq,au,aA,ak,ax,av] <;> omega))) | fail)
 refine cD hk (MM rfl) trivial ?_
 have y_2:=hb;repeat' (first | (simp -implicitDefEqProofs only [go_sem,Int.reduceNegSucc,e0,q1,q2,q3,q4,e1,List.append_nil]) | (with_reducible refine aB ?_) | (with_reducible first | refine aF y_2 ?_ | refine aG y_2 ?_) | ((first | refine aj (fun hg=>?_) (fun hg=>?_) | refine aC (fun hg=>?_) (fun hg=>?_) | refine aD (fun hg=>?_) (fun hg=>?_)) <;> try simp -implicitDefEqProofs only [hg,Bool.not_true,Bool.not_false]) | ((with_reducible apply And.intro);focus (first | trivial | omega | decide | (simp -implicitDefEqProofs only [maxLen];omega) | (simp [maxLen,an,aq,au,aA,ak,ax,av] <;> omega))) | fail)
 exact (hK _ _ (bX rfl)).2
end Go.aH

namespace Go.aH
open Go
theorem JK:aV Go.Proofs.Try.prog 4 171 (fc Go.Proofs.Try.prog 4 171 [(.t 10)]) [(.t 10)]:=bn (by kernel_rfl)
theorem Mq (q:Nat×Fm):((dX q).map U.rv)[0]?=some (.rv (.int .i64 q.1)):=rfl
theorem Mr (q:Nat×Fm):((dX q).map U.rv)[1]?=some (.rv (.int .i64 q.2.x)):=rfl
theorem Mw (q:Nat×Fm):((dX q).map U.rv)[3]?=some (.rv (.int .i64 q.2.w)):=rfl
theorem Mx (q:Nat×Fm):((dX q).map U.rv)[6]?=some (.rv (.int .i64 q.2.aY.b)):=rfl
theorem My (q:Nat×Fm):((dX q).map U.rv)[8]?=some (.rv (.int .i64 q.2.aY.d)):=rfl
theorem Ms (q:Nat×Fm):((dX q).map U.rv)[10]?=some (.rv (.int .i64 q.2.pad.b)):=rfl
theorem Mt (q:Nat×Fm):((dX q).map U.rv)[12]?=some (.rv (.int .i64 q.2.pad.d)):=rfl
theorem Mu (q:Nat×Fm):((dX q).map U.rv)[14]?=some (.rv (.int .i64 q.2.aX.b)):=rfl
theorem Mv (q:Nat×Fm):((dX q).map U.rv)[16]?=some (.rv (.int .i64 q.2.aX.d)):=rfl
theorem MD (q:Nat×Fm):((dX q).map U.rv).take 26=(dX q).map U.rv:=rfl
theorem ME (q:Nat×Fm):(dX q).take 26=dX q:=rfl
theorem MA (q:Nat×Fm):((dX q).map U.rv).drop 26=[]:=rfl
theorem MB (q:Nat×Fm):(dX q).length=26:=rfl
theorem Mo {L:List (Nat×Fm)} {i:Nat} (h:i<L.length):(dG L)[i]?.getD []=dX (L[i]'h):=by simp [dG,h]
theorem f_2 (f:Fm):(f.cells.map U.rv)[2]?=some (.rv (.int .i64 f.w)):=rfl
theorem FN (f:Fm):(f.cells.map U.rv)[5]?=some (.rv (.int .i64 f.aY.b)):=rfl
theorem FO (f:Fm):(f.cells.map U.rv)[7]?=some (.rv (.int .i64 f.aY.d)):=rfl
theorem FP (f:Fm):(f.cells.map U.rv)[9]?=some (.rv (.int .i64 f.pad.b)):=rfl
theorem FK (f:Fm):(f.cells.map U.rv)[11]?=some (.rv (.int .i64 f.pad.d)):=rfl
theorem FL (f:Fm):(f.cells.map U.rv)[13]?=some (.rv (.int .i64 f.aX.b)):=rfl
theorem FM (f:Fm):(f.cells.map U.rv)[15]?=some (.rv (.int .i64 f.aX.d)):=rfl
theorem GF.Eg {b:Int} {f:Fm} (h:GF b f):IntKind.i64.wrap (IntKind.i64.wrap (IntKind.i64.wrap (IntKind.i64.wrap (IntKind.i64.wrap (IntKind.i64.wrap (f.aY.d+f.aX.d)+f.pad.d)+f.w)+f.pad.b)+f.aX.b)+f.aY.b)=b:=by
 have h1:=h.fit
 simp -implicitDefEqProofs only [List.mem_cons,List.not_mem_nil,or_false,forall_eq_or_imp,forall_eq,lB] at h1
 obtain ⟨a,c,d,e,g,i,j⟩:=h1
 have hs:=h.sum
 rw [wrap_i64 (n:=f.aY.d+f.aX.d) (by omega) (by omega),wrap_i64 (n:=f.aY.d+f.aX.d+f.pad.d) (by omega) (by omega),wrap_i64 (n:=f.aY.d+f.aX.d+f.pad.d+f.w) (by omega) (by omega),
  wrap_i64 (n:=f.aY.d+f.aX.d+f.pad.d+f.w+f.pad.b) (by omega) (by omega),wrap_i64 (n:=f.aY.d+f.aX.d+f.pad.d+f.w+f.pad.b+f.aX.b) (by omega) (by omega),wrap_i64 (by omega) (by omega)]
 exact hs
theorem ND (l:List Nd) (n w:Int) (h:Sz) (bM:Bool):aJ Go.Proofs.Try.prog 4 [.rv (.sl 49 (bg l)),.rv (.int .i64 n),.rv (.int .i64 w),h.sv,.rv (.bool bM)] [] [] (.rv (.bool true)):=by
 refine bJ JK [.rv (.sl 49 (bg l)),.rv (.int .i64 n),.rv (.int .i64 w),h.sv,.rv (.bool bM)] _ (by simp) (by simp [aN,bl,bz,bf,bq,ai.sv,Ln.sv,Nd.sv]) (fun K hK=>?_)
 have hlen:=au l
 conv in fc _ _ _ _=>reduce
 simp -implicitDefEqProofs only [Sz.sv,Sz.cells,go_sem,Int.reduceNegSucc]
 by_cases hl:l.length>25
 ·have e1:decide ((l.length:Int)>25)=true:=decide_eq_true (by omega)
  have br:=wB;repeat' (first | (simp -implicitDefEqProofs only [go_sem,Int.reduceNegSucc,hlen,e1]) | (with_reducible refine aB ?_) | (with_reducible first | refine aF br ?_ | refine aG br ?_) | ((first | refine aj (fun hg=>?_) (fun hg=>?_) | refine aC (fun hg=>?_) (fun hg=>?_) | refine aD (fun hg=>?_) (fun hg=>?_)) <;> try simp -implicitDefEqProofs only [hg,Bool.not_true,Bool.not_false]) | ((with_reducible apply And.intro);focus (first | trivial | omega | decide | (simp -implicitDefEqProofs only [maxLen];omega) | (simp [maxLen,an,aq,au,aA,ak,ax,av] <;> omega))) | fail)
  exact (hK _ _ (bX rfl)).2
 ·have e1:decide ((l.length:Int)>25)=false:=decide_eq_false (by omega)
  have nv:=Om l (by omega)
  by_cases hc:fA l=0
  ·have ht:=zY hc
   have hs:=DQ ht
   rw [hc] at nv
   have nY:((0:Int) != 0)=false:=rfl
   have Al:((0:Int) == 0)=true:=rfl
   have Bm:=Od l (by omega) hc
   have hx:=Dx l hs (by omega) n w h bM
   cases fX:rS l n w h bM with
   | none=>
     rw [fX] at hx
     simp -implicitDefEqProofs only [kB,eP,cF,Option.map,Option.isSome,List.map_cons,List.map_nil,Sz.sv,Sz.cells] at hx
     have y_2:=wB;have bP:=nv;have bV:=Bm;have cq:=hx;repeat' (first | (simp -implicitDefEqProofs only [go_sem,Int.reduceNegSucc,hlen,e1,nY,Al]) | (with_reducible refine aB ?_) | (with_reducible first | refine aF y_2 ?_ | refine aG y_2 ?_) | (with_reducible first | refine aF bP ?_ | refine aG bP ?_) | (with_reducible first | refine aF bV ?_ | refine aG bV ?_) | (with_reducible first | refine aF cq ?_ | refine aG cq ?_) | ((first | refine aj (fun hg=>?_) (fun hg=>?_) | refine aC (fun hg=>?_) (fun hg=>?_) | refine aD (fun hg=>?_) (fun hg=>?_)) <;> try simp -implicitDefEqProofs only [hg,Bool.not_true,Bool.not_false]) | ((with_reducible apply And.intro);focus (first | trivial | omega | decide | (simp -implicitDefEqProofs only [maxLen];omega) | (simp [maxLen,an,aq,au,aA,ak,ax,av] <;> omega))) | fail)
     exact (hK _ _ (bX rfl)).2
   | some q=>
     obtain ⟨f,t⟩:=q
     rw [fX] at hx
     unfold rS at fX
     split at fX
     ·rename_i mJ
      have hin:eH l n=true:=by simp [lX] at mJ;exact mJ.1.1
      obtain ⟨k,rfl,hk⟩:=qQ hin
      simp -implicitDefEqProofs only [Int.toNat_natCast] at fX
      have HS:GF w f:=zR (q:=(f,t)) fX
      have hrun:=zS hs _ k _ _ _ _ hk fX
      have hL:=wU hs _ k _ _ _ _ hk fX
      have hgt:=(hs.uU hk).2
      simp only at hL hrun
      have IK:=HS.Eg
      have dr:=oE t.L
      have hz:(aK (List.replicate l.length 0))[k]?.getD []=[.int .i64 0]:=by simp [aK,hk]
      simp -implicitDefEqProofs only [kB,eP,cF,Option.map,Option.isSome,Pl.cells,List.map_cons,List.map_nil,List.cons_append,List.nil_append,Sz.sv,Sz.cells] at hx
      have cg:=wB;have cz:=nv;have cA:=Bm;have cS:=hx;repeat' (first | (simp -implicitDefEqProofs only [go_sem,Int.reduceNegSucc,hlen,e1,nY,Al,xD,AM,AL,f_2,tF,gh,hz,dr,List.append_nil,ak,List.length_replicate]) | (with_reducible refine aB ?_) | (with_reducible first | refine aF cg ?_ | refine aG cg ?_) | (with_reducible first | refine aF cz ?_ | refine aG cz ?_) | (with_reducible first | refine aF cA ?_ | refine aG cA ?_) | (with_reducible first | refine aF cS ?_ | refine aG cS ?_) | ((first | refine aj (fun hg=>?_) (fun hg=>?_) | refine aC (fun hg=>?_) (fun hg=>?_) | refine aD (fun hg=>?_) (fun hg=>?_)) <;> try simp -implicitDefEqProofs only [hg,Bool.not_true,Bool.not_false]) | ((with_reducible apply And.intro);focus (first | trivial | omega | decide | (simp -implicitDefEqProofs only [maxLen];omega) | (simp [maxLen,an,aq,au,aA,ak,ax,av] <;> omega) | (omega;done))) | fail)
      refine cN (ι:=Nat×List Int) (fun q=>[(73,.rv (.int .i64 q.1)),(72,.rv (.int .i64 t.L.length)),(16,.row 3 0 l.length),(14,.ptr 2 0),(13,.ptr 1 0),(0,.rv (.sl 49 (bg l))),(2,.rv (.int .i64 w))])
       (fun q=>[some (.var [.rv (.bool h.auto),.rv (.int .i64 h.n)]),some (.var (f.cells.map .rv)),some (.var ((cF (some t)).map .rv)),some (.row 1 0 (aI (aK q.2)))])
       (fun q=>q.1≤t.L.length∧q.2.length=l.length∧pe (fun m=>(aQ l m).toNat) l.length (t.L.drop q.1) q.2) (fun q=>t.L.length - q.1) (0,(List.replicate l.length 0).set k f.w)
       ⟨Nat.zero_le _,by simp,by
        have:=hrun [] ((List.replicate l.length 0).set k f.w) (by simp) (by simp [List.getD_eq_getElem?_getD,hk]) (fun wd' _ _=>.nil _)
        simpa using this⟩ (bA (by simp [lk])) (fun q hq K' hN hX hR=>?_)
      obtain ⟨i,wd⟩:=q
      obtain ⟨hi1,hi2,xX⟩:=hq
      dsimp only at hi1 hi2 xX ⊢
      simp -implicitDefEqProofs only [cF,Pl.cells,go_sem,Int.reduceNegSucc]
      refine aj (fun hg=>?_) (fun hg=>?_)
      ·have hi4:i<t.L.length:=by simp at hg;omega
       have wu:=cr (k:=i) (by omega)
       have hy:=Mo hi4
       rw [List.drop_eq_getElem_cons hi4] at xX
       generalize t.L[i]=y at *
       obtain ⟨m,g⟩:=y
       cases xX with
       | cons _ _ _ _ h0 hm hp hgd hr=>
         have qO:=fG hm
         have Iu:(l[m]).parent=(((aQ l m).toNat:Nat):Int):=by
          rw [mb hm]
          have:=(hs.up m h0 hm).1
          omega
         have hnp:=qa l[m]
         have Bs:((l[m]).cells.drop 48)[0]?=some (RV.int .i64 (l[m]).parent):=rfl
         rw [Iu] at hnp Bs
         have Il:=aq l[m]
         generalize l[m]=z at *
         have hwp:(aK wd)[(aQ l m).toNat]?.getD []=[.int .i64 (wd.getD (aQ l m).toNat 0)]:=by simp [aK,List.getD_eq_getElem?_getD,show (aQ l m).toNat<wd.length by omega]
         have IL:(aK wd)[m]?.getD []=[.int .i64 (wd.getD m 0)]:=by simp [aK,List.getD_eq_getElem?_getD,show m<wd.length by omega]
         have IM:=hgd.Eg
         have yq:=hgd.x
         have dn:=ak wd
         have b1:∀ a:Int,(a != a)=false:=fun a=>by simp
         repeat' (first | (simp -implicitDefEqProofs only [go_sem,Int.reduceNegSucc,hy,Mq,Mr,Mw,Mx,My,Ms,Mt,Mu,Mv,MD,ME,MA,MB,dr,qO,hnp,Bs,Il,hwp,IL,IM,yq,dn,hi2,b1,gh,wu,hlen,List.append_nil]) | (with_reducible refine aB ?_) | ((first | refine aj (fun hg=>?_) (fun hg=>?_) | refine aC (fun hg=>?_) (fun hg=>?_) | refine aD (fun hg=>?_) (fun hg=>?_)) <;> try simp -implicitDefEqProofs only [hg,Bool.not_true,Bool.not_false]) | ((with_reducible apply And.intro);focus (first | trivial | omega | decide | (simp -implicitDefEqProofs only [maxLen];omega) | (simp [maxLen,an,aq,au,aA,ak,ax,av] <;> omega) | (omega;done))) | fail)
         refine hN (i+1,wd.set m g.w) _ _ ⟨by dsimp only;omega,by simp [hi2],hr⟩ (by dsimp only;omega) ?_
         exact (sj (h':=[some (.var [.rv (.bool h.auto),.rv (.int .i64 h.n)]),some (.var (f.cells.map .rv)),some (.var ((cF (some t)).map .rv)),some (.row 1 0 (aI (aK (wd.set m g.w))))]) (Nat.zero_le _) ⟨mB (rs:=[.bool h.auto,.int .i64 h.n]),mB,mB,fM,trivial⟩ (by simp [fU,lk,ng,lz,nc]))
      ·simp -implicitDefEqProofs only [go_sem,Int.reduceNegSucc]
       refine hX _ _ _ ?_
       have b2:(w == w)=true:=by simp
       repeat' (first | (simp -implicitDefEqProofs only [go_sem,Int.reduceNegSucc,xD,f_2,FN,FO,FP,FK,FL,FM,IK,b2]) | (with_reducible refine aB ?_) | ((first | refine aj (fun hg=>?_) (fun hg=>?_) | refine aC (fun hg=>?_) (fun hg=>?_) | refine aD (fun hg=>?_) (fun hg=>?_)) <;> try simp -implicitDefEqProofs only [hg,Bool.not_true,Bool.not_false]) | ((with_reducible apply And.intro);focus (first | trivial | omega | decide | (simp -implicitDefEqProofs only [maxLen];omega) | (simp [maxLen,an,aq,au,aA,ak,ax,av] <;> omega))) | fail)
       exact (hK _ _ (bX rfl)).2
     ·cases fX
  ·have nY:(fA l != 0)=true:=by simpa using hc
   have dc:=wB;have eM:=nv;repeat' (first | (simp -implicitDefEqProofs only [go_sem,Int.reduceNegSucc,hlen,e1,nY]) | (with_reducible refine aB ?_) | (with_reducible first | refine aF dc ?_ | refine aG dc ?_) | (with_reducible first | refine aF eM ?_ | refine aG eM ?_) | ((first | refine aj (fun hg=>?_) (fun hg=>?_) | refine aC (fun hg=>?_) (fun hg=>?_) | refine aD (fun hg=>?_) (fun hg=>?_)) <;> try simp -implicitDefEqProofs only [hg,Bool.not_true,Bool.not_false]) | ((with_reducible apply And.intro);focus (first | trivial | omega | decide | (simp -implicitDefEqProofs only [maxLen];omega) | (simp [maxLen,an,aq,au,aA,ak,ax,av] <;> omega))) | fail)
   exact (hK _ _ (bX rfl)).2
end Go.aH
