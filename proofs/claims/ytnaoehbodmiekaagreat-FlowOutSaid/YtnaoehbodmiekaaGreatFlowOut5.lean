/- Part 5 of the proof: G10, G11, F21, G13, G12, K9R, K13, F13, FO. -/
import Derived.Test.YtnaoehbodmiekaaGreatFlowOut4
set_option linter.unusedSimpArgs false
set_option linter.unusedVariables false
set_option maxRecDepth 100000
set_option maxHeartbeats 16000000
namespace Go.aL
open Go
theorem Qe:aU Go.Proofs.Tryz.prog 11 275 (fc Go.Proofs.Tryz.prog 11 275 [(.c 10 25 true),(.c 11 9 true),(.t 12)]) [(.c 10 25 true),(.c 11 9 true),(.t 12)]:=bl (by kernel_rfl)
def DJ (l:List Nd) (ins:Ed→Ao→Option La×Bool) (n:Int) (w:Int) (h:Sz) (bT:Bool):Option (Fm×La):=if (iA l n && iI w h)=true then rV l ins n w h bT else none
theorem Vs (l:List Nd) (ht:fW l=true) (hb:l.length≤1000000) (n:Int) (w:Int) (h:Sz) (bT:Bool) (ins:Ed→Ao→Option La×Bool) (hr:∀ e x,(ins e x).2=true→(ins e x).1.isSome=true)
 (hI:∀ x:Ao,aI Go.Proofs.Tryz.prog 18 [.rv (.sl 49 (bw l)),.rv (.int .i64 n),.rv (.int .i64 (-1)),.rv (.int .i64 x.w),(mG (cq l n w h)).sv,.rv (.bool (cq l n w h).nN),.rv (.bool (cq l n w h).lK)] [] [] (.aP [.agg ((bk (ins (cq l n w h) x).1).map .rv),.rv (.bool (ins (cq l n w h) x).2)])) :
 aI Go.Proofs.Tryz.prog 11 [.rv (.sl 49 (bw l)),.rv (.int .i64 n),.rv (.int .i64 w),h.sv,.rv (.bool bT)] [] [] (lE (DJ l ins n w h bT)):=by
 refine bt Qe [.rv (.sl 49 (bw l)),.rv (.int .i64 n),.rv (.int .i64 w),h.sv,.rv (.bool bT)] _ (by simp) (by simp [aO,aW,bp,aS,bg,aC.sv,Ln.sv,Nd.sv]) (fun K hK=>?_)
 have hm:=zP l ht n
 have hw:=CX w h
 have nE:=an l
 unfold DJ at hK
 cases jg:iA l n with
 | false=>
   rw [jg] at hm
   simp -implicitDefEqProofs only [jg,Bool.false_and,Bool.false_eq_true,if_false] at hK
   conv in fc _ _ _ _=>reduce
   simp -implicitDefEqProofs only [Sz.sv,Sz.cells,go_sem,Int.reduceNegSucc] at hw ⊢
   have aT:=hm;have y_2:=hw;repeat' (first | (simp -implicitDefEqProofs only [go_sem,Int.reduceNegSucc]) | (with_reducible refine aA ?_) | (with_reducible first | refine af aT ?_ | refine ag aT ?_) | (with_reducible first | refine af y_2 ?_ | refine ag y_2 ?_) | ((first | refine ai (fun hg=>?_) (fun hg=>?_) | refine ax (fun hg=>?_) (fun hg=>?_) | refine ay (fun hg=>?_) (fun hg=>?_)) <;> try simp -implicitDefEqProofs only [hg,Bool.not_true,Bool.not_false]) | ((with_reducible apply And.intro);focus (first | trivial | omega | decide | (simp -implicitDefEqProofs only [maxLen];omega) | (simp [maxLen,ah,ak,an,av,aj,au,aq] <;> omega))) | fail)
   all_goals (refine (hK _ _ ?_).2;clear hK;simp -implicitDefEqProofs only [go_sem,Int.reduceNegSucc,aQ,aR,aV,bf,aH,aG,aF,bN,bk,Option.map,Option.isSome] <;>(try simp_all [-Int.not_lt,-Int.not_le,aH,aG,aF,bB,bN,bk,Option.map,Option.isSome]) <;> try omega)
 | true=>
   rw [jg] at hm
   have hin:ic l n=true:=by simp [iA] at jg;exact jg.1
   obtain ⟨k,rfl,hkn⟩:=pM hin
   cases iP:iI w h with
   | false=>
     rw [iP] at hw
     simp -implicitDefEqProofs only [jg,iP,Bool.true_and,Bool.false_eq_true,if_false] at hK
     conv in fc _ _ _ _=>reduce
     simp -implicitDefEqProofs only [Sz.sv,Sz.cells,go_sem,Int.reduceNegSucc] at hw ⊢
     have bA:=hm;have bC:=hw;repeat' (first | (simp -implicitDefEqProofs only [go_sem,Int.reduceNegSucc]) | (with_reducible refine aA ?_) | (with_reducible first | refine af bA ?_ | refine ag bA ?_) | (with_reducible first | refine af bC ?_ | refine ag bC ?_) | ((first | refine ai (fun hg=>?_) (fun hg=>?_) | refine ax (fun hg=>?_) (fun hg=>?_) | refine ay (fun hg=>?_) (fun hg=>?_)) <;> try simp -implicitDefEqProofs only [hg,Bool.not_true,Bool.not_false]) | ((with_reducible apply And.intro);focus (first | trivial | omega | decide | (simp -implicitDefEqProofs only [maxLen];omega) | (simp [maxLen,ah,ak,an,av,aj,au,aq] <;> omega))) | fail)
     all_goals (refine (hK _ _ ?_).2;clear hK;simp -implicitDefEqProofs only [go_sem,Int.reduceNegSucc,aQ,aR,aV,bf,aH,aG,aF,bN,bk,Option.map,Option.isSome] <;>(try simp_all [-Int.not_lt,-Int.not_le,aH,aG,aF,bB,bN,bk,Option.map,Option.isSome]) <;> try omega)
   | true=>
     rw [iP] at hw
     simp -implicitDefEqProofs only [jg,iP,Bool.and_self,if_true] at hK
     have hx:=iS hkn
     have ji:bP l k=(l[k]'hkn).s:=by simp [bP,sM hkn,hkn]
     have x1:=GZ (l[k]'hkn)
     have x2:=ak (l[k]'hkn)
     have x3:=Ja (l[k]'hkn)
     rw [← ji] at x1 x3
     generalize l[k]'hkn=nd at *
     clear ji
     have yH:=UN l ht hb k hkn w h
     have ef:(cq l k w h).flat=(!(decide ((k:Int)=0) || (bP l k).clip) && rF (bP l k) w && qE (bP l k) w && ((cq l k w h).least == 0)):=rfl
     have eo:(cq l k w h).nN=(!(decide ((k:Int)=0) || (bP l k).clip) && rF (bP l k) w):=rfl
     have eB:(cq l k w h).lK=(!(decide ((k:Int)=0) || (bP l k).clip) && qE (bP l k) w && (cq l k w h).high.auto && ((cq l k w h).least == 0)):=rfl
     have eb:(cq l k w h).bD=(bP l k).bD:=rfl
     have h1:=fun id=>uG id (nv (cq l k w h)) (by simp [nv])
     have h2:=rA (bP l k).width w true
     have h3:=IE (bP l k).jv (bP l k).ju w true
     have hac:=Vr (qB l k w h bT)
     have hcl:=fun v=>UZ v (cq l k w h).least (cq l k w h).most
     have o1:=oN (cq l k w h).bF.a 0
     have o2:=oN (cq l k w h).bF.c 0
     have s1:=fun id=>uG id (jT (cq l k w h)) (by simp [jT])
     have s2:=fun (v:Int) id=>uG id [cv (jT (cq l k w h)),v] (by simp)
     have qg:∀ (f:Fm) (y:RV) (p:Pl) (high:Int),f.bF.a=bn (cq l k w h).bF.a 0→f.bF.c=bn (cq l k w h).bF.c 0→aI Go.Proofs.Tryz.prog 40 [(wh l k w h).sv,.agg (f.cells.map .rv),.agg ((ie y p).map .rv),.rv (.bool (cq l k w h).lK),.rv (.int .i64 high)] [] [] (.agg ((pW (cq l k w h) (bu l k).length p high).cells.map .rv)):=
      fun f y p high a1 a2=>Vt (wh l k w h) f y p (cq l k w h).lK high (cq l k w h) (bu l k).length ef rfl rfl a1 a2 rfl
     simp -implicitDefEqProofs only [wh] at yH qg
     unfold qB at hac
     unfold rV qB okB at hK
     generalize (bu l k).length=kids at *
     generalize cq l k w h=e at *
     generalize rF (bP l k) w=TP at *
     generalize qE (bP l k) w=BT at *
     generalize (decide ((k:Int)=0) || (bP l k).clip)=AL at *
     generalize bP l k=s at *
     generalize fT s.width w true=W at *
     generalize bn (fT s.jv w true) 0=LW at *
     generalize bn (fT s.ju w true) 1125899906842624=XW at *
     generalize rZ s w h=b1 at *
     generalize gX s.width w true=b3 at *
     generalize gX s.jv w true=b4 at *
     generalize gX s.ju w true=b5 at *
     obtain ⟨M,D,B,H,L,X,Dk,FL,OT,OB⟩:=e
     dsimp only at ef eo eB eb
     subst eb
     simp -implicitDefEqProofs only [nv,jT,lT,List.map_cons,List.map_nil,List.length_cons,List.length_nil,Nat.reduceAdd] at h1 s1 s2 hac hK
     simp -implicitDefEqProofs only [Kn.sv,Kn.cells,Q4.hU,Sz.sv,Sz.cells,Ai.sv,Ai.cells,Ao.cells,List.map_cons,List.map_nil,List.cons_append,List.nil_append] at hw yH h2 h3 hac o1 o2 hI qg
     conv in fc _ _ _ _=>reduce
     simp -implicitDefEqProofs only [Sz.sv,Sz.cells,go_sem,Int.reduceNegSucc]
     cases hall:(b1 && fV [s.bD.d,D.d.n,D.b.n,s.bD.b] && b3 && b4 && b5) with
     | false=>
       simp -implicitDefEqProofs only [hall,Bool.false_eq_true,if_false] at hK
       have bH:=hm;have bJ:=hw;have bL:=yH;have bQ:=h1;have bZ:=h2;have cm:=h3;repeat' (first | (simp -implicitDefEqProofs only [go_sem,Int.reduceNegSucc,nE,hx,x1,x2,x3,cD,dY,cE,dZ,cP,eA,dc,eM,dy,eY,dI,fq,dJ,fu,dK,fy,dL,fA,dM,fB,cF,ec,cG,ee,cH,eg,cI,ek,cJ,ep,cK,er,cL,eu,cM,ew,cN,ey,cO,ez,cQ,eC,cR,eD,cS,eE,cT,eF,cU,eG,cV,eH,cW,eI,cX,eJ,cY,eK,cZ,eL,de,eN,dg,eO,dh,eP,di,eR,dj,eS,dm,eT,dn,eU,dr,eV,dw,eW,dx,eX,dz,eZ,dA,fe,cB,ff,dB,fh,dD,fj,dF,fk,dG,fm,dH,fo,dS,dN,dO,dP,dQ,dR,dU,dV,dW,dX,cC,cA,ah,Q4.ints]) | (with_reducible refine aA ?_) | (with_reducible first | refine af bH ?_ | refine ag bH ?_) | (with_reducible first | refine af bJ ?_ | refine ag bJ ?_) | (with_reducible first | refine af bL ?_ | refine ag bL ?_) | ((first | refine bS (bQ _) ?_ ?_ ?_ | refine ck (bQ _) ?_ ?_ ?_ | fail);(focus (simp [aY,aB] <;> fail));(focus (simp [bq,aX] <;> fail))) | (with_reducible first | refine af bZ ?_ | refine ag bZ ?_) | (with_reducible first | refine af cm ?_ | refine ag cm ?_) | ((first | refine ai (fun hg=>?_) (fun hg=>?_) | refine ax (fun hg=>?_) (fun hg=>?_) | refine ay (fun hg=>?_) (fun hg=>?_)) <;> try simp -implicitDefEqProofs only [hg,Bool.not_true,Bool.not_false]) | ((with_reducible apply And.intro);focus (first | trivial | omega | decide | (simp -implicitDefEqProofs only [maxLen];omega) | (simp [maxLen,ah,ak,an,av,aj,au,aq] <;> omega))) | fail)
       all_goals first | (exfalso;simp_all;done) | skip
       all_goals (refine (hK _ _ ?_).2;clear hK;simp -implicitDefEqProofs only [go_sem,Int.reduceNegSucc,aQ,aR,aV,bf,aH,aG,aF,bN,bk,Option.map,Option.isSome] <;>(try simp_all [-Int.not_lt,-Int.not_le,aH,aG,aF,bB,bN,bk,Option.map,Option.isSome]) <;> try omega)
     | true=>
       simp -implicitDefEqProofs only [Bool.and_eq_true] at hall
       obtain ⟨⟨⟨⟨rfl,q2⟩,rfl⟩,rfl⟩,rfl⟩:=hall
       rw [q2] at h1
       simp -implicitDefEqProofs only [q2,Bool.and_self,if_true] at hK
       have fO:=hm;have gj:=hw;have gQ:=yH;have gR:=h1;have gS:=h2;have gT:=h3;repeat' (first | (simp -implicitDefEqProofs only [go_sem,Int.reduceNegSucc,nE,hx,x1,x2,x3,cD,dY,cE,dZ,cP,eA,dc,eM,dy,eY,dI,fq,dJ,fu,dK,fy,dL,fA,dM,fB,cF,ec,cG,ee,cH,eg,cI,ek,cJ,ep,cK,er,cL,eu,cM,ew,cN,ey,cO,ez,cQ,eC,cR,eD,cS,eE,cT,eF,cU,eG,cV,eH,cW,eI,cX,eJ,cY,eK,cZ,eL,de,eN,dg,eO,dh,eP,di,eR,dj,eS,dm,eT,dn,eU,dr,eV,dw,eW,dx,eX,dz,eZ,dA,fe,cB,ff,dB,fh,dD,fj,dF,fk,dG,fm,dH,fo,dS,dN,dO,dP,dQ,dR,dU,dV,dW,dX,cC,cA,ah,Q4.ints,Bool.and_self]) | (with_reducible refine aA ?_) | (with_reducible first | refine af fO ?_ | refine ag fO ?_) | (with_reducible first | refine af gj ?_ | refine ag gj ?_) | (with_reducible first | refine af gQ ?_ | refine ag gQ ?_) | ((first | refine bS (gR _) ?_ ?_ ?_ | refine ck (gR _) ?_ ?_ ?_ | fail);(focus (simp [aY,aB] <;> fail));(focus (simp [bq,aX] <;> fail))) | (with_reducible first | refine af gS ?_ | refine ag gS ?_) | (with_reducible first | refine af gT ?_ | refine ag gT ?_) | ((first | refine ai (fun hg=>?_) (fun hg=>?_) | refine ax (fun hg=>?_) (fun hg=>?_) | refine ay (fun hg=>?_) (fun hg=>?_)) <;> try simp -implicitDefEqProofs only [hg,Bool.not_true,Bool.not_false]) | ((with_reducible apply And.intro);focus (first | trivial | omega | decide | (simp -implicitDefEqProofs only [maxLen];omega) | (simp [maxLen,ah,ak,an,av,aj,au,aq] <;> omega))) | fail)
       generalize nt ⟨w,M.d,W,M.b,cv [s.bD.d,D.d.n,D.b.n,s.bD.b],bT,LW,XW⟩=o at *
       cases o with
       | none=>
         simp -implicitDefEqProofs only [iB,Option.isSome,Option.bind] at hac hK
         have gU:=hac;repeat' (first | (simp -implicitDefEqProofs only [go_sem,Int.reduceNegSucc]) | (with_reducible refine aA ?_) | (with_reducible first | refine af gU ?_ | refine ag gU ?_) | ((first | refine ai (fun hg=>?_) (fun hg=>?_) | refine ax (fun hg=>?_) (fun hg=>?_) | refine ay (fun hg=>?_) (fun hg=>?_)) <;> try simp -implicitDefEqProofs only [hg,Bool.not_true,Bool.not_false]) | ((with_reducible apply And.intro);focus (first | trivial | omega | decide | (simp -implicitDefEqProofs only [maxLen];omega) | (simp [maxLen,ah,ak,an,av,aj,au,aq] <;> omega))) | fail)
         all_goals (refine (hK _ _ ?_).2;clear hK;simp -implicitDefEqProofs only [go_sem,Int.reduceNegSucc,aQ,aR,aV,bf,aH,aG,aF,bN,bk,Option.map,Option.isSome] <;>(try simp_all [-Int.not_lt,-Int.not_le,aH,aG,aF,bB,bN,bk,Option.map,Option.isSome]) <;> try omega)
       | some x=>
         have fI:=hI x
         simp -implicitDefEqProofs only [iB,Option.isSome,Option.bind] at hac hK
         clear hI
         have hr:=hr ⟨M,D,s.bD,H,L,X,Dk,FL,OT,OB⟩ x
         generalize ins ⟨M,D,s.bD,H,L,X,Dk,FL,OT,OB⟩ x=r at *
         obtain ⟨r1,Hj⟩:=r
         dsimp only at hr fI
         have hab:(AL=true∧OT=false∧OB=false)∨(AL=false∧BT=false∧OT=TP∧OB=false)∨(AL=false∧BT=true∧OT=TP∧OB=(H.auto && (L == 0))):=by
          rw [eo,eB]
          cases AL <;> cases BT <;> simp
         clear eo eB ef
         cases hh:H.auto with
         | true=>
           simp -implicitDefEqProofs only [mG,hh,if_true,Bool.false_eq_true,if_false,Bool.true_and,Bool.false_and] at fI hab
           have gV:=hac;have iM:=hcl H.n;repeat' (first | (simp -implicitDefEqProofs only [go_sem,Int.reduceNegSucc,cD,dY,cE,dZ,cP,eA,dc,eM,dy,eY,dI,fq,dJ,fu,dK,fy,dL,fA,dM,fB,cF,ec,cG,ee,cH,eg,cI,ek,cJ,ep,cK,er,cL,eu,cM,ew,cN,ey,cO,ez,cQ,eC,cR,eD,cS,eE,cT,eF,cU,eG,cV,eH,cW,eI,cX,eJ,cY,eK,cZ,eL,de,eN,dg,eO,dh,eP,di,eR,dj,eS,dm,eT,dn,eU,dr,eV,dw,eW,dx,eX,dz,eZ,dA,fe,cB,ff,dB,fh,dD,fj,dF,fk,dG,fm,dH,fo,dS,dN,dO,dP,dQ,dR,dU,dV,dW,dX,cC,cA,ah,Q4.ints,Bool.and_self,hh]) | (with_reducible first | refine af gV ?_ | refine ag gV ?_) | (with_reducible first | refine af iM ?_ | refine ag iM ?_) | ((first | refine ai (fun hg=>?_) (fun hg=>?_) | refine ax (fun hg=>?_) (fun hg=>?_) | refine ay (fun hg=>?_) (fun hg=>?_)) <;> try simp -implicitDefEqProofs only [hg,Bool.not_true,Bool.not_false]) | ((with_reducible apply And.intro);focus (first | trivial | omega | decide | (simp -implicitDefEqProofs only [maxLen];omega) | (simp [maxLen,ah,ak,an,av,aj,au,aq] <;> omega))) | fail)
           refine js [(0,.rv (.sl 49 (bw l))),(1,.rv (.int .i64 k)),(10,.ptr 1 0),(11,.ptr 2 0),(13,.ptr 3 0),(14,.ptr 4 0),(23,.ptr 7 0),(24,.ptr 8 0)] _ (bh (by simp [lk])) ?_
           cases Hj with
           | false=>
             simp -implicitDefEqProofs only [oZ,Bool.false_eq_true,if_false] at hK
             cases r1 with
             | none=>
               simp -implicitDefEqProofs only [bk,List.map_cons,List.map_nil] at fI
               have s3:=s2 (jV 0 L X)
               apply via
               ·intro main
                rcases hab with ⟨gl,gq,cw⟩ | ⟨gl,gn,gq,cw⟩ | ⟨gl,gn,gq,cw⟩
                ·have gp:(!AL)=false:=by rw [gl];rfl
                 rw [gq,cw] at fI
                 have iN:=fI;have kk:=hcl 0;repeat' (first | (simp -implicitDefEqProofs only [go_sem,Int.reduceNegSucc,cD,dY,cE,dZ,cP,eA,dc,eM,dy,eY,dI,fq,dJ,fu,dK,fy,dL,fA,dM,fB,cF,ec,cG,ee,cH,eg,cI,ek,cJ,ep,cK,er,cL,eu,cM,ew,cN,ey,cO,ez,cQ,eC,cR,eD,cS,eE,cT,eF,cU,eG,cV,eH,cW,eI,cX,eJ,cY,eK,cZ,eL,de,eN,dg,eO,dh,eP,di,eR,dj,eS,dm,eT,dn,eU,dr,eV,dw,eW,dx,eX,dz,eZ,dA,fe,cB,ff,dB,fh,dD,fj,dF,fk,dG,fm,dH,fo,dS,dN,dO,dP,dQ,dR,dU,dV,dW,dX,cC,cA,ah,Q4.ints,Bool.and_self,hh,gp]) | (with_reducible first | refine af iN ?_ | refine ag iN ?_) | (with_reducible first | refine af kk ?_ | refine ag kk ?_) | ((first | refine ai (fun hg=>?_) (fun hg=>?_) | refine ax (fun hg=>?_) (fun hg=>?_) | refine ay (fun hg=>?_) (fun hg=>?_)) <;> try simp -implicitDefEqProofs only [hg,Bool.not_true,Bool.not_false]) | ((with_reducible apply And.intro);focus (first | trivial | omega | decide | (simp -implicitDefEqProofs only [maxLen];omega) | (simp [maxLen,ah,ak,an,av,aj,au,aq] <;> omega))) | fail)
                 refine js [(15,.rv (.bool false)),(10,.ptr 1 0),(11,.ptr 2 0),(13,.ptr 3 0),(14,.ptr 4 0),(23,.ptr 7 0),(26,.rv (.bool OB)),(27,.ptr 9 0),(28,.ptr 10 0)] _ (bh ?_) main
                 simp [lk,cw]
                ·have gp:(!AL)=true:=by rw [gl];rfl
                 rw [gq,cw] at fI
                 have oP:=fI;have oQ:=hcl 0;repeat' (first | (simp -implicitDefEqProofs only [go_sem,Int.reduceNegSucc,cD,dY,cE,dZ,cP,eA,dc,eM,dy,eY,dI,fq,dJ,fu,dK,fy,dL,fA,dM,fB,cF,ec,cG,ee,cH,eg,cI,ek,cJ,ep,cK,er,cL,eu,cM,ew,cN,ey,cO,ez,cQ,eC,cR,eD,cS,eE,cT,eF,cU,eG,cV,eH,cW,eI,cX,eJ,cY,eK,cZ,eL,de,eN,dg,eO,dh,eP,di,eR,dj,eS,dm,eT,dn,eU,dr,eV,dw,eW,dx,eX,dz,eZ,dA,fe,cB,ff,dB,fh,dD,fj,dF,fk,dG,fm,dH,fo,dS,dN,dO,dP,dQ,dR,dU,dV,dW,dX,cC,cA,ah,Q4.ints,Bool.and_self,hh,gp,gn]) | (with_reducible first | refine af oP ?_ | refine ag oP ?_) | (with_reducible first | refine af oQ ?_ | refine ag oQ ?_) | ((first | refine ai (fun hg=>?_) (fun hg=>?_) | refine ax (fun hg=>?_) (fun hg=>?_) | refine ay (fun hg=>?_) (fun hg=>?_)) <;> try simp -implicitDefEqProofs only [hg,Bool.not_true,Bool.not_false]) | ((with_reducible apply And.intro);focus (first | trivial | omega | decide | (simp -implicitDefEqProofs only [maxLen];omega) | (simp [maxLen,ah,ak,an,av,aj,au,aq] <;> omega))) | fail)
                 refine js _ _ ?_ main
                 rw [gn]
                 refine bh ?_
                 simp [lk,cw]
                ·have gp:(!AL)=true:=by rw [gl];rfl
                 rw [gq,cw] at fI
                 have rG:=fI;have rH:=hcl 0;repeat' (first | (simp -implicitDefEqProofs only [go_sem,Int.reduceNegSucc,cD,dY,cE,dZ,cP,eA,dc,eM,dy,eY,dI,fq,dJ,fu,dK,fy,dL,fA,dM,fB,cF,ec,cG,ee,cH,eg,cI,ek,cJ,ep,cK,er,cL,eu,cM,ew,cN,ey,cO,ez,cQ,eC,cR,eD,cS,eE,cT,eF,cU,eG,cV,eH,cW,eI,cX,eJ,cY,eK,cZ,eL,de,eN,dg,eO,dh,eP,di,eR,dj,eS,dm,eT,dn,eU,dr,eV,dw,eW,dx,eX,dz,eZ,dA,fe,cB,ff,dB,fh,dD,fj,dF,fk,dG,fm,dH,fo,dS,dN,dO,dP,dQ,dR,dU,dV,dW,dX,cC,cA,ah,Q4.ints,Bool.and_self,hh,gp,gn]) | (with_reducible first | refine af rG ?_ | refine ag rG ?_) | (with_reducible first | refine af rH ?_ | refine ag rH ?_) | ((first | refine ai (fun hg=>?_) (fun hg=>?_) | refine ax (fun hg=>?_) (fun hg=>?_) | refine ay (fun hg=>?_) (fun hg=>?_)) <;> try simp -implicitDefEqProofs only [hg,Bool.not_true,Bool.not_false]) | ((with_reducible apply And.intro);focus (first | trivial | omega | decide | (simp -implicitDefEqProofs only [maxLen];omega) | (simp [maxLen,ah,ak,an,av,aj,au,aq] <;> omega))) | fail)
                 refine js _ _ ?_ main
                 rw [gn]
                 refine bh ?_
                 simp [lk,cw]
               ·have rI:=o1;have rJ:=o2;repeat' (first | (simp -implicitDefEqProofs only [go_sem,Int.reduceNegSucc,cD,dY,cE,dZ,cP,eA,dc,eM,dy,eY,dI,fq,dJ,fu,dK,fy,dL,fA,dM,fB,cF,ec,cG,ee,cH,eg,cI,ek,cJ,ep,cK,er,cL,eu,cM,ew,cN,ey,cO,ez,cQ,eC,cR,eD,cS,eE,cT,eF,cU,eG,cV,eH,cW,eI,cX,eJ,cY,eK,cZ,eL,de,eN,dg,eO,dh,eP,di,eR,dj,eS,dm,eT,dn,eU,dr,eV,dw,eW,dx,eX,dz,eZ,dA,fe,cB,ff,dB,fh,dD,fj,dF,fk,dG,fm,dH,fo,dS,dN,dO,dP,dQ,dR,dU,dV,dW,dX,cC,cA,ah,Q4.ints,Bool.and_self,hh]) | (with_reducible refine aA ?_) | (with_reducible first | refine af rI ?_ | refine ag rI ?_) | (with_reducible first | refine af rJ ?_ | refine ag rJ ?_) | ((first | refine ai (fun hg=>?_) (fun hg=>?_) | refine ax (fun hg=>?_) (fun hg=>?_) | refine ay (fun hg=>?_) (fun hg=>?_)) <;> try simp -implicitDefEqProofs only [hg,Bool.not_true,Bool.not_false]) | ((with_reducible apply And.intro);focus (first | trivial | omega | decide | (simp -implicitDefEqProofs only [maxLen];omega) | (simp [maxLen,ah,ak,an,av,aj,au,aq] <;> omega))) | fail)
                refine jH 5 ?_
                have rK:=s1;have rL:=s3;repeat' (first | (simp -implicitDefEqProofs only [go_sem,Int.reduceNegSucc,jM,jN,jO,jP,jQ,jR,jD,Int.reduceLT,decide_true,decide_false,Int.reduceToNat,Nat.reduceMul,cD,dY,cE,dZ,cP,eA,dc,eM,dy,eY,dI,fq,dJ,fu,dK,fy,dL,fA,dM,fB,cF,ec,cG,ee,cH,eg,cI,ek,cJ,ep,cK,er,cL,eu,cM,ew,cN,ey,cO,ez,cQ,eC,cR,eD,cS,eE,cT,eF,cU,eG,cV,eH,cW,eI,cX,eJ,cY,eK,cZ,eL,de,eN,dg,eO,dh,eP,di,eR,dj,eS,dm,eT,dn,eU,dr,eV,dw,eW,dx,eX,dz,eZ,dA,fe,cB,ff,dB,fh,dD,fj,dF,fk,dG,fm,dH,fo,dS,dN,dO,dP,dQ,dR,dU,dV,dW,dX,cC,cA,ah,Q4.ints]) | (with_reducible refine aA ?_) | (with_reducible show G _ _ (It.l _ _::_) _ _ _;refine jG ?_) | ((first | refine bS (rK _) ?_ ?_ ?_ | refine ck (rK _) ?_ ?_ ?_ | fail);(focus (simp [aY,aB] <;> fail));(focus (simp [bq,aX] <;> fail))) | ((first | refine bS (rL _) ?_ ?_ ?_ | refine ck (rL _) ?_ ?_ ?_ | fail);(focus (simp [aY,aB] <;> fail));(focus (simp [bq,aX] <;> fail))) | ((first | refine ai (fun hg=>?_) (fun hg=>?_) | refine ax (fun hg=>?_) (fun hg=>?_) | refine ay (fun hg=>?_) (fun hg=>?_)) <;> try simp -implicitDefEqProofs only [hg,Bool.not_true,Bool.not_false]) | ((with_reducible apply And.intro);focus (first | trivial | omega | decide | (simp -implicitDefEqProofs only [maxLen];omega) | (simp [maxLen,ah,ak,an,av,aj,au,aq] <;> omega))) | fail)
                all_goals (refine (hK _ _ ?_).2;clear hK;simp -implicitDefEqProofs only [go_sem,Int.reduceNegSucc,aQ,aR,aV,bf,aH,aG,aF,bN,bk,Option.map,Option.isSome] <;>(try simp_all [-Int.not_lt,-Int.not_le,aH,aG,aF,bB,bN,bk,Option.map,Option.isSome]) <;> try omega)
             | some t=>
               simp -implicitDefEqProofs only [bk,Pl.cells,List.map_cons,List.map_nil,List.cons_append,List.nil_append] at fI
               have s3:=s2 (jV t.high L X)
               apply via
               ·intro main
                rcases hab with ⟨gl,gq,cw⟩ | ⟨gl,gn,gq,cw⟩ | ⟨gl,gn,gq,cw⟩
                ·have gp:(!AL)=false:=by rw [gl];rfl
                 rw [gq,cw] at fI
                 have wY:=fI;have wZ:=hcl t.high;repeat' (first | (simp -implicitDefEqProofs only [go_sem,Int.reduceNegSucc,cD,dY,cE,dZ,cP,eA,dc,eM,dy,eY,dI,fq,dJ,fu,dK,fy,dL,fA,dM,fB,cF,ec,cG,ee,cH,eg,cI,ek,cJ,ep,cK,er,cL,eu,cM,ew,cN,ey,cO,ez,cQ,eC,cR,eD,cS,eE,cT,eF,cU,eG,cV,eH,cW,eI,cX,eJ,cY,eK,cZ,eL,de,eN,dg,eO,dh,eP,di,eR,dj,eS,dm,eT,dn,eU,dr,eV,dw,eW,dx,eX,dz,eZ,dA,fe,cB,ff,dB,fh,dD,fj,dF,fk,dG,fm,dH,fo,dS,dN,dO,dP,dQ,dR,dU,dV,dW,dX,cC,cA,ah,Q4.ints,Bool.and_self,hh,gp]) | (with_reducible first | refine af wY ?_ | refine ag wY ?_) | (with_reducible first | refine af wZ ?_ | refine ag wZ ?_) | ((first | refine ai (fun hg=>?_) (fun hg=>?_) | refine ax (fun hg=>?_) (fun hg=>?_) | refine ay (fun hg=>?_) (fun hg=>?_)) <;> try simp -implicitDefEqProofs only [hg,Bool.not_true,Bool.not_false]) | ((with_reducible apply And.intro);focus (first | trivial | omega | decide | (simp -implicitDefEqProofs only [maxLen];omega) | (simp [maxLen,ah,ak,an,av,aj,au,aq] <;> omega))) | fail)
                 refine js [(15,.rv (.bool false)),(10,.ptr 1 0),(11,.ptr 2 0),(13,.ptr 3 0),(14,.ptr 4 0),(23,.ptr 7 0),(26,.rv (.bool OB)),(27,.ptr 9 0),(28,.ptr 10 0)] _ (bh ?_) main
                 simp [lk,cw]
                ·have gp:(!AL)=true:=by rw [gl];rfl
                 rw [gq,cw] at fI
                 have xb:=fI;have xd:=hcl t.high;repeat' (first | (simp -implicitDefEqProofs only [go_sem,Int.reduceNegSucc,cD,dY,cE,dZ,cP,eA,dc,eM,dy,eY,dI,fq,dJ,fu,dK,fy,dL,fA,dM,fB,cF,ec,cG,ee,cH,eg,cI,ek,cJ,ep,cK,er,cL,eu,cM,ew,cN,ey,cO,ez,cQ,eC,cR,eD,cS,eE,cT,eF,cU,eG,cV,eH,cW,eI,cX,eJ,cY,eK,cZ,eL,de,eN,dg,eO,dh,eP,di,eR,dj,eS,dm,eT,dn,eU,dr,eV,dw,eW,dx,eX,dz,eZ,dA,fe,cB,ff,dB,fh,dD,fj,dF,fk,dG,fm,dH,fo,dS,dN,dO,dP,dQ,dR,dU,dV,dW,dX,cC,cA,ah,Q4.ints,Bool.and_self,hh,gp,gn]) | (with_reducible first | refine af xb ?_ | refine ag xb ?_) | (with_reducible first | refine af xd ?_ | refine ag xd ?_) | ((first | refine ai (fun hg=>?_) (fun hg=>?_) | refine ax (fun hg=>?_) (fun hg=>?_) | refine ay (fun hg=>?_) (fun hg=>?_)) <;> try simp -implicitDefEqProofs only [hg,Bool.not_true,Bool.not_false]) | ((with_reducible apply And.intro);focus (first | trivial | omega | decide | (simp -implicitDefEqProofs only [maxLen];omega) | (simp [maxLen,ah,ak,an,av,aj,au,aq] <;> omega))) | fail)
                 refine js _ _ ?_ main
                 rw [gn]
                 refine bh ?_
                 simp [lk,cw]
                ·have gp:(!AL)=true:=by rw [gl];rfl
                 rw [gq,cw] at fI
                 have xe:=fI;have xg:=hcl t.high;repeat' (first | (simp -implicitDefEqProofs only [go_sem,Int.reduceNegSucc,cD,dY,cE,dZ,cP,eA,dc,eM,dy,eY,dI,fq,dJ,fu,dK,fy,dL,fA,dM,fB,cF,ec,cG,ee,cH,eg,cI,ek,cJ,ep,cK,er,cL,eu,cM,ew,cN,ey,cO,ez,cQ,eC,cR,eD,cS,eE,cT,eF,cU,eG,cV,eH,cW,eI,cX,eJ,cY,eK,cZ,eL,de,eN,dg,eO,dh,eP,di,eR,dj,eS,dm,eT,dn,eU,dr,eV,dw,eW,dx,eX,dz,eZ,dA,fe,cB,ff,dB,fh,dD,fj,dF,fk,dG,fm,dH,fo,dS,dN,dO,dP,dQ,dR,dU,dV,dW,dX,cC,cA,ah,Q4.ints,Bool.and_self,hh,gp,gn]) | (with_reducible first | refine af xe ?_ | refine ag xe ?_) | (with_reducible first | refine af xg ?_ | refine ag xg ?_) | ((first | refine ai (fun hg=>?_) (fun hg=>?_) | refine ax (fun hg=>?_) (fun hg=>?_) | refine ay (fun hg=>?_) (fun hg=>?_)) <;> try simp -implicitDefEqProofs only [hg,Bool.not_true,Bool.not_false]) | ((with_reducible apply And.intro);focus (first | trivial | omega | decide | (simp -implicitDefEqProofs only [maxLen];omega) | (simp [maxLen,ah,ak,an,av,aj,au,aq] <;> omega))) | fail)
                 refine js _ _ ?_ main
                 rw [gn]
                 refine bh ?_
                 simp [lk,cw]
               ·have xh:=o1;have xj:=o2;repeat' (first | (simp -implicitDefEqProofs only [go_sem,Int.reduceNegSucc,cD,dY,cE,dZ,cP,eA,dc,eM,dy,eY,dI,fq,dJ,fu,dK,fy,dL,fA,dM,fB,cF,ec,cG,ee,cH,eg,cI,ek,cJ,ep,cK,er,cL,eu,cM,ew,cN,ey,cO,ez,cQ,eC,cR,eD,cS,eE,cT,eF,cU,eG,cV,eH,cW,eI,cX,eJ,cY,eK,cZ,eL,de,eN,dg,eO,dh,eP,di,eR,dj,eS,dm,eT,dn,eU,dr,eV,dw,eW,dx,eX,dz,eZ,dA,fe,cB,ff,dB,fh,dD,fj,dF,fk,dG,fm,dH,fo,dS,dN,dO,dP,dQ,dR,dU,dV,dW,dX,cC,cA,ah,Q4.ints,Bool.and_self,hh]) | (with_reducible refine aA ?_) | (with_reducible first | refine af xh ?_ | refine ag xh ?_) | (with_reducible first | refine af xj ?_ | refine ag xj ?_) | ((first | refine ai (fun hg=>?_) (fun hg=>?_) | refine ax (fun hg=>?_) (fun hg=>?_) | refine ay (fun hg=>?_) (fun hg=>?_)) <;> try simp -implicitDefEqProofs only [hg,Bool.not_true,Bool.not_false]) | ((with_reducible apply And.intro);focus (first | trivial | omega | decide | (simp -implicitDefEqProofs only [maxLen];omega) | (simp [maxLen,ah,ak,an,av,aj,au,aq] <;> omega))) | fail)
                refine jH 5 ?_
                have xk:=s1;have xm:=s3;repeat' (first | (simp -implicitDefEqProofs only [go_sem,Int.reduceNegSucc,jM,jN,jO,jP,jQ,jR,jD,Int.reduceLT,decide_true,decide_false,Int.reduceToNat,Nat.reduceMul,cD,dY,cE,dZ,cP,eA,dc,eM,dy,eY,dI,fq,dJ,fu,dK,fy,dL,fA,dM,fB,cF,ec,cG,ee,cH,eg,cI,ek,cJ,ep,cK,er,cL,eu,cM,ew,cN,ey,cO,ez,cQ,eC,cR,eD,cS,eE,cT,eF,cU,eG,cV,eH,cW,eI,cX,eJ,cY,eK,cZ,eL,de,eN,dg,eO,dh,eP,di,eR,dj,eS,dm,eT,dn,eU,dr,eV,dw,eW,dx,eX,dz,eZ,dA,fe,cB,ff,dB,fh,dD,fj,dF,fk,dG,fm,dH,fo,dS,dN,dO,dP,dQ,dR,dU,dV,dW,dX,cC,cA,ah,Q4.ints]) | (with_reducible refine aA ?_) | (with_reducible show G _ _ (It.l _ _::_) _ _ _;refine jG ?_) | ((first | refine bS (xk _) ?_ ?_ ?_ | refine ck (xk _) ?_ ?_ ?_ | fail);(focus (simp [aY,aB] <;> fail));(focus (simp [bq,aX] <;> fail))) | ((first | refine bS (xm _) ?_ ?_ ?_ | refine ck (xm _) ?_ ?_ ?_ | fail);(focus (simp [aY,aB] <;> fail));(focus (simp [bq,aX] <;> fail))) | ((first | refine ai (fun hg=>?_) (fun hg=>?_) | refine ax (fun hg=>?_) (fun hg=>?_) | refine ay (fun hg=>?_) (fun hg=>?_)) <;> try simp -implicitDefEqProofs only [hg,Bool.not_true,Bool.not_false]) | ((with_reducible apply And.intro);focus (first | trivial | omega | decide | (simp -implicitDefEqProofs only [maxLen];omega) | (simp [maxLen,ah,ak,an,av,aj,au,aq] <;> omega))) | fail)
                all_goals (refine (hK _ _ ?_).2;clear hK;simp -implicitDefEqProofs only [go_sem,Int.reduceNegSucc,aQ,aR,aV,bf,aH,aG,aF,bN,bk,Option.map,Option.isSome] <;>(try simp_all [-Int.not_lt,-Int.not_le,aH,aG,aF,bB,bN,bk,Option.map,Option.isSome]) <;> try omega)
           | true=>
             obtain ⟨t,rfl⟩:=Option.isSome_iff_exists.1 (hr rfl)
             simp -implicitDefEqProofs only [oZ,pG,tU,jT,hh,Bool.false_eq_true,if_false,if_true,Option.bind,Bool.not_true,Bool.not_false] at hK
             simp -implicitDefEqProofs only [bk,Pl.cells,List.map_cons,List.map_nil,List.cons_append,List.nil_append] at fI
             have s3:=s2 (jV t.high L X)
             have lR:=qg ⟨x.l,0,x.w,jV t.high L X,⟨bn M.a 0,x.r,bn M.c 0,x.l⟩,⟨D.a.n,D.b.n,D.c.n,D.d.n⟩,s.bD,false,⟨⟨0,0⟩,⟨0,0⟩,⟨0,0⟩,false,0⟩⟩ (.sl 1 (aM t.ys)) t.p (cv [cv [s.bD.a,D.a.n,D.c.n,s.bD.c],jV t.high L X]) rfl rfl
             simp -implicitDefEqProofs only [Fm.cells,Q4.ints,Ch.cells,ie,Pl.cells,List.map_cons,List.map_nil,List.cons_append,List.nil_append,hh] at lR
             generalize pW _ kids t.p (cv [cv [s.bD.a,D.a.n,D.c.n,s.bD.c],jV t.high L X])=C at *
             apply via
             ·intro main
              rcases hab with ⟨gl,gq,cw⟩ | ⟨gl,gn,gq,cw⟩ | ⟨gl,gn,gq,cw⟩
              ·have gp:(!AL)=false:=by rw [gl];rfl
               rw [gq,cw] at fI
               have xo:=fI;have Jx:=hcl t.high;repeat' (first | (simp -implicitDefEqProofs only [go_sem,Int.reduceNegSucc,cD,dY,cE,dZ,cP,eA,dc,eM,dy,eY,dI,fq,dJ,fu,dK,fy,dL,fA,dM,fB,cF,ec,cG,ee,cH,eg,cI,ek,cJ,ep,cK,er,cL,eu,cM,ew,cN,ey,cO,ez,cQ,eC,cR,eD,cS,eE,cT,eF,cU,eG,cV,eH,cW,eI,cX,eJ,cY,eK,cZ,eL,de,eN,dg,eO,dh,eP,di,eR,dj,eS,dm,eT,dn,eU,dr,eV,dw,eW,dx,eX,dz,eZ,dA,fe,cB,ff,dB,fh,dD,fj,dF,fk,dG,fm,dH,fo,dS,dN,dO,dP,dQ,dR,dU,dV,dW,dX,cC,cA,ah,Q4.ints,Bool.and_self,hh,gp]) | (with_reducible first | refine af xo ?_ | refine ag xo ?_) | (with_reducible first | refine af Jx ?_ | refine ag Jx ?_) | ((first | refine ai (fun hg=>?_) (fun hg=>?_) | refine ax (fun hg=>?_) (fun hg=>?_) | refine ay (fun hg=>?_) (fun hg=>?_)) <;> try simp -implicitDefEqProofs only [hg,Bool.not_true,Bool.not_false]) | ((with_reducible apply And.intro);focus (first | trivial | omega | decide | (simp -implicitDefEqProofs only [maxLen];omega) | (simp [maxLen,ah,ak,an,av,aj,au,aq] <;> omega))) | fail)
               refine js [(15,.rv (.bool true)),(10,.ptr 1 0),(11,.ptr 2 0),(13,.ptr 3 0),(14,.ptr 4 0),(23,.ptr 7 0),(26,.rv (.bool OB)),(27,.ptr 9 0),(28,.ptr 10 0)] _ (bh ?_) main
               simp [lk,cw]
              ·have gp:(!AL)=true:=by rw [gl];rfl
               rw [gq,cw] at fI
               have Jy:=fI;have Jz:=hcl t.high;repeat' (first | (simp -implicitDefEqProofs only [go_sem,Int.reduceNegSucc,cD,dY,cE,dZ,cP,eA,dc,eM,dy,eY,dI,fq,dJ,fu,dK,fy,dL,fA,dM,fB,cF,ec,cG,ee,cH,eg,cI,ek,cJ,ep,cK,er,cL,eu,cM,ew,cN,ey,cO,ez,cQ,eC,cR,eD,cS,eE,cT,eF,cU,eG,cV,eH,cW,eI,cX,eJ,cY,eK,cZ,eL,de,eN,dg,eO,dh,eP,di,eR,dj,eS,dm,eT,dn,eU,dr,eV,dw,eW,dx,eX,dz,eZ,dA,fe,cB,ff,dB,fh,dD,fj,dF,fk,dG,fm,dH,fo,dS,dN,dO,dP,dQ,dR,dU,dV,dW,dX,cC,cA,ah,Q4.ints,Bool.and_self,hh,gp,gn]) | (with_reducible first | refine af Jy ?_ | refine ag Jy ?_) | (with_reducible first | refine af Jz ?_ | refine ag Jz ?_) | ((first | refine ai (fun hg=>?_) (fun hg=>?_) | refine ax (fun hg=>?_) (fun hg=>?_) | refine ay (fun hg=>?_) (fun hg=>?_)) <;> try simp -implicitDefEqProofs only [hg,Bool.not_true,Bool.not_false]) | ((with_reducible apply And.intro);focus (first | trivial | omega | decide | (simp -implicitDefEqProofs only [maxLen];omega) | (simp [maxLen,ah,ak,an,av,aj,au,aq] <;> omega))) | fail)
               refine js _ _ ?_ main
               rw [gn]
               refine bh ?_
               simp [lk,cw]
              ·have gp:(!AL)=true:=by rw [gl];rfl
               rw [gq,cw] at fI
               have JA:=fI;have JB:=hcl t.high;repeat' (first | (simp -implicitDefEqProofs only [go_sem,Int.reduceNegSucc,cD,dY,cE,dZ,cP,eA,dc,eM,dy,eY,dI,fq,dJ,fu,dK,fy,dL,fA,dM,fB,cF,ec,cG,ee,cH,eg,cI,ek,cJ,ep,cK,er,cL,eu,cM,ew,cN,ey,cO,ez,cQ,eC,cR,eD,cS,eE,cT,eF,cU,eG,cV,eH,cW,eI,cX,eJ,cY,eK,cZ,eL,de,eN,dg,eO,dh,eP,di,eR,dj,eS,dm,eT,dn,eU,dr,eV,dw,eW,dx,eX,dz,eZ,dA,fe,cB,ff,dB,fh,dD,fj,dF,fk,dG,fm,dH,fo,dS,dN,dO,dP,dQ,dR,dU,dV,dW,dX,cC,cA,ah,Q4.ints,Bool.and_self,hh,gp,gn]) | (with_reducible first | refine af JA ?_ | refine ag JA ?_) | (with_reducible first | refine af JB ?_ | refine ag JB ?_) | ((first | refine ai (fun hg=>?_) (fun hg=>?_) | refine ax (fun hg=>?_) (fun hg=>?_) | refine ay (fun hg=>?_) (fun hg=>?_)) <;> try simp -implicitDefEqProofs only [hg,Bool.not_true,Bool.not_false]) | ((with_reducible apply And.intro);focus (first | trivial | omega | decide | (simp -implicitDefEqProofs only [maxLen];omega) | (simp [maxLen,ah,ak,an,av,aj,au,aq] <;> omega))) | fail)
               refine js _ _ ?_ main
               rw [gn]
               refine bh ?_
               simp [lk,cw]
             ·have JC:=o1;have JD:=o2;repeat' (first | (simp -implicitDefEqProofs only [go_sem,Int.reduceNegSucc,cD,dY,cE,dZ,cP,eA,dc,eM,dy,eY,dI,fq,dJ,fu,dK,fy,dL,fA,dM,fB,cF,ec,cG,ee,cH,eg,cI,ek,cJ,ep,cK,er,cL,eu,cM,ew,cN,ey,cO,ez,cQ,eC,cR,eD,cS,eE,cT,eF,cU,eG,cV,eH,cW,eI,cX,eJ,cY,eK,cZ,eL,de,eN,dg,eO,dh,eP,di,eR,dj,eS,dm,eT,dn,eU,dr,eV,dw,eW,dx,eX,dz,eZ,dA,fe,cB,ff,dB,fh,dD,fj,dF,fk,dG,fm,dH,fo,dS,dN,dO,dP,dQ,dR,dU,dV,dW,dX,cC,cA,ah,Q4.ints,Bool.and_self,hh]) | (with_reducible refine aA ?_) | (with_reducible first | refine af JC ?_ | refine ag JC ?_) | (with_reducible first | refine af JD ?_ | refine ag JD ?_) | ((first | refine ai (fun hg=>?_) (fun hg=>?_) | refine ax (fun hg=>?_) (fun hg=>?_) | refine ay (fun hg=>?_) (fun hg=>?_)) <;> try simp -implicitDefEqProofs only [hg,Bool.not_true,Bool.not_false]) | ((with_reducible apply And.intro);focus (first | trivial | omega | decide | (simp -implicitDefEqProofs only [maxLen];omega) | (simp [maxLen,ah,ak,an,av,aj,au,aq] <;> omega))) | fail)
              refine jH 5 ?_
              cases k1:fV [s.bD.a,D.a.n,D.c.n,s.bD.c] <;> cases k2:fV [cv [s.bD.a,D.a.n,D.c.n,s.bD.c],jV t.high L X] <;> rw [k1] at s1 <;> rw [k2] at s3 <;> simp -implicitDefEqProofs only [k1,k2,and_self,and_true,true_and,and_false,false_and,Bool.false_eq_true,if_true,if_false] at hK
              all_goals ((have JE:=s1;have JF:=s3;have JG:=lR;repeat' (first | (simp -implicitDefEqProofs only [go_sem,Int.reduceNegSucc,jM,jN,jO,jP,jQ,jR,jD,Int.reduceLT,decide_true,decide_false,Int.reduceToNat,Nat.reduceMul,cD,dY,cE,dZ,cP,eA,dc,eM,dy,eY,dI,fq,dJ,fu,dK,fy,dL,fA,dM,fB,cF,ec,cG,ee,cH,eg,cI,ek,cJ,ep,cK,er,cL,eu,cM,ew,cN,ey,cO,ez,cQ,eC,cR,eD,cS,eE,cT,eF,cU,eG,cV,eH,cW,eI,cX,eJ,cY,eK,cZ,eL,de,eN,dg,eO,dh,eP,di,eR,dj,eS,dm,eT,dn,eU,dr,eV,dw,eW,dx,eX,dz,eZ,dA,fe,cB,ff,dB,fh,dD,fj,dF,fk,dG,fm,dH,fo,dS,dN,dO,dP,dQ,dR,dU,dV,dW,dX,cC,cA,ah,Q4.ints]) | (with_reducible refine aA ?_) | (with_reducible show G _ _ (It.l _ _::_) _ _ _;refine jG ?_) | ((first | refine bS (JE _) ?_ ?_ ?_ | refine ck (JE _) ?_ ?_ ?_ | fail);(focus (simp [aY,aB] <;> fail));(focus (simp [bq,aX] <;> fail))) | ((first | refine bS (JF _) ?_ ?_ ?_ | refine ck (JF _) ?_ ?_ ?_ | fail);(focus (simp [aY,aB] <;> fail));(focus (simp [bq,aX] <;> fail))) | (with_reducible first | refine af JG ?_ | refine ag JG ?_) | ((first | refine ai (fun hg=>?_) (fun hg=>?_) | refine ax (fun hg=>?_) (fun hg=>?_) | refine ay (fun hg=>?_) (fun hg=>?_)) <;> try simp -implicitDefEqProofs only [hg,Bool.not_true,Bool.not_false]) | ((with_reducible apply And.intro);focus (first | trivial | omega | decide | (simp -implicitDefEqProofs only [maxLen];omega) | (simp [maxLen,ah,ak,an,av,aj,au,aq] <;> omega))) | fail)))
              all_goals (refine (hK _ _ ?_).2;clear hK;simp -implicitDefEqProofs only [go_sem,Int.reduceNegSucc,aQ,aR,aV,bf,aH,aG,aF,bN,bk,Fm.cells,Q4.ints,Ch.cells,Pl.cells,Option.map,Option.isSome] <;>(try simp_all [-Int.not_lt,-Int.not_le,aH,aG,aF,bB,bN,bk,Fm.cells,Q4.ints,Ch.cells,Pl.cells,Option.map,Option.isSome]) <;> try omega)
         | false=>
           simp -implicitDefEqProofs only [mG,hh,if_true,Bool.false_eq_true,if_false,Bool.true_and,Bool.false_and] at fI hab
           have JH:=hac;have JI:=hcl H.n;repeat' (first | (simp -implicitDefEqProofs only [go_sem,Int.reduceNegSucc,cD,dY,cE,dZ,cP,eA,dc,eM,dy,eY,dI,fq,dJ,fu,dK,fy,dL,fA,dM,fB,cF,ec,cG,ee,cH,eg,cI,ek,cJ,ep,cK,er,cL,eu,cM,ew,cN,ey,cO,ez,cQ,eC,cR,eD,cS,eE,cT,eF,cU,eG,cV,eH,cW,eI,cX,eJ,cY,eK,cZ,eL,de,eN,dg,eO,dh,eP,di,eR,dj,eS,dm,eT,dn,eU,dr,eV,dw,eW,dx,eX,dz,eZ,dA,fe,cB,ff,dB,fh,dD,fj,dF,fk,dG,fm,dH,fo,dS,dN,dO,dP,dQ,dR,dU,dV,dW,dX,cC,cA,ah,Q4.ints,Bool.and_self,hh]) | (with_reducible first | refine af JH ?_ | refine ag JH ?_) | (with_reducible first | refine af JI ?_ | refine ag JI ?_) | ((first | refine ai (fun hg=>?_) (fun hg=>?_) | refine ax (fun hg=>?_) (fun hg=>?_) | refine ay (fun hg=>?_) (fun hg=>?_)) <;> try simp -implicitDefEqProofs only [hg,Bool.not_true,Bool.not_false]) | ((with_reducible apply And.intro);focus (first | trivial | omega | decide | (simp -implicitDefEqProofs only [maxLen];omega) | (simp [maxLen,ah,ak,an,av,aj,au,aq] <;> omega))) | fail)
           refine js [(0,.rv (.sl 49 (bw l))),(1,.rv (.int .i64 k)),(10,.ptr 1 0),(11,.ptr 2 0),(13,.ptr 3 0),(14,.ptr 4 0),(23,.ptr 7 0),(24,.ptr 8 0)] _ (bh (by simp [lk])) ?_
           cases Hj with
           | false=>
             simp -implicitDefEqProofs only [oZ,Bool.false_eq_true,if_false] at hK
             cases r1 with
             | none=>
               simp -implicitDefEqProofs only [bk,List.map_cons,List.map_nil] at fI
               have s3:=s2 (jV H.n L X)
               apply via
               ·intro main
                rcases hab with ⟨gl,gq,cw⟩ | ⟨gl,gn,gq,cw⟩ | ⟨gl,gn,gq,cw⟩
                ·have gp:(!AL)=false:=by rw [gl];rfl
                 rw [gq,cw] at fI
                 have JJ:=fI;repeat' (first | (simp -implicitDefEqProofs only [go_sem,Int.reduceNegSucc,cD,dY,cE,dZ,cP,eA,dc,eM,dy,eY,dI,fq,dJ,fu,dK,fy,dL,fA,dM,fB,cF,ec,cG,ee,cH,eg,cI,ek,cJ,ep,cK,er,cL,eu,cM,ew,cN,ey,cO,ez,cQ,eC,cR,eD,cS,eE,cT,eF,cU,eG,cV,eH,cW,eI,cX,eJ,cY,eK,cZ,eL,de,eN,dg,eO,dh,eP,di,eR,dj,eS,dm,eT,dn,eU,dr,eV,dw,eW,dx,eX,dz,eZ,dA,fe,cB,ff,dB,fh,dD,fj,dF,fk,dG,fm,dH,fo,dS,dN,dO,dP,dQ,dR,dU,dV,dW,dX,cC,cA,ah,Q4.ints,Bool.and_self,hh,gp]) | (with_reducible first | refine af JJ ?_ | refine ag JJ ?_) | ((first | refine ai (fun hg=>?_) (fun hg=>?_) | refine ax (fun hg=>?_) (fun hg=>?_) | refine ay (fun hg=>?_) (fun hg=>?_)) <;> try simp -implicitDefEqProofs only [hg,Bool.not_true,Bool.not_false]) | ((with_reducible apply And.intro);focus (first | trivial | omega | decide | (simp -implicitDefEqProofs only [maxLen];omega) | (simp [maxLen,ah,ak,an,av,aj,au,aq] <;> omega))) | fail)
                 refine js [(15,.rv (.bool false)),(10,.ptr 1 0),(11,.ptr 2 0),(13,.ptr 3 0),(14,.ptr 4 0),(23,.ptr 7 0),(26,.rv (.bool OB)),(27,.ptr 9 0),(28,.ptr 10 0)] _ (bh ?_) main
                 simp [lk,cw]
                ·have gp:(!AL)=true:=by rw [gl];rfl
                 rw [gq,cw] at fI
                 have JK:=fI;repeat' (first | (simp -implicitDefEqProofs only [go_sem,Int.reduceNegSucc,cD,dY,cE,dZ,cP,eA,dc,eM,dy,eY,dI,fq,dJ,fu,dK,fy,dL,fA,dM,fB,cF,ec,cG,ee,cH,eg,cI,ek,cJ,ep,cK,er,cL,eu,cM,ew,cN,ey,cO,ez,cQ,eC,cR,eD,cS,eE,cT,eF,cU,eG,cV,eH,cW,eI,cX,eJ,cY,eK,cZ,eL,de,eN,dg,eO,dh,eP,di,eR,dj,eS,dm,eT,dn,eU,dr,eV,dw,eW,dx,eX,dz,eZ,dA,fe,cB,ff,dB,fh,dD,fj,dF,fk,dG,fm,dH,fo,dS,dN,dO,dP,dQ,dR,dU,dV,dW,dX,cC,cA,ah,Q4.ints,Bool.and_self,hh,gp,gn]) | (with_reducible first | refine af JK ?_ | refine ag JK ?_) | ((first | refine ai (fun hg=>?_) (fun hg=>?_) | refine ax (fun hg=>?_) (fun hg=>?_) | refine ay (fun hg=>?_) (fun hg=>?_)) <;> try simp -implicitDefEqProofs only [hg,Bool.not_true,Bool.not_false]) | ((with_reducible apply And.intro);focus (first | trivial | omega | decide | (simp -implicitDefEqProofs only [maxLen];omega) | (simp [maxLen,ah,ak,an,av,aj,au,aq] <;> omega))) | fail)
                 refine js _ _ ?_ main
                 rw [gn]
                 refine bh ?_
                 simp [lk,cw]
                ·have gp:(!AL)=true:=by rw [gl];rfl
                 rw [gq,cw] at fI
                 have JL:=fI;repeat' (first | (simp -implicitDefEqProofs only [go_sem,Int.reduceNegSucc,cD,dY,cE,dZ,cP,eA,dc,eM,dy,eY,dI,fq,dJ,fu,dK,fy,dL,fA,dM,fB,cF,ec,cG,ee,cH,eg,cI,ek,cJ,ep,cK,er,cL,eu,cM,ew,cN,ey,cO,ez,cQ,eC,cR,eD,cS,eE,cT,eF,cU,eG,cV,eH,cW,eI,cX,eJ,cY,eK,cZ,eL,de,eN,dg,eO,dh,eP,di,eR,dj,eS,dm,eT,dn,eU,dr,eV,dw,eW,dx,eX,dz,eZ,dA,fe,cB,ff,dB,fh,dD,fj,dF,fk,dG,fm,dH,fo,dS,dN,dO,dP,dQ,dR,dU,dV,dW,dX,cC,cA,ah,Q4.ints,Bool.and_self,hh,gp,gn]) | (with_reducible first | refine af JL ?_ | refine ag JL ?_) | ((first | refine ai (fun hg=>?_) (fun hg=>?_) | refine ax (fun hg=>?_) (fun hg=>?_) | refine ay (fun hg=>?_) (fun hg=>?_)) <;> try simp -implicitDefEqProofs only [hg,Bool.not_true,Bool.not_false]) | ((with_reducible apply And.intro);focus (first | trivial | omega | decide | (simp -implicitDefEqProofs only [maxLen];omega) | (simp [maxLen,ah,ak,an,av,aj,au,aq] <;> omega))) | fail)
                 refine js _ _ ?_ main
                 rw [gn]
                 refine bh ?_
                 simp [lk,cw]
               ·have JM:=o1;have JN:=o2;repeat' (first | (simp -implicitDefEqProofs only [go_sem,Int.reduceNegSucc,cD,dY,cE,dZ,cP,eA,dc,eM,dy,eY,dI,fq,dJ,fu,dK,fy,dL,fA,dM,fB,cF,ec,cG,ee,cH,eg,cI,ek,cJ,ep,cK,er,cL,eu,cM,ew,cN,ey,cO,ez,cQ,eC,cR,eD,cS,eE,cT,eF,cU,eG,cV,eH,cW,eI,cX,eJ,cY,eK,cZ,eL,de,eN,dg,eO,dh,eP,di,eR,dj,eS,dm,eT,dn,eU,dr,eV,dw,eW,dx,eX,dz,eZ,dA,fe,cB,ff,dB,fh,dD,fj,dF,fk,dG,fm,dH,fo,dS,dN,dO,dP,dQ,dR,dU,dV,dW,dX,cC,cA,ah,Q4.ints,Bool.and_self,hh]) | (with_reducible refine aA ?_) | (with_reducible first | refine af JM ?_ | refine ag JM ?_) | (with_reducible first | refine af JN ?_ | refine ag JN ?_) | ((first | refine ai (fun hg=>?_) (fun hg=>?_) | refine ax (fun hg=>?_) (fun hg=>?_) | refine ay (fun hg=>?_) (fun hg=>?_)) <;> try simp -implicitDefEqProofs only [hg,Bool.not_true,Bool.not_false]) | ((with_reducible apply And.intro);focus (first | trivial | omega | decide | (simp -implicitDefEqProofs only [maxLen];omega) | (simp [maxLen,ah,ak,an,av,aj,au,aq] <;> omega))) | fail)
                refine jH 5 ?_
                have JO:=s1;have JP:=s3;repeat' (first | (simp -implicitDefEqProofs only [go_sem,Int.reduceNegSucc,jM,jN,jO,jP,jQ,jR,jD,Int.reduceLT,decide_true,decide_false,Int.reduceToNat,Nat.reduceMul,cD,dY,cE,dZ,cP,eA,dc,eM,dy,eY,dI,fq,dJ,fu,dK,fy,dL,fA,dM,fB,cF,ec,cG,ee,cH,eg,cI,ek,cJ,ep,cK,er,cL,eu,cM,ew,cN,ey,cO,ez,cQ,eC,cR,eD,cS,eE,cT,eF,cU,eG,cV,eH,cW,eI,cX,eJ,cY,eK,cZ,eL,de,eN,dg,eO,dh,eP,di,eR,dj,eS,dm,eT,dn,eU,dr,eV,dw,eW,dx,eX,dz,eZ,dA,fe,cB,ff,dB,fh,dD,fj,dF,fk,dG,fm,dH,fo,dS,dN,dO,dP,dQ,dR,dU,dV,dW,dX,cC,cA,ah,Q4.ints]) | (with_reducible refine aA ?_) | (with_reducible show G _ _ (It.l _ _::_) _ _ _;refine jG ?_) | ((first | refine bS (JO _) ?_ ?_ ?_ | refine ck (JO _) ?_ ?_ ?_ | fail);(focus (simp [aY,aB] <;> fail));(focus (simp [bq,aX] <;> fail))) | ((first | refine bS (JP _) ?_ ?_ ?_ | refine ck (JP _) ?_ ?_ ?_ | fail);(focus (simp [aY,aB] <;> fail));(focus (simp [bq,aX] <;> fail))) | ((first | refine ai (fun hg=>?_) (fun hg=>?_) | refine ax (fun hg=>?_) (fun hg=>?_) | refine ay (fun hg=>?_) (fun hg=>?_)) <;> try simp -implicitDefEqProofs only [hg,Bool.not_true,Bool.not_false]) | ((with_reducible apply And.intro);focus (first | trivial | omega | decide | (simp -implicitDefEqProofs only [maxLen];omega) | (simp [maxLen,ah,ak,an,av,aj,au,aq] <;> omega))) | fail)
                all_goals (refine (hK _ _ ?_).2;clear hK;simp -implicitDefEqProofs only [go_sem,Int.reduceNegSucc,aQ,aR,aV,bf,aH,aG,aF,bN,bk,Option.map,Option.isSome] <;>(try simp_all [-Int.not_lt,-Int.not_le,aH,aG,aF,bB,bN,bk,Option.map,Option.isSome]) <;> try omega)
             | some t=>
               simp -implicitDefEqProofs only [bk,Pl.cells,List.map_cons,List.map_nil,List.cons_append,List.nil_append] at fI
               have s3:=s2 (jV H.n L X)
               apply via
               ·intro main
                rcases hab with ⟨gl,gq,cw⟩ | ⟨gl,gn,gq,cw⟩ | ⟨gl,gn,gq,cw⟩
                ·have gp:(!AL)=false:=by rw [gl];rfl
                 rw [gq,cw] at fI
                 have JQ:=fI;repeat' (first | (simp -implicitDefEqProofs only [go_sem,Int.reduceNegSucc,cD,dY,cE,dZ,cP,eA,dc,eM,dy,eY,dI,fq,dJ,fu,dK,fy,dL,fA,dM,fB,cF,ec,cG,ee,cH,eg,cI,ek,cJ,ep,cK,er,cL,eu,cM,ew,cN,ey,cO,ez,cQ,eC,cR,eD,cS,eE,cT,eF,cU,eG,cV,eH,cW,eI,cX,eJ,cY,eK,cZ,eL,de,eN,dg,eO,dh,eP,di,eR,dj,eS,dm,eT,dn,eU,dr,eV,dw,eW,dx,eX,dz,eZ,dA,fe,cB,ff,dB,fh,dD,fj,dF,fk,dG,fm,dH,fo,dS,dN,dO,dP,dQ,dR,dU,dV,dW,dX,cC,cA,ah,Q4.ints,Bool.and_self,hh,gp]) | (with_reducible first | refine af JQ ?_ | refine ag JQ ?_) | ((first | refine ai (fun hg=>?_) (fun hg=>?_) | refine ax (fun hg=>?_) (fun hg=>?_) | refine ay (fun hg=>?_) (fun hg=>?_)) <;> try simp -implicitDefEqProofs only [hg,Bool.not_true,Bool.not_false]) | ((with_reducible apply And.intro);focus (first | trivial | omega | decide | (simp -implicitDefEqProofs only [maxLen];omega) | (simp [maxLen,ah,ak,an,av,aj,au,aq] <;> omega))) | fail)
                 refine js [(15,.rv (.bool false)),(10,.ptr 1 0),(11,.ptr 2 0),(13,.ptr 3 0),(14,.ptr 4 0),(23,.ptr 7 0),(26,.rv (.bool OB)),(27,.ptr 9 0),(28,.ptr 10 0)] _ (bh ?_) main
                 simp [lk,cw]
                ·have gp:(!AL)=true:=by rw [gl];rfl
                 rw [gq,cw] at fI
                 have JR:=fI;repeat' (first | (simp -implicitDefEqProofs only [go_sem,Int.reduceNegSucc,cD,dY,cE,dZ,cP,eA,dc,eM,dy,eY,dI,fq,dJ,fu,dK,fy,dL,fA,dM,fB,cF,ec,cG,ee,cH,eg,cI,ek,cJ,ep,cK,er,cL,eu,cM,ew,cN,ey,cO,ez,cQ,eC,cR,eD,cS,eE,cT,eF,cU,eG,cV,eH,cW,eI,cX,eJ,cY,eK,cZ,eL,de,eN,dg,eO,dh,eP,di,eR,dj,eS,dm,eT,dn,eU,dr,eV,dw,eW,dx,eX,dz,eZ,dA,fe,cB,ff,dB,fh,dD,fj,dF,fk,dG,fm,dH,fo,dS,dN,dO,dP,dQ,dR,dU,dV,dW,dX,cC,cA,ah,Q4.ints,Bool.and_self,hh,gp,gn]) | (with_reducible first | refine af JR ?_ | refine ag JR ?_) | ((first | refine ai (fun hg=>?_) (fun hg=>?_) | refine ax (fun hg=>?_) (fun hg=>?_) | refine ay (fun hg=>?_) (fun hg=>?_)) <;> try simp -implicitDefEqProofs only [hg,Bool.not_true,Bool.not_false]) | ((with_reducible apply And.intro);focus (first | trivial | omega | decide | (simp -implicitDefEqProofs only [maxLen];omega) | (simp [maxLen,ah,ak,an,av,aj,au,aq] <;> omega))) | fail)
                 refine js _ _ ?_ main
                 rw [gn]
                 refine bh ?_
                 simp [lk,cw]
                ·have gp:(!AL)=true:=by rw [gl];rfl
                 rw [gq,cw] at fI
                 have JS:=fI;repeat' (first | (simp -implicitDefEqProofs only [go_sem,Int.reduceNegSucc,cD,dY,cE,dZ,cP,eA,dc,eM,dy,eY,dI,fq,dJ,fu,dK,fy,dL,fA,dM,fB,cF,ec,cG,ee,cH,eg,cI,ek,cJ,ep,cK,er,cL,eu,cM,ew,cN,ey,cO,ez,cQ,eC,cR,eD,cS,eE,cT,eF,cU,eG,cV,eH,cW,eI,cX,eJ,cY,eK,cZ,eL,de,eN,dg,eO,dh,eP,di,eR,dj,eS,dm,eT,dn,eU,dr,eV,dw,eW,dx,eX,dz,eZ,dA,fe,cB,ff,dB,fh,dD,fj,dF,fk,dG,fm,dH,fo,dS,dN,dO,dP,dQ,dR,dU,dV,dW,dX,cC,cA,ah,Q4.ints,Bool.and_self,hh,gp,gn]) | (with_reducible first | refine af JS ?_ | refine ag JS ?_) | ((first | refine ai (fun hg=>?_) (fun hg=>?_) | refine ax (fun hg=>?_) (fun hg=>?_) | refine ay (fun hg=>?_) (fun hg=>?_)) <;> try simp -implicitDefEqProofs only [hg,Bool.not_true,Bool.not_false]) | ((with_reducible apply And.intro);focus (first | trivial | omega | decide | (simp -implicitDefEqProofs only [maxLen];omega) | (simp [maxLen,ah,ak,an,av,aj,au,aq] <;> omega))) | fail)
                 refine js _ _ ?_ main
                 rw [gn]
                 refine bh ?_
                 simp [lk,cw]
               ·have JT:=o1;have JU:=o2;repeat' (first | (simp -implicitDefEqProofs only [go_sem,Int.reduceNegSucc,cD,dY,cE,dZ,cP,eA,dc,eM,dy,eY,dI,fq,dJ,fu,dK,fy,dL,fA,dM,fB,cF,ec,cG,ee,cH,eg,cI,ek,cJ,ep,cK,er,cL,eu,cM,ew,cN,ey,cO,ez,cQ,eC,cR,eD,cS,eE,cT,eF,cU,eG,cV,eH,cW,eI,cX,eJ,cY,eK,cZ,eL,de,eN,dg,eO,dh,eP,di,eR,dj,eS,dm,eT,dn,eU,dr,eV,dw,eW,dx,eX,dz,eZ,dA,fe,cB,ff,dB,fh,dD,fj,dF,fk,dG,fm,dH,fo,dS,dN,dO,dP,dQ,dR,dU,dV,dW,dX,cC,cA,ah,Q4.ints,Bool.and_self,hh]) | (with_reducible refine aA ?_) | (with_reducible first | refine af JT ?_ | refine ag JT ?_) | (with_reducible first | refine af JU ?_ | refine ag JU ?_) | ((first | refine ai (fun hg=>?_) (fun hg=>?_) | refine ax (fun hg=>?_) (fun hg=>?_) | refine ay (fun hg=>?_) (fun hg=>?_)) <;> try simp -implicitDefEqProofs only [hg,Bool.not_true,Bool.not_false]) | ((with_reducible apply And.intro);focus (first | trivial | omega | decide | (simp -implicitDefEqProofs only [maxLen];omega) | (simp [maxLen,ah,ak,an,av,aj,au,aq] <;> omega))) | fail)
                refine jH 5 ?_
                have JV:=s1;have JW:=s3;repeat' (first | (simp -implicitDefEqProofs only [go_sem,Int.reduceNegSucc,jM,jN,jO,jP,jQ,jR,jD,Int.reduceLT,decide_true,decide_false,Int.reduceToNat,Nat.reduceMul,cD,dY,cE,dZ,cP,eA,dc,eM,dy,eY,dI,fq,dJ,fu,dK,fy,dL,fA,dM,fB,cF,ec,cG,ee,cH,eg,cI,ek,cJ,ep,cK,er,cL,eu,cM,ew,cN,ey,cO,ez,cQ,eC,cR,eD,cS,eE,cT,eF,cU,eG,cV,eH,cW,eI,cX,eJ,cY,eK,cZ,eL,de,eN,dg,eO,dh,eP,di,eR,dj,eS,dm,eT,dn,eU,dr,eV,dw,eW,dx,eX,dz,eZ,dA,fe,cB,ff,dB,fh,dD,fj,dF,fk,dG,fm,dH,fo,dS,dN,dO,dP,dQ,dR,dU,dV,dW,dX,cC,cA,ah,Q4.ints]) | (with_reducible refine aA ?_) | (with_reducible show G _ _ (It.l _ _::_) _ _ _;refine jG ?_) | ((first | refine bS (JV _) ?_ ?_ ?_ | refine ck (JV _) ?_ ?_ ?_ | fail);(focus (simp [aY,aB] <;> fail));(focus (simp [bq,aX] <;> fail))) | ((first | refine bS (JW _) ?_ ?_ ?_ | refine ck (JW _) ?_ ?_ ?_ | fail);(focus (simp [aY,aB] <;> fail));(focus (simp [bq,aX] <;> fail))) | ((first | refine ai (fun hg=>?_) (fun hg=>?_) | refine ax (fun hg=>?_) (fun hg=>?_) | refine ay (fun hg=>?_) (fun hg=>?_)) <;> try simp -implicitDefEqProofs only [hg,Bool.not_true,Bool.not_false]) | ((with_reducible apply And.intro);focus (first | trivial | omega | decide | (simp -implicitDefEqProofs only [maxLen];omega) | (simp [maxLen,ah,ak,an,av,aj,au,aq] <;> omega))) | fail)
                all_goals (refine (hK _ _ ?_).2;clear hK;simp -implicitDefEqProofs only [go_sem,Int.reduceNegSucc,aQ,aR,aV,bf,aH,aG,aF,bN,bk,Option.map,Option.isSome] <;>(try simp_all [-Int.not_lt,-Int.not_le,aH,aG,aF,bB,bN,bk,Option.map,Option.isSome]) <;> try omega)
           | true=>
             obtain ⟨t,rfl⟩:=Option.isSome_iff_exists.1 (hr rfl)
             simp -implicitDefEqProofs only [oZ,pG,tU,jT,hh,Bool.false_eq_true,if_false,if_true,Option.bind,Bool.not_true,Bool.not_false] at hK
             simp -implicitDefEqProofs only [bk,Pl.cells,List.map_cons,List.map_nil,List.cons_append,List.nil_append] at fI
             have s3:=s2 (jV H.n L X)
             have lR:=qg ⟨x.l,0,x.w,jV H.n L X,⟨bn M.a 0,x.r,bn M.c 0,x.l⟩,⟨D.a.n,D.b.n,D.c.n,D.d.n⟩,s.bD,true,⟨⟨0,0⟩,⟨0,0⟩,⟨0,0⟩,false,0⟩⟩ (.sl 1 (aM t.ys)) t.p (cv [cv [s.bD.a,D.a.n,D.c.n,s.bD.c],jV H.n L X]) rfl rfl
             simp -implicitDefEqProofs only [Fm.cells,Q4.ints,Ch.cells,ie,Pl.cells,List.map_cons,List.map_nil,List.cons_append,List.nil_append,hh] at lR
             generalize pW _ kids t.p (cv [cv [s.bD.a,D.a.n,D.c.n,s.bD.c],jV H.n L X])=C at *
             apply via
             ·intro main
              rcases hab with ⟨gl,gq,cw⟩ | ⟨gl,gn,gq,cw⟩ | ⟨gl,gn,gq,cw⟩
              ·have gp:(!AL)=false:=by rw [gl];rfl
               rw [gq,cw] at fI
               have JX:=fI;repeat' (first | (simp -implicitDefEqProofs only [go_sem,Int.reduceNegSucc,cD,dY,cE,dZ,cP,eA,dc,eM,dy,eY,dI,fq,dJ,fu,dK,fy,dL,fA,dM,fB,cF,ec,cG,ee,cH,eg,cI,ek,cJ,ep,cK,er,cL,eu,cM,ew,cN,ey,cO,ez,cQ,eC,cR,eD,cS,eE,cT,eF,cU,eG,cV,eH,cW,eI,cX,eJ,cY,eK,cZ,eL,de,eN,dg,eO,dh,eP,di,eR,dj,eS,dm,eT,dn,eU,dr,eV,dw,eW,dx,eX,dz,eZ,dA,fe,cB,ff,dB,fh,dD,fj,dF,fk,dG,fm,dH,fo,dS,dN,dO,dP,dQ,dR,dU,dV,dW,dX,cC,cA,ah,Q4.ints,Bool.and_self,hh,gp]) | (with_reducible first | refine af JX ?_ | refine ag JX ?_) | ((first | refine ai (fun hg=>?_) (fun hg=>?_) | refine ax (fun hg=>?_) (fun hg=>?_) | refine ay (fun hg=>?_) (fun hg=>?_)) <;> try simp -implicitDefEqProofs only [hg,Bool.not_true,Bool.not_false]) | ((with_reducible apply And.intro);focus (first | trivial | omega | decide | (simp -implicitDefEqProofs only [maxLen];omega) | (simp [maxLen,ah,ak,an,av,aj,au,aq] <;> omega))) | fail)
               refine js [(15,.rv (.bool true)),(10,.ptr 1 0),(11,.ptr 2 0),(13,.ptr 3 0),(14,.ptr 4 0),(23,.ptr 7 0),(26,.rv (.bool OB)),(27,.ptr 9 0),(28,.ptr 10 0)] _ (bh ?_) main
               simp [lk,cw]
              ·have gp:(!AL)=true:=by rw [gl];rfl
               rw [gq,cw] at fI
               have JY:=fI;repeat' (first | (simp -implicitDefEqProofs only [go_sem,Int.reduceNegSucc,cD,dY,cE,dZ,cP,eA,dc,eM,dy,eY,dI,fq,dJ,fu,dK,fy,dL,fA,dM,fB,cF,ec,cG,ee,cH,eg,cI,ek,cJ,ep,cK,er,cL,eu,cM,ew,cN,ey,cO,ez,cQ,eC,cR,eD,cS,eE,cT,eF,cU,eG,cV,eH,cW,eI,cX,eJ,cY,eK,cZ,eL,de,eN,dg,eO,dh,eP,di,eR,dj,eS,dm,eT,dn,eU,dr,eV,dw,eW,dx,eX,dz,eZ,dA,fe,cB,ff,dB,fh,dD,fj,dF,fk,dG,fm,dH,fo,dS,dN,dO,dP,dQ,dR,dU,dV,dW,dX,cC,cA,ah,Q4.ints,Bool.and_self,hh,gp,gn]) | (with_reducible first | refine af JY ?_ | refine ag JY ?_) | ((first | refine ai (fun hg=>?_) (fun hg=>?_) | refine ax (fun hg=>?_) (fun hg=>?_) | refine ay (fun hg=>?_) (fun hg=>?_)) <;> try simp -implicitDefEqProofs only [hg,Bool.not_true,Bool.not_false]) | ((with_reducible apply And.intro);focus (first | trivial | omega | decide | (simp -implicitDefEqProofs only [maxLen];omega) | (simp [maxLen,ah,ak,an,av,aj,au,aq] <;> omega))) | fail)
               refine js _ _ ?_ main
               rw [gn]
               refine bh ?_
               simp [lk,cw]
              ·have gp:(!AL)=true:=by rw [gl];rfl
               rw [gq,cw] at fI
               have JZ:=fI;repeat' (first | (simp -implicitDefEqProofs only [go_sem,Int.reduceNegSucc,cD,dY,cE,dZ,cP,eA,dc,eM,dy,eY,dI,fq,dJ,fu,dK,fy,dL,fA,dM,fB,cF,ec,cG,ee,cH,eg,cI,ek,cJ,ep,cK,er,cL,eu,cM,ew,cN,ey,cO,ez,cQ,eC,cR,eD,cS,eE,cT,eF,cU,eG,cV,eH,cW,eI,cX,eJ,cY,eK,cZ,eL,de,eN,dg,eO,dh,eP,di,eR,dj,eS,dm,eT,dn,eU,dr,eV,dw,eW,dx,eX,dz,eZ,dA,fe,cB,ff,dB,fh,dD,fj,dF,fk,dG,fm,dH,fo,dS,dN,dO,dP,dQ,dR,dU,dV,dW,dX,cC,cA,ah,Q4.ints,Bool.and_self,hh,gp,gn]) | (with_reducible first | refine af JZ ?_ | refine ag JZ ?_) | ((first | refine ai (fun hg=>?_) (fun hg=>?_) | refine ax (fun hg=>?_) (fun hg=>?_) | refine ay (fun hg=>?_) (fun hg=>?_)) <;> try simp -implicitDefEqProofs only [hg,Bool.not_true,Bool.not_false]) | ((with_reducible apply And.intro);focus (first | trivial | omega | decide | (simp -implicitDefEqProofs only [maxLen];omega) | (simp [maxLen,ah,ak,an,av,aj,au,aq] <;> omega))) | fail)
               refine js _ _ ?_ main
               rw [gn]
               refine bh ?_
               simp [lk,cw]
             ·have Ka:=o1;have Kb:=o2;repeat' (first | (simp -implicitDefEqProofs only [go_sem,Int.reduceNegSucc,cD,dY,cE,dZ,cP,eA,dc,eM,dy,eY,dI,fq,dJ,fu,dK,fy,dL,fA,dM,fB,cF,ec,cG,ee,cH,eg,cI,ek,cJ,ep,cK,er,cL,eu,cM,ew,cN,ey,cO,ez,cQ,eC,cR,eD,cS,eE,cT,eF,cU,eG,cV,eH,cW,eI,cX,eJ,cY,eK,cZ,eL,de,eN,dg,eO,dh,eP,di,eR,dj,eS,dm,eT,dn,eU,dr,eV,dw,eW,dx,eX,dz,eZ,dA,fe,cB,ff,dB,fh,dD,fj,dF,fk,dG,fm,dH,fo,dS,dN,dO,dP,dQ,dR,dU,dV,dW,dX,cC,cA,ah,Q4.ints,Bool.and_self,hh]) | (with_reducible refine aA ?_) | (with_reducible first | refine af Ka ?_ | refine ag Ka ?_) | (with_reducible first | refine af Kb ?_ | refine ag Kb ?_) | ((first | refine ai (fun hg=>?_) (fun hg=>?_) | refine ax (fun hg=>?_) (fun hg=>?_) | refine ay (fun hg=>?_) (fun hg=>?_)) <;> try simp -implicitDefEqProofs only [hg,Bool.not_true,Bool.not_false]) | ((with_reducible apply And.intro);focus (first | trivial | omega | decide | (simp -implicitDefEqProofs only [maxLen];omega) | (simp [maxLen,ah,ak,an,av,aj,au,aq] <;> omega))) | fail)
              refine jH 5 ?_
              cases k1:fV [s.bD.a,D.a.n,D.c.n,s.bD.c] <;> cases k2:fV [cv [s.bD.a,D.a.n,D.c.n,s.bD.c],jV H.n L X] <;> rw [k1] at s1 <;> rw [k2] at s3 <;> simp -implicitDefEqProofs only [k1,k2,and_self,and_true,true_and,and_false,false_and,Bool.false_eq_true,if_true,if_false] at hK
              all_goals ((have Kc:=s1;have Kd:=s3;have Ke:=lR;repeat' (first | (simp -implicitDefEqProofs only [go_sem,Int.reduceNegSucc,jM,jN,jO,jP,jQ,jR,jD,Int.reduceLT,decide_true,decide_false,Int.reduceToNat,Nat.reduceMul,cD,dY,cE,dZ,cP,eA,dc,eM,dy,eY,dI,fq,dJ,fu,dK,fy,dL,fA,dM,fB,cF,ec,cG,ee,cH,eg,cI,ek,cJ,ep,cK,er,cL,eu,cM,ew,cN,ey,cO,ez,cQ,eC,cR,eD,cS,eE,cT,eF,cU,eG,cV,eH,cW,eI,cX,eJ,cY,eK,cZ,eL,de,eN,dg,eO,dh,eP,di,eR,dj,eS,dm,eT,dn,eU,dr,eV,dw,eW,dx,eX,dz,eZ,dA,fe,cB,ff,dB,fh,dD,fj,dF,fk,dG,fm,dH,fo,dS,dN,dO,dP,dQ,dR,dU,dV,dW,dX,cC,cA,ah,Q4.ints]) | (with_reducible refine aA ?_) | (with_reducible show G _ _ (It.l _ _::_) _ _ _;refine jG ?_) | ((first | refine bS (Kc _) ?_ ?_ ?_ | refine ck (Kc _) ?_ ?_ ?_ | fail);(focus (simp [aY,aB] <;> fail));(focus (simp [bq,aX] <;> fail))) | ((first | refine bS (Kd _) ?_ ?_ ?_ | refine ck (Kd _) ?_ ?_ ?_ | fail);(focus (simp [aY,aB] <;> fail));(focus (simp [bq,aX] <;> fail))) | (with_reducible first | refine af Ke ?_ | refine ag Ke ?_) | ((first | refine ai (fun hg=>?_) (fun hg=>?_) | refine ax (fun hg=>?_) (fun hg=>?_) | refine ay (fun hg=>?_) (fun hg=>?_)) <;> try simp -implicitDefEqProofs only [hg,Bool.not_true,Bool.not_false]) | ((with_reducible apply And.intro);focus (first | trivial | omega | decide | (simp -implicitDefEqProofs only [maxLen];omega) | (simp [maxLen,ah,ak,an,av,aj,au,aq] <;> omega))) | fail)))
              all_goals (refine (hK _ _ ?_).2;clear hK;simp -implicitDefEqProofs only [go_sem,Int.reduceNegSucc,aQ,aR,aV,bf,aH,aG,aF,bN,bk,Fm.cells,Q4.ints,Ch.cells,Pl.cells,Option.map,Option.isSome] <;>(try simp_all [-Int.not_lt,-Int.not_le,aH,aG,aF,bB,bN,bk,Fm.cells,Q4.ints,Ch.cells,Pl.cells,Option.map,Option.isSome]) <;> try omega)
end Go.aL

namespace Go.aL
open Go
theorem VF {l:List Nd} {m:Int} (h:iE l m=true):iA l m=true:=by
 simp -implicitDefEqProofs only [iE,Bool.and_eq_true] at h;exact h.1
theorem AX {l:List Nd} {n:Int} {m:Nat} (h:m∈bu l n):iA l m=true:=VF (by simpa using (List.mem_filter.1 h).2)
theorem IJ (l:List Nd) (ht:fW l=true) (hs:gx l) (hb:l.length≤1000):∀ (d n:Nat) (w:Int) (h:Sz) (bT:Bool),n<l.length→l.length<n+d→aI Go.Proofs.Tryz.prog 11 [.rv (.sl 49 (bw l)),.rv (.int .i64 n),.rv (.int .i64 w),h.sv,.rv (.bool bT)] [] [] (lE (if (iA l n && iI w h)=true then mq l d n w h bT else none))
 | 0,n,w,h,bT,hn,hd=>by omega
 | d+1,n,w,h,bT,hn,hd=>by
   refine Vs l ht (by omega) n w h bT (yX l (mq l d) n) (fun e x hq=>FU hq) (fun x=>?_)
   have hk:=Gw l n hn
   have vA:=II l ht hb n hn (-1) x.w (mG (cq l n w h)) (cq l n w h).nN (cq l n w h).lK (fun m=>mq l d m x.w (mG (cq l n w h)) (bP l n).bT) (fun m hm q hq=>by
    rw [hk] at hm
    have:=tE hs d m _ _ _ q (pe hm).2.1 hq
    have:=(hs.si (pe hm).2.1).2
    omega) (fun iP m hm=>by
    rw [hk] at hm
    obtain ⟨h1,h2,h3⟩:=pe hm
    have hu:=hs.up m h1 h2
    have:=IJ l ht hs hb d m x.w (mG (cq l n w h)) (bP l n).bT h2 (by omega)
    rw [AX hm,iP] at this
    exact this)
   rw [hk] at vA
   exact vA
end Go.aL

namespace Go.aL
open Go
theorem Qr:aU Go.Proofs.Tryz.prog 19 29 (fc Go.Proofs.Tryz.prog 19 29 [(.c 8 9 true),(.t 9)]) [(.c 8 9 true),(.t 9)]:=bl (by kernel_rfl)
theorem Qs:aU Go.Proofs.Tryz.prog 20 60 (fc Go.Proofs.Tryz.prog 20 60 [(.c 10 25 true),(.t 11)]) [(.c 10 25 true),(.t 11)]:=bl (by kernel_rfl)
def Ab (al ot:Bool):Ed:=⟨⟨⟨false,0⟩,⟨false,0⟩,⟨false,0⟩,⟨false,0⟩⟩,⟨⟨false,0⟩,⟨false,0⟩,⟨false,0⟩,⟨false,0⟩⟩,⟨0,0,0,0⟩,⟨false,0⟩,0,0,al,false,ot,false⟩
def lI (l:List Nd) (n:Int) (ks:List Nat) (w:Int) (h:Sz) (ot:Bool):Option La×Bool:=kY (fun m=>mq l (l.length+1) m w h (bP l n).bT) ks (iI w h) ot false
theorem BV (l:List Nd) (n:Int) (ks:List Nat) (w:Int) (h:Sz) (ot:Bool) (hm:iI w h=false):lI l n ks w h ot=(none,false):=by simp [lI,kY,hm]
theorem sO {l:List Nd} (hs:gx l) {n:Int} {m:Nat} (h:m∈bu l n):m<l.length:=(LR hs h).2
theorem IA (l:List Nd) (hs:gx l) (hb:l.length≤900) (n w:Int) (h:Sz) (al ot:Bool) (more:Int) (ks:List Nat) (hks:(more<0∧ks=bu l n)∨∃ x:Nat,x<l.length∧more=x∧ks=ke (bu l n) x) :
 aI Go.Proofs.Tryz.prog 49 [.rv (cu l),.rv (.int .i64 n),.rv (.int .i64 w),h.sv,(Ab al ot).sv,.rv (.int .i64 more)] [] [] (.aP [.agg ((bk (lI l n ks w h ot).1).map .rv),.rv (.bool (lI l n ks w h ot).2)]):=by
 have fl:=tT l n
 have hm:∀ m∈ks,m<l.length:=fun m hm=>by
  rcases hks with ⟨_,rfl⟩ | ⟨x,hx,_,rfl⟩
  ·exact sO hs hm
  ·rcases vU.1 hm with rfl | hm
   ·exact hx
   ·exact sO hs hm
 refine IB l (by omega) n w h (Ab al ot) (fun m=>mq l (l.length+1) m w h (bP l n).bT) more ks ?_ ?_ (fun m hk q hq=>?_) (fun _ m hk=>?_)
 ·rcases hks with h1 | ⟨x,_,h1,h2⟩
  ·exact .inl h1
  ·exact .inr ⟨x,h1,h2⟩
 ·rcases hks with ⟨_,rfl⟩ | ⟨x,hx,_,rfl⟩
  ·omega
  ·rw [yY];omega
 ·have:=tE hs _ m _ _ _ q (hm m hk) hq
  have:=(hs.si (hm m hk)).2
  omega
 ·exact CS l hs (by omega) (l.length+1) m w h _ (hm m hk) (by omega)
def sN (l:List Nd) (n w:Int) (h:Sz):Option La×Bool:=if jw l n=true then lI l n (bu l n) w h false else (none,false)
theorem UH (l:List Nd) (hs:gx l) (hb:l.length≤900) (n w:Int) (h:Sz):aI Go.Proofs.Tryz.prog 19 [.rv (cu l),.rv (.int .i64 n),.rv (.int .i64 w),h.sv] [] [] (.aP [.agg ((bk (sN l n w h).1).map .rv),.rv (.bool (sN l n w h).2)]):=by
 refine bt Qr [.rv (cu l),.rv (.int .i64 n),.rv (.int .i64 w),h.sv] _ (by simp) (by simp [aO,aW,bp,aS,bg,aC.sv,Ln.sv,Nd.sv]) (fun K hK=>?_)
 have ho:=CR l n
 have hw:=zM w h
 unfold sN at hK
 cases hout:jw l n with
 | false=>
   rw [hout] at ho
   simp -implicitDefEqProofs only [hout,Bool.false_eq_true,if_false] at hK
   conv in fc _ _ _ _=>reduce
   simp -implicitDefEqProofs only [Sz.sv,Sz.cells,go_sem,Int.reduceNegSucc] at hw ⊢
   have aT:=ho;repeat' (first | (simp -implicitDefEqProofs only [go_sem,Int.reduceNegSucc]) | (with_reducible refine aA ?_) | (with_reducible first | refine af aT ?_ | refine ag aT ?_) | ((first | refine ai (fun hg=>?_) (fun hg=>?_) | refine ax (fun hg=>?_) (fun hg=>?_) | refine ay (fun hg=>?_) (fun hg=>?_)) <;> try simp -implicitDefEqProofs only [hg,Bool.not_true,Bool.not_false]) | ((with_reducible apply And.intro);focus (first | trivial | omega | decide | (simp -implicitDefEqProofs only [maxLen];omega) | (simp [maxLen,ah,ak,an,av,aj,au,aq] <;> omega))) | fail)
   all_goals (refine (hK _ _ ?_).2;clear hK;simp -implicitDefEqProofs only [go_sem,Int.reduceNegSucc,aQ,aR,aV,bf,aH,aG,aF,bk] <;>(try simp_all [-Int.not_lt,-Int.not_le,aH,aG,aF,bB,bk]) <;> try omega)
 | true=>
   rw [hout] at ho
   simp -implicitDefEqProofs only [hout,if_true] at hK
   cases iP:iI w h with
   | false=>
     rw [iP] at hw
     rw [BV l n _ w h _ iP] at hK
     conv in fc _ _ _ _=>reduce
     simp -implicitDefEqProofs only [Sz.sv,Sz.cells,go_sem,Int.reduceNegSucc] at hw ⊢
     have y_2:=ho;have bA:=hw;repeat' (first | (simp -implicitDefEqProofs only [go_sem,Int.reduceNegSucc]) | (with_reducible refine aA ?_) | (with_reducible first | refine af y_2 ?_ | refine ag y_2 ?_) | (with_reducible first | refine af bA ?_ | refine ag bA ?_) | ((first | refine ai (fun hg=>?_) (fun hg=>?_) | refine ax (fun hg=>?_) (fun hg=>?_) | refine ay (fun hg=>?_) (fun hg=>?_)) <;> try simp -implicitDefEqProofs only [hg,Bool.not_true,Bool.not_false]) | ((with_reducible apply And.intro);focus (first | trivial | omega | decide | (simp -implicitDefEqProofs only [maxLen];omega) | (simp [maxLen,ah,ak,an,av,aj,au,aq] <;> omega))) | fail)
     all_goals (refine (hK _ _ ?_).2;clear hK;simp -implicitDefEqProofs only [go_sem,Int.reduceNegSucc,aQ,aR,aV,bf,aH,aG,aF,bk] <;>(try simp_all [-Int.not_lt,-Int.not_le,aH,aG,aF,bB,bk]) <;> try omega)
   | true=>
     rw [iP] at hw
     have hin:=IA l hs hb n w h true false (-1) (bu l n) (.inl ⟨by decide,rfl⟩)
     generalize lI l n (bu l n) w h false=r at *
     obtain ⟨r1,r2⟩:=r
     obtain ⟨u,hu,ir⟩:∃ u,bk r1=u∧u.length=9:=⟨_,rfl,by cases r1 <;> rfl⟩
     dsimp at hin hK
     rw [hu] at hin hK
     have v1:(u.map SV.rv).drop 9=[]:=List.drop_of_length_le (by simp [ir])
     have v2:(u.map SV.rv).take 9=u.map SV.rv:=List.take_of_length_le (by simp [ir])
     conv in fc _ _ _ _=>reduce
     simp -implicitDefEqProofs only [Sz.sv,Sz.cells,Ed.sv,Ed.cells,Ab,Q4.hU,Q4.ints,List.map_cons,List.map_nil,List.cons_append,List.nil_append,go_sem,Int.reduceNegSucc] at hw hin ⊢
     have bC:=ho;have bH:=hw;have bJ:=hin;repeat' (first | (simp -implicitDefEqProofs only [go_sem,Int.reduceNegSucc,ir,v1,v2,List.length_map,List.append_nil]) | (with_reducible refine aA ?_) | (with_reducible first | refine af bC ?_ | refine ag bC ?_) | (with_reducible first | refine af bH ?_ | refine ag bH ?_) | (with_reducible first | refine af bJ ?_ | refine ag bJ ?_) | ((first | refine ai (fun hg=>?_) (fun hg=>?_) | refine ax (fun hg=>?_) (fun hg=>?_) | refine ay (fun hg=>?_) (fun hg=>?_)) <;> try simp -implicitDefEqProofs only [hg,Bool.not_true,Bool.not_false]) | ((with_reducible apply And.intro);focus (first | trivial | omega | decide | (simp -implicitDefEqProofs only [maxLen];omega) | (simp [maxLen,ah,ak,an,av,aj,au,aq] <;> omega))) | fail)
     all_goals (refine (hK _ _ ?_).2;simp -implicitDefEqProofs only [go_sem,Int.reduceNegSucc,aQ,aR,aV,bf,aH,aG,aF,fU,ir,v2,List.length_map,List.drop_zero])
def vm (n:Int) (t:La):Option Fm:=(t.L.find? fun q=>((q.1:Int) == n)).map (·.2)
def wX (n:Int) (r:Option La×Bool):Option Fm:=if r.2=true then r.1.bind (vm n) else none
def nU (l:List Nd) (n:Int) (w:Int) (h:Sz) (op:Bool):Option Fm:=if jw l n=true then wX n (lI l (lY l n) (ke (bu l (lY l n)) n.toNat) w h op) else none
theorem HF (q:Nat×Fm):(jn q)[0]?=some (.int .i64 q.1):=rfl
theorem HG (q:Nat×Fm):((jn q).map SV.rv)[0]?=some (.rv (.int .i64 q.1)):=rfl
theorem HH (q:Nat×Fm):(((jn q).map SV.rv).drop 1).take 25=q.2.cells.map SV.rv:=rfl
theorem HI (q:Nat×Fm):((jn q).drop 1).take 25=q.2.cells:=rfl
theorem HJ (q:Nat×Fm):(jn q).take 26=jn q:=rfl
theorem HK (q:Nat×Fm):((jn q).map SV.rv).take 26=(jn q).map SV.rv:=rfl
theorem HL (q:Nat×Fm):((jn q).map SV.rv).drop 26=[]:=rfl
theorem HM (q:Nat×Fm):(jn q).length=26:=rfl
theorem HN {L:List (Nat×Fm)} {i:Nat} (h:i<L.length):(gK L)[i]?.getD []=jn (L[i]'h):=by simp [gK,h]
theorem Cw {l:List Nd} {n:Int} (h:jw l n=true):∃ k:Nat,n=k∧0<k∧k<l.length:=by
 simp -implicitDefEqProofs only [jw,iA,Bool.and_eq_true,decide_eq_true_eq] at h
 obtain ⟨k,rfl,hk⟩:=pM h.1.1.1
 exact ⟨k,rfl,by omega,hk⟩
theorem BU {l:List Nd} (hs:gx l) {n:Int} {ks:List Nat} {w:Int} {h:Sz} {ot:Bool} {t:La} (hk:∀ m∈ks,m<l.length) (ht:(lI l n ks w h ot).1=some t):t.L.length≤ks.length*(l.length+1)∧t.ys.length≤ks.length:=by
 obtain ⟨rs,q,h1,h2,rfl⟩:=FT ht
 have hr:=CH (g:=fun _=>l.length+1) h1 (fun m hm z hz=>by
  have:=tE hs _ m _ _ _ z (hk m hm) hz
  have:=(hs.si (hk m hm)).2
  show _≤l.length+1
  omega)
 have hrl:rs.length=ks.length:=by
  clear h2 hr ht
  induction ks generalizing rs with
  | nil=>cases h1;rfl
  | cons m ks ih=>
    rw [kF] at h1
    split at h1
    ·rw [Option.map_eq_some_iff] at h1
     obtain ⟨rs',h3,rfl⟩:=h1
     simp [ih (fun m hm=>hk m (.tail _ hm)) rs' h3]
    ·cases h1
 have mI:=zR h2
 have hc:(gG rs).length=rs.length:=by simp [gG]
 simp -implicitDefEqProofs only [List.length_nil,Nat.zero_add,hc] at mI
 refine ⟨?_,by show q.2.length≤_;omega⟩
 show (jo rs q.2).length≤_
 rw [qu]
 have:(List.map (fun _=>l.length+1) ks).sum=ks.length*(l.length+1):=by
  clear hr hrl h1 ht hk
  induction ks with
  | nil=>simp
  | cons a ks ih=>simp [Nat.add_mul];omega
 omega
theorem Us (l:List Nd) (hs:gx l) (hb:l.length≤900) (n w:Int) (h:Sz) (op:Bool):aI Go.Proofs.Tryz.prog 20 [.rv (cu l),.rv (.int .i64 n),.rv (.int .i64 w),h.sv,.rv (.bool op)] [] [] (.aP [.agg ((bN (nU l n w h op)).map .rv),.rv (.bool (nU l n w h op).isSome)]):=by
 refine bt Qs [.rv (cu l),.rv (.int .i64 n),.rv (.int .i64 w),h.sv,.rv (.bool op)] _ (by simp) (by simp [aO,aW,bp,aS,bg,aC.sv,Ln.sv,Nd.sv]) (fun K hK=>?_)
 have ho:=CR l n
 have hw:=zM w h
 have hpa:=Uo l n
 unfold nU at hK
 cases hout:jw l n with
 | false=>
   rw [hout] at ho
   simp -implicitDefEqProofs only [hout,Bool.false_eq_true,if_false] at hK
   conv in fc _ _ _ _=>reduce
   simp -implicitDefEqProofs only [Sz.sv,Sz.cells,go_sem,Int.reduceNegSucc] at hw ⊢
   have bL:=ho;repeat' (first | (simp -implicitDefEqProofs only [go_sem,Int.reduceNegSucc]) | (with_reducible refine aA ?_) | (with_reducible first | refine af bL ?_ | refine ag bL ?_) | ((first | refine ai (fun hg=>?_) (fun hg=>?_) | refine ax (fun hg=>?_) (fun hg=>?_) | refine ay (fun hg=>?_) (fun hg=>?_)) <;> try simp -implicitDefEqProofs only [hg,Bool.not_true,Bool.not_false]) | ((with_reducible apply And.intro);focus (first | trivial | omega | decide | (simp -implicitDefEqProofs only [maxLen];omega) | (simp [maxLen,ah,ak,an,av,aj,au,aq] <;> omega))) | fail)
   all_goals (refine (hK _ _ ?_).2;clear hK;simp -implicitDefEqProofs only [go_sem,Int.reduceNegSucc,aQ,aR,aV,bf,aH,aG,aF,bN] <;>(try simp_all [-Int.not_lt,-Int.not_le,aH,aG,aF,bB,bN]) <;> try omega)
 | true=>
   rw [hout] at ho
   simp -implicitDefEqProofs only [hout,if_true] at hK
   cases iP:iI w h with
   | false=>
     rw [iP] at hw
     rw [BV l _ _ w h _ iP] at hK
     simp -implicitDefEqProofs only [wX,Bool.false_eq_true,if_false] at hK
     conv in fc _ _ _ _=>reduce
     simp -implicitDefEqProofs only [Sz.sv,Sz.cells,go_sem,Int.reduceNegSucc] at hw ⊢
     have bQ:=ho;have bZ:=hw;repeat' (first | (simp -implicitDefEqProofs only [go_sem,Int.reduceNegSucc]) | (with_reducible refine aA ?_) | (with_reducible first | refine af bQ ?_ | refine ag bQ ?_) | (with_reducible first | refine af bZ ?_ | refine ag bZ ?_) | ((first | refine ai (fun hg=>?_) (fun hg=>?_) | refine ax (fun hg=>?_) (fun hg=>?_) | refine ay (fun hg=>?_) (fun hg=>?_)) <;> try simp -implicitDefEqProofs only [hg,Bool.not_true,Bool.not_false]) | ((with_reducible apply And.intro);focus (first | trivial | omega | decide | (simp -implicitDefEqProofs only [maxLen];omega) | (simp [maxLen,ah,ak,an,av,aj,au,aq] <;> omega))) | fail)
     all_goals (refine (hK _ _ ?_).2;clear hK;simp -implicitDefEqProofs only [go_sem,Int.reduceNegSucc,aQ,aR,aV,bf,aH,aG,aF,bN] <;>(try simp_all [-Int.not_lt,-Int.not_le,aH,aG,aF,bB,bN]) <;> try omega)
   | true=>
     rw [iP] at hw
     obtain ⟨k,rfl,k0,kl⟩:=Cw hout
     rw [Int.toNat_natCast] at hK
     have hin:=IA l hs hb (lY l k) w h (!op) op k (ke (bu l (lY l k)) k) (.inr ⟨k,kl,rfl,rfl⟩)
     have hlen:=fun t=>@BU l hs (lY l k) (ke (bu l (lY l k)) k) w h op t (fun m hm=>by
      rcases vU.1 hm with rfl | hm
      ·exact kl
      ·exact sO hs hm)
     have hks:(ke (bu l (lY l k)) k).length≤901:=by rw [yY];have:=tT l (lY l k);omega
     generalize ke (bu l (lY l k)) k=ks at *
     generalize lI l (lY l k) ks w h op=r at *
     obtain ⟨r1,r2⟩:=r
     unfold wX at hK
     dsimp at hin hK hlen
     conv in fc _ _ _ _=>reduce
     simp -implicitDefEqProofs only [Sz.sv,Sz.cells,Ed.sv,Ed.cells,Ab,Q4.hU,Q4.ints,List.map_cons,List.map_nil,List.cons_append,List.nil_append,go_sem,Int.reduceNegSucc] at hw hin ⊢
     cases r2 with
     | false=>
       simp -implicitDefEqProofs only [Bool.false_eq_true,if_false] at hK
       obtain ⟨u,hu,ir⟩:∃ u,bk r1=u∧u.length=9:=⟨_,rfl,by cases r1 <;> rfl⟩
       rw [hu] at hin
       have v1:(u.map SV.rv).drop 9=[]:=List.drop_of_length_le (by simp [ir])
       have v2:(u.map SV.rv).take 9=u.map SV.rv:=List.take_of_length_le (by simp [ir])
       have cm:=ho;have fO:=hw;have gj:=hpa;have gQ:=hin;repeat' (first | (simp -implicitDefEqProofs only [go_sem,Int.reduceNegSucc,ir,v1,v2,List.length_map,List.append_nil]) | (with_reducible refine aA ?_) | (with_reducible first | refine af cm ?_ | refine ag cm ?_) | (with_reducible first | refine af fO ?_ | refine ag fO ?_) | (with_reducible first | refine af gj ?_ | refine ag gj ?_) | (with_reducible first | refine af gQ ?_ | refine ag gQ ?_) | ((first | refine ai (fun hg=>?_) (fun hg=>?_) | refine ax (fun hg=>?_) (fun hg=>?_) | refine ay (fun hg=>?_) (fun hg=>?_)) <;> try simp -implicitDefEqProofs only [hg,Bool.not_true,Bool.not_false]) | ((with_reducible apply And.intro);focus (first | trivial | omega | decide | (simp -implicitDefEqProofs only [maxLen];omega) | (simp [maxLen,ah,ak,an,av,aj,au,aq] <;> omega))) | fail)
       all_goals (refine (hK _ _ ?_).2;clear hK;simp -implicitDefEqProofs only [go_sem,Int.reduceNegSucc,aQ,aR,aV,bf,aH,aG,aF,bN] <;>(try simp_all [-Int.not_lt,-Int.not_le,aH,aG,aF,bB,bN]) <;> try omega)
     | true=>
       cases r1 with
       | none=>
         simp -implicitDefEqProofs only [if_true,Option.bind] at hK
         simp -implicitDefEqProofs only [bk,List.map_cons,List.map_nil] at hin
         have gR:=ho;have gS:=hw;have gT:=hpa;have gU:=hin;repeat' (first | (simp -implicitDefEqProofs only [go_sem,Int.reduceNegSucc]) | (with_reducible refine aA ?_) | (with_reducible first | refine af gR ?_ | refine ag gR ?_) | (with_reducible first | refine af gS ?_ | refine ag gS ?_) | (with_reducible first | refine af gT ?_ | refine ag gT ?_) | (with_reducible first | refine af gU ?_ | refine ag gU ?_) | ((first | refine ai (fun hg=>?_) (fun hg=>?_) | refine ax (fun hg=>?_) (fun hg=>?_) | refine ay (fun hg=>?_) (fun hg=>?_)) <;> try simp -implicitDefEqProofs only [hg,Bool.not_true,Bool.not_false]) | ((with_reducible apply And.intro);focus (first | trivial | omega | decide | (simp -implicitDefEqProofs only [maxLen];omega) | (simp [maxLen,ah,ak,an,av,aj,au,aq] <;> omega))) | fail)
         refine jH 1 ?_
         repeat' (first | (simp -implicitDefEqProofs only [go_sem,Int.reduceNegSucc,jM,jN,jO,jP,jQ,jR,jD,Int.reduceLT,decide_true,decide_false,Int.reduceToNat,Nat.reduceMul]) | (with_reducible refine aA ?_) | (with_reducible show G _ _ (It.l _ _::_) _ _ _;refine jG ?_) | ((first | refine ai (fun hg=>?_) (fun hg=>?_) | refine ax (fun hg=>?_) (fun hg=>?_) | refine ay (fun hg=>?_) (fun hg=>?_)) <;> try simp -implicitDefEqProofs only [hg,Bool.not_true,Bool.not_false]) | ((with_reducible apply And.intro);focus (first | trivial | omega | decide | (simp -implicitDefEqProofs only [maxLen];omega) | (simp [maxLen,ah,ak,an,av,aj,au,aq] <;> omega))) | fail)
         all_goals (refine (hK _ _ ?_).2;clear hK;simp -implicitDefEqProofs only [go_sem,Int.reduceNegSucc,aQ,aR,aV,bf,aH,aG,aF,bN] <;>(try simp_all [-Int.not_lt,-Int.not_le,aH,aG,aF,bB,bN]) <;> try omega)
       | some t=>
         have htl:=(hlen t rfl).1
         have Oc:t.L.length≤1000000:=by
          have:ks.length*(l.length+1)≤901*901:=Nat.mul_le_mul hks (by omega)
          omega
         simp -implicitDefEqProofs only [if_true,Option.bind] at hK
         simp -implicitDefEqProofs only [bk,Pl.cells,List.map_cons,List.map_nil,List.cons_append,List.nil_append] at hin
         have fS:=mb t.L
         have gV:=ho;have iM:=hw;have iN:=hpa;have kk:=hin;repeat' (first | (simp -implicitDefEqProofs only [go_sem,Int.reduceNegSucc,fS]) | (with_reducible refine aA ?_) | (with_reducible first | refine af gV ?_ | refine ag gV ?_) | (with_reducible first | refine af iM ?_ | refine ag iM ?_) | (with_reducible first | refine af iN ?_ | refine ag iN ?_) | (with_reducible first | refine af kk ?_ | refine ag kk ?_) | ((first | refine ai (fun hg=>?_) (fun hg=>?_) | refine ax (fun hg=>?_) (fun hg=>?_) | refine ay (fun hg=>?_) (fun hg=>?_)) <;> try simp -implicitDefEqProofs only [hg,Bool.not_true,Bool.not_false]) | ((with_reducible apply And.intro);focus (first | trivial | omega | decide | (simp -implicitDefEqProofs only [maxLen];omega) | (simp [maxLen,ah,ak,an,av,aj,au,aq] <;> omega))) | fail)
         refine fE (ι:=Nat) (fun i=>[(48,.rv (.int .i64 i)),(47,.rv (.int .i64 t.L.length)),(46,.rv (.sl 26 (gK t.L))),(1,.rv (.int .i64 k)),(10,.ptr 1 0)])
          (fun _=>[some (.var (h.cells.map .rv)),some (.var ((bN none).map .rv)),some (.var ((bk (some t)).map .rv))]) (fun i=>i≤t.L.length∧(t.L.find? fun q=>((q.1:Int) ==(k:Int)))=(t.L.drop i).find? fun q=>((q.1:Int) ==(k:Int))) (fun i=>t.L.length - i) 0 ⟨Nat.zero_le _,rfl⟩ (bh (by simp [lk])) (fun i hi K' hN hX hR=>?_)
         obtain ⟨hi,jI⟩:=hi
         simp -implicitDefEqProofs only [bk,bN,Pl.cells,Sz.cells,go_sem,Int.reduceNegSucc]
         refine ai (fun hg=>?_) (fun hg=>?_)
         ·have hi4:i<t.L.length:=by simp at hg;omega
          have wu:=cz (k:=i) (by omega)
          have y1:=HN hi4
          rw [List.drop_eq_getElem_cons hi4,List.find?_cons] at jI
          generalize t.L[i]=q at *
          have z0:=HF q
          have z1:=HG q
          have z2:=HH q
          have z3:=HI q
          have z4:=HJ q
          have z5:=HK q
          have z6:=HL q
          have z7:=HM q
          have z8:=yo q.2
          cases hq:((q.1:Int) ==(k:Int)) with
          | true=>
            rw [hq] at jI
            dsimp at jI
            simp -implicitDefEqProofs only [vm,jI,Option.map,Option.isSome] at hK
            repeat' (first | (simp -implicitDefEqProofs only [go_sem,Int.reduceNegSucc,y1,z0,z1,z2,z3,z4,z5,z6,z7,z8,fS,hq,List.length_map,List.append_nil,List.length_drop]) | (with_reducible refine aA ?_) | ((first | refine ai (fun hg=>?_) (fun hg=>?_) | refine ax (fun hg=>?_) (fun hg=>?_) | refine ay (fun hg=>?_) (fun hg=>?_)) <;> try simp -implicitDefEqProofs only [hg,Bool.not_true,Bool.not_false]) | ((with_reducible apply And.intro);focus (first | trivial | omega | decide | (simp -implicitDefEqProofs only [maxLen];omega) | (simp [maxLen,ah,ak,an,av,aj,au,aq] <;> omega) | (omega;done))) | fail)
            refine hR _ _ (hK _ _ ?_).2
            simp -implicitDefEqProofs only [go_sem,Int.reduceNegSucc,aQ,aR,aV,bf,aH,aG,aF,fU,bN,z8,List.length_map,yp,yq]
          | false=>
            rw [hq] at jI
            dsimp at jI
            repeat' (first | (simp -implicitDefEqProofs only [go_sem,Int.reduceNegSucc,y1,z0,z1,z2,z3,z4,z5,z6,z7,z8,fS,hq,wu,List.length_map,List.append_nil,List.length_drop]) | (with_reducible refine aA ?_) | ((first | refine ai (fun hg=>?_) (fun hg=>?_) | refine ax (fun hg=>?_) (fun hg=>?_) | refine ay (fun hg=>?_) (fun hg=>?_)) <;> try simp -implicitDefEqProofs only [hg,Bool.not_true,Bool.not_false]) | ((with_reducible apply And.intro);focus (first | trivial | omega | decide | (simp -implicitDefEqProofs only [maxLen];omega) | (simp [maxLen,ah,ak,an,av,aj,au,aq] <;> omega) | (omega;done))) | fail)
            exact hN (i+1) _ _ ⟨by omega,jI⟩ (by omega) (nA (h':=[some (.var (h.cells.map .rv)),some (.var ((bN none).map .rv)),some (.var ((bk (some t)).map .rv))]) (Nat.zero_le _) ⟨jE,jE,jE,trivial⟩ (by simp [ij,lk,jU,lQ]))
         ·have hi4:i=t.L.length:=by simp at hg;omega
          subst hi4
          rw [List.drop_length,List.find?_nil] at jI
          simp -implicitDefEqProofs only [vm,jI,Option.map,Option.isSome] at hK
          simp -implicitDefEqProofs only [go_sem,Int.reduceNegSucc]
          refine hX _ _ _ ?_
          repeat' (first | (simp -implicitDefEqProofs only [go_sem,Int.reduceNegSucc]) | (with_reducible refine aA ?_) | ((first | refine ai (fun hg=>?_) (fun hg=>?_) | refine ax (fun hg=>?_) (fun hg=>?_) | refine ay (fun hg=>?_) (fun hg=>?_)) <;> try simp -implicitDefEqProofs only [hg,Bool.not_true,Bool.not_false]) | ((with_reducible apply And.intro);focus (first | trivial | omega | decide | (simp -implicitDefEqProofs only [maxLen];omega) | (simp [maxLen,ah,ak,an,av,aj,au,aq] <;> omega))) | fail)
          all_goals (refine (hK _ _ ?_).2;clear hK;simp -implicitDefEqProofs only [go_sem,Int.reduceNegSucc,aQ,aR,aV,bf,aH,aG,aF,bN] <;>(try simp_all [-Int.not_lt,-Int.not_le,aH,aG,aF,bB,bN]) <;> try omega)
def Je (r:Option Fm):List Int:=match r with
 | some f=>[f.y,IntKind.i64.wrap (0 - f.bF.a)]
 | none=>[]
def WQ (r:Option Fm):Int:=match r with
 | some f=>cv (Je (some f))
 | none=>0
def WO (r:Option Fm):Bool:=match r with
 | some f=>fV (Je (some f))
 | none=>false
def Wi (s:aC):Bool:=(s.off.a.kind == 0) && (s.off.c.kind == 0)
end Go.aL

namespace Go.aL
open Go
theorem Qg:aU Go.Proofs.Tryz.prog 21 65 (fc Go.Proofs.Tryz.prog 21 65 [(.c 10 25 true),(.t 11)]) [(.c 10 25 true),(.t 11)]:=bl (by kernel_rfl)
theorem HU:∀ {a b:List Nat},a.Pairwise (·< ·)→b.Pairwise (·< ·)→(∀ x,x∈a↔x∈b)→a=b
 | [],[],_,_,_=>rfl
 | [],y::b,_,_,h=>by have:=(h y).2 (.head _);simp at this
 | x::a,[],_,_,h=>by have:=(h x).1 (.head _);simp at this
 | x::a,y::b,ha,hb,h=>by
   rw [List.pairwise_cons] at ha hb
   have hxy:x=y:=by
    rcases List.mem_cons.1 ((h x).1 (.head _)) with e | e
    ·exact e
    ·rcases List.mem_cons.1 ((h y).2 (.head _)) with e2 | e2
     ·exact e2.symm
     ·have:=ha.1 y e2;have:=hb.1 x e;omega
   subst hxy
   congr 1
   refine HU ha.2 hb.2 fun z=>?_
   constructor
   ·intro hz
    rcases List.mem_cons.1 ((h z).1 (.tail _ hz)) with e | e
    ·have:=ha.1 z hz;omega
    ·exact e
   ·intro hz
    rcases List.mem_cons.1 ((h z).2 (.tail _ hz)) with e | e
    ·have:=hb.1 z hz;omega
    ·exact e
theorem Eb (x:Nat):∀ {ks:List Nat},ks.Pairwise (·< ·)→ks.take (kz ks x)=ks.filter (fun y=>decide (y<x))∧ks.drop (kz ks x)=ks.filter fun y=>!decide (y<x)
 | [],_=>⟨rfl,rfl⟩
 | y::ks,h=>by
   rw [List.pairwise_cons] at h
   obtain ⟨h1,h2⟩:=Eb x h.2
   by_cases hy:y<x
   ·have e:kz (y::ks) x=kz ks x+1:=by simp [kz,hy]
    rw [e,List.take_succ_cons,List.drop_succ_cons,List.filter_cons,List.filter_cons,h1,h2]
    simp [hy]
   ·have hn:∀ z∈ks,¬ z<x:=fun z hz=>by have:=h.1 z hz;omega
    have f1:ks.filter (fun y=>decide (y<x))=[]:=List.filter_eq_nil_iff.2 fun z hz=>by simp;have:=hn z hz;omega
    have f2:ks.filter (fun y=>!decide (y<x))=ks:=List.filter_eq_self.2 fun z hz=>by simp;have:=hn z hz;omega
    have e:kz (y::ks) x=0:=by simp [kz,hy,f1]
    rw [e,List.take_zero,List.drop_zero,List.filter_cons,List.filter_cons,f1,f2]
    simp [hy]
theorem Ox {ks:List Nat} {x:Nat} (hp:ks.Pairwise (·< ·)) (hx:x∉ks):(ke ks x).Pairwise (·< ·):=by
 obtain ⟨h1,h2⟩:=Eb x hp
 unfold ke
 rw [h1,h2,List.pairwise_append]
 refine ⟨hp.filter _,List.pairwise_cons.2 ⟨fun b hb=>?_,hp.filter _⟩,fun a ha b hb=>?_⟩
 ·obtain ⟨b1,b2⟩:=List.mem_filter.1 hb
  have:¬ b<x:=by simpa using b2
  have:b≠x:=fun e=>hx (e▸b1)
  omega
 ·have:a<x:=by simpa using (List.mem_filter.1 ha).2
  rcases List.mem_cons.1 hb with rfl | hb
  ·exact this
  ·have:¬ b<x:=by simpa using (List.mem_filter.1 hb).2
   omega
theorem EL {l:List Nd} {p m:Nat} (hp:p<l.length):m∈bu l p↔0<m∧m<l.length∧bE l m=p∧iE l m=true:=by
 unfold bu iu
 rw [if_pos (sM hp),List.mem_filter,Int.toNat_natCast,qY]
 constructor
 ·rintro ⟨⟨a,b,c⟩,d⟩;exact ⟨a,b,c,d⟩
 ·rintro ⟨a,b,c,d⟩;exact ⟨⟨a,b,c⟩,d⟩
theorem RA {l:List Nd} {k p:Nat} (hp:p<l.length) (hk:k<l.length) (h0:0<k) (hpk:bE l k=p) (ho:jw l k=true):lV l p k=ke (bu l p) k:=by
 have hnf:k∉bu l p:=fun h=>by
  have:=((EL hp).1 h).2.2.2
  simp [iE,ho] at this
 refine HU (List.pairwise_lt_range.filter _) (Ox (EJ l p) hnf) fun m=>?_
 rw [vU,EL hp]
 unfold lV
 rw [List.mem_filter,List.mem_range]
 simp -implicitDefEqProofs only [sZ,Bool.and_eq_true,Bool.or_eq_true,decide_eq_true_eq]
 constructor
 ·rintro ⟨a,⟨b,c⟩,d⟩
  rcases d with d | d
  ·exact .inl (by omega)
  ·exact .inr ⟨by omega,a,c,d⟩
 ·rintro (rfl | ⟨a,b,c,d⟩)
  ·exact ⟨hk,⟨by omega,hpk⟩,.inl rfl⟩
  ·exact ⟨b,⟨by omega,c⟩,.inr d⟩
theorem SS {l:List Nd} {n:Int} (h:jw l n=true):iA l n=true:=by
 simp -implicitDefEqProofs only [jw,Bool.and_eq_true] at h;exact h.1.1
theorem IK (l:List Nd) (ht:fW l=true) (hs:gx l) (hb:l.length≤900) (n:Nat) (hn:n<l.length) (w:Int) (h:Sz) (ot:Bool) (more:Int) (ks:List Nat) (hks:lV l n more=ks) (hm:∀ m∈ks,iA l m=true∧m<l.length) :
 aI Go.Proofs.Tryz.prog 18 [.rv (.sl 49 (bw l)),.rv (.int .i64 n),.rv (.int .i64 more),.rv (.int .i64 w),h.sv,.rv (.bool ot),.rv (.bool false)] [] [] (.aP [.agg ((bk (lI l n ks w h ot).1).map .rv),.rv (.bool (lI l n ks w h ot).2)]):=by
 have:=II l ht (by omega) n hn more w h ot false (fun m=>mq l (l.length+1) m w h (bP l n).bT) (fun m hk q hq=>by
  rw [hks] at hk
  have h1:=tE hs _ m _ _ _ q (hm m hk).2 hq
  have h2:=(hs.si (hm m hk).2).2
  omega) (fun iP m hk=>by
  rw [hks] at hk
  have hx:=IJ l ht hs (by omega) (l.length+1) m w h (bP l n).bT (hm m hk).2 (by omega)
  rw [(hm m hk).1,iP] at hx
  exact hx)
 rw [hks] at this
 exact this
theorem Vu (l:List Nd) (ht:fW l=true) (hs:gx l) (hb:l.length≤900) (n:Nat) (hn:n<l.length) (w:Int) (h:Sz) (ot:Bool) :
 aI Go.Proofs.Tryz.prog 18 [.rv (.sl 49 (bw l)),.rv (.int .i64 n),.rv (.int .i64 (-1)),.rv (.int .i64 w),h.sv,.rv (.bool ot),.rv (.bool false)] [] [] (.aP [.agg ((bk (lI l n (bu l n) w h ot).1).map .rv),.rv (.bool (lI l n (bu l n) w h ot).2)]):=
 IK l ht hs hb n hn w h ot (-1) _ (Gw l n hn) fun m hm=>⟨AX hm,sO hs hm⟩
theorem Vv (l:List Nd) (ht:fW l=true) (hs:gx l) (hb:l.length≤900) (n w:Int) (h:Sz) (op:Bool):aI Go.Proofs.Tryz.prog 21 [.rv (.sl 49 (bw l)),.rv (.int .i64 n),.rv (.int .i64 w),h.sv,.rv (.bool op)] [] [] (.aP [.agg ((bN (nU l n w h op)).map .rv),.rv (.bool (nU l n w h op).isSome)]):=by
 refine bt Qg [.rv (.sl 49 (bw l)),.rv (.int .i64 n),.rv (.int .i64 w),h.sv,.rv (.bool op)] _ (by simp) (by simp [aO,aW,bp,aS,bg,aC.sv,Ln.sv,Nd.sv]) (fun K hK=>?_)
 have ho:=zQ l ht n
 have hw:=CX w h
 have nE:=an l
 unfold nU at hK
 cases hout:jw l n with
 | false=>
   rw [hout] at ho
   simp -implicitDefEqProofs only [hout,Bool.false_eq_true,if_false] at hK
   conv in fc _ _ _ _=>reduce
   simp -implicitDefEqProofs only [Sz.sv,Sz.cells,go_sem,Int.reduceNegSucc] at hw ⊢
   have aT:=ho;repeat' (first | (simp -implicitDefEqProofs only [go_sem,Int.reduceNegSucc]) | (with_reducible refine aA ?_) | (with_reducible first | refine af aT ?_ | refine ag aT ?_) | ((first | refine ai (fun hg=>?_) (fun hg=>?_) | refine ax (fun hg=>?_) (fun hg=>?_) | refine ay (fun hg=>?_) (fun hg=>?_)) <;> try simp -implicitDefEqProofs only [hg,Bool.not_true,Bool.not_false]) | ((with_reducible apply And.intro);focus (first | trivial | omega | decide | (simp -implicitDefEqProofs only [maxLen];omega) | (simp [maxLen,ah,ak,an,av,aj,au,aq] <;> omega))) | fail)
   all_goals (refine (hK _ _ ?_).2;clear hK;simp -implicitDefEqProofs only [go_sem,Int.reduceNegSucc,aQ,aR,aV,bf,aH,aG,aF,bN] <;>(try simp_all [-Int.not_lt,-Int.not_le,aH,aG,aF,bB,bN]) <;> try omega)
 | true=>
   rw [hout] at ho
   simp -implicitDefEqProofs only [hout,if_true] at hK
   cases iP:iI w h with
   | false=>
     rw [iP] at hw
     rw [BV l _ _ w h _ iP] at hK
     simp -implicitDefEqProofs only [wX,Bool.false_eq_true,if_false] at hK
     conv in fc _ _ _ _=>reduce
     simp -implicitDefEqProofs only [Sz.sv,Sz.cells,go_sem,Int.reduceNegSucc] at hw ⊢
     have y_2:=ho;have bA:=hw;repeat' (first | (simp -implicitDefEqProofs only [go_sem,Int.reduceNegSucc]) | (with_reducible refine aA ?_) | (with_reducible first | refine af y_2 ?_ | refine ag y_2 ?_) | (with_reducible first | refine af bA ?_ | refine ag bA ?_) | ((first | refine ai (fun hg=>?_) (fun hg=>?_) | refine ax (fun hg=>?_) (fun hg=>?_) | refine ay (fun hg=>?_) (fun hg=>?_)) <;> try simp -implicitDefEqProofs only [hg,Bool.not_true,Bool.not_false]) | ((with_reducible apply And.intro);focus (first | trivial | omega | decide | (simp -implicitDefEqProofs only [maxLen];omega) | (simp [maxLen,ah,ak,an,av,aj,au,aq] <;> omega))) | fail)
     all_goals (refine (hK _ _ ?_).2;clear hK;simp -implicitDefEqProofs only [go_sem,Int.reduceNegSucc,aQ,aR,aV,bf,aH,aG,aF,bN] <;>(try simp_all [-Int.not_lt,-Int.not_le,aH,aG,aF,bB,bN]) <;> try omega)
   | true=>
     rw [iP] at hw
     obtain ⟨k,rfl,k0,kl⟩:=Cw hout
     rw [Int.toNat_natCast] at hK
     have hu:=hs.up k k0 kl
     have hx:=iS kl
     have yP:(l[k]'kl).parent=(((bE l k).toNat:Nat):Int):=by rw [lZ kl];omega
     have hpa:lY l k=(((bE l k).toNat:Nat):Int):=by unfold lY;rw [if_pos (sM kl),Int.toNat_natCast];omega
     have x1:=ak (l[k]'kl)
     have x2:=kO (l[k]'kl)
     rw [yP] at x2
     rw [hpa] at hK
     generalize hP:(bE l k).toNat=p at *
     have hpk:bE l k=p:=by omega
     generalize l[k]'kl=nd at *
     have hin:=IK l ht hs hb p (by omega) w h op k (ke (bu l p) k) (RA (by omega) kl k0 hpk hout) (fun m hm=>by
      rcases vU.1 hm with rfl | hm
      ·exact ⟨SS hout,kl⟩
      ·exact ⟨AX hm,sO hs hm⟩)
     have hlen:=fun t=>@BU l hs p (ke (bu l p) k) w h op t (fun m hm=>by
      rcases vU.1 hm with rfl | hm
      ·exact kl
      ·exact sO hs hm)
     have hks:(ke (bu l p) k).length≤901:=by rw [yY];have:=tT l p;omega
     generalize ke (bu l p) k=ks at *
     generalize lI l p ks w h op=r at *
     obtain ⟨r1,r2⟩:=r
     unfold wX at hK
     dsimp at hin hK hlen
     conv in fc _ _ _ _=>reduce
     simp -implicitDefEqProofs only [Sz.sv,Sz.cells,go_sem,Int.reduceNegSucc] at hw hin ⊢
     cases r2 with
     | false=>
       simp -implicitDefEqProofs only [Bool.false_eq_true,if_false] at hK
       obtain ⟨u,hu,ir⟩:∃ u,bk r1=u∧u.length=9:=⟨_,rfl,by cases r1 <;> rfl⟩
       rw [hu] at hin
       have v1:(u.map SV.rv).drop 9=[]:=List.drop_of_length_le (by simp [ir])
       have v2:(u.map SV.rv).take 9=u.map SV.rv:=List.take_of_length_le (by simp [ir])
       have bC:=ho;have bH:=hw;have bJ:=hin;repeat' (first | (simp -implicitDefEqProofs only [go_sem,Int.reduceNegSucc,nE,hx,x1,x2,ir,v1,v2,List.length_map,List.append_nil,List.length_drop]) | (with_reducible refine aA ?_) | (with_reducible first | refine af bC ?_ | refine ag bC ?_) | (with_reducible first | refine af bH ?_ | refine ag bH ?_) | (with_reducible first | refine af bJ ?_ | refine ag bJ ?_) | ((first | refine ai (fun hg=>?_) (fun hg=>?_) | refine ax (fun hg=>?_) (fun hg=>?_) | refine ay (fun hg=>?_) (fun hg=>?_)) <;> try simp -implicitDefEqProofs only [hg,Bool.not_true,Bool.not_false]) | ((with_reducible apply And.intro);focus (first | trivial | omega | decide | (simp -implicitDefEqProofs only [maxLen];omega) | (simp [maxLen,ah,ak,an,av,aj,au,aq] <;> omega))) | fail)
       all_goals (refine (hK _ _ ?_).2;clear hK;simp -implicitDefEqProofs only [go_sem,Int.reduceNegSucc,aQ,aR,aV,bf,aH,aG,aF,bN] <;>(try simp_all [-Int.not_lt,-Int.not_le,aH,aG,aF,bB,bN]) <;> try omega)
     | true=>
       cases r1 with
       | none=>
         simp -implicitDefEqProofs only [if_true,Option.bind] at hK
         simp -implicitDefEqProofs only [bk,List.map_cons,List.map_nil] at hin
         have bL:=ho;have bQ:=hw;have bZ:=hin;repeat' (first | (simp -implicitDefEqProofs only [go_sem,Int.reduceNegSucc,nE,hx,x1,x2,List.length_drop]) | (with_reducible refine aA ?_) | (with_reducible first | refine af bL ?_ | refine ag bL ?_) | (with_reducible first | refine af bQ ?_ | refine ag bQ ?_) | (with_reducible first | refine af bZ ?_ | refine ag bZ ?_) | ((first | refine ai (fun hg=>?_) (fun hg=>?_) | refine ax (fun hg=>?_) (fun hg=>?_) | refine ay (fun hg=>?_) (fun hg=>?_)) <;> try simp -implicitDefEqProofs only [hg,Bool.not_true,Bool.not_false]) | ((with_reducible apply And.intro);focus (first | trivial | omega | decide | (simp -implicitDefEqProofs only [maxLen];omega) | (simp [maxLen,ah,ak,an,av,aj,au,aq] <;> omega))) | fail)
         refine jH 1 ?_
         repeat' (first | (simp -implicitDefEqProofs only [go_sem,Int.reduceNegSucc,jM,jN,jO,jP,jQ,jR,jD,Int.reduceLT,decide_true,decide_false,Int.reduceToNat,Nat.reduceMul]) | (with_reducible refine aA ?_) | (with_reducible show G _ _ (It.l _ _::_) _ _ _;refine jG ?_) | ((first | refine ai (fun hg=>?_) (fun hg=>?_) | refine ax (fun hg=>?_) (fun hg=>?_) | refine ay (fun hg=>?_) (fun hg=>?_)) <;> try simp -implicitDefEqProofs only [hg,Bool.not_true,Bool.not_false]) | ((with_reducible apply And.intro);focus (first | trivial | omega | decide | (simp -implicitDefEqProofs only [maxLen];omega) | (simp [maxLen,ah,ak,an,av,aj,au,aq] <;> omega))) | fail)
         all_goals (refine (hK _ _ ?_).2;clear hK;simp -implicitDefEqProofs only [go_sem,Int.reduceNegSucc,aQ,aR,aV,bf,aH,aG,aF,bN] <;>(try simp_all [-Int.not_lt,-Int.not_le,aH,aG,aF,bB,bN]) <;> try omega)
       | some t=>
         have htl:=(hlen t rfl).1
         have Oc:t.L.length≤1000000:=by
          have:ks.length*(l.length+1)≤901*901:=Nat.mul_le_mul hks (by omega)
          omega
         simp -implicitDefEqProofs only [if_true,Option.bind] at hK
         simp -implicitDefEqProofs only [bk,Pl.cells,List.map_cons,List.map_nil,List.cons_append,List.nil_append] at hin
         have fS:=mb t.L
         have cm:=ho;have fO:=hw;have gj:=hin;repeat' (first | (simp -implicitDefEqProofs only [go_sem,Int.reduceNegSucc,nE,hx,x1,x2,fS,List.length_drop]) | (with_reducible refine aA ?_) | (with_reducible first | refine af cm ?_ | refine ag cm ?_) | (with_reducible first | refine af fO ?_ | refine ag fO ?_) | (with_reducible first | refine af gj ?_ | refine ag gj ?_) | ((first | refine ai (fun hg=>?_) (fun hg=>?_) | refine ax (fun hg=>?_) (fun hg=>?_) | refine ay (fun hg=>?_) (fun hg=>?_)) <;> try simp -implicitDefEqProofs only [hg,Bool.not_true,Bool.not_false]) | ((with_reducible apply And.intro);focus (first | trivial | omega | decide | (simp -implicitDefEqProofs only [maxLen];omega) | (simp [maxLen,ah,ak,an,av,aj,au,aq] <;> omega))) | fail)
         refine fE (ι:=Nat) (fun i=>[(46,.rv (.int .i64 i)),(45,.rv (.int .i64 t.L.length)),(12,.ptr 2 0),(1,.rv (.int .i64 k)),(10,.ptr 1 0)])
          (fun _=>[some (.var (h.cells.map .rv)),some (.var ((bN none).map .rv)),some (.var ((bk (some t)).map .rv))]) (fun i=>i≤t.L.length∧(t.L.find? fun q=>((q.1:Int) ==(k:Int)))=(t.L.drop i).find? fun q=>((q.1:Int) ==(k:Int))) (fun i=>t.L.length - i) 0 ⟨Nat.zero_le _,rfl⟩ (bh (by simp [lk])) (fun i hi K' hN hX hR=>?_)
         obtain ⟨hi,jI⟩:=hi
         simp -implicitDefEqProofs only [bk,bN,Pl.cells,Sz.cells,go_sem,Int.reduceNegSucc]
         refine ai (fun hg=>?_) (fun hg=>?_)
         ·have hi4:i<t.L.length:=by simp at hg;omega
          have wu:=cz (k:=i) (by omega)
          have y1:=HN hi4
          rw [List.drop_eq_getElem_cons hi4,List.find?_cons] at jI
          generalize t.L[i]=q at *
          have z0:=HF q
          have z1:=HG q
          have z2:=HH q
          have z3:=HI q
          have z4:=HJ q
          have z5:=HK q
          have z6:=HL q
          have z7:=HM q
          have z8:=yo q.2
          cases hq:((q.1:Int) ==(k:Int)) with
          | true=>
            rw [hq] at jI
            dsimp at jI
            simp -implicitDefEqProofs only [vm,jI,Option.map,Option.isSome] at hK
            repeat' (first | (simp -implicitDefEqProofs only [go_sem,Int.reduceNegSucc,y1,z0,z1,z2,z3,z4,z5,z6,z7,z8,fS,hq,List.length_map,List.append_nil,List.length_drop]) | (with_reducible refine aA ?_) | ((first | refine ai (fun hg=>?_) (fun hg=>?_) | refine ax (fun hg=>?_) (fun hg=>?_) | refine ay (fun hg=>?_) (fun hg=>?_)) <;> try simp -implicitDefEqProofs only [hg,Bool.not_true,Bool.not_false]) | ((with_reducible apply And.intro);focus (first | trivial | omega | decide | (simp -implicitDefEqProofs only [maxLen];omega) | (simp [maxLen,ah,ak,an,av,aj,au,aq] <;> omega) | (omega;done))) | fail)
            refine hR _ _ (hK _ _ ?_).2
            simp -implicitDefEqProofs only [go_sem,Int.reduceNegSucc,aQ,aR,aV,bf,aH,aG,aF,fU,bN,z8,List.length_map,yp,yq]
          | false=>
            rw [hq] at jI
            dsimp at jI
            repeat' (first | (simp -implicitDefEqProofs only [go_sem,Int.reduceNegSucc,y1,z0,z1,z2,z3,z4,z5,z6,z7,z8,fS,hq,wu,List.length_map,List.append_nil,List.length_drop]) | (with_reducible refine aA ?_) | ((first | refine ai (fun hg=>?_) (fun hg=>?_) | refine ax (fun hg=>?_) (fun hg=>?_) | refine ay (fun hg=>?_) (fun hg=>?_)) <;> try simp -implicitDefEqProofs only [hg,Bool.not_true,Bool.not_false]) | ((with_reducible apply And.intro);focus (first | trivial | omega | decide | (simp -implicitDefEqProofs only [maxLen];omega) | (simp [maxLen,ah,ak,an,av,aj,au,aq] <;> omega) | (omega;done))) | fail)
            exact hN (i+1) _ _ ⟨by omega,jI⟩ (by omega) (bh (by simp [lk]))
         ·have hi4:i=t.L.length:=by simp at hg;omega
          subst hi4
          rw [List.drop_length,List.find?_nil] at jI
          simp -implicitDefEqProofs only [vm,jI,Option.map,Option.isSome] at hK
          simp -implicitDefEqProofs only [go_sem,Int.reduceNegSucc]
          refine hX _ _ _ ?_
          repeat' (first | (simp -implicitDefEqProofs only [go_sem,Int.reduceNegSucc]) | (with_reducible refine aA ?_) | ((first | refine ai (fun hg=>?_) (fun hg=>?_) | refine ax (fun hg=>?_) (fun hg=>?_) | refine ay (fun hg=>?_) (fun hg=>?_)) <;> try simp -implicitDefEqProofs only [hg,Bool.not_true,Bool.not_false]) | ((with_reducible apply And.intro);focus (first | trivial | omega | decide | (simp -implicitDefEqProofs only [maxLen];omega) | (simp [maxLen,ah,ak,an,av,aj,au,aq] <;> omega))) | fail)
          all_goals (refine (hK _ _ ?_).2;clear hK;simp -implicitDefEqProofs only [go_sem,Int.reduceNegSucc,aQ,aR,aV,bf,aH,aG,aF,bN] <;>(try simp_all [-Int.not_lt,-Int.not_le,aH,aG,aF,bB,bN]) <;> try omega)
end Go.aL

namespace Go.aL
open Go
theorem Px:aU Go.Proofs.Tryz.prog 41 14 (fc Go.Proofs.Tryz.prog 41 14 [(.c 2 8 true)]) [(.c 2 8 true)]:=bl (by kernel_rfl)
def Aq:AC:=(.seq (.mK [⟨(some 2),.box,[(.t 0)],none⟩,⟨(some 3),.box,[(.t 1)],none⟩,⟨(some 4),.mv,[(.c (.rv (.bool false)))],none⟩]) (.seq (.seq (.mK [⟨(some 6),(.gH 0),[(.t 2)],none⟩,⟨(some 7),(.load 1 false),[(.t 6)],none⟩,⟨(some 8),.len,[(.t 7)],none⟩,⟨(some 9),(.gH 0),[(.t 3)],none⟩,⟨(some 10),(.load 1 false),[(.t 9)],none⟩,⟨(some 11),.len,[(.t 10)],none⟩,⟨(some 12),(.kX .neq),[(.t 8),(.t 11)],none⟩,⟨(some 13),.mv,[(.t 12)],none⟩,⟨(some 14),(.gH 1),[(.t 2)],(some (13,false))⟩,⟨(some 15),(.load 1 false),[(.t 14)],(some (13,false))⟩,⟨(some 16),(.gH 1),[(.t 3)],(some (13,false))⟩,⟨(some 17),(.load 1 false),[(.t 16)],(some (13,false))⟩,⟨(some 18),(.kX .neq),[(.t 15),(.t 17)],(some (13,false))⟩,⟨(some 19),.pick,[(.t 13),(.c (.rv (.bool true))),(.t 18)],none⟩,⟨(some 20),.mv,[(.t 19)],none⟩,⟨(some 21),(.gH 2),[(.t 2)],(some (20,false))⟩,⟨(some 22),(.load 2 true),[(.t 21)],(some (20,false))⟩,⟨(some 23),(.gH 2),[(.t 3)],(some (20,false))⟩,⟨(some 24),(.load 2 true),[(.t 23)],(some (20,false))⟩,⟨(some 25),(.eqs true true [.i,.i]),[(.t 22),(.t 24)],(some (20,false))⟩,⟨(some 26),.pick,[(.t 20),(.c (.rv (.bool true))),(.t 25)],none⟩,⟨(some 27),.mv,[(.t 26)],none⟩,⟨(some 28),(.gH 4),[(.t 2)],(some (27,false))⟩,⟨(some 29),(.load 2 true),[(.t 28)],(some (27,false))⟩,⟨(some 30),(.gH 4),[(.t 3)],(some (27,false))⟩,⟨(some 31),(.load 2 true),[(.t 30)],(some (27,false))⟩,⟨(some 32),(.eqs true true [.i,.i]),[(.t 29),(.t 31)],(some (27,false))⟩,⟨(some 33),.pick,[(.t 27),(.c (.rv (.bool true))),(.t 32)],none⟩,⟨(some 34),.mv,[(.t 33)],none⟩,⟨(some 35),(.gH 6),[(.t 2)],(some (34,false))⟩,⟨(some 36),(.load 1 false),[(.t 35)],(some (34,false))⟩,⟨(some 37),(.gH 6),[(.t 3)],(some (34,false))⟩,⟨(some 38),(.load 1 false),[(.t 37)],(some (34,false))⟩,⟨(some 39),(.tO true),[(.t 36),(.t 38)],(some (34,false))⟩,⟨(some 40),.pick,[(.t 34),(.c (.rv (.bool true))),(.t 39)],none⟩]) (.cond (.t 40) (.seq (.mK [⟨(some 4),.mv,[(.c (.rv (.bool false)))],none⟩]) .ret) .skip)) (.seq (.seq (.mK [⟨(some 41),(.gH 0),[(.t 2)],none⟩,⟨(some 42),(.load 1 false),[(.t 41)],none⟩,⟨(some 43),.len,[(.t 42)],none⟩,⟨(some 44),.mv,[(.c (.rv (.int .i64 0)))],none⟩]) (.seq (.block 0 (.loop (.seq (.mK [⟨(some 45),(.kX .lss),[(.t 44),(.t 43)],none⟩]) (.seq (.cond (.t 45) .skip (.exit 0)) (.seq (.seq (.block 1 (.seq (.mK [⟨(some 46),.mv,[(.t 44)],none⟩,⟨(some 5),.mv,[(.t 46)],none⟩]) (.seq (.uz [0,1,0,7,15,0,32,0,224,480,1023] [⟨(some 47),(.gH 0),[(.t 2)],none⟩,⟨(some 48),(.load 1 false),[(.t 47)],none⟩,⟨(some 49),.mv,[(.t 5)],none⟩,⟨(some 50),(.ixs 1),[(.t 48),(.t 49)],none⟩,⟨(some 51),(.load 1 false),[(.t 50)],none⟩,⟨(some 52),(.gH 0),[(.t 3)],none⟩,⟨(some 53),(.load 1 false),[(.t 52)],none⟩,⟨(some 54),.mv,[(.t 5)],none⟩,⟨(some 55),(.ixs 1),[(.t 53),(.t 54)],none⟩,⟨(some 56),(.load 1 false),[(.t 55)],none⟩,⟨(some 57),(.kX .neq),[(.t 51),(.t 56)],none⟩]) (.cond (.t 57) (.seq (.mK [⟨(some 4),.mv,[(.c (.rv (.bool false)))],none⟩]) .ret) .skip)))) .qd) (.mK [⟨(some 58),(.kX .add),[(.t 44),(.c (.rv (.int .i64 1)))],none⟩,⟨(some 44),.mv,[(.t 58)],none⟩])))))) .qd)) (.seq (.mK [⟨(some 4),.mv,[(.c (.rv (.bool true)))],none⟩]) .ret))))
theorem Gl:aU Go.Proofs.Tryz.prog 42 59 Aq [(.t 4)]:=AY (by kernel_rfl)
def DL:AC:=(.seq (.mK [⟨(some 2),.box,[(.t 0)],none⟩,⟨(some 3),.box,[(.t 1)],none⟩,⟨(some 4),.mv,[(.c (.rv (.bool false)))],none⟩]) (.seq (.uz [0,1,0,4,15,31,63,127,63,319,1023,2047,4095,8191,16383,8191,40959,131071,262143,524287,1048575,2097151,1048575,5242879,16777215,33554431,67108863,134217727,268435455,134217727,671088639,2147483647,4294967295,8589934591,17179869183,34359738367,17179869183,85899345919,274877906943,549755813887,1099511627775,2199023255551,4398046511103,2199023255551,10995116277759,35184372088831,70368744177663,140737488355327,281474976710655,562949953421311,281474976710655,1407374883553279,4503599627370495,9007199254740991,18014398509481983,36028797018963967,72057594037927935,144115188075855871,36028797018963967,324259173170675711,1152921504606846975,2305843009213693951,4611686018427387903] [⟨(some 5),(.gH 0),[(.t 2)],none⟩,⟨(some 6),(.load 1 false),[(.t 5)],none⟩,⟨(some 7),(.gH 0),[(.t 3)],none⟩,⟨(some 8),(.load 1 false),[(.t 7)],none⟩,⟨(some 9),(.kX .eql),[(.t 6),(.t 8)],none⟩,⟨(some 10),.mv,[(.t 9)],none⟩,⟨(some 11),(.gH 1),[(.t 2)],(some (10,true))⟩,⟨(some 12),(.load 1 false),[(.t 11)],(some (10,true))⟩,⟨(some 13),(.gH 1),[(.t 3)],(some (10,true))⟩,⟨(some 14),(.load 1 false),[(.t 13)],(some (10,true))⟩,⟨(some 15),(.kX .eql),[(.t 12),(.t 14)],(some (10,true))⟩,⟨(some 16),.pick,[(.t 10),(.t 15),(.c (.rv (.bool false)))],none⟩,⟨(some 17),.mv,[(.t 16)],none⟩,⟨(some 18),(.gH 2),[(.t 2)],(some (17,true))⟩,⟨(some 19),(.load 1 false),[(.t 18)],(some (17,true))⟩,⟨(some 20),(.gH 2),[(.t 3)],(some (17,true))⟩,⟨(some 21),(.load 1 false),[(.t 20)],(some (17,true))⟩,⟨(some 22),(.kX .eql),[(.t 19),(.t 21)],(some (17,true))⟩,⟨(some 23),.pick,[(.t 17),(.t 22),(.c (.rv (.bool false)))],none⟩,⟨(some 24),.mv,[(.t 23)],none⟩,⟨(some 25),(.gH 3),[(.t 2)],(some (24,true))⟩,⟨(some 26),(.load 1 false),[(.t 25)],(some (24,true))⟩,⟨(some 27),(.gH 3),[(.t 3)],(some (24,true))⟩,⟨(some 28),(.load 1 false),[(.t 27)],(some (24,true))⟩,⟨(some 29),(.kX .eql),[(.t 26),(.t 28)],(some (24,true))⟩,⟨(some 30),.pick,[(.t 24),(.t 29),(.c (.rv (.bool false)))],none⟩,⟨(some 31),.mv,[(.t 30)],none⟩,⟨(some 32),(.gH 4),[(.t 2)],(some (31,true))⟩,⟨(some 33),(.load 4 true),[(.t 32)],(some (31,true))⟩,⟨(some 34),(.gH 4),[(.t 3)],(some (31,true))⟩,⟨(some 35),(.load 4 true),[(.t 34)],(some (31,true))⟩,⟨(some 36),(.eqs false true [.i,.i,.i,.i]),[(.t 33),(.t 35)],(some (31,true))⟩,⟨(some 37),.pick,[(.t 31),(.t 36),(.c (.rv (.bool false)))],none⟩,⟨(some 38),.mv,[(.t 37)],none⟩,⟨(some 39),(.gH 8),[(.t 2)],(some (38,true))⟩,⟨(some 40),(.load 4 true),[(.t 39)],(some (38,true))⟩,⟨(some 41),(.gH 8),[(.t 3)],(some (38,true))⟩,⟨(some 42),(.load 4 true),[(.t 41)],(some (38,true))⟩,⟨(some 43),(.eqs false true [.i,.i,.i,.i]),[(.t 40),(.t 42)],(some (38,true))⟩,⟨(some 44),.pick,[(.t 38),(.t 43),(.c (.rv (.bool false)))],none⟩,⟨(some 45),.mv,[(.t 44)],none⟩,⟨(some 46),(.gH 12),[(.t 2)],(some (45,true))⟩,⟨(some 47),(.load 4 true),[(.t 46)],(some (45,true))⟩,⟨(some 48),(.gH 12),[(.t 3)],(some (45,true))⟩,⟨(some 49),(.load 4 true),[(.t 48)],(some (45,true))⟩,⟨(some 50),(.eqs false true [.i,.i,.i,.i]),[(.t 47),(.t 49)],(some (45,true))⟩,⟨(some 51),.pick,[(.t 45),(.t 50),(.c (.rv (.bool false)))],none⟩,⟨(some 52),.mv,[(.t 51)],none⟩,⟨(some 53),(.gH 16),[(.t 2)],(some (52,true))⟩,⟨(some 54),(.load 1 false),[(.t 53)],(some (52,true))⟩,⟨(some 55),(.gH 16),[(.t 3)],(some (52,true))⟩,⟨(some 56),(.load 1 false),[(.t 55)],(some (52,true))⟩,⟨(some 57),(.tO false),[(.t 54),(.t 56)],(some (52,true))⟩,⟨(some 58),.pick,[(.t 52),(.t 57),(.c (.rv (.bool false)))],none⟩,⟨(some 59),.mv,[(.t 58)],none⟩,⟨(some 60),(.gH 17),[(.t 2)],(some (59,true))⟩,⟨(some 61),(.load 8 true),[(.t 60)],(some (59,true))⟩,⟨(some 62),(.call 41),[(.t 61)],(some (59,true))⟩,⟨(some 63),(.gH 17),[(.t 3)],(some (59,true))⟩,⟨(some 64),(.load 8 true),[(.t 63)],(some (59,true))⟩,⟨(some 65),(.eqs false true [.i,.i,.i,.i,.i,.i,.b,.i]),[(.t 62),(.t 64)],(some (59,true))⟩,⟨(some 66),.pick,[(.t 59),(.t 65),(.c (.rv (.bool false)))],none⟩,⟨(some 4),.mv,[(.t 66)],none⟩]) .ret))
theorem Pz:aU Go.Proofs.Tryz.prog 12 67 DL [(.t 4)]:=AY (by kernel_rfl)
theorem Gm:aU Go.Proofs.Tryz.prog 13 64 (fc Go.Proofs.Tryz.prog 13 64 [(.t 4)]) [(.t 4)]:=bl (by kernel_rfl)
theorem uX (a:Int):(a == a)=true:=by simp
theorem tw (a:Int):(a != a)=false:=by simp
theorem xI (a:Bool):(a == a)=true:=by simp
theorem DH (a:Bool):(a != a)=false:=by simp
theorem UQ (c:Ch):aI Go.Proofs.Tryz.prog 41 [.agg (c.cells.map .rv)] [] [] (.agg (c.cells.map .rv)):=by
 refine bt Px [.agg (c.cells.map .rv)] _ (by simp) (by simp [aO,aW,bp,aS,bg,aC.sv,Ln.sv,Nd.sv]) (fun K hK=>?_)
 conv in fc _ _ _ _=>reduce
 simp -implicitDefEqProofs only [Ch.cells,go_sem,Int.reduceNegSucc]
 repeat' (first | (simp -implicitDefEqProofs only [go_sem,Int.reduceNegSucc]) | (with_reducible refine aA ?_) | ((first | refine ai (fun hg=>?_) (fun hg=>?_) | refine ax (fun hg=>?_) (fun hg=>?_) | refine ay (fun hg=>?_) (fun hg=>?_)) <;> try simp -implicitDefEqProofs only [hg,Bool.not_true,Bool.not_false]) | ((with_reducible apply And.intro);focus (first | trivial | omega | decide | (simp -implicitDefEqProofs only [maxLen];omega) | (simp [maxLen,ah,ak,an,av,aj,au,aq] <;> omega))) | fail)
 all_goals (refine (hK _ _ ?_).2;clear hK;simp -implicitDefEqProofs only [go_sem,Int.reduceNegSucc,aQ,aR,aV,bf,aH,aG,aF,Ch.cells] <;>(try simp_all [-Int.not_lt,-Int.not_le,aH,aG,aF,bB,Ch.cells]) <;> try omega)
theorem UP (p:Pl):aI Go.Proofs.Tryz.prog 42 [.agg ((ie .cr p).map .rv),.agg ((ie .cr p).map .rv)] [] [] (.rv (.bool true)):=by
 refine bt Gl [.agg ((ie .cr p).map .rv),.agg ((ie .cr p).map .rv)] _ (by simp) (by simp [aO,aW,bp,aS,bg,aC.sv,Ln.sv,Nd.sv]) (fun K hK=>?_)
 simp -implicitDefEqProofs only [Aq,ie,Pl.cells,go_sem,Int.reduceNegSucc]
 repeat' (first | (simp -implicitDefEqProofs only [go_sem,Int.reduceNegSucc,tw,DH,uX,xI,Bool.and_self,Bool.not_true]) | (with_reducible refine aA ?_) | ((first | refine ai (fun hg=>?_) (fun hg=>?_) | refine ax (fun hg=>?_) (fun hg=>?_) | refine ay (fun hg=>?_) (fun hg=>?_)) <;> try simp -implicitDefEqProofs only [hg,Bool.not_true,Bool.not_false]) | ((with_reducible apply And.intro);focus (first | trivial | omega | decide | (simp -implicitDefEqProofs only [maxLen];omega) | (simp [maxLen,ah,ak,an,av,aj,au,aq] <;> omega))) | fail)
 refine jH 1 ?_
 repeat' (first | (simp -implicitDefEqProofs only [go_sem,Int.reduceNegSucc,jM,jN,jO,jP,jQ,jR,jD,Int.reduceLT,decide_true,decide_false,Int.reduceToNat,Nat.reduceMul]) | (with_reducible refine aA ?_) | (with_reducible show G _ _ (It.l _ _::_) _ _ _;refine jG ?_) | ((first | refine ai (fun hg=>?_) (fun hg=>?_) | refine ax (fun hg=>?_) (fun hg=>?_) | refine ay (fun hg=>?_) (fun hg=>?_)) <;> try simp -implicitDefEqProofs only [hg,Bool.not_true,Bool.not_false]) | ((with_reducible apply And.intro);focus (first | trivial | omega | decide | (simp -implicitDefEqProofs only [maxLen];omega) | (simp [maxLen,ah,ak,an,av,aj,au,aq] <;> omega))) | fail)
 exact (hK _ _ (bO rfl)).2
theorem UO (ys:List Int) (hy:ys.length≤1000000) (p:Pl):aI Go.Proofs.Tryz.prog 42 [.agg ((ie (.sl 1 (aM ys)) p).map .rv),.agg ((ie (.sl 1 (aM ys)) p).map .rv)] [] [] (.rv (.bool true)):=by
 refine bt Gl [.agg ((ie (.sl 1 (aM ys)) p).map .rv),.agg ((ie (.sl 1 (aM ys)) p).map .rv)] _ (by simp) (by simp [aO,aW,bp,aS,bg,aC.sv,Ln.sv,Nd.sv]) (fun K hK=>?_)
 have hl:=aj ys
 simp -implicitDefEqProofs only [Aq,ie,Pl.cells,go_sem,Int.reduceNegSucc]
 repeat' (first | (simp -implicitDefEqProofs only [go_sem,Int.reduceNegSucc,tw,DH,uX,xI,hl,Bool.and_self,Bool.not_true]) | (with_reducible refine aA ?_) | ((first | refine ai (fun hg=>?_) (fun hg=>?_) | refine ax (fun hg=>?_) (fun hg=>?_) | refine ay (fun hg=>?_) (fun hg=>?_)) <;> try simp -implicitDefEqProofs only [hg,Bool.not_true,Bool.not_false]) | ((with_reducible apply And.intro);focus (first | trivial | omega | decide | (simp -implicitDefEqProofs only [maxLen];omega) | (simp [maxLen,ah,ak,an,av,aj,au,aq] <;> omega))) | fail)
 refine fE (ι:=Nat) (fun k=>[(44,.rv (.int .i64 k)),(43,.rv (.int .i64 ys.length)),(2,.ptr 0 0),(3,.ptr 1 0)]) (fun _=>[some (.var ((ie (.sl 1 (aM ys)) p).map .rv)),some (.var ((ie (.sl 1 (aM ys)) p).map .rv))]) (fun k=>k≤ys.length) (fun k=>ys.length - k) 0 (Nat.zero_le _) (bh (by simp [lk])) (fun k hk K' hN hX hR=>?_)
 simp -implicitDefEqProofs only [ie,Pl.cells,go_sem,Int.reduceNegSucc]
 refine ai (fun hg=>?_) (fun hg=>?_)
 ·have aE:k<ys.length:=by simp at hg;omega
  have wu:=cz (k:=k) (by omega)
  have hx:=oC aE
  repeat' (first | (simp -implicitDefEqProofs only [go_sem,Int.reduceNegSucc,hx,hl,wu,tw]) | (with_reducible refine aA ?_) | ((first | refine ai (fun hg=>?_) (fun hg=>?_) | refine ax (fun hg=>?_) (fun hg=>?_) | refine ay (fun hg=>?_) (fun hg=>?_)) <;> try simp -implicitDefEqProofs only [hg,Bool.not_true,Bool.not_false]) | ((with_reducible apply And.intro);focus (first | trivial | omega | decide | (simp -implicitDefEqProofs only [maxLen];omega) | (simp [maxLen,ah,ak,an,av,aj,au,aq] <;> omega) | (omega;done))) | fail)
  exact hN (k+1) _ _ (by omega) (by omega) (bh (by simp [lk]))
 ·simp -implicitDefEqProofs only [go_sem,Int.reduceNegSucc]
  refine hX _ _ _ ?_
  repeat' (first | (simp -implicitDefEqProofs only [go_sem,Int.reduceNegSucc]) | (with_reducible refine aA ?_) | ((first | refine ai (fun hg=>?_) (fun hg=>?_) | refine ax (fun hg=>?_) (fun hg=>?_) | refine ay (fun hg=>?_) (fun hg=>?_)) <;> try simp -implicitDefEqProofs only [hg,Bool.not_true,Bool.not_false]) | ((with_reducible apply And.intro);focus (first | trivial | omega | decide | (simp -implicitDefEqProofs only [maxLen];omega) | (simp [maxLen,ah,ak,an,av,aj,au,aq] <;> omega))) | fail)
  exact (hK _ _ (bO rfl)).2
theorem Mh (f:Fm):f.cells.map SV.rv=[.rv (.int .i64 f.x),.rv (.int .i64 f.y),.rv (.int .i64 f.w),.rv (.int .i64 f.h),.rv (.int .i64 f.bF.a),.rv (.int .i64 f.bF.b),.rv (.int .i64 f.bF.c),.rv (.int .i64 f.bF.d),.rv (.int .i64 f.pad.a),.rv (.int .i64 f.pad.b),.rv (.int .i64 f.pad.c),.rv (.int .i64 f.pad.d),.rv (.int .i64 f.bD.a),.rv (.int .i64 f.bD.b),.rv (.int .i64 f.bD.c),.rv (.int .i64 f.bD.d),.rv (.bool f.known),.rv (.int .i64 f.child.top.p),.rv (.int .i64 f.child.top.n),.rv (.int .i64 f.child.bottom.p),.rv (.int .i64 f.child.bottom.n),.rv (.int .i64 f.child.inner.p),.rv (.int .i64 f.child.inner.n),.rv (.bool f.child.through),.rv (.int .i64 f.child.high)]:=rfl
theorem Ll (c:Ch):c.cells.map SV.rv=[.rv (.int .i64 c.top.p),.rv (.int .i64 c.top.n),.rv (.int .i64 c.bottom.p),.rv (.int .i64 c.bottom.n),.rv (.int .i64 c.inner.p),.rv (.int .i64 c.inner.n),.rv (.bool c.through),.rv (.int .i64 c.high)]:=rfl
theorem zO (f:Fm):aI Go.Proofs.Tryz.prog 12 [.agg (f.cells.map .rv),.agg (f.cells.map .rv)] [] [] (.rv (.bool true)):=by
 refine bt Pz [.agg (f.cells.map .rv),.agg (f.cells.map .rv)] _ (by simp) (by simp [aO,aW,bp,aS,bg,aC.sv,Ln.sv,Nd.sv]) (fun K hK=>?_)
 have ho:=UQ f.child
 rw [Ll] at ho
 rw [Mh]
 simp -implicitDefEqProofs only [DL,go_sem,Int.reduceNegSucc]
 have aT:=ho;repeat' (first | (simp -implicitDefEqProofs only [go_sem,Int.reduceNegSucc,uX,xI,Bool.and_self]) | (with_reducible refine aA ?_) | (with_reducible first | refine af aT ?_ | refine ag aT ?_) | ((first | refine ai (fun hg=>?_) (fun hg=>?_) | refine ax (fun hg=>?_) (fun hg=>?_) | refine ay (fun hg=>?_) (fun hg=>?_)) <;> try simp -implicitDefEqProofs only [hg,Bool.not_true,Bool.not_false]) | ((with_reducible apply And.intro);focus (first | trivial | omega | decide | (simp -implicitDefEqProofs only [maxLen];omega) | (simp [maxLen,ah,ak,an,av,aj,au,aq] <;> omega))) | fail)
 exact (hK _ _ (bO rfl)).2
def Di:Fm:=⟨0,0,0,0,⟨0,0,0,0⟩,⟨0,0,0,0⟩,⟨0,0,0,0⟩,false,⟨⟨0,0⟩,⟨0,0⟩,⟨0,0⟩,false,0⟩⟩
theorem Ta (q:Nat×Fm):(jn q)[0]?=some (.int .i64 q.1):=rfl
theorem Tb (q:Nat×Fm):((jn q).drop 1).take 25=q.2.cells:=rfl
theorem Tc (q:Nat×Fm):(jn q).length=26:=rfl
theorem SZ {L:List (Nat×Fm)} {i:Nat} (h:i<L.length):(gK L)[i]?.getD []=jn (L[i]'h):=by simp [gK,h]
theorem UT:aI Go.Proofs.Tryz.prog 13 [.agg ((bk none).map .rv),.agg ((bk none).map .rv)] [] [] (.rv (.bool true)):=by
 refine bt Gm [.agg ((bk none).map .rv),.agg ((bk none).map .rv)] _ (by simp) (by simp [aO,aW,bp,aS,bg,aC.sv,Ln.sv,Nd.sv]) (fun K hK=>?_)
 have hi:=UP ⟨0,⟨0,0⟩,⟨0,0⟩,false⟩
 simp -implicitDefEqProofs only [ie,Pl.cells,List.map_cons,List.map_nil] at hi
 conv in fc _ _ _ _=>reduce
 simp -implicitDefEqProofs only [bk,go_sem,Int.reduceNegSucc]
 have y_2:=hi;repeat' (first | (simp -implicitDefEqProofs only [go_sem,Int.reduceNegSucc,uX,tw]) | (with_reducible refine aA ?_) | (with_reducible first | refine af y_2 ?_ | refine ag y_2 ?_) | ((first | refine ai (fun hg=>?_) (fun hg=>?_) | refine ax (fun hg=>?_) (fun hg=>?_) | refine ay (fun hg=>?_) (fun hg=>?_)) <;> try simp -implicitDefEqProofs only [hg,Bool.not_true,Bool.not_false]) | ((with_reducible apply And.intro);focus (first | trivial | omega | decide | (simp -implicitDefEqProofs only [maxLen];omega) | (simp [maxLen,ah,ak,an,av,aj,au,aq] <;> omega))) | fail)
 refine jH 1 ?_
 repeat' (first | (simp -implicitDefEqProofs only [go_sem,Int.reduceNegSucc,jM,jN,jO,jP,jQ,jR,jD,Int.reduceLT,decide_true,decide_false,Int.reduceToNat,Nat.reduceMul]) | (with_reducible refine aA ?_) | (with_reducible show G _ _ (It.l _ _::_) _ _ _;refine jG ?_) | ((first | refine ai (fun hg=>?_) (fun hg=>?_) | refine ax (fun hg=>?_) (fun hg=>?_) | refine ay (fun hg=>?_) (fun hg=>?_)) <;> try simp -implicitDefEqProofs only [hg,Bool.not_true,Bool.not_false]) | ((with_reducible apply And.intro);focus (first | trivial | omega | decide | (simp -implicitDefEqProofs only [maxLen];omega) | (simp [maxLen,ah,ak,an,av,aj,au,aq] <;> omega))) | fail)
 exact (hK _ _ (bO rfl)).2
theorem US (t:La) (h1:t.L.length≤1000000) (h2:t.ys.length≤1000000):aI Go.Proofs.Tryz.prog 13 [.agg ((bk (some t)).map .rv),.agg ((bk (some t)).map .rv)] [] [] (.rv (.bool true)):=by
 refine bt Gm [.agg ((bk (some t)).map .rv),.agg ((bk (some t)).map .rv)] _ (by simp) (by simp [aO,aW,bp,aS,bg,aC.sv,Ln.sv,Nd.sv]) (fun K hK=>?_)
 have hi:=UO t.ys h2 t.p
 have fS:=mb t.L
 simp -implicitDefEqProofs only [ie,Pl.cells,List.map_cons,List.map_nil] at hi
 conv in fc _ _ _ _=>reduce
 simp -implicitDefEqProofs only [bk,Pl.cells,go_sem,Int.reduceNegSucc]
 have bA:=hi;repeat' (first | (simp -implicitDefEqProofs only [go_sem,Int.reduceNegSucc,uX,tw,fS]) | (with_reducible refine aA ?_) | (with_reducible first | refine af bA ?_ | refine ag bA ?_) | ((first | refine ai (fun hg=>?_) (fun hg=>?_) | refine ax (fun hg=>?_) (fun hg=>?_) | refine ay (fun hg=>?_) (fun hg=>?_)) <;> try simp -implicitDefEqProofs only [hg,Bool.not_true,Bool.not_false]) | ((with_reducible apply And.intro);focus (first | trivial | omega | decide | (simp -implicitDefEqProofs only [maxLen];omega) | (simp [maxLen,ah,ak,an,av,aj,au,aq] <;> omega))) | fail)
 refine fE (ι:=Nat) (fun k=>[(31,.rv (.int .i64 k)),(30,.rv (.int .i64 t.L.length)),(2,.ptr 0 0),(3,.ptr 1 0)]) (fun _=>[some (.var ((bk (some t)).map .rv)),some (.var ((bk (some t)).map .rv))]) (fun k=>k≤t.L.length) (fun k=>t.L.length - k) 0 (Nat.zero_le _) (bh (by simp [lk])) (fun k hk K' hN hX hR=>?_)
 simp -implicitDefEqProofs only [bk,Pl.cells,go_sem,Int.reduceNegSucc]
 refine ai (fun hg=>?_) (fun hg=>?_)
 ·have aE:k<t.L.length:=by simp at hg;omega
  have wu:=cz (k:=k) (by omega)
  have hx:=SZ aE
  generalize t.L[k]=q at *
  have z1:=Ta q
  have z3:=Tb q
  have z5:=Tc q
  have hf:=zO q.2
  have bC:=hf;repeat' (first | (simp -implicitDefEqProofs only [go_sem,Int.reduceNegSucc,hx,fS,wu,tw,z1,z3,z5,List.length_drop]) | (with_reducible refine aA ?_) | (with_reducible first | refine af bC ?_ | refine ag bC ?_) | ((first | refine ai (fun hg=>?_) (fun hg=>?_) | refine ax (fun hg=>?_) (fun hg=>?_) | refine ay (fun hg=>?_) (fun hg=>?_)) <;> try simp -implicitDefEqProofs only [hg,Bool.not_true,Bool.not_false]) | ((with_reducible apply And.intro);focus (first | trivial | omega | decide | (simp -implicitDefEqProofs only [maxLen];omega) | (simp [maxLen,ah,ak,an,av,aj,au,aq] <;> omega) | (omega;done))) | fail)
  exact hN (k+1) _ _ (by omega) (by omega) (bh (by simp [lk]))
 ·simp -implicitDefEqProofs only [go_sem,Int.reduceNegSucc]
  refine hX _ _ _ ?_
  repeat' (first | (simp -implicitDefEqProofs only [go_sem,Int.reduceNegSucc]) | (with_reducible refine aA ?_) | ((first | refine ai (fun hg=>?_) (fun hg=>?_) | refine ax (fun hg=>?_) (fun hg=>?_) | refine ay (fun hg=>?_) (fun hg=>?_)) <;> try simp -implicitDefEqProofs only [hg,Bool.not_true,Bool.not_false]) | ((with_reducible apply And.intro);focus (first | trivial | omega | decide | (simp -implicitDefEqProofs only [maxLen];omega) | (simp [maxLen,ah,ak,an,av,aj,au,aq] <;> omega))) | fail)
  exact (hK _ _ (bO rfl)).2
end Go.aL

namespace Go.aL
open Go
theorem LU (s:aC):∀ r∈s.cells,jA r:=by
 intro r hr
 simp -implicitDefEqProofs only [aC.cells,List.mem_cons,List.not_mem_nil,or_false] at hr
 repeat' rcases hr with rfl | hr
 all_goals first | exact .int _ _ | exact .bool _ | (subst hr;exact .int _ _)
theorem LV (x:Nd):∀ r∈x.cells,jA r:=by
 intro r hr
 rcases List.mem_append.1 hr with hr | hr
 ·exact LU _ r hr
 ·simp at hr;rw [hr];exact .int _ _
theorem LS {e v:Nat} {xs:List (List RV)} (h:∀ x∈xs,∀ r∈x,jA r):oS (.row e v (aN xs)):=by
 refine .row _ _ _ (fun i x j y hx hy=>?_)
 unfold aN at hx
 rw [List.getElem?_map] at hx
 cases hq:xs[i]? with
 | none=>simp [hq] at hx
 | some z=>
   simp [hq] at hx
   subst hx
   rw [List.getElem?_map] at hy
   cases hr:z[j]? with
   | none=>simp [hr] at hy
   | some r=>simp [hr] at hy;subst hy;exact .rv _ (h z (List.mem_of_getElem? hq) r (List.mem_of_getElem? hr))
theorem TX (l:List Nd) (hb:l.length≤8589934592) (i v m:Nat) (hne:i≠m):aI Go.Proofs.Tryz.prog 27 [.row i v l.length] [(i,.row 49 v (aN (bw l)))] [(m,.row 49 1 (aN (bw l)))] (.row m 1 l.length):=by
 have h:=Is (bw l) m (by rw [an];exact hb)
 rw [an] at h
 refine xM (rs:=[.sl 49 (bw l)]) h (fun hp hpre=>⟨?_,trivial⟩) rfl (.row _ _ _) (fun q hq=>?_)
 ·exact oo (hpre _ (.head _)) rfl (by simp [bw]) (zk l)
 ·simp at hq;subst hq
  refine ⟨LS fun x hx=>?_,by simpa using hne⟩
  obtain ⟨n,_,rfl⟩:=List.mem_map.1 hx
  exact LV n
theorem Co (x:Nd):(x.cells.map SV.rv).take 49=x.cells.map SV.rv:=rfl
def ja (l:List Nd) (k:Nat):List (List SV):=(List.range l.length).map fun p=>[.row (p+7) (bG l k p).length (bG l k p).length]
def iR (l:List Nd) (k:Nat):List (Option HB):=(List.range l.length).map fun p=>some (.row 1 (bG l k p).length (aN (aM (br (bG l k p)))))
theorem wg (l:List Nd) (k:Nat):(ja l k).length=l.length:=by simp [ja]
theorem nH (l:List Nd) (k:Nat):(iR l k).length=l.length:=by simp [iR]
theorem Gi {l:List Nd} {k p:Nat} (hp:p<l.length):(ja l k)[p]?.getD []=[.row (p+7) (bG l k p).length (bG l k p).length]:=by simp [ja,hp]
theorem Cd {l:List Nd} {k p:Nat} {C:List (Option HB)} (hp:p<l.length):aB (iR l k++C) p=some (.row 1 (bG l k p).length (aN (aM (br (bG l k p))))):=by
 unfold aB
 rw [List.getElem?_append_left (by rw [nH];exact hp)]
 simp [iR,hp]
theorem Cb {l:List Nd} {k:Nat} {x:Option HB} {C:List (Option HB)}:aB (iR l k++x::C) l.length=x:=by
 unfold aB
 rw [List.getElem?_append_right (by rw [nH];exact Nat.le_refl _),nH]
 simp
theorem Ge {l:List Nd} {k:Nat} {x y:Option HB} {C:List (Option HB)}:aB (iR l k++x::y::C) (l.length+1)=y:=by
 unfold aB
 rw [List.getElem?_append_right (by rw [nH];omega),nH,show l.length+1 - l.length=1 by omega]
 simp
theorem Gg {l:List Nd} {k p:Nat} {hb:Option HB} {x y:Option HB} {C:List (Option HB)}:aB ((iR l k).set p hb++x::C) l.length=x:=by
 unfold aB
 rw [List.getElem?_append_right (by rw [List.length_set,nH];exact Nat.le_refl _),List.length_set,nH]
 simp
theorem Cf {l:List Nd} {k:Nat} {x y:Option HB} {C:List (Option HB)}:(iR l k++x::C).set l.length y=iR l k++y::C:=by
 rw [List.set_append_right _ _ (by rw [nH];exact Nat.le_refl _),nH,Nat.sub_self];rfl
theorem Pe {l:List Nd} {k p:Nat} {y:Option HB} {C:List (Option HB)} (hp:p<l.length):(iR l k++C).set p y=(iR l k).set p y++C:=by
 rw [List.set_append_left _ _ (by rw [nH];exact hp)]
theorem Pg (l:List Nd):iR l 0=iW l.length 1:=by
 refine List.ext_getElem (by simp [iR,iW]) (fun i h1 h2=>?_)
 simp [iR,iW,uh,br,aM,aN]
theorem Gk (l:List Nd):ja l 0=iG 7 l.length l.length:=by
 refine List.ext_getElem (by simp [ja,iG]) (fun i h1 h2=>?_)
 simp [ja] at h1
 simp [ja,iG,uh,h1];omega
theorem Pc {l:List Nd} {k p:Nat} (h0:0<k) (hp:bE l k=p) (hl:p<l.length) :
 (iR l k).set p (some (.row 1 ((bG l k p).length+1) (aN (aM (br (bG l k p)++[(k:Int)])))))=iR l (k+1):=by
 refine List.ext_getElem (by simp [iR]) (fun i h1 h2=>?_)
 simp -implicitDefEqProofs only [List.getElem_set,iR,List.getElem_map,List.getElem_range,ug]
 by_cases h:p=i
 ·subst h;simp [h0,hp,br]
 ·rw [if_neg h,if_neg (by rw [hp];omega)];simp
theorem Pm {l:List Nd} {k p:Nat} (h0:0<k) (hp:bE l k=p) (hl:p<l.length) :
 (ja l k).set p [.row (p+7) ((bG l k p).length+1) ((bG l k p).length+1)]=ja l (k+1):=by
 refine List.ext_getElem (by simp [ja]) (fun i h1 h2=>?_)
 simp -implicitDefEqProofs only [List.getElem_set,ja,List.getElem_map,List.getElem_range,ug]
 by_cases h:p=i
 ·subst h;simp [h0,hp]
 ·rw [if_neg h,if_neg (by rw [hp];omega)];simp
theorem OZ (l:List Nd):iR l 1=iR l 0:=by
 refine List.ext_getElem (by simp [iR]) (fun i h1 h2=>?_)
 simp [iR,bG,List.range_succ]
theorem Pj (l:List Nd):ja l 1=ja l 0:=by
 refine List.ext_getElem (by simp [ja]) (fun i h1 h2=>?_)
 simp [ja,bG,List.range_succ]
def qW (v:Nat) (l:List Nd) (k:Nat) (es ds:List Int) (bs:List Bool):List (Option HB):=some (.row 49 v (aN (bw l)))::some (.row 49 1 (aN (bw l)))::some (.row 1 0 (ja l k))::some (.row 1 0 (aN (aM es)))::some (.row 1 0 (aN (aM ds)))::some (.row 1 0 (aN (jC bs)))::some (.var [.row 1 1 l.length,.row 2 0 l.length,.row 3 0 l.length,.row 4 0 l.length,.row 5 0 l.length])::iR l k
theorem BX {v:Nat} {l:List Nd} {k:Nat} {es ds:List Int} {bs:List Bool}:(qW v l k es ds bs).length=l.length+7:=by simp [qW,nH]
theorem OX {v:Nat} {l:List Nd} {k:Nat} {es ds:List Int} {bs:List Bool}:lz (mS (l.length+7)) (qW v l k es ds bs):=by
 refine ⟨iV,iV,fun i x hx=>?_,iV,iV,iV,by simp [mS,mR,jF],lz.of fun j x hx=>?_⟩
 ·obtain ⟨hl,rfl⟩:=List.getElem?_eq_some_iff.1 hx
  simp [wg] at hl
  simp [ja,mR,jF,hl]
 ·obtain ⟨hl,rfl⟩:=List.getElem?_eq_some_iff.1 hx
  exact ⟨.row 1 (bG l k j).length (aN (aM (br (bG l k j)))),by simp [iR],iV⟩
theorem BZ {v:Nat} {l:List Nd} {k:Nat} {es ds:List Int} {bs:List Bool} {env env':List (Nat×SV)} {C:List (Option HB)} (he:ij (l.length+7) env env'):fX 1 ⟨env,qW v l k es ds bs++C⟩ ⟨env',qW v l k es ds bs⟩:=
 nA (by rw [BX];omega) (by rw [BX];exact OX) (by rw [BX];exact he)
theorem RE (v:Nat) (l:List Nd) {τ:Nat→Option Nat} (lS:∀ j,0<j→τ j=none):Fz τ (aB (qW v l l.length (sj l) (cj l l.length) (fR l l.length))) (.ptr 6 0) (cu l):=by
 refine .ptr 6 [.row 1 1 l.length,.row 2 0 l.length,.row 3 0 l.length,.row 4 0 l.length,.row 5 0 l.length] _ (lS _ (by decide)) rfl rfl (fun i r hr=>?_) (fun i x r hx hr=>?_)
 ·match i with
  | 0=>cases hr;rfl
  | 1=>cases hr;rfl
  | 2=>cases hr;rfl
  | 3=>cases hr;rfl
  | 4=>cases hr;rfl
  | i+5=>simp at hr
 ·match i with
  | 0=>cases hx;cases hr;exact oo rfl (lS _ (by decide)) (by simp [bw]) (zk l)
  | 1=>
    cases hx;cases hr
    refine .row 2 1 0 l.length (ja l l.length) (lU l) (lS _ (by decide)) rfl (by simp [lU]) (by rw [wg];exact Nat.le_refl _) (fun i x r hx hr=>?_) (fun i r k q hr hq=>?_) (fun i x r k y q hx hr hy hq=>?_)
    ·obtain ⟨_,rfl⟩:=List.getElem?_eq_some_iff.1 hx
     obtain ⟨_,rfl⟩:=List.getElem?_eq_some_iff.1 hr
     simp [ja,lU]
    ·obtain ⟨_,rfl⟩:=List.getElem?_eq_some_iff.1 hr
     have:=List.mem_of_getElem? hq
     simp [lU] at this
     rw [this];rfl
    ·obtain ⟨hl,rfl⟩:=List.getElem?_eq_some_iff.1 hx
     obtain ⟨_,rfl⟩:=List.getElem?_eq_some_iff.1 hr
     rw [wg] at hl
     cases k with
     | succ k=>simp [ja] at hy
     | zero=>
       simp [ja] at hy
       simp [lU] at hq
       subst hy;subst hq
       refine oo (xs:=aM (br (iw l i))) ?_ (lS _ (by omega)) (by simp [aM,br,iw]) (kN _)
       have:=Cd (k:=l.length) (C:=[]) hl
       rw [List.append_nil] at this
       exact this
  | 2=>cases hx;cases hr;exact oo rfl (lS _ (by decide)) (by simp [aM,sj]) (kN _)
  | 3=>cases hx;cases hr;exact oo rfl (lS _ (by decide)) (by simp [aM,cj]) (kN _)
  | 4=>cases hx;cases hr;exact oo rfl (lS _ (by decide)) (by simp [jC,fR]) (DI _)
  | i+5=>simp at hx
theorem UM (l:List Nd) (hb:l.length≤8589934592) (hc:kT l=0) (i0 v:Nat):aI Go.Proofs.Tryz.prog 9 [.row i0 v l.length] [(i0,.row 49 v (aN (bw l)))] [] (.aP [.rv (cu l),.rv (.int .i64 0)]):=by
 refine mV Gp [i0] [.row 49 v (aN (bw l))] [.row 49 v (aN (bw l))] [.row 0 v l.length] [.row i0 v l.length] _ _ (by simp) (by simp [aO,lD]) rfl (by simp [bW]) ⟨rfl,rfl,⟨rfl,_,rfl⟩,trivial⟩ (fun K hK=>?_)
 have hlen:=an l
 have Fb:=IS l hb
 rw [hc] at Fb
 have qh:=GB (id:=0) (v:=v) (n:=l.length) (bs:=[]) Fb (.int _ _) (by simp [bw]) (zk l)
 have ht:fW l=true:=by
  unfold kT at hc
  cases h:fW l with
  | true=>rfl
  | false=>rw [h] at hc;simp at hc
 have hs:gx l:=wL.1 (by unfold fW at ht;simp -implicitDefEqProofs only [Bool.and_eq_true] at ht;exact ht.1)
 have qJ:(((0:Int)) != 0)=false:=rfl
 conv in fc _ _ _ _=>reduce
 simp -implicitDefEqProofs only [go_sem,Int.reduceNegSucc]
 have hb2:(bw l).length≤8589934592:=by rw [hlen];exact hb
 have aT:=qh;have y_2:=TX l hb 0 v 1 (by decide);repeat' (first | (simp -implicitDefEqProofs only [go_sem,Int.reduceNegSucc,qJ,hlen,zH,Il]) | (with_reducible refine aA ?_) | (refine bS aT ?_ ?_ ?_;(focus (simp [aY,aB] <;> fail));(focus (simp [bq,aX] <;> fail))) | (refine ck aT ?_ ?_ ?_;(focus (simp [aY,aB] <;> fail));(focus (simp [bq,aX] <;> fail))) | (refine bS y_2 ?_ ?_ ?_;(focus (simp [aY,aB] <;> fail));(focus (simp [bq,aX] <;> fail))) | (refine ck y_2 ?_ ?_ ?_;(focus (simp [aY,aB] <;> fail));(focus (simp [bq,aX] <;> fail))) | ((first | refine ai (fun hg=>?_) (fun hg=>?_) | refine ax (fun hg=>?_) (fun hg=>?_) | refine ay (fun hg=>?_) (fun hg=>?_)) <;> try simp -implicitDefEqProofs only [hg,Bool.not_true,Bool.not_false]) | ((with_reducible apply And.intro);focus (first | trivial | omega | decide | (simp -implicitDefEqProofs only [maxLen];omega) | (simp [maxLen,ah,ak,an,av,aj,au,aq] <;> omega))) | fail)
 have NO:∀ n:Nat,ja l 0=iG 7 l.length l.length:=fun _=>Gk l
 let ev:Nat→List (Nat×SV):=fun k=>[(33,.rv (.int .i64 k)),(32,.rv (.int .i64 l.length)),(31,.row 0 v l.length),(5,.ptr 6 0),(0,.row 0 v l.length)]
 refine fE (ι:=Nat) (fun k=>[(33,.rv (.int .i64 k)),(32,.rv (.int .i64 l.length)),(31,.row 0 v l.length),(5,.ptr 6 0),(0,.row 0 v l.length)]) (fun k=>some (.row 49 v (aN (bw l)))::some (.row 49 1 (aN (bw l)))::some (.row 1 0 (ja l k))::some (.row 1 0 (aN (aM (List.replicate l.length 0))))::some (.row 1 0 (aN (aM (cj l k))))::some (.row 1 0 (aN (jC (fR l k))))::some (.var [.row 1 1 l.length,.row 2 0 l.length,.row 3 0 l.length,.row 4 0 l.length,.row 5 0 l.length])::iR l k) (fun k=>k≤l.length) (fun k=>l.length - k) 0 (by simp) ?_ (fun k hk K' hN hX hR=>?_)
 ·refine (bh (env':=[(33,.rv (.int .i64 0)),(32,.rv (.int .i64 l.length)),(31,.row 0 v l.length),(5,.ptr 6 0),(0,.row 0 v l.length)]) (by simp [lk])).trans ?_
  rw [Gk,Pg,AF,GP]
  exact Ev (r:=2) (v:=0) (n:=l.length) (e:=1) rfl
 simp -implicitDefEqProofs only [go_sem,Int.reduceNegSucc]
 refine ai (fun hg=>?_) (fun hg=>?_)
 ·have aE:k<l.length:=by simp at hg;omega
  have hx:=iS aE
  have sQ:=nH l k
  have hdl:=tK l k
  have lG:=aj (cj l k)
  have pg:=kZ (l:=cj l k) (i:=k) (by omega)
  have hml:=GO l k
  have sI:=xG (fR l k)
  have sH:=tD (bs:=fR l k) (i:=k) (by omega)
  have hsh:=CP aE
  have e1:(l.length=l.length+1)=False:=eq_false (by omega)
  have e2:(l.length=l.length+2)=False:=eq_false (by omega)
  have hds:=yc aE
  have sB:=AE aE
  have wu:=cz (k:=k) (by omega)
  by_cases gA:0<k
  ·have hgt:decide ((k:Int)>0)=true:=decide_eq_true (by omega)
   obtain ⟨p1,p2⟩:=hs.wf.2 k gA aE
   obtain ⟨p,hp⟩:∃ p:Nat,bE l k=p:=⟨(bE l k).toNat,by omega⟩
   have fS:p<l.length:=by omega
   have q0:(p=l.length)=False:=eq_false (by omega)
   have q1:(p=l.length+1)=False:=eq_false (by omega)
   have q2:(p=l.length+2)=False:=eq_false (by omega)
   have hpk:=lZ aE
   have Nz:(cj l k).set k 1=(cj l k).set k 1:=rfl
   have sC:((cj l k).set k 1).length=l.length:=by simp [hdl]
   have vr:=aj ((cj l k).set k 1)
   have pn:=kZ (l:=(cj l k).set k 1) (i:=p) (by omega)
   have sA:=kZ (l:=(cj l k).set k 1) (i:=k) (by omega)
   rw [AD (by omega) (by omega)] at pn
   have qO:=AG hs.wf gA aE
   rw [hp,Int.toNat_natCast] at qO
   have wd:=cz (k:=depth l p) (by have:=uw (l:=l) p;unfold depth;omega)
   rw [← qO] at wd
   obtain ⟨b,sL⟩:∃ b,pR l k=b:=⟨_,rfl⟩
   have hmp:=tD (bs:=(fR l k).set k b) (i:=p) (by simp [hml];omega)
   have hmk:=tD (bs:=(fR l k).set k b) (i:=k) (by simp [hml];omega)
   rw [GN (by omega) (by omega)] at hmp
   have vD:((fR l k).set k b).length=l.length:=by simp [hml]
   have vE:=xG ((fR l k).set k b)
   have mZ:((fR l k).set k b).set k (b && mJ l p)=fR l (k+1):=by
    have:=GL hs.wf gA aE
    rw [hp,Int.toNat_natCast,sL] at this
    rw [List.set_set,← this,ze aE]
   have ow:=wg l k
   have ov:=Gi (k:=k) fS
   have mY:=fun C=>Cd (k:=k) (C:=C) fS
   have hkn:=Pc gA hp fS
   have htn:=Pm gA hp fS
   have hsp:=fun (y:Option HB) C=>Pe (k:=k) (y:=y) (C:=C) fS
   have gI:(br (bG l k p)).length=(bG l k p).length:=by simp [br]
   have ou:=aj (br (bG l k p))
   have jk:(aM (br (bG l k p))).take (bG l k p).length=aM (br (bG l k p)):=List.take_of_length_le (by rw [ou,gI];exact Nat.le_refl _)
   have hkk:=sP (l:=l) (k:=k) (p:=p)
   cases b
   all_goals simp -implicitDefEqProofs only [Bool.false_and,Bool.true_and] at mZ
   ·repeat' (first | (simp -implicitDefEqProofs only [go_sem,Int.reduceNegSucc,hlen,hx,sQ,ak,qp,Co,Nat.add_assoc,Cb,List.append_assoc,hdl,lG,pg,hml,sI,sH,ni,uC,uk,hsh,sL,e1,e2,Cf,hgt,hpk,hp,um,ow,ov,mY,q0,q1,q2,hsp,Ge,Gg,gI,ou,jk,mL,hkn,htn,sC,vr,pn,sA,wd,sB,wu,hmp,hmk,vD,vE]) | (with_reducible refine aA ?_) | ((first | refine ai (fun hg=>?_) (fun hg=>?_) | refine ax (fun hg=>?_) (fun hg=>?_) | refine ay (fun hg=>?_) (fun hg=>?_)) <;> try simp -implicitDefEqProofs only [hg,Bool.not_true,Bool.not_false]) | ((with_reducible apply And.intro);focus (first | trivial | omega | decide | (simp -implicitDefEqProofs only [maxLen];omega) | (simp [maxLen,ah,ak,an,av,aj,au,aq] <;> omega) | (simp (decide:=true) [oY,qI,mT,qb,Nat.testBit,q0,q1,q2];done))) | fail)
    rw [mZ]
    exact hN (k+1) _ _ (by omega) (by omega) (BZ (v:=v) (l:=l) (k:=k+1) (by simp [ij,lk,jU,lQ,jF]))
   ·repeat' (first | (simp -implicitDefEqProofs only [go_sem,Int.reduceNegSucc,hlen,hx,sQ,ak,qp,Co,Nat.add_assoc,Cb,List.append_assoc,hdl,lG,pg,hml,sI,sH,ni,uC,uk,hsh,sL,e1,e2,Cf,hgt,hpk,hp,um,ow,ov,mY,q0,q1,q2,hsp,Ge,Gg,gI,ou,jk,mL,hkn,htn,sC,vr,pn,sA,wd,sB,wu,hmp,hmk,vD,vE]) | (with_reducible refine aA ?_) | ((first | refine ai (fun hg=>?_) (fun hg=>?_) | refine ax (fun hg=>?_) (fun hg=>?_) | refine ay (fun hg=>?_) (fun hg=>?_)) <;> try simp -implicitDefEqProofs only [hg,Bool.not_true,Bool.not_false]) | ((with_reducible apply And.intro);focus (first | trivial | omega | decide | (simp -implicitDefEqProofs only [maxLen];omega) | (simp [maxLen,ah,ak,an,av,aj,au,aq] <;> omega) | (simp (decide:=true) [oY,qI,mT,qb,Nat.testBit,q0,q1,q2];done))) | fail)
    rw [mZ]
    exact hN (k+1) _ _ (by omega) (by omega) (BZ (v:=v) (l:=l) (k:=k+1) (by simp [ij,lk,jU,lQ,jF]))
  ·obtain rfl:k=0:=by omega
   have hgt:decide (((0:Nat):Int)>0)=false:=rfl
   rw [AH] at hds
   have mZ:=ze aE
   rw [GM] at mZ
   have Bo:(cj l 0).set 0 1=cj l (0+1):=hds
   repeat' (first | (simp -implicitDefEqProofs only [go_sem,Int.reduceNegSucc,hlen,hx,sQ,ak,qp,Co,Nat.add_assoc,Cb,List.append_assoc,hdl,lG,pg,hml,sI,sH,ni,uC,uk,hsh,e1,e2,Cf,hgt,wu,mZ,Bo]) | (with_reducible refine aA ?_) | ((first | refine ai (fun hg=>?_) (fun hg=>?_) | refine ax (fun hg=>?_) (fun hg=>?_) | refine ay (fun hg=>?_) (fun hg=>?_)) <;> try simp -implicitDefEqProofs only [hg,Bool.not_true,Bool.not_false]) | ((with_reducible apply And.intro);focus (first | trivial | omega | decide | (simp -implicitDefEqProofs only [maxLen];omega) | (simp [maxLen,ah,ak,an,av,aj,au,aq] <;> omega))) | fail)
   refine hN 1 _ _ (by omega) (by omega) ?_
   rw [Pj,OZ]
   exact BZ (v:=v) (l:=l) (k:=0) (es:=List.replicate l.length 0) (ds:=cj l (0+1)) (bs:=fR l (0+1)) (C:=[some (.var ((l[0]'aE).cells.map .rv))]) (by simp [ij,lk,jU,lQ,jF])
 ·have aE:k=l.length:=by simp at hg;omega
  subst aE
  simp -implicitDefEqProofs only [go_sem,Int.reduceNegSucc]
  refine hX _ _ _ ?_
  have wl:=uO hs.pos (by omega)
  repeat' (first | (simp -implicitDefEqProofs only [go_sem,Int.reduceNegSucc,hlen,wl]) | (with_reducible refine aA ?_) | ((first | refine ai (fun hg=>?_) (fun hg=>?_) | refine ax (fun hg=>?_) (fun hg=>?_) | refine ay (fun hg=>?_) (fun hg=>?_)) <;> try simp -implicitDefEqProofs only [hg,Bool.not_true,Bool.not_false]) | ((with_reducible apply And.intro);focus (first | trivial | omega | decide | (simp -implicitDefEqProofs only [maxLen];omega) | (simp [maxLen,ah,ak,an,av,aj,au,aq] <;> omega))) | fail)
  clear hN hX hR
  refine fE (ι:=Nat) (fun k=>[(8,.rv (.int .i64 ((k:Int) - 1))),(5,.ptr 6 0)]) (fun k=>qW v l l.length (gN l k) (cj l l.length) (fR l l.length)) (fun k=>k≤l.length) (fun k=>k) l.length (Nat.le_refl _) (by rw [Et];exact bh (by simp [lk];have:=hs.pos;omega)) (fun k hk K' hN hX hR=>?_)
  simp -implicitDefEqProofs only [qW,go_sem,Int.reduceNegSucc]
  refine ai (fun hg=>?_) (fun hg=>?_)
  ·have gA:0<k:=by simp at hg;omega
   obtain ⟨j,rfl⟩:∃ j,k=j+1:=⟨k - 1,by omega⟩
   have ej:(((j+1:Nat):Int) - 1)=(j:Int):=by omega
   have wj:=cz (k:=j) (by omega)
   have hjl:j<l.length:=by omega
   have hel:=Er l (j+1)
   have vv:=aj (gN l (j+1))
   have sD:=kZ (l:=gN l (j+1)) (i:=j) (by omega)
   have ow:=wg l l.length
   have ov:=Gi (k:=l.length) hjl
   have mY:=Cd (k:=l.length) (C:=[]) hjl
   simp -implicitDefEqProofs only [List.append_nil] at mY
   have gI:(br (bG l l.length j)).length=(bG l l.length j).length:=by simp [br]
   have ou:=aj (br (bG l l.length j))
   have hkk:=sP (l:=l) (k:=l.length) (p:=j)
   have nF:((gN l (j+1)).set j ((j+1:Nat):Int)).length=l.length:=by simp [hel]
   have BJ:=aj ((gN l (j+1)).set j ((j+1:Nat):Int))
   have ji:=Es (l:=l) (k:=j+1) (by omega) (by omega)
   simp -implicitDefEqProofs only [Nat.add_sub_cancel] at ji
   have wd:IntKind.i64.wrap ((j:Int) - 1)=((j:Int) - 1):=wrap_i64 (by omega) (by omega)
   by_cases fJ:bG l l.length j=[]
   ·have hm0:decide ((((bG l l.length j).length:Nat):Int)>0)=false:=by rw [fJ];rfl
    have he:=AP fJ
    rw [he] at ji
    repeat' (first | (simp -implicitDefEqProofs only [go_sem,Int.reduceNegSucc,hel,vv,sD,ow,ov,mY,ej,wj,hm0,ni,ji,wd]) | (with_reducible refine aA ?_) | ((first | refine ai (fun hg=>?_) (fun hg=>?_) | refine ax (fun hg=>?_) (fun hg=>?_) | refine ay (fun hg=>?_) (fun hg=>?_)) <;> try simp -implicitDefEqProofs only [hg,Bool.not_true,Bool.not_false]) | ((with_reducible apply And.intro);focus (first | trivial | omega | decide | (simp -implicitDefEqProofs only [maxLen];omega) | (simp [maxLen,ah,ak,an,av,aj,au,aq] <;> omega))) | fail)
    refine hN j _ _ (by omega) (by omega) (bh (by simp [lk]))
   ·obtain ⟨c,hc⟩:∃ c,(bG l l.length j).getLast?=some c:=by
     cases h:(bG l l.length j).getLast? with
     | none=>exact absurd (List.getLast?_eq_none_iff.1 h) fJ
     | some c=>exact ⟨c,rfl⟩
    have hpos:0<(bG l l.length j).length:=List.length_pos_iff.2 fJ
    have hm0:decide ((((bG l l.length j).length:Nat):Int)>0)=true:=decide_eq_true (by omega)
    have mX:c∈iw l j:=List.mem_of_getLast? hc
    obtain ⟨c1,c2,c3⟩:=qY.1 mX
    have Bi:j<c:=by have:=(hs.wf.2 c c1 c2).2;omega
    have he:=AN hc Bi c2
    rw [he] at ji
    have wm:=uO hpos (by omega)
    have Bh:(br (bG l l.length j)).getD ((bG l l.length j).length - 1) 0=(c:Int):=by
     rw [List.getLast?_eq_getElem?] at hc
     simp [br,List.getD_eq_getElem?_getD,hc]
    have jY:=kZ (l:=br (bG l l.length j)) (i:=(bG l l.length j).length - 1) (by omega)
    rw [Bh] at jY
    have vu:=kZ (l:=(gN l (j+1)).set j ((j+1:Nat):Int)) (i:=c) (by omega)
    have qi:=Ep (l:=l) (k:=j+1) (j:=c) (v:=((j+1:Nat):Int)) (by omega) (by omega) c2
    simp -implicitDefEqProofs only [Nat.add_sub_cancel] at qi
    rw [qi] at vu
    have Br:=kZ (l:=(gN l (j+1)).set j ((j+1:Nat):Int)) (i:=j) (by omega)
    have vO:((gN l (j+1)).set j ((j+1:Nat):Int)).set j (iq l c)=gN l j:=by rw [List.set_set,ji]
    repeat' (first | (simp -implicitDefEqProofs only [go_sem,Int.reduceNegSucc,hel,vv,sD,ow,ov,mY,ej,wj,hm0,ni,wd,wm,jY,vu,Br,vO,nF,BJ,gI,ou]) | (with_reducible refine aA ?_) | ((first | refine ai (fun hg=>?_) (fun hg=>?_) | refine ax (fun hg=>?_) (fun hg=>?_) | refine ay (fun hg=>?_) (fun hg=>?_)) <;> try simp -implicitDefEqProofs only [hg,Bool.not_true,Bool.not_false]) | ((with_reducible apply And.intro);focus (first | trivial | omega | decide | (simp -implicitDefEqProofs only [maxLen];omega) | (simp [maxLen,ah,ak,an,av,aj,au,aq] <;> omega))) | fail)
    refine hN j _ _ (by omega) (by omega) (bh (by simp [lk]))
  ·obtain rfl:k=0:=by simp at hg;omega
   simp -implicitDefEqProofs only [go_sem,Int.reduceNegSucc]
   refine hX _ _ _ ?_
   repeat' (first | (simp -implicitDefEqProofs only [go_sem,Int.reduceNegSucc]) | (with_reducible refine aA ?_) | ((first | refine ai (fun hg=>?_) (fun hg=>?_) | refine ax (fun hg=>?_) (fun hg=>?_) | refine ay (fun hg=>?_) (fun hg=>?_)) <;> try simp -implicitDefEqProofs only [hg,Bool.not_true,Bool.not_false]) | ((with_reducible apply And.intro);focus (first | trivial | omega | decide | (simp -implicitDefEqProofs only [maxLen];omega) | (simp [maxLen,ah,ak,an,av,aj,au,aq] <;> omega))) | fail)
   refine (hK _ _ _ _ [] (gO _ _) ?_).2
   rw [Eu]
   simp -implicitDefEqProofs only [gZ,List.map_cons,List.map_nil,List.append_nil]
   refine ⟨by simp [bW],trivial,trivial,⟨?_,trivial⟩,trivial,bf.2 ⟨?_,aG.2 rfl,trivial⟩⟩
   ·rw [show ga (gk ([i0].zip [HB.row 49 v (aN (bw l))]) i0) [] i0=some (HB.row 49 v (aN (bw l))) from by simp [ga,gk]]
    exact ⟨rfl,rfl,hD.2 rfl⟩
   ·exact .fz _ _ (RE v l (fun j hj=>by cases j with
     | zero=>omega
     | succ j=>rfl))
end Go.aL

namespace Go.aL
open Go
theorem Pw:aU Go.Proofs.Tryz.prog 22 13 (fc Go.Proofs.Tryz.prog 22 13 [(.c 0 48 true)]) [(.c 0 48 true)]:=bl (by kernel_rfl)
def Cj:List CK→List RV→Bool
 | [],[]=>true
 | .b::ks,.bool _::rs=>Cj ks rs
 | .i::ks,.int _ _::rs=>Cj ks rs
 | .s::ks,.str _::rs=>Cj ks rs
 | _,_=>false
def uu:aC:={ (default:aC) with shown:=true,pad:=⟨⟨1,0⟩,⟨1,0⟩,⟨1,0⟩,⟨1,0⟩⟩ }
def Th (k:Nat):aC:={ (default:aC) with shown:=true,pad:=⟨if 0<k then ⟨1,0⟩ else default,if 1<k then ⟨1,0⟩ else default,if 2<k then ⟨1,0⟩ else default,if 3<k then ⟨1,0⟩ else default⟩ }
theorem Up:aI Go.Proofs.Tryz.prog 22 [] [] [] uu.sv:=by
 refine bt Pw [] _ (by simp) (by simp [aO,aW,bp,aS,bg,aC.sv,Ln.sv,Nd.sv]) (fun K hK=>?_)
 conv in fc _ _ _ _=>reduce
 simp -implicitDefEqProofs only [go_sem,Int.reduceNegSucc]
 repeat' (first | (simp -implicitDefEqProofs only [go_sem,Int.reduceNegSucc]) | (with_reducible refine aA ?_) | ((first | refine ai (fun hg=>?_) (fun hg=>?_) | refine ax (fun hg=>?_) (fun hg=>?_) | refine ay (fun hg=>?_) (fun hg=>?_)) <;> try simp -implicitDefEqProofs only [hg,Bool.not_true,Bool.not_false]) | ((with_reducible apply And.intro);focus (first | trivial | omega | decide | (simp -implicitDefEqProofs only [maxLen];omega) | (simp [maxLen,ah,ak,an,av,aj,au,aq] <;> omega) | (exact ⟨rfl,by decide⟩;done))) | fail)
 refine fE (ι:=Nat) (fun k=>[(4,.rv (.int .i64 k)),(0,.ptr 0 0),(1,.ptr 1 0)]) (fun k=>[some (.var ((default:aC).cells.map .rv)),some (.var ((Th k).cells.map .rv))]) (fun k=>k≤4) (fun k=>4 - k) 0 (by simp) (bh (by simp [lk])) (fun k hk K' hN hX hR=>?_)
 simp -implicitDefEqProofs only [go_sem,Int.reduceNegSucc]
 refine ai (fun hg=>?_) (fun hg=>?_)
 ·have:k=0∨k=1∨k=2∨k=3:=by simp at hg;omega
  rcases this with rfl | rfl | rfl | rfl
  all_goals
   repeat' (first | (simp -implicitDefEqProofs only [go_sem,Int.reduceNegSucc,ah,cz (k:=0) (by decide),cz (k:=1) (by decide),cz (k:=2) (by decide),cz (k:=3) (by decide)]) | (with_reducible refine aA ?_) | ((first | refine ai (fun hg=>?_) (fun hg=>?_) | refine ax (fun hg=>?_) (fun hg=>?_) | refine ay (fun hg=>?_) (fun hg=>?_)) <;> try simp -implicitDefEqProofs only [hg,Bool.not_true,Bool.not_false]) | ((with_reducible apply And.intro);focus (first | trivial | omega | decide | (simp -implicitDefEqProofs only [maxLen];omega) | (simp [maxLen,ah,ak,an,av,aj,au,aq] <;> omega))) | fail)
  ·exact hN 1 _ _ (by omega) (by omega) (bh (by simp [lk]))
  ·exact hN 2 _ _ (by omega) (by omega) (bh (by simp [lk]))
  ·exact hN 3 _ _ (by omega) (by omega) (bh (by simp [lk]))
  ·exact hN 4 _ _ (by omega) (by omega) (bh (by simp [lk]))
 ·have aE:k=4:=by simp at hg;omega
  subst aE
  simp -implicitDefEqProofs only [go_sem,Int.reduceNegSucc]
  refine hX _ _ _ ?_
  repeat' (first | (simp -implicitDefEqProofs only [go_sem,Int.reduceNegSucc,ah,cA]) | (with_reducible refine aA ?_) | ((first | refine ai (fun hg=>?_) (fun hg=>?_) | refine ax (fun hg=>?_) (fun hg=>?_) | refine ay (fun hg=>?_) (fun hg=>?_)) <;> try simp -implicitDefEqProofs only [hg,Bool.not_true,Bool.not_false]) | ((with_reducible apply And.intro);focus (first | trivial | omega | decide | (simp -implicitDefEqProofs only [maxLen];omega) | (simp [maxLen,ah,ak,an,av,aj,au,aq] <;> omega) | (rfl;done) | (exact ⟨rfl,by decide⟩;done))) | fail)
  exact (hK _ _ (CF (rs:=uu.cells) rfl rfl rfl)).2
theorem Hq:kT [⟨uu,-1⟩]=0:=by decide +kernel
end Go.aL

namespace Go.aL
open Go
theorem PA:aU Go.Proofs.Tryz.prog 7 28 (fc Go.Proofs.Tryz.prog 7 28 [(.t 0)]) [(.t 0)]:=bl (by kernel_rfl)
theorem SE:(An [⟨uu,-1⟩] 0 640 ⟨false,480⟩ false).map (·.1.w)=some 640:=by decide +kernel
theorem zL:aI Go.Proofs.Tryz.prog 7 [] [] [] (.rv (.bool true)):=by
 refine bt PA [] _ (by simp) (by simp [aO,aW,bp,aS,bg,aC.sv,Ln.sv,Nd.sv]) (fun K hK=>?_)
 have hk:=UM [⟨uu,-1⟩] (by decide) Hq 0 0
 have hb:=UG [⟨uu,-1⟩] (De (DW Hq)) (by decide) 0 640 ⟨false,480⟩ false
 obtain ⟨q,hq,hw⟩:=Option.map_eq_some_iff.1 SE
 rw [hq] at hb
 obtain ⟨f,t⟩:=q
 have e0:((0:Int) != 0)=false:=rfl
 have q1:f.cells.length=25:=rfl
 have q2:(f.cells.map SV.rv).take 25=f.cells.map SV.rv:=rfl
 have q3:(f.cells.map SV.rv).drop 25=[]:=rfl
 have q4:(f.cells.map SV.rv)[2]?=some (.rv (.int .i64 f.w)):=rfl
 simp only at hw
 have e1:(f.w == 640)=true:=by simp [hw]
 simp -implicitDefEqProofs only [lE,bN,bk,Option.map,Option.isSome,Pl.cells,List.map_cons,List.map_nil,List.cons_append,List.nil_append,Sz.sv,Sz.cells] at hb
 conv in fc _ _ _ _=>reduce
 simp -implicitDefEqProofs only [go_sem,Int.reduceNegSucc]
 have aT:=Up;repeat' (first | (simp -implicitDefEqProofs only [go_sem,Int.reduceNegSucc,ah]) | (with_reducible refine aA ?_) | (with_reducible first | refine af aT ?_ | refine ag aT ?_) | ((first | refine ai (fun hg=>?_) (fun hg=>?_) | refine ax (fun hg=>?_) (fun hg=>?_) | refine ay (fun hg=>?_) (fun hg=>?_)) <;> try simp -implicitDefEqProofs only [hg,Bool.not_true,Bool.not_false]) | ((with_reducible apply And.intro);focus (first | trivial | omega | decide | (simp -implicitDefEqProofs only [maxLen];omega) | (simp [maxLen,ah,ak,an,av,aj,au,aq] <;> omega))) | fail)
 refine bS hk (Tj rfl) trivial ?_
 have y_2:=hb;repeat' (first | (simp -implicitDefEqProofs only [go_sem,Int.reduceNegSucc,e0,q1,q2,q3,q4,e1,List.append_nil]) | (with_reducible refine aA ?_) | (with_reducible first | refine af y_2 ?_ | refine ag y_2 ?_) | ((first | refine ai (fun hg=>?_) (fun hg=>?_) | refine ax (fun hg=>?_) (fun hg=>?_) | refine ay (fun hg=>?_) (fun hg=>?_)) <;> try simp -implicitDefEqProofs only [hg,Bool.not_true,Bool.not_false]) | ((with_reducible apply And.intro);focus (first | trivial | omega | decide | (simp -implicitDefEqProofs only [maxLen];omega) | (simp [maxLen,ah,ak,an,av,aj,au,aq] <;> omega))) | fail)
 exact (hK _ _ (bO rfl)).2
end Go.aL

namespace Go.aL
open Go
theorem Py:aU Go.Proofs.Tryz.prog 6 114 (fc Go.Proofs.Tryz.prog 6 114 [(.t 10)]) [(.t 10)]:=bl (by kernel_rfl)
theorem Ud (l:List Nd) (n w:Int) (h:Sz) (op:Bool):aI Go.Proofs.Tryz.prog 6 [.rv (.sl 49 (bw l)),.rv (.int .i64 n),.rv (.int .i64 w),h.sv,.rv (.bool op)] [] [] (.rv (.bool true)):=by
 refine bt Py [.rv (.sl 49 (bw l)),.rv (.int .i64 n),.rv (.int .i64 w),h.sv,.rv (.bool op)] _ (by simp) (by simp [aO,aW,bp,aS,bg,aC.sv,Ln.sv,Nd.sv]) (fun K hK=>?_)
 have hlen:=an l
 conv in fc _ _ _ _=>reduce
 simp -implicitDefEqProofs only [Sz.sv,Sz.cells,go_sem,Int.reduceNegSucc]
 by_cases hl:l.length>25
 ·have e1:decide ((l.length:Int)>25)=true:=decide_eq_true (by omega)
  have aT:=zL;repeat' (first | (simp -implicitDefEqProofs only [go_sem,Int.reduceNegSucc,hlen,e1]) | (with_reducible refine aA ?_) | (with_reducible first | refine af aT ?_ | refine ag aT ?_) | ((first | refine ai (fun hg=>?_) (fun hg=>?_) | refine ax (fun hg=>?_) (fun hg=>?_) | refine ay (fun hg=>?_) (fun hg=>?_)) <;> try simp -implicitDefEqProofs only [hg,Bool.not_true,Bool.not_false]) | ((with_reducible apply And.intro);focus (first | trivial | omega | decide | (simp -implicitDefEqProofs only [maxLen];omega) | (simp [maxLen,ah,ak,an,av,aj,au,aq] <;> omega))) | fail)
  exact (hK _ _ (bO rfl)).2
 ·have e1:decide ((l.length:Int)>25)=false:=decide_eq_false (by omega)
  have qh:=Vi l (by omega)
  by_cases hc:kT l=0
  ·have ht:=DW hc
   have hs:=De ht
   rw [hc] at qh
   have qJ:((0:Int) != 0)=false:=rfl
   have Em:((0:Int) == 0)=true:=rfl
   have Fv:=UL l (by omega) hc
   have hi:=UH l hs (by omega) n w h
   have hw:=Us l hs (by omega) n w h op
   have ho:=zQ l ht n
   cases hout:jw l n with
   | false=>
     rw [hout] at ho
     have AI:sN l n w h=(none,false):=by simp [sN,hout]
     have LD:nU l n w h op=none:=by simp [nU,hout]
     rw [AI] at hi
     rw [LD] at hw
     have hz:=zO Di
     simp -implicitDefEqProofs only [bk,bN,Di,Fm.cells,Q4.ints,Ch.cells,Option.isSome,List.map_cons,List.map_nil,List.cons_append,List.nil_append,Sz.sv,Sz.cells] at hi hw hz
     have y_2:=zL;have bA:=qh;have bC:=Fv;have bH:=hi;have bJ:=hw;have bL:=ho;have bQ:=hz;repeat' (first | (simp -implicitDefEqProofs only [go_sem,Int.reduceNegSucc,hlen,e1,qJ,Em]) | (with_reducible refine aA ?_) | (with_reducible first | refine af y_2 ?_ | refine ag y_2 ?_) | (with_reducible first | refine af bA ?_ | refine ag bA ?_) | (with_reducible first | refine af bC ?_ | refine ag bC ?_) | (with_reducible first | refine af bH ?_ | refine ag bH ?_) | (with_reducible first | refine af bJ ?_ | refine ag bJ ?_) | (with_reducible first | refine af bL ?_ | refine ag bL ?_) | (with_reducible first | refine af bQ ?_ | refine ag bQ ?_) | ((first | refine ai (fun hg=>?_) (fun hg=>?_) | refine ax (fun hg=>?_) (fun hg=>?_) | refine ay (fun hg=>?_) (fun hg=>?_)) <;> try simp -implicitDefEqProofs only [hg,Bool.not_true,Bool.not_false]) | ((with_reducible apply And.intro);focus (first | trivial | omega | decide | (simp -implicitDefEqProofs only [maxLen];omega) | (simp [maxLen,ah,ak,an,av,aj,au,aq] <;> omega))) | fail)
     exact (hK _ _ (bO rfl)).2
   | true=>
     rw [hout] at ho
     obtain ⟨k,rfl,k0,kl⟩:=Cw hout
     have yR:=Vu l ht hs (by omega) k kl w h false
     have hrw:=Vv l ht hs (by omega) k w h op
     have AI:sN l k w h=lI l k (bu l k) w h false:=by simp [sN,hout]
     rw [AI] at hi
     have FA:=fun t=>@BU l hs k (bu l k) w h false t (fun m hm=>sO hs hm)
     have hks:=tT l k
     generalize lI l k (bu l k) w h false=r at *
     obtain ⟨r1,r2⟩:=r
     dsimp at hi yR FA
     have Fx:aI Go.Proofs.Tryz.prog 13 [.agg ((bk r1).map .rv),.agg ((bk r1).map .rv)] [] [] (.rv (.bool true)):=by
      cases r1 with
      | none=>exact UT
      | some t=>
        obtain ⟨a1,a2⟩:=FA t rfl
        have:(bu l k).length*(l.length+1)≤25*26:=Nat.mul_le_mul (by omega) (by omega)
        exact US t (by omega) (by omega)
     have Fp:aI Go.Proofs.Tryz.prog 12 [.agg ((bN (nU l k w h op)).map .rv),.agg ((bN (nU l k w h op)).map .rv)] [] [] (.rv (.bool true)):=by
      cases nU l k w h op with
      | none=>exact zO Di
      | some f=>exact zO f
     generalize nU l k w h op=z at *
     obtain ⟨u,hu,ir⟩:∃ u,bk r1=u∧u.length=9:=⟨_,rfl,by cases r1 <;> rfl⟩
     obtain ⟨v,hv,hvl⟩:∃ v,bN z=v∧v.length=25:=⟨_,rfl,by cases z <;> rfl⟩
     rw [hu] at hi yR Fx
     rw [hv] at hw hrw Fp
     have u1:(u.map SV.rv).drop 9=[]:=List.drop_of_length_le (by simp [ir])
     have u2:(u.map SV.rv).take 9=u.map SV.rv:=List.take_of_length_le (by simp [ir])
     have v1:(v.map SV.rv).drop 25=[]:=List.drop_of_length_le (by simp [hvl])
     have v2:(v.map SV.rv).take 25=v.map SV.rv:=List.take_of_length_le (by simp [hvl])
     simp -implicitDefEqProofs only [Sz.sv,Sz.cells,List.map_cons,List.map_nil] at hi hw yR hrw
     have bZ:=zL;have cm:=qh;have fO:=Fv;have gj:=hi;have gQ:=hw;have gR:=ho;have gS:=yR;have gT:=hrw;have gU:=Fx;have gV:=Fp;repeat' (first | (simp -implicitDefEqProofs only [go_sem,Int.reduceNegSucc,hlen,e1,qJ,Em,xI,ir,hvl,u1,u2,v1,v2,List.length_map,List.append_nil]) | (with_reducible refine aA ?_) | (with_reducible first | refine af bZ ?_ | refine ag bZ ?_) | (with_reducible first | refine af cm ?_ | refine ag cm ?_) | (with_reducible first | refine af fO ?_ | refine ag fO ?_) | (with_reducible first | refine af gj ?_ | refine ag gj ?_) | (with_reducible first | refine af gQ ?_ | refine ag gQ ?_) | (with_reducible first | refine af gR ?_ | refine ag gR ?_) | (with_reducible first | refine af gS ?_ | refine ag gS ?_) | (with_reducible first | refine af gT ?_ | refine ag gT ?_) | (with_reducible first | refine af gU ?_ | refine ag gU ?_) | (with_reducible first | refine af gV ?_ | refine ag gV ?_) | ((first | refine ai (fun hg=>?_) (fun hg=>?_) | refine ax (fun hg=>?_) (fun hg=>?_) | refine ay (fun hg=>?_) (fun hg=>?_)) <;> try simp -implicitDefEqProofs only [hg,Bool.not_true,Bool.not_false]) | ((with_reducible apply And.intro);focus (first | trivial | omega | decide | (simp -implicitDefEqProofs only [maxLen];omega) | (simp [maxLen,ah,ak,an,av,aj,au,aq] <;> omega))) | fail)
     exact (hK _ _ (bO rfl)).2
  ·have qJ:(kT l != 0)=true:=by simpa using hc
   have iM:=zL;have iN:=qh;repeat' (first | (simp -implicitDefEqProofs only [go_sem,Int.reduceNegSucc,hlen,e1,qJ]) | (with_reducible refine aA ?_) | (with_reducible first | refine af iM ?_ | refine ag iM ?_) | (with_reducible first | refine af iN ?_ | refine ag iN ?_) | ((first | refine ai (fun hg=>?_) (fun hg=>?_) | refine ax (fun hg=>?_) (fun hg=>?_) | refine ay (fun hg=>?_) (fun hg=>?_)) <;> try simp -implicitDefEqProofs only [hg,Bool.not_true,Bool.not_false]) | ((with_reducible apply And.intro);focus (first | trivial | omega | decide | (simp -implicitDefEqProofs only [maxLen];omega) | (simp [maxLen,ah,ak,an,av,aj,au,aq] <;> omega))) | fail)
   exact (hK _ _ (bO rfl)).2
end Go.aL
