/- Part 5 of the proof: G10, G11, F21, G13, G14, G9o, K9R, K13, F13, F22, PA. -/
import Derived.Test.YtnaoehbodmiekaaGreatPlaceAlone4
set_option linter.unusedSimpArgs false
set_option linter.unusedVariables false
set_option maxRecDepth 100000
set_option maxHeartbeats 16000000
namespace Go.aJ
open Go
theorem QE:aX Go.Proofs.Tryz.prog 11 275 (fc Go.Proofs.Tryz.prog 11 275 [(.c 10 25 true),(.c 11 9 true),(.t 12)]) [(.c 10 25 true),(.c 11 9 true),(.t 12)]:=br (by kernel_rfl)
def Ej (l:List Nd) (ins:Ed→Ao→Option La×Bool) (n:Int) (w:Int) (h:Sz) (bO:Bool):Option (Fm×La):=if (ia l n && ic w h)=true then pN l ins n w h bO else none
theorem VK (l:List Nd) (ht:fW l=true) (hb:l.length≤1000000) (n:Int) (w:Int) (h:Sz) (bO:Bool) (ins:Ed→Ao→Option La×Bool) (hr:∀ e x,(ins e x).2=true→(ins e x).1.isSome=true)
 (hI:∀ x:Ao,aL Go.Proofs.Tryz.prog 18 [.rv (.sl 49 (bp l)),.rv (.int .i64 n),.rv (.int .i64 (-1)),.rv (.int .i64 x.w),(mO (cg l n w h)).sv,.rv (.bool (cg l n w h).oe),.rv (.bool (cg l n w h).lW)] [] [] (.aO [.agg ((bG (ins (cg l n w h) x).1).map .rv),.rv (.bool (ins (cg l n w h) x).2)])) :
 aL Go.Proofs.Tryz.prog 11 [.rv (.sl 49 (bp l)),.rv (.int .i64 n),.rv (.int .i64 w),h.sv,.rv (.bool bO)] [] [] (lO (Ej l ins n w h bO)):=by
 refine bz QE [.rv (.sl 49 (bp l)),.rv (.int .i64 n),.rv (.int .i64 w),h.sv,.rv (.bool bO)] _ (by simp) (by simp [aP,bg,bu,aY,bq,aC.sv,Ln.sv,Nd.sv]) (fun K hK=>?_)
 have hm:=xk l ht n
 have hw:=Dw w h
 have rq:=an l
 unfold Ej at hK
 cases jr:ia l n with
 | false=>
   rw [jr] at hm
   simp -implicitDefEqProofs only [jr,Bool.false_and,Bool.false_eq_true,if_false] at hK
   conv in fc _ _ _ _=>reduce
   simp -implicitDefEqProofs only [Sz.sv,Sz.cells,go_sem,Int.reduceNegSucc] at hw ⊢
   have bh:=hm;have y_2:=hw;repeat' (first | (simp -implicitDefEqProofs only [go_sem,Int.reduceNegSucc]) | (with_reducible refine aA ?_) | (with_reducible first | refine ag bh ?_ | refine ah bh ?_) | (with_reducible first | refine ag y_2 ?_ | refine ah y_2 ?_) | ((first | refine aj (fun hg=>?_) (fun hg=>?_) | refine ax (fun hg=>?_) (fun hg=>?_) | refine ay (fun hg=>?_) (fun hg=>?_)) <;> try simp -implicitDefEqProofs only [hg,Bool.not_true,Bool.not_false]) | ((with_reducible apply And.intro);focus (first | trivial | omega | decide | (simp -implicitDefEqProofs only [maxLen];omega) | (simp [maxLen,af,ak,an,av,ai,au,aq] <;> omega))) | fail)
   all_goals (refine (hK _ _ ?_).2;clear hK;simp -implicitDefEqProofs only [go_sem,Int.reduceNegSucc,aS,aT,bf,bl,aH,aG,aF,cz,bG,Option.map,Option.isSome] <;>(try simp_all [-Int.not_lt,-Int.not_le,aH,aG,aF,bF,cz,bG,Option.map,Option.isSome]) <;> try omega)
 | true=>
   rw [jr] at hm
   have hin:iE l n=true:=by simp [ia] at jr;exact jr.1
   obtain ⟨k,rfl,hkn⟩:=qD hin
   cases nS:ic w h with
   | false=>
     rw [nS] at hw
     simp -implicitDefEqProofs only [jr,nS,Bool.true_and,Bool.false_eq_true,if_false] at hK
     conv in fc _ _ _ _=>reduce
     simp -implicitDefEqProofs only [Sz.sv,Sz.cells,go_sem,Int.reduceNegSucc] at hw ⊢
     have bC:=hm;have bI:=hw;repeat' (first | (simp -implicitDefEqProofs only [go_sem,Int.reduceNegSucc]) | (with_reducible refine aA ?_) | (with_reducible first | refine ag bC ?_ | refine ah bC ?_) | (with_reducible first | refine ag bI ?_ | refine ah bI ?_) | ((first | refine aj (fun hg=>?_) (fun hg=>?_) | refine ax (fun hg=>?_) (fun hg=>?_) | refine ay (fun hg=>?_) (fun hg=>?_)) <;> try simp -implicitDefEqProofs only [hg,Bool.not_true,Bool.not_false]) | ((with_reducible apply And.intro);focus (first | trivial | omega | decide | (simp -implicitDefEqProofs only [maxLen];omega) | (simp [maxLen,af,ak,an,av,ai,au,aq] <;> omega))) | fail)
     all_goals (refine (hK _ _ ?_).2;clear hK;simp -implicitDefEqProofs only [go_sem,Int.reduceNegSucc,aS,aT,bf,bl,aH,aG,aF,cz,bG,Option.map,Option.isSome] <;>(try simp_all [-Int.not_lt,-Int.not_le,aH,aG,aF,bF,cz,bG,Option.map,Option.isSome]) <;> try omega)
   | true=>
     rw [nS] at hw
     simp -implicitDefEqProofs only [jr,nS,Bool.and_self,if_true] at hK
     have hx:=iP hkn
     have iO:bJ l k=(l[k]'hkn).s:=by simp [bJ,nv hkn,hkn]
     have x1:=HD (l[k]'hkn)
     have x2:=ak (l[k]'hkn)
     have x3:=Jp (l[k]'hkn)
     rw [← iO] at x1 x3
     generalize l[k]'hkn=nd at *
     clear iO
     have zf:=Vn l ht hb k hkn w h
     have ef:(cg l k w h).flat=(!(decide ((k:Int)=0) || (bJ l k).clip) && rV (bJ l k) w && qT (bJ l k) w && ((cg l k w h).least == 0)):=rfl
     have eo:(cg l k w h).oe=(!(decide ((k:Int)=0) || (bJ l k).clip) && rV (bJ l k) w):=rfl
     have eB:(cg l k w h).lW=(!(decide ((k:Int)=0) || (bJ l k).clip) && qT (bJ l k) w && (cg l k w h).high.auto && ((cg l k w h).least == 0)):=rfl
     have eb:(cg l k w h).bE=(bJ l k).bE:=rfl
     have h1:=fun id=>uT id (nK (cg l k w h)) (by simp [nK])
     have h2:=rO (bJ l k).width w true
     have h3:=IY (bJ l k).jA (bJ l k).jz w true
     have hac:=VJ (ow l k w h bO)
     have hcl:=fun v=>Vs v (cg l k w h).least (cg l k w h).most
     have o1:=pz (cg l k w h).bA.a 0
     have o2:=pz (cg l k w h).bA.c 0
     have s1:=fun id=>uT id (jQ (cg l k w h)) (by simp [jQ])
     have s2:=fun (v:Int) id=>uT id [cq (jQ (cg l k w h)),v] (by simp)
     have qx:∀ (f:Fm) (y:RV) (p:Pl) (high:Int),f.bA.a=bk (cg l k w h).bA.a 0→f.bA.c=bk (cg l k w h).bA.c 0→aL Go.Proofs.Tryz.prog 40 [(wP l k w h).sv,.agg (f.cells.map .rv),.agg ((mo y p).map .rv),.rv (.bool (cg l k w h).lW),.rv (.int .i64 high)] [] [] (.agg ((qo (cg l k w h) (bn l k).length p high).cells.map .rv)):=
      fun f y p high a1 a2=>VN (wP l k w h) f y p (cg l k w h).lW high (cg l k w h) (bn l k).length ef rfl rfl a1 a2 rfl
     simp -implicitDefEqProofs only [wP] at zf qx
     unfold ow at hac
     unfold pN ow okB at hK
     generalize (bn l k).length=kids at *
     generalize cg l k w h=e at *
     generalize rV (bJ l k) w=TP at *
     generalize qT (bJ l k) w=BT at *
     generalize (decide ((k:Int)=0) || (bJ l k).clip)=AL at *
     generalize bJ l k=s at *
     generalize gf s.width w true=W at *
     generalize bk (gf s.jA w true) 0=LW at *
     generalize bk (gf s.jz w true) 1125899906842624=XW at *
     generalize sy s w h=b1 at *
     generalize iy s.width w true=b3 at *
     generalize iy s.jA w true=b4 at *
     generalize iy s.jz w true=b5 at *
     obtain ⟨M,D,B,H,L,X,DK,FL,OT,OB⟩:=e
     dsimp only at ef eo eB eb
     subst eb
     simp -implicitDefEqProofs only [nK,jQ,lT,List.map_cons,List.map_nil,List.length_cons,List.length_nil,Nat.reduceAdd] at h1 s1 s2 hac hK
     simp -implicitDefEqProofs only [Kn.sv,Kn.cells,Q4.iG,Sz.sv,Sz.cells,Ai.sv,Ai.cells,Ao.cells,List.map_cons,List.map_nil,List.cons_append,List.nil_append] at hw zf h2 h3 hac o1 o2 hI qx
     conv in fc _ _ _ _=>reduce
     simp -implicitDefEqProofs only [Sz.sv,Sz.cells,go_sem,Int.reduceNegSucc]
     cases hall:(b1 && fV [s.bE.d,D.d.n,D.b.n,s.bE.b] && b3 && b4 && b5) with
     | false=>
       simp -implicitDefEqProofs only [hall,Bool.false_eq_true,if_false] at hK
       have bK:=hm;have bM:=hw;have bN:=zf;have bR:=h1;have bZ:=h2;have cm:=h3;repeat' (first | (simp -implicitDefEqProofs only [go_sem,Int.reduceNegSucc,rq,hx,x1,x2,x3,cE,dZ,cF,ec,cQ,eC,de,eN,dz,eZ,dJ,fu,dK,fy,dL,fA,dM,fB,dN,fC,cG,ee,cH,eg,cI,ek,cJ,ep,cK,er,cL,eu,cM,ew,cN,ey,cO,ez,cP,eA,cR,eD,cS,eE,cT,eF,cU,eG,cV,eH,cW,eI,cX,eJ,cY,eK,cZ,eL,dc,eM,dg,eO,dh,eP,di,eR,dj,eS,dm,eT,dn,eU,dr,eV,dw,eW,dx,eX,dy,eY,dA,fe,dB,ff,cB,fh,dD,fj,dF,fk,dG,fm,dH,fo,dI,fq,dU,dO,dP,dQ,dR,dS,dV,dW,dX,dY,cD,cA,af,Q4.ints]) | (with_reducible refine aA ?_) | (with_reducible first | refine ag bK ?_ | refine ah bK ?_) | (with_reducible first | refine ag bM ?_ | refine ah bM ?_) | (with_reducible first | refine ag bN ?_ | refine ah bN ?_) | ((first | refine bS (bR _) ?_ ?_ ?_ | refine bV (bR _) ?_ ?_ ?_ | fail);(focus (simp [aR,aB] <;> fail));(focus (simp [aV,aQ] <;> fail))) | (with_reducible first | refine ag bZ ?_ | refine ah bZ ?_) | (with_reducible first | refine ag cm ?_ | refine ah cm ?_) | ((first | refine aj (fun hg=>?_) (fun hg=>?_) | refine ax (fun hg=>?_) (fun hg=>?_) | refine ay (fun hg=>?_) (fun hg=>?_)) <;> try simp -implicitDefEqProofs only [hg,Bool.not_true,Bool.not_false]) | ((with_reducible apply And.intro);focus (first | trivial | omega | decide | (simp -implicitDefEqProofs only [maxLen];omega) | (simp [maxLen,af,ak,an,av,ai,au,aq] <;> omega))) | fail)
       all_goals first | (exfalso;simp_all;done) | skip
       all_goals (refine (hK _ _ ?_).2;clear hK;simp -implicitDefEqProofs only [go_sem,Int.reduceNegSucc,aS,aT,bf,bl,aH,aG,aF,cz,bG,Option.map,Option.isSome] <;>(try simp_all [-Int.not_lt,-Int.not_le,aH,aG,aF,bF,cz,bG,Option.map,Option.isSome]) <;> try omega)
     | true=>
       simp -implicitDefEqProofs only [Bool.and_eq_true] at hall
       obtain ⟨⟨⟨⟨rfl,q2⟩,rfl⟩,rfl⟩,rfl⟩:=hall
       rw [q2] at h1
       simp -implicitDefEqProofs only [q2,Bool.and_self,if_true] at hK
       have fT:=hm;have gO:=hw;have ie:=zf;have ig:=h1;have ij:=h2;have iq:=h3;repeat' (first | (simp -implicitDefEqProofs only [go_sem,Int.reduceNegSucc,rq,hx,x1,x2,x3,cE,dZ,cF,ec,cQ,eC,de,eN,dz,eZ,dJ,fu,dK,fy,dL,fA,dM,fB,dN,fC,cG,ee,cH,eg,cI,ek,cJ,ep,cK,er,cL,eu,cM,ew,cN,ey,cO,ez,cP,eA,cR,eD,cS,eE,cT,eF,cU,eG,cV,eH,cW,eI,cX,eJ,cY,eK,cZ,eL,dc,eM,dg,eO,dh,eP,di,eR,dj,eS,dm,eT,dn,eU,dr,eV,dw,eW,dx,eX,dy,eY,dA,fe,dB,ff,cB,fh,dD,fj,dF,fk,dG,fm,dH,fo,dI,fq,dU,dO,dP,dQ,dR,dS,dV,dW,dX,dY,cD,cA,af,Q4.ints,Bool.and_self]) | (with_reducible refine aA ?_) | (with_reducible first | refine ag fT ?_ | refine ah fT ?_) | (with_reducible first | refine ag gO ?_ | refine ah gO ?_) | (with_reducible first | refine ag ie ?_ | refine ah ie ?_) | ((first | refine bS (ig _) ?_ ?_ ?_ | refine bV (ig _) ?_ ?_ ?_ | fail);(focus (simp [aR,aB] <;> fail));(focus (simp [aV,aQ] <;> fail))) | (with_reducible first | refine ag ij ?_ | refine ah ij ?_) | (with_reducible first | refine ag iq ?_ | refine ah iq ?_) | ((first | refine aj (fun hg=>?_) (fun hg=>?_) | refine ax (fun hg=>?_) (fun hg=>?_) | refine ay (fun hg=>?_) (fun hg=>?_)) <;> try simp -implicitDefEqProofs only [hg,Bool.not_true,Bool.not_false]) | ((with_reducible apply And.intro);focus (first | trivial | omega | decide | (simp -implicitDefEqProofs only [maxLen];omega) | (simp [maxLen,af,ak,an,av,ai,au,aq] <;> omega))) | fail)
       generalize nI ⟨w,M.d,W,M.b,cq [s.bE.d,D.d.n,D.b.n,s.bE.b],bO,LW,XW⟩=o at *
       cases o with
       | none=>
         simp -implicitDefEqProofs only [iJ,Option.isSome,Option.bind] at hac hK
         have ir:=hac;repeat' (first | (simp -implicitDefEqProofs only [go_sem,Int.reduceNegSucc]) | (with_reducible refine aA ?_) | (with_reducible first | refine ag ir ?_ | refine ah ir ?_) | ((first | refine aj (fun hg=>?_) (fun hg=>?_) | refine ax (fun hg=>?_) (fun hg=>?_) | refine ay (fun hg=>?_) (fun hg=>?_)) <;> try simp -implicitDefEqProofs only [hg,Bool.not_true,Bool.not_false]) | ((with_reducible apply And.intro);focus (first | trivial | omega | decide | (simp -implicitDefEqProofs only [maxLen];omega) | (simp [maxLen,af,ak,an,av,ai,au,aq] <;> omega))) | fail)
         all_goals (refine (hK _ _ ?_).2;clear hK;simp -implicitDefEqProofs only [go_sem,Int.reduceNegSucc,aS,aT,bf,bl,aH,aG,aF,cz,bG,Option.map,Option.isSome] <;>(try simp_all [-Int.not_lt,-Int.not_le,aH,aG,aF,bF,cz,bG,Option.map,Option.isSome]) <;> try omega)
       | some x=>
         have fO:=hI x
         simp -implicitDefEqProofs only [iJ,Option.isSome,Option.bind] at hac hK
         clear hI
         have hr:=hr ⟨M,D,s.bE,H,L,X,DK,FL,OT,OB⟩ x
         generalize ins ⟨M,D,s.bE,H,L,X,DK,FL,OT,OB⟩ x=r at *
         obtain ⟨r1,HH⟩:=r
         dsimp only at hr fO
         have hab:(AL=true∧OT=false∧OB=false)∨(AL=false∧BT=false∧OT=TP∧OB=false)∨(AL=false∧BT=true∧OT=TP∧OB=(H.auto && (L == 0))):=by
          rw [eo,eB]
          cases AL <;> cases BT <;> simp
         clear eo eB ef
         cases hh:H.auto with
         | true=>
           simp -implicitDefEqProofs only [mO,hh,if_true,Bool.false_eq_true,if_false,Bool.true_and,Bool.false_and] at fO hab
           have iu:=hac;have iT:=hcl H.n;repeat' (first | (simp -implicitDefEqProofs only [go_sem,Int.reduceNegSucc,cE,dZ,cF,ec,cQ,eC,de,eN,dz,eZ,dJ,fu,dK,fy,dL,fA,dM,fB,dN,fC,cG,ee,cH,eg,cI,ek,cJ,ep,cK,er,cL,eu,cM,ew,cN,ey,cO,ez,cP,eA,cR,eD,cS,eE,cT,eF,cU,eG,cV,eH,cW,eI,cX,eJ,cY,eK,cZ,eL,dc,eM,dg,eO,dh,eP,di,eR,dj,eS,dm,eT,dn,eU,dr,eV,dw,eW,dx,eX,dy,eY,dA,fe,dB,ff,cB,fh,dD,fj,dF,fk,dG,fm,dH,fo,dI,fq,dU,dO,dP,dQ,dR,dS,dV,dW,dX,dY,cD,cA,af,Q4.ints,Bool.and_self,hh]) | (with_reducible first | refine ag iu ?_ | refine ah iu ?_) | (with_reducible first | refine ag iT ?_ | refine ah iT ?_) | ((first | refine aj (fun hg=>?_) (fun hg=>?_) | refine ax (fun hg=>?_) (fun hg=>?_) | refine ay (fun hg=>?_) (fun hg=>?_)) <;> try simp -implicitDefEqProofs only [hg,Bool.not_true,Bool.not_false]) | ((with_reducible apply And.intro);focus (first | trivial | omega | decide | (simp -implicitDefEqProofs only [maxLen];omega) | (simp [maxLen,af,ak,an,av,ai,au,aq] <;> omega))) | fail)
           refine jx [(0,.rv (.sl 49 (bp l))),(1,.rv (.int .i64 k)),(10,.ptr 1 0),(11,.ptr 2 0),(13,.ptr 3 0),(14,.ptr 4 0),(23,.ptr 7 0),(24,.ptr 8 0)] _ (aU (by simp [lk])) ?_
           cases HH with
           | false=>
             simp -implicitDefEqProofs only [pQ,Bool.false_eq_true,if_false] at hK
             cases r1 with
             | none=>
               simp -implicitDefEqProofs only [bG,List.map_cons,List.map_nil] at fO
               have s3:=s2 (jR 0 L X)
               apply via
               ·intro main
                rcases hab with ⟨gG,gJ,ct⟩ | ⟨gG,gH,gJ,ct⟩ | ⟨gG,gH,gJ,ct⟩
                ·have gI:(!AL)=false:=by rw [gG];rfl
                 rw [gJ,ct] at fO
                 have iU:=fO;have ke:=hcl 0;repeat' (first | (simp -implicitDefEqProofs only [go_sem,Int.reduceNegSucc,cE,dZ,cF,ec,cQ,eC,de,eN,dz,eZ,dJ,fu,dK,fy,dL,fA,dM,fB,dN,fC,cG,ee,cH,eg,cI,ek,cJ,ep,cK,er,cL,eu,cM,ew,cN,ey,cO,ez,cP,eA,cR,eD,cS,eE,cT,eF,cU,eG,cV,eH,cW,eI,cX,eJ,cY,eK,cZ,eL,dc,eM,dg,eO,dh,eP,di,eR,dj,eS,dm,eT,dn,eU,dr,eV,dw,eW,dx,eX,dy,eY,dA,fe,dB,ff,cB,fh,dD,fj,dF,fk,dG,fm,dH,fo,dI,fq,dU,dO,dP,dQ,dR,dS,dV,dW,dX,dY,cD,cA,af,Q4.ints,Bool.and_self,hh,gI]) | (with_reducible first | refine ag iU ?_ | refine ah iU ?_) | (with_reducible first | refine ag ke ?_ | refine ah ke ?_) | ((first | refine aj (fun hg=>?_) (fun hg=>?_) | refine ax (fun hg=>?_) (fun hg=>?_) | refine ay (fun hg=>?_) (fun hg=>?_)) <;> try simp -implicitDefEqProofs only [hg,Bool.not_true,Bool.not_false]) | ((with_reducible apply And.intro);focus (first | trivial | omega | decide | (simp -implicitDefEqProofs only [maxLen];omega) | (simp [maxLen,af,ak,an,av,ai,au,aq] <;> omega))) | fail)
                 refine jx [(15,.rv (.bool false)),(10,.ptr 1 0),(11,.ptr 2 0),(13,.ptr 3 0),(14,.ptr 4 0),(23,.ptr 7 0),(26,.rv (.bool OB)),(27,.ptr 9 0),(28,.ptr 10 0)] _ (aU ?_) main
                 simp [lk,ct]
                ·have gI:(!AL)=true:=by rw [gG];rfl
                 rw [gJ,ct] at fO
                 have mW:=fO;have mX:=hcl 0;repeat' (first | (simp -implicitDefEqProofs only [go_sem,Int.reduceNegSucc,cE,dZ,cF,ec,cQ,eC,de,eN,dz,eZ,dJ,fu,dK,fy,dL,fA,dM,fB,dN,fC,cG,ee,cH,eg,cI,ek,cJ,ep,cK,er,cL,eu,cM,ew,cN,ey,cO,ez,cP,eA,cR,eD,cS,eE,cT,eF,cU,eG,cV,eH,cW,eI,cX,eJ,cY,eK,cZ,eL,dc,eM,dg,eO,dh,eP,di,eR,dj,eS,dm,eT,dn,eU,dr,eV,dw,eW,dx,eX,dy,eY,dA,fe,dB,ff,cB,fh,dD,fj,dF,fk,dG,fm,dH,fo,dI,fq,dU,dO,dP,dQ,dR,dS,dV,dW,dX,dY,cD,cA,af,Q4.ints,Bool.and_self,hh,gI,gH]) | (with_reducible first | refine ag mW ?_ | refine ah mW ?_) | (with_reducible first | refine ag mX ?_ | refine ah mX ?_) | ((first | refine aj (fun hg=>?_) (fun hg=>?_) | refine ax (fun hg=>?_) (fun hg=>?_) | refine ay (fun hg=>?_) (fun hg=>?_)) <;> try simp -implicitDefEqProofs only [hg,Bool.not_true,Bool.not_false]) | ((with_reducible apply And.intro);focus (first | trivial | omega | decide | (simp -implicitDefEqProofs only [maxLen];omega) | (simp [maxLen,af,ak,an,av,ai,au,aq] <;> omega))) | fail)
                 refine jx _ _ ?_ main
                 rw [gH]
                 refine aU ?_
                 simp [lk,ct]
                ·have gI:(!AL)=true:=by rw [gG];rfl
                 rw [gJ,ct] at fO
                 have pG:=fO;have rW:=hcl 0;repeat' (first | (simp -implicitDefEqProofs only [go_sem,Int.reduceNegSucc,cE,dZ,cF,ec,cQ,eC,de,eN,dz,eZ,dJ,fu,dK,fy,dL,fA,dM,fB,dN,fC,cG,ee,cH,eg,cI,ek,cJ,ep,cK,er,cL,eu,cM,ew,cN,ey,cO,ez,cP,eA,cR,eD,cS,eE,cT,eF,cU,eG,cV,eH,cW,eI,cX,eJ,cY,eK,cZ,eL,dc,eM,dg,eO,dh,eP,di,eR,dj,eS,dm,eT,dn,eU,dr,eV,dw,eW,dx,eX,dy,eY,dA,fe,dB,ff,cB,fh,dD,fj,dF,fk,dG,fm,dH,fo,dI,fq,dU,dO,dP,dQ,dR,dS,dV,dW,dX,dY,cD,cA,af,Q4.ints,Bool.and_self,hh,gI,gH]) | (with_reducible first | refine ag pG ?_ | refine ah pG ?_) | (with_reducible first | refine ag rW ?_ | refine ah rW ?_) | ((first | refine aj (fun hg=>?_) (fun hg=>?_) | refine ax (fun hg=>?_) (fun hg=>?_) | refine ay (fun hg=>?_) (fun hg=>?_)) <;> try simp -implicitDefEqProofs only [hg,Bool.not_true,Bool.not_false]) | ((with_reducible apply And.intro);focus (first | trivial | omega | decide | (simp -implicitDefEqProofs only [maxLen];omega) | (simp [maxLen,af,ak,an,av,ai,au,aq] <;> omega))) | fail)
                 refine jx _ _ ?_ main
                 rw [gH]
                 refine aU ?_
                 simp [lk,ct]
               ·have rX:=o1;have rY:=o2;repeat' (first | (simp -implicitDefEqProofs only [go_sem,Int.reduceNegSucc,cE,dZ,cF,ec,cQ,eC,de,eN,dz,eZ,dJ,fu,dK,fy,dL,fA,dM,fB,dN,fC,cG,ee,cH,eg,cI,ek,cJ,ep,cK,er,cL,eu,cM,ew,cN,ey,cO,ez,cP,eA,cR,eD,cS,eE,cT,eF,cU,eG,cV,eH,cW,eI,cX,eJ,cY,eK,cZ,eL,dc,eM,dg,eO,dh,eP,di,eR,dj,eS,dm,eT,dn,eU,dr,eV,dw,eW,dx,eX,dy,eY,dA,fe,dB,ff,cB,fh,dD,fj,dF,fk,dG,fm,dH,fo,dI,fq,dU,dO,dP,dQ,dR,dS,dV,dW,dX,dY,cD,cA,af,Q4.ints,Bool.and_self,hh]) | (with_reducible refine aA ?_) | (with_reducible first | refine ag rX ?_ | refine ah rX ?_) | (with_reducible first | refine ag rY ?_ | refine ah rY ?_) | ((first | refine aj (fun hg=>?_) (fun hg=>?_) | refine ax (fun hg=>?_) (fun hg=>?_) | refine ay (fun hg=>?_) (fun hg=>?_)) <;> try simp -implicitDefEqProofs only [hg,Bool.not_true,Bool.not_false]) | ((with_reducible apply And.intro);focus (first | trivial | omega | decide | (simp -implicitDefEqProofs only [maxLen];omega) | (simp [maxLen,af,ak,an,av,ai,au,aq] <;> omega))) | fail)
                refine kK 5 ?_
                have rZ:=s1;have sg:=s3;repeat' (first | (simp -implicitDefEqProofs only [go_sem,Int.reduceNegSucc,kO,kP,kQ,kR,kS,kT,kI,Int.reduceLT,decide_true,decide_false,Int.reduceToNat,Nat.reduceMul,cE,dZ,cF,ec,cQ,eC,de,eN,dz,eZ,dJ,fu,dK,fy,dL,fA,dM,fB,dN,fC,cG,ee,cH,eg,cI,ek,cJ,ep,cK,er,cL,eu,cM,ew,cN,ey,cO,ez,cP,eA,cR,eD,cS,eE,cT,eF,cU,eG,cV,eH,cW,eI,cX,eJ,cY,eK,cZ,eL,dc,eM,dg,eO,dh,eP,di,eR,dj,eS,dm,eT,dn,eU,dr,eV,dw,eW,dx,eX,dy,eY,dA,fe,dB,ff,cB,fh,dD,fj,dF,fk,dG,fm,dH,fo,dI,fq,dU,dO,dP,dQ,dR,dS,dV,dW,dX,dY,cD,cA,af,Q4.ints]) | (with_reducible refine aA ?_) | (with_reducible show G _ _ (It.l _ _::_) _ _ _;refine kJ ?_) | ((first | refine bS (rZ _) ?_ ?_ ?_ | refine bV (rZ _) ?_ ?_ ?_ | fail);(focus (simp [aR,aB] <;> fail));(focus (simp [aV,aQ] <;> fail))) | ((first | refine bS (sg _) ?_ ?_ ?_ | refine bV (sg _) ?_ ?_ ?_ | fail);(focus (simp [aR,aB] <;> fail));(focus (simp [aV,aQ] <;> fail))) | ((first | refine aj (fun hg=>?_) (fun hg=>?_) | refine ax (fun hg=>?_) (fun hg=>?_) | refine ay (fun hg=>?_) (fun hg=>?_)) <;> try simp -implicitDefEqProofs only [hg,Bool.not_true,Bool.not_false]) | ((with_reducible apply And.intro);focus (first | trivial | omega | decide | (simp -implicitDefEqProofs only [maxLen];omega) | (simp [maxLen,af,ak,an,av,ai,au,aq] <;> omega))) | fail)
                all_goals (refine (hK _ _ ?_).2;clear hK;simp -implicitDefEqProofs only [go_sem,Int.reduceNegSucc,aS,aT,bf,bl,aH,aG,aF,cz,bG,Option.map,Option.isSome] <;>(try simp_all [-Int.not_lt,-Int.not_le,aH,aG,aF,bF,cz,bG,Option.map,Option.isSome]) <;> try omega)
             | some t=>
               simp -implicitDefEqProofs only [bG,Pl.cells,List.map_cons,List.map_nil,List.cons_append,List.nil_append] at fO
               have s3:=s2 (jR t.high L X)
               apply via
               ·intro main
                rcases hab with ⟨gG,gJ,ct⟩ | ⟨gG,gH,gJ,ct⟩ | ⟨gG,gH,gJ,ct⟩
                ·have gI:(!AL)=false:=by rw [gG];rfl
                 rw [gJ,ct] at fO
                 have xF:=fO;have xG:=hcl t.high;repeat' (first | (simp -implicitDefEqProofs only [go_sem,Int.reduceNegSucc,cE,dZ,cF,ec,cQ,eC,de,eN,dz,eZ,dJ,fu,dK,fy,dL,fA,dM,fB,dN,fC,cG,ee,cH,eg,cI,ek,cJ,ep,cK,er,cL,eu,cM,ew,cN,ey,cO,ez,cP,eA,cR,eD,cS,eE,cT,eF,cU,eG,cV,eH,cW,eI,cX,eJ,cY,eK,cZ,eL,dc,eM,dg,eO,dh,eP,di,eR,dj,eS,dm,eT,dn,eU,dr,eV,dw,eW,dx,eX,dy,eY,dA,fe,dB,ff,cB,fh,dD,fj,dF,fk,dG,fm,dH,fo,dI,fq,dU,dO,dP,dQ,dR,dS,dV,dW,dX,dY,cD,cA,af,Q4.ints,Bool.and_self,hh,gI]) | (with_reducible first | refine ag xF ?_ | refine ah xF ?_) | (with_reducible first | refine ag xG ?_ | refine ah xG ?_) | ((first | refine aj (fun hg=>?_) (fun hg=>?_) | refine ax (fun hg=>?_) (fun hg=>?_) | refine ay (fun hg=>?_) (fun hg=>?_)) <;> try simp -implicitDefEqProofs only [hg,Bool.not_true,Bool.not_false]) | ((with_reducible apply And.intro);focus (first | trivial | omega | decide | (simp -implicitDefEqProofs only [maxLen];omega) | (simp [maxLen,af,ak,an,av,ai,au,aq] <;> omega))) | fail)
                 refine jx [(15,.rv (.bool false)),(10,.ptr 1 0),(11,.ptr 2 0),(13,.ptr 3 0),(14,.ptr 4 0),(23,.ptr 7 0),(26,.rv (.bool OB)),(27,.ptr 9 0),(28,.ptr 10 0)] _ (aU ?_) main
                 simp [lk,ct]
                ·have gI:(!AL)=true:=by rw [gG];rfl
                 rw [gJ,ct] at fO
                 have xH:=fO;have xI:=hcl t.high;repeat' (first | (simp -implicitDefEqProofs only [go_sem,Int.reduceNegSucc,cE,dZ,cF,ec,cQ,eC,de,eN,dz,eZ,dJ,fu,dK,fy,dL,fA,dM,fB,dN,fC,cG,ee,cH,eg,cI,ek,cJ,ep,cK,er,cL,eu,cM,ew,cN,ey,cO,ez,cP,eA,cR,eD,cS,eE,cT,eF,cU,eG,cV,eH,cW,eI,cX,eJ,cY,eK,cZ,eL,dc,eM,dg,eO,dh,eP,di,eR,dj,eS,dm,eT,dn,eU,dr,eV,dw,eW,dx,eX,dy,eY,dA,fe,dB,ff,cB,fh,dD,fj,dF,fk,dG,fm,dH,fo,dI,fq,dU,dO,dP,dQ,dR,dS,dV,dW,dX,dY,cD,cA,af,Q4.ints,Bool.and_self,hh,gI,gH]) | (with_reducible first | refine ag xH ?_ | refine ah xH ?_) | (with_reducible first | refine ag xI ?_ | refine ah xI ?_) | ((first | refine aj (fun hg=>?_) (fun hg=>?_) | refine ax (fun hg=>?_) (fun hg=>?_) | refine ay (fun hg=>?_) (fun hg=>?_)) <;> try simp -implicitDefEqProofs only [hg,Bool.not_true,Bool.not_false]) | ((with_reducible apply And.intro);focus (first | trivial | omega | decide | (simp -implicitDefEqProofs only [maxLen];omega) | (simp [maxLen,af,ak,an,av,ai,au,aq] <;> omega))) | fail)
                 refine jx _ _ ?_ main
                 rw [gH]
                 refine aU ?_
                 simp [lk,ct]
                ·have gI:(!AL)=true:=by rw [gG];rfl
                 rw [gJ,ct] at fO
                 have xJ:=fO;have xK:=hcl t.high;repeat' (first | (simp -implicitDefEqProofs only [go_sem,Int.reduceNegSucc,cE,dZ,cF,ec,cQ,eC,de,eN,dz,eZ,dJ,fu,dK,fy,dL,fA,dM,fB,dN,fC,cG,ee,cH,eg,cI,ek,cJ,ep,cK,er,cL,eu,cM,ew,cN,ey,cO,ez,cP,eA,cR,eD,cS,eE,cT,eF,cU,eG,cV,eH,cW,eI,cX,eJ,cY,eK,cZ,eL,dc,eM,dg,eO,dh,eP,di,eR,dj,eS,dm,eT,dn,eU,dr,eV,dw,eW,dx,eX,dy,eY,dA,fe,dB,ff,cB,fh,dD,fj,dF,fk,dG,fm,dH,fo,dI,fq,dU,dO,dP,dQ,dR,dS,dV,dW,dX,dY,cD,cA,af,Q4.ints,Bool.and_self,hh,gI,gH]) | (with_reducible first | refine ag xJ ?_ | refine ah xJ ?_) | (with_reducible first | refine ag xK ?_ | refine ah xK ?_) | ((first | refine aj (fun hg=>?_) (fun hg=>?_) | refine ax (fun hg=>?_) (fun hg=>?_) | refine ay (fun hg=>?_) (fun hg=>?_)) <;> try simp -implicitDefEqProofs only [hg,Bool.not_true,Bool.not_false]) | ((with_reducible apply And.intro);focus (first | trivial | omega | decide | (simp -implicitDefEqProofs only [maxLen];omega) | (simp [maxLen,af,ak,an,av,ai,au,aq] <;> omega))) | fail)
                 refine jx _ _ ?_ main
                 rw [gH]
                 refine aU ?_
                 simp [lk,ct]
               ·have xL:=o1;have xM:=o2;repeat' (first | (simp -implicitDefEqProofs only [go_sem,Int.reduceNegSucc,cE,dZ,cF,ec,cQ,eC,de,eN,dz,eZ,dJ,fu,dK,fy,dL,fA,dM,fB,dN,fC,cG,ee,cH,eg,cI,ek,cJ,ep,cK,er,cL,eu,cM,ew,cN,ey,cO,ez,cP,eA,cR,eD,cS,eE,cT,eF,cU,eG,cV,eH,cW,eI,cX,eJ,cY,eK,cZ,eL,dc,eM,dg,eO,dh,eP,di,eR,dj,eS,dm,eT,dn,eU,dr,eV,dw,eW,dx,eX,dy,eY,dA,fe,dB,ff,cB,fh,dD,fj,dF,fk,dG,fm,dH,fo,dI,fq,dU,dO,dP,dQ,dR,dS,dV,dW,dX,dY,cD,cA,af,Q4.ints,Bool.and_self,hh]) | (with_reducible refine aA ?_) | (with_reducible first | refine ag xL ?_ | refine ah xL ?_) | (with_reducible first | refine ag xM ?_ | refine ah xM ?_) | ((first | refine aj (fun hg=>?_) (fun hg=>?_) | refine ax (fun hg=>?_) (fun hg=>?_) | refine ay (fun hg=>?_) (fun hg=>?_)) <;> try simp -implicitDefEqProofs only [hg,Bool.not_true,Bool.not_false]) | ((with_reducible apply And.intro);focus (first | trivial | omega | decide | (simp -implicitDefEqProofs only [maxLen];omega) | (simp [maxLen,af,ak,an,av,ai,au,aq] <;> omega))) | fail)
                refine kK 5 ?_
                have xN:=s1;have xO:=s3;repeat' (first | (simp -implicitDefEqProofs only [go_sem,Int.reduceNegSucc,kO,kP,kQ,kR,kS,kT,kI,Int.reduceLT,decide_true,decide_false,Int.reduceToNat,Nat.reduceMul,cE,dZ,cF,ec,cQ,eC,de,eN,dz,eZ,dJ,fu,dK,fy,dL,fA,dM,fB,dN,fC,cG,ee,cH,eg,cI,ek,cJ,ep,cK,er,cL,eu,cM,ew,cN,ey,cO,ez,cP,eA,cR,eD,cS,eE,cT,eF,cU,eG,cV,eH,cW,eI,cX,eJ,cY,eK,cZ,eL,dc,eM,dg,eO,dh,eP,di,eR,dj,eS,dm,eT,dn,eU,dr,eV,dw,eW,dx,eX,dy,eY,dA,fe,dB,ff,cB,fh,dD,fj,dF,fk,dG,fm,dH,fo,dI,fq,dU,dO,dP,dQ,dR,dS,dV,dW,dX,dY,cD,cA,af,Q4.ints]) | (with_reducible refine aA ?_) | (with_reducible show G _ _ (It.l _ _::_) _ _ _;refine kJ ?_) | ((first | refine bS (xN _) ?_ ?_ ?_ | refine bV (xN _) ?_ ?_ ?_ | fail);(focus (simp [aR,aB] <;> fail));(focus (simp [aV,aQ] <;> fail))) | ((first | refine bS (xO _) ?_ ?_ ?_ | refine bV (xO _) ?_ ?_ ?_ | fail);(focus (simp [aR,aB] <;> fail));(focus (simp [aV,aQ] <;> fail))) | ((first | refine aj (fun hg=>?_) (fun hg=>?_) | refine ax (fun hg=>?_) (fun hg=>?_) | refine ay (fun hg=>?_) (fun hg=>?_)) <;> try simp -implicitDefEqProofs only [hg,Bool.not_true,Bool.not_false]) | ((with_reducible apply And.intro);focus (first | trivial | omega | decide | (simp -implicitDefEqProofs only [maxLen];omega) | (simp [maxLen,af,ak,an,av,ai,au,aq] <;> omega))) | fail)
                all_goals (refine (hK _ _ ?_).2;clear hK;simp -implicitDefEqProofs only [go_sem,Int.reduceNegSucc,aS,aT,bf,bl,aH,aG,aF,cz,bG,Option.map,Option.isSome] <;>(try simp_all [-Int.not_lt,-Int.not_le,aH,aG,aF,bF,cz,bG,Option.map,Option.isSome]) <;> try omega)
           | true=>
             obtain ⟨t,rfl⟩:=Option.isSome_iff_exists.1 (hr rfl)
             simp -implicitDefEqProofs only [pQ,pW,uj,jQ,hh,Bool.false_eq_true,if_false,if_true,Option.bind,Bool.not_true,Bool.not_false] at hK
             simp -implicitDefEqProofs only [bG,Pl.cells,List.map_cons,List.map_nil,List.cons_append,List.nil_append] at fO
             have s3:=s2 (jR t.high L X)
             have mc:=qx ⟨x.l,0,x.w,jR t.high L X,⟨bk M.a 0,x.r,bk M.c 0,x.l⟩,⟨D.a.n,D.b.n,D.c.n,D.d.n⟩,s.bE,false,⟨⟨0,0⟩,⟨0,0⟩,⟨0,0⟩,false,0⟩⟩ (.sl 1 (aN t.ys)) t.p (cq [cq [s.bE.a,D.a.n,D.c.n,s.bE.c],jR t.high L X]) rfl rfl
             simp -implicitDefEqProofs only [Fm.cells,Q4.ints,Ch.cells,mo,Pl.cells,List.map_cons,List.map_nil,List.cons_append,List.nil_append,hh] at mc
             generalize qo _ kids t.p (cq [cq [s.bE.a,D.a.n,D.c.n,s.bE.c],jR t.high L X])=C at *
             apply via
             ·intro main
              rcases hab with ⟨gG,gJ,ct⟩ | ⟨gG,gH,gJ,ct⟩ | ⟨gG,gH,gJ,ct⟩
              ·have gI:(!AL)=false:=by rw [gG];rfl
               rw [gJ,ct] at fO
               have xP:=fO;have JM:=hcl t.high;repeat' (first | (simp -implicitDefEqProofs only [go_sem,Int.reduceNegSucc,cE,dZ,cF,ec,cQ,eC,de,eN,dz,eZ,dJ,fu,dK,fy,dL,fA,dM,fB,dN,fC,cG,ee,cH,eg,cI,ek,cJ,ep,cK,er,cL,eu,cM,ew,cN,ey,cO,ez,cP,eA,cR,eD,cS,eE,cT,eF,cU,eG,cV,eH,cW,eI,cX,eJ,cY,eK,cZ,eL,dc,eM,dg,eO,dh,eP,di,eR,dj,eS,dm,eT,dn,eU,dr,eV,dw,eW,dx,eX,dy,eY,dA,fe,dB,ff,cB,fh,dD,fj,dF,fk,dG,fm,dH,fo,dI,fq,dU,dO,dP,dQ,dR,dS,dV,dW,dX,dY,cD,cA,af,Q4.ints,Bool.and_self,hh,gI]) | (with_reducible first | refine ag xP ?_ | refine ah xP ?_) | (with_reducible first | refine ag JM ?_ | refine ah JM ?_) | ((first | refine aj (fun hg=>?_) (fun hg=>?_) | refine ax (fun hg=>?_) (fun hg=>?_) | refine ay (fun hg=>?_) (fun hg=>?_)) <;> try simp -implicitDefEqProofs only [hg,Bool.not_true,Bool.not_false]) | ((with_reducible apply And.intro);focus (first | trivial | omega | decide | (simp -implicitDefEqProofs only [maxLen];omega) | (simp [maxLen,af,ak,an,av,ai,au,aq] <;> omega))) | fail)
               refine jx [(15,.rv (.bool true)),(10,.ptr 1 0),(11,.ptr 2 0),(13,.ptr 3 0),(14,.ptr 4 0),(23,.ptr 7 0),(26,.rv (.bool OB)),(27,.ptr 9 0),(28,.ptr 10 0)] _ (aU ?_) main
               simp [lk,ct]
              ·have gI:(!AL)=true:=by rw [gG];rfl
               rw [gJ,ct] at fO
               have JN:=fO;have JO:=hcl t.high;repeat' (first | (simp -implicitDefEqProofs only [go_sem,Int.reduceNegSucc,cE,dZ,cF,ec,cQ,eC,de,eN,dz,eZ,dJ,fu,dK,fy,dL,fA,dM,fB,dN,fC,cG,ee,cH,eg,cI,ek,cJ,ep,cK,er,cL,eu,cM,ew,cN,ey,cO,ez,cP,eA,cR,eD,cS,eE,cT,eF,cU,eG,cV,eH,cW,eI,cX,eJ,cY,eK,cZ,eL,dc,eM,dg,eO,dh,eP,di,eR,dj,eS,dm,eT,dn,eU,dr,eV,dw,eW,dx,eX,dy,eY,dA,fe,dB,ff,cB,fh,dD,fj,dF,fk,dG,fm,dH,fo,dI,fq,dU,dO,dP,dQ,dR,dS,dV,dW,dX,dY,cD,cA,af,Q4.ints,Bool.and_self,hh,gI,gH]) | (with_reducible first | refine ag JN ?_ | refine ah JN ?_) | (with_reducible first | refine ag JO ?_ | refine ah JO ?_) | ((first | refine aj (fun hg=>?_) (fun hg=>?_) | refine ax (fun hg=>?_) (fun hg=>?_) | refine ay (fun hg=>?_) (fun hg=>?_)) <;> try simp -implicitDefEqProofs only [hg,Bool.not_true,Bool.not_false]) | ((with_reducible apply And.intro);focus (first | trivial | omega | decide | (simp -implicitDefEqProofs only [maxLen];omega) | (simp [maxLen,af,ak,an,av,ai,au,aq] <;> omega))) | fail)
               refine jx _ _ ?_ main
               rw [gH]
               refine aU ?_
               simp [lk,ct]
              ·have gI:(!AL)=true:=by rw [gG];rfl
               rw [gJ,ct] at fO
               have JP:=fO;have JQ:=hcl t.high;repeat' (first | (simp -implicitDefEqProofs only [go_sem,Int.reduceNegSucc,cE,dZ,cF,ec,cQ,eC,de,eN,dz,eZ,dJ,fu,dK,fy,dL,fA,dM,fB,dN,fC,cG,ee,cH,eg,cI,ek,cJ,ep,cK,er,cL,eu,cM,ew,cN,ey,cO,ez,cP,eA,cR,eD,cS,eE,cT,eF,cU,eG,cV,eH,cW,eI,cX,eJ,cY,eK,cZ,eL,dc,eM,dg,eO,dh,eP,di,eR,dj,eS,dm,eT,dn,eU,dr,eV,dw,eW,dx,eX,dy,eY,dA,fe,dB,ff,cB,fh,dD,fj,dF,fk,dG,fm,dH,fo,dI,fq,dU,dO,dP,dQ,dR,dS,dV,dW,dX,dY,cD,cA,af,Q4.ints,Bool.and_self,hh,gI,gH]) | (with_reducible first | refine ag JP ?_ | refine ah JP ?_) | (with_reducible first | refine ag JQ ?_ | refine ah JQ ?_) | ((first | refine aj (fun hg=>?_) (fun hg=>?_) | refine ax (fun hg=>?_) (fun hg=>?_) | refine ay (fun hg=>?_) (fun hg=>?_)) <;> try simp -implicitDefEqProofs only [hg,Bool.not_true,Bool.not_false]) | ((with_reducible apply And.intro);focus (first | trivial | omega | decide | (simp -implicitDefEqProofs only [maxLen];omega) | (simp [maxLen,af,ak,an,av,ai,au,aq] <;> omega))) | fail)
               refine jx _ _ ?_ main
               rw [gH]
               refine aU ?_
               simp [lk,ct]
             ·have JR:=o1;have JS:=o2;repeat' (first | (simp -implicitDefEqProofs only [go_sem,Int.reduceNegSucc,cE,dZ,cF,ec,cQ,eC,de,eN,dz,eZ,dJ,fu,dK,fy,dL,fA,dM,fB,dN,fC,cG,ee,cH,eg,cI,ek,cJ,ep,cK,er,cL,eu,cM,ew,cN,ey,cO,ez,cP,eA,cR,eD,cS,eE,cT,eF,cU,eG,cV,eH,cW,eI,cX,eJ,cY,eK,cZ,eL,dc,eM,dg,eO,dh,eP,di,eR,dj,eS,dm,eT,dn,eU,dr,eV,dw,eW,dx,eX,dy,eY,dA,fe,dB,ff,cB,fh,dD,fj,dF,fk,dG,fm,dH,fo,dI,fq,dU,dO,dP,dQ,dR,dS,dV,dW,dX,dY,cD,cA,af,Q4.ints,Bool.and_self,hh]) | (with_reducible refine aA ?_) | (with_reducible first | refine ag JR ?_ | refine ah JR ?_) | (with_reducible first | refine ag JS ?_ | refine ah JS ?_) | ((first | refine aj (fun hg=>?_) (fun hg=>?_) | refine ax (fun hg=>?_) (fun hg=>?_) | refine ay (fun hg=>?_) (fun hg=>?_)) <;> try simp -implicitDefEqProofs only [hg,Bool.not_true,Bool.not_false]) | ((with_reducible apply And.intro);focus (first | trivial | omega | decide | (simp -implicitDefEqProofs only [maxLen];omega) | (simp [maxLen,af,ak,an,av,ai,au,aq] <;> omega))) | fail)
              refine kK 5 ?_
              cases k1:fV [s.bE.a,D.a.n,D.c.n,s.bE.c] <;> cases k2:fV [cq [s.bE.a,D.a.n,D.c.n,s.bE.c],jR t.high L X] <;> rw [k1] at s1 <;> rw [k2] at s3 <;> simp -implicitDefEqProofs only [k1,k2,and_self,and_true,true_and,and_false,false_and,Bool.false_eq_true,if_true,if_false] at hK
              all_goals ((have JT:=s1;have JU:=s3;have JV:=mc;repeat' (first | (simp -implicitDefEqProofs only [go_sem,Int.reduceNegSucc,kO,kP,kQ,kR,kS,kT,kI,Int.reduceLT,decide_true,decide_false,Int.reduceToNat,Nat.reduceMul,cE,dZ,cF,ec,cQ,eC,de,eN,dz,eZ,dJ,fu,dK,fy,dL,fA,dM,fB,dN,fC,cG,ee,cH,eg,cI,ek,cJ,ep,cK,er,cL,eu,cM,ew,cN,ey,cO,ez,cP,eA,cR,eD,cS,eE,cT,eF,cU,eG,cV,eH,cW,eI,cX,eJ,cY,eK,cZ,eL,dc,eM,dg,eO,dh,eP,di,eR,dj,eS,dm,eT,dn,eU,dr,eV,dw,eW,dx,eX,dy,eY,dA,fe,dB,ff,cB,fh,dD,fj,dF,fk,dG,fm,dH,fo,dI,fq,dU,dO,dP,dQ,dR,dS,dV,dW,dX,dY,cD,cA,af,Q4.ints]) | (with_reducible refine aA ?_) | (with_reducible show G _ _ (It.l _ _::_) _ _ _;refine kJ ?_) | ((first | refine bS (JT _) ?_ ?_ ?_ | refine bV (JT _) ?_ ?_ ?_ | fail);(focus (simp [aR,aB] <;> fail));(focus (simp [aV,aQ] <;> fail))) | ((first | refine bS (JU _) ?_ ?_ ?_ | refine bV (JU _) ?_ ?_ ?_ | fail);(focus (simp [aR,aB] <;> fail));(focus (simp [aV,aQ] <;> fail))) | (with_reducible first | refine ag JV ?_ | refine ah JV ?_) | ((first | refine aj (fun hg=>?_) (fun hg=>?_) | refine ax (fun hg=>?_) (fun hg=>?_) | refine ay (fun hg=>?_) (fun hg=>?_)) <;> try simp -implicitDefEqProofs only [hg,Bool.not_true,Bool.not_false]) | ((with_reducible apply And.intro);focus (first | trivial | omega | decide | (simp -implicitDefEqProofs only [maxLen];omega) | (simp [maxLen,af,ak,an,av,ai,au,aq] <;> omega))) | fail)))
              all_goals (refine (hK _ _ ?_).2;clear hK;simp -implicitDefEqProofs only [go_sem,Int.reduceNegSucc,aS,aT,bf,bl,aH,aG,aF,cz,bG,Fm.cells,Q4.ints,Ch.cells,Pl.cells,Option.map,Option.isSome] <;>(try simp_all [-Int.not_lt,-Int.not_le,aH,aG,aF,bF,cz,bG,Fm.cells,Q4.ints,Ch.cells,Pl.cells,Option.map,Option.isSome]) <;> try omega)
         | false=>
           simp -implicitDefEqProofs only [mO,hh,if_true,Bool.false_eq_true,if_false,Bool.true_and,Bool.false_and] at fO hab
           have JW:=hac;have JX:=hcl H.n;repeat' (first | (simp -implicitDefEqProofs only [go_sem,Int.reduceNegSucc,cE,dZ,cF,ec,cQ,eC,de,eN,dz,eZ,dJ,fu,dK,fy,dL,fA,dM,fB,dN,fC,cG,ee,cH,eg,cI,ek,cJ,ep,cK,er,cL,eu,cM,ew,cN,ey,cO,ez,cP,eA,cR,eD,cS,eE,cT,eF,cU,eG,cV,eH,cW,eI,cX,eJ,cY,eK,cZ,eL,dc,eM,dg,eO,dh,eP,di,eR,dj,eS,dm,eT,dn,eU,dr,eV,dw,eW,dx,eX,dy,eY,dA,fe,dB,ff,cB,fh,dD,fj,dF,fk,dG,fm,dH,fo,dI,fq,dU,dO,dP,dQ,dR,dS,dV,dW,dX,dY,cD,cA,af,Q4.ints,Bool.and_self,hh]) | (with_reducible first | refine ag JW ?_ | refine ah JW ?_) | (with_reducible first | refine ag JX ?_ | refine ah JX ?_) | ((first | refine aj (fun hg=>?_) (fun hg=>?_) | refine ax (fun hg=>?_) (fun hg=>?_) | refine ay (fun hg=>?_) (fun hg=>?_)) <;> try simp -implicitDefEqProofs only [hg,Bool.not_true,Bool.not_false]) | ((with_reducible apply And.intro);focus (first | trivial | omega | decide | (simp -implicitDefEqProofs only [maxLen];omega) | (simp [maxLen,af,ak,an,av,ai,au,aq] <;> omega))) | fail)
           refine jx [(0,.rv (.sl 49 (bp l))),(1,.rv (.int .i64 k)),(10,.ptr 1 0),(11,.ptr 2 0),(13,.ptr 3 0),(14,.ptr 4 0),(23,.ptr 7 0),(24,.ptr 8 0)] _ (aU (by simp [lk])) ?_
           cases HH with
           | false=>
             simp -implicitDefEqProofs only [pQ,Bool.false_eq_true,if_false] at hK
             cases r1 with
             | none=>
               simp -implicitDefEqProofs only [bG,List.map_cons,List.map_nil] at fO
               have s3:=s2 (jR H.n L X)
               apply via
               ·intro main
                rcases hab with ⟨gG,gJ,ct⟩ | ⟨gG,gH,gJ,ct⟩ | ⟨gG,gH,gJ,ct⟩
                ·have gI:(!AL)=false:=by rw [gG];rfl
                 rw [gJ,ct] at fO
                 have JY:=fO;repeat' (first | (simp -implicitDefEqProofs only [go_sem,Int.reduceNegSucc,cE,dZ,cF,ec,cQ,eC,de,eN,dz,eZ,dJ,fu,dK,fy,dL,fA,dM,fB,dN,fC,cG,ee,cH,eg,cI,ek,cJ,ep,cK,er,cL,eu,cM,ew,cN,ey,cO,ez,cP,eA,cR,eD,cS,eE,cT,eF,cU,eG,cV,eH,cW,eI,cX,eJ,cY,eK,cZ,eL,dc,eM,dg,eO,dh,eP,di,eR,dj,eS,dm,eT,dn,eU,dr,eV,dw,eW,dx,eX,dy,eY,dA,fe,dB,ff,cB,fh,dD,fj,dF,fk,dG,fm,dH,fo,dI,fq,dU,dO,dP,dQ,dR,dS,dV,dW,dX,dY,cD,cA,af,Q4.ints,Bool.and_self,hh,gI]) | (with_reducible first | refine ag JY ?_ | refine ah JY ?_) | ((first | refine aj (fun hg=>?_) (fun hg=>?_) | refine ax (fun hg=>?_) (fun hg=>?_) | refine ay (fun hg=>?_) (fun hg=>?_)) <;> try simp -implicitDefEqProofs only [hg,Bool.not_true,Bool.not_false]) | ((with_reducible apply And.intro);focus (first | trivial | omega | decide | (simp -implicitDefEqProofs only [maxLen];omega) | (simp [maxLen,af,ak,an,av,ai,au,aq] <;> omega))) | fail)
                 refine jx [(15,.rv (.bool false)),(10,.ptr 1 0),(11,.ptr 2 0),(13,.ptr 3 0),(14,.ptr 4 0),(23,.ptr 7 0),(26,.rv (.bool OB)),(27,.ptr 9 0),(28,.ptr 10 0)] _ (aU ?_) main
                 simp [lk,ct]
                ·have gI:(!AL)=true:=by rw [gG];rfl
                 rw [gJ,ct] at fO
                 have JZ:=fO;repeat' (first | (simp -implicitDefEqProofs only [go_sem,Int.reduceNegSucc,cE,dZ,cF,ec,cQ,eC,de,eN,dz,eZ,dJ,fu,dK,fy,dL,fA,dM,fB,dN,fC,cG,ee,cH,eg,cI,ek,cJ,ep,cK,er,cL,eu,cM,ew,cN,ey,cO,ez,cP,eA,cR,eD,cS,eE,cT,eF,cU,eG,cV,eH,cW,eI,cX,eJ,cY,eK,cZ,eL,dc,eM,dg,eO,dh,eP,di,eR,dj,eS,dm,eT,dn,eU,dr,eV,dw,eW,dx,eX,dy,eY,dA,fe,dB,ff,cB,fh,dD,fj,dF,fk,dG,fm,dH,fo,dI,fq,dU,dO,dP,dQ,dR,dS,dV,dW,dX,dY,cD,cA,af,Q4.ints,Bool.and_self,hh,gI,gH]) | (with_reducible first | refine ag JZ ?_ | refine ah JZ ?_) | ((first | refine aj (fun hg=>?_) (fun hg=>?_) | refine ax (fun hg=>?_) (fun hg=>?_) | refine ay (fun hg=>?_) (fun hg=>?_)) <;> try simp -implicitDefEqProofs only [hg,Bool.not_true,Bool.not_false]) | ((with_reducible apply And.intro);focus (first | trivial | omega | decide | (simp -implicitDefEqProofs only [maxLen];omega) | (simp [maxLen,af,ak,an,av,ai,au,aq] <;> omega))) | fail)
                 refine jx _ _ ?_ main
                 rw [gH]
                 refine aU ?_
                 simp [lk,ct]
                ·have gI:(!AL)=true:=by rw [gG];rfl
                 rw [gJ,ct] at fO
                 have Ka:=fO;repeat' (first | (simp -implicitDefEqProofs only [go_sem,Int.reduceNegSucc,cE,dZ,cF,ec,cQ,eC,de,eN,dz,eZ,dJ,fu,dK,fy,dL,fA,dM,fB,dN,fC,cG,ee,cH,eg,cI,ek,cJ,ep,cK,er,cL,eu,cM,ew,cN,ey,cO,ez,cP,eA,cR,eD,cS,eE,cT,eF,cU,eG,cV,eH,cW,eI,cX,eJ,cY,eK,cZ,eL,dc,eM,dg,eO,dh,eP,di,eR,dj,eS,dm,eT,dn,eU,dr,eV,dw,eW,dx,eX,dy,eY,dA,fe,dB,ff,cB,fh,dD,fj,dF,fk,dG,fm,dH,fo,dI,fq,dU,dO,dP,dQ,dR,dS,dV,dW,dX,dY,cD,cA,af,Q4.ints,Bool.and_self,hh,gI,gH]) | (with_reducible first | refine ag Ka ?_ | refine ah Ka ?_) | ((first | refine aj (fun hg=>?_) (fun hg=>?_) | refine ax (fun hg=>?_) (fun hg=>?_) | refine ay (fun hg=>?_) (fun hg=>?_)) <;> try simp -implicitDefEqProofs only [hg,Bool.not_true,Bool.not_false]) | ((with_reducible apply And.intro);focus (first | trivial | omega | decide | (simp -implicitDefEqProofs only [maxLen];omega) | (simp [maxLen,af,ak,an,av,ai,au,aq] <;> omega))) | fail)
                 refine jx _ _ ?_ main
                 rw [gH]
                 refine aU ?_
                 simp [lk,ct]
               ·have Kb:=o1;have Kc:=o2;repeat' (first | (simp -implicitDefEqProofs only [go_sem,Int.reduceNegSucc,cE,dZ,cF,ec,cQ,eC,de,eN,dz,eZ,dJ,fu,dK,fy,dL,fA,dM,fB,dN,fC,cG,ee,cH,eg,cI,ek,cJ,ep,cK,er,cL,eu,cM,ew,cN,ey,cO,ez,cP,eA,cR,eD,cS,eE,cT,eF,cU,eG,cV,eH,cW,eI,cX,eJ,cY,eK,cZ,eL,dc,eM,dg,eO,dh,eP,di,eR,dj,eS,dm,eT,dn,eU,dr,eV,dw,eW,dx,eX,dy,eY,dA,fe,dB,ff,cB,fh,dD,fj,dF,fk,dG,fm,dH,fo,dI,fq,dU,dO,dP,dQ,dR,dS,dV,dW,dX,dY,cD,cA,af,Q4.ints,Bool.and_self,hh]) | (with_reducible refine aA ?_) | (with_reducible first | refine ag Kb ?_ | refine ah Kb ?_) | (with_reducible first | refine ag Kc ?_ | refine ah Kc ?_) | ((first | refine aj (fun hg=>?_) (fun hg=>?_) | refine ax (fun hg=>?_) (fun hg=>?_) | refine ay (fun hg=>?_) (fun hg=>?_)) <;> try simp -implicitDefEqProofs only [hg,Bool.not_true,Bool.not_false]) | ((with_reducible apply And.intro);focus (first | trivial | omega | decide | (simp -implicitDefEqProofs only [maxLen];omega) | (simp [maxLen,af,ak,an,av,ai,au,aq] <;> omega))) | fail)
                refine kK 5 ?_
                have Kd:=s1;have Ke:=s3;repeat' (first | (simp -implicitDefEqProofs only [go_sem,Int.reduceNegSucc,kO,kP,kQ,kR,kS,kT,kI,Int.reduceLT,decide_true,decide_false,Int.reduceToNat,Nat.reduceMul,cE,dZ,cF,ec,cQ,eC,de,eN,dz,eZ,dJ,fu,dK,fy,dL,fA,dM,fB,dN,fC,cG,ee,cH,eg,cI,ek,cJ,ep,cK,er,cL,eu,cM,ew,cN,ey,cO,ez,cP,eA,cR,eD,cS,eE,cT,eF,cU,eG,cV,eH,cW,eI,cX,eJ,cY,eK,cZ,eL,dc,eM,dg,eO,dh,eP,di,eR,dj,eS,dm,eT,dn,eU,dr,eV,dw,eW,dx,eX,dy,eY,dA,fe,dB,ff,cB,fh,dD,fj,dF,fk,dG,fm,dH,fo,dI,fq,dU,dO,dP,dQ,dR,dS,dV,dW,dX,dY,cD,cA,af,Q4.ints]) | (with_reducible refine aA ?_) | (with_reducible show G _ _ (It.l _ _::_) _ _ _;refine kJ ?_) | ((first | refine bS (Kd _) ?_ ?_ ?_ | refine bV (Kd _) ?_ ?_ ?_ | fail);(focus (simp [aR,aB] <;> fail));(focus (simp [aV,aQ] <;> fail))) | ((first | refine bS (Ke _) ?_ ?_ ?_ | refine bV (Ke _) ?_ ?_ ?_ | fail);(focus (simp [aR,aB] <;> fail));(focus (simp [aV,aQ] <;> fail))) | ((first | refine aj (fun hg=>?_) (fun hg=>?_) | refine ax (fun hg=>?_) (fun hg=>?_) | refine ay (fun hg=>?_) (fun hg=>?_)) <;> try simp -implicitDefEqProofs only [hg,Bool.not_true,Bool.not_false]) | ((with_reducible apply And.intro);focus (first | trivial | omega | decide | (simp -implicitDefEqProofs only [maxLen];omega) | (simp [maxLen,af,ak,an,av,ai,au,aq] <;> omega))) | fail)
                all_goals (refine (hK _ _ ?_).2;clear hK;simp -implicitDefEqProofs only [go_sem,Int.reduceNegSucc,aS,aT,bf,bl,aH,aG,aF,cz,bG,Option.map,Option.isSome] <;>(try simp_all [-Int.not_lt,-Int.not_le,aH,aG,aF,bF,cz,bG,Option.map,Option.isSome]) <;> try omega)
             | some t=>
               simp -implicitDefEqProofs only [bG,Pl.cells,List.map_cons,List.map_nil,List.cons_append,List.nil_append] at fO
               have s3:=s2 (jR H.n L X)
               apply via
               ·intro main
                rcases hab with ⟨gG,gJ,ct⟩ | ⟨gG,gH,gJ,ct⟩ | ⟨gG,gH,gJ,ct⟩
                ·have gI:(!AL)=false:=by rw [gG];rfl
                 rw [gJ,ct] at fO
                 have Kf:=fO;repeat' (first | (simp -implicitDefEqProofs only [go_sem,Int.reduceNegSucc,cE,dZ,cF,ec,cQ,eC,de,eN,dz,eZ,dJ,fu,dK,fy,dL,fA,dM,fB,dN,fC,cG,ee,cH,eg,cI,ek,cJ,ep,cK,er,cL,eu,cM,ew,cN,ey,cO,ez,cP,eA,cR,eD,cS,eE,cT,eF,cU,eG,cV,eH,cW,eI,cX,eJ,cY,eK,cZ,eL,dc,eM,dg,eO,dh,eP,di,eR,dj,eS,dm,eT,dn,eU,dr,eV,dw,eW,dx,eX,dy,eY,dA,fe,dB,ff,cB,fh,dD,fj,dF,fk,dG,fm,dH,fo,dI,fq,dU,dO,dP,dQ,dR,dS,dV,dW,dX,dY,cD,cA,af,Q4.ints,Bool.and_self,hh,gI]) | (with_reducible first | refine ag Kf ?_ | refine ah Kf ?_) | ((first | refine aj (fun hg=>?_) (fun hg=>?_) | refine ax (fun hg=>?_) (fun hg=>?_) | refine ay (fun hg=>?_) (fun hg=>?_)) <;> try simp -implicitDefEqProofs only [hg,Bool.not_true,Bool.not_false]) | ((with_reducible apply And.intro);focus (first | trivial | omega | decide | (simp -implicitDefEqProofs only [maxLen];omega) | (simp [maxLen,af,ak,an,av,ai,au,aq] <;> omega))) | fail)
                 refine jx [(15,.rv (.bool false)),(10,.ptr 1 0),(11,.ptr 2 0),(13,.ptr 3 0),(14,.ptr 4 0),(23,.ptr 7 0),(26,.rv (.bool OB)),(27,.ptr 9 0),(28,.ptr 10 0)] _ (aU ?_) main
                 simp [lk,ct]
                ·have gI:(!AL)=true:=by rw [gG];rfl
                 rw [gJ,ct] at fO
                 have Kg:=fO;repeat' (first | (simp -implicitDefEqProofs only [go_sem,Int.reduceNegSucc,cE,dZ,cF,ec,cQ,eC,de,eN,dz,eZ,dJ,fu,dK,fy,dL,fA,dM,fB,dN,fC,cG,ee,cH,eg,cI,ek,cJ,ep,cK,er,cL,eu,cM,ew,cN,ey,cO,ez,cP,eA,cR,eD,cS,eE,cT,eF,cU,eG,cV,eH,cW,eI,cX,eJ,cY,eK,cZ,eL,dc,eM,dg,eO,dh,eP,di,eR,dj,eS,dm,eT,dn,eU,dr,eV,dw,eW,dx,eX,dy,eY,dA,fe,dB,ff,cB,fh,dD,fj,dF,fk,dG,fm,dH,fo,dI,fq,dU,dO,dP,dQ,dR,dS,dV,dW,dX,dY,cD,cA,af,Q4.ints,Bool.and_self,hh,gI,gH]) | (with_reducible first | refine ag Kg ?_ | refine ah Kg ?_) | ((first | refine aj (fun hg=>?_) (fun hg=>?_) | refine ax (fun hg=>?_) (fun hg=>?_) | refine ay (fun hg=>?_) (fun hg=>?_)) <;> try simp -implicitDefEqProofs only [hg,Bool.not_true,Bool.not_false]) | ((with_reducible apply And.intro);focus (first | trivial | omega | decide | (simp -implicitDefEqProofs only [maxLen];omega) | (simp [maxLen,af,ak,an,av,ai,au,aq] <;> omega))) | fail)
                 refine jx _ _ ?_ main
                 rw [gH]
                 refine aU ?_
                 simp [lk,ct]
                ·have gI:(!AL)=true:=by rw [gG];rfl
                 rw [gJ,ct] at fO
                 have Kh:=fO;repeat' (first | (simp -implicitDefEqProofs only [go_sem,Int.reduceNegSucc,cE,dZ,cF,ec,cQ,eC,de,eN,dz,eZ,dJ,fu,dK,fy,dL,fA,dM,fB,dN,fC,cG,ee,cH,eg,cI,ek,cJ,ep,cK,er,cL,eu,cM,ew,cN,ey,cO,ez,cP,eA,cR,eD,cS,eE,cT,eF,cU,eG,cV,eH,cW,eI,cX,eJ,cY,eK,cZ,eL,dc,eM,dg,eO,dh,eP,di,eR,dj,eS,dm,eT,dn,eU,dr,eV,dw,eW,dx,eX,dy,eY,dA,fe,dB,ff,cB,fh,dD,fj,dF,fk,dG,fm,dH,fo,dI,fq,dU,dO,dP,dQ,dR,dS,dV,dW,dX,dY,cD,cA,af,Q4.ints,Bool.and_self,hh,gI,gH]) | (with_reducible first | refine ag Kh ?_ | refine ah Kh ?_) | ((first | refine aj (fun hg=>?_) (fun hg=>?_) | refine ax (fun hg=>?_) (fun hg=>?_) | refine ay (fun hg=>?_) (fun hg=>?_)) <;> try simp -implicitDefEqProofs only [hg,Bool.not_true,Bool.not_false]) | ((with_reducible apply And.intro);focus (first | trivial | omega | decide | (simp -implicitDefEqProofs only [maxLen];omega) | (simp [maxLen,af,ak,an,av,ai,au,aq] <;> omega))) | fail)
                 refine jx _ _ ?_ main
                 rw [gH]
                 refine aU ?_
                 simp [lk,ct]
               ·have Ki:=o1;have Kj:=o2;repeat' (first | (simp -implicitDefEqProofs only [go_sem,Int.reduceNegSucc,cE,dZ,cF,ec,cQ,eC,de,eN,dz,eZ,dJ,fu,dK,fy,dL,fA,dM,fB,dN,fC,cG,ee,cH,eg,cI,ek,cJ,ep,cK,er,cL,eu,cM,ew,cN,ey,cO,ez,cP,eA,cR,eD,cS,eE,cT,eF,cU,eG,cV,eH,cW,eI,cX,eJ,cY,eK,cZ,eL,dc,eM,dg,eO,dh,eP,di,eR,dj,eS,dm,eT,dn,eU,dr,eV,dw,eW,dx,eX,dy,eY,dA,fe,dB,ff,cB,fh,dD,fj,dF,fk,dG,fm,dH,fo,dI,fq,dU,dO,dP,dQ,dR,dS,dV,dW,dX,dY,cD,cA,af,Q4.ints,Bool.and_self,hh]) | (with_reducible refine aA ?_) | (with_reducible first | refine ag Ki ?_ | refine ah Ki ?_) | (with_reducible first | refine ag Kj ?_ | refine ah Kj ?_) | ((first | refine aj (fun hg=>?_) (fun hg=>?_) | refine ax (fun hg=>?_) (fun hg=>?_) | refine ay (fun hg=>?_) (fun hg=>?_)) <;> try simp -implicitDefEqProofs only [hg,Bool.not_true,Bool.not_false]) | ((with_reducible apply And.intro);focus (first | trivial | omega | decide | (simp -implicitDefEqProofs only [maxLen];omega) | (simp [maxLen,af,ak,an,av,ai,au,aq] <;> omega))) | fail)
                refine kK 5 ?_
                have Kk:=s1;have Kl:=s3;repeat' (first | (simp -implicitDefEqProofs only [go_sem,Int.reduceNegSucc,kO,kP,kQ,kR,kS,kT,kI,Int.reduceLT,decide_true,decide_false,Int.reduceToNat,Nat.reduceMul,cE,dZ,cF,ec,cQ,eC,de,eN,dz,eZ,dJ,fu,dK,fy,dL,fA,dM,fB,dN,fC,cG,ee,cH,eg,cI,ek,cJ,ep,cK,er,cL,eu,cM,ew,cN,ey,cO,ez,cP,eA,cR,eD,cS,eE,cT,eF,cU,eG,cV,eH,cW,eI,cX,eJ,cY,eK,cZ,eL,dc,eM,dg,eO,dh,eP,di,eR,dj,eS,dm,eT,dn,eU,dr,eV,dw,eW,dx,eX,dy,eY,dA,fe,dB,ff,cB,fh,dD,fj,dF,fk,dG,fm,dH,fo,dI,fq,dU,dO,dP,dQ,dR,dS,dV,dW,dX,dY,cD,cA,af,Q4.ints]) | (with_reducible refine aA ?_) | (with_reducible show G _ _ (It.l _ _::_) _ _ _;refine kJ ?_) | ((first | refine bS (Kk _) ?_ ?_ ?_ | refine bV (Kk _) ?_ ?_ ?_ | fail);(focus (simp [aR,aB] <;> fail));(focus (simp [aV,aQ] <;> fail))) | ((first | refine bS (Kl _) ?_ ?_ ?_ | refine bV (Kl _) ?_ ?_ ?_ | fail);(focus (simp [aR,aB] <;> fail));(focus (simp [aV,aQ] <;> fail))) | ((first | refine aj (fun hg=>?_) (fun hg=>?_) | refine ax (fun hg=>?_) (fun hg=>?_) | refine ay (fun hg=>?_) (fun hg=>?_)) <;> try simp -implicitDefEqProofs only [hg,Bool.not_true,Bool.not_false]) | ((with_reducible apply And.intro);focus (first | trivial | omega | decide | (simp -implicitDefEqProofs only [maxLen];omega) | (simp [maxLen,af,ak,an,av,ai,au,aq] <;> omega))) | fail)
                all_goals (refine (hK _ _ ?_).2;clear hK;simp -implicitDefEqProofs only [go_sem,Int.reduceNegSucc,aS,aT,bf,bl,aH,aG,aF,cz,bG,Option.map,Option.isSome] <;>(try simp_all [-Int.not_lt,-Int.not_le,aH,aG,aF,bF,cz,bG,Option.map,Option.isSome]) <;> try omega)
           | true=>
             obtain ⟨t,rfl⟩:=Option.isSome_iff_exists.1 (hr rfl)
             simp -implicitDefEqProofs only [pQ,pW,uj,jQ,hh,Bool.false_eq_true,if_false,if_true,Option.bind,Bool.not_true,Bool.not_false] at hK
             simp -implicitDefEqProofs only [bG,Pl.cells,List.map_cons,List.map_nil,List.cons_append,List.nil_append] at fO
             have s3:=s2 (jR H.n L X)
             have mc:=qx ⟨x.l,0,x.w,jR H.n L X,⟨bk M.a 0,x.r,bk M.c 0,x.l⟩,⟨D.a.n,D.b.n,D.c.n,D.d.n⟩,s.bE,true,⟨⟨0,0⟩,⟨0,0⟩,⟨0,0⟩,false,0⟩⟩ (.sl 1 (aN t.ys)) t.p (cq [cq [s.bE.a,D.a.n,D.c.n,s.bE.c],jR H.n L X]) rfl rfl
             simp -implicitDefEqProofs only [Fm.cells,Q4.ints,Ch.cells,mo,Pl.cells,List.map_cons,List.map_nil,List.cons_append,List.nil_append,hh] at mc
             generalize qo _ kids t.p (cq [cq [s.bE.a,D.a.n,D.c.n,s.bE.c],jR H.n L X])=C at *
             apply via
             ·intro main
              rcases hab with ⟨gG,gJ,ct⟩ | ⟨gG,gH,gJ,ct⟩ | ⟨gG,gH,gJ,ct⟩
              ·have gI:(!AL)=false:=by rw [gG];rfl
               rw [gJ,ct] at fO
               have Km:=fO;repeat' (first | (simp -implicitDefEqProofs only [go_sem,Int.reduceNegSucc,cE,dZ,cF,ec,cQ,eC,de,eN,dz,eZ,dJ,fu,dK,fy,dL,fA,dM,fB,dN,fC,cG,ee,cH,eg,cI,ek,cJ,ep,cK,er,cL,eu,cM,ew,cN,ey,cO,ez,cP,eA,cR,eD,cS,eE,cT,eF,cU,eG,cV,eH,cW,eI,cX,eJ,cY,eK,cZ,eL,dc,eM,dg,eO,dh,eP,di,eR,dj,eS,dm,eT,dn,eU,dr,eV,dw,eW,dx,eX,dy,eY,dA,fe,dB,ff,cB,fh,dD,fj,dF,fk,dG,fm,dH,fo,dI,fq,dU,dO,dP,dQ,dR,dS,dV,dW,dX,dY,cD,cA,af,Q4.ints,Bool.and_self,hh,gI]) | (with_reducible first | refine ag Km ?_ | refine ah Km ?_) | ((first | refine aj (fun hg=>?_) (fun hg=>?_) | refine ax (fun hg=>?_) (fun hg=>?_) | refine ay (fun hg=>?_) (fun hg=>?_)) <;> try simp -implicitDefEqProofs only [hg,Bool.not_true,Bool.not_false]) | ((with_reducible apply And.intro);focus (first | trivial | omega | decide | (simp -implicitDefEqProofs only [maxLen];omega) | (simp [maxLen,af,ak,an,av,ai,au,aq] <;> omega))) | fail)
               refine jx [(15,.rv (.bool true)),(10,.ptr 1 0),(11,.ptr 2 0),(13,.ptr 3 0),(14,.ptr 4 0),(23,.ptr 7 0),(26,.rv (.bool OB)),(27,.ptr 9 0),(28,.ptr 10 0)] _ (aU ?_) main
               simp [lk,ct]
              ·have gI:(!AL)=true:=by rw [gG];rfl
               rw [gJ,ct] at fO
               have Ko:=fO;repeat' (first | (simp -implicitDefEqProofs only [go_sem,Int.reduceNegSucc,cE,dZ,cF,ec,cQ,eC,de,eN,dz,eZ,dJ,fu,dK,fy,dL,fA,dM,fB,dN,fC,cG,ee,cH,eg,cI,ek,cJ,ep,cK,er,cL,eu,cM,ew,cN,ey,cO,ez,cP,eA,cR,eD,cS,eE,cT,eF,cU,eG,cV,eH,cW,eI,cX,eJ,cY,eK,cZ,eL,dc,eM,dg,eO,dh,eP,di,eR,dj,eS,dm,eT,dn,eU,dr,eV,dw,eW,dx,eX,dy,eY,dA,fe,dB,ff,cB,fh,dD,fj,dF,fk,dG,fm,dH,fo,dI,fq,dU,dO,dP,dQ,dR,dS,dV,dW,dX,dY,cD,cA,af,Q4.ints,Bool.and_self,hh,gI,gH]) | (with_reducible first | refine ag Ko ?_ | refine ah Ko ?_) | ((first | refine aj (fun hg=>?_) (fun hg=>?_) | refine ax (fun hg=>?_) (fun hg=>?_) | refine ay (fun hg=>?_) (fun hg=>?_)) <;> try simp -implicitDefEqProofs only [hg,Bool.not_true,Bool.not_false]) | ((with_reducible apply And.intro);focus (first | trivial | omega | decide | (simp -implicitDefEqProofs only [maxLen];omega) | (simp [maxLen,af,ak,an,av,ai,au,aq] <;> omega))) | fail)
               refine jx _ _ ?_ main
               rw [gH]
               refine aU ?_
               simp [lk,ct]
              ·have gI:(!AL)=true:=by rw [gG];rfl
               rw [gJ,ct] at fO
               have Kp:=fO;repeat' (first | (simp -implicitDefEqProofs only [go_sem,Int.reduceNegSucc,cE,dZ,cF,ec,cQ,eC,de,eN,dz,eZ,dJ,fu,dK,fy,dL,fA,dM,fB,dN,fC,cG,ee,cH,eg,cI,ek,cJ,ep,cK,er,cL,eu,cM,ew,cN,ey,cO,ez,cP,eA,cR,eD,cS,eE,cT,eF,cU,eG,cV,eH,cW,eI,cX,eJ,cY,eK,cZ,eL,dc,eM,dg,eO,dh,eP,di,eR,dj,eS,dm,eT,dn,eU,dr,eV,dw,eW,dx,eX,dy,eY,dA,fe,dB,ff,cB,fh,dD,fj,dF,fk,dG,fm,dH,fo,dI,fq,dU,dO,dP,dQ,dR,dS,dV,dW,dX,dY,cD,cA,af,Q4.ints,Bool.and_self,hh,gI,gH]) | (with_reducible first | refine ag Kp ?_ | refine ah Kp ?_) | ((first | refine aj (fun hg=>?_) (fun hg=>?_) | refine ax (fun hg=>?_) (fun hg=>?_) | refine ay (fun hg=>?_) (fun hg=>?_)) <;> try simp -implicitDefEqProofs only [hg,Bool.not_true,Bool.not_false]) | ((with_reducible apply And.intro);focus (first | trivial | omega | decide | (simp -implicitDefEqProofs only [maxLen];omega) | (simp [maxLen,af,ak,an,av,ai,au,aq] <;> omega))) | fail)
               refine jx _ _ ?_ main
               rw [gH]
               refine aU ?_
               simp [lk,ct]
             ·have Kq:=o1;have Kr:=o2;repeat' (first | (simp -implicitDefEqProofs only [go_sem,Int.reduceNegSucc,cE,dZ,cF,ec,cQ,eC,de,eN,dz,eZ,dJ,fu,dK,fy,dL,fA,dM,fB,dN,fC,cG,ee,cH,eg,cI,ek,cJ,ep,cK,er,cL,eu,cM,ew,cN,ey,cO,ez,cP,eA,cR,eD,cS,eE,cT,eF,cU,eG,cV,eH,cW,eI,cX,eJ,cY,eK,cZ,eL,dc,eM,dg,eO,dh,eP,di,eR,dj,eS,dm,eT,dn,eU,dr,eV,dw,eW,dx,eX,dy,eY,dA,fe,dB,ff,cB,fh,dD,fj,dF,fk,dG,fm,dH,fo,dI,fq,dU,dO,dP,dQ,dR,dS,dV,dW,dX,dY,cD,cA,af,Q4.ints,Bool.and_self,hh]) | (with_reducible refine aA ?_) | (with_reducible first | refine ag Kq ?_ | refine ah Kq ?_) | (with_reducible first | refine ag Kr ?_ | refine ah Kr ?_) | ((first | refine aj (fun hg=>?_) (fun hg=>?_) | refine ax (fun hg=>?_) (fun hg=>?_) | refine ay (fun hg=>?_) (fun hg=>?_)) <;> try simp -implicitDefEqProofs only [hg,Bool.not_true,Bool.not_false]) | ((with_reducible apply And.intro);focus (first | trivial | omega | decide | (simp -implicitDefEqProofs only [maxLen];omega) | (simp [maxLen,af,ak,an,av,ai,au,aq] <;> omega))) | fail)
              refine kK 5 ?_
              cases k1:fV [s.bE.a,D.a.n,D.c.n,s.bE.c] <;> cases k2:fV [cq [s.bE.a,D.a.n,D.c.n,s.bE.c],jR H.n L X] <;> rw [k1] at s1 <;> rw [k2] at s3 <;> simp -implicitDefEqProofs only [k1,k2,and_self,and_true,true_and,and_false,false_and,Bool.false_eq_true,if_true,if_false] at hK
              all_goals ((have Ks:=s1;have Kt:=s3;have Ku:=mc;repeat' (first | (simp -implicitDefEqProofs only [go_sem,Int.reduceNegSucc,kO,kP,kQ,kR,kS,kT,kI,Int.reduceLT,decide_true,decide_false,Int.reduceToNat,Nat.reduceMul,cE,dZ,cF,ec,cQ,eC,de,eN,dz,eZ,dJ,fu,dK,fy,dL,fA,dM,fB,dN,fC,cG,ee,cH,eg,cI,ek,cJ,ep,cK,er,cL,eu,cM,ew,cN,ey,cO,ez,cP,eA,cR,eD,cS,eE,cT,eF,cU,eG,cV,eH,cW,eI,cX,eJ,cY,eK,cZ,eL,dc,eM,dg,eO,dh,eP,di,eR,dj,eS,dm,eT,dn,eU,dr,eV,dw,eW,dx,eX,dy,eY,dA,fe,dB,ff,cB,fh,dD,fj,dF,fk,dG,fm,dH,fo,dI,fq,dU,dO,dP,dQ,dR,dS,dV,dW,dX,dY,cD,cA,af,Q4.ints]) | (with_reducible refine aA ?_) | (with_reducible show G _ _ (It.l _ _::_) _ _ _;refine kJ ?_) | ((first | refine bS (Ks _) ?_ ?_ ?_ | refine bV (Ks _) ?_ ?_ ?_ | fail);(focus (simp [aR,aB] <;> fail));(focus (simp [aV,aQ] <;> fail))) | ((first | refine bS (Kt _) ?_ ?_ ?_ | refine bV (Kt _) ?_ ?_ ?_ | fail);(focus (simp [aR,aB] <;> fail));(focus (simp [aV,aQ] <;> fail))) | (with_reducible first | refine ag Ku ?_ | refine ah Ku ?_) | ((first | refine aj (fun hg=>?_) (fun hg=>?_) | refine ax (fun hg=>?_) (fun hg=>?_) | refine ay (fun hg=>?_) (fun hg=>?_)) <;> try simp -implicitDefEqProofs only [hg,Bool.not_true,Bool.not_false]) | ((with_reducible apply And.intro);focus (first | trivial | omega | decide | (simp -implicitDefEqProofs only [maxLen];omega) | (simp [maxLen,af,ak,an,av,ai,au,aq] <;> omega))) | fail)))
              all_goals (refine (hK _ _ ?_).2;clear hK;simp -implicitDefEqProofs only [go_sem,Int.reduceNegSucc,aS,aT,bf,bl,aH,aG,aF,cz,bG,Fm.cells,Q4.ints,Ch.cells,Pl.cells,Option.map,Option.isSome] <;>(try simp_all [-Int.not_lt,-Int.not_le,aH,aG,aF,bF,cz,bG,Fm.cells,Q4.ints,Ch.cells,Pl.cells,Option.map,Option.isSome]) <;> try omega)
end Go.aJ

namespace Go.aJ
open Go
theorem VY {l:List Nd} {m:Int} (h:iA l m=true):ia l m=true:=by
 simp -implicitDefEqProofs only [iA,Bool.and_eq_true] at h;exact h.1
theorem Fj {l:List Nd} {n:Int} {m:Nat} (h:m∈bn l n):ia l m=true:=VY (by simpa using (List.mem_filter.1 h).2)
theorem Jc (l:List Nd) (ht:fW l=true) (hs:gF l) (hb:l.length≤1000):∀ (d n:Nat) (w:Int) (h:Sz) (bO:Bool),n<l.length→l.length<n+d→aL Go.Proofs.Tryz.prog 11 [.rv (.sl 49 (bp l)),.rv (.int .i64 n),.rv (.int .i64 w),h.sv,.rv (.bool bO)] [] [] (lO (if (ia l n && ic w h)=true then kW l d n w h bO else none))
 | 0,n,w,h,bO,hn,hd=>by omega
 | d+1,n,w,h,bO,hn,hd=>by
   refine VK l ht (by omega) n w h bO (td l (kW l d) n) (fun e x hq=>Cu hq) (fun x=>?_)
   have hk:=zE l n hn
   have vS:=VL l ht hb n hn (-1) x.w (mO (cg l n w h)) (cg l n w h).oe (cg l n w h).lW (fun m=>kW l d m x.w (mO (cg l n w h)) (bJ l n).bO) (fun m hm q hq=>by
    rw [hk] at hm
    have:=tT hs d m _ _ _ q (nO hm).2.1 hq
    have:=(hs.sB (nO hm).2.1).2
    omega) (fun nS m hm=>by
    rw [hk] at hm
    obtain ⟨h1,h2,h3⟩:=nO hm
    have hu:=hs.up m h1 h2
    have:=Jc l ht hs hb d m x.w (mO (cg l n w h)) (bJ l n).bO h2 (by omega)
    rw [Fj hm,nS] at this
    exact this)
   rw [hk] at vS
   exact vS
end Go.aJ

namespace Go.aJ
open Go
theorem QO:aX Go.Proofs.Tryz.prog 20 60 (fc Go.Proofs.Tryz.prog 20 60 [(.c 10 25 true),(.t 11)]) [(.c 10 25 true),(.t 11)]:=br (by kernel_rfl)
theorem Rr:aX Go.Proofs.Tryz.prog 15 35 (fc Go.Proofs.Tryz.prog 15 35 [(.t 10),(.t 11)]) [(.t 10),(.t 11)]:=br (by kernel_rfl)
theorem Rq:aX Go.Proofs.Tryz.prog 43 15 (fc Go.Proofs.Tryz.prog 43 15 [(.t 2)]) [(.t 2)]:=br (by kernel_rfl)
def DI (al ot:Bool):Ed:=⟨⟨⟨false,0⟩,⟨false,0⟩,⟨false,0⟩,⟨false,0⟩⟩,⟨⟨false,0⟩,⟨false,0⟩,⟨false,0⟩,⟨false,0⟩⟩,⟨0,0,0,0⟩,⟨false,0⟩,0,0,al,false,ot,false⟩
def jK (l:List Nd) (n:Int) (ks:List Nat) (w:Int) (h:Sz) (ot:Bool):Option La×Bool:=jh (fun m=>kW l (l.length+1) m w h (bJ l n).bO) ks (ic w h) ot false
theorem Gm (l:List Nd) (n:Int) (ks:List Nat) (w:Int) (h:Sz) (ot:Bool) (hm:ic w h=false):jK l n ks w h ot=(none,false):=by simp [jK,jh,hm]
theorem tf {l:List Nd} (hs:gF l) {n:Int} {m:Nat} (h:m∈bn l n):m<l.length:=(Ms hs h).2
theorem Vh (l:List Nd) (hs:gF l) (hb:l.length≤900) (n w:Int) (h:Sz) (al ot:Bool) (more:Int) (ks:List Nat) (hks:(more<0∧ks=bn l n)∨∃ x:Nat,x<l.length∧more=x∧ks=iX (bn l n) x) :
 aL Go.Proofs.Tryz.prog 49 [.rv (cu l),.rv (.int .i64 n),.rv (.int .i64 w),h.sv,(DI al ot).sv,.rv (.int .i64 more)] [] [] (.aO [.agg ((bG (jK l n ks w h ot).1).map .rv),.rv (.bool (jK l n ks w h ot).2)]):=by
 have fl:=vC l n
 have hm:∀ m∈ks,m<l.length:=fun m hm=>by
  rcases hks with ⟨_,rfl⟩ | ⟨x,hx,_,rfl⟩
  ·exact tf hs hm
  ·rcases uz.1 hm with rfl | hm
   ·exact hx
   ·exact tf hs hm
 refine IV l (by omega) n w h (DI al ot) (fun m=>kW l (l.length+1) m w h (bJ l n).bO) more ks ?_ ?_ (fun m hk q hq=>?_) (fun _ m hk=>?_)
 ·rcases hks with h1 | ⟨x,_,h1,h2⟩
  ·exact .inl h1
  ·exact .inr ⟨x,h1,h2⟩
 ·rcases hks with ⟨_,rfl⟩ | ⟨x,hx,_,rfl⟩
  ·omega
  ·rw [zy];omega
 ·have:=tT hs _ m _ _ _ q (hm m hk) hq
  have:=(hs.sB (hm m hk)).2
  omega
 ·exact IS l hs (by omega) (l.length+1) m w h _ (hm m hk) (by omega)
def Xl (l:List Nd) (n w:Int) (h:Sz):Option La×Bool:=if ja l n=true then jK l n (bn l n) w h false else (none,false)
def BD (n:Int) (t:La):Option Fm:=(t.L.find? fun q=>((q.1:Int) == n)).map (·.2)
def Ax (n:Int) (r:Option La×Bool):Option Fm:=if r.2=true then r.1.bind (BD n) else none
def lF (l:List Nd) (n:Int) (w:Int) (h:Sz) (op:Bool):Option Fm:=if ja l n=true then Ax n (jK l (mm l n) (iX (bn l (mm l n)) n.toNat) w h op) else none
theorem Tx (q:Nat×Fm):(jM q)[0]?=some (.int .i64 q.1):=rfl
theorem HU (q:Nat×Fm):((jM q).map SV.rv)[0]?=some (.rv (.int .i64 q.1)):=rfl
theorem HV (q:Nat×Fm):(((jM q).map SV.rv).drop 1).take 25=q.2.cells.map SV.rv:=rfl
theorem Ty (q:Nat×Fm):((jM q).drop 1).take 25=q.2.cells:=rfl
theorem Tz (q:Nat×Fm):(jM q).take 26=jM q:=rfl
theorem HW (q:Nat×Fm):((jM q).map SV.rv).take 26=(jM q).map SV.rv:=rfl
theorem HX (q:Nat×Fm):((jM q).map SV.rv).drop 26=[]:=rfl
theorem HY (q:Nat×Fm):(jM q).length=26:=rfl
theorem TA {L:List (Nat×Fm)} {i:Nat} (h:i<L.length):(gj L)[i]?.getD []=jM (L[i]'h):=by simp [gj,h]
theorem HQ {l:List Nd} {n:Int} (h:ja l n=true):∃ k:Nat,n=k∧0<k∧k<l.length:=by
 simp -implicitDefEqProofs only [ja,ia,Bool.and_eq_true,decide_eq_true_eq] at h
 obtain ⟨k,rfl,hk⟩:=qD h.1.1.1
 exact ⟨k,rfl,by omega,hk⟩
theorem Gk {l:List Nd} (hs:gF l) {n:Int} {ks:List Nat} {w:Int} {h:Sz} {ot:Bool} {t:La} (hk:∀ m∈ks,m<l.length) (ht:(jK l n ks w h ot).1=some t):t.L.length≤ks.length*(l.length+1)∧t.ys.length≤ks.length:=by
 obtain ⟨rs,q,h1,h2,rfl⟩:=Ct ht
 have hr:=Dl (g:=fun _=>l.length+1) h1 (fun m hm z hz=>by
  have:=tT hs _ m _ _ _ z (hk m hm) hz
  have:=(hs.sB (hk m hm)).2
  show _≤l.length+1
  omega)
 have hrl:rs.length=ks.length:=by
  clear h2 hr ht
  induction ks generalizing rs with
  | nil=>cases h1;rfl
  | cons m ks ih=>
    rw [hD] at h1
    split at h1
    ·rw [Option.map_eq_some_iff] at h1
     obtain ⟨rs',h3,rfl⟩:=h1
     simp [ih (fun m hm=>hk m (.tail _ hm)) rs' h3]
    ·cases h1
 have ku:=xp h2
 have hc:(fM rs).length=rs.length:=by simp [fM]
 simp -implicitDefEqProofs only [List.length_nil,Nat.zero_add,hc] at ku
 refine ⟨?_,by show q.2.length≤_;omega⟩
 show (iK rs q.2).length≤_
 rw [mq]
 have:(List.map (fun _=>l.length+1) ks).sum=ks.length*(l.length+1):=by
  clear hr hrl h1 ht hk
  induction ks with
  | nil=>simp
  | cons a ks ih=>simp [Nat.add_mul];omega
 omega
theorem US (l:List Nd) (hs:gF l) (hb:l.length≤900) (n w:Int) (h:Sz) (op:Bool):aL Go.Proofs.Tryz.prog 20 [.rv (cu l),.rv (.int .i64 n),.rv (.int .i64 w),h.sv,.rv (.bool op)] [] [] (.aO [.agg ((cz (lF l n w h op)).map .rv),.rv (.bool (lF l n w h op).isSome)]):=by
 refine bz QO [.rv (cu l),.rv (.int .i64 n),.rv (.int .i64 w),h.sv,.rv (.bool op)] _ (by simp) (by simp [aP,bg,bu,aY,bq,aC.sv,Ln.sv,Nd.sv]) (fun K hK=>?_)
 have ho:=IN l n
 have hw:=IU w h
 have hpa:=UM l n
 unfold lF at hK
 cases hout:ja l n with
 | false=>
   rw [hout] at ho
   simp -implicitDefEqProofs only [hout,Bool.false_eq_true,if_false] at hK
   conv in fc _ _ _ _=>reduce
   simp -implicitDefEqProofs only [Sz.sv,Sz.cells,go_sem,Int.reduceNegSucc] at hw ⊢
   have bN:=ho;repeat' (first | (simp -implicitDefEqProofs only [go_sem,Int.reduceNegSucc]) | (with_reducible refine aA ?_) | (with_reducible first | refine ag bN ?_ | refine ah bN ?_) | ((first | refine aj (fun hg=>?_) (fun hg=>?_) | refine ax (fun hg=>?_) (fun hg=>?_) | refine ay (fun hg=>?_) (fun hg=>?_)) <;> try simp -implicitDefEqProofs only [hg,Bool.not_true,Bool.not_false]) | ((with_reducible apply And.intro);focus (first | trivial | omega | decide | (simp -implicitDefEqProofs only [maxLen];omega) | (simp [maxLen,af,ak,an,av,ai,au,aq] <;> omega))) | fail)
   all_goals (refine (hK _ _ ?_).2;clear hK;simp -implicitDefEqProofs only [go_sem,Int.reduceNegSucc,aS,aT,bf,bl,aH,aG,aF,cz] <;>(try simp_all [-Int.not_lt,-Int.not_le,aH,aG,aF,bF,cz]) <;> try omega)
 | true=>
   rw [hout] at ho
   simp -implicitDefEqProofs only [hout,if_true] at hK
   cases nS:ic w h with
   | false=>
     rw [nS] at hw
     rw [Gm l _ _ w h _ nS] at hK
     simp -implicitDefEqProofs only [Ax,Bool.false_eq_true,if_false] at hK
     conv in fc _ _ _ _=>reduce
     simp -implicitDefEqProofs only [Sz.sv,Sz.cells,go_sem,Int.reduceNegSucc] at hw ⊢
     have bR:=ho;have bZ:=hw;repeat' (first | (simp -implicitDefEqProofs only [go_sem,Int.reduceNegSucc]) | (with_reducible refine aA ?_) | (with_reducible first | refine ag bR ?_ | refine ah bR ?_) | (with_reducible first | refine ag bZ ?_ | refine ah bZ ?_) | ((first | refine aj (fun hg=>?_) (fun hg=>?_) | refine ax (fun hg=>?_) (fun hg=>?_) | refine ay (fun hg=>?_) (fun hg=>?_)) <;> try simp -implicitDefEqProofs only [hg,Bool.not_true,Bool.not_false]) | ((with_reducible apply And.intro);focus (first | trivial | omega | decide | (simp -implicitDefEqProofs only [maxLen];omega) | (simp [maxLen,af,ak,an,av,ai,au,aq] <;> omega))) | fail)
     all_goals (refine (hK _ _ ?_).2;clear hK;simp -implicitDefEqProofs only [go_sem,Int.reduceNegSucc,aS,aT,bf,bl,aH,aG,aF,cz] <;>(try simp_all [-Int.not_lt,-Int.not_le,aH,aG,aF,bF,cz]) <;> try omega)
   | true=>
     rw [nS] at hw
     obtain ⟨k,rfl,k0,kl⟩:=HQ hout
     rw [Int.toNat_natCast] at hK
     have hin:=Vh l hs hb (mm l k) w h (!op) op k (iX (bn l (mm l k)) k) (.inr ⟨k,kl,rfl,rfl⟩)
     have hlen:=fun t=>@Gk l hs (mm l k) (iX (bn l (mm l k)) k) w h op t (fun m hm=>by
      rcases uz.1 hm with rfl | hm
      ·exact kl
      ·exact tf hs hm)
     have hks:(iX (bn l (mm l k)) k).length≤901:=by rw [zy];have:=vC l (mm l k);omega
     generalize iX (bn l (mm l k)) k=ks at *
     generalize jK l (mm l k) ks w h op=r at *
     obtain ⟨r1,r2⟩:=r
     unfold Ax at hK
     dsimp at hin hK hlen
     conv in fc _ _ _ _=>reduce
     simp -implicitDefEqProofs only [Sz.sv,Sz.cells,Ed.sv,Ed.cells,DI,Q4.iG,Q4.ints,List.map_cons,List.map_nil,List.cons_append,List.nil_append,go_sem,Int.reduceNegSucc] at hw hin ⊢
     cases r2 with
     | false=>
       simp -implicitDefEqProofs only [Bool.false_eq_true,if_false] at hK
       obtain ⟨u,hu,oO⟩:∃ u,bG r1=u∧u.length=9:=⟨_,rfl,by cases r1 <;> rfl⟩
       rw [hu] at hin
       have v1:(u.map SV.rv).drop 9=[]:=List.drop_of_length_le (by simp [oO])
       have v2:(u.map SV.rv).take 9=u.map SV.rv:=List.take_of_length_le (by simp [oO])
       have cm:=ho;have fT:=hw;have gO:=hpa;have ie:=hin;repeat' (first | (simp -implicitDefEqProofs only [go_sem,Int.reduceNegSucc,oO,v1,v2,List.length_map,List.append_nil]) | (with_reducible refine aA ?_) | (with_reducible first | refine ag cm ?_ | refine ah cm ?_) | (with_reducible first | refine ag fT ?_ | refine ah fT ?_) | (with_reducible first | refine ag gO ?_ | refine ah gO ?_) | (with_reducible first | refine ag ie ?_ | refine ah ie ?_) | ((first | refine aj (fun hg=>?_) (fun hg=>?_) | refine ax (fun hg=>?_) (fun hg=>?_) | refine ay (fun hg=>?_) (fun hg=>?_)) <;> try simp -implicitDefEqProofs only [hg,Bool.not_true,Bool.not_false]) | ((with_reducible apply And.intro);focus (first | trivial | omega | decide | (simp -implicitDefEqProofs only [maxLen];omega) | (simp [maxLen,af,ak,an,av,ai,au,aq] <;> omega))) | fail)
       all_goals (refine (hK _ _ ?_).2;clear hK;simp -implicitDefEqProofs only [go_sem,Int.reduceNegSucc,aS,aT,bf,bl,aH,aG,aF,cz] <;>(try simp_all [-Int.not_lt,-Int.not_le,aH,aG,aF,bF,cz]) <;> try omega)
     | true=>
       cases r1 with
       | none=>
         simp -implicitDefEqProofs only [if_true,Option.bind] at hK
         simp -implicitDefEqProofs only [bG,List.map_cons,List.map_nil] at hin
         have ig:=ho;have ij:=hw;have iq:=hpa;have ir:=hin;repeat' (first | (simp -implicitDefEqProofs only [go_sem,Int.reduceNegSucc]) | (with_reducible refine aA ?_) | (with_reducible first | refine ag ig ?_ | refine ah ig ?_) | (with_reducible first | refine ag ij ?_ | refine ah ij ?_) | (with_reducible first | refine ag iq ?_ | refine ah iq ?_) | (with_reducible first | refine ag ir ?_ | refine ah ir ?_) | ((first | refine aj (fun hg=>?_) (fun hg=>?_) | refine ax (fun hg=>?_) (fun hg=>?_) | refine ay (fun hg=>?_) (fun hg=>?_)) <;> try simp -implicitDefEqProofs only [hg,Bool.not_true,Bool.not_false]) | ((with_reducible apply And.intro);focus (first | trivial | omega | decide | (simp -implicitDefEqProofs only [maxLen];omega) | (simp [maxLen,af,ak,an,av,ai,au,aq] <;> omega))) | fail)
         refine kK 1 ?_
         repeat' (first | (simp -implicitDefEqProofs only [go_sem,Int.reduceNegSucc,kO,kP,kQ,kR,kS,kT,kI,Int.reduceLT,decide_true,decide_false,Int.reduceToNat,Nat.reduceMul]) | (with_reducible refine aA ?_) | (with_reducible show G _ _ (It.l _ _::_) _ _ _;refine kJ ?_) | ((first | refine aj (fun hg=>?_) (fun hg=>?_) | refine ax (fun hg=>?_) (fun hg=>?_) | refine ay (fun hg=>?_) (fun hg=>?_)) <;> try simp -implicitDefEqProofs only [hg,Bool.not_true,Bool.not_false]) | ((with_reducible apply And.intro);focus (first | trivial | omega | decide | (simp -implicitDefEqProofs only [maxLen];omega) | (simp [maxLen,af,ak,an,av,ai,au,aq] <;> omega))) | fail)
         all_goals (refine (hK _ _ ?_).2;clear hK;simp -implicitDefEqProofs only [go_sem,Int.reduceNegSucc,aS,aT,bf,bl,aH,aG,aF,cz] <;>(try simp_all [-Int.not_lt,-Int.not_le,aH,aG,aF,bF,cz]) <;> try omega)
       | some t=>
         have htl:=(hlen t rfl).1
         have Xh:t.L.length≤1000000:=by
          have:ks.length*(l.length+1)≤901*901:=Nat.mul_le_mul hks (by omega)
          omega
         simp -implicitDefEqProofs only [if_true,Option.bind] at hK
         simp -implicitDefEqProofs only [bG,Pl.cells,List.map_cons,List.map_nil,List.cons_append,List.nil_append] at hin
         have gl:=kC t.L
         have iu:=ho;have iT:=hw;have iU:=hpa;have ke:=hin;repeat' (first | (simp -implicitDefEqProofs only [go_sem,Int.reduceNegSucc,gl]) | (with_reducible refine aA ?_) | (with_reducible first | refine ag iu ?_ | refine ah iu ?_) | (with_reducible first | refine ag iT ?_ | refine ah iT ?_) | (with_reducible first | refine ag iU ?_ | refine ah iU ?_) | (with_reducible first | refine ag ke ?_ | refine ah ke ?_) | ((first | refine aj (fun hg=>?_) (fun hg=>?_) | refine ax (fun hg=>?_) (fun hg=>?_) | refine ay (fun hg=>?_) (fun hg=>?_)) <;> try simp -implicitDefEqProofs only [hg,Bool.not_true,Bool.not_false]) | ((with_reducible apply And.intro);focus (first | trivial | omega | decide | (simp -implicitDefEqProofs only [maxLen];omega) | (simp [maxLen,af,ak,an,av,ai,au,aq] <;> omega))) | fail)
         refine fG (ι:=Nat) (fun i=>[(48,.rv (.int .i64 i)),(47,.rv (.int .i64 t.L.length)),(46,.rv (.sl 26 (gj t.L))),(1,.rv (.int .i64 k)),(10,.ptr 1 0)])
          (fun _=>[some (.var (h.cells.map .rv)),some (.var ((cz none).map .rv)),some (.var ((bG (some t)).map .rv))]) (fun i=>i≤t.L.length∧(t.L.find? fun q=>((q.1:Int) ==(k:Int)))=(t.L.drop i).find? fun q=>((q.1:Int) ==(k:Int))) (fun i=>t.L.length - i) 0 ⟨Nat.zero_le _,rfl⟩ (aU (by simp [lk])) (fun i hi K' hN hX hR=>?_)
         obtain ⟨hi,jI⟩:=hi
         simp -implicitDefEqProofs only [bG,cz,Pl.cells,Sz.cells,go_sem,Int.reduceNegSucc]
         refine aj (fun hg=>?_) (fun hg=>?_)
         ·have hi4:i<t.L.length:=by simp at hg;omega
          have wu:=cw (k:=i) (by omega)
          have y1:=TA hi4
          rw [List.drop_eq_getElem_cons hi4,List.find?_cons] at jI
          generalize t.L[i]=q at *
          have z0:=Tx q
          have z1:=HU q
          have z2:=HV q
          have z3:=Ty q
          have z4:=Tz q
          have z5:=HW q
          have z6:=HX q
          have z7:=HY q
          have z8:=ug q.2
          cases hq:((q.1:Int) ==(k:Int)) with
          | true=>
            rw [hq] at jI
            dsimp at jI
            simp -implicitDefEqProofs only [BD,jI,Option.map,Option.isSome] at hK
            repeat' (first | (simp -implicitDefEqProofs only [go_sem,Int.reduceNegSucc,y1,z0,z1,z2,z3,z4,z5,z6,z7,z8,gl,hq,List.length_map,List.append_nil,List.length_drop]) | (with_reducible refine aA ?_) | ((first | refine aj (fun hg=>?_) (fun hg=>?_) | refine ax (fun hg=>?_) (fun hg=>?_) | refine ay (fun hg=>?_) (fun hg=>?_)) <;> try simp -implicitDefEqProofs only [hg,Bool.not_true,Bool.not_false]) | ((with_reducible apply And.intro);focus (first | trivial | omega | decide | (simp -implicitDefEqProofs only [maxLen];omega) | (simp [maxLen,af,ak,an,av,ai,au,aq] <;> omega) | (omega;done))) | fail)
            refine hR _ _ (hK _ _ ?_).2
            simp -implicitDefEqProofs only [go_sem,Int.reduceNegSucc,aS,aT,bf,bl,aH,aG,aF,fL,cz,z8,List.length_map,uh,yR]
          | false=>
            rw [hq] at jI
            dsimp at jI
            repeat' (first | (simp -implicitDefEqProofs only [go_sem,Int.reduceNegSucc,y1,z0,z1,z2,z3,z4,z5,z6,z7,z8,gl,hq,wu,List.length_map,List.append_nil,List.length_drop]) | (with_reducible refine aA ?_) | ((first | refine aj (fun hg=>?_) (fun hg=>?_) | refine ax (fun hg=>?_) (fun hg=>?_) | refine ay (fun hg=>?_) (fun hg=>?_)) <;> try simp -implicitDefEqProofs only [hg,Bool.not_true,Bool.not_false]) | ((with_reducible apply And.intro);focus (first | trivial | omega | decide | (simp -implicitDefEqProofs only [maxLen];omega) | (simp [maxLen,af,ak,an,av,ai,au,aq] <;> omega) | (omega;done))) | fail)
            exact hN (i+1) _ _ ⟨by omega,jI⟩ (by omega) (nj (h':=[some (.var (h.cells.map .rv)),some (.var ((cz none).map .rv)),some (.var ((bG (some t)).map .rv))]) (Nat.zero_le _) ⟨jG,jG,jG,trivial⟩ (by simp [iC,lk,jH,lP]))
         ·have hi4:i=t.L.length:=by simp at hg;omega
          subst hi4
          rw [List.drop_length,List.find?_nil] at jI
          simp -implicitDefEqProofs only [BD,jI,Option.map,Option.isSome] at hK
          simp -implicitDefEqProofs only [go_sem,Int.reduceNegSucc]
          refine hX _ _ _ ?_
          repeat' (first | (simp -implicitDefEqProofs only [go_sem,Int.reduceNegSucc]) | (with_reducible refine aA ?_) | ((first | refine aj (fun hg=>?_) (fun hg=>?_) | refine ax (fun hg=>?_) (fun hg=>?_) | refine ay (fun hg=>?_) (fun hg=>?_)) <;> try simp -implicitDefEqProofs only [hg,Bool.not_true,Bool.not_false]) | ((with_reducible apply And.intro);focus (first | trivial | omega | decide | (simp -implicitDefEqProofs only [maxLen];omega) | (simp [maxLen,af,ak,an,av,ai,au,aq] <;> omega))) | fail)
          all_goals (refine (hK _ _ ?_).2;clear hK;simp -implicitDefEqProofs only [go_sem,Int.reduceNegSucc,aS,aT,bf,bl,aH,aG,aF,cz] <;>(try simp_all [-Int.not_lt,-Int.not_le,aH,aG,aF,bF,cz]) <;> try omega)
def Jr (r:Option Fm):List Int:=match r with
 | some f=>[f.y,IntKind.i64.wrap (0 - f.bA.a)]
 | none=>[]
def uY (r:Option Fm):Int:=match r with
 | some f=>cq (Jr (some f))
 | none=>0
def uX (r:Option Fm):Bool:=match r with
 | some f=>fV (Jr (some f))
 | none=>false
theorem Fo (f:Fm):(f.cells.map SV.rv)[1]?=some (.rv (.int .i64 f.y)):=rfl
theorem Fl (f:Fm):(f.cells.map SV.rv)[4]?=some (.rv (.int .i64 f.bA.a)):=rfl
theorem IQ (l:List Nd) (hs:gF l) (hb:l.length≤900) (n w:Int) (h:Sz) (op:Bool):aL Go.Proofs.Tryz.prog 15 [.rv (cu l),.rv (.int .i64 n),.rv (.int .i64 w),h.sv,.rv (.bool op)] [] [] (.aO [.rv (.int .i64 (uY (lF l n w h op))),.rv (.bool (uX (lF l n w h op)))]):=by
 refine bz Rr [.rv (cu l),.rv (.int .i64 n),.rv (.int .i64 w),h.sv,.rv (.bool op)] _ (by simp) (by simp [aP,bg,bu,aY,bq,aC.sv,Ln.sv,Nd.sv]) (fun K hK=>?_)
 have hw:=US l hs hb n w h op
 conv in fc _ _ _ _=>reduce
 simp -implicitDefEqProofs only [Sz.sv,Sz.cells,go_sem,Int.reduceNegSucc] at hw ⊢
 cases hr:lF l n w h op with
 | none=>
   rw [hr] at hw hK
   simp -implicitDefEqProofs only [cz,Option.isSome,List.map_cons,List.map_nil] at hw
   have mW:=hw;repeat' (first | (simp -implicitDefEqProofs only [go_sem,Int.reduceNegSucc]) | (with_reducible refine aA ?_) | (with_reducible first | refine ag mW ?_ | refine ah mW ?_) | ((first | refine aj (fun hg=>?_) (fun hg=>?_) | refine ax (fun hg=>?_) (fun hg=>?_) | refine ay (fun hg=>?_) (fun hg=>?_)) <;> try simp -implicitDefEqProofs only [hg,Bool.not_true,Bool.not_false]) | ((with_reducible apply And.intro);focus (first | trivial | omega | decide | (simp -implicitDefEqProofs only [maxLen];omega) | (simp [maxLen,af,ak,an,av,ai,au,aq] <;> omega))) | fail)
   refine (hK _ _ (gM ?_ ?_)).2 <;> rfl
 | some f=>
   rw [hr] at hw hK
   simp -implicitDefEqProofs only [cz,Option.isSome] at hw
   have z1:=uh f
   have z2:=vF f
   have z3:=ug f
   have z4:=Fo f
   have z5:=Fl f
   have hs:=fun id=>tI id [f.y,IntKind.i64.wrap (0 - f.bA.a)] (by simp)
   simp -implicitDefEqProofs only [lT,List.map_cons,List.map_nil,List.length_cons,List.length_nil,Nat.reduceAdd] at hs
   have mX:=hw;have pG:=hs;repeat' (first | (simp -implicitDefEqProofs only [go_sem,Int.reduceNegSucc,z1,z2,z3,z4,z5,List.length_map,List.append_nil]) | (with_reducible refine aA ?_) | (with_reducible first | refine ag mX ?_ | refine ah mX ?_) | ((first | refine bS (pG _) ?_ ?_ ?_ | refine bV (pG _) ?_ ?_ ?_ | fail);(focus (simp [aR,aB] <;> fail));(focus (simp [aV,aQ] <;> fail))) | ((first | refine aj (fun hg=>?_) (fun hg=>?_) | refine ax (fun hg=>?_) (fun hg=>?_) | refine ay (fun hg=>?_) (fun hg=>?_)) <;> try simp -implicitDefEqProofs only [hg,Bool.not_true,Bool.not_false]) | ((with_reducible apply And.intro);focus (first | trivial | omega | decide | (simp -implicitDefEqProofs only [maxLen];omega) | (simp [maxLen,af,ak,an,av,ai,au,aq] <;> omega))) | fail)
   refine (hK _ _ (gM ?_ ?_)).2 <;> rfl
def xY (s:aC):Bool:=(s.off.a.kind == 0) && (s.off.c.kind == 0)
theorem Ut (s:aC):aL Go.Proofs.Tryz.prog 43 [s.sv] [] [] (.rv (.bool (xY s))):=by
 refine bz Rq [s.sv] _ (by simp) (by simp [aP,bg,bu,aY,bq,aC.sv,Ln.sv,Nd.sv]) (fun K hK=>?_)
 conv in fc _ _ _ _=>reduce
 simp -implicitDefEqProofs only [go_sem,Int.reduceNegSucc]
 repeat' (first | (simp -implicitDefEqProofs only [go_sem,Int.reduceNegSucc,cE,dZ,cF,ec,cQ,eC,de,eN,dz,eZ,dJ,fu,dK,fy,dL,fA,dM,fB,dN,fC,cG,ee,cH,eg,cI,ek,cJ,ep,cK,er,cL,eu,cM,ew,cN,ey,cO,ez,cP,eA,cR,eD,cS,eE,cT,eF,cU,eG,cV,eH,cW,eI,cX,eJ,cY,eK,cZ,eL,dc,eM,dg,eO,dh,eP,di,eR,dj,eS,dm,eT,dn,eU,dr,eV,dw,eW,dx,eX,dy,eY,dA,fe,dB,ff,cB,fh,dD,fj,dF,fk,dG,fm,dH,fo,dI,fq,dU,dO,dP,dQ,dR,dS,dV,dW,dX,dY,cD,cA,af,Q4.oY,Ln.cells]) | (with_reducible refine aA ?_) | ((first | refine aj (fun hg=>?_) (fun hg=>?_) | refine ax (fun hg=>?_) (fun hg=>?_) | refine ay (fun hg=>?_) (fun hg=>?_)) <;> try simp -implicitDefEqProofs only [hg,Bool.not_true,Bool.not_false]) | ((with_reducible apply And.intro);focus (first | trivial | omega | decide | (simp -implicitDefEqProofs only [maxLen];omega) | (simp [maxLen,af,ak,an,av,ai,au,aq] <;> omega))) | fail)
 all_goals (refine (hK _ _ ?_).2;clear hK;simp -implicitDefEqProofs only [go_sem,Int.reduceNegSucc,aS,aT,bf,bl,aH,aG,aF,xY] <;>(try simp_all [-Int.not_lt,-Int.not_le,aH,aG,aF,bF,xY]) <;> try omega)
end Go.aJ

namespace Go.aJ
open Go
theorem Ii:∀ {a b:List Nat},a.Pairwise (·< ·)→b.Pairwise (·< ·)→(∀ x,x∈a↔x∈b)→a=b
 | [],[],_,_,_=>rfl
 | [],y::b,_,_,h=>by have:=(h y).2 (.head _);simp at this
 | x::a,[],_,_,h=>by have:=(h x).1 (.head _);simp at this
 | x::a,y::b,ha,hb,h=>by
   rw [List.pairwise_cons] at ha hb
   have hxy:x=y:=by
    rcases List.mem_cons.1 ((h x).1 (.head _)) with e | e
    ·exact e
    ·rcases List.mem_cons.1 ((h y).2 (.head _)) with e2 | e2
     ·exact e2.symm
     ·have:=ha.1 y e2;have:=hb.1 x e;omega
   subst hxy
   congr 1
   refine Ii ha.2 hb.2 fun z=>?_
   constructor
   ·intro hz
    rcases List.mem_cons.1 ((h z).1 (.tail _ hz)) with e | e
    ·have:=ha.1 z hz;omega
    ·exact e
   ·intro hz
    rcases List.mem_cons.1 ((h z).2 (.tail _ hz)) with e | e
    ·have:=hb.1 z hz;omega
    ·exact e
theorem EA (x:Nat):∀ {ks:List Nat},ks.Pairwise (·< ·)→ks.take (kj ks x)=ks.filter (fun y=>decide (y<x))∧ks.drop (kj ks x)=ks.filter fun y=>!decide (y<x)
 | [],_=>⟨rfl,rfl⟩
 | y::ks,h=>by
   rw [List.pairwise_cons] at h
   obtain ⟨h1,h2⟩:=EA x h.2
   by_cases hy:y<x
   ·have e:kj (y::ks) x=kj ks x+1:=by simp [kj,hy]
    rw [e,List.take_succ_cons,List.drop_succ_cons,List.filter_cons,List.filter_cons,h1,h2]
    simp [hy]
   ·have hn:∀ z∈ks,¬ z<x:=fun z hz=>by have:=h.1 z hz;omega
    have f1:ks.filter (fun y=>decide (y<x))=[]:=List.filter_eq_nil_iff.2 fun z hz=>by simp;have:=hn z hz;omega
    have f2:ks.filter (fun y=>!decide (y<x))=ks:=List.filter_eq_self.2 fun z hz=>by simp;have:=hn z hz;omega
    have e:kj (y::ks) x=0:=by simp [kj,hy,f1]
    rw [e,List.take_zero,List.drop_zero,List.filter_cons,List.filter_cons,f1,f2]
    simp [hy]
theorem Pc {ks:List Nat} {x:Nat} (hp:ks.Pairwise (·< ·)) (hx:x∉ks):(iX ks x).Pairwise (·< ·):=by
 obtain ⟨h1,h2⟩:=EA x hp
 unfold iX
 rw [h1,h2,List.pairwise_append]
 refine ⟨hp.filter _,List.pairwise_cons.2 ⟨fun b hb=>?_,hp.filter _⟩,fun a ha b hb=>?_⟩
 ·obtain ⟨b1,b2⟩:=List.mem_filter.1 hb
  have:¬ b<x:=by simpa using b2
  have:b≠x:=fun e=>hx (e▸b1)
  omega
 ·have:a<x:=by simpa using (List.mem_filter.1 ha).2
  rcases List.mem_cons.1 hb with rfl | hb
  ·exact this
  ·have:¬ b<x:=by simpa using (List.mem_filter.1 hb).2
   omega
theorem Fk {l:List Nd} {p m:Nat} (hp:p<l.length):m∈bn l p↔0<m∧m<l.length∧aZ l m=p∧iA l m=true:=by
 unfold bn iw
 rw [if_pos (nv hp),List.mem_filter,Int.toNat_natCast,qG]
 constructor
 ·rintro ⟨⟨a,b,c⟩,d⟩;exact ⟨a,b,c,d⟩
 ·rintro ⟨a,b,c,d⟩;exact ⟨⟨a,b,c⟩,d⟩
theorem Sg {l:List Nd} {k p:Nat} (hp:p<l.length) (hk:k<l.length) (h0:0<k) (hpk:aZ l k=p) (ho:ja l k=true):iS l p k=iX (bn l p) k:=by
 have hnf:k∉bn l p:=fun h=>by
  have:=((Fk hp).1 h).2.2.2
  simp [iA,ho] at this
 refine Ii (List.pairwise_lt_range.filter _) (Pc (Fg l p) hnf) fun m=>?_
 rw [uz,Fk hp]
 unfold iS
 rw [List.mem_filter,List.mem_range]
 simp -implicitDefEqProofs only [og,Bool.and_eq_true,Bool.or_eq_true,decide_eq_true_eq]
 constructor
 ·rintro ⟨a,⟨b,c⟩,d⟩
  rcases d with d | d
  ·exact .inl (by omega)
  ·exact .inr ⟨by omega,a,c,d⟩
 ·rintro (rfl | ⟨a,b,c,d⟩)
  ·exact ⟨hk,⟨by omega,hpk⟩,.inl rfl⟩
  ·exact ⟨b,⟨by omega,c⟩,.inr d⟩
theorem Ts {l:List Nd} {n:Int} (h:ja l n=true):ia l n=true:=by
 simp -implicitDefEqProofs only [ja,Bool.and_eq_true] at h;exact h.1.1
end Go.aJ

namespace Go.aJ
open Go
def xq (x:Nd):Nd:=⟨{ x.s with position:=0 },x.parent⟩
def gW (l:List Nd) (k:Nat):List Nd:=l.set k (xq (l.getD k default))
theorem qm (l:List Nd) (k:Nat):(gW l k).length=l.length:=by simp [gW]
theorem AH (l:List Nd) (k m:Nat):(gW l k).getD m default=if m=k∧m<l.length then xq (l.getD k default) else l.getD m default:=by
 simp -implicitDefEqProofs only [gW,List.getD_eq_getElem?_getD,List.getElem?_set]
 by_cases h:k=m
 ·subst h
  by_cases h2:k<l.length
  ·simp [h2]
  ·simp [h2]
 ·have:¬ m=k:=fun e=>h e.symm
  simp [h,this]
theorem tN (l:List Nd) (k m:Nat):aZ (gW l k) m=aZ l m:=by
 unfold aZ
 rw [AH]
 split
 ·rename_i h;rw [h.1];rfl
 ·rfl
theorem KV (l:List Nd) (k m:Nat):nB (gW l k) m=nB l m:=by
 unfold nB
 rw [AH]
 split
 ·rename_i h;rw [h.1];rfl
 ·rfl
theorem DP (l:List Nd) (k:Nat):∀ m,bw (gW l k) m=bw l m:=by
 intro m
 induction m using Nat.strongRecOn with
 | _ m ih=>
   by_cases h:0≤aZ l m∧aZ l m<m
   ·rw [qh h,qh (l:=gW l k) (by rw [tN];exact h),tN,ih _ (by omega)]
   ·rw [rH h,rH (l:=gW l k) (by rw [tN];exact h)]
theorem KR (l:List Nd) (k m:Nat):lz (gW l k) m=lz l m:=by
 unfold lz
 rw [DP]
 congr 1
 funext x
 exact KV l k x
theorem DQ {l:List Nd} (hs:gF l) (k:Nat):gF (gW l k):=by
 refine ⟨by rw [qm];exact hs.pos,by rw [tN];exact hs.root,fun j j0 jl=>?_⟩
 rw [qm] at jl
 rw [tN,DP]
 exact hs.up j j0 jl
theorem DO (l:List Nd) (k m:Nat):gY (gW l k) m=gY l m:=by
 unfold gY bB
 rw [qm]
 refine List.filter_congr fun j _=>?_
 rw [tN]
theorem AI (l:List Nd) (k m:Nat) (hm:m<l.length):bJ (gW l k) m=if m=k then { bJ l m with position:=0 } else bJ l m:=by
 unfold bJ
 rw [nv (by rw [qm];exact hm),nv hm]
 simp -implicitDefEqProofs only [if_true,Int.toNat_natCast]
 rw [AH]
 by_cases h:m=k
 ·rw [if_pos ⟨h,hm⟩,if_pos h,h];rfl
 ·rw [if_neg (fun e=>h e.1),if_neg h]
theorem KS (l:List Nd) (k:Nat) (m:Int):ia (gW l k) m=ia l m:=by
 unfold ia iE
 rw [qm,KR]
theorem DR {l:List Nd} {k m:Nat} (hm:m<l.length) (h0:0<m):iA (gW l k) m=if m=k then ia l m else iA l m:=by
 unfold iA ja
 rw [KS,AI l k m hm]
 by_cases h:m=k
 ·rw [if_pos h,if_pos h];simp
 ·rw [if_neg h,if_neg h]
theorem DN {l:List Nd} (k m:Nat) (hm:m<l.length) (hmk:aZ l k≠m):bn (gW l k) m=bn l m:=by
 unfold bn iw
 rw [nv (by rw [qm];exact hm),nv hm]
 simp -implicitDefEqProofs only [if_true,Int.toNat_natCast]
 rw [DO]
 refine List.filter_congr fun j hj=>?_
 obtain ⟨j0,jl,jp⟩:=qG.1 hj
 rw [DR jl j0,if_neg (fun e=>hmk (by rw [← e];exact jp))]
theorem KP {l:List Nd} {k p:Nat} (hp:p<l.length) (hk:k<l.length) (h0:0<k) (hpk:aZ l k=p) (ho:ja l k=true):bn (gW l k) p=iX (bn l p) k:=by
 rw [← Sg hp hk h0 hpk ho]
 unfold bn iw iS
 rw [nv (by rw [qm];exact hp)]
 simp -implicitDefEqProofs only [if_true,Int.toNat_natCast]
 rw [DO]
 unfold gY bB
 rw [List.filter_filter]
 refine List.filter_congr fun j hj=>?_
 have hj:j<l.length:=by simpa using hj
 unfold og
 by_cases j0:0<j
 ·rw [DR hj j0]
  by_cases e:j=k
  ·subst e
   have q1:decide (0<j)=true:=decide_eq_true j0
   have q2:decide (j≠0)=true:=decide_eq_true (by omega)
   have q3:decide (aZ l j=(p:Int))=true:=decide_eq_true hpk
   rw [if_pos rfl,Ts ho,q1,q2,q3]
   simp
  ·have e2:¬ (j:Int)=k:=by omega
   rw [if_neg e]
   simp -implicitDefEqProofs only [e2,decide_false,Bool.false_or]
   rw [Bool.and_comm]
   congr 1
   rw [Bool.eq_iff_iff];simp;omega
 ·have:j=0:=by omega
  subst this
  simp
theorem KO {l:List Nd} {k m:Nat} (hm:m<l.length) (w:Int) (h:Sz):cg (gW l k) m w h=cg l m w h∧okB (gW l k) m w h=okB l m w h∧(bJ (gW l k) m).bO=(bJ l m).bO∧∀ bO,ow (gW l k) m w h bO=ow l m w h bO:=by
 unfold okB ow cg
 rw [AI l k m hm]
 by_cases e:m=k
 ·rw [if_pos e];exact ⟨rfl,rfl,rfl,fun _=>rfl⟩
 ·rw [if_neg e];exact ⟨rfl,rfl,rfl,fun _=>rfl⟩
theorem Gn {bx AT:Nat→Option (Fm×La)} {ks:List Nat} {ok ot ob:Bool} (h:∀ m∈ks,AT m=bx m):jh AT ks ok ot ob=jh bx ks ok ot ob:=by
 have:hD AT ks=hD bx ks:=by
  induction ks with
  | nil=>rfl
  | cons a ks ih=>rw [hD,hD,h a (.head _),ih fun m hm=>h m (.tail _ hm)]
 unfold jh
 rw [this]
theorem AG {l:List Nd} (hs:gF l) (k:Nat):∀ (d m:Nat) (w:Int) (h:Sz) (bO:Bool),m<l.length→aZ l k<m→kW (gW l k) d m w h bO=kW l d m w h bO
 | 0,_,_,_,_,_,_=>rfl
 | d+1,m,w,h,bO,hm,Xd=>by
   obtain ⟨h1,h2,h3,h4⟩:=KO (k:=k) hm w h
   show pN (gW l k) (td (gW l k) (kW (gW l k) d) m) m w h bO=pN l (td l (kW l d) m) m w h bO
   unfold pN
   rw [h2,h4,h1,DN k m hm (by omega)]
   split
   ·congr 1
    funext x
    congr 1
    unfold td
    rw [DN k m hm (by omega),h3]
    refine Gn fun j hj=>?_
    obtain ⟨j0,jl,jp⟩:=nO hj
    have hu:=hs.up j j0 jl
    exact AG hs k d j _ _ _ jl (by omega)
   ·rfl
theorem KQ {l:List Nd} (hs:gF l) {k p:Nat} (hp:p<l.length) (hk:k<l.length) (h0:0<k) (hpk:aZ l k=p) (ho:ja l k=true) (w:Int) (h:Sz) (ot:Bool):jK (gW l k) p (bn (gW l k) p) w h ot=jK l p (iX (bn l p) k) w h ot:=by
 have hu:=hs.up k h0 hk
 rw [KP hp hk h0 hpk ho]
 unfold jK
 rw [qm,AI l k p hp,if_neg (by omega)]
 refine Gn fun m hm=>?_
 rcases uz.1 hm with rfl | hm
 ·exact AG hs _ _ _ _ _ _ hk (by omega)
 ·obtain ⟨m0,ml,mp⟩:=nO hm
  have:=hs.up m m0 ml
  exact AG hs _ _ _ _ _ _ ml (by omega)
end Go.aJ

namespace Go.aJ
open Go
def ny (m1 m2:Nat):Option La→SV
 | some t=>.agg (.row m1 (2*t.ys.length) t.L.length :: .row m2 t.ys.length t.ys.length::(t.p.cells++[RV.int .i64 t.high]).map .rv)
 | none=>.agg ((bG none).map .rv)
def lU (m1 m2:Nat):Option La→List (Nat×HB)
 | some t=>[(m1,.row 26 (2*t.ys.length) (aM (gj t.L))),(m2,.row 1 t.ys.length (aM (aN t.ys)))]
 | none=>[]
theorem VM (m1 m2:Nat) (ux:m1≠m2) (l:List Nd) (ht:fW l=true) (hb:l.length≤1000) (n:Nat) (hn:n<l.length) (more:Int) (w:Int) (h:Sz) (ot ob:Bool) (bx:Nat→Option (Fm×La)) (hlen:∀ m∈iS l n more,∀ q,bx m=some q→q.2.L.length≤1000)
 (hB:ic w h=true→∀ m∈iS l n more,aL Go.Proofs.Tryz.prog 11 [.rv (.sl 49 (bp l)),.rv (.int .i64 m),.rv (.int .i64 w),h.sv,.rv (.bool (bJ l n).bO)] [] [] (lO (bx m))) :
 aL Go.Proofs.Tryz.prog 18 [.rv (.sl 49 (bp l)),.rv (.int .i64 n),.rv (.int .i64 more),.rv (.int .i64 w),h.sv,.rv (.bool ot),.rv (.bool ob)] [] (lU m1 m2 (jh bx (iS l n more) (ic w h) ot ob).1) (.aO [ny m1 m2 (jh bx (iS l n more) (ic w h) ot ob).1,.rv (.bool (jh bx (iS l n more) (ic w h) ot ob).2)]):=by
 refine mF GH [] [] [] [.rv (.sl 49 (bp l)),.rv (.int .i64 n),.rv (.int .i64 more),.rv (.int .i64 w),h.sv,.rv (.bool ot),.rv (.bool ob)] [.rv (.sl 49 (bp l)),.rv (.int .i64 n),.rv (.int .i64 more),.rv (.int .i64 w),h.sv,.rv (.bool ot),.rv (.bool ob)] _ _ (by simp) (by simp [aP,aY,bg,bu]) rfl (by simp [bQ]) (by simp [iB]) (fun K hK=>?_)
 have hm:=Dw w h
 have hl:=an l
 have wD:=iP hn
 have iO:bJ l n=(l[n]'hn).s:=by simp [bJ,nv hn,hn]
 rw [iO] at hB
 unfold jh at hK
 cases hmay:ic w h with
 | false=>
   rw [hmay] at hm
   simp -implicitDefEqProofs only [hmay,Bool.false_eq_true,if_false] at hK
   conv in fc _ _ _ _=>reduce
   simp -implicitDefEqProofs only [Sz.sv,Sz.cells,go_sem,Int.reduceNegSucc] at hm ⊢
   have bh:=hm;repeat' (first | (simp -implicitDefEqProofs only [go_sem,Int.reduceNegSucc]) | (with_reducible refine aA ?_) | (with_reducible first | refine ag bh ?_ | refine ah bh ?_) | ((first | refine aj (fun hg=>?_) (fun hg=>?_) | refine ax (fun hg=>?_) (fun hg=>?_) | refine ay (fun hg=>?_) (fun hg=>?_)) <;> try simp -implicitDefEqProofs only [hg,Bool.not_true,Bool.not_false]) | ((with_reducible apply And.intro);focus (first | trivial | omega | decide | (simp -implicitDefEqProofs only [maxLen];omega) | (simp [maxLen,af,ak,an,av,ai,au,aq] <;> omega))) | fail)
   all_goals (refine (hK _ _ _ _ [] (gk _ _) ?_).2;simp [gw,bQ,newL,gB,gn,aT,aS,lk,bf,fJ,fU,fN,gL,gK,aB,gx,bl,aG,ga,gz,gS,aH,gR,aF,gd,fL,gE,ny,lU,bG,aH,aF])
 | true=>
   have hB:=hB hmay
   rw [hmay] at hm
   simp -implicitDefEqProofs only [hmay,if_true] at hK
   conv in fc _ _ _ _=>reduce
   simp -implicitDefEqProofs only [Sz.sv,Sz.cells,go_sem,Int.reduceNegSucc] at hm ⊢
   have y_2:=hm;repeat' (first | (simp -implicitDefEqProofs only [go_sem,Int.reduceNegSucc,hl]) | (with_reducible refine aA ?_) | (with_reducible first | refine ag y_2 ?_ | refine ah y_2 ?_) | ((first | refine aj (fun hg=>?_) (fun hg=>?_) | refine ax (fun hg=>?_) (fun hg=>?_) | refine ay (fun hg=>?_) (fun hg=>?_)) <;> try simp -implicitDefEqProofs only [hg,Bool.not_true,Bool.not_false]) | ((with_reducible apply And.intro);focus (first | trivial | omega | decide | (simp -implicitDefEqProofs only [maxLen];omega) | (simp [maxLen,af,ak,an,av,ai,au,aq] <;> omega))) | fail)
   refine fG (ι:=Nat×List (Nat×Fm×La)) (fun q=>[(35,.rv (.int .i64 q.1)),(34,.rv (.int .i64 l.length)),(16,.ptr 2 0),(18,.row 3 q.2.length q.2.length),(17,.row 4 q.2.length q.2.length),(14,.ptr 1 0),(11,.ptr 0 0),(0,.rv (.sl 49 (bp l))),(1,.rv (.int .i64 n)),(2,.rv (.int .i64 more)),(3,.rv (.int .i64 w)),(5,.rv (.bool ot)),(6,.rv (.bool ob))]) (fun q=>rA h q.2)
    (fun q=>q.1≤l.length∧q.2.length≤q.1∧(bD q.2).length≤1001*q.2.length∧hD bx (iS l n more)=(hD bx (((List.range l.length).drop q.1).filter (og l n more))).map (q.2 ++ ·)) (fun q=>l.length - q.1) (0,[]) ⟨Nat.zero_le _,Nat.zero_le _,by simp [bD],by show hD bx (iS l n more)=(hD bx (iS l n more)).map _;cases hq:hD bx (iS l n more) <;> simp [hq]⟩
    ((pP 18 1 0 rfl).trans ((pP 17 8 0 rfl).trans ((sE 2 26 0 rfl rfl).trans (aU (by simp [lk,aQ]))))) (fun q hq K' hN hX hR=>?_)
   obtain ⟨k,rs⟩:=q
   obtain ⟨fH,hk2,nT,cC⟩:=hq
   dsimp at fH hk2 nT cC ⊢
   simp -implicitDefEqProofs only [rA,mR,Sz.cells,go_sem,Int.reduceNegSucc]
   refine aj (fun hg=>?_) (fun hg=>?_)
   ·have aD:k<l.length:=by simp at hg;omega
    have wu:=cw (k:=k) (by omega)
    have Wz:=cw (k:=rs.length) (by omega)
    have hx:=iP aD
    have sY:aZ l k=(l[k]'aD).parent:=(lX aD).symm
    have jr:=xk l ht k
    have oM:=Am l ht k
    have vL:(List.range l.length).drop k=k::(List.range l.length).drop (k+1):=by
     rw [List.drop_eq_getElem_cons (by simpa using aD)];simp
    rw [vL,List.filter_cons] at cC
    have hmem:og l n more k=true→k∈iS l n more:=fun hp=>List.mem_filter.2 ⟨List.mem_range.2 aD,hp⟩
    have hpk:og l n more k=(decide (k≠0) && decide ((l[k]'aD).parent=n) && (decide ((k:Int)=more) || (ia l k && !ja l k))):=by rw [← sY];rfl
    have x1:=ak (l[k]'aD)
    have x2:=kz (l[k]'aD)
    have y1:=ak (l[n]'hn)
    have y2:=HA (l[n]'hn)
    generalize l[k]'aD=x at *
    generalize l[n]'hn=xn at *
    generalize ia l k=M at *
    generalize ja l k=O at *
    clear sY vL
    cases hp:og l n more k with
    | false=>
      rw [hp] at cC hpk
      simp -implicitDefEqProofs only [Bool.false_eq_true,if_false] at cC
      have e4:k=0∨(k≠0∧x.parent≠n)∨(k≠0∧x.parent=n∧(k:Int)≠more∧M=false)∨(k≠0∧x.parent=n∧(k:Int)≠more∧M=true∧O=true):=by
       by_cases a:k=0
       ·exact .inl a
       by_cases b:x.parent=n
       ·by_cases c:(k:Int)=more
        ·simp [a,b,c] at hpk
        ·cases hM:M
         ·exact .inr (.inr (.inl ⟨a,b,c,rfl⟩))
         ·cases hO:O
          ·simp [a,b,c,hM,hO] at hpk
          ·exact .inr (.inr (.inr ⟨a,b,c,rfl,rfl⟩))
       ·exact .inr (.inl ⟨a,b⟩)
      have done:=hN (k+1,rs)
      rcases e4 with h0 | ⟨h0,h1⟩ | ⟨h0,h1,h2,h3⟩ | ⟨h0,h1,h2,h3,h4⟩
      ·have g0:(((k:Int)) == 0)=true:=by simp [h0]
       repeat' (first | (simp -implicitDefEqProofs only [go_sem,Int.reduceNegSucc,hl,hx,x1,x2,g0,List.length_drop,wu]) | (with_reducible refine aA ?_) | ((first | refine aj (fun hg=>?_) (fun hg=>?_) | refine ax (fun hg=>?_) (fun hg=>?_) | refine ay (fun hg=>?_) (fun hg=>?_)) <;> try simp -implicitDefEqProofs only [hg,Bool.not_true,Bool.not_false]) | ((with_reducible apply And.intro);focus (first | trivial | omega | decide | (simp -implicitDefEqProofs only [maxLen];omega) | (simp [maxLen,af,ak,an,av,ai,au,aq] <;> omega))) | fail)
       exact done _ _ ⟨aD,by dsimp;omega,nT,cC⟩ (by dsimp;omega) (aU (by simp [lk]))
      ·have g0:(((k:Int)) == 0)=false:=by simp [h0]
       have g1:(x.parent !=(n:Int))=true:=by simp [h1]
       repeat' (first | (simp -implicitDefEqProofs only [go_sem,Int.reduceNegSucc,hl,hx,x1,x2,g0,g1,List.length_drop,wu]) | (with_reducible refine aA ?_) | ((first | refine aj (fun hg=>?_) (fun hg=>?_) | refine ax (fun hg=>?_) (fun hg=>?_) | refine ay (fun hg=>?_) (fun hg=>?_)) <;> try simp -implicitDefEqProofs only [hg,Bool.not_true,Bool.not_false]) | ((with_reducible apply And.intro);focus (first | trivial | omega | decide | (simp -implicitDefEqProofs only [maxLen];omega) | (simp [maxLen,af,ak,an,av,ai,au,aq] <;> omega))) | fail)
       exact done _ _ ⟨aD,by dsimp;omega,nT,cC⟩ (by dsimp;omega) (aU (by simp [lk]))
      ·have g0:(((k:Int)) == 0)=false:=by simp [h0]
       have g1:(x.parent !=(n:Int))=false:=by simp [h1]
       have g2:((k:Int) != more)=true:=by simp [h2]
       rw [h3] at jr
       have bC:=jr;repeat' (first | (simp -implicitDefEqProofs only [go_sem,Int.reduceNegSucc,hl,hx,x1,x2,g0,g1,g2,List.length_drop,wu]) | (with_reducible refine aA ?_) | (with_reducible first | refine ag bC ?_ | refine ah bC ?_) | ((first | refine aj (fun hg=>?_) (fun hg=>?_) | refine ax (fun hg=>?_) (fun hg=>?_) | refine ay (fun hg=>?_) (fun hg=>?_)) <;> try simp -implicitDefEqProofs only [hg,Bool.not_true,Bool.not_false]) | ((with_reducible apply And.intro);focus (first | trivial | omega | decide | (simp -implicitDefEqProofs only [maxLen];omega) | (simp [maxLen,af,ak,an,av,ai,au,aq] <;> omega))) | fail)
       exact done _ _ ⟨aD,by dsimp;omega,nT,cC⟩ (by dsimp;omega) (aU (by simp [lk]))
      ·have g0:(((k:Int)) == 0)=false:=by simp [h0]
       have g1:(x.parent !=(n:Int))=false:=by simp [h1]
       have g2:((k:Int) != more)=true:=by simp [h2]
       rw [h3] at jr
       rw [h4] at oM
       have bI:=jr;have bK:=oM;repeat' (first | (simp -implicitDefEqProofs only [go_sem,Int.reduceNegSucc,hl,hx,x1,x2,g0,g1,g2,List.length_drop,wu]) | (with_reducible refine aA ?_) | (with_reducible first | refine ag bI ?_ | refine ah bI ?_) | (with_reducible first | refine ag bK ?_ | refine ah bK ?_) | ((first | refine aj (fun hg=>?_) (fun hg=>?_) | refine ax (fun hg=>?_) (fun hg=>?_) | refine ay (fun hg=>?_) (fun hg=>?_)) <;> try simp -implicitDefEqProofs only [hg,Bool.not_true,Bool.not_false]) | ((with_reducible apply And.intro);focus (first | trivial | omega | decide | (simp -implicitDefEqProofs only [maxLen];omega) | (simp [maxLen,af,ak,an,av,ai,au,aq] <;> omega))) | fail)
       exact done _ _ ⟨aD,by dsimp;omega,nT,cC⟩ (by dsimp;omega) (aU (by simp [lk]))
    | true=>
      rw [hp] at cC hpk
      simp -implicitDefEqProofs only [if_true] at cC
      rw [hD] at cC
      have iW:=hB _ (hmem hp)
      have qB:=hlen _ (hmem hp)
      have vQ:k≠0∧x.parent=n∧∃ c:Bool,((k:Int) != more)=c∧(c=true→M=true∧O=false):=by
       simp at hpk
       refine ⟨hpk.1.1,hpk.1.2,_,rfl,fun hc=>?_⟩
       have:¬ (k:Int)=more:=by simpa using hc
       simpa [this] using hpk.2
      obtain ⟨h0,h1,c,g2,BK⟩:=vQ
      cases c
      case' true=>
       obtain ⟨hM,hO⟩:=BK rfl
       rw [hM] at jr
       rw [hO] at oM
      all_goals
       have g0:(((k:Int)) == 0)=false:=by simp [h0]
       have g1:(x.parent !=(n:Int))=false:=by simp [h1]
       cases oH:bx k with
       | none=>
         rw [oH] at iW cC
         simp -implicitDefEqProofs only [Option.map] at cC
         rw [cC] at hK
         simp -implicitDefEqProofs only [lO,cz,bG,Option.map,Option.isSome,List.map_cons,List.map_nil,Sz.sv,Sz.cells] at iW
         have bM:=jr;have bN:=oM;have bR:=iW;repeat' (first | (simp -implicitDefEqProofs only [go_sem,Int.reduceNegSucc,hl,hx,wD,x1,x2,y1,y2,g0,g1,g2,List.length_drop,wu]) | (with_reducible refine aA ?_) | (with_reducible first | refine ag bM ?_ | refine ah bM ?_) | (with_reducible first | refine ag bN ?_ | refine ah bN ?_) | (with_reducible first | refine ag bR ?_ | refine ah bR ?_) | ((first | refine aj (fun hg=>?_) (fun hg=>?_) | refine ax (fun hg=>?_) (fun hg=>?_) | refine ay (fun hg=>?_) (fun hg=>?_)) <;> try simp -implicitDefEqProofs only [hg,Bool.not_true,Bool.not_false]) | ((with_reducible apply And.intro);focus (first | trivial | omega | decide | (simp -implicitDefEqProofs only [maxLen];omega) | (simp [maxLen,af,ak,an,av,ai,au,aq] <;> omega))) | fail)
         refine hR _ _ (hK _ _ _ _ [] (gk _ _) ?_).2
         simp [gw,bQ,newL,gB,gn,aT,aS,lk,bf,fJ,fU,fN,gL,gK,aB,gx,bl,aG,ga,gz,gS,aH,gR,aF,gd,fL,gE,ny,lU,bG,aH,aF]
       | some q=>
         rw [oH] at iW cC
         obtain ⟨f,t⟩:=q
         have vV:=qB _ oH
         simp -implicitDefEqProofs only [Option.map_map] at cC
         have hrl:rs.length≤1000:=by omega
         have zi:(bD rs).length≤1001000:=by omega
         have hv:2*rs.length+1+1=2*(rs.length+1):=by omega
         have ho:=CS (rs:=rs) (r:=(k,f,t))
         have hc:=AZ (rs:=rs) (r:=(k,f,t))
         have hls:bD rs++[(k,f)]++t.L=bD (rs++[(k,f,t)]):=by rw [AB];simp [mD]
         have wz:(aN (iF rs)).take rs.length=aN (iF rs):=List.take_of_length_le (by rw [ai,qI];omega)
         have wA:(gD (fM rs)).take rs.length=gD (fM rs):=List.take_of_length_le (by rw [ni];simp [fM])
         have l1:(aN (iF rs)).length=rs.length:=by rw [ai,qI]
         have l2:(gD (fM rs)).length=rs.length:=by rw [ni];simp [fM]
         have l3:=kC (bD rs)
         have l4:=kC t.L
         have l5:(gj (bD rs++[(k,f)])).length=(bD rs).length+1:=by rw [kC];simp
         simp only at vV
         simp -implicitDefEqProofs only [lO,cz,bG,Option.map,Option.isSome,Pl.cells,List.map_cons,List.map_nil,List.cons_append,List.nil_append,Sz.sv,Sz.cells] at iW
         have bZ:=jr;have cm:=oM;have fT:=iW;repeat' (first | (simp -implicitDefEqProofs only [go_sem,Int.reduceNegSucc,hl,hx,wD,x1,x2,y1,y2,g0,g1,g2,List.length_drop,ug,uh,yR,vF,BB,Ba,AM,AN,AJ,mu,DD,DE,wz,wA,l1,l2,l3,l4,l5,wu,hv]) | (with_reducible refine aA ?_) | (with_reducible first | refine ag bZ ?_ | refine ah bZ ?_) | (with_reducible first | refine ag cm ?_ | refine ah cm ?_) | (with_reducible first | refine ag fT ?_ | refine ah fT ?_) | ((first | refine aj (fun hg=>?_) (fun hg=>?_) | refine ax (fun hg=>?_) (fun hg=>?_) | refine ay (fun hg=>?_) (fun hg=>?_)) <;> try simp -implicitDefEqProofs only [hg,Bool.not_true,Bool.not_false]) | ((with_reducible apply And.intro);focus (first | trivial | omega | decide | (simp -implicitDefEqProofs only [maxLen];omega) | (simp [maxLen,af,ak,an,av,ai,au,aq] <;> omega) | (omega;done))) | fail)
         have hq:rA h (rs++[(k,f,t)])=mR h (rs.length+1) ((bD rs).length+1+t.L.length) (iF rs++[((bD rs).length:Int)]) (fM rs++[f.child]) (bD rs++[(k,f)]++t.L):=by
          unfold rA
          rw [ho,hc,← hls]
          simp -implicitDefEqProofs only [List.length_append,List.length_cons,List.length_nil,Nat.zero_add]
         refine hN (k+1,rs++[(k,f,t)]) _ _ ⟨by dsimp;omega,by simp;omega,by dsimp;rw [← hls];simp;omega,?_⟩ (by dsimp;omega) ?_
         ·rw [cC]
          congr 1
          funext x
          simp
         ·dsimp
          rw [hq]
          exact nj (h':=mR h (rs.length+1) ((bD rs).length+1+t.L.length) (iF rs++[((bD rs).length:Int)]) (fM rs++[f.child]) (bD rs++[(k,f)]++t.L)) (Nat.zero_le _) (Gl _ _ _ _ _ _) (by simp [iC,lk,jH,jw,lP,mR])
   ·have aD:k=l.length:=by simp at hg;omega
    subst aD
    simp -implicitDefEqProofs only [go_sem,Int.reduceNegSucc]
    have wo:hD bx (iS l n more)=some rs:=by rw [cC,List.drop_of_length_le (by simp)];simp [hD]
    rw [wo] at hK
    clear cC wo
    refine hX _ _ _ ?_
    clear hN hX hR
    have hcl:(fM rs).length=rs.length:=by simp [fM]
    have hrl:rs.length≤1000:=by omega
    have hS:=Jb (fM rs) ot (by omega) 4 rs.length 6 (by decide)
    rw [hcl] at hS
    cases lp:ju (fM rs) ot with
    | none=>
      rw [lp] at hS
      simp -implicitDefEqProofs only [lp] at hK
      have hv:=xm ⟨0,0⟩
      simp -implicitDefEqProofs only [lB,jZ,Option.isSome,Su.sv,Su.cells,List.map_cons,List.map_nil] at hS hv
      have gO:=hS;have ie:=hv;repeat' (first | (simp -implicitDefEqProofs only [go_sem,Int.reduceNegSucc]) | (with_reducible refine aA ?_) | (refine bS gO ?_ ?_ ?_;(focus (simp [aR,aB] <;> fail));(focus (simp [aV,aQ] <;> fail))) | (refine bV gO ?_ ?_ ?_;(focus (simp [aR,aB] <;> fail));(focus (simp [aV,aQ] <;> fail))) | (with_reducible first | refine ag ie ?_ | refine ah ie ?_) | ((first | refine aj (fun hg=>?_) (fun hg=>?_) | refine ax (fun hg=>?_) (fun hg=>?_) | refine ay (fun hg=>?_) (fun hg=>?_)) <;> try simp -implicitDefEqProofs only [hg,Bool.not_true,Bool.not_false]) | ((with_reducible apply And.intro);focus (first | trivial | omega | decide | (simp -implicitDefEqProofs only [maxLen];omega) | (simp [maxLen,af,ak,an,av,ai,au,aq] <;> omega))) | fail)
      all_goals (refine (hK _ _ _ _ [] (gk _ _) ?_).2;simp [gw,bQ,newL,gB,gn,aT,aS,lk,bf,fJ,fU,fN,gL,gK,aB,gx,bl,aG,ga,gz,gS,aH,gR,aF,gd,fL,gE,ny,lU,bG,aH,aF])
    | some q=>
      obtain ⟨p,ys⟩:=q
      rw [lp] at hS
      simp -implicitDefEqProofs only [lp] at hK
      have ku:=xp lp
      simp -implicitDefEqProofs only [List.length_nil,Nat.zero_add,hcl] at ku
      have hv:=xm p.cur
      simp -implicitDefEqProofs only [lB,jZ,lG,Option.isSome,Pl.cells,Su.sv,Su.cells,List.map_cons,List.map_nil] at hS hv
      cases mQ:nG p.cur with
      | false=>
        rw [mQ] at hv
        simp -implicitDefEqProofs only [mQ,Bool.false_eq_true,if_false] at hK
        have ig:=hS;have ij:=hv;repeat' (first | (simp -implicitDefEqProofs only [go_sem,Int.reduceNegSucc]) | (with_reducible refine aA ?_) | (refine bS ig ?_ ?_ ?_;(focus (simp [aR,aB] <;> fail));(focus (simp [aV,aQ] <;> fail))) | (refine bV ig ?_ ?_ ?_;(focus (simp [aR,aB] <;> fail));(focus (simp [aV,aQ] <;> fail))) | (with_reducible first | refine ag ij ?_ | refine ah ij ?_) | ((first | refine aj (fun hg=>?_) (fun hg=>?_) | refine ax (fun hg=>?_) (fun hg=>?_) | refine ay (fun hg=>?_) (fun hg=>?_)) <;> try simp -implicitDefEqProofs only [hg,Bool.not_true,Bool.not_false]) | ((with_reducible apply And.intro);focus (first | trivial | omega | decide | (simp -implicitDefEqProofs only [maxLen];omega) | (simp [maxLen,af,ak,an,av,ai,au,aq] <;> omega))) | fail)
        all_goals (refine (hK _ _ _ _ [] (gk _ _) ?_).2;simp [gw,bQ,newL,gB,gn,aT,aS,lk,bf,fJ,fU,fN,gL,gK,aB,gx,bl,aG,ga,gz,gS,aH,gR,aF,gd,fL,gE,ny,lU,bG,aH,aF])
      | true=>
        rw [mQ] at hv
        simp -implicitDefEqProofs only [mQ,if_true] at hK
        have iq:=hS;have ir:=hv;repeat' (first | (simp -implicitDefEqProofs only [go_sem,Int.reduceNegSucc]) | (with_reducible refine aA ?_) | (refine bS iq ?_ ?_ ?_;(focus (simp [aR,aB] <;> fail));(focus (simp [aV,aQ] <;> fail))) | (refine bV iq ?_ ?_ ?_;(focus (simp [aR,aB] <;> fail));(focus (simp [aV,aQ] <;> fail))) | (with_reducible first | refine ag ir ?_ | refine ah ir ?_) | ((first | refine aj (fun hg=>?_) (fun hg=>?_) | refine ax (fun hg=>?_) (fun hg=>?_) | refine ay (fun hg=>?_) (fun hg=>?_)) <;> try simp -implicitDefEqProofs only [hg,Bool.not_true,Bool.not_false]) | ((with_reducible apply And.intro);focus (first | trivial | omega | decide | (simp -implicitDefEqProofs only [maxLen];omega) | (simp [maxLen,af,ak,an,av,ai,au,aq] <;> omega))) | fail)
        have wF:=ai ys
        have oN:=uL rs
        refine fG (ι:=Nat) (fun i=>[(127,.rv (.int .i64 i)),(126,.rv (.int .i64 rs.length)),(18,.row 3 rs.length rs.length),(16,.ptr 2 0),(23,.ptr 7 0),(25,.rv (.int .i64 (iQ p.cur))),(14,.ptr 1 0),(11,.ptr 0 0),(6,.rv (.bool ob))])
         (fun i=>mR h rs.length (bD rs).length (iF rs) (fM rs) (iK rs (ys.take i))++[some (.row 1 ys.length (aM (aN ys))),some (.var [.row 6 ys.length ys.length,.rv (.int .i64 p.iD),.rv (.int .i64 p.top.p),.rv (.int .i64 p.top.n),.rv (.int .i64 p.cur.p),.rv (.int .i64 p.cur.n),.rv (.bool p.lM)])])
         (fun i=>i≤rs.length) (fun i=>rs.length - i) 0 (Nat.zero_le _) (by rw [List.take_zero,oN];exact aU (by simp [lk])) (fun i hi K' hN hX hR=>?_)
        simp -implicitDefEqProofs only [mR,Sz.cells,go_sem,Int.reduceNegSucc]
        refine aj (fun hg=>?_) (fun hg=>?_)
        ·have hi4:i<rs.length:=by simp at hg;omega
         have wu:=cw (k:=i) (by omega)
         have ho:=CR hi4
         have wg:=qI (rs:=rs)
         have hy:=oS (show i<ys.length by omega)
         have gC:=CZ hi4 (show i<ys.length by omega)
         have iO:=Da hi4 (show i<ys.length by omega)
         have hlt:(bD (rs.take i)).length<(bD rs).length:=by
          have:=(uK rs ys i hi4 (by omega)).1
          have:=(List.getElem?_eq_some_iff.1 this).1
          rwa [mq] at this
         have gl:(gj (iK rs (ys.take i))).length=(bD rs).length:=by rw [kC,mq]
         have fE:=ai (iF rs)
         have xo:=Dz (rs[i].1,rs[i].2.1) ys[i]
         have sX:=CY (rs[i].1,rs[i].2.1)
         repeat' (first | (simp -implicitDefEqProofs only [go_sem,Int.reduceNegSucc,ho,hy,gC,iO,gl,fE,wg,xo,sX,wu,wF]) | (with_reducible refine aA ?_) | ((first | refine aj (fun hg=>?_) (fun hg=>?_) | refine ax (fun hg=>?_) (fun hg=>?_) | refine ay (fun hg=>?_) (fun hg=>?_)) <;> try simp -implicitDefEqProofs only [hg,Bool.not_true,Bool.not_false]) | ((with_reducible apply And.intro);focus (first | trivial | omega | decide | (simp -implicitDefEqProofs only [maxLen];omega) | (simp [maxLen,af,ak,an,av,ai,au,aq] <;> omega) | (omega;done))) | fail)
         exact hN (i+1) _ _ (by omega) (by omega) (aU (by simp [lk]))
        ·have hi4:i=rs.length:=by simp at hg;omega
         have iR:ys.take i=ys:=List.take_of_length_le (by omega)
         rw [iR]
         clear iR hg
         simp -implicitDefEqProofs only [go_sem,Int.reduceNegSucc]
         refine hX _ _ _ ?_
         clear hN hX hR
         have hfit:=jO (qe rs (p,ys) ob).high
         have gl:(gj (iK rs ys)).length=(bD rs).length:=by rw [kC,mq]
         simp -implicitDefEqProofs only [qe] at hfit hK
         have BF:decide ((0:Int)<0)=false:=rfl
         cases gC:p.lM with
         | true=>
           simp -implicitDefEqProofs only [gC,if_true] at hfit hK
           have iu:=hfit;repeat' (first | (simp -implicitDefEqProofs only [go_sem,Int.reduceNegSucc,gC,BF]) | (with_reducible refine aA ?_) | (with_reducible first | refine ag iu ?_ | refine ah iu ?_) | ((first | refine aj (fun hg=>?_) (fun hg=>?_) | refine ax (fun hg=>?_) (fun hg=>?_) | refine ay (fun hg=>?_) (fun hg=>?_)) <;> try simp -implicitDefEqProofs only [hg,Bool.not_true,Bool.not_false]) | ((with_reducible apply And.intro);focus (first | trivial | omega | decide | (simp -implicitDefEqProofs only [maxLen];omega) | (simp [maxLen,af,ak,an,av,ai,au,aq] <;> omega))) | fail)
           all_goals (refine (hK _ _ _ _ [none,none,none,none,none,some m1,some m2] (gk _ _) ?_).2;simp [gw,bQ,newL,gB,gn,aT,aS,lk,bf,fJ,fU,fN,gL,gK,aB,gx,bl,aG,ga,gz,gS,aH,gR,aF,gd,fL,gE,ny,lU,Pl.cells,aH,aF,gC,ku,ux,Ne.symm ux,mq])
         | false=>
           cases lf:ob <;> simp -implicitDefEqProofs only [gC,lf,Bool.false_eq_true,if_true,if_false] at hfit hK
           case' false=>obtain ⟨A,hA⟩:∃ A,A=IntKind.i64.wrap (p.iD+iQ p.cur):=⟨_,rfl⟩
           case' true=>obtain ⟨A,hA⟩:∃ A,A=p.iD:=⟨_,rfl⟩
           all_goals
            rw [← hA] at hfit hK
            by_cases hneg:0>A
            ·have g1:decide (A<0)=true:=decide_eq_true hneg
             rw [if_pos hneg] at hfit hK
             rw [hA] at g1
             have iT:=hfit;repeat' (first | (simp -implicitDefEqProofs only [go_sem,Int.reduceNegSucc,gC,lf,g1]) | (with_reducible refine aA ?_) | (with_reducible first | refine ag iT ?_ | refine ah iT ?_) | ((first | refine aj (fun hg=>?_) (fun hg=>?_) | refine ax (fun hg=>?_) (fun hg=>?_) | refine ay (fun hg=>?_) (fun hg=>?_)) <;> try simp -implicitDefEqProofs only [hg,Bool.not_true,Bool.not_false]) | ((with_reducible apply And.intro);focus (first | trivial | omega | decide | (simp -implicitDefEqProofs only [maxLen];omega) | (simp [maxLen,af,ak,an,av,ai,au,aq] <;> omega))) | fail)
             all_goals (refine (hK _ _ _ _ [none,none,none,none,none,some m1,some m2] (gk _ _) ?_).2;simp [gw,bQ,newL,gB,gn,aT,aS,lk,bf,fJ,fU,fN,gL,gK,aB,gx,bl,aG,ga,gz,gS,aH,gR,aF,gd,fL,gE,ny,lU,Pl.cells,aH,aF,gC,ku,ux,Ne.symm ux,mq])
            ·have g1:decide (A<0)=false:=decide_eq_false hneg
             rw [if_neg hneg] at hfit hK
             rw [hA] at g1 hfit hK
             have iU:=hfit;repeat' (first | (simp -implicitDefEqProofs only [go_sem,Int.reduceNegSucc,gC,lf,g1]) | (with_reducible refine aA ?_) | (with_reducible first | refine ag iU ?_ | refine ah iU ?_) | ((first | refine aj (fun hg=>?_) (fun hg=>?_) | refine ax (fun hg=>?_) (fun hg=>?_) | refine ay (fun hg=>?_) (fun hg=>?_)) <;> try simp -implicitDefEqProofs only [hg,Bool.not_true,Bool.not_false]) | ((with_reducible apply And.intro);focus (first | trivial | omega | decide | (simp -implicitDefEqProofs only [maxLen];omega) | (simp [maxLen,af,ak,an,av,ai,au,aq] <;> omega))) | fail)
             all_goals (refine (hK _ _ _ _ [none,none,none,none,none,some m1,some m2] (gk _ _) ?_).2;simp [gw,bQ,newL,gB,gn,aT,aS,lk,bf,fJ,fU,fN,gL,gK,aB,gx,bl,aG,ga,gz,gS,aH,gR,aF,gd,fL,gE,ny,lU,Pl.cells,aH,aF,gC,ku,ux,Ne.symm ux,mq])
end Go.aJ

namespace Go.aJ
open Go
theorem Mu (s:aC):∀ r∈s.cells,jD r:=by
 intro r hr
 simp -implicitDefEqProofs only [aC.cells,List.mem_cons,List.not_mem_nil,or_false] at hr
 repeat' rcases hr with rfl | hr
 all_goals first | exact .int _ _ | exact .bool _ | (subst hr;exact .int _ _)
theorem Mv (x:Nd):∀ r∈x.cells,jD r:=by
 intro r hr
 rcases List.mem_append.1 hr with hr | hr
 ·exact Mu _ r hr
 ·simp at hr;rw [hr];exact .int _ _
theorem Mt {e v:Nat} {xs:List (List RV)} (h:∀ x∈xs,∀ r∈x,jD r):nH (.row e v (aM xs)):=by
 refine .row _ _ _ (fun i x j y hx hy=>?_)
 unfold aM at hx
 rw [List.getElem?_map] at hx
 cases hq:xs[i]? with
 | none=>simp [hq] at hx
 | some z=>
   simp [hq] at hx
   subst hx
   rw [List.getElem?_map] at hy
   cases hr:z[j]? with
   | none=>simp [hr] at hy
   | some r=>simp [hr] at hy;subst hy;exact .rv _ (h z (List.mem_of_getElem? hq) r (List.mem_of_getElem? hr))
theorem Uw (l:List Nd) (hb:l.length≤8589934592) (i v m:Nat) (hne:i≠m):aL Go.Proofs.Tryz.prog 27 [.row i v l.length] [(i,.row 49 v (aM (bp l)))] [(m,.row 49 1 (aM (bp l)))] (.row m 1 l.length):=by
 have h:=IG (bp l) m (by rw [an];exact hb)
 rw [an] at h
 refine yl (rs:=[.sl 49 (bp l)]) h (fun hp hpre=>⟨?_,trivial⟩) rfl (.row _ _ _) (fun q hq=>?_)
 ·exact oF (hpre _ (.head _)) rfl (by simp [bp]) (zL l)
 ·simp at hq;subst hq
  refine ⟨Mt fun x hx=>?_,by simpa using hne⟩
  obtain ⟨n,_,rfl⟩:=List.mem_map.1 hx
  exact Mv n
theorem CO (x:Nd):(x.cells.map SV.rv).take 49=x.cells.map SV.rv:=rfl
def jk (l:List Nd) (k:Nat):List (List SV):=(List.range l.length).map fun p=>[.row (p+7) (bB l k p).length (bB l k p).length]
def iZ (l:List Nd) (k:Nat):List (Option HB):=(List.range l.length).map fun p=>some (.row 1 (bB l k p).length (aM (aN (bt (bB l k p)))))
theorem wO (l:List Nd) (k:Nat):(jk l k).length=l.length:=by simp [jk]
theorem nW (l:List Nd) (k:Nat):(iZ l k).length=l.length:=by simp [iZ]
theorem GD {l:List Nd} {k p:Nat} (hp:p<l.length):(jk l k)[p]?.getD []=[.row (p+7) (bB l k p).length (bB l k p).length]:=by simp [jk,hp]
theorem CC {l:List Nd} {k p:Nat} {C:List (Option HB)} (hp:p<l.length):aB (iZ l k++C) p=some (.row 1 (bB l k p).length (aM (aN (bt (bB l k p))))):=by
 unfold aB
 rw [List.getElem?_append_left (by rw [nW];exact hp)]
 simp [iZ,hp]
theorem CA {l:List Nd} {k:Nat} {x:Option HB} {C:List (Option HB)}:aB (iZ l k++x::C) l.length=x:=by
 unfold aB
 rw [List.getElem?_append_right (by rw [nW];exact Nat.le_refl _),nW]
 simp
theorem Gz {l:List Nd} {k:Nat} {x y:Option HB} {C:List (Option HB)}:aB (iZ l k++x::y::C) (l.length+1)=y:=by
 unfold aB
 rw [List.getElem?_append_right (by rw [nW];omega),nW,show l.length+1 - l.length=1 by omega]
 simp
theorem GB {l:List Nd} {k p:Nat} {hb:Option HB} {x y:Option HB} {C:List (Option HB)}:aB ((iZ l k).set p hb++x::C) l.length=x:=by
 unfold aB
 rw [List.getElem?_append_right (by rw [List.length_set,nW];exact Nat.le_refl _),List.length_set,nW]
 simp
theorem CE {l:List Nd} {k:Nat} {x y:Option HB} {C:List (Option HB)}:(iZ l k++x::C).set l.length y=iZ l k++y::C:=by
 rw [List.set_append_right _ _ (by rw [nW];exact Nat.le_refl _),nW,Nat.sub_self];rfl
theorem PK {l:List Nd} {k p:Nat} {y:Option HB} {C:List (Option HB)} (hp:p<l.length):(iZ l k++C).set p y=(iZ l k).set p y++C:=by
 rw [List.set_append_left _ _ (by rw [nW];exact hp)]
theorem PM (l:List Nd):iZ l 0=jf l.length 1:=by
 refine List.ext_getElem (by simp [iZ,jf]) (fun i h1 h2=>?_)
 simp [iZ,jf,uC,bt,aN,aM]
theorem GG (l:List Nd):jk l 0=iM 7 l.length l.length:=by
 refine List.ext_getElem (by simp [jk,iM]) (fun i h1 h2=>?_)
 simp [jk] at h1
 simp [jk,iM,uC,h1];omega
theorem PI {l:List Nd} {k p:Nat} (h0:0<k) (hp:aZ l k=p) (hl:p<l.length) :
 (iZ l k).set p (some (.row 1 ((bB l k p).length+1) (aM (aN (bt (bB l k p)++[(k:Int)])))))=iZ l (k+1):=by
 refine List.ext_getElem (by simp [iZ]) (fun i h1 h2=>?_)
 simp -implicitDefEqProofs only [List.getElem_set,iZ,List.getElem_map,List.getElem_range,uB]
 by_cases h:p=i
 ·subst h;simp [h0,hp,bt]
 ·rw [if_neg h,if_neg (by rw [hp];omega)];simp
theorem PS {l:List Nd} {k p:Nat} (h0:0<k) (hp:aZ l k=p) (hl:p<l.length) :
 (jk l k).set p [.row (p+7) ((bB l k p).length+1) ((bB l k p).length+1)]=jk l (k+1):=by
 refine List.ext_getElem (by simp [jk]) (fun i h1 h2=>?_)
 simp -implicitDefEqProofs only [List.getElem_set,jk,List.getElem_map,List.getElem_range,uB]
 by_cases h:p=i
 ·subst h;simp [h0,hp]
 ·rw [if_neg h,if_neg (by rw [hp];omega)];simp
theorem PF (l:List Nd):iZ l 1=iZ l 0:=by
 refine List.ext_getElem (by simp [iZ]) (fun i h1 h2=>?_)
 simp [iZ,bB,List.range_succ]
theorem PO (l:List Nd):jk l 1=jk l 0:=by
 refine List.ext_getElem (by simp [jk]) (fun i h1 h2=>?_)
 simp [jk,bB,List.range_succ]
def rE (v:Nat) (l:List Nd) (k:Nat) (es ds:List Int) (bs:List Bool):List (Option HB):=some (.row 49 v (aM (bp l)))::some (.row 49 1 (aM (bp l)))::some (.row 1 0 (jk l k))::some (.row 1 0 (aM (aN es)))::some (.row 1 0 (aM (aN ds)))::some (.row 1 0 (aM (jF bs)))::some (.var [.row 1 1 l.length,.row 2 0 l.length,.row 3 0 l.length,.row 4 0 l.length,.row 5 0 l.length])::iZ l k
theorem Cw {v:Nat} {l:List Nd} {k:Nat} {es ds:List Int} {bs:List Bool}:(rE v l k es ds bs).length=l.length+7:=by simp [rE,nW]
theorem PD {v:Nat} {l:List Nd} {k:Nat} {es ds:List Int} {bs:List Bool}:lH (nc (l.length+7)) (rE v l k es ds bs):=by
 refine ⟨jd,jd,fun i x hx=>?_,jd,jd,jd,by simp [nc,mZ,jw],lH.of fun j x hx=>?_⟩
 ·obtain ⟨hl,rfl⟩:=List.getElem?_eq_some_iff.1 hx
  simp [wO] at hl
  simp [jk,mZ,jw,hl]
 ·obtain ⟨hl,rfl⟩:=List.getElem?_eq_some_iff.1 hx
  exact ⟨.row 1 (bB l k j).length (aM (aN (bt (bB l k j)))),by simp [iZ],jd⟩
theorem Cy {v:Nat} {l:List Nd} {k:Nat} {es ds:List Int} {bs:List Bool} {env env':List (Nat×SV)} {C:List (Option HB)} (he:iC (l.length+7) env env'):gi 1 ⟨env,rE v l k es ds bs++C⟩ ⟨env',rE v l k es ds bs⟩:=
 nj (by rw [Cw];omega) (by rw [Cw];exact PD) (by rw [Cw];exact he)
theorem Sj (v:Nat) (l:List Nd) {τ:Nat→Option Nat} (me:∀ j,0<j→τ j=none):Fz τ (aB (rE v l l.length (sC l) (ck l l.length) (fZ l l.length))) (.ptr 6 0) (cu l):=by
 refine .ptr 6 [.row 1 1 l.length,.row 2 0 l.length,.row 3 0 l.length,.row 4 0 l.length,.row 5 0 l.length] _ (me _ (by decide)) rfl rfl (fun i r hr=>?_) (fun i x r hx hr=>?_)
 ·match i with
  | 0=>cases hr;rfl
  | 1=>cases hr;rfl
  | 2=>cases hr;rfl
  | 3=>cases hr;rfl
  | 4=>cases hr;rfl
  | i+5=>simp at hr
 ·match i with
  | 0=>cases hx;cases hr;exact oF rfl (me _ (by decide)) (by simp [bp]) (zL l)
  | 1=>
    cases hx;cases hr
    refine .row 2 1 0 l.length (jk l l.length) (mg l) (me _ (by decide)) rfl (by simp [mg]) (by rw [wO];exact Nat.le_refl _) (fun i x r hx hr=>?_) (fun i r k q hr hq=>?_) (fun i x r k y q hx hr hy hq=>?_)
    ·obtain ⟨_,rfl⟩:=List.getElem?_eq_some_iff.1 hx
     obtain ⟨_,rfl⟩:=List.getElem?_eq_some_iff.1 hr
     simp [jk,mg]
    ·obtain ⟨_,rfl⟩:=List.getElem?_eq_some_iff.1 hr
     have:=List.mem_of_getElem? hq
     simp [mg] at this
     rw [this];rfl
    ·obtain ⟨hl,rfl⟩:=List.getElem?_eq_some_iff.1 hx
     obtain ⟨_,rfl⟩:=List.getElem?_eq_some_iff.1 hr
     rw [wO] at hl
     cases k with
     | succ k=>simp [jk] at hy
     | zero=>
       simp [jk] at hy
       simp [mg] at hq
       subst hy;subst hq
       refine oF (xs:=aN (bt (gY l i))) ?_ (me _ (by omega)) (by simp [aN,bt,gY]) (kM _)
       have:=CC (k:=l.length) (C:=[]) hl
       rw [List.append_nil] at this
       exact this
  | 2=>cases hx;cases hr;exact oF rfl (me _ (by decide)) (by simp [aN,sC]) (kM _)
  | 3=>cases hx;cases hr;exact oF rfl (me _ (by decide)) (by simp [aN,ck]) (kM _)
  | 4=>cases hx;cases hr;exact oF rfl (me _ (by decide)) (by simp [jF,fZ]) (Ei _)
  | i+5=>simp at hx
theorem Vm (l:List Nd) (hb:l.length≤8589934592) (hc:kX l=0) (i0 v:Nat):aL Go.Proofs.Tryz.prog 9 [.row i0 v l.length] [(i0,.row 49 v (aM (bp l)))] [] (.aO [.rv (cu l),.rv (.int .i64 0)]):=by
 refine mF GJ [i0] [.row 49 v (aM (bp l))] [.row 49 v (aM (bp l))] [.row 0 v l.length] [.row i0 v l.length] _ _ (by simp) (by simp [aP,lN]) rfl (by simp [bQ]) ⟨rfl,rfl,⟨rfl,_,rfl⟩,trivial⟩ (fun K hK=>?_)
 have hlen:=an l
 have FC:=Ji l hb
 rw [hc] at FC
 have qy:=GV (id:=0) (v:=v) (n:=l.length) (bs:=[]) FC (.int _ _) (by simp [bp]) (zL l)
 have ht:fW l=true:=by
  unfold kX at hc
  cases h:fW l with
  | true=>rfl
  | false=>rw [h] at hc;simp at hc
 have hs:gF l:=uS.1 (by unfold fW at ht;simp -implicitDefEqProofs only [Bool.and_eq_true] at ht;exact ht.1)
 have oC:(((0:Int)) != 0)=false:=rfl
 conv in fc _ _ _ _=>reduce
 simp -implicitDefEqProofs only [go_sem,Int.reduceNegSucc]
 have hb2:(bp l).length≤8589934592:=by rw [hlen];exact hb
 have bh:=qy;have y_2:=Uw l hb 0 v 1 (by decide);repeat' (first | (simp -implicitDefEqProofs only [go_sem,Int.reduceNegSucc,oC,hlen,Af,IA]) | (with_reducible refine aA ?_) | (refine bS bh ?_ ?_ ?_;(focus (simp [aR,aB] <;> fail));(focus (simp [aV,aQ] <;> fail))) | (refine bV bh ?_ ?_ ?_;(focus (simp [aR,aB] <;> fail));(focus (simp [aV,aQ] <;> fail))) | (refine bS y_2 ?_ ?_ ?_;(focus (simp [aR,aB] <;> fail));(focus (simp [aV,aQ] <;> fail))) | (refine bV y_2 ?_ ?_ ?_;(focus (simp [aR,aB] <;> fail));(focus (simp [aV,aQ] <;> fail))) | ((first | refine aj (fun hg=>?_) (fun hg=>?_) | refine ax (fun hg=>?_) (fun hg=>?_) | refine ay (fun hg=>?_) (fun hg=>?_)) <;> try simp -implicitDefEqProofs only [hg,Bool.not_true,Bool.not_false]) | ((with_reducible apply And.intro);focus (first | trivial | omega | decide | (simp -implicitDefEqProofs only [maxLen];omega) | (simp [maxLen,af,ak,an,av,ai,au,aq] <;> omega))) | fail)
 have On:∀ n:Nat,jk l 0=iM 7 l.length l.length:=fun _=>GG l
 let ev:Nat→List (Nat×SV):=fun k=>[(33,.rv (.int .i64 k)),(32,.rv (.int .i64 l.length)),(31,.row 0 v l.length),(5,.ptr 6 0),(0,.row 0 v l.length)]
 refine fG (ι:=Nat) (fun k=>[(33,.rv (.int .i64 k)),(32,.rv (.int .i64 l.length)),(31,.row 0 v l.length),(5,.ptr 6 0),(0,.row 0 v l.length)]) (fun k=>some (.row 49 v (aM (bp l)))::some (.row 49 1 (aM (bp l)))::some (.row 1 0 (jk l k))::some (.row 1 0 (aM (aN (List.replicate l.length 0))))::some (.row 1 0 (aM (aN (ck l k))))::some (.row 1 0 (aM (jF (fZ l k))))::some (.var [.row 1 1 l.length,.row 2 0 l.length,.row 3 0 l.length,.row 4 0 l.length,.row 5 0 l.length])::iZ l k) (fun k=>k≤l.length) (fun k=>l.length - k) 0 (by simp) ?_ (fun k hk K' hN hX hR=>?_)
 ·refine (aU (env':=[(33,.rv (.int .i64 0)),(32,.rv (.int .i64 l.length)),(31,.row 0 v l.length),(5,.ptr 6 0),(0,.row 0 v l.length)]) (by simp [lk])).trans ?_
  rw [GG,PM,Bl,Hr]
  exact ET (r:=2) (v:=0) (n:=l.length) (e:=1) rfl
 simp -implicitDefEqProofs only [go_sem,Int.reduceNegSucc]
 refine aj (fun hg=>?_) (fun hg=>?_)
 ·have aD:k<l.length:=by simp at hg;omega
  have hx:=iP aD
  have tj:=nW l k
  have hdl:=ua l k
  have lR:=ai (ck l k)
  have pR:=lq (l:=ck l k) (i:=k) (by omega)
  have hml:=Hq l k
  have sV:=ye (fZ l k)
  have sU:=tQ (bs:=fZ l k) (i:=k) (by omega)
  have hsh:=Ds aD
  have e1:(l.length=l.length+1)=False:=eq_false (by omega)
  have e2:(l.length=l.length+2)=False:=eq_false (by omega)
  have hds:=yG aD
  have sO:=Bj aD
  have wu:=cw (k:=k) (by omega)
  by_cases gQ:0<k
  ·have hgt:decide ((k:Int)>0)=true:=decide_eq_true (by omega)
   obtain ⟨p1,p2⟩:=hs.wf.2 k gQ aD
   obtain ⟨p,hp⟩:∃ p:Nat,aZ l k=p:=⟨(aZ l k).toNat,by omega⟩
   have gl:p<l.length:=by omega
   have q0:(p=l.length)=False:=eq_false (by omega)
   have q1:(p=l.length+1)=False:=eq_false (by omega)
   have q2:(p=l.length+2)=False:=eq_false (by omega)
   have hpk:=lX aD
   have NY:(ck l k).set k 1=(ck l k).set k 1:=rfl
   have sP:((ck l k).set k 1).length=l.length:=by simp [hdl]
   have vM:=ai ((ck l k).set k 1)
   have pS:=lq (l:=(ck l k).set k 1) (i:=p) (by omega)
   have sN:=lq (l:=(ck l k).set k 1) (i:=k) (by omega)
   rw [Bi (by omega) (by omega)] at pS
   have rj:=Bm hs.wf gQ aD
   rw [hp,Int.toNat_natCast] at rj
   have wd:=cw (k:=depth l p) (by have:=uJ (l:=l) p;unfold depth;omega)
   rw [← rj] at wd
   obtain ⟨b,tc⟩:∃ b,nB l k=b:=⟨_,rfl⟩
   have hmp:=tQ (bs:=(fZ l k).set k b) (i:=p) (by simp [hml];omega)
   have hmk:=tQ (bs:=(fZ l k).set k b) (i:=k) (by simp [hml];omega)
   rw [Ho (by omega) (by omega)] at hmp
   have vW:((fZ l k).set k b).length=l.length:=by simp [hml]
   have vX:=ye ((fZ l k).set k b)
   have nt:((fZ l k).set k b).set k (b && lz l p)=fZ l (k+1):=by
    have:=Hj hs.wf gQ aD
    rw [hp,Int.toNat_natCast,tc] at this
    rw [List.set_set,← this,zF aD]
   have oK:=wO l k
   have oJ:=GD (k:=k) gl
   have nr:=fun C=>CC (k:=k) (C:=C) gl
   have hkn:=PI gQ hp gl
   have htn:=PS gQ hp gl
   have hsp:=fun (y:Option HB) C=>PK (k:=k) (y:=y) (C:=C) gl
   have gX:(bt (bB l k p)).length=(bB l k p).length:=by simp [bt]
   have oI:=ai (bt (bB l k p))
   have iR:(aN (bt (bB l k p))).take (bB l k p).length=aN (bt (bB l k p)):=List.take_of_length_le (by rw [oI,gX];exact Nat.le_refl _)
   have hkk:=th (l:=l) (k:=k) (p:=p)
   cases b
   all_goals simp -implicitDefEqProofs only [Bool.false_and,Bool.true_and] at nt
   ·repeat' (first | (simp -implicitDefEqProofs only [go_sem,Int.reduceNegSucc,hlen,hx,tj,ak,qH,CO,Nat.add_assoc,CA,List.append_assoc,hdl,lR,pR,hml,sV,sU,nA,uP,uE,hsh,tc,e1,e2,CE,hgt,hpk,hp,uF,oK,oJ,nr,q0,q1,q2,hsp,Gz,GB,gX,oI,iR,mu,hkn,htn,sP,vM,pS,sN,wd,sO,wu,hmp,hmk,vW,vX]) | (with_reducible refine aA ?_) | ((first | refine aj (fun hg=>?_) (fun hg=>?_) | refine ax (fun hg=>?_) (fun hg=>?_) | refine ay (fun hg=>?_) (fun hg=>?_)) <;> try simp -implicitDefEqProofs only [hg,Bool.not_true,Bool.not_false]) | ((with_reducible apply And.intro);focus (first | trivial | omega | decide | (simp -implicitDefEqProofs only [maxLen];omega) | (simp [maxLen,af,ak,an,av,ai,au,aq] <;> omega) | (simp (decide:=true) [pO,qX,ng,qt,Nat.testBit,q0,q1,q2];done))) | fail)
    rw [nt]
    exact hN (k+1) _ _ (by omega) (by omega) (Cy (v:=v) (l:=l) (k:=k+1) (by simp [iC,lk,jH,lP,jw]))
   ·repeat' (first | (simp -implicitDefEqProofs only [go_sem,Int.reduceNegSucc,hlen,hx,tj,ak,qH,CO,Nat.add_assoc,CA,List.append_assoc,hdl,lR,pR,hml,sV,sU,nA,uP,uE,hsh,tc,e1,e2,CE,hgt,hpk,hp,uF,oK,oJ,nr,q0,q1,q2,hsp,Gz,GB,gX,oI,iR,mu,hkn,htn,sP,vM,pS,sN,wd,sO,wu,hmp,hmk,vW,vX]) | (with_reducible refine aA ?_) | ((first | refine aj (fun hg=>?_) (fun hg=>?_) | refine ax (fun hg=>?_) (fun hg=>?_) | refine ay (fun hg=>?_) (fun hg=>?_)) <;> try simp -implicitDefEqProofs only [hg,Bool.not_true,Bool.not_false]) | ((with_reducible apply And.intro);focus (first | trivial | omega | decide | (simp -implicitDefEqProofs only [maxLen];omega) | (simp [maxLen,af,ak,an,av,ai,au,aq] <;> omega) | (simp (decide:=true) [pO,qX,ng,qt,Nat.testBit,q0,q1,q2];done))) | fail)
    rw [nt]
    exact hN (k+1) _ _ (by omega) (by omega) (Cy (v:=v) (l:=l) (k:=k+1) (by simp [iC,lk,jH,lP,jw]))
  ·obtain rfl:k=0:=by omega
   have hgt:decide (((0:Nat):Int)>0)=false:=rfl
   rw [Bn] at hds
   have nt:=zF aD
   rw [Hl] at nt
   have BU:(ck l 0).set 0 1=ck l (0+1):=hds
   repeat' (first | (simp -implicitDefEqProofs only [go_sem,Int.reduceNegSucc,hlen,hx,tj,ak,qH,CO,Nat.add_assoc,CA,List.append_assoc,hdl,lR,pR,hml,sV,sU,nA,uP,uE,hsh,e1,e2,CE,hgt,wu,nt,BU]) | (with_reducible refine aA ?_) | ((first | refine aj (fun hg=>?_) (fun hg=>?_) | refine ax (fun hg=>?_) (fun hg=>?_) | refine ay (fun hg=>?_) (fun hg=>?_)) <;> try simp -implicitDefEqProofs only [hg,Bool.not_true,Bool.not_false]) | ((with_reducible apply And.intro);focus (first | trivial | omega | decide | (simp -implicitDefEqProofs only [maxLen];omega) | (simp [maxLen,af,ak,an,av,ai,au,aq] <;> omega))) | fail)
   refine hN 1 _ _ (by omega) (by omega) ?_
   rw [PO,PF]
   exact Cy (v:=v) (l:=l) (k:=0) (es:=List.replicate l.length 0) (ds:=ck l (0+1)) (bs:=fZ l (0+1)) (C:=[some (.var ((l[0]'aD).cells.map .rv))]) (by simp [iC,lk,jH,lP,jw])
 ·have aD:k=l.length:=by simp at hg;omega
  subst aD
  simp -implicitDefEqProofs only [go_sem,Int.reduceNegSucc]
  refine hX _ _ _ ?_
  have wl:=vg hs.pos (by omega)
  repeat' (first | (simp -implicitDefEqProofs only [go_sem,Int.reduceNegSucc,hlen,wl]) | (with_reducible refine aA ?_) | ((first | refine aj (fun hg=>?_) (fun hg=>?_) | refine ax (fun hg=>?_) (fun hg=>?_) | refine ay (fun hg=>?_) (fun hg=>?_)) <;> try simp -implicitDefEqProofs only [hg,Bool.not_true,Bool.not_false]) | ((with_reducible apply And.intro);focus (first | trivial | omega | decide | (simp -implicitDefEqProofs only [maxLen];omega) | (simp [maxLen,af,ak,an,av,ai,au,aq] <;> omega))) | fail)
  clear hN hX hR
  refine fG (ι:=Nat) (fun k=>[(8,.rv (.int .i64 ((k:Int) - 1))),(5,.ptr 6 0)]) (fun k=>rE v l l.length (hU l k) (ck l l.length) (fZ l l.length)) (fun k=>k≤l.length) (fun k=>k) l.length (Nat.le_refl _) (by rw [ER];exact aU (by simp [lk];have:=hs.pos;omega)) (fun k hk K' hN hX hR=>?_)
  simp -implicitDefEqProofs only [rE,go_sem,Int.reduceNegSucc]
  refine aj (fun hg=>?_) (fun hg=>?_)
  ·have gQ:0<k:=by simp at hg;omega
   obtain ⟨j,rfl⟩:∃ j,k=j+1:=⟨k - 1,by omega⟩
   have ej:(((j+1:Nat):Int) - 1)=(j:Int):=by omega
   have wj:=cw (k:=j) (by omega)
   have hjl:j<l.length:=by omega
   have hel:=EO l (j+1)
   have vO:=ai (hU l (j+1))
   have sQ:=lq (l:=hU l (j+1)) (i:=j) (by omega)
   have oK:=wO l l.length
   have oJ:=GD (k:=l.length) hjl
   have nr:=CC (k:=l.length) (C:=[]) hjl
   simp -implicitDefEqProofs only [List.append_nil] at nr
   have gX:(bt (bB l l.length j)).length=(bB l l.length j).length:=by simp [bt]
   have oI:=ai (bt (bB l l.length j))
   have hkk:=th (l:=l) (k:=l.length) (p:=j)
   have nU:((hU l (j+1)).set j ((j+1:Nat):Int)).length=l.length:=by simp [hel]
   have Cm:=ai ((hU l (j+1)).set j ((j+1:Nat):Int))
   have iO:=EP (l:=l) (k:=j+1) (by omega) (by omega)
   simp -implicitDefEqProofs only [Nat.add_sub_cancel] at iO
   have wd:IntKind.i64.wrap ((j:Int) - 1)=((j:Int) - 1):=wrap_i64 (by omega) (by omega)
   by_cases fH:bB l l.length j=[]
   ·have hm0:decide ((((bB l l.length j).length:Nat):Int)>0)=false:=by rw [fH];rfl
    have he:=Bt fH
    rw [he] at iO
    repeat' (first | (simp -implicitDefEqProofs only [go_sem,Int.reduceNegSucc,hel,vO,sQ,oK,oJ,nr,ej,wj,hm0,nA,iO,wd]) | (with_reducible refine aA ?_) | ((first | refine aj (fun hg=>?_) (fun hg=>?_) | refine ax (fun hg=>?_) (fun hg=>?_) | refine ay (fun hg=>?_) (fun hg=>?_)) <;> try simp -implicitDefEqProofs only [hg,Bool.not_true,Bool.not_false]) | ((with_reducible apply And.intro);focus (first | trivial | omega | decide | (simp -implicitDefEqProofs only [maxLen];omega) | (simp [maxLen,af,ak,an,av,ai,au,aq] <;> omega))) | fail)
    refine hN j _ _ (by omega) (by omega) (aU (by simp [lk]))
   ·obtain ⟨c,hc⟩:∃ c,(bB l l.length j).getLast?=some c:=by
     cases h:(bB l l.length j).getLast? with
     | none=>exact absurd (List.getLast?_eq_none_iff.1 h) fH
     | some c=>exact ⟨c,rfl⟩
    have hpos:0<(bB l l.length j).length:=List.length_pos_iff.2 fH
    have hm0:decide ((((bB l l.length j).length:Nat):Int)>0)=true:=decide_eq_true (by omega)
    have nq:c∈gY l j:=List.mem_of_getLast? hc
    obtain ⟨c1,c2,c3⟩:=qG.1 nq
    have BO:j<c:=by have:=(hs.wf.2 c c1 c2).2;omega
    have he:=Bs hc BO c2
    rw [he] at iO
    have wm:=vg hpos (by omega)
    have BN:(bt (bB l l.length j)).getD ((bB l l.length j).length - 1) 0=(c:Int):=by
     rw [List.getLast?_eq_getElem?] at hc
     simp [bt,List.getD_eq_getElem?_getD,hc]
    have jU:=lq (l:=bt (bB l l.length j)) (i:=(bB l l.length j).length - 1) (by omega)
    rw [BN] at jU
    have vN:=lq (l:=(hU l (j+1)).set j ((j+1:Nat):Int)) (i:=c) (by omega)
    have qz:=EM (l:=l) (k:=j+1) (j:=c) (v:=((j+1:Nat):Int)) (by omega) (by omega) c2
    simp -implicitDefEqProofs only [Nat.add_sub_cancel] at qz
    rw [qz] at vN
    have BX:=lq (l:=(hU l (j+1)).set j ((j+1:Nat):Int)) (i:=j) (by omega)
    have ta:((hU l (j+1)).set j ((j+1:Nat):Int)).set j (iH l c)=hU l j:=by rw [List.set_set,iO]
    repeat' (first | (simp -implicitDefEqProofs only [go_sem,Int.reduceNegSucc,hel,vO,sQ,oK,oJ,nr,ej,wj,hm0,nA,wd,wm,jU,vN,BX,ta,nU,Cm,gX,oI]) | (with_reducible refine aA ?_) | ((first | refine aj (fun hg=>?_) (fun hg=>?_) | refine ax (fun hg=>?_) (fun hg=>?_) | refine ay (fun hg=>?_) (fun hg=>?_)) <;> try simp -implicitDefEqProofs only [hg,Bool.not_true,Bool.not_false]) | ((with_reducible apply And.intro);focus (first | trivial | omega | decide | (simp -implicitDefEqProofs only [maxLen];omega) | (simp [maxLen,af,ak,an,av,ai,au,aq] <;> omega))) | fail)
    refine hN j _ _ (by omega) (by omega) (aU (by simp [lk]))
  ·obtain rfl:k=0:=by simp at hg;omega
   simp -implicitDefEqProofs only [go_sem,Int.reduceNegSucc]
   refine hX _ _ _ ?_
   repeat' (first | (simp -implicitDefEqProofs only [go_sem,Int.reduceNegSucc]) | (with_reducible refine aA ?_) | ((first | refine aj (fun hg=>?_) (fun hg=>?_) | refine ax (fun hg=>?_) (fun hg=>?_) | refine ay (fun hg=>?_) (fun hg=>?_)) <;> try simp -implicitDefEqProofs only [hg,Bool.not_true,Bool.not_false]) | ((with_reducible apply And.intro);focus (first | trivial | omega | decide | (simp -implicitDefEqProofs only [maxLen];omega) | (simp [maxLen,af,ak,an,av,ai,au,aq] <;> omega))) | fail)
   refine (hK _ _ _ _ [] (gk _ _) ?_).2
   rw [ES]
   simp -implicitDefEqProofs only [gw,List.map_cons,List.map_nil,List.append_nil]
   refine ⟨by simp [bQ],trivial,trivial,⟨?_,trivial⟩,trivial,bl.2 ⟨?_,aG.2 rfl,trivial⟩⟩
   ·rw [show fN (fU ([i0].zip [HB.row 49 v (aM (bp l))]) i0) [] i0=some (HB.row 49 v (aM (bp l))) from by simp [fN,fU]]
    exact ⟨rfl,rfl,gx.2 rfl⟩
   ·exact .fz _ _ (Sj v l (fun j hj=>by cases j with
     | zero=>omega
     | succ j=>rfl))
end Go.aJ

namespace Go.aJ
open Go
theorem Qb:aX Go.Proofs.Tryz.prog 22 13 (fc Go.Proofs.Tryz.prog 22 13 [(.c 0 48 true)]) [(.c 0 48 true)]:=br (by kernel_rfl)
def CH:List CK→List RV→Bool
 | [],[]=>true
 | .b::ks,.bool _::rs=>CH ks rs
 | .i::ks,.int _ _::rs=>CH ks rs
 | .s::ks,.str _::rs=>CH ks rs
 | _,_=>false
def uH:aC:={ (default:aC) with shown:=true,pad:=⟨⟨1,0⟩,⟨1,0⟩,⟨1,0⟩,⟨1,0⟩⟩ }
def TH (k:Nat):aC:={ (default:aC) with shown:=true,pad:=⟨if 0<k then ⟨1,0⟩ else default,if 1<k then ⟨1,0⟩ else default,if 2<k then ⟨1,0⟩ else default,if 3<k then ⟨1,0⟩ else default⟩ }
theorem UO:aL Go.Proofs.Tryz.prog 22 [] [] [] uH.sv:=by
 refine bz Qb [] _ (by simp) (by simp [aP,bg,bu,aY,bq,aC.sv,Ln.sv,Nd.sv]) (fun K hK=>?_)
 conv in fc _ _ _ _=>reduce
 simp -implicitDefEqProofs only [go_sem,Int.reduceNegSucc]
 repeat' (first | (simp -implicitDefEqProofs only [go_sem,Int.reduceNegSucc]) | (with_reducible refine aA ?_) | ((first | refine aj (fun hg=>?_) (fun hg=>?_) | refine ax (fun hg=>?_) (fun hg=>?_) | refine ay (fun hg=>?_) (fun hg=>?_)) <;> try simp -implicitDefEqProofs only [hg,Bool.not_true,Bool.not_false]) | ((with_reducible apply And.intro);focus (first | trivial | omega | decide | (simp -implicitDefEqProofs only [maxLen];omega) | (simp [maxLen,af,ak,an,av,ai,au,aq] <;> omega) | (exact ⟨rfl,by decide⟩;done))) | fail)
 refine fG (ι:=Nat) (fun k=>[(4,.rv (.int .i64 k)),(0,.ptr 0 0),(1,.ptr 1 0)]) (fun k=>[some (.var ((default:aC).cells.map .rv)),some (.var ((TH k).cells.map .rv))]) (fun k=>k≤4) (fun k=>4 - k) 0 (by simp) (aU (by simp [lk])) (fun k hk K' hN hX hR=>?_)
 simp -implicitDefEqProofs only [go_sem,Int.reduceNegSucc]
 refine aj (fun hg=>?_) (fun hg=>?_)
 ·have:k=0∨k=1∨k=2∨k=3:=by simp at hg;omega
  rcases this with rfl | rfl | rfl | rfl
  all_goals
   repeat' (first | (simp -implicitDefEqProofs only [go_sem,Int.reduceNegSucc,af,cw (k:=0) (by decide),cw (k:=1) (by decide),cw (k:=2) (by decide),cw (k:=3) (by decide)]) | (with_reducible refine aA ?_) | ((first | refine aj (fun hg=>?_) (fun hg=>?_) | refine ax (fun hg=>?_) (fun hg=>?_) | refine ay (fun hg=>?_) (fun hg=>?_)) <;> try simp -implicitDefEqProofs only [hg,Bool.not_true,Bool.not_false]) | ((with_reducible apply And.intro);focus (first | trivial | omega | decide | (simp -implicitDefEqProofs only [maxLen];omega) | (simp [maxLen,af,ak,an,av,ai,au,aq] <;> omega))) | fail)
  ·exact hN 1 _ _ (by omega) (by omega) (aU (by simp [lk]))
  ·exact hN 2 _ _ (by omega) (by omega) (aU (by simp [lk]))
  ·exact hN 3 _ _ (by omega) (by omega) (aU (by simp [lk]))
  ·exact hN 4 _ _ (by omega) (by omega) (aU (by simp [lk]))
 ·have aD:k=4:=by simp at hg;omega
  subst aD
  simp -implicitDefEqProofs only [go_sem,Int.reduceNegSucc]
  refine hX _ _ _ ?_
  repeat' (first | (simp -implicitDefEqProofs only [go_sem,Int.reduceNegSucc,af,cA]) | (with_reducible refine aA ?_) | ((first | refine aj (fun hg=>?_) (fun hg=>?_) | refine ax (fun hg=>?_) (fun hg=>?_) | refine ay (fun hg=>?_) (fun hg=>?_)) <;> try simp -implicitDefEqProofs only [hg,Bool.not_true,Bool.not_false]) | ((with_reducible apply And.intro);focus (first | trivial | omega | decide | (simp -implicitDefEqProofs only [maxLen];omega) | (simp [maxLen,af,ak,an,av,ai,au,aq] <;> omega) | (rfl;done) | (exact ⟨rfl,by decide⟩;done))) | fail)
  exact (hK _ _ (Dj (rs:=uH.cells) rfl rfl rfl)).2
end Go.aJ

namespace Go.aJ
open Go
end Go.aJ

namespace Go.aJ
open Go
theorem Qd:aX Go.Proofs.Tryz.prog 14 36 (fc Go.Proofs.Tryz.prog 14 36 [(.t 0)]) [(.t 0)]:=br (by kernel_rfl)
def yP:aC:={ uH with position:=3 }
def xz:List Nd:=[⟨uH,-1⟩,⟨yP,0⟩]
theorem Ju:kX xz=0:=by decide +kernel
theorem Wi:uY (lF xz 1 10 ⟨true,0⟩ false)=0∧uX (lF xz 1 10 ⟨true,0⟩ false)=true:=by decide +kernel
theorem Ak:aL Go.Proofs.Tryz.prog 14 [] [] [] (.rv (.bool true)):=by
 refine bz Qd [] _ (by simp) (by simp [aP,bg,bu,aY,bq,aC.sv,Ln.sv,Nd.sv]) (fun K hK=>?_)
 have hk:=Vm xz (by decide) Ju 1 0
 have ht:=IQ xz (Ar (Eu Ju)) (by decide) 1 10 ⟨true,0⟩ false
 obtain ⟨h1,h2⟩:=Wi
 rw [h1,h2] at ht
 have ha:=Ut yP
 have NO:xY yP=true:=rfl
 rw [NO] at ha
 have e0:((0:Int) == 0)=true:=rfl
 conv in fc _ _ _ _=>reduce
 simp -implicitDefEqProofs only [go_sem,Int.reduceNegSucc]
 have bh:=UO;repeat' (first | (simp -implicitDefEqProofs only [go_sem,Int.reduceNegSucc,af]) | (with_reducible refine aA ?_) | (with_reducible first | refine ag bh ?_ | refine ah bh ?_) | ((first | refine aj (fun hg=>?_) (fun hg=>?_) | refine ax (fun hg=>?_) (fun hg=>?_) | refine ay (fun hg=>?_) (fun hg=>?_)) <;> try simp -implicitDefEqProofs only [hg,Bool.not_true,Bool.not_false]) | ((with_reducible apply And.intro);focus (first | trivial | omega | decide | (simp -implicitDefEqProofs only [maxLen];omega) | (simp [maxLen,af,ak,an,av,ai,au,aq] <;> omega))) | fail)
 refine bV hk (TJ rfl) trivial ?_
 simp -implicitDefEqProofs only [Sz.sv,Sz.cells,List.map_cons,List.map_nil] at ht
 have hz:List.take 48 (List.take 1 (List.map SV.rv uH.cells)++[SV.rv (RV.int IntKind.i64 3)]++List.drop 2 (List.map SV.rv uH.cells))=yP.cells.map SV.rv:=rfl
 have y_2:=ht;have bC:=ha;repeat' (first | (simp -implicitDefEqProofs only [go_sem,Int.reduceNegSucc,e0,hz]) | (with_reducible refine aA ?_) | (with_reducible first | refine ag y_2 ?_ | refine ah y_2 ?_) | (with_reducible first | refine ag bC ?_ | refine ah bC ?_) | ((first | refine aj (fun hg=>?_) (fun hg=>?_) | refine ax (fun hg=>?_) (fun hg=>?_) | refine ay (fun hg=>?_) (fun hg=>?_)) <;> try simp -implicitDefEqProofs only [hg,Bool.not_true,Bool.not_false]) | ((with_reducible apply And.intro);focus (first | trivial | omega | decide | (simp -implicitDefEqProofs only [maxLen];omega) | (simp [maxLen,af,ak,an,av,ai,au,aq] <;> omega))) | fail)
 exact (hK _ _ (bU rfl)).2
end Go.aJ

namespace Go.aJ
open Go
theorem Qc:aX Go.Proofs.Tryz.prog 5 127 (fc Go.Proofs.Tryz.prog 5 127 [(.t 10)]) [(.t 10)]:=br (by kernel_rfl)
theorem KT {l:List Nd} {k:Nat} {x:Nd} (h:x∈gW l k):x∈l∨x=xq (l.getD k default):=List.mem_or_eq_of_mem_set h
theorem KU {l:List Nd} {k:Nat} (hk:k<l.length) (ht:fW l=true):fW (gW l k)=true:=by
 have hs:=DQ (Ar ht) k
 unfold fW at ht ⊢
 rw [Bool.and_eq_true] at ht ⊢
 refine ⟨uS.2 hs,List.all_eq_true.2 fun x hx=>?_⟩
 rcases KT hx with h | rfl
 ·exact List.all_eq_true.1 ht.2 x h
 ·have hm:l.getD k default∈l:=by
   rw [List.getD_eq_getElem?_getD,List.getElem?_eq_getElem hk];exact List.getElem_mem hk
  have h2:=List.all_eq_true.1 ht.2 (l.getD k default) hm
  generalize (l.getD k default)=y at *
  show jb { y.s with position:=0 } = true
  unfold jb at h2 ⊢
  simp -implicitDefEqProofs only [Bool.and_eq_true] at h2 ⊢
  refine ⟨h2.1,?_⟩
  have h3:=h2.2
  unfold rR at h3 ⊢
  simp -implicitDefEqProofs only [Bool.and_eq_true] at h3 ⊢
  exact ⟨⟨⟨⟨rfl,rfl⟩,h3.1.1.2⟩,h3.1.2⟩,h3.2⟩
theorem Sl {m1 m2:Nat} (o:Option La):iL (ny m1 m2 o):=by
 cases o with
 | none=>
   refine vB fun y hy=>?_
   simp -implicitDefEqProofs only [bG,List.map_cons,List.map_nil,List.mem_cons,List.not_mem_nil,or_false] at hy
   rcases hy with rfl | rfl | rfl | rfl | rfl | rfl | rfl | rfl | rfl <;> exact .rv _ (by constructor)
 | some t=>
   refine vB fun y hy=>?_
   simp -implicitDefEqProofs only [Pl.cells,List.map_cons,List.map_nil,List.map_append,List.mem_cons,List.mem_append,List.not_mem_nil,or_false] at hy
   rcases hy with rfl | rfl | (rfl | rfl | rfl | rfl | rfl | rfl) | rfl <;> first | exact .row _ _ _ | exact .rv _ (by constructor)
theorem TB (v:Nat) (L:List (Nat×Fm)):nH (.row 26 v (aM (gj L))):=.row _ _ _ fun i x j y hx hy=>by
 simp -implicitDefEqProofs only [aM,List.getElem?_map,Option.map_eq_some_iff,gj] at hx
 obtain ⟨a,⟨q,_,rfl⟩,rfl⟩:=hx
 have hm:=List.mem_of_getElem? hy
 simp -implicitDefEqProofs only [jM,Fm.cells,Q4.ints,Ch.cells,List.map_cons,List.map_nil,List.cons_append,List.nil_append,List.mem_cons,List.not_mem_nil,or_false] at hm
 rcases hm with h | h | h | h | h | h | h | h | h | h | h | h | h | h | h | h | h | h | h | h | h | h | h | h | h | h <;>(rw [h];exact .rv _ (by constructor))
theorem OZ (v:Nat) (xs:List Int):nH (.row 1 v (aM (aN xs))):=.row _ _ _ fun i x j y hx hy=>by
 simp -implicitDefEqProofs only [aM,List.getElem?_map,Option.map_eq_some_iff,aN] at hx
 obtain ⟨a,⟨b,_,rfl⟩,rfl⟩:=hx
 cases j with
 | zero=>simp at hy;subst hy;exact .rv _ (.int _ _)
 | succ j=>simp at hy
theorem VO (l:List Nd) (ht:fW l=true) (hs:gF l) (hb:l.length≤900) (n:Nat) (hn:n<l.length) (w:Int) (h:Sz) (ot:Bool) (j v m1 m2:Nat) (h12:m1≠m2) (h1:j≠m1) (h2:j≠m2) :
 aL Go.Proofs.Tryz.prog 18 [.row j v l.length,.rv (.int .i64 n),.rv (.int .i64 (-1)),.rv (.int .i64 w),h.sv,.rv (.bool ot),.rv (.bool false)] [(j,.row 49 v (aM (bp l)))] (lU m1 m2 (jK l n (bn l n) w h ot).1) (.aO [ny m1 m2 (jK l n (bn l n) w h ot).1,.rv (.bool (jK l n (bn l n) w h ot).2)]):=by
 have H:=VM m1 m2 h12 l ht (by omega) n hn (-1) w h ot false (fun m=>kW l (l.length+1) m w h (bJ l n).bO) (fun m hk q hq=>by
  rw [zE l n hn] at hk
  have h1:=tT hs _ m _ _ _ q (tf hs hk) hq
  have h2:=(hs.sB (tf hs hk)).2
  omega) (fun nS m hk=>by
  rw [zE l n hn] at hk
  have hx:=Jc l ht hs (by omega) (l.length+1) m w h (bJ l n).bO (tf hs hk) (by omega)
  rw [Fj hk,nS] at hx
  exact hx)
 rw [zE l n hn] at H
 refine tU H rfl (fun hp hpre k y r hy hr=>?_) (Bz fun y hy=>?_) (fun q hq=>?_)
 ·match k with
  | 0=>
    cases hy;cases hr
    have:=nP (h:=hp) (τ:=fun _=>none) (j:=j) (e:=49) (az:=v) (len:=l.length) (xs:=bp l) (hpre _ (.head _)) rfl (by rw [an];omega) (fun x hx r hr=>by
     obtain ⟨c,_,rfl⟩:=List.mem_map.1 hx
     exact HC c r hr)
    rw [List.take_of_length_le (by rw [an];omega)] at this
    exact .fz _ _ this
  | 1=>cases hy;cases hr;exact aG.2 rfl
  | 2=>cases hy;cases hr;exact aG.2 rfl
  | 3=>cases hy;cases hr;exact aG.2 rfl
  | 4=>cases hy;cases hr;exact aH.2 (fL.2 rfl)
  | 5=>cases hy;cases hr;exact aG.2 rfl
  | 6=>cases hy;cases hr;exact aG.2 rfl
  | k+7=>simp at hy
 ·simp -implicitDefEqProofs only [List.mem_cons,List.not_mem_nil,or_false] at hy
  rcases hy with rfl | rfl
  ·exact Sl _
  ·exact .rv _ (.bool _)
 ·revert hq
  show q∈lU m1 m2 (jK l n (bn l n) w h ot).1→_
  cases (jK l n (bn l n) w h ot).1 with
  | none=>simp [lU]
  | some t=>
    simp -implicitDefEqProofs only [lU,List.mem_cons,List.not_mem_nil,or_false]
    rintro (rfl | rfl)
    ·refine ⟨TB _ _,fun p hp=>?_⟩
     subst hp;exact h1
    ·refine ⟨OZ _ _,fun p hp=>?_⟩
     subst hp;exact h2
theorem Lv (a:Int):(a == a)=true:=by simp
theorem JJ (n:Int):IntKind.i64.wrap n=if 9223372036854775808≤n % 18446744073709551616 then n % 18446744073709551616 - 18446744073709551616 else n % 18446744073709551616:=by
 unfold IntKind.wrap
 simp -implicitDefEqProofs only [IntKind.signed,IntKind.bits]
 by_cases h:(9223372036854775808:Int)≤n % 18446744073709551616 <;> simp [h]
theorem Wg {f:Fm} (h:uX (some f)=true):uY (some f)=IntKind.i64.wrap (f.y - f.bA.a):=by
 have h2:uY (some f)=[f.y,IntKind.i64.wrap (0 - f.bA.a)].sum:=by
  show cq _=_
  unfold cq
  exact if_pos h
 rw [h2]
 have h3:fV [f.y,IntKind.i64.wrap (0 - f.bA.a)]=true:=h
 simp -implicitDefEqProofs only [fV,List.all_cons,List.all_nil,Bool.and_true,Bool.and_eq_true,je,List.sum_cons,List.sum_nil,Int.add_zero] at h3 ⊢
 rw [JJ (0 - f.bA.a)] at h3 ⊢
 rw [JJ]
 split at h3 <;> split <;> omega
theorem Ih:∀ (rs:List (Nat×Fm×La)) (ys:List Int),(iK rs ys).map (·.1)=(bD rs).map (·.1)
 | [],_=>rfl
 | r::rs,[]=>by rw [uL]
 | r::rs,y::ys=>by
   have:=Ih rs ys
   rw [iK]
   simp -implicitDefEqProofs only [List.map_cons,List.map_append,this]
   simp [bD,mD]
theorem Io {bx:Nat→Option (Fm×La)}:∀ {ks:List Nat} {rs:List (Nat×Fm×La)},hD bx ks=some rs→∀ m∈ks,m∈(bD rs).map (·.1)
 | [],_,_,m,hm=>by simp at hm
 | a::ks,rs,h,m,hm=>by
   rw [hD] at h
   split at h
   ·rename_i z hz
    rw [Option.map_eq_some_iff] at h
    obtain ⟨rs',h1,rfl⟩:=h
    show m∈(mD (a,z)++bD rs').map (·.1)
    rw [List.map_append,List.mem_append]
    rcases List.mem_cons.1 hm with rfl | hm
    ·exact .inl (.head _)
    ·exact .inr (Io h1 m hm)
   ·cases h
theorem OX {l:List Nd} {n:Int} {ks:List Nat} {w:Int} {h:Sz} {ot:Bool} {t:La} (ht:(jK l n ks w h ot).1=some t) {k:Nat} (hk:k∈ks):(t.L.find? fun q=>((q.1:Int) ==(k:Int)))≠none:=by
 obtain ⟨rs,q,h1,h2,rfl⟩:=Ct ht
 intro hn
 rw [List.find?_eq_none] at hn
 have hm:=Io h1 k hk
 rw [← Ih rs q.2] at hm
 obtain ⟨z,hz,he⟩:=List.mem_map.1 hm
 have:=hn z hz
 simp at this
 exact this (by omega)
theorem OY {l:List Nd} {n:Int} {ks:List Nat} {w:Int} {h:Sz} {ot:Bool} (ht:(jK l n ks w h ot).2=true):ic w h=true∧(jK l n ks w h ot).1.isSome=true:=by
 refine ⟨?_,Cu ht⟩
 cases hm:ic w h with
 | true=>rfl
 | false=>rw [Gm l n ks w h ot hm] at ht;cases ht
theorem SX (x:Nd):List.take 1 (List.map SV.rv x.cells)++[SV.rv (RV.int IntKind.i64 0)]++List.drop 2 (List.map SV.rv x.cells)=(xq x).cells.map SV.rv:=rfl
theorem UN (l:List Nd) (n w:Int) (h:Sz) (op:Bool):aL Go.Proofs.Tryz.prog 5 [.rv (.sl 49 (bp l)),.rv (.int .i64 n),.rv (.int .i64 w),h.sv,.rv (.bool op)] [] [] (.rv (.bool true)):=by
 refine bz Qc [.rv (.sl 49 (bp l)),.rv (.int .i64 n),.rv (.int .i64 w),h.sv,.rv (.bool op)] _ (by simp) (by simp [aP,bg,bu,aY,bq,aC.sv,Ln.sv,Nd.sv]) (fun K hK=>?_)
 have hlen:=an l
 conv in fc _ _ _ _=>reduce
 simp -implicitDefEqProofs only [Sz.sv,Sz.cells,go_sem,Int.reduceNegSucc]
 by_cases hl:l.length>20
 ·have e1:decide ((l.length:Int)>20)=true:=decide_eq_true (by omega)
  have bh:=Ak;repeat' (first | (simp -implicitDefEqProofs only [go_sem,Int.reduceNegSucc,hlen,e1]) | (with_reducible refine aA ?_) | (with_reducible first | refine ag bh ?_ | refine ah bh ?_) | ((first | refine aj (fun hg=>?_) (fun hg=>?_) | refine ax (fun hg=>?_) (fun hg=>?_) | refine ay (fun hg=>?_) (fun hg=>?_)) <;> try simp -implicitDefEqProofs only [hg,Bool.not_true,Bool.not_false]) | ((with_reducible apply And.intro);focus (first | trivial | omega | decide | (simp -implicitDefEqProofs only [maxLen];omega) | (simp [maxLen,af,ak,an,av,ai,au,aq] <;> omega))) | fail)
  exact (hK _ _ (bU rfl)).2
 ·have e1:decide ((l.length:Int)>20)=false:=decide_eq_false (by omega)
  have qy:=VB l (by omega)
  by_cases hc:kX l=0
  ·have ht:=Eu hc
   have hs:=Ar ht
   rw [hc] at qy
   have oC:((0:Int) != 0)=false:=rfl
   have Bo:((0:Int) == 0)=true:=rfl
   have ho:=Am l ht n
   cases hout:ja l n with
   | false=>
     rw [hout] at ho
     have y_2:=Ak;have bC:=qy;have bI:=ho;repeat' (first | (simp -implicitDefEqProofs only [go_sem,Int.reduceNegSucc,hlen,e1,oC]) | (with_reducible refine aA ?_) | (with_reducible first | refine ag y_2 ?_ | refine ah y_2 ?_) | (with_reducible first | refine ag bC ?_ | refine ah bC ?_) | (with_reducible first | refine ag bI ?_ | refine ah bI ?_) | ((first | refine aj (fun hg=>?_) (fun hg=>?_) | refine ax (fun hg=>?_) (fun hg=>?_) | refine ay (fun hg=>?_) (fun hg=>?_)) <;> try simp -implicitDefEqProofs only [hg,Bool.not_true,Bool.not_false]) | ((with_reducible apply And.intro);focus (first | trivial | omega | decide | (simp -implicitDefEqProofs only [maxLen];omega) | (simp [maxLen,af,ak,an,av,ai,au,aq] <;> omega))) | fail)
     exact (hK _ _ (bU rfl)).2
   | true=>
     rw [hout] at ho
     obtain ⟨k,rfl,k0,kl⟩:=HQ hout
     have Om:=Vl l (by omega) hc
     have Gc:=IQ l hs (by omega) k w h op
     have hu:=hs.up k k0 kl
     have hx:=iP kl
     have sY:(l[k]'kl).parent=(((aZ l k).toNat:Nat):Int):=by rw [lX kl];omega
     have hpa:mm l k=(((aZ l k).toNat:Nat):Int):=by unfold mm;rw [if_pos (nv kl),Int.toNat_natCast];omega
     have x1:=ak (l[k]'kl)
     have x2:=kz (l[k]'kl)
     rw [sY] at x2
     simp -implicitDefEqProofs only [Sz.sv,Sz.cells,List.map_cons,List.map_nil] at Gc
     have Ov:(bp l).take l.length=bp l:=List.take_of_length_le (by omega)
     have bK:=Ak;have bM:=qy;have bN:=ho;have bR:=Om;have bZ:=Gc;repeat' (first | (simp -implicitDefEqProofs only [go_sem,Int.reduceNegSucc,hlen,e1,oC,hx,x1,x2,List.length_drop,Ov]) | (with_reducible refine aA ?_) | (with_reducible first | refine ag bK ?_ | refine ah bK ?_) | (with_reducible first | refine ag bM ?_ | refine ah bM ?_) | (with_reducible first | refine ag bN ?_ | refine ah bN ?_) | (with_reducible first | refine ag bR ?_ | refine ah bR ?_) | (with_reducible first | refine ag bZ ?_ | refine ah bZ ?_) | ((first | refine aj (fun hg=>?_) (fun hg=>?_) | refine ax (fun hg=>?_) (fun hg=>?_) | refine ay (fun hg=>?_) (fun hg=>?_)) <;> try simp -implicitDefEqProofs only [hg,Bool.not_true,Bool.not_false]) | ((with_reducible apply And.intro);focus (first | trivial | omega | decide | (simp -implicitDefEqProofs only [maxLen];omega) | (simp [maxLen,af,ak,an,av,ai,au,aq] <;> omega) | (omega;done))) | fail)
     have hgd:l.getD k default=l[k]'kl:=by simp [List.getD_eq_getElem?_getD,kl]
     have ta:(aM (bp l)).set k ((xq (l[k]'kl)).cells.map SV.rv)=aM (bp (gW l k)):=by
      unfold gW
      rw [hgd]
      simp [aM,bp,List.map_set]
     have gl:=qm l k
     have hin:=VO (gW l k) (KU kl ht) (DQ hs k) (by omega) (aZ l k).toNat (by omega) w h op 1 1 2 3 (by decide) (by decide) (by decide)
     rw [gl,KQ hs (by omega) kl k0 (by omega) hout w h op] at hin
     have Gh:lF l k w h op=Ax k (jK l (aZ l k).toNat (iX (bn l (aZ l k).toNat) k) w h op):=by
      unfold lF
      rw [if_pos hout,hpa,Int.toNat_natCast]
     have hmay:=@OY l (aZ l k).toNat (iX (bn l (aZ l k).toNat) k) w h op
     have zc:=fun t=>@OX l (aZ l k).toNat (iX (bn l (aZ l k).toNat) k) w h op t
     have FU:=fun t=>@Gk l hs (aZ l k).toNat (iX (bn l (aZ l k).toNat) k) w h op t (fun m hm=>by
      rcases uz.1 hm with rfl | hm
      ·exact kl
      ·exact tf hs hm)
     have hki:k∈iX (bn l (aZ l k).toNat) k:=uz.2 (.inl rfl)
     have hks:(iX (bn l (aZ l k).toNat) k).length≤21:=by rw [zy];have:=vC l (aZ l k).toNat;omega
     generalize iX (bn l (aZ l k).toNat) k=ks at *
     generalize jK l (aZ l k).toNat ks w h op=r at *
     obtain ⟨r1,r2⟩:=r
     dsimp at hin hmay zc FU
     simp -implicitDefEqProofs only [SX,ta]
     simp -implicitDefEqProofs only [Sz.sv,Sz.cells,List.map_cons,List.map_nil] at hin
     refine bV hin (by simp [aR,aB]) (by cases r1 <;> simp [aV,aQ,lU]) ?_
     cases r2 with
     | false=>
       have hno:uX (lF l k w h op)=false:=by rw [Gh];rfl
       cases r1 with
       | none=>
         simp -implicitDefEqProofs only [ny,lU,bG,List.map_cons,List.map_nil]
         repeat' (first | (simp -implicitDefEqProofs only [go_sem,Int.reduceNegSucc,oC,Bo,hno]) | (with_reducible refine aA ?_) | ((first | refine aj (fun hg=>?_) (fun hg=>?_) | refine ax (fun hg=>?_) (fun hg=>?_) | refine ay (fun hg=>?_) (fun hg=>?_)) <;> try simp -implicitDefEqProofs only [hg,Bool.not_true,Bool.not_false]) | ((with_reducible apply And.intro);focus (first | trivial | omega | decide | (simp -implicitDefEqProofs only [maxLen];omega) | (simp [maxLen,af,ak,an,av,ai,au,aq] <;> omega))) | fail)
         all_goals exact (hK _ _ (bU rfl)).2
       | some t=>
         simp -implicitDefEqProofs only [ny,lU,Pl.cells,List.map_cons,List.map_nil,List.cons_append,List.nil_append]
         repeat' (first | (simp -implicitDefEqProofs only [go_sem,Int.reduceNegSucc,oC,Bo,hno]) | (with_reducible refine aA ?_) | ((first | refine aj (fun hg=>?_) (fun hg=>?_) | refine ax (fun hg=>?_) (fun hg=>?_) | refine ay (fun hg=>?_) (fun hg=>?_)) <;> try simp -implicitDefEqProofs only [hg,Bool.not_true,Bool.not_false]) | ((with_reducible apply And.intro);focus (first | trivial | omega | decide | (simp -implicitDefEqProofs only [maxLen];omega) | (simp [maxLen,af,ak,an,av,ai,au,aq] <;> omega))) | fail)
         all_goals exact (hK _ _ (bU rfl)).2
     | true=>
       obtain ⟨my,hsome⟩:=hmay rfl
       obtain ⟨t,rfl⟩:=Option.isSome_iff_exists.1 hsome
       simp -implicitDefEqProofs only [ic,Bool.and_eq_true,decide_eq_true_eq] at my
       have e2:decide (w<0)=false:=decide_eq_false (by omega)
       have e3:decide (w>1125899906842624)=false:=decide_eq_false (by omega)
       have zc:=zc t rfl hki
       obtain ⟨Xo,Xp⟩:=FU t rfl
       have htl:t.L.length≤1000:=by
        have:ks.length*(l.length+1)≤21*21:=Nat.mul_le_mul hks (by omega)
        omega
       have OM:lF l k w h op=(t.L.find? fun q=>((q.1:Int) ==(k:Int))).map (·.2):=Gh
       have zo:=kC t.L
       simp -implicitDefEqProofs only [ny,lU,Pl.cells,List.map_cons,List.map_nil,List.cons_append,List.nil_append]
       repeat' (first | (simp -implicitDefEqProofs only [go_sem,Int.reduceNegSucc,oC,Bo,e2,e3,zo]) | (with_reducible refine aA ?_) | ((first | refine aj (fun hg=>?_) (fun hg=>?_) | refine ax (fun hg=>?_) (fun hg=>?_) | refine ay (fun hg=>?_) (fun hg=>?_)) <;> try simp -implicitDefEqProofs only [hg,Bool.not_true,Bool.not_false]) | ((with_reducible apply And.intro);focus (first | trivial | omega | decide | (simp -implicitDefEqProofs only [maxLen];omega) | (simp [maxLen,af,ak,an,av,ai,au,aq] <;> omega))) | fail)
       refine fG (ι:=Nat) (fun i=>[(97,.rv (.int .i64 i)),(96,.rv (.int .i64 t.L.length)),(16,.ptr 4 0),(1,.rv (.int .i64 k)),(13,.rv (.int .i64 (uY (lF l k w h op)))),(14,.rv (.bool (uX (lF l k w h op))))])
        (fun _=>[some (.var (h.cells.map .rv)),some (.row 49 1 (aM (bp (gW l k)))),some (.row 26 (2*t.ys.length) (aM (gj t.L))),some (.row 1 t.ys.length (aM (aN t.ys))),some (.var (.row 2 (2*t.ys.length) t.L.length :: .row 3 t.ys.length t.ys.length::(t.p.cells++[RV.int .i64 t.high]).map .rv))])
        (fun i=>i≤t.L.length∧(t.L.find? fun q=>((q.1:Int) ==(k:Int)))=(t.L.drop i).find? fun q=>((q.1:Int) ==(k:Int))) (fun i=>t.L.length - i) 0 ⟨Nat.zero_le _,rfl⟩ (aU (by simp [lk])) (fun i hi K' hN hX hR=>?_)
       obtain ⟨hi,jI⟩:=hi
       simp -implicitDefEqProofs only [Pl.cells,Sz.cells,go_sem,Int.reduceNegSucc]
       refine aj (fun hg=>?_) (fun hg=>?_)
       ·have hi4:i<t.L.length:=by simp at hg;omega
        have wu:=cw (k:=i) (by omega)
        have y1:(aM (gj t.L))[i]?.getD []=(jM (t.L[i]'hi4)).map SV.rv:=by simp [aM,gj,hi4]
        rw [List.drop_eq_getElem_cons hi4,List.find?_cons] at jI
        generalize t.L[i]=q at *
        have z1:=HU q
        have z2:=HV q
        have z5:=HW q
        have z6:=HX q
        have z7:=HY q
        have z8:=ug q.2
        have z9:=Fo q.2
        have Kw:=Fl q.2
        have Kx:=uh q.2
        have Ky:=vF q.2
        cases hq:((q.1:Int) ==(k:Int)) with
        | true=>
          rw [hq] at jI
          dsimp at jI
          have hwf:lF l k w h op=some q.2:=by rw [OM,jI];rfl
          cases hok:uX (lF l k w h op) with
          | false=>
            repeat' (first | (simp -implicitDefEqProofs only [go_sem,Int.reduceNegSucc,y1,z1,z2,z5,z6,z7,z8,z9,Kw,Kx,Ky,zo,hq,hok,List.length_map,List.append_nil,List.length_drop]) | (with_reducible refine aA ?_) | ((first | refine aj (fun hg=>?_) (fun hg=>?_) | refine ax (fun hg=>?_) (fun hg=>?_) | refine ay (fun hg=>?_) (fun hg=>?_)) <;> try simp -implicitDefEqProofs only [hg,Bool.not_true,Bool.not_false]) | ((with_reducible apply And.intro);focus (first | trivial | omega | decide | (simp -implicitDefEqProofs only [maxLen];omega) | (simp [maxLen,af,ak,an,av,ai,au,aq] <;> omega) | (omega;done))) | fail)
            exact hR _ _ (hK _ _ (bU rfl)).2
          | true=>
            rw [hwf] at hok
            have gC:uY (lF l k w h op)=IntKind.i64.wrap (q.2.y - q.2.bA.a):=by rw [hwf];exact Wg hok
            rw [← hwf] at hok
            repeat' (first | (simp -implicitDefEqProofs only [go_sem,Int.reduceNegSucc,y1,z1,z2,z5,z6,z7,z8,z9,Kw,Kx,Ky,zo,hq,hok,gC,Lv,List.length_map,List.append_nil,List.length_drop]) | (with_reducible refine aA ?_) | ((first | refine aj (fun hg=>?_) (fun hg=>?_) | refine ax (fun hg=>?_) (fun hg=>?_) | refine ay (fun hg=>?_) (fun hg=>?_)) <;> try simp -implicitDefEqProofs only [hg,Bool.not_true,Bool.not_false]) | ((with_reducible apply And.intro);focus (first | trivial | omega | decide | (simp -implicitDefEqProofs only [maxLen];omega) | (simp [maxLen,af,ak,an,av,ai,au,aq] <;> omega) | (omega;done))) | fail)
            exact hR _ _ (hK _ _ (bU rfl)).2
        | false=>
          rw [hq] at jI
          dsimp at jI
          repeat' (first | (simp -implicitDefEqProofs only [go_sem,Int.reduceNegSucc,y1,z1,z2,z5,z6,z7,z8,zo,hq,wu,List.length_map,List.append_nil,List.length_drop]) | (with_reducible refine aA ?_) | ((first | refine aj (fun hg=>?_) (fun hg=>?_) | refine ax (fun hg=>?_) (fun hg=>?_) | refine ay (fun hg=>?_) (fun hg=>?_)) <;> try simp -implicitDefEqProofs only [hg,Bool.not_true,Bool.not_false]) | ((with_reducible apply And.intro);focus (first | trivial | omega | decide | (simp -implicitDefEqProofs only [maxLen];omega) | (simp [maxLen,af,ak,an,av,ai,au,aq] <;> omega) | (omega;done))) | fail)
          exact hN (i+1) _ _ ⟨by omega,jI⟩ (by omega) (aU (by simp [lk]))
       ·have hi4:i=t.L.length:=by simp at hg;omega
        subst hi4
        rw [List.drop_length,List.find?_nil] at jI
        exact absurd jI zc
  ·have oC:(kX l != 0)=true:=by simpa using hc
   have cm:=Ak;have fT:=qy;repeat' (first | (simp -implicitDefEqProofs only [go_sem,Int.reduceNegSucc,hlen,e1,oC]) | (with_reducible refine aA ?_) | (with_reducible first | refine ag cm ?_ | refine ah cm ?_) | (with_reducible first | refine ag fT ?_ | refine ah fT ?_) | ((first | refine aj (fun hg=>?_) (fun hg=>?_) | refine ax (fun hg=>?_) (fun hg=>?_) | refine ay (fun hg=>?_) (fun hg=>?_)) <;> try simp -implicitDefEqProofs only [hg,Bool.not_true,Bool.not_false]) | ((with_reducible apply And.intro);focus (first | trivial | omega | decide | (simp -implicitDefEqProofs only [maxLen];omega) | (simp [maxLen,af,ak,an,av,ai,au,aq] <;> omega))) | fail)
   exact (hK _ _ (bU rfl)).2
end Go.aJ
