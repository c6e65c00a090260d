/- Part 5 of the proof: G10, G11, G12, K9R, K13, F13, FL. -/
import Derived.Test.YtnaoehbodmiekaaGreatFlowLays4
set_option linter.unusedSimpArgs false
set_option linter.unusedVariables false
set_option maxRecDepth 100000
set_option maxHeartbeats 16000000
namespace Go.aJ
open Go
theorem FI:aT Go.Proofs.Tryz.prog 11 275 (fc Go.Proofs.Tryz.prog 11 275 [(.c 10 25 true),(.c 11 9 true),(.t 12)]) [(.c 10 25 true),(.c 11 9 true),(.t 12)]:=bn (by kernel_rfl)
def Di (l:List Nd) (ins:Ed→Ao→Option La×Bool) (n:Int) (w:Int) (h:Sz) (bH:Bool):Option (Fm×La):=if (gW l n && jn w h)=true then qC l ins n w h bH else none
theorem Uw (l:List Nd) (ht:fU l=true) (hb:l.length≤1000000) (n:Int) (w:Int) (h:Sz) (bH:Bool) (ins:Ed→Ao→Option La×Bool) (hr:∀ e x,(ins e x).2=true→(ins e x).1.isSome=true)
 (hI:∀ x:Ao,aG Go.Proofs.Tryz.prog 18 [.rv (.sl 49 (bu l)),.rv (.int .i64 n),.rv (.int .i64 (-1)),.rv (.int .i64 x.w),(mm (ck l n w h)).sv,.rv (.bool (ck l n w h).nE),.rv (.bool (ck l n w h).lC)] [] [] (.aP [.agg ((bz (ins (ck l n w h) x).1).map .rv),.rv (.bool (ins (ck l n w h) x).2)])) :
 aG Go.Proofs.Tryz.prog 11 [.rv (.sl 49 (bu l)),.rv (.int .i64 n),.rv (.int .i64 w),h.sv,.rv (.bool bH)] [] [] (jD (Di l ins n w h bH)):=by
 refine bt FI [.rv (.sl 49 (bu l)),.rv (.int .i64 n),.rv (.int .i64 w),h.sv,.rv (.bool bH)] _ (by simp) (by simp [aO,aW,bl,aQ,aY,aC.sv,Ln.sv,Nd.sv]) (fun K hK=>?_)
 have hm:=wH l ht n
 have hw:=HT w h
 have qO:=an l
 unfold Di at hK
 cases ja:gW l n with
 | false=>
   rw [ja] at hm
   simp -implicitDefEqProofs only [ja,Bool.false_and,Bool.false_eq_true,if_false] at hK
   conv in fc _ _ _ _=>reduce
   simp -implicitDefEqProofs only [Sz.sv,Sz.cells,go_sem,Int.reduceNegSucc] at hw ⊢
   have aS:=hm;have y_2:=hw;repeat' (first | (simp -implicitDefEqProofs only [go_sem,Int.reduceNegSucc]) | (with_reducible refine aA ?_) | (with_reducible first | refine ag aS ?_ | refine ah aS ?_) | (with_reducible first | refine ag y_2 ?_ | refine ah y_2 ?_) | ((first | refine ai (fun hg=>?_) (fun hg=>?_) | refine ay (fun hg=>?_) (fun hg=>?_) | refine az (fun hg=>?_) (fun hg=>?_)) <;> try simp -implicitDefEqProofs only [hg,Bool.not_true,Bool.not_false]) | ((with_reducible apply And.intro);focus (first | trivial | omega | decide | (simp -implicitDefEqProofs only [maxLen];omega) | (simp [maxLen,af,ak,an,ax,aj,av,au] <;> omega))) | fail)
   all_goals (refine (hK _ _ ?_).2;clear hK;simp -implicitDefEqProofs only [go_sem,Int.reduceNegSucc,aX,bg,bp,bq,aM,aK,aI,fN,bz,Option.map,Option.isSome] <;>(try simp_all [-Int.not_lt,-Int.not_le,aM,aK,aI,bG,fN,bz,Option.map,Option.isSome]) <;> try omega)
 | true=>
   rw [ja] at hm
   have hin:gP l n=true:=by simp [gW] at ja;exact ja.1
   obtain ⟨k,rfl,hkn⟩:=qi hin
   cases oh:jn w h with
   | false=>
     rw [oh] at hw
     simp -implicitDefEqProofs only [ja,oh,Bool.true_and,Bool.false_eq_true,if_false] at hK
     conv in fc _ _ _ _=>reduce
     simp -implicitDefEqProofs only [Sz.sv,Sz.cells,go_sem,Int.reduceNegSucc] at hw ⊢
     have bA:=hm;have bF:=hw;repeat' (first | (simp -implicitDefEqProofs only [go_sem,Int.reduceNegSucc]) | (with_reducible refine aA ?_) | (with_reducible first | refine ag bA ?_ | refine ah bA ?_) | (with_reducible first | refine ag bF ?_ | refine ah bF ?_) | ((first | refine ai (fun hg=>?_) (fun hg=>?_) | refine ay (fun hg=>?_) (fun hg=>?_) | refine az (fun hg=>?_) (fun hg=>?_)) <;> try simp -implicitDefEqProofs only [hg,Bool.not_true,Bool.not_false]) | ((with_reducible apply And.intro);focus (first | trivial | omega | decide | (simp -implicitDefEqProofs only [maxLen];omega) | (simp [maxLen,af,ak,an,ax,aj,av,au] <;> omega))) | fail)
     all_goals (refine (hK _ _ ?_).2;clear hK;simp -implicitDefEqProofs only [go_sem,Int.reduceNegSucc,aX,bg,bp,bq,aM,aK,aI,fN,bz,Option.map,Option.isSome] <;>(try simp_all [-Int.not_lt,-Int.not_le,aM,aK,aI,bG,fN,bz,Option.map,Option.isSome]) <;> try omega)
   | true=>
     rw [oh] at hw
     simp -implicitDefEqProofs only [ja,oh,Bool.and_self,if_true] at hK
     have hx:=jf hkn
     have jc:bS l k=(l[k]'hkn).s:=by simp [bS,vM hkn,hkn]
     have x1:=Gt (l[k]'hkn)
     have x2:=ak (l[k]'hkn)
     have x3:=Ik (l[k]'hkn)
     rw [← jc] at x1 x3
     generalize l[k]'hkn=nd at *
     clear jc
     have yx:=TT l ht hb k hkn w h
     have ef:(ck l k w h).flat=(!(decide ((k:Int)=0) || (bS l k).clip) && rC (bS l k) w && qB (bS l k) w && ((ck l k w h).least == 0)):=rfl
     have eo:(ck l k w h).nE=(!(decide ((k:Int)=0) || (bS l k).clip) && rC (bS l k) w):=rfl
     have eB:(ck l k w h).lC=(!(decide ((k:Int)=0) || (bS l k).clip) && qB (bS l k) w && (ck l k w h).high.auto && ((ck l k w h).least == 0)):=rfl
     have eb:(ck l k w h).bw=(bS l k).bw:=rfl
     have h1:=fun id=>ux id (nc (ck l k w h)) (by simp [nc])
     have h2:=ru (bS l k).width w true
     have h3:=HQ (bS l k).jo (bS l k).jm w true
     have hac:=Uv (qy l k w h bH)
     have hcl:=fun v=>Ud v (ck l k w h).least (ck l k w h).most
     have o1:=oI (ck l k w h).bB.a 0
     have o2:=oI (ck l k w h).bB.c 0
     have s1:=fun id=>ux id (jC (ck l k w h)) (by simp [jC])
     have s2:=fun (v:Int) id=>ux id [ct (jC (ck l k w h)),v] (by simp)
     have qb:∀ (f:Fm) (y:RV) (p:Pl) (high:Int),f.bB.a=bf (ck l k w h).bB.a 0→f.bB.c=bf (ck l k w h).bB.c 0→aG Go.Proofs.Tryz.prog 40 [(vV l k w h).sv,.agg (f.cells.map .rv),.agg ((gY y p).map .rv),.rv (.bool (ck l k w h).lC),.rv (.int .i64 high)] [] [] (.agg ((pR (ck l k w h) (bK l k).length p high).cells.map .rv)):=
      fun f y p high a1 a2=>Uy (vV l k w h) f y p (ck l k w h).lC high (ck l k w h) (bK l k).length ef rfl rfl a1 a2 rfl
     simp -implicitDefEqProofs only [vV] at yx qb
     unfold qy at hac
     unfold qC qy okB at hK
     generalize (bK l k).length=kids at *
     generalize ck l k w h=e at *
     generalize rC (bS l k) w=TP at *
     generalize qB (bS l k) w=BT at *
     generalize (decide ((k:Int)=0) || (bS l k).clip)=AL at *
     generalize bS l k=s at *
     generalize fR s.width w true=W at *
     generalize bf (fR s.jo w true) 0=LW at *
     generalize bf (fR s.jm w true) 1125899906842624=XW at *
     generalize rV s w h=b1 at *
     generalize gQ s.width w true=b3 at *
     generalize gQ s.jo w true=b4 at *
     generalize gQ s.jm w true=b5 at *
     obtain ⟨M,D,B,H,L,X,CJ,FL,OT,OB⟩:=e
     dsimp only at ef eo eB eb
     subst eb
     simp -implicitDefEqProofs only [nc,jC,lK,List.map_cons,List.map_nil,List.length_cons,List.length_nil,Nat.reduceAdd] at h1 s1 s2 hac hK
     simp -implicitDefEqProofs only [Kn.sv,Kn.cells,Q4.ie,Sz.sv,Sz.cells,Ai.sv,Ai.cells,Ao.cells,List.map_cons,List.map_nil,List.cons_append,List.nil_append] at hw yx h2 h3 hac o1 o2 hI qb
     conv in fc _ _ _ _=>reduce
     simp -implicitDefEqProofs only [Sz.sv,Sz.cells,go_sem,Int.reduceNegSucc]
     cases hall:(b1 && fT [s.bw.d,D.d.n,D.b.n,s.bw.b] && b3 && b4 && b5) with
     | false=>
       simp -implicitDefEqProofs only [hall,Bool.false_eq_true,if_false] at hK
       have bJ:=hm;have bL:=hw;have bP:=yx;have bT:=h1;have cq:=h2;have cu:=h3;repeat' (first | (simp -implicitDefEqProofs only [go_sem,Int.reduceNegSucc,qO,hx,x1,x2,x3,cA,dV,cB,dW,cM,ew,cX,eJ,dr,eV,dF,fk,dG,fm,dH,fo,dI,fq,dJ,fu,cC,dX,cD,dY,cE,dZ,cF,ec,cG,ee,cH,eg,cI,ek,cJ,ep,cK,er,cL,eu,cN,ey,cO,ez,cP,eA,cQ,eC,cR,eD,cS,eE,cT,eF,cU,eG,cV,eH,cW,eI,cY,eK,cZ,eL,dc,eM,de,eN,dg,eO,dh,eP,di,eR,dj,eS,dm,eT,dn,eU,dw,eW,dx,eX,cw,eY,dy,eZ,dz,fe,dA,ff,dB,fh,dD,fj,dP,dK,dL,dM,dN,dO,dQ,dR,dS,dU,cz,cv,af,Q4.ints]) | (with_reducible refine aA ?_) | (with_reducible first | refine ag bJ ?_ | refine ah bJ ?_) | (with_reducible first | refine ag bL ?_ | refine ah bL ?_) | (with_reducible first | refine ag bP ?_ | refine ah bP ?_) | ((first | refine bR (bT _) ?_ ?_ ?_ | refine cg (bT _) ?_ ?_ ?_ | fail);(focus (simp [aU,aB] <;> fail));(focus (simp [bh,aR] <;> fail))) | (with_reducible first | refine ag cq ?_ | refine ah cq ?_) | (with_reducible first | refine ag cu ?_ | refine ah cu ?_) | ((first | refine ai (fun hg=>?_) (fun hg=>?_) | refine ay (fun hg=>?_) (fun hg=>?_) | refine az (fun hg=>?_) (fun hg=>?_)) <;> try simp -implicitDefEqProofs only [hg,Bool.not_true,Bool.not_false]) | ((with_reducible apply And.intro);focus (first | trivial | omega | decide | (simp -implicitDefEqProofs only [maxLen];omega) | (simp [maxLen,af,ak,an,ax,aj,av,au] <;> omega))) | fail)
       all_goals first | (exfalso;simp_all;done) | skip
       all_goals (refine (hK _ _ ?_).2;clear hK;simp -implicitDefEqProofs only [go_sem,Int.reduceNegSucc,aX,bg,bp,bq,aM,aK,aI,fN,bz,Option.map,Option.isSome] <;>(try simp_all [-Int.not_lt,-Int.not_le,aM,aK,aI,bG,fN,bz,Option.map,Option.isSome]) <;> try omega)
     | true=>
       simp -implicitDefEqProofs only [Bool.and_eq_true] at hall
       obtain ⟨⟨⟨⟨rfl,q2⟩,rfl⟩,rfl⟩,rfl⟩:=hall
       rw [q2] at h1
       simp -implicitDefEqProofs only [q2,Bool.and_self,if_true] at hK
       have gf:=hm;have gN:=hw;have ig:=yx;have ij:=h1;have iq:=h2;have ir:=h3;repeat' (first | (simp -implicitDefEqProofs only [go_sem,Int.reduceNegSucc,qO,hx,x1,x2,x3,cA,dV,cB,dW,cM,ew,cX,eJ,dr,eV,dF,fk,dG,fm,dH,fo,dI,fq,dJ,fu,cC,dX,cD,dY,cE,dZ,cF,ec,cG,ee,cH,eg,cI,ek,cJ,ep,cK,er,cL,eu,cN,ey,cO,ez,cP,eA,cQ,eC,cR,eD,cS,eE,cT,eF,cU,eG,cV,eH,cW,eI,cY,eK,cZ,eL,dc,eM,de,eN,dg,eO,dh,eP,di,eR,dj,eS,dm,eT,dn,eU,dw,eW,dx,eX,cw,eY,dy,eZ,dz,fe,dA,ff,dB,fh,dD,fj,dP,dK,dL,dM,dN,dO,dQ,dR,dS,dU,cz,cv,af,Q4.ints,Bool.and_self]) | (with_reducible refine aA ?_) | (with_reducible first | refine ag gf ?_ | refine ah gf ?_) | (with_reducible first | refine ag gN ?_ | refine ah gN ?_) | (with_reducible first | refine ag ig ?_ | refine ah ig ?_) | ((first | refine bR (ij _) ?_ ?_ ?_ | refine cg (ij _) ?_ ?_ ?_ | fail);(focus (simp [aU,aB] <;> fail));(focus (simp [bh,aR] <;> fail))) | (with_reducible first | refine ag iq ?_ | refine ah iq ?_) | (with_reducible first | refine ag ir ?_ | refine ah ir ?_) | ((first | refine ai (fun hg=>?_) (fun hg=>?_) | refine ay (fun hg=>?_) (fun hg=>?_) | refine az (fun hg=>?_) (fun hg=>?_)) <;> try simp -implicitDefEqProofs only [hg,Bool.not_true,Bool.not_false]) | ((with_reducible apply And.intro);focus (first | trivial | omega | decide | (simp -implicitDefEqProofs only [maxLen];omega) | (simp [maxLen,af,ak,an,ax,aj,av,au] <;> omega))) | fail)
       generalize mY ⟨w,M.d,W,M.b,ct [s.bw.d,D.d.n,D.b.n,s.bw.b],bH,LW,XW⟩=o at *
       cases o with
       | none=>
         simp -implicitDefEqProofs only [ic,Option.isSome,Option.bind] at hac hK
         have iu:=hac;repeat' (first | (simp -implicitDefEqProofs only [go_sem,Int.reduceNegSucc]) | (with_reducible refine aA ?_) | (with_reducible first | refine ag iu ?_ | refine ah iu ?_) | ((first | refine ai (fun hg=>?_) (fun hg=>?_) | refine ay (fun hg=>?_) (fun hg=>?_) | refine az (fun hg=>?_) (fun hg=>?_)) <;> try simp -implicitDefEqProofs only [hg,Bool.not_true,Bool.not_false]) | ((with_reducible apply And.intro);focus (first | trivial | omega | decide | (simp -implicitDefEqProofs only [maxLen];omega) | (simp [maxLen,af,ak,an,ax,aj,av,au] <;> omega))) | fail)
         all_goals (refine (hK _ _ ?_).2;clear hK;simp -implicitDefEqProofs only [go_sem,Int.reduceNegSucc,aX,bg,bp,bq,aM,aK,aI,fN,bz,Option.map,Option.isSome] <;>(try simp_all [-Int.not_lt,-Int.not_le,aM,aK,aI,bG,fN,bz,Option.map,Option.isSome]) <;> try omega)
       | some x=>
         have fH:=hI x
         simp -implicitDefEqProofs only [ic,Option.isSome,Option.bind] at hac hK
         clear hI
         have hr:=hr ⟨M,D,s.bw,H,L,X,CJ,FL,OT,OB⟩ x
         generalize ins ⟨M,D,s.bw,H,L,X,CJ,FL,OT,OB⟩ x=r at *
         obtain ⟨r1,Gz⟩:=r
         dsimp only at hr fH
         have hab:(AL=true∧OT=false∧OB=false)∨(AL=false∧BT=false∧OT=TP∧OB=false)∨(AL=false∧BT=true∧OT=TP∧OB=(H.auto && (L == 0))):=by
          rw [eo,eB]
          cases AL <;> cases BT <;> simp
         clear eo eB ef
         cases hh:H.auto with
         | true=>
           simp -implicitDefEqProofs only [mm,hh,if_true,Bool.false_eq_true,if_false,Bool.true_and,Bool.false_and] at fH hab
           have iJ:=hac;have jN:=hcl H.n;repeat' (first | (simp -implicitDefEqProofs only [go_sem,Int.reduceNegSucc,cA,dV,cB,dW,cM,ew,cX,eJ,dr,eV,dF,fk,dG,fm,dH,fo,dI,fq,dJ,fu,cC,dX,cD,dY,cE,dZ,cF,ec,cG,ee,cH,eg,cI,ek,cJ,ep,cK,er,cL,eu,cN,ey,cO,ez,cP,eA,cQ,eC,cR,eD,cS,eE,cT,eF,cU,eG,cV,eH,cW,eI,cY,eK,cZ,eL,dc,eM,de,eN,dg,eO,dh,eP,di,eR,dj,eS,dm,eT,dn,eU,dw,eW,dx,eX,cw,eY,dy,eZ,dz,fe,dA,ff,dB,fh,dD,fj,dP,dK,dL,dM,dN,dO,dQ,dR,dS,dU,cz,cv,af,Q4.ints,Bool.and_self,hh]) | (with_reducible first | refine ag iJ ?_ | refine ah iJ ?_) | (with_reducible first | refine ag jN ?_ | refine ah jN ?_) | ((first | refine ai (fun hg=>?_) (fun hg=>?_) | refine ay (fun hg=>?_) (fun hg=>?_) | refine az (fun hg=>?_) (fun hg=>?_)) <;> try simp -implicitDefEqProofs only [hg,Bool.not_true,Bool.not_false]) | ((with_reducible apply And.intro);focus (first | trivial | omega | decide | (simp -implicitDefEqProofs only [maxLen];omega) | (simp [maxLen,af,ak,an,ax,aj,av,au] <;> omega))) | fail)
           refine jk [(0,.rv (.sl 49 (bu l))),(1,.rv (.int .i64 k)),(10,.ptr 1 0),(11,.ptr 2 0),(13,.ptr 3 0),(14,.ptr 4 0),(23,.ptr 7 0),(24,.ptr 8 0)] _ (aZ (by simp [lk])) ?_
           cases Gz with
           | false=>
             simp -implicitDefEqProofs only [oU,Bool.false_eq_true,if_false] at hK
             cases r1 with
             | none=>
               simp -implicitDefEqProofs only [bz,List.map_cons,List.map_nil] at fH
               have s3:=s2 (jE 0 L X)
               apply via
               ·intro main
                rcases hab with ⟨gj,gn,cr⟩ | ⟨gj,gk,gn,cr⟩ | ⟨gj,gk,gn,cr⟩
                ·have gl:(!AL)=false:=by rw [gj];rfl
                 rw [gn,cr] at fH
                 have jO:=fH;have kW:=hcl 0;repeat' (first | (simp -implicitDefEqProofs only [go_sem,Int.reduceNegSucc,cA,dV,cB,dW,cM,ew,cX,eJ,dr,eV,dF,fk,dG,fm,dH,fo,dI,fq,dJ,fu,cC,dX,cD,dY,cE,dZ,cF,ec,cG,ee,cH,eg,cI,ek,cJ,ep,cK,er,cL,eu,cN,ey,cO,ez,cP,eA,cQ,eC,cR,eD,cS,eE,cT,eF,cU,eG,cV,eH,cW,eI,cY,eK,cZ,eL,dc,eM,de,eN,dg,eO,dh,eP,di,eR,dj,eS,dm,eT,dn,eU,dw,eW,dx,eX,cw,eY,dy,eZ,dz,fe,dA,ff,dB,fh,dD,fj,dP,dK,dL,dM,dN,dO,dQ,dR,dS,dU,cz,cv,af,Q4.ints,Bool.and_self,hh,gl]) | (with_reducible first | refine ag jO ?_ | refine ah jO ?_) | (with_reducible first | refine ag kW ?_ | refine ah kW ?_) | ((first | refine ai (fun hg=>?_) (fun hg=>?_) | refine ay (fun hg=>?_) (fun hg=>?_) | refine az (fun hg=>?_) (fun hg=>?_)) <;> try simp -implicitDefEqProofs only [hg,Bool.not_true,Bool.not_false]) | ((with_reducible apply And.intro);focus (first | trivial | omega | decide | (simp -implicitDefEqProofs only [maxLen];omega) | (simp [maxLen,af,ak,an,ax,aj,av,au] <;> omega))) | fail)
                 refine jk [(15,.rv (.bool false)),(10,.ptr 1 0),(11,.ptr 2 0),(13,.ptr 3 0),(14,.ptr 4 0),(23,.ptr 7 0),(26,.rv (.bool OB)),(27,.ptr 9 0),(28,.ptr 10 0)] _ (aZ ?_) main
                 simp [lk,cr]
                ·have gl:(!AL)=true:=by rw [gj];rfl
                 rw [gn,cr] at fH
                 have oK:=fH;have oL:=hcl 0;repeat' (first | (simp -implicitDefEqProofs only [go_sem,Int.reduceNegSucc,cA,dV,cB,dW,cM,ew,cX,eJ,dr,eV,dF,fk,dG,fm,dH,fo,dI,fq,dJ,fu,cC,dX,cD,dY,cE,dZ,cF,ec,cG,ee,cH,eg,cI,ek,cJ,ep,cK,er,cL,eu,cN,ey,cO,ez,cP,eA,cQ,eC,cR,eD,cS,eE,cT,eF,cU,eG,cV,eH,cW,eI,cY,eK,cZ,eL,dc,eM,de,eN,dg,eO,dh,eP,di,eR,dj,eS,dm,eT,dn,eU,dw,eW,dx,eX,cw,eY,dy,eZ,dz,fe,dA,ff,dB,fh,dD,fj,dP,dK,dL,dM,dN,dO,dQ,dR,dS,dU,cz,cv,af,Q4.ints,Bool.and_self,hh,gl,gk]) | (with_reducible first | refine ag oK ?_ | refine ah oK ?_) | (with_reducible first | refine ag oL ?_ | refine ah oL ?_) | ((first | refine ai (fun hg=>?_) (fun hg=>?_) | refine ay (fun hg=>?_) (fun hg=>?_) | refine az (fun hg=>?_) (fun hg=>?_)) <;> try simp -implicitDefEqProofs only [hg,Bool.not_true,Bool.not_false]) | ((with_reducible apply And.intro);focus (first | trivial | omega | decide | (simp -implicitDefEqProofs only [maxLen];omega) | (simp [maxLen,af,ak,an,ax,aj,av,au] <;> omega))) | fail)
                 refine jk _ _ ?_ main
                 rw [gk]
                 refine aZ ?_
                 simp [lk,cr]
                ·have gl:(!AL)=true:=by rw [gj];rfl
                 rw [gn,cr] at fH
                 have rD:=fH;have rE:=hcl 0;repeat' (first | (simp -implicitDefEqProofs only [go_sem,Int.reduceNegSucc,cA,dV,cB,dW,cM,ew,cX,eJ,dr,eV,dF,fk,dG,fm,dH,fo,dI,fq,dJ,fu,cC,dX,cD,dY,cE,dZ,cF,ec,cG,ee,cH,eg,cI,ek,cJ,ep,cK,er,cL,eu,cN,ey,cO,ez,cP,eA,cQ,eC,cR,eD,cS,eE,cT,eF,cU,eG,cV,eH,cW,eI,cY,eK,cZ,eL,dc,eM,de,eN,dg,eO,dh,eP,di,eR,dj,eS,dm,eT,dn,eU,dw,eW,dx,eX,cw,eY,dy,eZ,dz,fe,dA,ff,dB,fh,dD,fj,dP,dK,dL,dM,dN,dO,dQ,dR,dS,dU,cz,cv,af,Q4.ints,Bool.and_self,hh,gl,gk]) | (with_reducible first | refine ag rD ?_ | refine ah rD ?_) | (with_reducible first | refine ag rE ?_ | refine ah rE ?_) | ((first | refine ai (fun hg=>?_) (fun hg=>?_) | refine ay (fun hg=>?_) (fun hg=>?_) | refine az (fun hg=>?_) (fun hg=>?_)) <;> try simp -implicitDefEqProofs only [hg,Bool.not_true,Bool.not_false]) | ((with_reducible apply And.intro);focus (first | trivial | omega | decide | (simp -implicitDefEqProofs only [maxLen];omega) | (simp [maxLen,af,ak,an,ax,aj,av,au] <;> omega))) | fail)
                 refine jk _ _ ?_ main
                 rw [gk]
                 refine aZ ?_
                 simp [lk,cr]
               ·have rF:=o1;have rG:=o2;repeat' (first | (simp -implicitDefEqProofs only [go_sem,Int.reduceNegSucc,cA,dV,cB,dW,cM,ew,cX,eJ,dr,eV,dF,fk,dG,fm,dH,fo,dI,fq,dJ,fu,cC,dX,cD,dY,cE,dZ,cF,ec,cG,ee,cH,eg,cI,ek,cJ,ep,cK,er,cL,eu,cN,ey,cO,ez,cP,eA,cQ,eC,cR,eD,cS,eE,cT,eF,cU,eG,cV,eH,cW,eI,cY,eK,cZ,eL,dc,eM,de,eN,dg,eO,dh,eP,di,eR,dj,eS,dm,eT,dn,eU,dw,eW,dx,eX,cw,eY,dy,eZ,dz,fe,dA,ff,dB,fh,dD,fj,dP,dK,dL,dM,dN,dO,dQ,dR,dS,dU,cz,cv,af,Q4.ints,Bool.and_self,hh]) | (with_reducible refine aA ?_) | (with_reducible first | refine ag rF ?_ | refine ah rF ?_) | (with_reducible first | refine ag rG ?_ | refine ah rG ?_) | ((first | refine ai (fun hg=>?_) (fun hg=>?_) | refine ay (fun hg=>?_) (fun hg=>?_) | refine az (fun hg=>?_) (fun hg=>?_)) <;> try simp -implicitDefEqProofs only [hg,Bool.not_true,Bool.not_false]) | ((with_reducible apply And.intro);focus (first | trivial | omega | decide | (simp -implicitDefEqProofs only [maxLen];omega) | (simp [maxLen,af,ak,an,ax,aj,av,au] <;> omega))) | fail)
                refine jV 5 ?_
                have rH:=s1;have rI:=s3;repeat' (first | (simp -implicitDefEqProofs only [go_sem,Int.reduceNegSucc,ke,kf,kg,ki,kj,kk,jR,Int.reduceLT,decide_true,decide_false,Int.reduceToNat,Nat.reduceMul,cA,dV,cB,dW,cM,ew,cX,eJ,dr,eV,dF,fk,dG,fm,dH,fo,dI,fq,dJ,fu,cC,dX,cD,dY,cE,dZ,cF,ec,cG,ee,cH,eg,cI,ek,cJ,ep,cK,er,cL,eu,cN,ey,cO,ez,cP,eA,cQ,eC,cR,eD,cS,eE,cT,eF,cU,eG,cV,eH,cW,eI,cY,eK,cZ,eL,dc,eM,de,eN,dg,eO,dh,eP,di,eR,dj,eS,dm,eT,dn,eU,dw,eW,dx,eX,cw,eY,dy,eZ,dz,fe,dA,ff,dB,fh,dD,fj,dP,dK,dL,dM,dN,dO,dQ,dR,dS,dU,cz,cv,af,Q4.ints]) | (with_reducible refine aA ?_) | (with_reducible show G _ _ (It.l _ _::_) _ _ _;refine jU ?_) | ((first | refine bR (rH _) ?_ ?_ ?_ | refine cg (rH _) ?_ ?_ ?_ | fail);(focus (simp [aU,aB] <;> fail));(focus (simp [bh,aR] <;> fail))) | ((first | refine bR (rI _) ?_ ?_ ?_ | refine cg (rI _) ?_ ?_ ?_ | fail);(focus (simp [aU,aB] <;> fail));(focus (simp [bh,aR] <;> fail))) | ((first | refine ai (fun hg=>?_) (fun hg=>?_) | refine ay (fun hg=>?_) (fun hg=>?_) | refine az (fun hg=>?_) (fun hg=>?_)) <;> try simp -implicitDefEqProofs only [hg,Bool.not_true,Bool.not_false]) | ((with_reducible apply And.intro);focus (first | trivial | omega | decide | (simp -implicitDefEqProofs only [maxLen];omega) | (simp [maxLen,af,ak,an,ax,aj,av,au] <;> omega))) | fail)
                all_goals (refine (hK _ _ ?_).2;clear hK;simp -implicitDefEqProofs only [go_sem,Int.reduceNegSucc,aX,bg,bp,bq,aM,aK,aI,fN,bz,Option.map,Option.isSome] <;>(try simp_all [-Int.not_lt,-Int.not_le,aM,aK,aI,bG,fN,bz,Option.map,Option.isSome]) <;> try omega)
             | some t=>
               simp -implicitDefEqProofs only [bz,Pl.cells,List.map_cons,List.map_nil,List.cons_append,List.nil_append] at fH
               have s3:=s2 (jE t.high L X)
               apply via
               ·intro main
                rcases hab with ⟨gj,gn,cr⟩ | ⟨gj,gk,gn,cr⟩ | ⟨gj,gk,gn,cr⟩
                ·have gl:(!AL)=false:=by rw [gj];rfl
                 rw [gn,cr] at fH
                 have wR:=fH;have wS:=hcl t.high;repeat' (first | (simp -implicitDefEqProofs only [go_sem,Int.reduceNegSucc,cA,dV,cB,dW,cM,ew,cX,eJ,dr,eV,dF,fk,dG,fm,dH,fo,dI,fq,dJ,fu,cC,dX,cD,dY,cE,dZ,cF,ec,cG,ee,cH,eg,cI,ek,cJ,ep,cK,er,cL,eu,cN,ey,cO,ez,cP,eA,cQ,eC,cR,eD,cS,eE,cT,eF,cU,eG,cV,eH,cW,eI,cY,eK,cZ,eL,dc,eM,de,eN,dg,eO,dh,eP,di,eR,dj,eS,dm,eT,dn,eU,dw,eW,dx,eX,cw,eY,dy,eZ,dz,fe,dA,ff,dB,fh,dD,fj,dP,dK,dL,dM,dN,dO,dQ,dR,dS,dU,cz,cv,af,Q4.ints,Bool.and_self,hh,gl]) | (with_reducible first | refine ag wR ?_ | refine ah wR ?_) | (with_reducible first | refine ag wS ?_ | refine ah wS ?_) | ((first | refine ai (fun hg=>?_) (fun hg=>?_) | refine ay (fun hg=>?_) (fun hg=>?_) | refine az (fun hg=>?_) (fun hg=>?_)) <;> try simp -implicitDefEqProofs only [hg,Bool.not_true,Bool.not_false]) | ((with_reducible apply And.intro);focus (first | trivial | omega | decide | (simp -implicitDefEqProofs only [maxLen];omega) | (simp [maxLen,af,ak,an,ax,aj,av,au] <;> omega))) | fail)
                 refine jk [(15,.rv (.bool false)),(10,.ptr 1 0),(11,.ptr 2 0),(13,.ptr 3 0),(14,.ptr 4 0),(23,.ptr 7 0),(26,.rv (.bool OB)),(27,.ptr 9 0),(28,.ptr 10 0)] _ (aZ ?_) main
                 simp [lk,cr]
                ·have gl:(!AL)=true:=by rw [gj];rfl
                 rw [gn,cr] at fH
                 have wT:=fH;have wU:=hcl t.high;repeat' (first | (simp -implicitDefEqProofs only [go_sem,Int.reduceNegSucc,cA,dV,cB,dW,cM,ew,cX,eJ,dr,eV,dF,fk,dG,fm,dH,fo,dI,fq,dJ,fu,cC,dX,cD,dY,cE,dZ,cF,ec,cG,ee,cH,eg,cI,ek,cJ,ep,cK,er,cL,eu,cN,ey,cO,ez,cP,eA,cQ,eC,cR,eD,cS,eE,cT,eF,cU,eG,cV,eH,cW,eI,cY,eK,cZ,eL,dc,eM,de,eN,dg,eO,dh,eP,di,eR,dj,eS,dm,eT,dn,eU,dw,eW,dx,eX,cw,eY,dy,eZ,dz,fe,dA,ff,dB,fh,dD,fj,dP,dK,dL,dM,dN,dO,dQ,dR,dS,dU,cz,cv,af,Q4.ints,Bool.and_self,hh,gl,gk]) | (with_reducible first | refine ag wT ?_ | refine ah wT ?_) | (with_reducible first | refine ag wU ?_ | refine ah wU ?_) | ((first | refine ai (fun hg=>?_) (fun hg=>?_) | refine ay (fun hg=>?_) (fun hg=>?_) | refine az (fun hg=>?_) (fun hg=>?_)) <;> try simp -implicitDefEqProofs only [hg,Bool.not_true,Bool.not_false]) | ((with_reducible apply And.intro);focus (first | trivial | omega | decide | (simp -implicitDefEqProofs only [maxLen];omega) | (simp [maxLen,af,ak,an,ax,aj,av,au] <;> omega))) | fail)
                 refine jk _ _ ?_ main
                 rw [gk]
                 refine aZ ?_
                 simp [lk,cr]
                ·have gl:(!AL)=true:=by rw [gj];rfl
                 rw [gn,cr] at fH
                 have wV:=fH;have wW:=hcl t.high;repeat' (first | (simp -implicitDefEqProofs only [go_sem,Int.reduceNegSucc,cA,dV,cB,dW,cM,ew,cX,eJ,dr,eV,dF,fk,dG,fm,dH,fo,dI,fq,dJ,fu,cC,dX,cD,dY,cE,dZ,cF,ec,cG,ee,cH,eg,cI,ek,cJ,ep,cK,er,cL,eu,cN,ey,cO,ez,cP,eA,cQ,eC,cR,eD,cS,eE,cT,eF,cU,eG,cV,eH,cW,eI,cY,eK,cZ,eL,dc,eM,de,eN,dg,eO,dh,eP,di,eR,dj,eS,dm,eT,dn,eU,dw,eW,dx,eX,cw,eY,dy,eZ,dz,fe,dA,ff,dB,fh,dD,fj,dP,dK,dL,dM,dN,dO,dQ,dR,dS,dU,cz,cv,af,Q4.ints,Bool.and_self,hh,gl,gk]) | (with_reducible first | refine ag wV ?_ | refine ah wV ?_) | (with_reducible first | refine ag wW ?_ | refine ah wW ?_) | ((first | refine ai (fun hg=>?_) (fun hg=>?_) | refine ay (fun hg=>?_) (fun hg=>?_) | refine az (fun hg=>?_) (fun hg=>?_)) <;> try simp -implicitDefEqProofs only [hg,Bool.not_true,Bool.not_false]) | ((with_reducible apply And.intro);focus (first | trivial | omega | decide | (simp -implicitDefEqProofs only [maxLen];omega) | (simp [maxLen,af,ak,an,ax,aj,av,au] <;> omega))) | fail)
                 refine jk _ _ ?_ main
                 rw [gk]
                 refine aZ ?_
                 simp [lk,cr]
               ·have wX:=o1;have wY:=o2;repeat' (first | (simp -implicitDefEqProofs only [go_sem,Int.reduceNegSucc,cA,dV,cB,dW,cM,ew,cX,eJ,dr,eV,dF,fk,dG,fm,dH,fo,dI,fq,dJ,fu,cC,dX,cD,dY,cE,dZ,cF,ec,cG,ee,cH,eg,cI,ek,cJ,ep,cK,er,cL,eu,cN,ey,cO,ez,cP,eA,cQ,eC,cR,eD,cS,eE,cT,eF,cU,eG,cV,eH,cW,eI,cY,eK,cZ,eL,dc,eM,de,eN,dg,eO,dh,eP,di,eR,dj,eS,dm,eT,dn,eU,dw,eW,dx,eX,cw,eY,dy,eZ,dz,fe,dA,ff,dB,fh,dD,fj,dP,dK,dL,dM,dN,dO,dQ,dR,dS,dU,cz,cv,af,Q4.ints,Bool.and_self,hh]) | (with_reducible refine aA ?_) | (with_reducible first | refine ag wX ?_ | refine ah wX ?_) | (with_reducible first | refine ag wY ?_ | refine ah wY ?_) | ((first | refine ai (fun hg=>?_) (fun hg=>?_) | refine ay (fun hg=>?_) (fun hg=>?_) | refine az (fun hg=>?_) (fun hg=>?_)) <;> try simp -implicitDefEqProofs only [hg,Bool.not_true,Bool.not_false]) | ((with_reducible apply And.intro);focus (first | trivial | omega | decide | (simp -implicitDefEqProofs only [maxLen];omega) | (simp [maxLen,af,ak,an,ax,aj,av,au] <;> omega))) | fail)
                refine jV 5 ?_
                have wZ:=s1;have xb:=s3;repeat' (first | (simp -implicitDefEqProofs only [go_sem,Int.reduceNegSucc,ke,kf,kg,ki,kj,kk,jR,Int.reduceLT,decide_true,decide_false,Int.reduceToNat,Nat.reduceMul,cA,dV,cB,dW,cM,ew,cX,eJ,dr,eV,dF,fk,dG,fm,dH,fo,dI,fq,dJ,fu,cC,dX,cD,dY,cE,dZ,cF,ec,cG,ee,cH,eg,cI,ek,cJ,ep,cK,er,cL,eu,cN,ey,cO,ez,cP,eA,cQ,eC,cR,eD,cS,eE,cT,eF,cU,eG,cV,eH,cW,eI,cY,eK,cZ,eL,dc,eM,de,eN,dg,eO,dh,eP,di,eR,dj,eS,dm,eT,dn,eU,dw,eW,dx,eX,cw,eY,dy,eZ,dz,fe,dA,ff,dB,fh,dD,fj,dP,dK,dL,dM,dN,dO,dQ,dR,dS,dU,cz,cv,af,Q4.ints]) | (with_reducible refine aA ?_) | (with_reducible show G _ _ (It.l _ _::_) _ _ _;refine jU ?_) | ((first | refine bR (wZ _) ?_ ?_ ?_ | refine cg (wZ _) ?_ ?_ ?_ | fail);(focus (simp [aU,aB] <;> fail));(focus (simp [bh,aR] <;> fail))) | ((first | refine bR (xb _) ?_ ?_ ?_ | refine cg (xb _) ?_ ?_ ?_ | fail);(focus (simp [aU,aB] <;> fail));(focus (simp [bh,aR] <;> fail))) | ((first | refine ai (fun hg=>?_) (fun hg=>?_) | refine ay (fun hg=>?_) (fun hg=>?_) | refine az (fun hg=>?_) (fun hg=>?_)) <;> try simp -implicitDefEqProofs only [hg,Bool.not_true,Bool.not_false]) | ((with_reducible apply And.intro);focus (first | trivial | omega | decide | (simp -implicitDefEqProofs only [maxLen];omega) | (simp [maxLen,af,ak,an,ax,aj,av,au] <;> omega))) | fail)
                all_goals (refine (hK _ _ ?_).2;clear hK;simp -implicitDefEqProofs only [go_sem,Int.reduceNegSucc,aX,bg,bp,bq,aM,aK,aI,fN,bz,Option.map,Option.isSome] <;>(try simp_all [-Int.not_lt,-Int.not_le,aM,aK,aI,bG,fN,bz,Option.map,Option.isSome]) <;> try omega)
           | true=>
             obtain ⟨t,rfl⟩:=Option.isSome_iff_exists.1 (hr rfl)
             simp -implicitDefEqProofs only [oU,pg,tG,jC,hh,Bool.false_eq_true,if_false,if_true,Option.bind,Bool.not_true,Bool.not_false] at hK
             simp -implicitDefEqProofs only [bz,Pl.cells,List.map_cons,List.map_nil,List.cons_append,List.nil_append] at fH
             have s3:=s2 (jE t.high L X)
             have lH:=qb ⟨x.l,0,x.w,jE t.high L X,⟨bf M.a 0,x.r,bf M.c 0,x.l⟩,⟨D.a.n,D.b.n,D.c.n,D.d.n⟩,s.bw,false,⟨⟨0,0⟩,⟨0,0⟩,⟨0,0⟩,false,0⟩⟩ (.sl 1 (aL t.ys)) t.p (ct [ct [s.bw.a,D.a.n,D.c.n,s.bw.c],jE t.high L X]) rfl rfl
             simp -implicitDefEqProofs only [Fm.cells,Q4.ints,Ch.cells,gY,Pl.cells,List.map_cons,List.map_nil,List.cons_append,List.nil_append,hh] at lH
             generalize pR _ kids t.p (ct [ct [s.bw.a,D.a.n,D.c.n,s.bw.c],jE t.high L X])=C at *
             apply via
             ·intro main
              rcases hab with ⟨gj,gn,cr⟩ | ⟨gj,gk,gn,cr⟩ | ⟨gj,gk,gn,cr⟩
              ·have gl:(!AL)=false:=by rw [gj];rfl
               rw [gn,cr] at fH
               have xd:=fH;have IJ:=hcl t.high;repeat' (first | (simp -implicitDefEqProofs only [go_sem,Int.reduceNegSucc,cA,dV,cB,dW,cM,ew,cX,eJ,dr,eV,dF,fk,dG,fm,dH,fo,dI,fq,dJ,fu,cC,dX,cD,dY,cE,dZ,cF,ec,cG,ee,cH,eg,cI,ek,cJ,ep,cK,er,cL,eu,cN,ey,cO,ez,cP,eA,cQ,eC,cR,eD,cS,eE,cT,eF,cU,eG,cV,eH,cW,eI,cY,eK,cZ,eL,dc,eM,de,eN,dg,eO,dh,eP,di,eR,dj,eS,dm,eT,dn,eU,dw,eW,dx,eX,cw,eY,dy,eZ,dz,fe,dA,ff,dB,fh,dD,fj,dP,dK,dL,dM,dN,dO,dQ,dR,dS,dU,cz,cv,af,Q4.ints,Bool.and_self,hh,gl]) | (with_reducible first | refine ag xd ?_ | refine ah xd ?_) | (with_reducible first | refine ag IJ ?_ | refine ah IJ ?_) | ((first | refine ai (fun hg=>?_) (fun hg=>?_) | refine ay (fun hg=>?_) (fun hg=>?_) | refine az (fun hg=>?_) (fun hg=>?_)) <;> try simp -implicitDefEqProofs only [hg,Bool.not_true,Bool.not_false]) | ((with_reducible apply And.intro);focus (first | trivial | omega | decide | (simp -implicitDefEqProofs only [maxLen];omega) | (simp [maxLen,af,ak,an,ax,aj,av,au] <;> omega))) | fail)
               refine jk [(15,.rv (.bool true)),(10,.ptr 1 0),(11,.ptr 2 0),(13,.ptr 3 0),(14,.ptr 4 0),(23,.ptr 7 0),(26,.rv (.bool OB)),(27,.ptr 9 0),(28,.ptr 10 0)] _ (aZ ?_) main
               simp [lk,cr]
              ·have gl:(!AL)=true:=by rw [gj];rfl
               rw [gn,cr] at fH
               have IK:=fH;have IL:=hcl t.high;repeat' (first | (simp -implicitDefEqProofs only [go_sem,Int.reduceNegSucc,cA,dV,cB,dW,cM,ew,cX,eJ,dr,eV,dF,fk,dG,fm,dH,fo,dI,fq,dJ,fu,cC,dX,cD,dY,cE,dZ,cF,ec,cG,ee,cH,eg,cI,ek,cJ,ep,cK,er,cL,eu,cN,ey,cO,ez,cP,eA,cQ,eC,cR,eD,cS,eE,cT,eF,cU,eG,cV,eH,cW,eI,cY,eK,cZ,eL,dc,eM,de,eN,dg,eO,dh,eP,di,eR,dj,eS,dm,eT,dn,eU,dw,eW,dx,eX,cw,eY,dy,eZ,dz,fe,dA,ff,dB,fh,dD,fj,dP,dK,dL,dM,dN,dO,dQ,dR,dS,dU,cz,cv,af,Q4.ints,Bool.and_self,hh,gl,gk]) | (with_reducible first | refine ag IK ?_ | refine ah IK ?_) | (with_reducible first | refine ag IL ?_ | refine ah IL ?_) | ((first | refine ai (fun hg=>?_) (fun hg=>?_) | refine ay (fun hg=>?_) (fun hg=>?_) | refine az (fun hg=>?_) (fun hg=>?_)) <;> try simp -implicitDefEqProofs only [hg,Bool.not_true,Bool.not_false]) | ((with_reducible apply And.intro);focus (first | trivial | omega | decide | (simp -implicitDefEqProofs only [maxLen];omega) | (simp [maxLen,af,ak,an,ax,aj,av,au] <;> omega))) | fail)
               refine jk _ _ ?_ main
               rw [gk]
               refine aZ ?_
               simp [lk,cr]
              ·have gl:(!AL)=true:=by rw [gj];rfl
               rw [gn,cr] at fH
               have IM:=fH;have IN:=hcl t.high;repeat' (first | (simp -implicitDefEqProofs only [go_sem,Int.reduceNegSucc,cA,dV,cB,dW,cM,ew,cX,eJ,dr,eV,dF,fk,dG,fm,dH,fo,dI,fq,dJ,fu,cC,dX,cD,dY,cE,dZ,cF,ec,cG,ee,cH,eg,cI,ek,cJ,ep,cK,er,cL,eu,cN,ey,cO,ez,cP,eA,cQ,eC,cR,eD,cS,eE,cT,eF,cU,eG,cV,eH,cW,eI,cY,eK,cZ,eL,dc,eM,de,eN,dg,eO,dh,eP,di,eR,dj,eS,dm,eT,dn,eU,dw,eW,dx,eX,cw,eY,dy,eZ,dz,fe,dA,ff,dB,fh,dD,fj,dP,dK,dL,dM,dN,dO,dQ,dR,dS,dU,cz,cv,af,Q4.ints,Bool.and_self,hh,gl,gk]) | (with_reducible first | refine ag IM ?_ | refine ah IM ?_) | (with_reducible first | refine ag IN ?_ | refine ah IN ?_) | ((first | refine ai (fun hg=>?_) (fun hg=>?_) | refine ay (fun hg=>?_) (fun hg=>?_) | refine az (fun hg=>?_) (fun hg=>?_)) <;> try simp -implicitDefEqProofs only [hg,Bool.not_true,Bool.not_false]) | ((with_reducible apply And.intro);focus (first | trivial | omega | decide | (simp -implicitDefEqProofs only [maxLen];omega) | (simp [maxLen,af,ak,an,ax,aj,av,au] <;> omega))) | fail)
               refine jk _ _ ?_ main
               rw [gk]
               refine aZ ?_
               simp [lk,cr]
             ·have IP:=o1;have IQ:=o2;repeat' (first | (simp -implicitDefEqProofs only [go_sem,Int.reduceNegSucc,cA,dV,cB,dW,cM,ew,cX,eJ,dr,eV,dF,fk,dG,fm,dH,fo,dI,fq,dJ,fu,cC,dX,cD,dY,cE,dZ,cF,ec,cG,ee,cH,eg,cI,ek,cJ,ep,cK,er,cL,eu,cN,ey,cO,ez,cP,eA,cQ,eC,cR,eD,cS,eE,cT,eF,cU,eG,cV,eH,cW,eI,cY,eK,cZ,eL,dc,eM,de,eN,dg,eO,dh,eP,di,eR,dj,eS,dm,eT,dn,eU,dw,eW,dx,eX,cw,eY,dy,eZ,dz,fe,dA,ff,dB,fh,dD,fj,dP,dK,dL,dM,dN,dO,dQ,dR,dS,dU,cz,cv,af,Q4.ints,Bool.and_self,hh]) | (with_reducible refine aA ?_) | (with_reducible first | refine ag IP ?_ | refine ah IP ?_) | (with_reducible first | refine ag IQ ?_ | refine ah IQ ?_) | ((first | refine ai (fun hg=>?_) (fun hg=>?_) | refine ay (fun hg=>?_) (fun hg=>?_) | refine az (fun hg=>?_) (fun hg=>?_)) <;> try simp -implicitDefEqProofs only [hg,Bool.not_true,Bool.not_false]) | ((with_reducible apply And.intro);focus (first | trivial | omega | decide | (simp -implicitDefEqProofs only [maxLen];omega) | (simp [maxLen,af,ak,an,ax,aj,av,au] <;> omega))) | fail)
              refine jV 5 ?_
              cases k1:fT [s.bw.a,D.a.n,D.c.n,s.bw.c] <;> cases k2:fT [ct [s.bw.a,D.a.n,D.c.n,s.bw.c],jE t.high L X] <;> rw [k1] at s1 <;> rw [k2] at s3 <;> simp -implicitDefEqProofs only [k1,k2,and_self,and_true,true_and,and_false,false_and,Bool.false_eq_true,if_true,if_false] at hK
              all_goals ((have IS:=s1;have IT:=s3;have IU:=lH;repeat' (first | (simp -implicitDefEqProofs only [go_sem,Int.reduceNegSucc,ke,kf,kg,ki,kj,kk,jR,Int.reduceLT,decide_true,decide_false,Int.reduceToNat,Nat.reduceMul,cA,dV,cB,dW,cM,ew,cX,eJ,dr,eV,dF,fk,dG,fm,dH,fo,dI,fq,dJ,fu,cC,dX,cD,dY,cE,dZ,cF,ec,cG,ee,cH,eg,cI,ek,cJ,ep,cK,er,cL,eu,cN,ey,cO,ez,cP,eA,cQ,eC,cR,eD,cS,eE,cT,eF,cU,eG,cV,eH,cW,eI,cY,eK,cZ,eL,dc,eM,de,eN,dg,eO,dh,eP,di,eR,dj,eS,dm,eT,dn,eU,dw,eW,dx,eX,cw,eY,dy,eZ,dz,fe,dA,ff,dB,fh,dD,fj,dP,dK,dL,dM,dN,dO,dQ,dR,dS,dU,cz,cv,af,Q4.ints]) | (with_reducible refine aA ?_) | (with_reducible show G _ _ (It.l _ _::_) _ _ _;refine jU ?_) | ((first | refine bR (IS _) ?_ ?_ ?_ | refine cg (IS _) ?_ ?_ ?_ | fail);(focus (simp [aU,aB] <;> fail));(focus (simp [bh,aR] <;> fail))) | ((first | refine bR (IT _) ?_ ?_ ?_ | refine cg (IT _) ?_ ?_ ?_ | fail);(focus (simp [aU,aB] <;> fail));(focus (simp [bh,aR] <;> fail))) | (with_reducible first | refine ag IU ?_ | refine ah IU ?_) | ((first | refine ai (fun hg=>?_) (fun hg=>?_) | refine ay (fun hg=>?_) (fun hg=>?_) | refine az (fun hg=>?_) (fun hg=>?_)) <;> try simp -implicitDefEqProofs only [hg,Bool.not_true,Bool.not_false]) | ((with_reducible apply And.intro);focus (first | trivial | omega | decide | (simp -implicitDefEqProofs only [maxLen];omega) | (simp [maxLen,af,ak,an,ax,aj,av,au] <;> omega))) | fail)))
              all_goals (refine (hK _ _ ?_).2;clear hK;simp -implicitDefEqProofs only [go_sem,Int.reduceNegSucc,aX,bg,bp,bq,aM,aK,aI,fN,bz,Fm.cells,Q4.ints,Ch.cells,Pl.cells,Option.map,Option.isSome] <;>(try simp_all [-Int.not_lt,-Int.not_le,aM,aK,aI,bG,fN,bz,Fm.cells,Q4.ints,Ch.cells,Pl.cells,Option.map,Option.isSome]) <;> try omega)
         | false=>
           simp -implicitDefEqProofs only [mm,hh,if_true,Bool.false_eq_true,if_false,Bool.true_and,Bool.false_and] at fH hab
           have IV:=hac;have IW:=hcl H.n;repeat' (first | (simp -implicitDefEqProofs only [go_sem,Int.reduceNegSucc,cA,dV,cB,dW,cM,ew,cX,eJ,dr,eV,dF,fk,dG,fm,dH,fo,dI,fq,dJ,fu,cC,dX,cD,dY,cE,dZ,cF,ec,cG,ee,cH,eg,cI,ek,cJ,ep,cK,er,cL,eu,cN,ey,cO,ez,cP,eA,cQ,eC,cR,eD,cS,eE,cT,eF,cU,eG,cV,eH,cW,eI,cY,eK,cZ,eL,dc,eM,de,eN,dg,eO,dh,eP,di,eR,dj,eS,dm,eT,dn,eU,dw,eW,dx,eX,cw,eY,dy,eZ,dz,fe,dA,ff,dB,fh,dD,fj,dP,dK,dL,dM,dN,dO,dQ,dR,dS,dU,cz,cv,af,Q4.ints,Bool.and_self,hh]) | (with_reducible first | refine ag IV ?_ | refine ah IV ?_) | (with_reducible first | refine ag IW ?_ | refine ah IW ?_) | ((first | refine ai (fun hg=>?_) (fun hg=>?_) | refine ay (fun hg=>?_) (fun hg=>?_) | refine az (fun hg=>?_) (fun hg=>?_)) <;> try simp -implicitDefEqProofs only [hg,Bool.not_true,Bool.not_false]) | ((with_reducible apply And.intro);focus (first | trivial | omega | decide | (simp -implicitDefEqProofs only [maxLen];omega) | (simp [maxLen,af,ak,an,ax,aj,av,au] <;> omega))) | fail)
           refine jk [(0,.rv (.sl 49 (bu l))),(1,.rv (.int .i64 k)),(10,.ptr 1 0),(11,.ptr 2 0),(13,.ptr 3 0),(14,.ptr 4 0),(23,.ptr 7 0),(24,.ptr 8 0)] _ (aZ (by simp [lk])) ?_
           cases Gz with
           | false=>
             simp -implicitDefEqProofs only [oU,Bool.false_eq_true,if_false] at hK
             cases r1 with
             | none=>
               simp -implicitDefEqProofs only [bz,List.map_cons,List.map_nil] at fH
               have s3:=s2 (jE H.n L X)
               apply via
               ·intro main
                rcases hab with ⟨gj,gn,cr⟩ | ⟨gj,gk,gn,cr⟩ | ⟨gj,gk,gn,cr⟩
                ·have gl:(!AL)=false:=by rw [gj];rfl
                 rw [gn,cr] at fH
                 have IX:=fH;repeat' (first | (simp -implicitDefEqProofs only [go_sem,Int.reduceNegSucc,cA,dV,cB,dW,cM,ew,cX,eJ,dr,eV,dF,fk,dG,fm,dH,fo,dI,fq,dJ,fu,cC,dX,cD,dY,cE,dZ,cF,ec,cG,ee,cH,eg,cI,ek,cJ,ep,cK,er,cL,eu,cN,ey,cO,ez,cP,eA,cQ,eC,cR,eD,cS,eE,cT,eF,cU,eG,cV,eH,cW,eI,cY,eK,cZ,eL,dc,eM,de,eN,dg,eO,dh,eP,di,eR,dj,eS,dm,eT,dn,eU,dw,eW,dx,eX,cw,eY,dy,eZ,dz,fe,dA,ff,dB,fh,dD,fj,dP,dK,dL,dM,dN,dO,dQ,dR,dS,dU,cz,cv,af,Q4.ints,Bool.and_self,hh,gl]) | (with_reducible first | refine ag IX ?_ | refine ah IX ?_) | ((first | refine ai (fun hg=>?_) (fun hg=>?_) | refine ay (fun hg=>?_) (fun hg=>?_) | refine az (fun hg=>?_) (fun hg=>?_)) <;> try simp -implicitDefEqProofs only [hg,Bool.not_true,Bool.not_false]) | ((with_reducible apply And.intro);focus (first | trivial | omega | decide | (simp -implicitDefEqProofs only [maxLen];omega) | (simp [maxLen,af,ak,an,ax,aj,av,au] <;> omega))) | fail)
                 refine jk [(15,.rv (.bool false)),(10,.ptr 1 0),(11,.ptr 2 0),(13,.ptr 3 0),(14,.ptr 4 0),(23,.ptr 7 0),(26,.rv (.bool OB)),(27,.ptr 9 0),(28,.ptr 10 0)] _ (aZ ?_) main
                 simp [lk,cr]
                ·have gl:(!AL)=true:=by rw [gj];rfl
                 rw [gn,cr] at fH
                 have IY:=fH;repeat' (first | (simp -implicitDefEqProofs only [go_sem,Int.reduceNegSucc,cA,dV,cB,dW,cM,ew,cX,eJ,dr,eV,dF,fk,dG,fm,dH,fo,dI,fq,dJ,fu,cC,dX,cD,dY,cE,dZ,cF,ec,cG,ee,cH,eg,cI,ek,cJ,ep,cK,er,cL,eu,cN,ey,cO,ez,cP,eA,cQ,eC,cR,eD,cS,eE,cT,eF,cU,eG,cV,eH,cW,eI,cY,eK,cZ,eL,dc,eM,de,eN,dg,eO,dh,eP,di,eR,dj,eS,dm,eT,dn,eU,dw,eW,dx,eX,cw,eY,dy,eZ,dz,fe,dA,ff,dB,fh,dD,fj,dP,dK,dL,dM,dN,dO,dQ,dR,dS,dU,cz,cv,af,Q4.ints,Bool.and_self,hh,gl,gk]) | (with_reducible first | refine ag IY ?_ | refine ah IY ?_) | ((first | refine ai (fun hg=>?_) (fun hg=>?_) | refine ay (fun hg=>?_) (fun hg=>?_) | refine az (fun hg=>?_) (fun hg=>?_)) <;> try simp -implicitDefEqProofs only [hg,Bool.not_true,Bool.not_false]) | ((with_reducible apply And.intro);focus (first | trivial | omega | decide | (simp -implicitDefEqProofs only [maxLen];omega) | (simp [maxLen,af,ak,an,ax,aj,av,au] <;> omega))) | fail)
                 refine jk _ _ ?_ main
                 rw [gk]
                 refine aZ ?_
                 simp [lk,cr]
                ·have gl:(!AL)=true:=by rw [gj];rfl
                 rw [gn,cr] at fH
                 have IZ:=fH;repeat' (first | (simp -implicitDefEqProofs only [go_sem,Int.reduceNegSucc,cA,dV,cB,dW,cM,ew,cX,eJ,dr,eV,dF,fk,dG,fm,dH,fo,dI,fq,dJ,fu,cC,dX,cD,dY,cE,dZ,cF,ec,cG,ee,cH,eg,cI,ek,cJ,ep,cK,er,cL,eu,cN,ey,cO,ez,cP,eA,cQ,eC,cR,eD,cS,eE,cT,eF,cU,eG,cV,eH,cW,eI,cY,eK,cZ,eL,dc,eM,de,eN,dg,eO,dh,eP,di,eR,dj,eS,dm,eT,dn,eU,dw,eW,dx,eX,cw,eY,dy,eZ,dz,fe,dA,ff,dB,fh,dD,fj,dP,dK,dL,dM,dN,dO,dQ,dR,dS,dU,cz,cv,af,Q4.ints,Bool.and_self,hh,gl,gk]) | (with_reducible first | refine ag IZ ?_ | refine ah IZ ?_) | ((first | refine ai (fun hg=>?_) (fun hg=>?_) | refine ay (fun hg=>?_) (fun hg=>?_) | refine az (fun hg=>?_) (fun hg=>?_)) <;> try simp -implicitDefEqProofs only [hg,Bool.not_true,Bool.not_false]) | ((with_reducible apply And.intro);focus (first | trivial | omega | decide | (simp -implicitDefEqProofs only [maxLen];omega) | (simp [maxLen,af,ak,an,ax,aj,av,au] <;> omega))) | fail)
                 refine jk _ _ ?_ main
                 rw [gk]
                 refine aZ ?_
                 simp [lk,cr]
               ·have Ja:=o1;have Jb:=o2;repeat' (first | (simp -implicitDefEqProofs only [go_sem,Int.reduceNegSucc,cA,dV,cB,dW,cM,ew,cX,eJ,dr,eV,dF,fk,dG,fm,dH,fo,dI,fq,dJ,fu,cC,dX,cD,dY,cE,dZ,cF,ec,cG,ee,cH,eg,cI,ek,cJ,ep,cK,er,cL,eu,cN,ey,cO,ez,cP,eA,cQ,eC,cR,eD,cS,eE,cT,eF,cU,eG,cV,eH,cW,eI,cY,eK,cZ,eL,dc,eM,de,eN,dg,eO,dh,eP,di,eR,dj,eS,dm,eT,dn,eU,dw,eW,dx,eX,cw,eY,dy,eZ,dz,fe,dA,ff,dB,fh,dD,fj,dP,dK,dL,dM,dN,dO,dQ,dR,dS,dU,cz,cv,af,Q4.ints,Bool.and_self,hh]) | (with_reducible refine aA ?_) | (with_reducible first | refine ag Ja ?_ | refine ah Ja ?_) | (with_reducible first | refine ag Jb ?_ | refine ah Jb ?_) | ((first | refine ai (fun hg=>?_) (fun hg=>?_) | refine ay (fun hg=>?_) (fun hg=>?_) | refine az (fun hg=>?_) (fun hg=>?_)) <;> try simp -implicitDefEqProofs only [hg,Bool.not_true,Bool.not_false]) | ((with_reducible apply And.intro);focus (first | trivial | omega | decide | (simp -implicitDefEqProofs only [maxLen];omega) | (simp [maxLen,af,ak,an,ax,aj,av,au] <;> omega))) | fail)
                refine jV 5 ?_
                have Jc:=s1;have Jd:=s3;repeat' (first | (simp -implicitDefEqProofs only [go_sem,Int.reduceNegSucc,ke,kf,kg,ki,kj,kk,jR,Int.reduceLT,decide_true,decide_false,Int.reduceToNat,Nat.reduceMul,cA,dV,cB,dW,cM,ew,cX,eJ,dr,eV,dF,fk,dG,fm,dH,fo,dI,fq,dJ,fu,cC,dX,cD,dY,cE,dZ,cF,ec,cG,ee,cH,eg,cI,ek,cJ,ep,cK,er,cL,eu,cN,ey,cO,ez,cP,eA,cQ,eC,cR,eD,cS,eE,cT,eF,cU,eG,cV,eH,cW,eI,cY,eK,cZ,eL,dc,eM,de,eN,dg,eO,dh,eP,di,eR,dj,eS,dm,eT,dn,eU,dw,eW,dx,eX,cw,eY,dy,eZ,dz,fe,dA,ff,dB,fh,dD,fj,dP,dK,dL,dM,dN,dO,dQ,dR,dS,dU,cz,cv,af,Q4.ints]) | (with_reducible refine aA ?_) | (with_reducible show G _ _ (It.l _ _::_) _ _ _;refine jU ?_) | ((first | refine bR (Jc _) ?_ ?_ ?_ | refine cg (Jc _) ?_ ?_ ?_ | fail);(focus (simp [aU,aB] <;> fail));(focus (simp [bh,aR] <;> fail))) | ((first | refine bR (Jd _) ?_ ?_ ?_ | refine cg (Jd _) ?_ ?_ ?_ | fail);(focus (simp [aU,aB] <;> fail));(focus (simp [bh,aR] <;> fail))) | ((first | refine ai (fun hg=>?_) (fun hg=>?_) | refine ay (fun hg=>?_) (fun hg=>?_) | refine az (fun hg=>?_) (fun hg=>?_)) <;> try simp -implicitDefEqProofs only [hg,Bool.not_true,Bool.not_false]) | ((with_reducible apply And.intro);focus (first | trivial | omega | decide | (simp -implicitDefEqProofs only [maxLen];omega) | (simp [maxLen,af,ak,an,ax,aj,av,au] <;> omega))) | fail)
                all_goals (refine (hK _ _ ?_).2;clear hK;simp -implicitDefEqProofs only [go_sem,Int.reduceNegSucc,aX,bg,bp,bq,aM,aK,aI,fN,bz,Option.map,Option.isSome] <;>(try simp_all [-Int.not_lt,-Int.not_le,aM,aK,aI,bG,fN,bz,Option.map,Option.isSome]) <;> try omega)
             | some t=>
               simp -implicitDefEqProofs only [bz,Pl.cells,List.map_cons,List.map_nil,List.cons_append,List.nil_append] at fH
               have s3:=s2 (jE H.n L X)
               apply via
               ·intro main
                rcases hab with ⟨gj,gn,cr⟩ | ⟨gj,gk,gn,cr⟩ | ⟨gj,gk,gn,cr⟩
                ·have gl:(!AL)=false:=by rw [gj];rfl
                 rw [gn,cr] at fH
                 have Je:=fH;repeat' (first | (simp -implicitDefEqProofs only [go_sem,Int.reduceNegSucc,cA,dV,cB,dW,cM,ew,cX,eJ,dr,eV,dF,fk,dG,fm,dH,fo,dI,fq,dJ,fu,cC,dX,cD,dY,cE,dZ,cF,ec,cG,ee,cH,eg,cI,ek,cJ,ep,cK,er,cL,eu,cN,ey,cO,ez,cP,eA,cQ,eC,cR,eD,cS,eE,cT,eF,cU,eG,cV,eH,cW,eI,cY,eK,cZ,eL,dc,eM,de,eN,dg,eO,dh,eP,di,eR,dj,eS,dm,eT,dn,eU,dw,eW,dx,eX,cw,eY,dy,eZ,dz,fe,dA,ff,dB,fh,dD,fj,dP,dK,dL,dM,dN,dO,dQ,dR,dS,dU,cz,cv,af,Q4.ints,Bool.and_self,hh,gl]) | (with_reducible first | refine ag Je ?_ | refine ah Je ?_) | ((first | refine ai (fun hg=>?_) (fun hg=>?_) | refine ay (fun hg=>?_) (fun hg=>?_) | refine az (fun hg=>?_) (fun hg=>?_)) <;> try simp -implicitDefEqProofs only [hg,Bool.not_true,Bool.not_false]) | ((with_reducible apply And.intro);focus (first | trivial | omega | decide | (simp -implicitDefEqProofs only [maxLen];omega) | (simp [maxLen,af,ak,an,ax,aj,av,au] <;> omega))) | fail)
                 refine jk [(15,.rv (.bool false)),(10,.ptr 1 0),(11,.ptr 2 0),(13,.ptr 3 0),(14,.ptr 4 0),(23,.ptr 7 0),(26,.rv (.bool OB)),(27,.ptr 9 0),(28,.ptr 10 0)] _ (aZ ?_) main
                 simp [lk,cr]
                ·have gl:(!AL)=true:=by rw [gj];rfl
                 rw [gn,cr] at fH
                 have Jf:=fH;repeat' (first | (simp -implicitDefEqProofs only [go_sem,Int.reduceNegSucc,cA,dV,cB,dW,cM,ew,cX,eJ,dr,eV,dF,fk,dG,fm,dH,fo,dI,fq,dJ,fu,cC,dX,cD,dY,cE,dZ,cF,ec,cG,ee,cH,eg,cI,ek,cJ,ep,cK,er,cL,eu,cN,ey,cO,ez,cP,eA,cQ,eC,cR,eD,cS,eE,cT,eF,cU,eG,cV,eH,cW,eI,cY,eK,cZ,eL,dc,eM,de,eN,dg,eO,dh,eP,di,eR,dj,eS,dm,eT,dn,eU,dw,eW,dx,eX,cw,eY,dy,eZ,dz,fe,dA,ff,dB,fh,dD,fj,dP,dK,dL,dM,dN,dO,dQ,dR,dS,dU,cz,cv,af,Q4.ints,Bool.and_self,hh,gl,gk]) | (with_reducible first | refine ag Jf ?_ | refine ah Jf ?_) | ((first | refine ai (fun hg=>?_) (fun hg=>?_) | refine ay (fun hg=>?_) (fun hg=>?_) | refine az (fun hg=>?_) (fun hg=>?_)) <;> try simp -implicitDefEqProofs only [hg,Bool.not_true,Bool.not_false]) | ((with_reducible apply And.intro);focus (first | trivial | omega | decide | (simp -implicitDefEqProofs only [maxLen];omega) | (simp [maxLen,af,ak,an,ax,aj,av,au] <;> omega))) | fail)
                 refine jk _ _ ?_ main
                 rw [gk]
                 refine aZ ?_
                 simp [lk,cr]
                ·have gl:(!AL)=true:=by rw [gj];rfl
                 rw [gn,cr] at fH
                 have Jg:=fH;repeat' (first | (simp -implicitDefEqProofs only [go_sem,Int.reduceNegSucc,cA,dV,cB,dW,cM,ew,cX,eJ,dr,eV,dF,fk,dG,fm,dH,fo,dI,fq,dJ,fu,cC,dX,cD,dY,cE,dZ,cF,ec,cG,ee,cH,eg,cI,ek,cJ,ep,cK,er,cL,eu,cN,ey,cO,ez,cP,eA,cQ,eC,cR,eD,cS,eE,cT,eF,cU,eG,cV,eH,cW,eI,cY,eK,cZ,eL,dc,eM,de,eN,dg,eO,dh,eP,di,eR,dj,eS,dm,eT,dn,eU,dw,eW,dx,eX,cw,eY,dy,eZ,dz,fe,dA,ff,dB,fh,dD,fj,dP,dK,dL,dM,dN,dO,dQ,dR,dS,dU,cz,cv,af,Q4.ints,Bool.and_self,hh,gl,gk]) | (with_reducible first | refine ag Jg ?_ | refine ah Jg ?_) | ((first | refine ai (fun hg=>?_) (fun hg=>?_) | refine ay (fun hg=>?_) (fun hg=>?_) | refine az (fun hg=>?_) (fun hg=>?_)) <;> try simp -implicitDefEqProofs only [hg,Bool.not_true,Bool.not_false]) | ((with_reducible apply And.intro);focus (first | trivial | omega | decide | (simp -implicitDefEqProofs only [maxLen];omega) | (simp [maxLen,af,ak,an,ax,aj,av,au] <;> omega))) | fail)
                 refine jk _ _ ?_ main
                 rw [gk]
                 refine aZ ?_
                 simp [lk,cr]
               ·have Jh:=o1;have Ji:=o2;repeat' (first | (simp -implicitDefEqProofs only [go_sem,Int.reduceNegSucc,cA,dV,cB,dW,cM,ew,cX,eJ,dr,eV,dF,fk,dG,fm,dH,fo,dI,fq,dJ,fu,cC,dX,cD,dY,cE,dZ,cF,ec,cG,ee,cH,eg,cI,ek,cJ,ep,cK,er,cL,eu,cN,ey,cO,ez,cP,eA,cQ,eC,cR,eD,cS,eE,cT,eF,cU,eG,cV,eH,cW,eI,cY,eK,cZ,eL,dc,eM,de,eN,dg,eO,dh,eP,di,eR,dj,eS,dm,eT,dn,eU,dw,eW,dx,eX,cw,eY,dy,eZ,dz,fe,dA,ff,dB,fh,dD,fj,dP,dK,dL,dM,dN,dO,dQ,dR,dS,dU,cz,cv,af,Q4.ints,Bool.and_self,hh]) | (with_reducible refine aA ?_) | (with_reducible first | refine ag Jh ?_ | refine ah Jh ?_) | (with_reducible first | refine ag Ji ?_ | refine ah Ji ?_) | ((first | refine ai (fun hg=>?_) (fun hg=>?_) | refine ay (fun hg=>?_) (fun hg=>?_) | refine az (fun hg=>?_) (fun hg=>?_)) <;> try simp -implicitDefEqProofs only [hg,Bool.not_true,Bool.not_false]) | ((with_reducible apply And.intro);focus (first | trivial | omega | decide | (simp -implicitDefEqProofs only [maxLen];omega) | (simp [maxLen,af,ak,an,ax,aj,av,au] <;> omega))) | fail)
                refine jV 5 ?_
                have Jj:=s1;have Jk:=s3;repeat' (first | (simp -implicitDefEqProofs only [go_sem,Int.reduceNegSucc,ke,kf,kg,ki,kj,kk,jR,Int.reduceLT,decide_true,decide_false,Int.reduceToNat,Nat.reduceMul,cA,dV,cB,dW,cM,ew,cX,eJ,dr,eV,dF,fk,dG,fm,dH,fo,dI,fq,dJ,fu,cC,dX,cD,dY,cE,dZ,cF,ec,cG,ee,cH,eg,cI,ek,cJ,ep,cK,er,cL,eu,cN,ey,cO,ez,cP,eA,cQ,eC,cR,eD,cS,eE,cT,eF,cU,eG,cV,eH,cW,eI,cY,eK,cZ,eL,dc,eM,de,eN,dg,eO,dh,eP,di,eR,dj,eS,dm,eT,dn,eU,dw,eW,dx,eX,cw,eY,dy,eZ,dz,fe,dA,ff,dB,fh,dD,fj,dP,dK,dL,dM,dN,dO,dQ,dR,dS,dU,cz,cv,af,Q4.ints]) | (with_reducible refine aA ?_) | (with_reducible show G _ _ (It.l _ _::_) _ _ _;refine jU ?_) | ((first | refine bR (Jj _) ?_ ?_ ?_ | refine cg (Jj _) ?_ ?_ ?_ | fail);(focus (simp [aU,aB] <;> fail));(focus (simp [bh,aR] <;> fail))) | ((first | refine bR (Jk _) ?_ ?_ ?_ | refine cg (Jk _) ?_ ?_ ?_ | fail);(focus (simp [aU,aB] <;> fail));(focus (simp [bh,aR] <;> fail))) | ((first | refine ai (fun hg=>?_) (fun hg=>?_) | refine ay (fun hg=>?_) (fun hg=>?_) | refine az (fun hg=>?_) (fun hg=>?_)) <;> try simp -implicitDefEqProofs only [hg,Bool.not_true,Bool.not_false]) | ((with_reducible apply And.intro);focus (first | trivial | omega | decide | (simp -implicitDefEqProofs only [maxLen];omega) | (simp [maxLen,af,ak,an,ax,aj,av,au] <;> omega))) | fail)
                all_goals (refine (hK _ _ ?_).2;clear hK;simp -implicitDefEqProofs only [go_sem,Int.reduceNegSucc,aX,bg,bp,bq,aM,aK,aI,fN,bz,Option.map,Option.isSome] <;>(try simp_all [-Int.not_lt,-Int.not_le,aM,aK,aI,bG,fN,bz,Option.map,Option.isSome]) <;> try omega)
           | true=>
             obtain ⟨t,rfl⟩:=Option.isSome_iff_exists.1 (hr rfl)
             simp -implicitDefEqProofs only [oU,pg,tG,jC,hh,Bool.false_eq_true,if_false,if_true,Option.bind,Bool.not_true,Bool.not_false] at hK
             simp -implicitDefEqProofs only [bz,Pl.cells,List.map_cons,List.map_nil,List.cons_append,List.nil_append] at fH
             have s3:=s2 (jE H.n L X)
             have lH:=qb ⟨x.l,0,x.w,jE H.n L X,⟨bf M.a 0,x.r,bf M.c 0,x.l⟩,⟨D.a.n,D.b.n,D.c.n,D.d.n⟩,s.bw,true,⟨⟨0,0⟩,⟨0,0⟩,⟨0,0⟩,false,0⟩⟩ (.sl 1 (aL t.ys)) t.p (ct [ct [s.bw.a,D.a.n,D.c.n,s.bw.c],jE H.n L X]) rfl rfl
             simp -implicitDefEqProofs only [Fm.cells,Q4.ints,Ch.cells,gY,Pl.cells,List.map_cons,List.map_nil,List.cons_append,List.nil_append,hh] at lH
             generalize pR _ kids t.p (ct [ct [s.bw.a,D.a.n,D.c.n,s.bw.c],jE H.n L X])=C at *
             apply via
             ·intro main
              rcases hab with ⟨gj,gn,cr⟩ | ⟨gj,gk,gn,cr⟩ | ⟨gj,gk,gn,cr⟩
              ·have gl:(!AL)=false:=by rw [gj];rfl
               rw [gn,cr] at fH
               have Jl:=fH;repeat' (first | (simp -implicitDefEqProofs only [go_sem,Int.reduceNegSucc,cA,dV,cB,dW,cM,ew,cX,eJ,dr,eV,dF,fk,dG,fm,dH,fo,dI,fq,dJ,fu,cC,dX,cD,dY,cE,dZ,cF,ec,cG,ee,cH,eg,cI,ek,cJ,ep,cK,er,cL,eu,cN,ey,cO,ez,cP,eA,cQ,eC,cR,eD,cS,eE,cT,eF,cU,eG,cV,eH,cW,eI,cY,eK,cZ,eL,dc,eM,de,eN,dg,eO,dh,eP,di,eR,dj,eS,dm,eT,dn,eU,dw,eW,dx,eX,cw,eY,dy,eZ,dz,fe,dA,ff,dB,fh,dD,fj,dP,dK,dL,dM,dN,dO,dQ,dR,dS,dU,cz,cv,af,Q4.ints,Bool.and_self,hh,gl]) | (with_reducible first | refine ag Jl ?_ | refine ah Jl ?_) | ((first | refine ai (fun hg=>?_) (fun hg=>?_) | refine ay (fun hg=>?_) (fun hg=>?_) | refine az (fun hg=>?_) (fun hg=>?_)) <;> try simp -implicitDefEqProofs only [hg,Bool.not_true,Bool.not_false]) | ((with_reducible apply And.intro);focus (first | trivial | omega | decide | (simp -implicitDefEqProofs only [maxLen];omega) | (simp [maxLen,af,ak,an,ax,aj,av,au] <;> omega))) | fail)
               refine jk [(15,.rv (.bool true)),(10,.ptr 1 0),(11,.ptr 2 0),(13,.ptr 3 0),(14,.ptr 4 0),(23,.ptr 7 0),(26,.rv (.bool OB)),(27,.ptr 9 0),(28,.ptr 10 0)] _ (aZ ?_) main
               simp [lk,cr]
              ·have gl:(!AL)=true:=by rw [gj];rfl
               rw [gn,cr] at fH
               have Jm:=fH;repeat' (first | (simp -implicitDefEqProofs only [go_sem,Int.reduceNegSucc,cA,dV,cB,dW,cM,ew,cX,eJ,dr,eV,dF,fk,dG,fm,dH,fo,dI,fq,dJ,fu,cC,dX,cD,dY,cE,dZ,cF,ec,cG,ee,cH,eg,cI,ek,cJ,ep,cK,er,cL,eu,cN,ey,cO,ez,cP,eA,cQ,eC,cR,eD,cS,eE,cT,eF,cU,eG,cV,eH,cW,eI,cY,eK,cZ,eL,dc,eM,de,eN,dg,eO,dh,eP,di,eR,dj,eS,dm,eT,dn,eU,dw,eW,dx,eX,cw,eY,dy,eZ,dz,fe,dA,ff,dB,fh,dD,fj,dP,dK,dL,dM,dN,dO,dQ,dR,dS,dU,cz,cv,af,Q4.ints,Bool.and_self,hh,gl,gk]) | (with_reducible first | refine ag Jm ?_ | refine ah Jm ?_) | ((first | refine ai (fun hg=>?_) (fun hg=>?_) | refine ay (fun hg=>?_) (fun hg=>?_) | refine az (fun hg=>?_) (fun hg=>?_)) <;> try simp -implicitDefEqProofs only [hg,Bool.not_true,Bool.not_false]) | ((with_reducible apply And.intro);focus (first | trivial | omega | decide | (simp -implicitDefEqProofs only [maxLen];omega) | (simp [maxLen,af,ak,an,ax,aj,av,au] <;> omega))) | fail)
               refine jk _ _ ?_ main
               rw [gk]
               refine aZ ?_
               simp [lk,cr]
              ·have gl:(!AL)=true:=by rw [gj];rfl
               rw [gn,cr] at fH
               have Jn:=fH;repeat' (first | (simp -implicitDefEqProofs only [go_sem,Int.reduceNegSucc,cA,dV,cB,dW,cM,ew,cX,eJ,dr,eV,dF,fk,dG,fm,dH,fo,dI,fq,dJ,fu,cC,dX,cD,dY,cE,dZ,cF,ec,cG,ee,cH,eg,cI,ek,cJ,ep,cK,er,cL,eu,cN,ey,cO,ez,cP,eA,cQ,eC,cR,eD,cS,eE,cT,eF,cU,eG,cV,eH,cW,eI,cY,eK,cZ,eL,dc,eM,de,eN,dg,eO,dh,eP,di,eR,dj,eS,dm,eT,dn,eU,dw,eW,dx,eX,cw,eY,dy,eZ,dz,fe,dA,ff,dB,fh,dD,fj,dP,dK,dL,dM,dN,dO,dQ,dR,dS,dU,cz,cv,af,Q4.ints,Bool.and_self,hh,gl,gk]) | (with_reducible first | refine ag Jn ?_ | refine ah Jn ?_) | ((first | refine ai (fun hg=>?_) (fun hg=>?_) | refine ay (fun hg=>?_) (fun hg=>?_) | refine az (fun hg=>?_) (fun hg=>?_)) <;> try simp -implicitDefEqProofs only [hg,Bool.not_true,Bool.not_false]) | ((with_reducible apply And.intro);focus (first | trivial | omega | decide | (simp -implicitDefEqProofs only [maxLen];omega) | (simp [maxLen,af,ak,an,ax,aj,av,au] <;> omega))) | fail)
               refine jk _ _ ?_ main
               rw [gk]
               refine aZ ?_
               simp [lk,cr]
             ·have Jo:=o1;have Jp:=o2;repeat' (first | (simp -implicitDefEqProofs only [go_sem,Int.reduceNegSucc,cA,dV,cB,dW,cM,ew,cX,eJ,dr,eV,dF,fk,dG,fm,dH,fo,dI,fq,dJ,fu,cC,dX,cD,dY,cE,dZ,cF,ec,cG,ee,cH,eg,cI,ek,cJ,ep,cK,er,cL,eu,cN,ey,cO,ez,cP,eA,cQ,eC,cR,eD,cS,eE,cT,eF,cU,eG,cV,eH,cW,eI,cY,eK,cZ,eL,dc,eM,de,eN,dg,eO,dh,eP,di,eR,dj,eS,dm,eT,dn,eU,dw,eW,dx,eX,cw,eY,dy,eZ,dz,fe,dA,ff,dB,fh,dD,fj,dP,dK,dL,dM,dN,dO,dQ,dR,dS,dU,cz,cv,af,Q4.ints,Bool.and_self,hh]) | (with_reducible refine aA ?_) | (with_reducible first | refine ag Jo ?_ | refine ah Jo ?_) | (with_reducible first | refine ag Jp ?_ | refine ah Jp ?_) | ((first | refine ai (fun hg=>?_) (fun hg=>?_) | refine ay (fun hg=>?_) (fun hg=>?_) | refine az (fun hg=>?_) (fun hg=>?_)) <;> try simp -implicitDefEqProofs only [hg,Bool.not_true,Bool.not_false]) | ((with_reducible apply And.intro);focus (first | trivial | omega | decide | (simp -implicitDefEqProofs only [maxLen];omega) | (simp [maxLen,af,ak,an,ax,aj,av,au] <;> omega))) | fail)
              refine jV 5 ?_
              cases k1:fT [s.bw.a,D.a.n,D.c.n,s.bw.c] <;> cases k2:fT [ct [s.bw.a,D.a.n,D.c.n,s.bw.c],jE H.n L X] <;> rw [k1] at s1 <;> rw [k2] at s3 <;> simp -implicitDefEqProofs only [k1,k2,and_self,and_true,true_and,and_false,false_and,Bool.false_eq_true,if_true,if_false] at hK
              all_goals ((have Jq:=s1;have Jr:=s3;have Js:=lH;repeat' (first | (simp -implicitDefEqProofs only [go_sem,Int.reduceNegSucc,ke,kf,kg,ki,kj,kk,jR,Int.reduceLT,decide_true,decide_false,Int.reduceToNat,Nat.reduceMul,cA,dV,cB,dW,cM,ew,cX,eJ,dr,eV,dF,fk,dG,fm,dH,fo,dI,fq,dJ,fu,cC,dX,cD,dY,cE,dZ,cF,ec,cG,ee,cH,eg,cI,ek,cJ,ep,cK,er,cL,eu,cN,ey,cO,ez,cP,eA,cQ,eC,cR,eD,cS,eE,cT,eF,cU,eG,cV,eH,cW,eI,cY,eK,cZ,eL,dc,eM,de,eN,dg,eO,dh,eP,di,eR,dj,eS,dm,eT,dn,eU,dw,eW,dx,eX,cw,eY,dy,eZ,dz,fe,dA,ff,dB,fh,dD,fj,dP,dK,dL,dM,dN,dO,dQ,dR,dS,dU,cz,cv,af,Q4.ints]) | (with_reducible refine aA ?_) | (with_reducible show G _ _ (It.l _ _::_) _ _ _;refine jU ?_) | ((first | refine bR (Jq _) ?_ ?_ ?_ | refine cg (Jq _) ?_ ?_ ?_ | fail);(focus (simp [aU,aB] <;> fail));(focus (simp [bh,aR] <;> fail))) | ((first | refine bR (Jr _) ?_ ?_ ?_ | refine cg (Jr _) ?_ ?_ ?_ | fail);(focus (simp [aU,aB] <;> fail));(focus (simp [bh,aR] <;> fail))) | (with_reducible first | refine ag Js ?_ | refine ah Js ?_) | ((first | refine ai (fun hg=>?_) (fun hg=>?_) | refine ay (fun hg=>?_) (fun hg=>?_) | refine az (fun hg=>?_) (fun hg=>?_)) <;> try simp -implicitDefEqProofs only [hg,Bool.not_true,Bool.not_false]) | ((with_reducible apply And.intro);focus (first | trivial | omega | decide | (simp -implicitDefEqProofs only [maxLen];omega) | (simp [maxLen,af,ak,an,ax,aj,av,au] <;> omega))) | fail)))
              all_goals (refine (hK _ _ ?_).2;clear hK;simp -implicitDefEqProofs only [go_sem,Int.reduceNegSucc,aX,bg,bp,bq,aM,aK,aI,fN,bz,Fm.cells,Q4.ints,Ch.cells,Pl.cells,Option.map,Option.isSome] <;>(try simp_all [-Int.not_lt,-Int.not_le,aM,aK,aI,bG,fN,bz,Fm.cells,Q4.ints,Ch.cells,Pl.cells,Option.map,Option.isSome]) <;> try omega)
end Go.aJ

namespace Go.aJ
open Go
theorem UK {l:List Nd} {m:Int} (h:iI l m=true):gW l m=true:=by
 simp -implicitDefEqProofs only [iI,Bool.and_eq_true] at h;exact h.1
theorem Lp {l:List Nd} {n:Int} {m:Nat} (h:m∈bK l n):gW l m=true:=UK (by simpa using (List.mem_filter.1 h).2)
theorem HU (l:List Nd) (ht:fU l=true) (hs:iA l) (hb:l.length≤1000):∀ (d n:Nat) (w:Int) (h:Sz) (bH:Bool),n<l.length→l.length<n+d→aG Go.Proofs.Tryz.prog 11 [.rv (.sl 49 (bu l)),.rv (.int .i64 n),.rv (.int .i64 w),h.sv,.rv (.bool bH)] [] [] (jD (if (gW l n && jn w h)=true then mI l d n w h bH else none))
 | 0,n,w,h,bH,hn,hd=>by omega
 | d+1,n,w,h,bH,hn,hd=>by
   refine Uw l ht (by omega) n w h bH (tQ l (mI l d) n) (fun e x hq=>Fl hq) (fun x=>?_)
   have hk:=QE l n hn
   have vo:=Ux l ht hb n hn (-1) x.w (mm (ck l n w h)) (ck l n w h).nE (ck l n w h).lC (fun m=>mI l d m x.w (mm (ck l n w h)) (bS l n).bH) (fun m hm q hq=>by
    rw [hk] at hm
    have:=xA hs d m _ _ _ q (oV hm).2.1 hq
    have:=(hs.uX (oV hm).2.1).2
    omega) (fun oh m hm=>by
    rw [hk] at hm
    obtain ⟨h1,h2,h3⟩:=oV hm
    have hu:=hs.up m h1 h2
    have:=HU l ht hs hb d m x.w (mm (ck l n w h)) (bS l n).bH h2 (by omega)
    rw [Lp hm,oh] at this
    exact this)
   rw [hk] at vo
   exact vo
theorem UA (l:List Nd) (ht:fU l=true) (n:Int) (hn:gW l n=false) (w:Int) (h:Sz) (bH:Bool):aG Go.Proofs.Tryz.prog 11 [.rv (.sl 49 (bu l)),.rv (.int .i64 n),.rv (.int .i64 w),h.sv,.rv (.bool bH)] [] [] (jD none):=by
 refine bt FI [.rv (.sl 49 (bu l)),.rv (.int .i64 n),.rv (.int .i64 w),h.sv,.rv (.bool bH)] _ (by simp) (by simp [aO,aW,bl,aQ,aY,aC.sv,Ln.sv,Nd.sv]) (fun K hK=>?_)
 have hm:=wH l ht n
 rw [hn] at hm
 conv in fc _ _ _ _=>reduce
 simp -implicitDefEqProofs only [Sz.sv,Sz.cells,go_sem,Int.reduceNegSucc]
 have aS:=hm;repeat' (first | (simp -implicitDefEqProofs only [go_sem,Int.reduceNegSucc]) | (with_reducible refine aA ?_) | (with_reducible first | refine ag aS ?_ | refine ah aS ?_) | ((first | refine ai (fun hg=>?_) (fun hg=>?_) | refine ay (fun hg=>?_) (fun hg=>?_) | refine az (fun hg=>?_) (fun hg=>?_)) <;> try simp -implicitDefEqProofs only [hg,Bool.not_true,Bool.not_false]) | ((with_reducible apply And.intro);focus (first | trivial | omega | decide | (simp -implicitDefEqProofs only [maxLen];omega) | (simp [maxLen,af,ak,an,ax,aj,av,au] <;> omega))) | fail)
 all_goals (refine (hK _ _ ?_).2;clear hK;simp -implicitDefEqProofs only [go_sem,Int.reduceNegSucc,aX,bg,bp,bq,aM,aK,aI,fN,bz,Option.map,Option.isSome] <;>(try simp_all [-Int.not_lt,-Int.not_le,aM,aK,aI,bG,fN,bz,Option.map,Option.isSome]) <;> try omega)
theorem Uz (l:List Nd) (ht:fU l=true) (hs:iA l) (hb:l.length≤1000) (n w:Int) (h:Sz) (bH:Bool):aG Go.Proofs.Tryz.prog 11 [.rv (.sl 49 (bu l)),.rv (.int .i64 n),.rv (.int .i64 w),h.sv,.rv (.bool bH)] [] [] (jD (pP l n w h bH)):=by
 cases hm:gW l n with
 | false=>
   have:pP l n w h bH=none:=by simp [pP,hm]
   rw [this]
   exact UA l ht n hm w h bH
 | true=>
   have hin:gP l n=true:=by simp [gW] at hm;exact hm.1
   obtain ⟨k,rfl,hk⟩:=qi hin
   exact HU l ht hs hb (l.length+1) k w h bH hk (by omega)
end Go.aJ

namespace Go.aJ
open Go
theorem OG:aT Go.Proofs.Tryz.prog 41 14 (fc Go.Proofs.Tryz.prog 41 14 [(.c 2 8 true)]) [(.c 2 8 true)]:=bn (by kernel_rfl)
def zT:AC:=(.seq (.mu [⟨(some 2),.box,[(.t 0)],none⟩,⟨(some 3),.box,[(.t 1)],none⟩,⟨(some 4),.mv,[(.c (.rv (.bool false)))],none⟩]) (.seq (.seq (.mu [⟨(some 6),(.gE 0),[(.t 2)],none⟩,⟨(some 7),(.load 1 false),[(.t 6)],none⟩,⟨(some 8),.len,[(.t 7)],none⟩,⟨(some 9),(.gE 0),[(.t 3)],none⟩,⟨(some 10),(.load 1 false),[(.t 9)],none⟩,⟨(some 11),.len,[(.t 10)],none⟩,⟨(some 12),(.kP .neq),[(.t 8),(.t 11)],none⟩,⟨(some 13),.mv,[(.t 12)],none⟩,⟨(some 14),(.gE 1),[(.t 2)],(some (13,false))⟩,⟨(some 15),(.load 1 false),[(.t 14)],(some (13,false))⟩,⟨(some 16),(.gE 1),[(.t 3)],(some (13,false))⟩,⟨(some 17),(.load 1 false),[(.t 16)],(some (13,false))⟩,⟨(some 18),(.kP .neq),[(.t 15),(.t 17)],(some (13,false))⟩,⟨(some 19),.pick,[(.t 13),(.c (.rv (.bool true))),(.t 18)],none⟩,⟨(some 20),.mv,[(.t 19)],none⟩,⟨(some 21),(.gE 2),[(.t 2)],(some (20,false))⟩,⟨(some 22),(.load 2 true),[(.t 21)],(some (20,false))⟩,⟨(some 23),(.gE 2),[(.t 3)],(some (20,false))⟩,⟨(some 24),(.load 2 true),[(.t 23)],(some (20,false))⟩,⟨(some 25),(.eqs true true [.i,.i]),[(.t 22),(.t 24)],(some (20,false))⟩,⟨(some 26),.pick,[(.t 20),(.c (.rv (.bool true))),(.t 25)],none⟩,⟨(some 27),.mv,[(.t 26)],none⟩,⟨(some 28),(.gE 4),[(.t 2)],(some (27,false))⟩,⟨(some 29),(.load 2 true),[(.t 28)],(some (27,false))⟩,⟨(some 30),(.gE 4),[(.t 3)],(some (27,false))⟩,⟨(some 31),(.load 2 true),[(.t 30)],(some (27,false))⟩,⟨(some 32),(.eqs true true [.i,.i]),[(.t 29),(.t 31)],(some (27,false))⟩,⟨(some 33),.pick,[(.t 27),(.c (.rv (.bool true))),(.t 32)],none⟩,⟨(some 34),.mv,[(.t 33)],none⟩,⟨(some 35),(.gE 6),[(.t 2)],(some (34,false))⟩,⟨(some 36),(.load 1 false),[(.t 35)],(some (34,false))⟩,⟨(some 37),(.gE 6),[(.t 3)],(some (34,false))⟩,⟨(some 38),(.load 1 false),[(.t 37)],(some (34,false))⟩,⟨(some 39),(.tD true),[(.t 36),(.t 38)],(some (34,false))⟩,⟨(some 40),.pick,[(.t 34),(.c (.rv (.bool true))),(.t 39)],none⟩]) (.cond (.t 40) (.seq (.mu [⟨(some 4),.mv,[(.c (.rv (.bool false)))],none⟩]) .ret) .skip)) (.seq (.seq (.mu [⟨(some 41),(.gE 0),[(.t 2)],none⟩,⟨(some 42),(.load 1 false),[(.t 41)],none⟩,⟨(some 43),.len,[(.t 42)],none⟩,⟨(some 44),.mv,[(.c (.rv (.int .i64 0)))],none⟩]) (.seq (.block 0 (.loop (.seq (.mu [⟨(some 45),(.kP .lss),[(.t 44),(.t 43)],none⟩]) (.seq (.cond (.t 45) .skip (.exit 0)) (.seq (.seq (.block 1 (.seq (.mu [⟨(some 46),.mv,[(.t 44)],none⟩,⟨(some 5),.mv,[(.t 46)],none⟩]) (.seq (.uk [0,1,0,7,15,0,32,0,224,480,1023] [⟨(some 47),(.gE 0),[(.t 2)],none⟩,⟨(some 48),(.load 1 false),[(.t 47)],none⟩,⟨(some 49),.mv,[(.t 5)],none⟩,⟨(some 50),(.ixs 1),[(.t 48),(.t 49)],none⟩,⟨(some 51),(.load 1 false),[(.t 50)],none⟩,⟨(some 52),(.gE 0),[(.t 3)],none⟩,⟨(some 53),(.load 1 false),[(.t 52)],none⟩,⟨(some 54),.mv,[(.t 5)],none⟩,⟨(some 55),(.ixs 1),[(.t 53),(.t 54)],none⟩,⟨(some 56),(.load 1 false),[(.t 55)],none⟩,⟨(some 57),(.kP .neq),[(.t 51),(.t 56)],none⟩]) (.cond (.t 57) (.seq (.mu [⟨(some 4),.mv,[(.c (.rv (.bool false)))],none⟩]) .ret) .skip)))) .pW) (.mu [⟨(some 58),(.kP .add),[(.t 44),(.c (.rv (.int .i64 1)))],none⟩,⟨(some 44),.mv,[(.t 58)],none⟩])))))) .pW)) (.seq (.mu [⟨(some 4),.mv,[(.c (.rv (.bool true)))],none⟩]) .ret))))
theorem FG:aT Go.Proofs.Tryz.prog 42 59 zT [(.t 4)]:=AB (by kernel_rfl)
def Dl:AC:=(.seq (.mu [⟨(some 2),.box,[(.t 0)],none⟩,⟨(some 3),.box,[(.t 1)],none⟩,⟨(some 4),.mv,[(.c (.rv (.bool false)))],none⟩]) (.seq (.uk [0,1,0,4,15,31,63,127,63,319,1023,2047,4095,8191,16383,8191,40959,131071,262143,524287,1048575,2097151,1048575,5242879,16777215,33554431,67108863,134217727,268435455,134217727,671088639,2147483647,4294967295,8589934591,17179869183,34359738367,17179869183,85899345919,274877906943,549755813887,1099511627775,2199023255551,4398046511103,2199023255551,10995116277759,35184372088831,70368744177663,140737488355327,281474976710655,562949953421311,281474976710655,1407374883553279,4503599627370495,9007199254740991,18014398509481983,36028797018963967,72057594037927935,144115188075855871,36028797018963967,324259173170675711,1152921504606846975,2305843009213693951,4611686018427387903] [⟨(some 5),(.gE 0),[(.t 2)],none⟩,⟨(some 6),(.load 1 false),[(.t 5)],none⟩,⟨(some 7),(.gE 0),[(.t 3)],none⟩,⟨(some 8),(.load 1 false),[(.t 7)],none⟩,⟨(some 9),(.kP .eql),[(.t 6),(.t 8)],none⟩,⟨(some 10),.mv,[(.t 9)],none⟩,⟨(some 11),(.gE 1),[(.t 2)],(some (10,true))⟩,⟨(some 12),(.load 1 false),[(.t 11)],(some (10,true))⟩,⟨(some 13),(.gE 1),[(.t 3)],(some (10,true))⟩,⟨(some 14),(.load 1 false),[(.t 13)],(some (10,true))⟩,⟨(some 15),(.kP .eql),[(.t 12),(.t 14)],(some (10,true))⟩,⟨(some 16),.pick,[(.t 10),(.t 15),(.c (.rv (.bool false)))],none⟩,⟨(some 17),.mv,[(.t 16)],none⟩,⟨(some 18),(.gE 2),[(.t 2)],(some (17,true))⟩,⟨(some 19),(.load 1 false),[(.t 18)],(some (17,true))⟩,⟨(some 20),(.gE 2),[(.t 3)],(some (17,true))⟩,⟨(some 21),(.load 1 false),[(.t 20)],(some (17,true))⟩,⟨(some 22),(.kP .eql),[(.t 19),(.t 21)],(some (17,true))⟩,⟨(some 23),.pick,[(.t 17),(.t 22),(.c (.rv (.bool false)))],none⟩,⟨(some 24),.mv,[(.t 23)],none⟩,⟨(some 25),(.gE 3),[(.t 2)],(some (24,true))⟩,⟨(some 26),(.load 1 false),[(.t 25)],(some (24,true))⟩,⟨(some 27),(.gE 3),[(.t 3)],(some (24,true))⟩,⟨(some 28),(.load 1 false),[(.t 27)],(some (24,true))⟩,⟨(some 29),(.kP .eql),[(.t 26),(.t 28)],(some (24,true))⟩,⟨(some 30),.pick,[(.t 24),(.t 29),(.c (.rv (.bool false)))],none⟩,⟨(some 31),.mv,[(.t 30)],none⟩,⟨(some 32),(.gE 4),[(.t 2)],(some (31,true))⟩,⟨(some 33),(.load 4 true),[(.t 32)],(some (31,true))⟩,⟨(some 34),(.gE 4),[(.t 3)],(some (31,true))⟩,⟨(some 35),(.load 4 true),[(.t 34)],(some (31,true))⟩,⟨(some 36),(.eqs false true [.i,.i,.i,.i]),[(.t 33),(.t 35)],(some (31,true))⟩,⟨(some 37),.pick,[(.t 31),(.t 36),(.c (.rv (.bool false)))],none⟩,⟨(some 38),.mv,[(.t 37)],none⟩,⟨(some 39),(.gE 8),[(.t 2)],(some (38,true))⟩,⟨(some 40),(.load 4 true),[(.t 39)],(some (38,true))⟩,⟨(some 41),(.gE 8),[(.t 3)],(some (38,true))⟩,⟨(some 42),(.load 4 true),[(.t 41)],(some (38,true))⟩,⟨(some 43),(.eqs false true [.i,.i,.i,.i]),[(.t 40),(.t 42)],(some (38,true))⟩,⟨(some 44),.pick,[(.t 38),(.t 43),(.c (.rv (.bool false)))],none⟩,⟨(some 45),.mv,[(.t 44)],none⟩,⟨(some 46),(.gE 12),[(.t 2)],(some (45,true))⟩,⟨(some 47),(.load 4 true),[(.t 46)],(some (45,true))⟩,⟨(some 48),(.gE 12),[(.t 3)],(some (45,true))⟩,⟨(some 49),(.load 4 true),[(.t 48)],(some (45,true))⟩,⟨(some 50),(.eqs false true [.i,.i,.i,.i]),[(.t 47),(.t 49)],(some (45,true))⟩,⟨(some 51),.pick,[(.t 45),(.t 50),(.c (.rv (.bool false)))],none⟩,⟨(some 52),.mv,[(.t 51)],none⟩,⟨(some 53),(.gE 16),[(.t 2)],(some (52,true))⟩,⟨(some 54),(.load 1 false),[(.t 53)],(some (52,true))⟩,⟨(some 55),(.gE 16),[(.t 3)],(some (52,true))⟩,⟨(some 56),(.load 1 false),[(.t 55)],(some (52,true))⟩,⟨(some 57),(.tD false),[(.t 54),(.t 56)],(some (52,true))⟩,⟨(some 58),.pick,[(.t 52),(.t 57),(.c (.rv (.bool false)))],none⟩,⟨(some 59),.mv,[(.t 58)],none⟩,⟨(some 60),(.gE 17),[(.t 2)],(some (59,true))⟩,⟨(some 61),(.load 8 true),[(.t 60)],(some (59,true))⟩,⟨(some 62),(.call 41),[(.t 61)],(some (59,true))⟩,⟨(some 63),(.gE 17),[(.t 3)],(some (59,true))⟩,⟨(some 64),(.load 8 true),[(.t 63)],(some (59,true))⟩,⟨(some 65),(.eqs false true [.i,.i,.i,.i,.i,.i,.b,.i]),[(.t 62),(.t 64)],(some (59,true))⟩,⟨(some 66),.pick,[(.t 59),(.t 65),(.c (.rv (.bool false)))],none⟩,⟨(some 4),.mv,[(.t 66)],none⟩]) .ret))
theorem OI:aT Go.Proofs.Tryz.prog 12 67 Dl [(.t 4)]:=AB (by kernel_rfl)
theorem FH:aT Go.Proofs.Tryz.prog 13 64 (fc Go.Proofs.Tryz.prog 13 64 [(.t 4)]) [(.t 4)]:=bn (by kernel_rfl)
theorem uP (a:Int):(a == a)=true:=by simp
theorem sZ (a:Int):(a != a)=false:=by simp
theorem uO (a:Bool):(a == a)=true:=by simp
theorem Dg (a:Bool):(a != a)=false:=by simp
theorem TW (c:Ch):aG Go.Proofs.Tryz.prog 41 [.agg (c.cells.map .rv)] [] [] (.agg (c.cells.map .rv)):=by
 refine bt OG [.agg (c.cells.map .rv)] _ (by simp) (by simp [aO,aW,bl,aQ,aY,aC.sv,Ln.sv,Nd.sv]) (fun K hK=>?_)
 conv in fc _ _ _ _=>reduce
 simp -implicitDefEqProofs only [Ch.cells,go_sem,Int.reduceNegSucc]
 repeat' (first | (simp -implicitDefEqProofs only [go_sem,Int.reduceNegSucc]) | (with_reducible refine aA ?_) | ((first | refine ai (fun hg=>?_) (fun hg=>?_) | refine ay (fun hg=>?_) (fun hg=>?_) | refine az (fun hg=>?_) (fun hg=>?_)) <;> try simp -implicitDefEqProofs only [hg,Bool.not_true,Bool.not_false]) | ((with_reducible apply And.intro);focus (first | trivial | omega | decide | (simp -implicitDefEqProofs only [maxLen];omega) | (simp [maxLen,af,ak,an,ax,aj,av,au] <;> omega))) | fail)
 all_goals (refine (hK _ _ ?_).2;clear hK;simp -implicitDefEqProofs only [go_sem,Int.reduceNegSucc,aX,bg,bp,bq,aM,aK,aI,Ch.cells] <;>(try simp_all [-Int.not_lt,-Int.not_le,aM,aK,aI,bG,Ch.cells]) <;> try omega)
theorem TV (p:Pl):aG Go.Proofs.Tryz.prog 42 [.agg ((gY .cm p).map .rv),.agg ((gY .cm p).map .rv)] [] [] (.rv (.bool true)):=by
 refine bt FG [.agg ((gY .cm p).map .rv),.agg ((gY .cm p).map .rv)] _ (by simp) (by simp [aO,aW,bl,aQ,aY,aC.sv,Ln.sv,Nd.sv]) (fun K hK=>?_)
 simp -implicitDefEqProofs only [zT,gY,Pl.cells,go_sem,Int.reduceNegSucc]
 repeat' (first | (simp -implicitDefEqProofs only [go_sem,Int.reduceNegSucc,sZ,Dg,uP,uO,Bool.and_self,Bool.not_true]) | (with_reducible refine aA ?_) | ((first | refine ai (fun hg=>?_) (fun hg=>?_) | refine ay (fun hg=>?_) (fun hg=>?_) | refine az (fun hg=>?_) (fun hg=>?_)) <;> try simp -implicitDefEqProofs only [hg,Bool.not_true,Bool.not_false]) | ((with_reducible apply And.intro);focus (first | trivial | omega | decide | (simp -implicitDefEqProofs only [maxLen];omega) | (simp [maxLen,af,ak,an,ax,aj,av,au] <;> omega))) | fail)
 refine jV 1 ?_
 repeat' (first | (simp -implicitDefEqProofs only [go_sem,Int.reduceNegSucc,ke,kf,kg,ki,kj,kk,jR,Int.reduceLT,decide_true,decide_false,Int.reduceToNat,Nat.reduceMul]) | (with_reducible refine aA ?_) | (with_reducible show G _ _ (It.l _ _::_) _ _ _;refine jU ?_) | ((first | refine ai (fun hg=>?_) (fun hg=>?_) | refine ay (fun hg=>?_) (fun hg=>?_) | refine az (fun hg=>?_) (fun hg=>?_)) <;> try simp -implicitDefEqProofs only [hg,Bool.not_true,Bool.not_false]) | ((with_reducible apply And.intro);focus (first | trivial | omega | decide | (simp -implicitDefEqProofs only [maxLen];omega) | (simp [maxLen,af,ak,an,ax,aj,av,au] <;> omega))) | fail)
 exact (hK _ _ (bO rfl)).2
theorem TU (ys:List Int) (hy:ys.length≤1000000) (p:Pl):aG Go.Proofs.Tryz.prog 42 [.agg ((gY (.sl 1 (aL ys)) p).map .rv),.agg ((gY (.sl 1 (aL ys)) p).map .rv)] [] [] (.rv (.bool true)):=by
 refine bt FG [.agg ((gY (.sl 1 (aL ys)) p).map .rv),.agg ((gY (.sl 1 (aL ys)) p).map .rv)] _ (by simp) (by simp [aO,aW,bl,aQ,aY,aC.sv,Ln.sv,Nd.sv]) (fun K hK=>?_)
 have hl:=aj ys
 simp -implicitDefEqProofs only [zT,gY,Pl.cells,go_sem,Int.reduceNegSucc]
 repeat' (first | (simp -implicitDefEqProofs only [go_sem,Int.reduceNegSucc,sZ,Dg,uP,uO,hl,Bool.and_self,Bool.not_true]) | (with_reducible refine aA ?_) | ((first | refine ai (fun hg=>?_) (fun hg=>?_) | refine ay (fun hg=>?_) (fun hg=>?_) | refine az (fun hg=>?_) (fun hg=>?_)) <;> try simp -implicitDefEqProofs only [hg,Bool.not_true,Bool.not_false]) | ((with_reducible apply And.intro);focus (first | trivial | omega | decide | (simp -implicitDefEqProofs only [maxLen];omega) | (simp [maxLen,af,ak,an,ax,aj,av,au] <;> omega))) | fail)
 refine fG (ι:=Nat) (fun k=>[(44,.rv (.int .i64 k)),(43,.rv (.int .i64 ys.length)),(2,.ptr 0 0),(3,.ptr 1 0)]) (fun _=>[some (.var ((gY (.sl 1 (aL ys)) p).map .rv)),some (.var ((gY (.sl 1 (aL ys)) p).map .rv))]) (fun k=>k≤ys.length) (fun k=>ys.length - k) 0 (Nat.zero_le _) (aZ (by simp [lk])) (fun k hk K' hN hX hR=>?_)
 simp -implicitDefEqProofs only [gY,Pl.cells,go_sem,Int.reduceNegSucc]
 refine ai (fun hg=>?_) (fun hg=>?_)
 ·have aE:k<ys.length:=by simp at hg;omega
  have wu:=fy (k:=k) (by omega)
  have hx:=ow aE
  repeat' (first | (simp -implicitDefEqProofs only [go_sem,Int.reduceNegSucc,hx,hl,wu,sZ]) | (with_reducible refine aA ?_) | ((first | refine ai (fun hg=>?_) (fun hg=>?_) | refine ay (fun hg=>?_) (fun hg=>?_) | refine az (fun hg=>?_) (fun hg=>?_)) <;> try simp -implicitDefEqProofs only [hg,Bool.not_true,Bool.not_false]) | ((with_reducible apply And.intro);focus (first | trivial | omega | decide | (simp -implicitDefEqProofs only [maxLen];omega) | (simp [maxLen,af,ak,an,ax,aj,av,au] <;> omega) | (omega;done))) | fail)
  exact hN (k+1) _ _ (by omega) (by omega) (aZ (by simp [lk]))
 ·simp -implicitDefEqProofs only [go_sem,Int.reduceNegSucc]
  refine hX _ _ _ ?_
  repeat' (first | (simp -implicitDefEqProofs only [go_sem,Int.reduceNegSucc]) | (with_reducible refine aA ?_) | ((first | refine ai (fun hg=>?_) (fun hg=>?_) | refine ay (fun hg=>?_) (fun hg=>?_) | refine az (fun hg=>?_) (fun hg=>?_)) <;> try simp -implicitDefEqProofs only [hg,Bool.not_true,Bool.not_false]) | ((with_reducible apply And.intro);focus (first | trivial | omega | decide | (simp -implicitDefEqProofs only [maxLen];omega) | (simp [maxLen,af,ak,an,ax,aj,av,au] <;> omega))) | fail)
  exact (hK _ _ (bO rfl)).2
theorem Ls (f:Fm):f.cells.map SV.rv=[.rv (.int .i64 f.x),.rv (.int .i64 f.y),.rv (.int .i64 f.w),.rv (.int .i64 f.h),.rv (.int .i64 f.bB.a),.rv (.int .i64 f.bB.b),.rv (.int .i64 f.bB.c),.rv (.int .i64 f.bB.d),.rv (.int .i64 f.pad.a),.rv (.int .i64 f.pad.b),.rv (.int .i64 f.pad.c),.rv (.int .i64 f.pad.d),.rv (.int .i64 f.bw.a),.rv (.int .i64 f.bw.b),.rv (.int .i64 f.bw.c),.rv (.int .i64 f.bw.d),.rv (.bool f.known),.rv (.int .i64 f.child.top.p),.rv (.int .i64 f.child.top.n),.rv (.int .i64 f.child.bottom.p),.rv (.int .i64 f.child.bottom.n),.rv (.int .i64 f.child.inner.p),.rv (.int .i64 f.child.inner.n),.rv (.bool f.child.through),.rv (.int .i64 f.child.high)]:=rfl
theorem Ky (c:Ch):c.cells.map SV.rv=[.rv (.int .i64 c.top.p),.rv (.int .i64 c.top.n),.rv (.int .i64 c.bottom.p),.rv (.int .i64 c.bottom.n),.rv (.int .i64 c.inner.p),.rv (.int .i64 c.inner.n),.rv (.bool c.through),.rv (.int .i64 c.high)]:=rfl
theorem Cs (f:Fm):aG Go.Proofs.Tryz.prog 12 [.agg (f.cells.map .rv),.agg (f.cells.map .rv)] [] [] (.rv (.bool true)):=by
 refine bt OI [.agg (f.cells.map .rv),.agg (f.cells.map .rv)] _ (by simp) (by simp [aO,aW,bl,aQ,aY,aC.sv,Ln.sv,Nd.sv]) (fun K hK=>?_)
 have ho:=TW f.child
 rw [Ky] at ho
 rw [Ls]
 simp -implicitDefEqProofs only [Dl,go_sem,Int.reduceNegSucc]
 have aS:=ho;repeat' (first | (simp -implicitDefEqProofs only [go_sem,Int.reduceNegSucc,uP,uO,Bool.and_self]) | (with_reducible refine aA ?_) | (with_reducible first | refine ag aS ?_ | refine ah aS ?_) | ((first | refine ai (fun hg=>?_) (fun hg=>?_) | refine ay (fun hg=>?_) (fun hg=>?_) | refine az (fun hg=>?_) (fun hg=>?_)) <;> try simp -implicitDefEqProofs only [hg,Bool.not_true,Bool.not_false]) | ((with_reducible apply And.intro);focus (first | trivial | omega | decide | (simp -implicitDefEqProofs only [maxLen];omega) | (simp [maxLen,af,ak,an,ax,aj,av,au] <;> omega))) | fail)
 exact (hK _ _ (bO rfl)).2
def Ju:Fm:=⟨0,0,0,0,⟨0,0,0,0⟩,⟨0,0,0,0⟩,⟨0,0,0,0⟩,false,⟨⟨0,0⟩,⟨0,0⟩,⟨0,0⟩,false,0⟩⟩
theorem Sd (q:Nat×Fm):(nF q)[0]?=some (.int .i64 q.1):=rfl
theorem Se (q:Nat×Fm):((nF q).drop 1).take 25=q.2.cells:=rfl
theorem Sf (q:Nat×Fm):(nF q).length=26:=rfl
theorem Sc {L:List (Nat×Fm)} {i:Nat} (h:i<L.length):(gX L)[i]?.getD []=nF (L[i]'h):=by simp [gX,h]
theorem TY:aG Go.Proofs.Tryz.prog 13 [.agg ((bz none).map .rv),.agg ((bz none).map .rv)] [] [] (.rv (.bool true)):=by
 refine bt FH [.agg ((bz none).map .rv),.agg ((bz none).map .rv)] _ (by simp) (by simp [aO,aW,bl,aQ,aY,aC.sv,Ln.sv,Nd.sv]) (fun K hK=>?_)
 have hi:=TV ⟨0,⟨0,0⟩,⟨0,0⟩,false⟩
 simp -implicitDefEqProofs only [gY,Pl.cells,List.map_cons,List.map_nil] at hi
 conv in fc _ _ _ _=>reduce
 simp -implicitDefEqProofs only [bz,go_sem,Int.reduceNegSucc]
 have y_2:=hi;repeat' (first | (simp -implicitDefEqProofs only [go_sem,Int.reduceNegSucc,uP,sZ]) | (with_reducible refine aA ?_) | (with_reducible first | refine ag y_2 ?_ | refine ah y_2 ?_) | ((first | refine ai (fun hg=>?_) (fun hg=>?_) | refine ay (fun hg=>?_) (fun hg=>?_) | refine az (fun hg=>?_) (fun hg=>?_)) <;> try simp -implicitDefEqProofs only [hg,Bool.not_true,Bool.not_false]) | ((with_reducible apply And.intro);focus (first | trivial | omega | decide | (simp -implicitDefEqProofs only [maxLen];omega) | (simp [maxLen,af,ak,an,ax,aj,av,au] <;> omega))) | fail)
 refine jV 1 ?_
 repeat' (first | (simp -implicitDefEqProofs only [go_sem,Int.reduceNegSucc,ke,kf,kg,ki,kj,kk,jR,Int.reduceLT,decide_true,decide_false,Int.reduceToNat,Nat.reduceMul]) | (with_reducible refine aA ?_) | (with_reducible show G _ _ (It.l _ _::_) _ _ _;refine jU ?_) | ((first | refine ai (fun hg=>?_) (fun hg=>?_) | refine ay (fun hg=>?_) (fun hg=>?_) | refine az (fun hg=>?_) (fun hg=>?_)) <;> try simp -implicitDefEqProofs only [hg,Bool.not_true,Bool.not_false]) | ((with_reducible apply And.intro);focus (first | trivial | omega | decide | (simp -implicitDefEqProofs only [maxLen];omega) | (simp [maxLen,af,ak,an,ax,aj,av,au] <;> omega))) | fail)
 exact (hK _ _ (bO rfl)).2
theorem TX (t:La) (h1:t.L.length≤1000000) (h2:t.ys.length≤1000000):aG Go.Proofs.Tryz.prog 13 [.agg ((bz (some t)).map .rv),.agg ((bz (some t)).map .rv)] [] [] (.rv (.bool true)):=by
 refine bt FH [.agg ((bz (some t)).map .rv),.agg ((bz (some t)).map .rv)] _ (by simp) (by simp [aO,aW,bl,aQ,aY,aC.sv,Ln.sv,Nd.sv]) (fun K hK=>?_)
 have hi:=TU t.ys h2 t.p
 have gG:=mS t.L
 simp -implicitDefEqProofs only [gY,Pl.cells,List.map_cons,List.map_nil] at hi
 conv in fc _ _ _ _=>reduce
 simp -implicitDefEqProofs only [bz,Pl.cells,go_sem,Int.reduceNegSucc]
 have bA:=hi;repeat' (first | (simp -implicitDefEqProofs only [go_sem,Int.reduceNegSucc,uP,sZ,gG]) | (with_reducible refine aA ?_) | (with_reducible first | refine ag bA ?_ | refine ah bA ?_) | ((first | refine ai (fun hg=>?_) (fun hg=>?_) | refine ay (fun hg=>?_) (fun hg=>?_) | refine az (fun hg=>?_) (fun hg=>?_)) <;> try simp -implicitDefEqProofs only [hg,Bool.not_true,Bool.not_false]) | ((with_reducible apply And.intro);focus (first | trivial | omega | decide | (simp -implicitDefEqProofs only [maxLen];omega) | (simp [maxLen,af,ak,an,ax,aj,av,au] <;> omega))) | fail)
 refine fG (ι:=Nat) (fun k=>[(31,.rv (.int .i64 k)),(30,.rv (.int .i64 t.L.length)),(2,.ptr 0 0),(3,.ptr 1 0)]) (fun _=>[some (.var ((bz (some t)).map .rv)),some (.var ((bz (some t)).map .rv))]) (fun k=>k≤t.L.length) (fun k=>t.L.length - k) 0 (Nat.zero_le _) (aZ (by simp [lk])) (fun k hk K' hN hX hR=>?_)
 simp -implicitDefEqProofs only [bz,Pl.cells,go_sem,Int.reduceNegSucc]
 refine ai (fun hg=>?_) (fun hg=>?_)
 ·have aE:k<t.L.length:=by simp at hg;omega
  have wu:=fy (k:=k) (by omega)
  have hx:=Sc aE
  generalize t.L[k]=q at *
  have z1:=Sd q
  have z3:=Se q
  have z5:=Sf q
  have hf:=Cs q.2
  have bF:=hf;repeat' (first | (simp -implicitDefEqProofs only [go_sem,Int.reduceNegSucc,hx,gG,wu,sZ,z1,z3,z5,List.length_drop]) | (with_reducible refine aA ?_) | (with_reducible first | refine ag bF ?_ | refine ah bF ?_) | ((first | refine ai (fun hg=>?_) (fun hg=>?_) | refine ay (fun hg=>?_) (fun hg=>?_) | refine az (fun hg=>?_) (fun hg=>?_)) <;> try simp -implicitDefEqProofs only [hg,Bool.not_true,Bool.not_false]) | ((with_reducible apply And.intro);focus (first | trivial | omega | decide | (simp -implicitDefEqProofs only [maxLen];omega) | (simp [maxLen,af,ak,an,ax,aj,av,au] <;> omega) | (omega;done))) | fail)
  exact hN (k+1) _ _ (by omega) (by omega) (aZ (by simp [lk]))
 ·simp -implicitDefEqProofs only [go_sem,Int.reduceNegSucc]
  refine hX _ _ _ ?_
  repeat' (first | (simp -implicitDefEqProofs only [go_sem,Int.reduceNegSucc]) | (with_reducible refine aA ?_) | ((first | refine ai (fun hg=>?_) (fun hg=>?_) | refine ay (fun hg=>?_) (fun hg=>?_) | refine az (fun hg=>?_) (fun hg=>?_)) <;> try simp -implicitDefEqProofs only [hg,Bool.not_true,Bool.not_false]) | ((with_reducible apply And.intro);focus (first | trivial | omega | decide | (simp -implicitDefEqProofs only [maxLen];omega) | (simp [maxLen,af,ak,an,ax,aj,av,au] <;> omega))) | fail)
  exact (hK _ _ (bO rfl)).2
end Go.aJ

namespace Go.aJ
open Go
theorem Ld (s:aC):∀ r∈s.cells,ju r:=by
 intro r hr
 simp -implicitDefEqProofs only [aC.cells,List.mem_cons,List.not_mem_nil,or_false] at hr
 repeat' rcases hr with rfl | hr
 all_goals first | exact .int _ _ | exact .bool _ | (subst hr;exact .int _ _)
theorem Le (x:Nd):∀ r∈x.cells,ju r:=by
 intro r hr
 rcases List.mem_append.1 hr with hr | hr
 ·exact Ld _ r hr
 ·simp at hr;rw [hr];exact .int _ _
theorem Lc {e v:Nat} {xs:List (List RV)} (h:∀ x∈xs,∀ r∈x,ju r):oN (.row e v (aN xs)):=by
 refine .row _ _ _ (fun i x j y hx hy=>?_)
 unfold aN at hx
 rw [List.getElem?_map] at hx
 cases hq:xs[i]? with
 | none=>simp [hq] at hx
 | some z=>
   simp [hq] at hx
   subst hx
   rw [List.getElem?_map] at hy
   cases hr:z[j]? with
   | none=>simp [hr] at hy
   | some r=>simp [hr] at hy;subst hy;exact .rv _ (h z (List.mem_of_getElem? hq) r (List.mem_of_getElem? hr))
theorem Tc (l:List Nd) (hb:l.length≤8589934592) (i v m:Nat) (hne:i≠m):aG Go.Proofs.Tryz.prog 27 [.row i v l.length] [(i,.row 49 v (aN (bu l)))] [(m,.row 49 1 (aN (bu l)))] (.row m 1 l.length):=by
 have h:=HD (bu l) m (by rw [an];exact hb)
 rw [an] at h
 refine xF (rs:=[.sl 49 (bu l)]) h (fun hp hpre=>⟨?_,trivial⟩) rfl (.row _ _ _) (fun q hq=>?_)
 ·exact nY (hpre _ (.head _)) rfl (by simp [bu]) (yW l)
 ·simp at hq;subst hq
  refine ⟨Lc fun x hx=>?_,by simpa using hne⟩
  obtain ⟨n,_,rfl⟩:=List.mem_map.1 hx
  exact Le n
theorem BQ (x:Nd):(x.cells.map SV.rv).take 49=x.cells.map SV.rv:=rfl
def iU (l:List Nd) (k:Nat):List (List SV):=(List.range l.length).map fun p=>[.row (p+7) (bC l k p).length (bC l k p).length]
def iM (l:List Nd) (k:Nat):List (Option HB):=(List.range l.length).map fun p=>some (.row 1 (bC l k p).length (aN (aL (bk (bC l k p)))))
theorem vU (l:List Nd) (k:Nat):(iU l k).length=l.length:=by simp [iU]
theorem nv (l:List Nd) (k:Nat):(iM l k).length=l.length:=by simp [iM]
theorem FD {l:List Nd} {k p:Nat} (hp:p<l.length):(iU l k)[p]?.getD []=[.row (p+7) (bC l k p).length (bC l k p).length]:=by simp [iU,hp]
theorem BG {l:List Nd} {k p:Nat} {C:List (Option HB)} (hp:p<l.length):aB (iM l k++C) p=some (.row 1 (bC l k p).length (aN (aL (bk (bC l k p))))):=by
 unfold aB
 rw [List.getElem?_append_left (by rw [nv];exact hp)]
 simp [iM,hp]
theorem BE {l:List Nd} {k:Nat} {x:Option HB} {C:List (Option HB)}:aB (iM l k++x::C) l.length=x:=by
 unfold aB
 rw [List.getElem?_append_right (by rw [nv];exact Nat.le_refl _),nv]
 simp
theorem Fy {l:List Nd} {k:Nat} {x y:Option HB} {C:List (Option HB)}:aB (iM l k++x::y::C) (l.length+1)=y:=by
 unfold aB
 rw [List.getElem?_append_right (by rw [nv];omega),nv,show l.length+1 - l.length=1 by omega]
 simp
theorem FB {l:List Nd} {k p:Nat} {hb:Option HB} {x y:Option HB} {C:List (Option HB)}:aB ((iM l k).set p hb++x::C) l.length=x:=by
 unfold aB
 rw [List.getElem?_append_right (by rw [List.length_set,nv];exact Nat.le_refl _),List.length_set,nv]
 simp
theorem BI {l:List Nd} {k:Nat} {x y:Option HB} {C:List (Option HB)}:(iM l k++x::C).set l.length y=iM l k++y::C:=by
 rw [List.set_append_right _ _ (by rw [nv];exact Nat.le_refl _),nv,Nat.sub_self];rfl
theorem Om {l:List Nd} {k p:Nat} {y:Option HB} {C:List (Option HB)} (hp:p<l.length):(iM l k++C).set p y=(iM l k).set p y++C:=by
 rw [List.set_append_left _ _ (by rw [nv];exact hp)]
theorem Oo (l:List Nd):iM l 0=iQ l.length 1:=by
 refine List.ext_getElem (by simp [iM,iQ]) (fun i h1 h2=>?_)
 simp [iM,iQ,tV,bk,aL,aN]
theorem FF (l:List Nd):iU l 0=iC 7 l.length l.length:=by
 refine List.ext_getElem (by simp [iU,iC]) (fun i h1 h2=>?_)
 simp [iU] at h1
 simp [iU,iC,tV,h1];omega
theorem Ok {l:List Nd} {k p:Nat} (h0:0<k) (hp:bD l k=p) (hl:p<l.length) :
 (iM l k).set p (some (.row 1 ((bC l k p).length+1) (aN (aL (bk (bC l k p)++[(k:Int)])))))=iM l (k+1):=by
 refine List.ext_getElem (by simp [iM]) (fun i h1 h2=>?_)
 simp -implicitDefEqProofs only [List.getElem_set,iM,List.getElem_map,List.getElem_range,tU]
 by_cases h:p=i
 ·subst h;simp [h0,hp,bk]
 ·rw [if_neg h,if_neg (by rw [hp];omega)];simp
theorem Ov {l:List Nd} {k p:Nat} (h0:0<k) (hp:bD l k=p) (hl:p<l.length) :
 (iU l k).set p [.row (p+7) ((bC l k p).length+1) ((bC l k p).length+1)]=iU l (k+1):=by
 refine List.ext_getElem (by simp [iU]) (fun i h1 h2=>?_)
 simp -implicitDefEqProofs only [List.getElem_set,iU,List.getElem_map,List.getElem_range,tU]
 by_cases h:p=i
 ·subst h;simp [h0,hp]
 ·rw [if_neg h,if_neg (by rw [hp];omega)];simp
theorem Oi (l:List Nd):iM l 1=iM l 0:=by
 refine List.ext_getElem (by simp [iM]) (fun i h1 h2=>?_)
 simp [iM,bC,List.range_succ]
theorem Ot (l:List Nd):iU l 1=iU l 0:=by
 refine List.ext_getElem (by simp [iU]) (fun i h1 h2=>?_)
 simp [iU,bC,List.range_succ]
def qV (v:Nat) (l:List Nd) (k:Nat) (es ds:List Int) (bs:List Bool):List (Option HB):=some (.row 49 v (aN (bu l)))::some (.row 49 1 (aN (bu l)))::some (.row 1 0 (iU l k))::some (.row 1 0 (aN (aL es)))::some (.row 1 0 (aN (aL ds)))::some (.row 1 0 (aN (jw bs)))::some (.var [.row 1 1 l.length,.row 2 0 l.length,.row 3 0 l.length,.row 4 0 l.length,.row 5 0 l.length])::iM l k
theorem BA {v:Nat} {l:List Nd} {k:Nat} {es ds:List Int} {bs:List Bool}:(qV v l k es ds bs).length=l.length+7:=by simp [qV,nv]
theorem Og {v:Nat} {l:List Nd} {k:Nat} {es ds:List Int} {bs:List Bool}:kX (mF (l.length+7)) (qV v l k es ds bs):=by
 refine ⟨iP,iP,fun i x hx=>?_,iP,iP,iP,by simp [mF,mE,jx],kX.of fun j x hx=>?_⟩
 ·obtain ⟨hl,rfl⟩:=List.getElem?_eq_some_iff.1 hx
  simp [vU] at hl
  simp [iU,mE,jx,hl]
 ·obtain ⟨hl,rfl⟩:=List.getElem?_eq_some_iff.1 hx
  exact ⟨.row 1 (bC l k j).length (aN (aL (bk (bC l k j)))),by simp [iM],iP⟩
theorem BC {v:Nat} {l:List Nd} {k:Nat} {es ds:List Int} {bs:List Bool} {env env':List (Nat×SV)} {C:List (Option HB)} (he:iw (l.length+7) env env'):fS 1 ⟨env,qV v l k es ds bs++C⟩ ⟨env',qV v l k es ds bs⟩:=
 nU (by rw [BA];omega) (by rw [BA];exact Og) (by rw [BA];exact he)
theorem QH (v:Nat) (l:List Nd) {τ:Nat→Option Nat} (lJ:∀ j,0<j→τ j=none):Fz τ (aB (qV v l l.length (rX l) (bZ l l.length) (fQ l l.length))) (.ptr 6 0) (fD l):=by
 refine .ptr 6 [.row 1 1 l.length,.row 2 0 l.length,.row 3 0 l.length,.row 4 0 l.length,.row 5 0 l.length] _ (lJ _ (by decide)) rfl rfl (fun i r hr=>?_) (fun i x r hx hr=>?_)
 ·match i with
  | 0=>cases hr;rfl
  | 1=>cases hr;rfl
  | 2=>cases hr;rfl
  | 3=>cases hr;rfl
  | 4=>cases hr;rfl
  | i+5=>simp at hr
 ·match i with
  | 0=>cases hx;cases hr;exact nY rfl (lJ _ (by decide)) (by simp [bu]) (yW l)
  | 1=>
    cases hx;cases hr
    refine .row 2 1 0 l.length (iU l l.length) (lM l) (lJ _ (by decide)) rfl (by simp [lM]) (by rw [vU];exact Nat.le_refl _) (fun i x r hx hr=>?_) (fun i r k q hr hq=>?_) (fun i x r k y q hx hr hy hq=>?_)
    ·obtain ⟨_,rfl⟩:=List.getElem?_eq_some_iff.1 hx
     obtain ⟨_,rfl⟩:=List.getElem?_eq_some_iff.1 hr
     simp [iU,lM]
    ·obtain ⟨_,rfl⟩:=List.getElem?_eq_some_iff.1 hr
     have:=List.mem_of_getElem? hq
     simp [lM] at this
     rw [this];rfl
    ·obtain ⟨hl,rfl⟩:=List.getElem?_eq_some_iff.1 hx
     obtain ⟨_,rfl⟩:=List.getElem?_eq_some_iff.1 hr
     rw [vU] at hl
     cases k with
     | succ k=>simp [iU] at hy
     | zero=>
       simp [iU] at hy
       simp [lM] at hq
       subst hy;subst hq
       refine nY (xs:=aL (bk (hJ l i))) ?_ (lJ _ (by omega)) (by simp [aL,bk,hJ]) (kF _)
       have:=BG (k:=l.length) (C:=[]) hl
       rw [List.append_nil] at this
       exact this
  | 2=>cases hx;cases hr;exact nY rfl (lJ _ (by decide)) (by simp [aL,rX]) (kF _)
  | 3=>cases hx;cases hr;exact nY rfl (lJ _ (by decide)) (by simp [aL,bZ]) (kF _)
  | 4=>cases hx;cases hr;exact nY rfl (lJ _ (by decide)) (by simp [jw,fQ]) (Dh _)
  | i+5=>simp at hx
theorem TS (l:List Nd) (hb:l.length≤8589934592) (hc:kL l=0) (i0 v:Nat):aG Go.Proofs.Tryz.prog 9 [.row i0 v l.length] [(i0,.row 49 v (aN (bu l)))] [] (.aP [.rv (fD l),.rv (.int .i64 0)]):=by
 refine mJ FK [i0] [.row 49 v (aN (bu l))] [.row 49 v (aN (bu l))] [.row 0 v l.length] [.row i0 v l.length] _ _ (by simp) (by simp [aO,lg]) rfl (by simp [bV]) ⟨rfl,rfl,⟨rfl,_,rfl⟩,trivial⟩ (fun K hK=>?_)
 have hlen:=an l
 have Ew:=Ia l hb
 rw [hc] at Ew
 have qc:=FX (id:=0) (v:=v) (n:=l.length) (bs:=[]) Ew (.int _ _) (by simp [bu]) (yW l)
 have ht:fU l=true:=by
  unfold kL at hc
  cases h:fU l with
  | true=>rfl
  | false=>rw [h] at hc;simp at hc
 have hs:iA l:=wE.1 (by unfold fU at ht;simp -implicitDefEqProofs only [Bool.and_eq_true] at ht;exact ht.1)
 have qH:(((0:Int)) != 0)=false:=rfl
 conv in fc _ _ _ _=>reduce
 simp -implicitDefEqProofs only [go_sem,Int.reduceNegSucc]
 have hb2:(bu l).length≤8589934592:=by rw [hlen];exact hb
 have aS:=qc;have y_2:=Tc l hb 0 v 1 (by decide);repeat' (first | (simp -implicitDefEqProofs only [go_sem,Int.reduceNegSucc,qH,hlen,zp,Hv]) | (with_reducible refine aA ?_) | (refine bR aS ?_ ?_ ?_;(focus (simp [aU,aB] <;> fail));(focus (simp [bh,aR] <;> fail))) | (refine cg aS ?_ ?_ ?_;(focus (simp [aU,aB] <;> fail));(focus (simp [bh,aR] <;> fail))) | (refine bR y_2 ?_ ?_ ?_;(focus (simp [aU,aB] <;> fail));(focus (simp [bh,aR] <;> fail))) | (refine cg y_2 ?_ ?_ ?_;(focus (simp [aU,aB] <;> fail));(focus (simp [bh,aR] <;> fail))) | ((first | refine ai (fun hg=>?_) (fun hg=>?_) | refine ay (fun hg=>?_) (fun hg=>?_) | refine az (fun hg=>?_) (fun hg=>?_)) <;> try simp -implicitDefEqProofs only [hg,Bool.not_true,Bool.not_false]) | ((with_reducible apply And.intro);focus (first | trivial | omega | decide | (simp -implicitDefEqProofs only [maxLen];omega) | (simp [maxLen,af,ak,an,ax,aj,av,au] <;> omega))) | fail)
 have Nb:∀ n:Nat,iU l 0=iC 7 l.length l.length:=fun _=>FF l
 let ev:Nat→List (Nat×SV):=fun k=>[(33,.rv (.int .i64 k)),(32,.rv (.int .i64 l.length)),(31,.row 0 v l.length),(5,.ptr 6 0),(0,.row 0 v l.length)]
 refine fG (ι:=Nat) (fun k=>[(33,.rv (.int .i64 k)),(32,.rv (.int .i64 l.length)),(31,.row 0 v l.length),(5,.ptr 6 0),(0,.row 0 v l.length)]) (fun k=>some (.row 49 v (aN (bu l)))::some (.row 49 1 (aN (bu l)))::some (.row 1 0 (iU l k))::some (.row 1 0 (aN (aL (List.replicate l.length 0))))::some (.row 1 0 (aN (aL (bZ l k))))::some (.row 1 0 (aN (jw (fQ l k))))::some (.var [.row 1 1 l.length,.row 2 0 l.length,.row 3 0 l.length,.row 4 0 l.length,.row 5 0 l.length])::iM l k) (fun k=>k≤l.length) (fun k=>l.length - k) 0 (by simp) ?_ (fun k hk K' hN hX hR=>?_)
 ·refine (aZ (env':=[(33,.rv (.int .i64 0)),(32,.rv (.int .i64 l.length)),(31,.row 0 v l.length),(5,.ptr 6 0),(0,.row 0 v l.length)]) (by simp [lk])).trans ?_
  rw [FF,Oo,Ah,Gk]
  exact DS (r:=2) (v:=0) (n:=l.length) (e:=1) rfl
 simp -implicitDefEqProofs only [go_sem,Int.reduceNegSucc]
 refine ai (fun hg=>?_) (fun hg=>?_)
 ·have aE:k<l.length:=by simp at hg;omega
  have hx:=jf aE
  have sH:=nv l k
  have hdl:=tu l k
  have lq:=aj (bZ l k)
  have oW:=kQ (l:=bZ l k) (i:=k) (by omega)
  have hml:=Gj l k
  have sC:=xz (fQ l k)
  have sB:=tc (bs:=fQ l k) (i:=k) (by omega)
  have hsh:=Cp aE
  have e1:(l.length=l.length+1)=False:=eq_false (by omega)
  have e2:(l.length=l.length+2)=False:=eq_false (by omega)
  have hds:=xV aE
  have sr:=Ag aE
  have wu:=fy (k:=k) (by omega)
  by_cases gw:0<k
  ·have hgt:decide ((k:Int)>0)=true:=decide_eq_true (by omega)
   obtain ⟨p1,p2⟩:=hs.wf.2 k gw aE
   obtain ⟨p,hp⟩:∃ p:Nat,bD l k=p:=⟨(bD l k).toNat,by omega⟩
   have gG:p<l.length:=by omega
   have q0:(p=l.length)=False:=eq_false (by omega)
   have q1:(p=l.length+1)=False:=eq_false (by omega)
   have q2:(p=l.length+2)=False:=eq_false (by omega)
   have hpk:=mR aE
   have MM:(bZ l k).set k 1=(bZ l k).set k 1:=rfl
   have su:((bZ l k).set k 1).length=l.length:=by simp [hdl]
   have vj:=aj ((bZ l k).set k 1)
   have oX:=kQ (l:=(bZ l k).set k 1) (i:=p) (by omega)
   have sq:=kQ (l:=(bZ l k).set k 1) (i:=k) (by omega)
   rw [Af (by omega) (by omega)] at oX
   have qM:=Aj hs.wf gw aE
   rw [hp,Int.toNat_natCast] at qM
   have wd:=fy (k:=depth l p) (by have:=ug (l:=l) p;unfold depth;omega)
   rw [← qM] at wd
   obtain ⟨b,sF⟩:∃ b,pL l k=b:=⟨_,rfl⟩
   have hmp:=tc (bs:=(fQ l k).set k b) (i:=p) (by simp [hml];omega)
   have hmk:=tc (bs:=(fQ l k).set k b) (i:=k) (by simp [hml];omega)
   rw [Gi (by omega) (by omega)] at hmp
   have vr:((fQ l k).set k b).length=l.length:=by simp [hml]
   have vu:=xz ((fQ l k).set k b)
   have mN:((fQ l k).set k b).set k (b && mq l p)=fQ l (k+1):=by
    have:=Gg hs.wf gw aE
    rw [hp,Int.toNat_natCast,sF] at this
    rw [List.set_set,← this,yQ aE]
   have og:=vU l k
   have oe:=FD (k:=k) gG
   have mM:=fun C=>BG (k:=k) (C:=C) gG
   have hkn:=Ok gw hp gG
   have htn:=Ov gw hp gG
   have hsp:=fun (y:Option HB) C=>Om (k:=k) (y:=y) (C:=C) gG
   have gF:(bk (bC l k p)).length=(bC l k p).length:=by simp [bk]
   have oc:=aj (bk (bC l k p))
   have jd:(aL (bk (bC l k p))).take (bC l k p).length=aL (bk (bC l k p)):=List.take_of_length_le (by rw [oc,gF];exact Nat.le_refl _)
   have hkk:=sG (l:=l) (k:=k) (p:=p)
   cases b
   all_goals simp -implicitDefEqProofs only [Bool.false_and,Bool.true_and] at mN
   ·repeat' (first | (simp -implicitDefEqProofs only [go_sem,Int.reduceNegSucc,hlen,hx,sH,ak,qm,BQ,Nat.add_assoc,BE,List.append_assoc,hdl,lq,oW,hml,sC,sB,mT,uq,tY,hsh,sF,e1,e2,BI,hgt,hpk,hp,tZ,og,oe,mM,q0,q1,q2,hsp,Fy,FB,gF,oc,jd,mw,hkn,htn,su,vj,oX,sq,wd,sr,wu,hmp,hmk,vr,vu]) | (with_reducible refine aA ?_) | ((first | refine ai (fun hg=>?_) (fun hg=>?_) | refine ay (fun hg=>?_) (fun hg=>?_) | refine az (fun hg=>?_) (fun hg=>?_)) <;> try simp -implicitDefEqProofs only [hg,Bool.not_true,Bool.not_false]) | ((with_reducible apply And.intro);focus (first | trivial | omega | decide | (simp -implicitDefEqProofs only [maxLen];omega) | (simp [maxLen,af,ak,an,ax,aj,av,au] <;> omega) | (simp (decide:=true) [oT,qG,mG,pU,Nat.testBit,q0,q1,q2];done))) | fail)
    rw [mN]
    exact hN (k+1) _ _ (by omega) (by omega) (BC (v:=v) (l:=l) (k:=k+1) (by simp [iw,lk,jT,lY,jx]))
   ·repeat' (first | (simp -implicitDefEqProofs only [go_sem,Int.reduceNegSucc,hlen,hx,sH,ak,qm,BQ,Nat.add_assoc,BE,List.append_assoc,hdl,lq,oW,hml,sC,sB,mT,uq,tY,hsh,sF,e1,e2,BI,hgt,hpk,hp,tZ,og,oe,mM,q0,q1,q2,hsp,Fy,FB,gF,oc,jd,mw,hkn,htn,su,vj,oX,sq,wd,sr,wu,hmp,hmk,vr,vu]) | (with_reducible refine aA ?_) | ((first | refine ai (fun hg=>?_) (fun hg=>?_) | refine ay (fun hg=>?_) (fun hg=>?_) | refine az (fun hg=>?_) (fun hg=>?_)) <;> try simp -implicitDefEqProofs only [hg,Bool.not_true,Bool.not_false]) | ((with_reducible apply And.intro);focus (first | trivial | omega | decide | (simp -implicitDefEqProofs only [maxLen];omega) | (simp [maxLen,af,ak,an,ax,aj,av,au] <;> omega) | (simp (decide:=true) [oT,qG,mG,pU,Nat.testBit,q0,q1,q2];done))) | fail)
    rw [mN]
    exact hN (k+1) _ _ (by omega) (by omega) (BC (v:=v) (l:=l) (k:=k+1) (by simp [iw,lk,jT,lY,jx]))
  ·obtain rfl:k=0:=by omega
   have hgt:decide (((0:Nat):Int)>0)=false:=rfl
   rw [Ak] at hds
   have mN:=yQ aE
   rw [Gh] at mN
   have AT:(bZ l 0).set 0 1=bZ l (0+1):=hds
   repeat' (first | (simp -implicitDefEqProofs only [go_sem,Int.reduceNegSucc,hlen,hx,sH,ak,qm,BQ,Nat.add_assoc,BE,List.append_assoc,hdl,lq,oW,hml,sC,sB,mT,uq,tY,hsh,e1,e2,BI,hgt,wu,mN,AT]) | (with_reducible refine aA ?_) | ((first | refine ai (fun hg=>?_) (fun hg=>?_) | refine ay (fun hg=>?_) (fun hg=>?_) | refine az (fun hg=>?_) (fun hg=>?_)) <;> try simp -implicitDefEqProofs only [hg,Bool.not_true,Bool.not_false]) | ((with_reducible apply And.intro);focus (first | trivial | omega | decide | (simp -implicitDefEqProofs only [maxLen];omega) | (simp [maxLen,af,ak,an,ax,aj,av,au] <;> omega))) | fail)
   refine hN 1 _ _ (by omega) (by omega) ?_
   rw [Ot,Oi]
   exact BC (v:=v) (l:=l) (k:=0) (es:=List.replicate l.length 0) (ds:=bZ l (0+1)) (bs:=fQ l (0+1)) (C:=[some (.var ((l[0]'aE).cells.map .rv))]) (by simp [iw,lk,jT,lY,jx])
 ·have aE:k=l.length:=by simp at hg;omega
  subst aE
  simp -implicitDefEqProofs only [go_sem,Int.reduceNegSucc]
  refine hX _ _ _ ?_
  have wl:=uF hs.pos (by omega)
  repeat' (first | (simp -implicitDefEqProofs only [go_sem,Int.reduceNegSucc,hlen,wl]) | (with_reducible refine aA ?_) | ((first | refine ai (fun hg=>?_) (fun hg=>?_) | refine ay (fun hg=>?_) (fun hg=>?_) | refine az (fun hg=>?_) (fun hg=>?_)) <;> try simp -implicitDefEqProofs only [hg,Bool.not_true,Bool.not_false]) | ((with_reducible apply And.intro);focus (first | trivial | omega | decide | (simp -implicitDefEqProofs only [maxLen];omega) | (simp [maxLen,af,ak,an,ax,aj,av,au] <;> omega))) | fail)
  clear hN hX hR
  refine fG (ι:=Nat) (fun k=>[(8,.rv (.int .i64 ((k:Int) - 1))),(5,.ptr 6 0)]) (fun k=>qV v l l.length (gK l k) (bZ l l.length) (fQ l l.length)) (fun k=>k≤l.length) (fun k=>k) l.length (Nat.le_refl _) (by rw [DQ];exact aZ (by simp [lk];have:=hs.pos;omega)) (fun k hk K' hN hX hR=>?_)
  simp -implicitDefEqProofs only [qV,go_sem,Int.reduceNegSucc]
  refine ai (fun hg=>?_) (fun hg=>?_)
  ·have gw:0<k:=by simp at hg;omega
   obtain ⟨j,rfl⟩:∃ j,k=j+1:=⟨k - 1,by omega⟩
   have ej:(((j+1:Nat):Int) - 1)=(j:Int):=by omega
   have wj:=fy (k:=j) (by omega)
   have hjl:j<l.length:=by omega
   have hel:=DO l (j+1)
   have vl:=aj (gK l (j+1))
   have sw:=kQ (l:=gK l (j+1)) (i:=j) (by omega)
   have og:=vU l l.length
   have oe:=FD (k:=l.length) hjl
   have mM:=BG (k:=l.length) (C:=[]) hjl
   simp -implicitDefEqProofs only [List.append_nil] at mM
   have gF:(bk (bC l l.length j)).length=(bC l l.length j).length:=by simp [bk]
   have oc:=aj (bk (bC l l.length j))
   have hkk:=sG (l:=l) (k:=l.length) (p:=j)
   have nr:((gK l (j+1)).set j ((j+1:Nat):Int)).length=l.length:=by simp [hel]
   have Bp:=aj ((gK l (j+1)).set j ((j+1:Nat):Int))
   have jc:=DP (l:=l) (k:=j+1) (by omega) (by omega)
   simp -implicitDefEqProofs only [Nat.add_sub_cancel] at jc
   have wd:IntKind.i64.wrap ((j:Int) - 1)=((j:Int) - 1):=wrap_i64 (by omega) (by omega)
   by_cases fI:bC l l.length j=[]
   ·have hm0:decide ((((bC l l.length j).length:Nat):Int)>0)=false:=by rw [fI];rfl
    have he:=Aq fI
    rw [he] at jc
    repeat' (first | (simp -implicitDefEqProofs only [go_sem,Int.reduceNegSucc,hel,vl,sw,og,oe,mM,ej,wj,hm0,mT,jc,wd]) | (with_reducible refine aA ?_) | ((first | refine ai (fun hg=>?_) (fun hg=>?_) | refine ay (fun hg=>?_) (fun hg=>?_) | refine az (fun hg=>?_) (fun hg=>?_)) <;> try simp -implicitDefEqProofs only [hg,Bool.not_true,Bool.not_false]) | ((with_reducible apply And.intro);focus (first | trivial | omega | decide | (simp -implicitDefEqProofs only [maxLen];omega) | (simp [maxLen,af,ak,an,ax,aj,av,au] <;> omega))) | fail)
    refine hN j _ _ (by omega) (by omega) (aZ (by simp [lk]))
   ·obtain ⟨c,hc⟩:∃ c,(bC l l.length j).getLast?=some c:=by
     cases h:(bC l l.length j).getLast? with
     | none=>exact absurd (List.getLast?_eq_none_iff.1 h) fI
     | some c=>exact ⟨c,rfl⟩
    have hpos:0<(bC l l.length j).length:=List.length_pos_iff.2 fI
    have hm0:decide ((((bC l l.length j).length:Nat):Int)>0)=true:=decide_eq_true (by omega)
    have mL:c∈hJ l j:=List.mem_of_getLast? hc
    obtain ⟨c1,c2,c3⟩:=tX.1 mL
    have AN:j<c:=by have:=(hs.wf.2 c c1 c2).2;omega
    have he:=Ap hc AN c2
    rw [he] at jc
    have wm:=uF hpos (by omega)
    have AM:(bk (bC l l.length j)).getD ((bC l l.length j).length - 1) 0=(c:Int):=by
     rw [List.getLast?_eq_getElem?] at hc
     simp [bk,List.getD_eq_getElem?_getD,hc]
    have jH:=kQ (l:=bk (bC l l.length j)) (i:=(bC l l.length j).length - 1) (by omega)
    rw [AM] at jH
    have vk:=kQ (l:=(gK l (j+1)).set j ((j+1:Nat):Int)) (i:=c) (by omega)
    have qd:=DN (l:=l) (k:=j+1) (j:=c) (v:=((j+1:Nat):Int)) (by omega) (by omega) c2
    simp -implicitDefEqProofs only [Nat.add_sub_cancel] at qd
    rw [qd] at vk
    have AW:=kQ (l:=(gK l (j+1)).set j ((j+1:Nat):Int)) (i:=j) (by omega)
    have vF:((gK l (j+1)).set j ((j+1:Nat):Int)).set j (hD l c)=gK l j:=by rw [List.set_set,jc]
    repeat' (first | (simp -implicitDefEqProofs only [go_sem,Int.reduceNegSucc,hel,vl,sw,og,oe,mM,ej,wj,hm0,mT,wd,wm,jH,vk,AW,vF,nr,Bp,gF,oc]) | (with_reducible refine aA ?_) | ((first | refine ai (fun hg=>?_) (fun hg=>?_) | refine ay (fun hg=>?_) (fun hg=>?_) | refine az (fun hg=>?_) (fun hg=>?_)) <;> try simp -implicitDefEqProofs only [hg,Bool.not_true,Bool.not_false]) | ((with_reducible apply And.intro);focus (first | trivial | omega | decide | (simp -implicitDefEqProofs only [maxLen];omega) | (simp [maxLen,af,ak,an,ax,aj,av,au] <;> omega))) | fail)
    refine hN j _ _ (by omega) (by omega) (aZ (by simp [lk]))
  ·obtain rfl:k=0:=by simp at hg;omega
   simp -implicitDefEqProofs only [go_sem,Int.reduceNegSucc]
   refine hX _ _ _ ?_
   repeat' (first | (simp -implicitDefEqProofs only [go_sem,Int.reduceNegSucc]) | (with_reducible refine aA ?_) | ((first | refine ai (fun hg=>?_) (fun hg=>?_) | refine ay (fun hg=>?_) (fun hg=>?_) | refine az (fun hg=>?_) (fun hg=>?_)) <;> try simp -implicitDefEqProofs only [hg,Bool.not_true,Bool.not_false]) | ((with_reducible apply And.intro);focus (first | trivial | omega | decide | (simp -implicitDefEqProofs only [maxLen];omega) | (simp [maxLen,af,ak,an,ax,aj,av,au] <;> omega))) | fail)
   refine (hK _ _ _ _ [] (gL _ _) ?_).2
   rw [DR]
   simp -implicitDefEqProofs only [gS,List.map_cons,List.map_nil,List.append_nil]
   refine ⟨by simp [bV],trivial,trivial,⟨?_,trivial⟩,trivial,bq.2 ⟨?_,aK.2 rfl,trivial⟩⟩
   ·rw [show fX (gi ([i0].zip [HB.row 49 v (aN (bu l))]) i0) [] i0=some (HB.row 49 v (aN (bu l))) from by simp [fX,gi]]
    exact ⟨rfl,rfl,gT.2 rfl⟩
   ·exact .fz _ _ (QH v l (fun j hj=>by cases j with
     | zero=>omega
     | succ j=>rfl))
end Go.aJ

namespace Go.aJ
open Go
theorem OF:aT Go.Proofs.Tryz.prog 22 13 (fc Go.Proofs.Tryz.prog 22 13 [(.c 0 48 true)]) [(.c 0 48 true)]:=bn (by kernel_rfl)
def BL:List CK→List RV→Bool
 | [],[]=>true
 | .b::ks,.bool _::rs=>BL ks rs
 | .i::ks,.int _ _::rs=>BL ks rs
 | .s::ks,.str _::rs=>BL ks rs
 | _,_=>false
def ue:aC:={ (default:aC) with shown:=true,pad:=⟨⟨1,0⟩,⟨1,0⟩,⟨1,0⟩,⟨1,0⟩⟩ }
def Sk (k:Nat):aC:={ (default:aC) with shown:=true,pad:=⟨if 0<k then ⟨1,0⟩ else default,if 1<k then ⟨1,0⟩ else default,if 2<k then ⟨1,0⟩ else default,if 3<k then ⟨1,0⟩ else default⟩ }
theorem Tv:aG Go.Proofs.Tryz.prog 22 [] [] [] ue.sv:=by
 refine bt OF [] _ (by simp) (by simp [aO,aW,bl,aQ,aY,aC.sv,Ln.sv,Nd.sv]) (fun K hK=>?_)
 conv in fc _ _ _ _=>reduce
 simp -implicitDefEqProofs only [go_sem,Int.reduceNegSucc]
 repeat' (first | (simp -implicitDefEqProofs only [go_sem,Int.reduceNegSucc]) | (with_reducible refine aA ?_) | ((first | refine ai (fun hg=>?_) (fun hg=>?_) | refine ay (fun hg=>?_) (fun hg=>?_) | refine az (fun hg=>?_) (fun hg=>?_)) <;> try simp -implicitDefEqProofs only [hg,Bool.not_true,Bool.not_false]) | ((with_reducible apply And.intro);focus (first | trivial | omega | decide | (simp -implicitDefEqProofs only [maxLen];omega) | (simp [maxLen,af,ak,an,ax,aj,av,au] <;> omega) | (exact ⟨rfl,by decide⟩;done))) | fail)
 refine fG (ι:=Nat) (fun k=>[(4,.rv (.int .i64 k)),(0,.ptr 0 0),(1,.ptr 1 0)]) (fun k=>[some (.var ((default:aC).cells.map .rv)),some (.var ((Sk k).cells.map .rv))]) (fun k=>k≤4) (fun k=>4 - k) 0 (by simp) (aZ (by simp [lk])) (fun k hk K' hN hX hR=>?_)
 simp -implicitDefEqProofs only [go_sem,Int.reduceNegSucc]
 refine ai (fun hg=>?_) (fun hg=>?_)
 ·have:k=0∨k=1∨k=2∨k=3:=by simp at hg;omega
  rcases this with rfl | rfl | rfl | rfl
  all_goals
   repeat' (first | (simp -implicitDefEqProofs only [go_sem,Int.reduceNegSucc,af,fy (k:=0) (by decide),fy (k:=1) (by decide),fy (k:=2) (by decide),fy (k:=3) (by decide)]) | (with_reducible refine aA ?_) | ((first | refine ai (fun hg=>?_) (fun hg=>?_) | refine ay (fun hg=>?_) (fun hg=>?_) | refine az (fun hg=>?_) (fun hg=>?_)) <;> try simp -implicitDefEqProofs only [hg,Bool.not_true,Bool.not_false]) | ((with_reducible apply And.intro);focus (first | trivial | omega | decide | (simp -implicitDefEqProofs only [maxLen];omega) | (simp [maxLen,af,ak,an,ax,aj,av,au] <;> omega))) | fail)
  ·exact hN 1 _ _ (by omega) (by omega) (aZ (by simp [lk]))
  ·exact hN 2 _ _ (by omega) (by omega) (aZ (by simp [lk]))
  ·exact hN 3 _ _ (by omega) (by omega) (aZ (by simp [lk]))
  ·exact hN 4 _ _ (by omega) (by omega) (aZ (by simp [lk]))
 ·have aE:k=4:=by simp at hg;omega
  subst aE
  simp -implicitDefEqProofs only [go_sem,Int.reduceNegSucc]
  refine hX _ _ _ ?_
  repeat' (first | (simp -implicitDefEqProofs only [go_sem,Int.reduceNegSucc,af,cv]) | (with_reducible refine aA ?_) | ((first | refine ai (fun hg=>?_) (fun hg=>?_) | refine ay (fun hg=>?_) (fun hg=>?_) | refine az (fun hg=>?_) (fun hg=>?_)) <;> try simp -implicitDefEqProofs only [hg,Bool.not_true,Bool.not_false]) | ((with_reducible apply And.intro);focus (first | trivial | omega | decide | (simp -implicitDefEqProofs only [maxLen];omega) | (simp [maxLen,af,ak,an,ax,aj,av,au] <;> omega) | (rfl;done) | (exact ⟨rfl,by decide⟩;done))) | fail)
  exact (hK _ _ (Ci (rs:=ue.cells) rfl rfl rfl)).2
theorem GC:kL [⟨ue,-1⟩]=0:=by decide +kernel
end Go.aJ

namespace Go.aJ
open Go
theorem OJ:aT Go.Proofs.Tryz.prog 7 28 (fc Go.Proofs.Tryz.prog 7 28 [(.t 0)]) [(.t 0)]:=bn (by kernel_rfl)
theorem RC:(pP [⟨ue,-1⟩] 0 640 ⟨false,480⟩ false).map (·.1.w)=some 640:=by decide +kernel
theorem zx:aG Go.Proofs.Tryz.prog 7 [] [] [] (.rv (.bool true)):=by
 refine bt OJ [] _ (by simp) (by simp [aO,aW,bl,aQ,aY,aC.sv,Ln.sv,Nd.sv]) (fun K hK=>?_)
 have hk:=TS [⟨ue,-1⟩] (by decide) GC 0 0
 have hb:=HL [⟨ue,-1⟩] (CD (Dx GC)) (by decide) 0 640 ⟨false,480⟩ false
 obtain ⟨q,hq,hw⟩:=Option.map_eq_some_iff.1 RC
 rw [hq] at hb
 obtain ⟨f,t⟩:=q
 have e0:((0:Int) != 0)=false:=rfl
 have q1:f.cells.length=25:=rfl
 have q2:(f.cells.map SV.rv).take 25=f.cells.map SV.rv:=rfl
 have q3:(f.cells.map SV.rv).drop 25=[]:=rfl
 have q4:(f.cells.map SV.rv)[2]?=some (.rv (.int .i64 f.w)):=rfl
 simp only at hw
 have e1:(f.w == 640)=true:=by simp [hw]
 simp -implicitDefEqProofs only [jD,fN,bz,Option.map,Option.isSome,Pl.cells,List.map_cons,List.map_nil,List.cons_append,List.nil_append,Sz.sv,Sz.cells] at hb
 conv in fc _ _ _ _=>reduce
 simp -implicitDefEqProofs only [go_sem,Int.reduceNegSucc]
 have aS:=Tv;repeat' (first | (simp -implicitDefEqProofs only [go_sem,Int.reduceNegSucc,af]) | (with_reducible refine aA ?_) | (with_reducible first | refine ag aS ?_ | refine ah aS ?_) | ((first | refine ai (fun hg=>?_) (fun hg=>?_) | refine ay (fun hg=>?_) (fun hg=>?_) | refine az (fun hg=>?_) (fun hg=>?_)) <;> try simp -implicitDefEqProofs only [hg,Bool.not_true,Bool.not_false]) | ((with_reducible apply And.intro);focus (first | trivial | omega | decide | (simp -implicitDefEqProofs only [maxLen];omega) | (simp [maxLen,af,ak,an,ax,aj,av,au] <;> omega))) | fail)
 refine bR hk (Sm rfl) trivial ?_
 have y_2:=hb;repeat' (first | (simp -implicitDefEqProofs only [go_sem,Int.reduceNegSucc,e0,q1,q2,q3,q4,e1,List.append_nil]) | (with_reducible refine aA ?_) | (with_reducible first | refine ag y_2 ?_ | refine ah y_2 ?_) | ((first | refine ai (fun hg=>?_) (fun hg=>?_) | refine ay (fun hg=>?_) (fun hg=>?_) | refine az (fun hg=>?_) (fun hg=>?_)) <;> try simp -implicitDefEqProofs only [hg,Bool.not_true,Bool.not_false]) | ((with_reducible apply And.intro);focus (first | trivial | omega | decide | (simp -implicitDefEqProofs only [maxLen];omega) | (simp [maxLen,af,ak,an,ax,aj,av,au] <;> omega))) | fail)
 exact (hK _ _ (bO rfl)).2
end Go.aJ

namespace Go.aJ
open Go
theorem OH:aT Go.Proofs.Tryz.prog 3 72 (fc Go.Proofs.Tryz.prog 3 72 [(.t 10)]) [(.t 10)]:=bn (by kernel_rfl)
theorem Kf {l:List Nd} (hs:iA l) {n w:Int} {h:Sz} {bH:Bool} {z:Fm×La} (hz:pP l n w h bH=some z):z.2.L.length≤l.length∧z.2.ys.length≤l.length:=by
 unfold pP at hz
 split at hz
 ·rename_i hm
  have hin:gP l n=true:=by simp [gW] at hm;exact hm.1.1
  obtain ⟨k,rfl,hk⟩:=qi hin
  simp -implicitDefEqProofs only [Int.toNat_natCast] at hz
  have h1:=xA hs _ k _ _ _ z hk hz
  have h2:=(hs.uX hk).2
  have hb:qC l (tQ l (mI l l.length) k) k w h bH=some z:=hz
  obtain ⟨x,_,_,hi,_⟩:=Dj hb
  obtain ⟨rs,y,g1,g2,g3⟩:=Fk (t:=z.2) (by rw [show lz _ _ _ _ _=tQ l (mI l l.length) k (ck l k w h) x from rfl,hi])
  have hys:z.2.ys=y.2:=by rw [g3];rfl
  have hL:z.2.L.length=(bQ rs).length:=by rw [g3];simp -implicitDefEqProofs only [ql,qp]
  have lI:=zy g2
  have EZ:rs.length≤(bQ rs).length:=by
   clear g1 g2 g3 lI hL hys hi
   induction rs with
   | nil=>exact Nat.le_refl _
   | cons r rs ih=>simp -implicitDefEqProofs only [bQ,List.flatMap_cons,List.length_append,ng,List.length_cons] at ih ⊢;omega
  have hc:(gD rs).length=rs.length:=by simp [gD]
  simp -implicitDefEqProofs only [List.length_nil,Nat.zero_add,hc] at lI
  rw [hys]
  omega
 ·cases hz
theorem Ti (l:List Nd) (n w:Int) (h:Sz) (bH:Bool):aG Go.Proofs.Tryz.prog 3 [.rv (.sl 49 (bu l)),.rv (.int .i64 n),.rv (.int .i64 w),h.sv,.rv (.bool bH)] [] [] (.rv (.bool true)):=by
 refine bt OH [.rv (.sl 49 (bu l)),.rv (.int .i64 n),.rv (.int .i64 w),h.sv,.rv (.bool bH)] _ (by simp) (by simp [aO,aW,bl,aQ,aY,aC.sv,Ln.sv,Nd.sv]) (fun K hK=>?_)
 have hlen:=an l
 conv in fc _ _ _ _=>reduce
 simp -implicitDefEqProofs only [Sz.sv,Sz.cells,go_sem,Int.reduceNegSucc]
 by_cases hl:l.length>25
 ·have e1:decide ((l.length:Int)>25)=true:=decide_eq_true (by omega)
  have aS:=zx;repeat' (first | (simp -implicitDefEqProofs only [go_sem,Int.reduceNegSucc,hlen,e1]) | (with_reducible refine aA ?_) | (with_reducible first | refine ag aS ?_ | refine ah aS ?_) | ((first | refine ai (fun hg=>?_) (fun hg=>?_) | refine ay (fun hg=>?_) (fun hg=>?_) | refine az (fun hg=>?_) (fun hg=>?_)) <;> try simp -implicitDefEqProofs only [hg,Bool.not_true,Bool.not_false]) | ((with_reducible apply And.intro);focus (first | trivial | omega | decide | (simp -implicitDefEqProofs only [maxLen];omega) | (simp [maxLen,af,ak,an,ax,aj,av,au] <;> omega))) | fail)
  exact (hK _ _ (bO rfl)).2
 ·have e1:decide ((l.length:Int)>25)=false:=decide_eq_false (by omega)
  have qc:=Um l (by omega)
  by_cases hc:kL l=0
  ·have ht:=Dx hc
   have hs:=CD ht
   rw [hc] at qc
   have qH:((0:Int) != 0)=false:=rfl
   have EM:=TR l (by omega) hc
   have hx:=HL l hs (by omega) n w h bH
   have hy:=Uz l ht hs (by omega) n w h bH
   cases oa:pP l n w h bH with
   | none=>
     rw [oa] at hx hy
     have hi:=Cs Ju
     have ha:=TY
     simp -implicitDefEqProofs only [jD,fN,bz,Ju,Fm.cells,Q4.ints,Ch.cells,Option.map,Option.isSome,List.map_cons,List.map_nil,List.cons_append,List.nil_append,Sz.sv,Sz.cells] at hx hy hi ha
     have y_2:=zx;have bA:=qc;have bF:=EM;have bJ:=hx;have bL:=hy;have bP:=hi;have bT:=ha;repeat' (first | (simp -implicitDefEqProofs only [go_sem,Int.reduceNegSucc,hlen,e1,qH,uO]) | (with_reducible refine aA ?_) | (with_reducible first | refine ag y_2 ?_ | refine ah y_2 ?_) | (with_reducible first | refine ag bA ?_ | refine ah bA ?_) | (with_reducible first | refine ag bF ?_ | refine ah bF ?_) | (with_reducible first | refine ag bJ ?_ | refine ah bJ ?_) | (with_reducible first | refine ag bL ?_ | refine ah bL ?_) | (with_reducible first | refine ag bP ?_ | refine ah bP ?_) | (with_reducible first | refine ag bT ?_ | refine ah bT ?_) | ((first | refine ai (fun hg=>?_) (fun hg=>?_) | refine ay (fun hg=>?_) (fun hg=>?_) | refine az (fun hg=>?_) (fun hg=>?_)) <;> try simp -implicitDefEqProofs only [hg,Bool.not_true,Bool.not_false]) | ((with_reducible apply And.intro);focus (first | trivial | omega | decide | (simp -implicitDefEqProofs only [maxLen];omega) | (simp [maxLen,af,ak,an,ax,aj,av,au] <;> omega))) | fail)
     exact (hK _ _ (bO rfl)).2
   | some q=>
     obtain ⟨f,t⟩:=q
     rw [oa] at hx hy
     have hi:=Cs f
     have htl:=Kf hs oa
     obtain ⟨VN,VO⟩:t.L.length≤l.length∧t.ys.length≤l.length:=htl
     have ha:=TX t (by omega) (by omega)
     have ft:=AA f
     have fd:=Ay f
     have fn:=Az f
     simp -implicitDefEqProofs only [jD,fN,bz,Option.map,Option.isSome,Pl.cells,List.map_cons,List.map_nil,List.cons_append,List.nil_append,Sz.sv,Sz.cells] at hx hy ha
     have cq:=zx;have cu:=qc;have gf:=EM;have gN:=hx;have ig:=hy;have ij:=hi;have iq:=ha;repeat' (first | (simp -implicitDefEqProofs only [go_sem,Int.reduceNegSucc,hlen,e1,qH,uO,ft,fd,fn,List.length_map,List.append_nil]) | (with_reducible refine aA ?_) | (with_reducible first | refine ag cq ?_ | refine ah cq ?_) | (with_reducible first | refine ag cu ?_ | refine ah cu ?_) | (with_reducible first | refine ag gf ?_ | refine ah gf ?_) | (with_reducible first | refine ag gN ?_ | refine ah gN ?_) | (with_reducible first | refine ag ig ?_ | refine ah ig ?_) | (with_reducible first | refine ag ij ?_ | refine ah ij ?_) | (with_reducible first | refine ag iq ?_ | refine ah iq ?_) | ((first | refine ai (fun hg=>?_) (fun hg=>?_) | refine ay (fun hg=>?_) (fun hg=>?_) | refine az (fun hg=>?_) (fun hg=>?_)) <;> try simp -implicitDefEqProofs only [hg,Bool.not_true,Bool.not_false]) | ((with_reducible apply And.intro);focus (first | trivial | omega | decide | (simp -implicitDefEqProofs only [maxLen];omega) | (simp [maxLen,af,ak,an,ax,aj,av,au] <;> omega))) | fail)
     exact (hK _ _ (bO rfl)).2
  ·have qH:(kL l != 0)=true:=by simpa using hc
   have ir:=zx;have iu:=qc;repeat' (first | (simp -implicitDefEqProofs only [go_sem,Int.reduceNegSucc,hlen,e1,qH]) | (with_reducible refine aA ?_) | (with_reducible first | refine ag ir ?_ | refine ah ir ?_) | (with_reducible first | refine ag iu ?_ | refine ah iu ?_) | ((first | refine ai (fun hg=>?_) (fun hg=>?_) | refine ay (fun hg=>?_) (fun hg=>?_) | refine az (fun hg=>?_) (fun hg=>?_)) <;> try simp -implicitDefEqProofs only [hg,Bool.not_true,Bool.not_false]) | ((with_reducible apply And.intro);focus (first | trivial | omega | decide | (simp -implicitDefEqProofs only [maxLen];omega) | (simp [maxLen,af,ak,an,ax,aj,av,au] <;> omega))) | fail)
   exact (hK _ _ (bO rfl)).2
end Go.aJ
