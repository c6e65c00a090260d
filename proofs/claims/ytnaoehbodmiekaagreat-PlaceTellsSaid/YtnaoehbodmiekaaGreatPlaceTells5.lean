/- Part 5 of the proof: G10, G11, F21, G13, K9R, K13, F13, F22, PT2. -/
import Derived.Test.YtnaoehbodmiekaaGreatPlaceTells4
set_option linter.unusedSimpArgs false
set_option linter.unusedVariables false
set_option maxRecDepth 100000
set_option maxHeartbeats 16000000
namespace Go.aL
open Go
theorem PO:aU Go.Proofs.Tryz.prog 11 275 (fc Go.Proofs.Tryz.prog 11 275 [(.c 10 25 true),(.c 11 9 true),(.t 12)]) [(.c 10 25 true),(.c 11 9 true),(.t 12)]:=bl (by kernel_rfl)
def Du (l:List Nd) (ins:Ed→Ao→Option La×Bool) (n:Int) (w:Int) (h:Sz) (bZ:Bool):Option (Fm×La):=if (iE l n && iL w h)=true then rQ l ins n w h bZ else none
theorem UW (l:List Nd) (ht:fT l=true) (hb:l.length≤1000000) (n:Int) (w:Int) (h:Sz) (bZ:Bool) (ins:Ed→Ao→Option La×Bool) (hr:∀ e x,(ins e x).2=true→(ins e x).1.isSome=true)
 (hI:∀ x:Ao,aK Go.Proofs.Tryz.prog 18 [.rv (.sl 49 (br l)),.rv (.int .i64 n),.rv (.int .i64 (-1)),.rv (.int .i64 x.w),(mA (cn l n w h)).sv,.rv (.bool (cn l n w h).nM),.rv (.bool (cn l n w h).lE)] [] [] (.aO [.agg ((bH (ins (cn l n w h) x).1).map .rv),.rv (.bool (ins (cn l n w h) x).2)])) :
 aK Go.Proofs.Tryz.prog 11 [.rv (.sl 49 (br l)),.rv (.int .i64 n),.rv (.int .i64 w),h.sv,.rv (.bool bZ)] [] [] (mT (Du l ins n w h bZ)):=by
 refine bu PO [.rv (.sl 49 (br l)),.rv (.int .i64 n),.rv (.int .i64 w),h.sv,.rv (.bool bZ)] _ (by simp) (by simp [aP,aY,bq,aW,bk,aC.sv,Ln.sv,Nd.sv]) (fun K hK=>?_)
 have hm:=zK l ht n
 have hw:=CF w h
 have nD:=an l
 unfold Du at hK
 cases lM:iE l n with
 | false=>
   rw [lM] at hm
   simp -implicitDefEqProofs only [lM,Bool.false_and,Bool.false_eq_true,if_false] at hK
   conv in fc _ _ _ _=>reduce
   simp -implicitDefEqProofs only [Sz.sv,Sz.cells,go_sem,Int.reduceNegSucc] at hw ⊢
   have bf:=hm;have y_2:=hw;repeat' (first | (simp -implicitDefEqProofs only [go_sem,Int.reduceNegSucc]) | (with_reducible refine aA ?_) | (with_reducible first | refine ag bf ?_ | refine ah bf ?_) | (with_reducible first | refine ag y_2 ?_ | refine ah y_2 ?_) | ((first | refine ai (fun hg=>?_) (fun hg=>?_) | refine ax (fun hg=>?_) (fun hg=>?_) | refine ay (fun hg=>?_) (fun hg=>?_)) <;> try simp -implicitDefEqProofs only [hg,Bool.not_true,Bool.not_false]) | ((with_reducible apply And.intro);focus (first | trivial | omega | decide | (simp -implicitDefEqProofs only [maxLen];omega) | (simp [maxLen,af,ak,an,av,aj,au,aq] <;> omega))) | fail)
   all_goals (refine (hK _ _ ?_).2;clear hK;simp -implicitDefEqProofs only [go_sem,Int.reduceNegSucc,aQ,aS,aX,bn,aI,aG,aF,bR,bH,Option.map,Option.isSome] <;>(try simp_all [-Int.not_lt,-Int.not_le,aI,aG,aF,bA,bR,bH,Option.map,Option.isSome]) <;> try omega)
 | true=>
   rw [lM] at hm
   have hin:ia l n=true:=by simp [iE] at lM;exact lM.1
   obtain ⟨k,rfl,hkn⟩:=qi hin
   cases lB:iL w h with
   | false=>
     rw [lB] at hw
     simp -implicitDefEqProofs only [lM,lB,Bool.true_and,Bool.false_eq_true,if_false] at hK
     conv in fc _ _ _ _=>reduce
     simp -implicitDefEqProofs only [Sz.sv,Sz.cells,go_sem,Int.reduceNegSucc] at hw ⊢
     have bB:=hm;have bG:=hw;repeat' (first | (simp -implicitDefEqProofs only [go_sem,Int.reduceNegSucc]) | (with_reducible refine aA ?_) | (with_reducible first | refine ag bB ?_ | refine ah bB ?_) | (with_reducible first | refine ag bG ?_ | refine ah bG ?_) | ((first | refine ai (fun hg=>?_) (fun hg=>?_) | refine ax (fun hg=>?_) (fun hg=>?_) | refine ay (fun hg=>?_) (fun hg=>?_)) <;> try simp -implicitDefEqProofs only [hg,Bool.not_true,Bool.not_false]) | ((with_reducible apply And.intro);focus (first | trivial | omega | decide | (simp -implicitDefEqProofs only [maxLen];omega) | (simp [maxLen,af,ak,an,av,aj,au,aq] <;> omega))) | fail)
     all_goals (refine (hK _ _ ?_).2;clear hK;simp -implicitDefEqProofs only [go_sem,Int.reduceNegSucc,aQ,aS,aX,bn,aI,aG,aF,bR,bH,Option.map,Option.isSome] <;>(try simp_all [-Int.not_lt,-Int.not_le,aI,aG,aF,bA,bR,bH,Option.map,Option.isSome]) <;> try omega)
   | true=>
     rw [lB] at hw
     simp -implicitDefEqProofs only [lM,lB,Bool.and_self,if_true] at hK
     have hx:=iM hkn
     have jb:bN l k=(l[k]'hkn).s:=by simp [bN,sK hkn,hkn]
     have x1:=GD (l[k]'hkn)
     have x2:=ak (l[k]'hkn)
     have x3:=II (l[k]'hkn)
     rw [← jb] at x1 x3
     generalize l[k]'hkn=nd at *
     clear jb
     have yE:=Uw l ht hb k hkn w h
     have ef:(cn l k w h).flat=(!(decide ((k:Int)=0) || (bN l k).clip) && rC (bN l k) w && qA (bN l k) w && ((cn l k w h).least == 0)):=rfl
     have eo:(cn l k w h).nM=(!(decide ((k:Int)=0) || (bN l k).clip) && rC (bN l k) w):=rfl
     have eB:(cn l k w h).lE=(!(decide ((k:Int)=0) || (bN l k).clip) && qA (bN l k) w && (cn l k w h).high.auto && ((cn l k w h).least == 0)):=rfl
     have eb:(cn l k w h).bD=(bN l k).bD:=rfl
     have h1:=fun id=>ta id (nu (cn l k w h)) (by simp [nu])
     have h2:=ru (bN l k).width w true
     have h3:=Io (bN l k).jo (bN l k).jn w true
     have hac:=UU (qx l k w h bZ)
     have hcl:=fun v=>UB v (cn l k w h).least (cn l k w h).most
     have o1:=oM (cn l k w h).bC.a 0
     have o2:=oM (cn l k w h).bC.c 0
     have s1:=fun id=>ta id (jD (cn l k w h)) (by simp [jD])
     have s2:=fun (v:Int) id=>ta id [ct (jD (cn l k w h)),v] (by simp)
     have qc:∀ (f:Fm) (y:RV) (p:Pl) (high:Int),f.bC.a=bh (cn l k w h).bC.a 0→f.bC.c=bh (cn l k w h).bC.c 0→aK Go.Proofs.Tryz.prog 40 [(vX l k w h).sv,.agg (f.cells.map .rv),.agg ((lV y p).map .rv),.rv (.bool (cn l k w h).lE),.rv (.int .i64 high)] [] [] (.agg ((pT (cn l k w h) (bw l k).length p high).cells.map .rv)):=
      fun f y p high a1 a2=>UX (vX l k w h) f y p (cn l k w h).lE high (cn l k w h) (bw l k).length ef rfl rfl a1 a2 rfl
     simp -implicitDefEqProofs only [vX] at yE qc
     unfold qx at hac
     unfold rQ qx okB at hK
     generalize (bw l k).length=kids at *
     generalize cn l k w h=e at *
     generalize rC (bN l k) w=TP at *
     generalize qA (bN l k) w=BT at *
     generalize (decide ((k:Int)=0) || (bN l k).clip)=AL at *
     generalize bN l k=s at *
     generalize fR s.width w true=W at *
     generalize bh (fR s.jo w true) 0=LW at *
     generalize bh (fR s.jn w true) 1125899906842624=XW at *
     generalize rW s w h=b1 at *
     generalize gS s.width w true=b3 at *
     generalize gS s.jo w true=b4 at *
     generalize gS s.jn w true=b5 at *
     obtain ⟨M,D,B,H,L,X,CW,FL,OT,OB⟩:=e
     dsimp only at ef eo eB eb
     subst eb
     simp -implicitDefEqProofs only [nu,jD,kS,List.map_cons,List.map_nil,List.length_cons,List.length_nil,Nat.reduceAdd] at h1 s1 s2 hac hK
     simp -implicitDefEqProofs only [Kn.sv,Kn.cells,Q4.gZ,Sz.sv,Sz.cells,Ai.sv,Ai.cells,Ao.cells,List.map_cons,List.map_nil,List.cons_append,List.nil_append] at hw yE h2 h3 hac o1 o2 hI qc
     conv in fc _ _ _ _=>reduce
     simp -implicitDefEqProofs only [Sz.sv,Sz.cells,go_sem,Int.reduceNegSucc]
     cases hall:(b1 && fS [s.bD.d,D.d.n,D.b.n,s.bD.b] && b3 && b4 && b5) with
     | false=>
       simp -implicitDefEqProofs only [hall,Bool.false_eq_true,if_false] at hK
       have bI:=hm;have bK:=hw;have bL:=yE;have bO:=h1;have cl:=h2;have cr:=h3;repeat' (first | (simp -implicitDefEqProofs only [go_sem,Int.reduceNegSucc,nD,hx,x1,x2,x3,cC,dX,cD,dY,cO,ez,cZ,eL,dx,eX,dH,fo,dI,fq,dJ,fu,dK,fy,dL,fA,cE,dZ,cF,ec,cG,ee,cH,eg,cI,ek,cJ,ep,cK,er,cL,eu,cM,ew,cN,ey,cP,eA,cQ,eC,cR,eD,cS,eE,cT,eF,cU,eG,cV,eH,cW,eI,cX,eJ,cY,eK,dc,eM,de,eN,dg,eO,dh,eP,di,eR,dj,eS,dm,eT,dn,eU,dr,eV,dw,eW,dy,eY,dz,eZ,cA,fe,dA,ff,dB,fh,dD,fj,dF,fk,dG,fm,dR,dM,dN,dO,dP,dQ,dS,dU,dV,dW,cB,cz,af,Q4.ints]) | (with_reducible refine aA ?_) | (with_reducible first | refine ag bI ?_ | refine ah bI ?_) | (with_reducible first | refine ag bK ?_ | refine ah bK ?_) | (with_reducible first | refine ag bL ?_ | refine ah bL ?_) | ((first | refine bQ (bO _) ?_ ?_ ?_ | refine bV (bO _) ?_ ?_ ?_ | fail);(focus (simp [aT,aB] <;> fail));(focus (simp [aZ,aR] <;> fail))) | (with_reducible first | refine ag cl ?_ | refine ah cl ?_) | (with_reducible first | refine ag cr ?_ | refine ah cr ?_) | ((first | refine ai (fun hg=>?_) (fun hg=>?_) | refine ax (fun hg=>?_) (fun hg=>?_) | refine ay (fun hg=>?_) (fun hg=>?_)) <;> try simp -implicitDefEqProofs only [hg,Bool.not_true,Bool.not_false]) | ((with_reducible apply And.intro);focus (first | trivial | omega | decide | (simp -implicitDefEqProofs only [maxLen];omega) | (simp [maxLen,af,ak,an,av,aj,au,aq] <;> omega))) | fail)
       all_goals first | (exfalso;simp_all;done) | skip
       all_goals (refine (hK _ _ ?_).2;clear hK;simp -implicitDefEqProofs only [go_sem,Int.reduceNegSucc,aQ,aS,aX,bn,aI,aG,aF,bR,bH,Option.map,Option.isSome] <;>(try simp_all [-Int.not_lt,-Int.not_le,aI,aG,aF,bA,bR,bH,Option.map,Option.isSome]) <;> try omega)
     | true=>
       simp -implicitDefEqProofs only [Bool.and_eq_true] at hall
       obtain ⟨⟨⟨⟨rfl,q2⟩,rfl⟩,rfl⟩,rfl⟩:=hall
       rw [q2] at h1
       simp -implicitDefEqProofs only [q2,Bool.and_self,if_true] at hK
       have fU:=hm;have gx:=hw;have gO:=yE;have gP:=h1;have gQ:=h2;have ir:=h3;repeat' (first | (simp -implicitDefEqProofs only [go_sem,Int.reduceNegSucc,nD,hx,x1,x2,x3,cC,dX,cD,dY,cO,ez,cZ,eL,dx,eX,dH,fo,dI,fq,dJ,fu,dK,fy,dL,fA,cE,dZ,cF,ec,cG,ee,cH,eg,cI,ek,cJ,ep,cK,er,cL,eu,cM,ew,cN,ey,cP,eA,cQ,eC,cR,eD,cS,eE,cT,eF,cU,eG,cV,eH,cW,eI,cX,eJ,cY,eK,dc,eM,de,eN,dg,eO,dh,eP,di,eR,dj,eS,dm,eT,dn,eU,dr,eV,dw,eW,dy,eY,dz,eZ,cA,fe,dA,ff,dB,fh,dD,fj,dF,fk,dG,fm,dR,dM,dN,dO,dP,dQ,dS,dU,dV,dW,cB,cz,af,Q4.ints,Bool.and_self]) | (with_reducible refine aA ?_) | (with_reducible first | refine ag fU ?_ | refine ah fU ?_) | (with_reducible first | refine ag gx ?_ | refine ah gx ?_) | (with_reducible first | refine ag gO ?_ | refine ah gO ?_) | ((first | refine bQ (gP _) ?_ ?_ ?_ | refine bV (gP _) ?_ ?_ ?_ | fail);(focus (simp [aT,aB] <;> fail));(focus (simp [aZ,aR] <;> fail))) | (with_reducible first | refine ag gQ ?_ | refine ah gQ ?_) | (with_reducible first | refine ag ir ?_ | refine ah ir ?_) | ((first | refine ai (fun hg=>?_) (fun hg=>?_) | refine ax (fun hg=>?_) (fun hg=>?_) | refine ay (fun hg=>?_) (fun hg=>?_)) <;> try simp -implicitDefEqProofs only [hg,Bool.not_true,Bool.not_false]) | ((with_reducible apply And.intro);focus (first | trivial | omega | decide | (simp -implicitDefEqProofs only [maxLen];omega) | (simp [maxLen,af,ak,an,av,aj,au,aq] <;> omega))) | fail)
       generalize nr ⟨w,M.d,W,M.b,ct [s.bD.d,D.d.n,D.b.n,s.bD.b],bZ,LW,XW⟩=o at *
       cases o with
       | none=>
         simp -implicitDefEqProofs only [iq,Option.isSome,Option.bind] at hac hK
         have iu:=hac;repeat' (first | (simp -implicitDefEqProofs only [go_sem,Int.reduceNegSucc]) | (with_reducible refine aA ?_) | (with_reducible first | refine ag iu ?_ | refine ah iu ?_) | ((first | refine ai (fun hg=>?_) (fun hg=>?_) | refine ax (fun hg=>?_) (fun hg=>?_) | refine ay (fun hg=>?_) (fun hg=>?_)) <;> try simp -implicitDefEqProofs only [hg,Bool.not_true,Bool.not_false]) | ((with_reducible apply And.intro);focus (first | trivial | omega | decide | (simp -implicitDefEqProofs only [maxLen];omega) | (simp [maxLen,af,ak,an,av,aj,au,aq] <;> omega))) | fail)
         all_goals (refine (hK _ _ ?_).2;clear hK;simp -implicitDefEqProofs only [go_sem,Int.reduceNegSucc,aQ,aS,aX,bn,aI,aG,aF,bR,bH,Option.map,Option.isSome] <;>(try simp_all [-Int.not_lt,-Int.not_le,aI,aG,aF,bA,bR,bH,Option.map,Option.isSome]) <;> try omega)
       | some x=>
         have fI:=hI x
         simp -implicitDefEqProofs only [iq,Option.isSome,Option.bind] at hac hK
         clear hI
         have hr:=hr ⟨M,D,s.bD,H,L,X,CW,FL,OT,OB⟩ x
         generalize ins ⟨M,D,s.bD,H,L,X,CW,FL,OT,OB⟩ x=r at *
         obtain ⟨r1,GK⟩:=r
         dsimp only at hr fI
         have hab:(AL=true∧OT=false∧OB=false)∨(AL=false∧BT=false∧OT=TP∧OB=false)∨(AL=false∧BT=true∧OT=TP∧OB=(H.auto && (L == 0))):=by
          rw [eo,eB]
          cases AL <;> cases BT <;> simp
         clear eo eB ef
         cases hh:H.auto with
         | true=>
           simp -implicitDefEqProofs only [mA,hh,if_true,Bool.false_eq_true,if_false,Bool.true_and,Bool.false_and] at fI hab
           have iw:=hac;have jh:=hcl H.n;repeat' (first | (simp -implicitDefEqProofs only [go_sem,Int.reduceNegSucc,cC,dX,cD,dY,cO,ez,cZ,eL,dx,eX,dH,fo,dI,fq,dJ,fu,dK,fy,dL,fA,cE,dZ,cF,ec,cG,ee,cH,eg,cI,ek,cJ,ep,cK,er,cL,eu,cM,ew,cN,ey,cP,eA,cQ,eC,cR,eD,cS,eE,cT,eF,cU,eG,cV,eH,cW,eI,cX,eJ,cY,eK,dc,eM,de,eN,dg,eO,dh,eP,di,eR,dj,eS,dm,eT,dn,eU,dr,eV,dw,eW,dy,eY,dz,eZ,cA,fe,dA,ff,dB,fh,dD,fj,dF,fk,dG,fm,dR,dM,dN,dO,dP,dQ,dS,dU,dV,dW,cB,cz,af,Q4.ints,Bool.and_self,hh]) | (with_reducible first | refine ag iw ?_ | refine ah iw ?_) | (with_reducible first | refine ag jh ?_ | refine ah jh ?_) | ((first | refine ai (fun hg=>?_) (fun hg=>?_) | refine ax (fun hg=>?_) (fun hg=>?_) | refine ay (fun hg=>?_) (fun hg=>?_)) <;> try simp -implicitDefEqProofs only [hg,Bool.not_true,Bool.not_false]) | ((with_reducible apply And.intro);focus (first | trivial | omega | decide | (simp -implicitDefEqProofs only [maxLen];omega) | (simp [maxLen,af,ak,an,av,aj,au,aq] <;> omega))) | fail)
           refine jl [(0,.rv (.sl 49 (br l))),(1,.rv (.int .i64 k)),(10,.ptr 1 0),(11,.ptr 2 0),(13,.ptr 3 0),(14,.ptr 4 0),(23,.ptr 7 0),(24,.ptr 8 0)] _ (bg (by simp [lk])) ?_
           cases GK with
           | false=>
             simp -implicitDefEqProofs only [oX,Bool.false_eq_true,if_false] at hK
             cases r1 with
             | none=>
               simp -implicitDefEqProofs only [bH,List.map_cons,List.map_nil] at fI
               have s3:=s2 (jF 0 L X)
               apply via
               ·intro main
                rcases hab with ⟨gl,gq,cu⟩ | ⟨gl,gn,gq,cu⟩ | ⟨gl,gn,gq,cu⟩
                ·have gp:(!AL)=false:=by rw [gl];rfl
                 rw [gq,cu] at fI
                 have ji:=fI;have jQ:=hcl 0;repeat' (first | (simp -implicitDefEqProofs only [go_sem,Int.reduceNegSucc,cC,dX,cD,dY,cO,ez,cZ,eL,dx,eX,dH,fo,dI,fq,dJ,fu,dK,fy,dL,fA,cE,dZ,cF,ec,cG,ee,cH,eg,cI,ek,cJ,ep,cK,er,cL,eu,cM,ew,cN,ey,cP,eA,cQ,eC,cR,eD,cS,eE,cT,eF,cU,eG,cV,eH,cW,eI,cX,eJ,cY,eK,dc,eM,de,eN,dg,eO,dh,eP,di,eR,dj,eS,dm,eT,dn,eU,dr,eV,dw,eW,dy,eY,dz,eZ,cA,fe,dA,ff,dB,fh,dD,fj,dF,fk,dG,fm,dR,dM,dN,dO,dP,dQ,dS,dU,dV,dW,cB,cz,af,Q4.ints,Bool.and_self,hh,gp]) | (with_reducible first | refine ag ji ?_ | refine ah ji ?_) | (with_reducible first | refine ag jQ ?_ | refine ah jQ ?_) | ((first | refine ai (fun hg=>?_) (fun hg=>?_) | refine ax (fun hg=>?_) (fun hg=>?_) | refine ay (fun hg=>?_) (fun hg=>?_)) <;> try simp -implicitDefEqProofs only [hg,Bool.not_true,Bool.not_false]) | ((with_reducible apply And.intro);focus (first | trivial | omega | decide | (simp -implicitDefEqProofs only [maxLen];omega) | (simp [maxLen,af,ak,an,av,aj,au,aq] <;> omega))) | fail)
                 refine jl [(15,.rv (.bool false)),(10,.ptr 1 0),(11,.ptr 2 0),(13,.ptr 3 0),(14,.ptr 4 0),(23,.ptr 7 0),(26,.rv (.bool OB)),(27,.ptr 9 0),(28,.ptr 10 0)] _ (bg ?_) main
                 simp [lk,cu]
                ·have gp:(!AL)=true:=by rw [gl];rfl
                 rw [gq,cu] at fI
                 have mL:=fI;have mM:=hcl 0;repeat' (first | (simp -implicitDefEqProofs only [go_sem,Int.reduceNegSucc,cC,dX,cD,dY,cO,ez,cZ,eL,dx,eX,dH,fo,dI,fq,dJ,fu,dK,fy,dL,fA,cE,dZ,cF,ec,cG,ee,cH,eg,cI,ek,cJ,ep,cK,er,cL,eu,cM,ew,cN,ey,cP,eA,cQ,eC,cR,eD,cS,eE,cT,eF,cU,eG,cV,eH,cW,eI,cX,eJ,cY,eK,dc,eM,de,eN,dg,eO,dh,eP,di,eR,dj,eS,dm,eT,dn,eU,dr,eV,dw,eW,dy,eY,dz,eZ,cA,fe,dA,ff,dB,fh,dD,fj,dF,fk,dG,fm,dR,dM,dN,dO,dP,dQ,dS,dU,dV,dW,cB,cz,af,Q4.ints,Bool.and_self,hh,gp,gn]) | (with_reducible first | refine ag mL ?_ | refine ah mL ?_) | (with_reducible first | refine ag mM ?_ | refine ah mM ?_) | ((first | refine ai (fun hg=>?_) (fun hg=>?_) | refine ax (fun hg=>?_) (fun hg=>?_) | refine ay (fun hg=>?_) (fun hg=>?_)) <;> try simp -implicitDefEqProofs only [hg,Bool.not_true,Bool.not_false]) | ((with_reducible apply And.intro);focus (first | trivial | omega | decide | (simp -implicitDefEqProofs only [maxLen];omega) | (simp [maxLen,af,ak,an,av,aj,au,aq] <;> omega))) | fail)
                 refine jl _ _ ?_ main
                 rw [gn]
                 refine bg ?_
                 simp [lk,cu]
                ·have gp:(!AL)=true:=by rw [gl];rfl
                 rw [gq,cu] at fI
                 have oO:=fI;have rD:=hcl 0;repeat' (first | (simp -implicitDefEqProofs only [go_sem,Int.reduceNegSucc,cC,dX,cD,dY,cO,ez,cZ,eL,dx,eX,dH,fo,dI,fq,dJ,fu,dK,fy,dL,fA,cE,dZ,cF,ec,cG,ee,cH,eg,cI,ek,cJ,ep,cK,er,cL,eu,cM,ew,cN,ey,cP,eA,cQ,eC,cR,eD,cS,eE,cT,eF,cU,eG,cV,eH,cW,eI,cX,eJ,cY,eK,dc,eM,de,eN,dg,eO,dh,eP,di,eR,dj,eS,dm,eT,dn,eU,dr,eV,dw,eW,dy,eY,dz,eZ,cA,fe,dA,ff,dB,fh,dD,fj,dF,fk,dG,fm,dR,dM,dN,dO,dP,dQ,dS,dU,dV,dW,cB,cz,af,Q4.ints,Bool.and_self,hh,gp,gn]) | (with_reducible first | refine ag oO ?_ | refine ah oO ?_) | (with_reducible first | refine ag rD ?_ | refine ah rD ?_) | ((first | refine ai (fun hg=>?_) (fun hg=>?_) | refine ax (fun hg=>?_) (fun hg=>?_) | refine ay (fun hg=>?_) (fun hg=>?_)) <;> try simp -implicitDefEqProofs only [hg,Bool.not_true,Bool.not_false]) | ((with_reducible apply And.intro);focus (first | trivial | omega | decide | (simp -implicitDefEqProofs only [maxLen];omega) | (simp [maxLen,af,ak,an,av,aj,au,aq] <;> omega))) | fail)
                 refine jl _ _ ?_ main
                 rw [gn]
                 refine bg ?_
                 simp [lk,cu]
               ·have rE:=o1;have rF:=o2;repeat' (first | (simp -implicitDefEqProofs only [go_sem,Int.reduceNegSucc,cC,dX,cD,dY,cO,ez,cZ,eL,dx,eX,dH,fo,dI,fq,dJ,fu,dK,fy,dL,fA,cE,dZ,cF,ec,cG,ee,cH,eg,cI,ek,cJ,ep,cK,er,cL,eu,cM,ew,cN,ey,cP,eA,cQ,eC,cR,eD,cS,eE,cT,eF,cU,eG,cV,eH,cW,eI,cX,eJ,cY,eK,dc,eM,de,eN,dg,eO,dh,eP,di,eR,dj,eS,dm,eT,dn,eU,dr,eV,dw,eW,dy,eY,dz,eZ,cA,fe,dA,ff,dB,fh,dD,fj,dF,fk,dG,fm,dR,dM,dN,dO,dP,dQ,dS,dU,dV,dW,cB,cz,af,Q4.ints,Bool.and_self,hh]) | (with_reducible refine aA ?_) | (with_reducible first | refine ag rE ?_ | refine ah rE ?_) | (with_reducible first | refine ag rF ?_ | refine ah rF ?_) | ((first | refine ai (fun hg=>?_) (fun hg=>?_) | refine ax (fun hg=>?_) (fun hg=>?_) | refine ay (fun hg=>?_) (fun hg=>?_)) <;> try simp -implicitDefEqProofs only [hg,Bool.not_true,Bool.not_false]) | ((with_reducible apply And.intro);focus (first | trivial | omega | decide | (simp -implicitDefEqProofs only [maxLen];omega) | (simp [maxLen,af,ak,an,av,aj,au,aq] <;> omega))) | fail)
                refine jX 5 ?_
                have rG:=s1;have rH:=s3;repeat' (first | (simp -implicitDefEqProofs only [go_sem,Int.reduceNegSucc,kj,kk,ko,kr,ku,kz,jT,Int.reduceLT,decide_true,decide_false,Int.reduceToNat,Nat.reduceMul,cC,dX,cD,dY,cO,ez,cZ,eL,dx,eX,dH,fo,dI,fq,dJ,fu,dK,fy,dL,fA,cE,dZ,cF,ec,cG,ee,cH,eg,cI,ek,cJ,ep,cK,er,cL,eu,cM,ew,cN,ey,cP,eA,cQ,eC,cR,eD,cS,eE,cT,eF,cU,eG,cV,eH,cW,eI,cX,eJ,cY,eK,dc,eM,de,eN,dg,eO,dh,eP,di,eR,dj,eS,dm,eT,dn,eU,dr,eV,dw,eW,dy,eY,dz,eZ,cA,fe,dA,ff,dB,fh,dD,fj,dF,fk,dG,fm,dR,dM,dN,dO,dP,dQ,dS,dU,dV,dW,cB,cz,af,Q4.ints]) | (with_reducible refine aA ?_) | (with_reducible show G _ _ (It.l _ _::_) _ _ _;refine jW ?_) | ((first | refine bQ (rG _) ?_ ?_ ?_ | refine bV (rG _) ?_ ?_ ?_ | fail);(focus (simp [aT,aB] <;> fail));(focus (simp [aZ,aR] <;> fail))) | ((first | refine bQ (rH _) ?_ ?_ ?_ | refine bV (rH _) ?_ ?_ ?_ | fail);(focus (simp [aT,aB] <;> fail));(focus (simp [aZ,aR] <;> fail))) | ((first | refine ai (fun hg=>?_) (fun hg=>?_) | refine ax (fun hg=>?_) (fun hg=>?_) | refine ay (fun hg=>?_) (fun hg=>?_)) <;> try simp -implicitDefEqProofs only [hg,Bool.not_true,Bool.not_false]) | ((with_reducible apply And.intro);focus (first | trivial | omega | decide | (simp -implicitDefEqProofs only [maxLen];omega) | (simp [maxLen,af,ak,an,av,aj,au,aq] <;> omega))) | fail)
                all_goals (refine (hK _ _ ?_).2;clear hK;simp -implicitDefEqProofs only [go_sem,Int.reduceNegSucc,aQ,aS,aX,bn,aI,aG,aF,bR,bH,Option.map,Option.isSome] <;>(try simp_all [-Int.not_lt,-Int.not_le,aI,aG,aF,bA,bR,bH,Option.map,Option.isSome]) <;> try omega)
             | some t=>
               simp -implicitDefEqProofs only [bH,Pl.cells,List.map_cons,List.map_nil,List.cons_append,List.nil_append] at fI
               have s3:=s2 (jF t.high L X)
               apply via
               ·intro main
                rcases hab with ⟨gl,gq,cu⟩ | ⟨gl,gn,gq,cu⟩ | ⟨gl,gn,gq,cu⟩
                ·have gp:(!AL)=false:=by rw [gl];rfl
                 rw [gq,cu] at fI
                 have wU:=fI;have wV:=hcl t.high;repeat' (first | (simp -implicitDefEqProofs only [go_sem,Int.reduceNegSucc,cC,dX,cD,dY,cO,ez,cZ,eL,dx,eX,dH,fo,dI,fq,dJ,fu,dK,fy,dL,fA,cE,dZ,cF,ec,cG,ee,cH,eg,cI,ek,cJ,ep,cK,er,cL,eu,cM,ew,cN,ey,cP,eA,cQ,eC,cR,eD,cS,eE,cT,eF,cU,eG,cV,eH,cW,eI,cX,eJ,cY,eK,dc,eM,de,eN,dg,eO,dh,eP,di,eR,dj,eS,dm,eT,dn,eU,dr,eV,dw,eW,dy,eY,dz,eZ,cA,fe,dA,ff,dB,fh,dD,fj,dF,fk,dG,fm,dR,dM,dN,dO,dP,dQ,dS,dU,dV,dW,cB,cz,af,Q4.ints,Bool.and_self,hh,gp]) | (with_reducible first | refine ag wU ?_ | refine ah wU ?_) | (with_reducible first | refine ag wV ?_ | refine ah wV ?_) | ((first | refine ai (fun hg=>?_) (fun hg=>?_) | refine ax (fun hg=>?_) (fun hg=>?_) | refine ay (fun hg=>?_) (fun hg=>?_)) <;> try simp -implicitDefEqProofs only [hg,Bool.not_true,Bool.not_false]) | ((with_reducible apply And.intro);focus (first | trivial | omega | decide | (simp -implicitDefEqProofs only [maxLen];omega) | (simp [maxLen,af,ak,an,av,aj,au,aq] <;> omega))) | fail)
                 refine jl [(15,.rv (.bool false)),(10,.ptr 1 0),(11,.ptr 2 0),(13,.ptr 3 0),(14,.ptr 4 0),(23,.ptr 7 0),(26,.rv (.bool OB)),(27,.ptr 9 0),(28,.ptr 10 0)] _ (bg ?_) main
                 simp [lk,cu]
                ·have gp:(!AL)=true:=by rw [gl];rfl
                 rw [gq,cu] at fI
                 have wW:=fI;have wX:=hcl t.high;repeat' (first | (simp -implicitDefEqProofs only [go_sem,Int.reduceNegSucc,cC,dX,cD,dY,cO,ez,cZ,eL,dx,eX,dH,fo,dI,fq,dJ,fu,dK,fy,dL,fA,cE,dZ,cF,ec,cG,ee,cH,eg,cI,ek,cJ,ep,cK,er,cL,eu,cM,ew,cN,ey,cP,eA,cQ,eC,cR,eD,cS,eE,cT,eF,cU,eG,cV,eH,cW,eI,cX,eJ,cY,eK,dc,eM,de,eN,dg,eO,dh,eP,di,eR,dj,eS,dm,eT,dn,eU,dr,eV,dw,eW,dy,eY,dz,eZ,cA,fe,dA,ff,dB,fh,dD,fj,dF,fk,dG,fm,dR,dM,dN,dO,dP,dQ,dS,dU,dV,dW,cB,cz,af,Q4.ints,Bool.and_self,hh,gp,gn]) | (with_reducible first | refine ag wW ?_ | refine ah wW ?_) | (with_reducible first | refine ag wX ?_ | refine ah wX ?_) | ((first | refine ai (fun hg=>?_) (fun hg=>?_) | refine ax (fun hg=>?_) (fun hg=>?_) | refine ay (fun hg=>?_) (fun hg=>?_)) <;> try simp -implicitDefEqProofs only [hg,Bool.not_true,Bool.not_false]) | ((with_reducible apply And.intro);focus (first | trivial | omega | decide | (simp -implicitDefEqProofs only [maxLen];omega) | (simp [maxLen,af,ak,an,av,aj,au,aq] <;> omega))) | fail)
                 refine jl _ _ ?_ main
                 rw [gn]
                 refine bg ?_
                 simp [lk,cu]
                ·have gp:(!AL)=true:=by rw [gl];rfl
                 rw [gq,cu] at fI
                 have wY:=fI;have wZ:=hcl t.high;repeat' (first | (simp -implicitDefEqProofs only [go_sem,Int.reduceNegSucc,cC,dX,cD,dY,cO,ez,cZ,eL,dx,eX,dH,fo,dI,fq,dJ,fu,dK,fy,dL,fA,cE,dZ,cF,ec,cG,ee,cH,eg,cI,ek,cJ,ep,cK,er,cL,eu,cM,ew,cN,ey,cP,eA,cQ,eC,cR,eD,cS,eE,cT,eF,cU,eG,cV,eH,cW,eI,cX,eJ,cY,eK,dc,eM,de,eN,dg,eO,dh,eP,di,eR,dj,eS,dm,eT,dn,eU,dr,eV,dw,eW,dy,eY,dz,eZ,cA,fe,dA,ff,dB,fh,dD,fj,dF,fk,dG,fm,dR,dM,dN,dO,dP,dQ,dS,dU,dV,dW,cB,cz,af,Q4.ints,Bool.and_self,hh,gp,gn]) | (with_reducible first | refine ag wY ?_ | refine ah wY ?_) | (with_reducible first | refine ag wZ ?_ | refine ah wZ ?_) | ((first | refine ai (fun hg=>?_) (fun hg=>?_) | refine ax (fun hg=>?_) (fun hg=>?_) | refine ay (fun hg=>?_) (fun hg=>?_)) <;> try simp -implicitDefEqProofs only [hg,Bool.not_true,Bool.not_false]) | ((with_reducible apply And.intro);focus (first | trivial | omega | decide | (simp -implicitDefEqProofs only [maxLen];omega) | (simp [maxLen,af,ak,an,av,aj,au,aq] <;> omega))) | fail)
                 refine jl _ _ ?_ main
                 rw [gn]
                 refine bg ?_
                 simp [lk,cu]
               ·have xb:=o1;have xd:=o2;repeat' (first | (simp -implicitDefEqProofs only [go_sem,Int.reduceNegSucc,cC,dX,cD,dY,cO,ez,cZ,eL,dx,eX,dH,fo,dI,fq,dJ,fu,dK,fy,dL,fA,cE,dZ,cF,ec,cG,ee,cH,eg,cI,ek,cJ,ep,cK,er,cL,eu,cM,ew,cN,ey,cP,eA,cQ,eC,cR,eD,cS,eE,cT,eF,cU,eG,cV,eH,cW,eI,cX,eJ,cY,eK,dc,eM,de,eN,dg,eO,dh,eP,di,eR,dj,eS,dm,eT,dn,eU,dr,eV,dw,eW,dy,eY,dz,eZ,cA,fe,dA,ff,dB,fh,dD,fj,dF,fk,dG,fm,dR,dM,dN,dO,dP,dQ,dS,dU,dV,dW,cB,cz,af,Q4.ints,Bool.and_self,hh]) | (with_reducible refine aA ?_) | (with_reducible first | refine ag xb ?_ | refine ah xb ?_) | (with_reducible first | refine ag xd ?_ | refine ah xd ?_) | ((first | refine ai (fun hg=>?_) (fun hg=>?_) | refine ax (fun hg=>?_) (fun hg=>?_) | refine ay (fun hg=>?_) (fun hg=>?_)) <;> try simp -implicitDefEqProofs only [hg,Bool.not_true,Bool.not_false]) | ((with_reducible apply And.intro);focus (first | trivial | omega | decide | (simp -implicitDefEqProofs only [maxLen];omega) | (simp [maxLen,af,ak,an,av,aj,au,aq] <;> omega))) | fail)
                refine jX 5 ?_
                have xe:=s1;have xg:=s3;repeat' (first | (simp -implicitDefEqProofs only [go_sem,Int.reduceNegSucc,kj,kk,ko,kr,ku,kz,jT,Int.reduceLT,decide_true,decide_false,Int.reduceToNat,Nat.reduceMul,cC,dX,cD,dY,cO,ez,cZ,eL,dx,eX,dH,fo,dI,fq,dJ,fu,dK,fy,dL,fA,cE,dZ,cF,ec,cG,ee,cH,eg,cI,ek,cJ,ep,cK,er,cL,eu,cM,ew,cN,ey,cP,eA,cQ,eC,cR,eD,cS,eE,cT,eF,cU,eG,cV,eH,cW,eI,cX,eJ,cY,eK,dc,eM,de,eN,dg,eO,dh,eP,di,eR,dj,eS,dm,eT,dn,eU,dr,eV,dw,eW,dy,eY,dz,eZ,cA,fe,dA,ff,dB,fh,dD,fj,dF,fk,dG,fm,dR,dM,dN,dO,dP,dQ,dS,dU,dV,dW,cB,cz,af,Q4.ints]) | (with_reducible refine aA ?_) | (with_reducible show G _ _ (It.l _ _::_) _ _ _;refine jW ?_) | ((first | refine bQ (xe _) ?_ ?_ ?_ | refine bV (xe _) ?_ ?_ ?_ | fail);(focus (simp [aT,aB] <;> fail));(focus (simp [aZ,aR] <;> fail))) | ((first | refine bQ (xg _) ?_ ?_ ?_ | refine bV (xg _) ?_ ?_ ?_ | fail);(focus (simp [aT,aB] <;> fail));(focus (simp [aZ,aR] <;> fail))) | ((first | refine ai (fun hg=>?_) (fun hg=>?_) | refine ax (fun hg=>?_) (fun hg=>?_) | refine ay (fun hg=>?_) (fun hg=>?_)) <;> try simp -implicitDefEqProofs only [hg,Bool.not_true,Bool.not_false]) | ((with_reducible apply And.intro);focus (first | trivial | omega | decide | (simp -implicitDefEqProofs only [maxLen];omega) | (simp [maxLen,af,ak,an,av,aj,au,aq] <;> omega))) | fail)
                all_goals (refine (hK _ _ ?_).2;clear hK;simp -implicitDefEqProofs only [go_sem,Int.reduceNegSucc,aQ,aS,aX,bn,aI,aG,aF,bR,bH,Option.map,Option.isSome] <;>(try simp_all [-Int.not_lt,-Int.not_le,aI,aG,aF,bA,bR,bH,Option.map,Option.isSome]) <;> try omega)
           | true=>
             obtain ⟨t,rfl⟩:=Option.isSome_iff_exists.1 (hr rfl)
             simp -implicitDefEqProofs only [oX,pz,tP,jD,hh,Bool.false_eq_true,if_false,if_true,Option.bind,Bool.not_true,Bool.not_false] at hK
             simp -implicitDefEqProofs only [bH,Pl.cells,List.map_cons,List.map_nil,List.cons_append,List.nil_append] at fI
             have s3:=s2 (jF t.high L X)
             have lK:=qc ⟨x.l,0,x.w,jF t.high L X,⟨bh M.a 0,x.r,bh M.c 0,x.l⟩,⟨D.a.n,D.b.n,D.c.n,D.d.n⟩,s.bD,false,⟨⟨0,0⟩,⟨0,0⟩,⟨0,0⟩,false,0⟩⟩ (.sl 1 (aM t.ys)) t.p (ct [ct [s.bD.a,D.a.n,D.c.n,s.bD.c],jF t.high L X]) rfl rfl
             simp -implicitDefEqProofs only [Fm.cells,Q4.ints,Ch.cells,lV,Pl.cells,List.map_cons,List.map_nil,List.cons_append,List.nil_append,hh] at lK
             generalize pT _ kids t.p (ct [ct [s.bD.a,D.a.n,D.c.n,s.bD.c],jF t.high L X])=C at *
             apply via
             ·intro main
              rcases hab with ⟨gl,gq,cu⟩ | ⟨gl,gn,gq,cu⟩ | ⟨gl,gn,gq,cu⟩
              ·have gp:(!AL)=false:=by rw [gl];rfl
               rw [gq,cu] at fI
               have xh:=fI;have Ji:=hcl t.high;repeat' (first | (simp -implicitDefEqProofs only [go_sem,Int.reduceNegSucc,cC,dX,cD,dY,cO,ez,cZ,eL,dx,eX,dH,fo,dI,fq,dJ,fu,dK,fy,dL,fA,cE,dZ,cF,ec,cG,ee,cH,eg,cI,ek,cJ,ep,cK,er,cL,eu,cM,ew,cN,ey,cP,eA,cQ,eC,cR,eD,cS,eE,cT,eF,cU,eG,cV,eH,cW,eI,cX,eJ,cY,eK,dc,eM,de,eN,dg,eO,dh,eP,di,eR,dj,eS,dm,eT,dn,eU,dr,eV,dw,eW,dy,eY,dz,eZ,cA,fe,dA,ff,dB,fh,dD,fj,dF,fk,dG,fm,dR,dM,dN,dO,dP,dQ,dS,dU,dV,dW,cB,cz,af,Q4.ints,Bool.and_self,hh,gp]) | (with_reducible first | refine ag xh ?_ | refine ah xh ?_) | (with_reducible first | refine ag Ji ?_ | refine ah Ji ?_) | ((first | refine ai (fun hg=>?_) (fun hg=>?_) | refine ax (fun hg=>?_) (fun hg=>?_) | refine ay (fun hg=>?_) (fun hg=>?_)) <;> try simp -implicitDefEqProofs only [hg,Bool.not_true,Bool.not_false]) | ((with_reducible apply And.intro);focus (first | trivial | omega | decide | (simp -implicitDefEqProofs only [maxLen];omega) | (simp [maxLen,af,ak,an,av,aj,au,aq] <;> omega))) | fail)
               refine jl [(15,.rv (.bool true)),(10,.ptr 1 0),(11,.ptr 2 0),(13,.ptr 3 0),(14,.ptr 4 0),(23,.ptr 7 0),(26,.rv (.bool OB)),(27,.ptr 9 0),(28,.ptr 10 0)] _ (bg ?_) main
               simp [lk,cu]
              ·have gp:(!AL)=true:=by rw [gl];rfl
               rw [gq,cu] at fI
               have Jj:=fI;have Jk:=hcl t.high;repeat' (first | (simp -implicitDefEqProofs only [go_sem,Int.reduceNegSucc,cC,dX,cD,dY,cO,ez,cZ,eL,dx,eX,dH,fo,dI,fq,dJ,fu,dK,fy,dL,fA,cE,dZ,cF,ec,cG,ee,cH,eg,cI,ek,cJ,ep,cK,er,cL,eu,cM,ew,cN,ey,cP,eA,cQ,eC,cR,eD,cS,eE,cT,eF,cU,eG,cV,eH,cW,eI,cX,eJ,cY,eK,dc,eM,de,eN,dg,eO,dh,eP,di,eR,dj,eS,dm,eT,dn,eU,dr,eV,dw,eW,dy,eY,dz,eZ,cA,fe,dA,ff,dB,fh,dD,fj,dF,fk,dG,fm,dR,dM,dN,dO,dP,dQ,dS,dU,dV,dW,cB,cz,af,Q4.ints,Bool.and_self,hh,gp,gn]) | (with_reducible first | refine ag Jj ?_ | refine ah Jj ?_) | (with_reducible first | refine ag Jk ?_ | refine ah Jk ?_) | ((first | refine ai (fun hg=>?_) (fun hg=>?_) | refine ax (fun hg=>?_) (fun hg=>?_) | refine ay (fun hg=>?_) (fun hg=>?_)) <;> try simp -implicitDefEqProofs only [hg,Bool.not_true,Bool.not_false]) | ((with_reducible apply And.intro);focus (first | trivial | omega | decide | (simp -implicitDefEqProofs only [maxLen];omega) | (simp [maxLen,af,ak,an,av,aj,au,aq] <;> omega))) | fail)
               refine jl _ _ ?_ main
               rw [gn]
               refine bg ?_
               simp [lk,cu]
              ·have gp:(!AL)=true:=by rw [gl];rfl
               rw [gq,cu] at fI
               have Jl:=fI;have Jm:=hcl t.high;repeat' (first | (simp -implicitDefEqProofs only [go_sem,Int.reduceNegSucc,cC,dX,cD,dY,cO,ez,cZ,eL,dx,eX,dH,fo,dI,fq,dJ,fu,dK,fy,dL,fA,cE,dZ,cF,ec,cG,ee,cH,eg,cI,ek,cJ,ep,cK,er,cL,eu,cM,ew,cN,ey,cP,eA,cQ,eC,cR,eD,cS,eE,cT,eF,cU,eG,cV,eH,cW,eI,cX,eJ,cY,eK,dc,eM,de,eN,dg,eO,dh,eP,di,eR,dj,eS,dm,eT,dn,eU,dr,eV,dw,eW,dy,eY,dz,eZ,cA,fe,dA,ff,dB,fh,dD,fj,dF,fk,dG,fm,dR,dM,dN,dO,dP,dQ,dS,dU,dV,dW,cB,cz,af,Q4.ints,Bool.and_self,hh,gp,gn]) | (with_reducible first | refine ag Jl ?_ | refine ah Jl ?_) | (with_reducible first | refine ag Jm ?_ | refine ah Jm ?_) | ((first | refine ai (fun hg=>?_) (fun hg=>?_) | refine ax (fun hg=>?_) (fun hg=>?_) | refine ay (fun hg=>?_) (fun hg=>?_)) <;> try simp -implicitDefEqProofs only [hg,Bool.not_true,Bool.not_false]) | ((with_reducible apply And.intro);focus (first | trivial | omega | decide | (simp -implicitDefEqProofs only [maxLen];omega) | (simp [maxLen,af,ak,an,av,aj,au,aq] <;> omega))) | fail)
               refine jl _ _ ?_ main
               rw [gn]
               refine bg ?_
               simp [lk,cu]
             ·have Jn:=o1;have Jo:=o2;repeat' (first | (simp -implicitDefEqProofs only [go_sem,Int.reduceNegSucc,cC,dX,cD,dY,cO,ez,cZ,eL,dx,eX,dH,fo,dI,fq,dJ,fu,dK,fy,dL,fA,cE,dZ,cF,ec,cG,ee,cH,eg,cI,ek,cJ,ep,cK,er,cL,eu,cM,ew,cN,ey,cP,eA,cQ,eC,cR,eD,cS,eE,cT,eF,cU,eG,cV,eH,cW,eI,cX,eJ,cY,eK,dc,eM,de,eN,dg,eO,dh,eP,di,eR,dj,eS,dm,eT,dn,eU,dr,eV,dw,eW,dy,eY,dz,eZ,cA,fe,dA,ff,dB,fh,dD,fj,dF,fk,dG,fm,dR,dM,dN,dO,dP,dQ,dS,dU,dV,dW,cB,cz,af,Q4.ints,Bool.and_self,hh]) | (with_reducible refine aA ?_) | (with_reducible first | refine ag Jn ?_ | refine ah Jn ?_) | (with_reducible first | refine ag Jo ?_ | refine ah Jo ?_) | ((first | refine ai (fun hg=>?_) (fun hg=>?_) | refine ax (fun hg=>?_) (fun hg=>?_) | refine ay (fun hg=>?_) (fun hg=>?_)) <;> try simp -implicitDefEqProofs only [hg,Bool.not_true,Bool.not_false]) | ((with_reducible apply And.intro);focus (first | trivial | omega | decide | (simp -implicitDefEqProofs only [maxLen];omega) | (simp [maxLen,af,ak,an,av,aj,au,aq] <;> omega))) | fail)
              refine jX 5 ?_
              cases k1:fS [s.bD.a,D.a.n,D.c.n,s.bD.c] <;> cases k2:fS [ct [s.bD.a,D.a.n,D.c.n,s.bD.c],jF t.high L X] <;> rw [k1] at s1 <;> rw [k2] at s3 <;> simp -implicitDefEqProofs only [k1,k2,and_self,and_true,true_and,and_false,false_and,Bool.false_eq_true,if_true,if_false] at hK
              all_goals ((have Jp:=s1;have Jq:=s3;have Jr:=lK;repeat' (first | (simp -implicitDefEqProofs only [go_sem,Int.reduceNegSucc,kj,kk,ko,kr,ku,kz,jT,Int.reduceLT,decide_true,decide_false,Int.reduceToNat,Nat.reduceMul,cC,dX,cD,dY,cO,ez,cZ,eL,dx,eX,dH,fo,dI,fq,dJ,fu,dK,fy,dL,fA,cE,dZ,cF,ec,cG,ee,cH,eg,cI,ek,cJ,ep,cK,er,cL,eu,cM,ew,cN,ey,cP,eA,cQ,eC,cR,eD,cS,eE,cT,eF,cU,eG,cV,eH,cW,eI,cX,eJ,cY,eK,dc,eM,de,eN,dg,eO,dh,eP,di,eR,dj,eS,dm,eT,dn,eU,dr,eV,dw,eW,dy,eY,dz,eZ,cA,fe,dA,ff,dB,fh,dD,fj,dF,fk,dG,fm,dR,dM,dN,dO,dP,dQ,dS,dU,dV,dW,cB,cz,af,Q4.ints]) | (with_reducible refine aA ?_) | (with_reducible show G _ _ (It.l _ _::_) _ _ _;refine jW ?_) | ((first | refine bQ (Jp _) ?_ ?_ ?_ | refine bV (Jp _) ?_ ?_ ?_ | fail);(focus (simp [aT,aB] <;> fail));(focus (simp [aZ,aR] <;> fail))) | ((first | refine bQ (Jq _) ?_ ?_ ?_ | refine bV (Jq _) ?_ ?_ ?_ | fail);(focus (simp [aT,aB] <;> fail));(focus (simp [aZ,aR] <;> fail))) | (with_reducible first | refine ag Jr ?_ | refine ah Jr ?_) | ((first | refine ai (fun hg=>?_) (fun hg=>?_) | refine ax (fun hg=>?_) (fun hg=>?_) | refine ay (fun hg=>?_) (fun hg=>?_)) <;> try simp -implicitDefEqProofs only [hg,Bool.not_true,Bool.not_false]) | ((with_reducible apply And.intro);focus (first | trivial | omega | decide | (simp -implicitDefEqProofs only [maxLen];omega) | (simp [maxLen,af,ak,an,av,aj,au,aq] <;> omega))) | fail)))
              all_goals (refine (hK _ _ ?_).2;clear hK;simp -implicitDefEqProofs only [go_sem,Int.reduceNegSucc,aQ,aS,aX,bn,aI,aG,aF,bR,bH,Fm.cells,Q4.ints,Ch.cells,Pl.cells,Option.map,Option.isSome] <;>(try simp_all [-Int.not_lt,-Int.not_le,aI,aG,aF,bA,bR,bH,Fm.cells,Q4.ints,Ch.cells,Pl.cells,Option.map,Option.isSome]) <;> try omega)
         | false=>
           simp -implicitDefEqProofs only [mA,hh,if_true,Bool.false_eq_true,if_false,Bool.true_and,Bool.false_and] at fI hab
           have Js:=hac;have Jt:=hcl H.n;repeat' (first | (simp -implicitDefEqProofs only [go_sem,Int.reduceNegSucc,cC,dX,cD,dY,cO,ez,cZ,eL,dx,eX,dH,fo,dI,fq,dJ,fu,dK,fy,dL,fA,cE,dZ,cF,ec,cG,ee,cH,eg,cI,ek,cJ,ep,cK,er,cL,eu,cM,ew,cN,ey,cP,eA,cQ,eC,cR,eD,cS,eE,cT,eF,cU,eG,cV,eH,cW,eI,cX,eJ,cY,eK,dc,eM,de,eN,dg,eO,dh,eP,di,eR,dj,eS,dm,eT,dn,eU,dr,eV,dw,eW,dy,eY,dz,eZ,cA,fe,dA,ff,dB,fh,dD,fj,dF,fk,dG,fm,dR,dM,dN,dO,dP,dQ,dS,dU,dV,dW,cB,cz,af,Q4.ints,Bool.and_self,hh]) | (with_reducible first | refine ag Js ?_ | refine ah Js ?_) | (with_reducible first | refine ag Jt ?_ | refine ah Jt ?_) | ((first | refine ai (fun hg=>?_) (fun hg=>?_) | refine ax (fun hg=>?_) (fun hg=>?_) | refine ay (fun hg=>?_) (fun hg=>?_)) <;> try simp -implicitDefEqProofs only [hg,Bool.not_true,Bool.not_false]) | ((with_reducible apply And.intro);focus (first | trivial | omega | decide | (simp -implicitDefEqProofs only [maxLen];omega) | (simp [maxLen,af,ak,an,av,aj,au,aq] <;> omega))) | fail)
           refine jl [(0,.rv (.sl 49 (br l))),(1,.rv (.int .i64 k)),(10,.ptr 1 0),(11,.ptr 2 0),(13,.ptr 3 0),(14,.ptr 4 0),(23,.ptr 7 0),(24,.ptr 8 0)] _ (bg (by simp [lk])) ?_
           cases GK with
           | false=>
             simp -implicitDefEqProofs only [oX,Bool.false_eq_true,if_false] at hK
             cases r1 with
             | none=>
               simp -implicitDefEqProofs only [bH,List.map_cons,List.map_nil] at fI
               have s3:=s2 (jF H.n L X)
               apply via
               ·intro main
                rcases hab with ⟨gl,gq,cu⟩ | ⟨gl,gn,gq,cu⟩ | ⟨gl,gn,gq,cu⟩
                ·have gp:(!AL)=false:=by rw [gl];rfl
                 rw [gq,cu] at fI
                 have Ju:=fI;repeat' (first | (simp -implicitDefEqProofs only [go_sem,Int.reduceNegSucc,cC,dX,cD,dY,cO,ez,cZ,eL,dx,eX,dH,fo,dI,fq,dJ,fu,dK,fy,dL,fA,cE,dZ,cF,ec,cG,ee,cH,eg,cI,ek,cJ,ep,cK,er,cL,eu,cM,ew,cN,ey,cP,eA,cQ,eC,cR,eD,cS,eE,cT,eF,cU,eG,cV,eH,cW,eI,cX,eJ,cY,eK,dc,eM,de,eN,dg,eO,dh,eP,di,eR,dj,eS,dm,eT,dn,eU,dr,eV,dw,eW,dy,eY,dz,eZ,cA,fe,dA,ff,dB,fh,dD,fj,dF,fk,dG,fm,dR,dM,dN,dO,dP,dQ,dS,dU,dV,dW,cB,cz,af,Q4.ints,Bool.and_self,hh,gp]) | (with_reducible first | refine ag Ju ?_ | refine ah Ju ?_) | ((first | refine ai (fun hg=>?_) (fun hg=>?_) | refine ax (fun hg=>?_) (fun hg=>?_) | refine ay (fun hg=>?_) (fun hg=>?_)) <;> try simp -implicitDefEqProofs only [hg,Bool.not_true,Bool.not_false]) | ((with_reducible apply And.intro);focus (first | trivial | omega | decide | (simp -implicitDefEqProofs only [maxLen];omega) | (simp [maxLen,af,ak,an,av,aj,au,aq] <;> omega))) | fail)
                 refine jl [(15,.rv (.bool false)),(10,.ptr 1 0),(11,.ptr 2 0),(13,.ptr 3 0),(14,.ptr 4 0),(23,.ptr 7 0),(26,.rv (.bool OB)),(27,.ptr 9 0),(28,.ptr 10 0)] _ (bg ?_) main
                 simp [lk,cu]
                ·have gp:(!AL)=true:=by rw [gl];rfl
                 rw [gq,cu] at fI
                 have Jv:=fI;repeat' (first | (simp -implicitDefEqProofs only [go_sem,Int.reduceNegSucc,cC,dX,cD,dY,cO,ez,cZ,eL,dx,eX,dH,fo,dI,fq,dJ,fu,dK,fy,dL,fA,cE,dZ,cF,ec,cG,ee,cH,eg,cI,ek,cJ,ep,cK,er,cL,eu,cM,ew,cN,ey,cP,eA,cQ,eC,cR,eD,cS,eE,cT,eF,cU,eG,cV,eH,cW,eI,cX,eJ,cY,eK,dc,eM,de,eN,dg,eO,dh,eP,di,eR,dj,eS,dm,eT,dn,eU,dr,eV,dw,eW,dy,eY,dz,eZ,cA,fe,dA,ff,dB,fh,dD,fj,dF,fk,dG,fm,dR,dM,dN,dO,dP,dQ,dS,dU,dV,dW,cB,cz,af,Q4.ints,Bool.and_self,hh,gp,gn]) | (with_reducible first | refine ag Jv ?_ | refine ah Jv ?_) | ((first | refine ai (fun hg=>?_) (fun hg=>?_) | refine ax (fun hg=>?_) (fun hg=>?_) | refine ay (fun hg=>?_) (fun hg=>?_)) <;> try simp -implicitDefEqProofs only [hg,Bool.not_true,Bool.not_false]) | ((with_reducible apply And.intro);focus (first | trivial | omega | decide | (simp -implicitDefEqProofs only [maxLen];omega) | (simp [maxLen,af,ak,an,av,aj,au,aq] <;> omega))) | fail)
                 refine jl _ _ ?_ main
                 rw [gn]
                 refine bg ?_
                 simp [lk,cu]
                ·have gp:(!AL)=true:=by rw [gl];rfl
                 rw [gq,cu] at fI
                 have Jw:=fI;repeat' (first | (simp -implicitDefEqProofs only [go_sem,Int.reduceNegSucc,cC,dX,cD,dY,cO,ez,cZ,eL,dx,eX,dH,fo,dI,fq,dJ,fu,dK,fy,dL,fA,cE,dZ,cF,ec,cG,ee,cH,eg,cI,ek,cJ,ep,cK,er,cL,eu,cM,ew,cN,ey,cP,eA,cQ,eC,cR,eD,cS,eE,cT,eF,cU,eG,cV,eH,cW,eI,cX,eJ,cY,eK,dc,eM,de,eN,dg,eO,dh,eP,di,eR,dj,eS,dm,eT,dn,eU,dr,eV,dw,eW,dy,eY,dz,eZ,cA,fe,dA,ff,dB,fh,dD,fj,dF,fk,dG,fm,dR,dM,dN,dO,dP,dQ,dS,dU,dV,dW,cB,cz,af,Q4.ints,Bool.and_self,hh,gp,gn]) | (with_reducible first | refine ag Jw ?_ | refine ah Jw ?_) | ((first | refine ai (fun hg=>?_) (fun hg=>?_) | refine ax (fun hg=>?_) (fun hg=>?_) | refine ay (fun hg=>?_) (fun hg=>?_)) <;> try simp -implicitDefEqProofs only [hg,Bool.not_true,Bool.not_false]) | ((with_reducible apply And.intro);focus (first | trivial | omega | decide | (simp -implicitDefEqProofs only [maxLen];omega) | (simp [maxLen,af,ak,an,av,aj,au,aq] <;> omega))) | fail)
                 refine jl _ _ ?_ main
                 rw [gn]
                 refine bg ?_
                 simp [lk,cu]
               ·have Jx:=o1;have Jy:=o2;repeat' (first | (simp -implicitDefEqProofs only [go_sem,Int.reduceNegSucc,cC,dX,cD,dY,cO,ez,cZ,eL,dx,eX,dH,fo,dI,fq,dJ,fu,dK,fy,dL,fA,cE,dZ,cF,ec,cG,ee,cH,eg,cI,ek,cJ,ep,cK,er,cL,eu,cM,ew,cN,ey,cP,eA,cQ,eC,cR,eD,cS,eE,cT,eF,cU,eG,cV,eH,cW,eI,cX,eJ,cY,eK,dc,eM,de,eN,dg,eO,dh,eP,di,eR,dj,eS,dm,eT,dn,eU,dr,eV,dw,eW,dy,eY,dz,eZ,cA,fe,dA,ff,dB,fh,dD,fj,dF,fk,dG,fm,dR,dM,dN,dO,dP,dQ,dS,dU,dV,dW,cB,cz,af,Q4.ints,Bool.and_self,hh]) | (with_reducible refine aA ?_) | (with_reducible first | refine ag Jx ?_ | refine ah Jx ?_) | (with_reducible first | refine ag Jy ?_ | refine ah Jy ?_) | ((first | refine ai (fun hg=>?_) (fun hg=>?_) | refine ax (fun hg=>?_) (fun hg=>?_) | refine ay (fun hg=>?_) (fun hg=>?_)) <;> try simp -implicitDefEqProofs only [hg,Bool.not_true,Bool.not_false]) | ((with_reducible apply And.intro);focus (first | trivial | omega | decide | (simp -implicitDefEqProofs only [maxLen];omega) | (simp [maxLen,af,ak,an,av,aj,au,aq] <;> omega))) | fail)
                refine jX 5 ?_
                have Jz:=s1;have JA:=s3;repeat' (first | (simp -implicitDefEqProofs only [go_sem,Int.reduceNegSucc,kj,kk,ko,kr,ku,kz,jT,Int.reduceLT,decide_true,decide_false,Int.reduceToNat,Nat.reduceMul,cC,dX,cD,dY,cO,ez,cZ,eL,dx,eX,dH,fo,dI,fq,dJ,fu,dK,fy,dL,fA,cE,dZ,cF,ec,cG,ee,cH,eg,cI,ek,cJ,ep,cK,er,cL,eu,cM,ew,cN,ey,cP,eA,cQ,eC,cR,eD,cS,eE,cT,eF,cU,eG,cV,eH,cW,eI,cX,eJ,cY,eK,dc,eM,de,eN,dg,eO,dh,eP,di,eR,dj,eS,dm,eT,dn,eU,dr,eV,dw,eW,dy,eY,dz,eZ,cA,fe,dA,ff,dB,fh,dD,fj,dF,fk,dG,fm,dR,dM,dN,dO,dP,dQ,dS,dU,dV,dW,cB,cz,af,Q4.ints]) | (with_reducible refine aA ?_) | (with_reducible show G _ _ (It.l _ _::_) _ _ _;refine jW ?_) | ((first | refine bQ (Jz _) ?_ ?_ ?_ | refine bV (Jz _) ?_ ?_ ?_ | fail);(focus (simp [aT,aB] <;> fail));(focus (simp [aZ,aR] <;> fail))) | ((first | refine bQ (JA _) ?_ ?_ ?_ | refine bV (JA _) ?_ ?_ ?_ | fail);(focus (simp [aT,aB] <;> fail));(focus (simp [aZ,aR] <;> fail))) | ((first | refine ai (fun hg=>?_) (fun hg=>?_) | refine ax (fun hg=>?_) (fun hg=>?_) | refine ay (fun hg=>?_) (fun hg=>?_)) <;> try simp -implicitDefEqProofs only [hg,Bool.not_true,Bool.not_false]) | ((with_reducible apply And.intro);focus (first | trivial | omega | decide | (simp -implicitDefEqProofs only [maxLen];omega) | (simp [maxLen,af,ak,an,av,aj,au,aq] <;> omega))) | fail)
                all_goals (refine (hK _ _ ?_).2;clear hK;simp -implicitDefEqProofs only [go_sem,Int.reduceNegSucc,aQ,aS,aX,bn,aI,aG,aF,bR,bH,Option.map,Option.isSome] <;>(try simp_all [-Int.not_lt,-Int.not_le,aI,aG,aF,bA,bR,bH,Option.map,Option.isSome]) <;> try omega)
             | some t=>
               simp -implicitDefEqProofs only [bH,Pl.cells,List.map_cons,List.map_nil,List.cons_append,List.nil_append] at fI
               have s3:=s2 (jF H.n L X)
               apply via
               ·intro main
                rcases hab with ⟨gl,gq,cu⟩ | ⟨gl,gn,gq,cu⟩ | ⟨gl,gn,gq,cu⟩
                ·have gp:(!AL)=false:=by rw [gl];rfl
                 rw [gq,cu] at fI
                 have JB:=fI;repeat' (first | (simp -implicitDefEqProofs only [go_sem,Int.reduceNegSucc,cC,dX,cD,dY,cO,ez,cZ,eL,dx,eX,dH,fo,dI,fq,dJ,fu,dK,fy,dL,fA,cE,dZ,cF,ec,cG,ee,cH,eg,cI,ek,cJ,ep,cK,er,cL,eu,cM,ew,cN,ey,cP,eA,cQ,eC,cR,eD,cS,eE,cT,eF,cU,eG,cV,eH,cW,eI,cX,eJ,cY,eK,dc,eM,de,eN,dg,eO,dh,eP,di,eR,dj,eS,dm,eT,dn,eU,dr,eV,dw,eW,dy,eY,dz,eZ,cA,fe,dA,ff,dB,fh,dD,fj,dF,fk,dG,fm,dR,dM,dN,dO,dP,dQ,dS,dU,dV,dW,cB,cz,af,Q4.ints,Bool.and_self,hh,gp]) | (with_reducible first | refine ag JB ?_ | refine ah JB ?_) | ((first | refine ai (fun hg=>?_) (fun hg=>?_) | refine ax (fun hg=>?_) (fun hg=>?_) | refine ay (fun hg=>?_) (fun hg=>?_)) <;> try simp -implicitDefEqProofs only [hg,Bool.not_true,Bool.not_false]) | ((with_reducible apply And.intro);focus (first | trivial | omega | decide | (simp -implicitDefEqProofs only [maxLen];omega) | (simp [maxLen,af,ak,an,av,aj,au,aq] <;> omega))) | fail)
                 refine jl [(15,.rv (.bool false)),(10,.ptr 1 0),(11,.ptr 2 0),(13,.ptr 3 0),(14,.ptr 4 0),(23,.ptr 7 0),(26,.rv (.bool OB)),(27,.ptr 9 0),(28,.ptr 10 0)] _ (bg ?_) main
                 simp [lk,cu]
                ·have gp:(!AL)=true:=by rw [gl];rfl
                 rw [gq,cu] at fI
                 have JC:=fI;repeat' (first | (simp -implicitDefEqProofs only [go_sem,Int.reduceNegSucc,cC,dX,cD,dY,cO,ez,cZ,eL,dx,eX,dH,fo,dI,fq,dJ,fu,dK,fy,dL,fA,cE,dZ,cF,ec,cG,ee,cH,eg,cI,ek,cJ,ep,cK,er,cL,eu,cM,ew,cN,ey,cP,eA,cQ,eC,cR,eD,cS,eE,cT,eF,cU,eG,cV,eH,cW,eI,cX,eJ,cY,eK,dc,eM,de,eN,dg,eO,dh,eP,di,eR,dj,eS,dm,eT,dn,eU,dr,eV,dw,eW,dy,eY,dz,eZ,cA,fe,dA,ff,dB,fh,dD,fj,dF,fk,dG,fm,dR,dM,dN,dO,dP,dQ,dS,dU,dV,dW,cB,cz,af,Q4.ints,Bool.and_self,hh,gp,gn]) | (with_reducible first | refine ag JC ?_ | refine ah JC ?_) | ((first | refine ai (fun hg=>?_) (fun hg=>?_) | refine ax (fun hg=>?_) (fun hg=>?_) | refine ay (fun hg=>?_) (fun hg=>?_)) <;> try simp -implicitDefEqProofs only [hg,Bool.not_true,Bool.not_false]) | ((with_reducible apply And.intro);focus (first | trivial | omega | decide | (simp -implicitDefEqProofs only [maxLen];omega) | (simp [maxLen,af,ak,an,av,aj,au,aq] <;> omega))) | fail)
                 refine jl _ _ ?_ main
                 rw [gn]
                 refine bg ?_
                 simp [lk,cu]
                ·have gp:(!AL)=true:=by rw [gl];rfl
                 rw [gq,cu] at fI
                 have JD:=fI;repeat' (first | (simp -implicitDefEqProofs only [go_sem,Int.reduceNegSucc,cC,dX,cD,dY,cO,ez,cZ,eL,dx,eX,dH,fo,dI,fq,dJ,fu,dK,fy,dL,fA,cE,dZ,cF,ec,cG,ee,cH,eg,cI,ek,cJ,ep,cK,er,cL,eu,cM,ew,cN,ey,cP,eA,cQ,eC,cR,eD,cS,eE,cT,eF,cU,eG,cV,eH,cW,eI,cX,eJ,cY,eK,dc,eM,de,eN,dg,eO,dh,eP,di,eR,dj,eS,dm,eT,dn,eU,dr,eV,dw,eW,dy,eY,dz,eZ,cA,fe,dA,ff,dB,fh,dD,fj,dF,fk,dG,fm,dR,dM,dN,dO,dP,dQ,dS,dU,dV,dW,cB,cz,af,Q4.ints,Bool.and_self,hh,gp,gn]) | (with_reducible first | refine ag JD ?_ | refine ah JD ?_) | ((first | refine ai (fun hg=>?_) (fun hg=>?_) | refine ax (fun hg=>?_) (fun hg=>?_) | refine ay (fun hg=>?_) (fun hg=>?_)) <;> try simp -implicitDefEqProofs only [hg,Bool.not_true,Bool.not_false]) | ((with_reducible apply And.intro);focus (first | trivial | omega | decide | (simp -implicitDefEqProofs only [maxLen];omega) | (simp [maxLen,af,ak,an,av,aj,au,aq] <;> omega))) | fail)
                 refine jl _ _ ?_ main
                 rw [gn]
                 refine bg ?_
                 simp [lk,cu]
               ·have JE:=o1;have JF:=o2;repeat' (first | (simp -implicitDefEqProofs only [go_sem,Int.reduceNegSucc,cC,dX,cD,dY,cO,ez,cZ,eL,dx,eX,dH,fo,dI,fq,dJ,fu,dK,fy,dL,fA,cE,dZ,cF,ec,cG,ee,cH,eg,cI,ek,cJ,ep,cK,er,cL,eu,cM,ew,cN,ey,cP,eA,cQ,eC,cR,eD,cS,eE,cT,eF,cU,eG,cV,eH,cW,eI,cX,eJ,cY,eK,dc,eM,de,eN,dg,eO,dh,eP,di,eR,dj,eS,dm,eT,dn,eU,dr,eV,dw,eW,dy,eY,dz,eZ,cA,fe,dA,ff,dB,fh,dD,fj,dF,fk,dG,fm,dR,dM,dN,dO,dP,dQ,dS,dU,dV,dW,cB,cz,af,Q4.ints,Bool.and_self,hh]) | (with_reducible refine aA ?_) | (with_reducible first | refine ag JE ?_ | refine ah JE ?_) | (with_reducible first | refine ag JF ?_ | refine ah JF ?_) | ((first | refine ai (fun hg=>?_) (fun hg=>?_) | refine ax (fun hg=>?_) (fun hg=>?_) | refine ay (fun hg=>?_) (fun hg=>?_)) <;> try simp -implicitDefEqProofs only [hg,Bool.not_true,Bool.not_false]) | ((with_reducible apply And.intro);focus (first | trivial | omega | decide | (simp -implicitDefEqProofs only [maxLen];omega) | (simp [maxLen,af,ak,an,av,aj,au,aq] <;> omega))) | fail)
                refine jX 5 ?_
                have JG:=s1;have JH:=s3;repeat' (first | (simp -implicitDefEqProofs only [go_sem,Int.reduceNegSucc,kj,kk,ko,kr,ku,kz,jT,Int.reduceLT,decide_true,decide_false,Int.reduceToNat,Nat.reduceMul,cC,dX,cD,dY,cO,ez,cZ,eL,dx,eX,dH,fo,dI,fq,dJ,fu,dK,fy,dL,fA,cE,dZ,cF,ec,cG,ee,cH,eg,cI,ek,cJ,ep,cK,er,cL,eu,cM,ew,cN,ey,cP,eA,cQ,eC,cR,eD,cS,eE,cT,eF,cU,eG,cV,eH,cW,eI,cX,eJ,cY,eK,dc,eM,de,eN,dg,eO,dh,eP,di,eR,dj,eS,dm,eT,dn,eU,dr,eV,dw,eW,dy,eY,dz,eZ,cA,fe,dA,ff,dB,fh,dD,fj,dF,fk,dG,fm,dR,dM,dN,dO,dP,dQ,dS,dU,dV,dW,cB,cz,af,Q4.ints]) | (with_reducible refine aA ?_) | (with_reducible show G _ _ (It.l _ _::_) _ _ _;refine jW ?_) | ((first | refine bQ (JG _) ?_ ?_ ?_ | refine bV (JG _) ?_ ?_ ?_ | fail);(focus (simp [aT,aB] <;> fail));(focus (simp [aZ,aR] <;> fail))) | ((first | refine bQ (JH _) ?_ ?_ ?_ | refine bV (JH _) ?_ ?_ ?_ | fail);(focus (simp [aT,aB] <;> fail));(focus (simp [aZ,aR] <;> fail))) | ((first | refine ai (fun hg=>?_) (fun hg=>?_) | refine ax (fun hg=>?_) (fun hg=>?_) | refine ay (fun hg=>?_) (fun hg=>?_)) <;> try simp -implicitDefEqProofs only [hg,Bool.not_true,Bool.not_false]) | ((with_reducible apply And.intro);focus (first | trivial | omega | decide | (simp -implicitDefEqProofs only [maxLen];omega) | (simp [maxLen,af,ak,an,av,aj,au,aq] <;> omega))) | fail)
                all_goals (refine (hK _ _ ?_).2;clear hK;simp -implicitDefEqProofs only [go_sem,Int.reduceNegSucc,aQ,aS,aX,bn,aI,aG,aF,bR,bH,Option.map,Option.isSome] <;>(try simp_all [-Int.not_lt,-Int.not_le,aI,aG,aF,bA,bR,bH,Option.map,Option.isSome]) <;> try omega)
           | true=>
             obtain ⟨t,rfl⟩:=Option.isSome_iff_exists.1 (hr rfl)
             simp -implicitDefEqProofs only [oX,pz,tP,jD,hh,Bool.false_eq_true,if_false,if_true,Option.bind,Bool.not_true,Bool.not_false] at hK
             simp -implicitDefEqProofs only [bH,Pl.cells,List.map_cons,List.map_nil,List.cons_append,List.nil_append] at fI
             have s3:=s2 (jF H.n L X)
             have lK:=qc ⟨x.l,0,x.w,jF H.n L X,⟨bh M.a 0,x.r,bh M.c 0,x.l⟩,⟨D.a.n,D.b.n,D.c.n,D.d.n⟩,s.bD,true,⟨⟨0,0⟩,⟨0,0⟩,⟨0,0⟩,false,0⟩⟩ (.sl 1 (aM t.ys)) t.p (ct [ct [s.bD.a,D.a.n,D.c.n,s.bD.c],jF H.n L X]) rfl rfl
             simp -implicitDefEqProofs only [Fm.cells,Q4.ints,Ch.cells,lV,Pl.cells,List.map_cons,List.map_nil,List.cons_append,List.nil_append,hh] at lK
             generalize pT _ kids t.p (ct [ct [s.bD.a,D.a.n,D.c.n,s.bD.c],jF H.n L X])=C at *
             apply via
             ·intro main
              rcases hab with ⟨gl,gq,cu⟩ | ⟨gl,gn,gq,cu⟩ | ⟨gl,gn,gq,cu⟩
              ·have gp:(!AL)=false:=by rw [gl];rfl
               rw [gq,cu] at fI
               have JI:=fI;repeat' (first | (simp -implicitDefEqProofs only [go_sem,Int.reduceNegSucc,cC,dX,cD,dY,cO,ez,cZ,eL,dx,eX,dH,fo,dI,fq,dJ,fu,dK,fy,dL,fA,cE,dZ,cF,ec,cG,ee,cH,eg,cI,ek,cJ,ep,cK,er,cL,eu,cM,ew,cN,ey,cP,eA,cQ,eC,cR,eD,cS,eE,cT,eF,cU,eG,cV,eH,cW,eI,cX,eJ,cY,eK,dc,eM,de,eN,dg,eO,dh,eP,di,eR,dj,eS,dm,eT,dn,eU,dr,eV,dw,eW,dy,eY,dz,eZ,cA,fe,dA,ff,dB,fh,dD,fj,dF,fk,dG,fm,dR,dM,dN,dO,dP,dQ,dS,dU,dV,dW,cB,cz,af,Q4.ints,Bool.and_self,hh,gp]) | (with_reducible first | refine ag JI ?_ | refine ah JI ?_) | ((first | refine ai (fun hg=>?_) (fun hg=>?_) | refine ax (fun hg=>?_) (fun hg=>?_) | refine ay (fun hg=>?_) (fun hg=>?_)) <;> try simp -implicitDefEqProofs only [hg,Bool.not_true,Bool.not_false]) | ((with_reducible apply And.intro);focus (first | trivial | omega | decide | (simp -implicitDefEqProofs only [maxLen];omega) | (simp [maxLen,af,ak,an,av,aj,au,aq] <;> omega))) | fail)
               refine jl [(15,.rv (.bool true)),(10,.ptr 1 0),(11,.ptr 2 0),(13,.ptr 3 0),(14,.ptr 4 0),(23,.ptr 7 0),(26,.rv (.bool OB)),(27,.ptr 9 0),(28,.ptr 10 0)] _ (bg ?_) main
               simp [lk,cu]
              ·have gp:(!AL)=true:=by rw [gl];rfl
               rw [gq,cu] at fI
               have JJ:=fI;repeat' (first | (simp -implicitDefEqProofs only [go_sem,Int.reduceNegSucc,cC,dX,cD,dY,cO,ez,cZ,eL,dx,eX,dH,fo,dI,fq,dJ,fu,dK,fy,dL,fA,cE,dZ,cF,ec,cG,ee,cH,eg,cI,ek,cJ,ep,cK,er,cL,eu,cM,ew,cN,ey,cP,eA,cQ,eC,cR,eD,cS,eE,cT,eF,cU,eG,cV,eH,cW,eI,cX,eJ,cY,eK,dc,eM,de,eN,dg,eO,dh,eP,di,eR,dj,eS,dm,eT,dn,eU,dr,eV,dw,eW,dy,eY,dz,eZ,cA,fe,dA,ff,dB,fh,dD,fj,dF,fk,dG,fm,dR,dM,dN,dO,dP,dQ,dS,dU,dV,dW,cB,cz,af,Q4.ints,Bool.and_self,hh,gp,gn]) | (with_reducible first | refine ag JJ ?_ | refine ah JJ ?_) | ((first | refine ai (fun hg=>?_) (fun hg=>?_) | refine ax (fun hg=>?_) (fun hg=>?_) | refine ay (fun hg=>?_) (fun hg=>?_)) <;> try simp -implicitDefEqProofs only [hg,Bool.not_true,Bool.not_false]) | ((with_reducible apply And.intro);focus (first | trivial | omega | decide | (simp -implicitDefEqProofs only [maxLen];omega) | (simp [maxLen,af,ak,an,av,aj,au,aq] <;> omega))) | fail)
               refine jl _ _ ?_ main
               rw [gn]
               refine bg ?_
               simp [lk,cu]
              ·have gp:(!AL)=true:=by rw [gl];rfl
               rw [gq,cu] at fI
               have JK:=fI;repeat' (first | (simp -implicitDefEqProofs only [go_sem,Int.reduceNegSucc,cC,dX,cD,dY,cO,ez,cZ,eL,dx,eX,dH,fo,dI,fq,dJ,fu,dK,fy,dL,fA,cE,dZ,cF,ec,cG,ee,cH,eg,cI,ek,cJ,ep,cK,er,cL,eu,cM,ew,cN,ey,cP,eA,cQ,eC,cR,eD,cS,eE,cT,eF,cU,eG,cV,eH,cW,eI,cX,eJ,cY,eK,dc,eM,de,eN,dg,eO,dh,eP,di,eR,dj,eS,dm,eT,dn,eU,dr,eV,dw,eW,dy,eY,dz,eZ,cA,fe,dA,ff,dB,fh,dD,fj,dF,fk,dG,fm,dR,dM,dN,dO,dP,dQ,dS,dU,dV,dW,cB,cz,af,Q4.ints,Bool.and_self,hh,gp,gn]) | (with_reducible first | refine ag JK ?_ | refine ah JK ?_) | ((first | refine ai (fun hg=>?_) (fun hg=>?_) | refine ax (fun hg=>?_) (fun hg=>?_) | refine ay (fun hg=>?_) (fun hg=>?_)) <;> try simp -implicitDefEqProofs only [hg,Bool.not_true,Bool.not_false]) | ((with_reducible apply And.intro);focus (first | trivial | omega | decide | (simp -implicitDefEqProofs only [maxLen];omega) | (simp [maxLen,af,ak,an,av,aj,au,aq] <;> omega))) | fail)
               refine jl _ _ ?_ main
               rw [gn]
               refine bg ?_
               simp [lk,cu]
             ·have JL:=o1;have JM:=o2;repeat' (first | (simp -implicitDefEqProofs only [go_sem,Int.reduceNegSucc,cC,dX,cD,dY,cO,ez,cZ,eL,dx,eX,dH,fo,dI,fq,dJ,fu,dK,fy,dL,fA,cE,dZ,cF,ec,cG,ee,cH,eg,cI,ek,cJ,ep,cK,er,cL,eu,cM,ew,cN,ey,cP,eA,cQ,eC,cR,eD,cS,eE,cT,eF,cU,eG,cV,eH,cW,eI,cX,eJ,cY,eK,dc,eM,de,eN,dg,eO,dh,eP,di,eR,dj,eS,dm,eT,dn,eU,dr,eV,dw,eW,dy,eY,dz,eZ,cA,fe,dA,ff,dB,fh,dD,fj,dF,fk,dG,fm,dR,dM,dN,dO,dP,dQ,dS,dU,dV,dW,cB,cz,af,Q4.ints,Bool.and_self,hh]) | (with_reducible refine aA ?_) | (with_reducible first | refine ag JL ?_ | refine ah JL ?_) | (with_reducible first | refine ag JM ?_ | refine ah JM ?_) | ((first | refine ai (fun hg=>?_) (fun hg=>?_) | refine ax (fun hg=>?_) (fun hg=>?_) | refine ay (fun hg=>?_) (fun hg=>?_)) <;> try simp -implicitDefEqProofs only [hg,Bool.not_true,Bool.not_false]) | ((with_reducible apply And.intro);focus (first | trivial | omega | decide | (simp -implicitDefEqProofs only [maxLen];omega) | (simp [maxLen,af,ak,an,av,aj,au,aq] <;> omega))) | fail)
              refine jX 5 ?_
              cases k1:fS [s.bD.a,D.a.n,D.c.n,s.bD.c] <;> cases k2:fS [ct [s.bD.a,D.a.n,D.c.n,s.bD.c],jF H.n L X] <;> rw [k1] at s1 <;> rw [k2] at s3 <;> simp -implicitDefEqProofs only [k1,k2,and_self,and_true,true_and,and_false,false_and,Bool.false_eq_true,if_true,if_false] at hK
              all_goals ((have JN:=s1;have JO:=s3;have JP:=lK;repeat' (first | (simp -implicitDefEqProofs only [go_sem,Int.reduceNegSucc,kj,kk,ko,kr,ku,kz,jT,Int.reduceLT,decide_true,decide_false,Int.reduceToNat,Nat.reduceMul,cC,dX,cD,dY,cO,ez,cZ,eL,dx,eX,dH,fo,dI,fq,dJ,fu,dK,fy,dL,fA,cE,dZ,cF,ec,cG,ee,cH,eg,cI,ek,cJ,ep,cK,er,cL,eu,cM,ew,cN,ey,cP,eA,cQ,eC,cR,eD,cS,eE,cT,eF,cU,eG,cV,eH,cW,eI,cX,eJ,cY,eK,dc,eM,de,eN,dg,eO,dh,eP,di,eR,dj,eS,dm,eT,dn,eU,dr,eV,dw,eW,dy,eY,dz,eZ,cA,fe,dA,ff,dB,fh,dD,fj,dF,fk,dG,fm,dR,dM,dN,dO,dP,dQ,dS,dU,dV,dW,cB,cz,af,Q4.ints]) | (with_reducible refine aA ?_) | (with_reducible show G _ _ (It.l _ _::_) _ _ _;refine jW ?_) | ((first | refine bQ (JN _) ?_ ?_ ?_ | refine bV (JN _) ?_ ?_ ?_ | fail);(focus (simp [aT,aB] <;> fail));(focus (simp [aZ,aR] <;> fail))) | ((first | refine bQ (JO _) ?_ ?_ ?_ | refine bV (JO _) ?_ ?_ ?_ | fail);(focus (simp [aT,aB] <;> fail));(focus (simp [aZ,aR] <;> fail))) | (with_reducible first | refine ag JP ?_ | refine ah JP ?_) | ((first | refine ai (fun hg=>?_) (fun hg=>?_) | refine ax (fun hg=>?_) (fun hg=>?_) | refine ay (fun hg=>?_) (fun hg=>?_)) <;> try simp -implicitDefEqProofs only [hg,Bool.not_true,Bool.not_false]) | ((with_reducible apply And.intro);focus (first | trivial | omega | decide | (simp -implicitDefEqProofs only [maxLen];omega) | (simp [maxLen,af,ak,an,av,aj,au,aq] <;> omega))) | fail)))
              all_goals (refine (hK _ _ ?_).2;clear hK;simp -implicitDefEqProofs only [go_sem,Int.reduceNegSucc,aQ,aS,aX,bn,aI,aG,aF,bR,bH,Fm.cells,Q4.ints,Ch.cells,Pl.cells,Option.map,Option.isSome] <;>(try simp_all [-Int.not_lt,-Int.not_le,aI,aG,aF,bA,bR,bH,Fm.cells,Q4.ints,Ch.cells,Pl.cells,Option.map,Option.isSome]) <;> try omega)
end Go.aL

namespace Go.aL
open Go
theorem Vk {l:List Nd} {m:Int} (h:iA l m=true):iE l m=true:=by
 simp -implicitDefEqProofs only [iA,Bool.and_eq_true] at h;exact h.1
theorem Eu {l:List Nd} {n:Int} {m:Nat} (h:m∈bw l n):iE l m=true:=Vk (by simpa using (List.mem_filter.1 h).2)
theorem Is (l:List Nd) (ht:fT l=true) (hs:gF l) (hb:l.length≤1000):∀ (d n:Nat) (w:Int) (h:Sz) (bZ:Bool),n<l.length→l.length<n+d→aK Go.Proofs.Tryz.prog 11 [.rv (.sl 49 (br l)),.rv (.int .i64 n),.rv (.int .i64 w),h.sv,.rv (.bool bZ)] [] [] (mT (if (iE l n && iL w h)=true then mS l d n w h bZ else none))
 | 0,n,w,h,bZ,hn,hd=>by omega
 | d+1,n,w,h,bZ,hn,hd=>by
   refine UW l ht (by omega) n w h bZ (yT l (mS l d) n) (fun e x hq=>FC hq) (fun x=>?_)
   have hk:=Rl l n hn
   have vq:=Ir l ht hb n hn (-1) x.w (mA (cn l n w h)) (cn l n w h).nM (cn l n w h).lE (fun m=>mS l d m x.w (mA (cn l n w h)) (bN l n).bZ) (fun m hm q hq=>by
    rw [hk] at hm
    have:=tw hs d m _ _ _ q (oY hm).2.1 hq
    have:=(hs.rY (oY hm).2.1).2
    omega) (fun lB m hm=>by
    rw [hk] at hm
    obtain ⟨h1,h2,h3⟩:=oY hm
    have hu:=hs.up m h1 h2
    have:=Is l ht hs hb d m x.w (mA (cn l n w h)) (bN l n).bZ h2 (by omega)
    rw [Eu hm,lB] at this
    exact this)
   rw [hk] at vq
   exact vq
end Go.aL

namespace Go.aL
open Go
theorem Qd:aU Go.Proofs.Tryz.prog 20 60 (fc Go.Proofs.Tryz.prog 20 60 [(.c 10 25 true),(.t 11)]) [(.c 10 25 true),(.t 11)]:=bl (by kernel_rfl)
theorem QB:aU Go.Proofs.Tryz.prog 15 35 (fc Go.Proofs.Tryz.prog 15 35 [(.t 10),(.t 11)]) [(.t 10),(.t 11)]:=bl (by kernel_rfl)
theorem QA:aU Go.Proofs.Tryz.prog 43 15 (fc Go.Proofs.Tryz.prog 43 15 [(.t 2)]) [(.t 2)]:=bl (by kernel_rfl)
def CU (al ot:Bool):Ed:=⟨⟨⟨false,0⟩,⟨false,0⟩,⟨false,0⟩,⟨false,0⟩⟩,⟨⟨false,0⟩,⟨false,0⟩,⟨false,0⟩,⟨false,0⟩⟩,⟨0,0,0,0⟩,⟨false,0⟩,0,0,al,false,ot,false⟩
def oA (l:List Nd) (n:Int) (ks:List Nat) (w:Int) (h:Sz) (ot:Bool):Option La×Bool:=kT (fun m=>mS l (l.length+1) m w h (bN l n).bZ) ks (iL w h) ot false
theorem Fy (l:List Nd) (n:Int) (ks:List Nat) (w:Int) (h:Sz) (ot:Bool) (hm:iL w h=false):oA l n ks w h ot=(none,false):=by simp [oA,kT,hm]
theorem vW {l:List Nd} (hs:gF l) {n:Int} {m:Nat} (h:m∈bw l n):m<l.length:=(LC hs h).2
theorem Uq (l:List Nd) (hs:gF l) (hb:l.length≤900) (n w:Int) (h:Sz) (al ot:Bool) (more:Int) (ks:List Nat) (hks:(more<0∧ks=bw l n)∨∃ x:Nat,x<l.length∧more=x∧ks=jK (bw l n) x) :
 aK Go.Proofs.Tryz.prog 49 [.rv (cv l),.rv (.int .i64 n),.rv (.int .i64 w),h.sv,(CU al ot).sv,.rv (.int .i64 more)] [] [] (.aO [.agg ((bH (oA l n ks w h ot).1).map .rv),.rv (.bool (oA l n ks w h ot).2)]):=by
 have fl:=va l n
 have hm:∀ m∈ks,m<l.length:=fun m hm=>by
  rcases hks with ⟨_,rfl⟩ | ⟨x,hx,_,rfl⟩
  ·exact vW hs hm
  ·rcases vO.1 hm with rfl | hm
   ·exact hx
   ·exact vW hs hm
 refine Ik l (by omega) n w h (CU al ot) (fun m=>mS l (l.length+1) m w h (bN l n).bZ) more ks ?_ ?_ (fun m hk q hq=>?_) (fun _ m hk=>?_)
 ·rcases hks with h1 | ⟨x,_,h1,h2⟩
  ·exact .inl h1
  ·exact .inr ⟨x,h1,h2⟩
 ·rcases hks with ⟨_,rfl⟩ | ⟨x,hx,_,rfl⟩
  ·omega
  ·rw [yU];omega
 ·have:=tw hs _ m _ _ _ q (hm m hk) hq
  have:=(hs.rY (hm m hk)).2
  omega
 ·exact Ih l hs (by omega) (l.length+1) m w h _ (hm m hk) (by omega)
def Wq (l:List Nd) (n w:Int) (h:Sz):Option La×Bool:=if jO l n=true then oA l n (bw l n) w h false else (none,false)
def vg (n:Int) (t:La):Option Fm:=(t.L.find? fun q=>((q.1:Int) == n)).map (·.2)
def wT (n:Int) (r:Option La×Bool):Option Fm:=if r.2=true then r.1.bind (vg n) else none
def mJ (l:List Nd) (n:Int) (w:Int) (h:Sz) (op:Bool):Option Fm:=if jO l n=true then wT n (oA l (lT l n) (jK (bw l (lT l n)) n.toNat) w h op) else none
theorem Hg (q:Nat×Fm):(kf q)[0]?=some (.int .i64 q.1):=rfl
theorem Hh (q:Nat×Fm):((kf q).map SV.rv)[0]?=some (.rv (.int .i64 q.1)):=rfl
theorem Hi (q:Nat×Fm):(((kf q).map SV.rv).drop 1).take 25=q.2.cells.map SV.rv:=rfl
theorem Hj (q:Nat×Fm):((kf q).drop 1).take 25=q.2.cells:=rfl
theorem Hl (q:Nat×Fm):(kf q).take 26=kf q:=rfl
theorem Ho (q:Nat×Fm):((kf q).map SV.rv).take 26=(kf q).map SV.rv:=rfl
theorem Hq (q:Nat×Fm):((kf q).map SV.rv).drop 26=[]:=rfl
theorem Hr (q:Nat×Fm):(kf q).length=26:=rfl
theorem Hs {L:List (Nat×Fm)} {i:Nat} (h:i<L.length):(gT L)[i]?.getD []=kf (L[i]'h):=by simp [gT,h]
theorem GU {l:List Nd} {n:Int} (h:jO l n=true):∃ k:Nat,n=k∧0<k∧k<l.length:=by
 simp -implicitDefEqProofs only [jO,iE,Bool.and_eq_true,decide_eq_true_eq] at h
 obtain ⟨k,rfl,hk⟩:=qi h.1.1.1
 exact ⟨k,rfl,by omega,hk⟩
theorem Fx {l:List Nd} (hs:gF l) {n:Int} {ks:List Nat} {w:Int} {h:Sz} {ot:Bool} {t:La} (hk:∀ m∈ks,m<l.length) (ht:(oA l n ks w h ot).1=some t):t.L.length≤ks.length*(l.length+1)∧t.ys.length≤ks.length:=by
 obtain ⟨rs,q,h1,h2,rfl⟩:=FB ht
 have hr:=Cs (g:=fun _=>l.length+1) h1 (fun m hm z hz=>by
  have:=tw hs _ m _ _ _ z (hk m hm) hz
  have:=(hs.rY (hk m hm)).2
  show _≤l.length+1
  omega)
 have hrl:rs.length=ks.length:=by
  clear h2 hr ht
  induction ks generalizing rs with
  | nil=>cases h1;rfl
  | cons m ks ih=>
    rw [kg] at h1
    split at h1
    ·rw [Option.map_eq_some_iff] at h1
     obtain ⟨rs',h3,rfl⟩:=h1
     simp [ih (fun m hm=>hk m (.tail _ hm)) rs' h3]
    ·cases h1
 have mC:=zL h2
 have hc:(gH rs).length=rs.length:=by simp [gH]
 simp -implicitDefEqProofs only [List.length_nil,Nat.zero_add,hc] at mC
 refine ⟨?_,by show q.2.length≤_;omega⟩
 show (jf rs q.2).length≤_
 rw [qo]
 have:(List.map (fun _=>l.length+1) ks).sum=ks.length*(l.length+1):=by
  clear hr hrl h1 ht hk
  induction ks with
  | nil=>simp
  | cons a ks ih=>simp [Nat.add_mul];omega
 omega
theorem Uc (l:List Nd) (hs:gF l) (hb:l.length≤900) (n w:Int) (h:Sz) (op:Bool):aK Go.Proofs.Tryz.prog 20 [.rv (cv l),.rv (.int .i64 n),.rv (.int .i64 w),h.sv,.rv (.bool op)] [] [] (.aO [.agg ((bR (mJ l n w h op)).map .rv),.rv (.bool (mJ l n w h op).isSome)]):=by
 refine bu Qd [.rv (cv l),.rv (.int .i64 n),.rv (.int .i64 w),h.sv,.rv (.bool op)] _ (by simp) (by simp [aP,aY,bq,aW,bk,aC.sv,Ln.sv,Nd.sv]) (fun K hK=>?_)
 have ho:=Ic l n
 have hw:=Ij w h
 have hpa:=TX l n
 unfold mJ at hK
 cases hout:jO l n with
 | false=>
   rw [hout] at ho
   simp -implicitDefEqProofs only [hout,Bool.false_eq_true,if_false] at hK
   conv in fc _ _ _ _=>reduce
   simp -implicitDefEqProofs only [Sz.sv,Sz.cells,go_sem,Int.reduceNegSucc] at hw ⊢
   have bL:=ho;repeat' (first | (simp -implicitDefEqProofs only [go_sem,Int.reduceNegSucc]) | (with_reducible refine aA ?_) | (with_reducible first | refine ag bL ?_ | refine ah bL ?_) | ((first | refine ai (fun hg=>?_) (fun hg=>?_) | refine ax (fun hg=>?_) (fun hg=>?_) | refine ay (fun hg=>?_) (fun hg=>?_)) <;> try simp -implicitDefEqProofs only [hg,Bool.not_true,Bool.not_false]) | ((with_reducible apply And.intro);focus (first | trivial | omega | decide | (simp -implicitDefEqProofs only [maxLen];omega) | (simp [maxLen,af,ak,an,av,aj,au,aq] <;> omega))) | fail)
   all_goals (refine (hK _ _ ?_).2;clear hK;simp -implicitDefEqProofs only [go_sem,Int.reduceNegSucc,aQ,aS,aX,bn,aI,aG,aF,bR] <;>(try simp_all [-Int.not_lt,-Int.not_le,aI,aG,aF,bA,bR]) <;> try omega)
 | true=>
   rw [hout] at ho
   simp -implicitDefEqProofs only [hout,if_true] at hK
   cases lB:iL w h with
   | false=>
     rw [lB] at hw
     rw [Fy l _ _ w h _ lB] at hK
     simp -implicitDefEqProofs only [wT,Bool.false_eq_true,if_false] at hK
     conv in fc _ _ _ _=>reduce
     simp -implicitDefEqProofs only [Sz.sv,Sz.cells,go_sem,Int.reduceNegSucc] at hw ⊢
     have bO:=ho;have cl:=hw;repeat' (first | (simp -implicitDefEqProofs only [go_sem,Int.reduceNegSucc]) | (with_reducible refine aA ?_) | (with_reducible first | refine ag bO ?_ | refine ah bO ?_) | (with_reducible first | refine ag cl ?_ | refine ah cl ?_) | ((first | refine ai (fun hg=>?_) (fun hg=>?_) | refine ax (fun hg=>?_) (fun hg=>?_) | refine ay (fun hg=>?_) (fun hg=>?_)) <;> try simp -implicitDefEqProofs only [hg,Bool.not_true,Bool.not_false]) | ((with_reducible apply And.intro);focus (first | trivial | omega | decide | (simp -implicitDefEqProofs only [maxLen];omega) | (simp [maxLen,af,ak,an,av,aj,au,aq] <;> omega))) | fail)
     all_goals (refine (hK _ _ ?_).2;clear hK;simp -implicitDefEqProofs only [go_sem,Int.reduceNegSucc,aQ,aS,aX,bn,aI,aG,aF,bR] <;>(try simp_all [-Int.not_lt,-Int.not_le,aI,aG,aF,bA,bR]) <;> try omega)
   | true=>
     rw [lB] at hw
     obtain ⟨k,rfl,k0,kl⟩:=GU hout
     rw [Int.toNat_natCast] at hK
     have hin:=Uq l hs hb (lT l k) w h (!op) op k (jK (bw l (lT l k)) k) (.inr ⟨k,kl,rfl,rfl⟩)
     have hlen:=fun t=>@Fx l hs (lT l k) (jK (bw l (lT l k)) k) w h op t (fun m hm=>by
      rcases vO.1 hm with rfl | hm
      ·exact kl
      ·exact vW hs hm)
     have hks:(jK (bw l (lT l k)) k).length≤901:=by rw [yU];have:=va l (lT l k);omega
     generalize jK (bw l (lT l k)) k=ks at *
     generalize oA l (lT l k) ks w h op=r at *
     obtain ⟨r1,r2⟩:=r
     unfold wT at hK
     dsimp at hin hK hlen
     conv in fc _ _ _ _=>reduce
     simp -implicitDefEqProofs only [Sz.sv,Sz.cells,Ed.sv,Ed.cells,CU,Q4.gZ,Q4.ints,List.map_cons,List.map_nil,List.cons_append,List.nil_append,go_sem,Int.reduceNegSucc] at hw hin ⊢
     cases r2 with
     | false=>
       simp -implicitDefEqProofs only [Bool.false_eq_true,if_false] at hK
       obtain ⟨u,hu,lN⟩:∃ u,bH r1=u∧u.length=9:=⟨_,rfl,by cases r1 <;> rfl⟩
       rw [hu] at hin
       have v1:(u.map SV.rv).drop 9=[]:=List.drop_of_length_le (by simp [lN])
       have v2:(u.map SV.rv).take 9=u.map SV.rv:=List.take_of_length_le (by simp [lN])
       have cr:=ho;have fU:=hw;have gx:=hpa;have gO:=hin;repeat' (first | (simp -implicitDefEqProofs only [go_sem,Int.reduceNegSucc,lN,v1,v2,List.length_map,List.append_nil]) | (with_reducible refine aA ?_) | (with_reducible first | refine ag cr ?_ | refine ah cr ?_) | (with_reducible first | refine ag fU ?_ | refine ah fU ?_) | (with_reducible first | refine ag gx ?_ | refine ah gx ?_) | (with_reducible first | refine ag gO ?_ | refine ah gO ?_) | ((first | refine ai (fun hg=>?_) (fun hg=>?_) | refine ax (fun hg=>?_) (fun hg=>?_) | refine ay (fun hg=>?_) (fun hg=>?_)) <;> try simp -implicitDefEqProofs only [hg,Bool.not_true,Bool.not_false]) | ((with_reducible apply And.intro);focus (first | trivial | omega | decide | (simp -implicitDefEqProofs only [maxLen];omega) | (simp [maxLen,af,ak,an,av,aj,au,aq] <;> omega))) | fail)
       all_goals (refine (hK _ _ ?_).2;clear hK;simp -implicitDefEqProofs only [go_sem,Int.reduceNegSucc,aQ,aS,aX,bn,aI,aG,aF,bR] <;>(try simp_all [-Int.not_lt,-Int.not_le,aI,aG,aF,bA,bR]) <;> try omega)
     | true=>
       cases r1 with
       | none=>
         simp -implicitDefEqProofs only [if_true,Option.bind] at hK
         simp -implicitDefEqProofs only [bH,List.map_cons,List.map_nil] at hin
         have gP:=ho;have gQ:=hw;have ir:=hpa;have iu:=hin;repeat' (first | (simp -implicitDefEqProofs only [go_sem,Int.reduceNegSucc]) | (with_reducible refine aA ?_) | (with_reducible first | refine ag gP ?_ | refine ah gP ?_) | (with_reducible first | refine ag gQ ?_ | refine ah gQ ?_) | (with_reducible first | refine ag ir ?_ | refine ah ir ?_) | (with_reducible first | refine ag iu ?_ | refine ah iu ?_) | ((first | refine ai (fun hg=>?_) (fun hg=>?_) | refine ax (fun hg=>?_) (fun hg=>?_) | refine ay (fun hg=>?_) (fun hg=>?_)) <;> try simp -implicitDefEqProofs only [hg,Bool.not_true,Bool.not_false]) | ((with_reducible apply And.intro);focus (first | trivial | omega | decide | (simp -implicitDefEqProofs only [maxLen];omega) | (simp [maxLen,af,ak,an,av,aj,au,aq] <;> omega))) | fail)
         refine jX 1 ?_
         repeat' (first | (simp -implicitDefEqProofs only [go_sem,Int.reduceNegSucc,kj,kk,ko,kr,ku,kz,jT,Int.reduceLT,decide_true,decide_false,Int.reduceToNat,Nat.reduceMul]) | (with_reducible refine aA ?_) | (with_reducible show G _ _ (It.l _ _::_) _ _ _;refine jW ?_) | ((first | refine ai (fun hg=>?_) (fun hg=>?_) | refine ax (fun hg=>?_) (fun hg=>?_) | refine ay (fun hg=>?_) (fun hg=>?_)) <;> try simp -implicitDefEqProofs only [hg,Bool.not_true,Bool.not_false]) | ((with_reducible apply And.intro);focus (first | trivial | omega | decide | (simp -implicitDefEqProofs only [maxLen];omega) | (simp [maxLen,af,ak,an,av,aj,au,aq] <;> omega))) | fail)
         all_goals (refine (hK _ _ ?_).2;clear hK;simp -implicitDefEqProofs only [go_sem,Int.reduceNegSucc,aQ,aS,aX,bn,aI,aG,aF,bR] <;>(try simp_all [-Int.not_lt,-Int.not_le,aI,aG,aF,bA,bR]) <;> try omega)
       | some t=>
         have htl:=(hlen t rfl).1
         have NQ:t.L.length≤1000000:=by
          have:ks.length*(l.length+1)≤901*901:=Nat.mul_le_mul hks (by omega)
          omega
         simp -implicitDefEqProofs only [if_true,Option.bind] at hK
         simp -implicitDefEqProofs only [bH,Pl.cells,List.map_cons,List.map_nil,List.cons_append,List.nil_append] at hin
         have gd:=mE t.L
         have iw:=ho;have jh:=hw;have ji:=hpa;have jQ:=hin;repeat' (first | (simp -implicitDefEqProofs only [go_sem,Int.reduceNegSucc,gd]) | (with_reducible refine aA ?_) | (with_reducible first | refine ag iw ?_ | refine ah iw ?_) | (with_reducible first | refine ag jh ?_ | refine ah jh ?_) | (with_reducible first | refine ag ji ?_ | refine ah ji ?_) | (with_reducible first | refine ag jQ ?_ | refine ah jQ ?_) | ((first | refine ai (fun hg=>?_) (fun hg=>?_) | refine ax (fun hg=>?_) (fun hg=>?_) | refine ay (fun hg=>?_) (fun hg=>?_)) <;> try simp -implicitDefEqProofs only [hg,Bool.not_true,Bool.not_false]) | ((with_reducible apply And.intro);focus (first | trivial | omega | decide | (simp -implicitDefEqProofs only [maxLen];omega) | (simp [maxLen,af,ak,an,av,aj,au,aq] <;> omega))) | fail)
         refine fH (ι:=Nat) (fun i=>[(48,.rv (.int .i64 i)),(47,.rv (.int .i64 t.L.length)),(46,.rv (.sl 26 (gT t.L))),(1,.rv (.int .i64 k)),(10,.ptr 1 0)])
          (fun _=>[some (.var (h.cells.map .rv)),some (.var ((bR none).map .rv)),some (.var ((bH (some t)).map .rv))]) (fun i=>i≤t.L.length∧(t.L.find? fun q=>((q.1:Int) ==(k:Int)))=(t.L.drop i).find? fun q=>((q.1:Int) ==(k:Int))) (fun i=>t.L.length - i) 0 ⟨Nat.zero_le _,rfl⟩ (bg (by simp [lk])) (fun i hi K' hN hX hR=>?_)
         obtain ⟨hi,jy⟩:=hi
         simp -implicitDefEqProofs only [bH,bR,Pl.cells,Sz.cells,go_sem,Int.reduceNegSucc]
         refine ai (fun hg=>?_) (fun hg=>?_)
         ·have hi4:i<t.L.length:=by simp at hg;omega
          have wu:=fB (k:=i) (by omega)
          have y1:=Hs hi4
          rw [List.drop_eq_getElem_cons hi4,List.find?_cons] at jy
          generalize t.L[i]=q at *
          have z0:=Hg q
          have z1:=Hh q
          have z2:=Hi q
          have z3:=Hj q
          have z4:=Hl q
          have z5:=Ho q
          have z6:=Hq q
          have z7:=Hr q
          have z8:=tN q.2
          cases hq:((q.1:Int) ==(k:Int)) with
          | true=>
            rw [hq] at jy
            dsimp at jy
            simp -implicitDefEqProofs only [vg,jy,Option.map,Option.isSome] at hK
            repeat' (first | (simp -implicitDefEqProofs only [go_sem,Int.reduceNegSucc,y1,z0,z1,z2,z3,z4,z5,z6,z7,z8,gd,hq,List.length_map,List.append_nil,List.length_drop]) | (with_reducible refine aA ?_) | ((first | refine ai (fun hg=>?_) (fun hg=>?_) | refine ax (fun hg=>?_) (fun hg=>?_) | refine ay (fun hg=>?_) (fun hg=>?_)) <;> try simp -implicitDefEqProofs only [hg,Bool.not_true,Bool.not_false]) | ((with_reducible apply And.intro);focus (first | trivial | omega | decide | (simp -implicitDefEqProofs only [maxLen];omega) | (simp [maxLen,af,ak,an,av,aj,au,aq] <;> omega) | (omega;done))) | fail)
            refine hR _ _ (hK _ _ ?_).2
            simp -implicitDefEqProofs only [go_sem,Int.reduceNegSucc,aQ,aS,aX,bn,aI,aG,aF,fX,bR,z8,List.length_map,tO,ym]
          | false=>
            rw [hq] at jy
            dsimp at jy
            repeat' (first | (simp -implicitDefEqProofs only [go_sem,Int.reduceNegSucc,y1,z0,z1,z2,z3,z4,z5,z6,z7,z8,gd,hq,wu,List.length_map,List.append_nil,List.length_drop]) | (with_reducible refine aA ?_) | ((first | refine ai (fun hg=>?_) (fun hg=>?_) | refine ax (fun hg=>?_) (fun hg=>?_) | refine ay (fun hg=>?_) (fun hg=>?_)) <;> try simp -implicitDefEqProofs only [hg,Bool.not_true,Bool.not_false]) | ((with_reducible apply And.intro);focus (first | trivial | omega | decide | (simp -implicitDefEqProofs only [maxLen];omega) | (simp [maxLen,af,ak,an,av,aj,au,aq] <;> omega) | (omega;done))) | fail)
            exact hN (i+1) _ _ ⟨by omega,jy⟩ (by omega) (ny (h':=[some (.var (h.cells.map .rv)),some (.var ((bR none).map .rv)),some (.var ((bH (some t)).map .rv))]) (Nat.zero_le _) ⟨jw,jw,jw,trivial⟩ (by simp [hJ,lk,jE,lJ]))
         ·have hi4:i=t.L.length:=by simp at hg;omega
          subst hi4
          rw [List.drop_length,List.find?_nil] at jy
          simp -implicitDefEqProofs only [vg,jy,Option.map,Option.isSome] at hK
          simp -implicitDefEqProofs only [go_sem,Int.reduceNegSucc]
          refine hX _ _ _ ?_
          repeat' (first | (simp -implicitDefEqProofs only [go_sem,Int.reduceNegSucc]) | (with_reducible refine aA ?_) | ((first | refine ai (fun hg=>?_) (fun hg=>?_) | refine ax (fun hg=>?_) (fun hg=>?_) | refine ay (fun hg=>?_) (fun hg=>?_)) <;> try simp -implicitDefEqProofs only [hg,Bool.not_true,Bool.not_false]) | ((with_reducible apply And.intro);focus (first | trivial | omega | decide | (simp -implicitDefEqProofs only [maxLen];omega) | (simp [maxLen,af,ak,an,av,aj,au,aq] <;> omega))) | fail)
          all_goals (refine (hK _ _ ?_).2;clear hK;simp -implicitDefEqProofs only [go_sem,Int.reduceNegSucc,aQ,aS,aX,bn,aI,aG,aF,bR] <;>(try simp_all [-Int.not_lt,-Int.not_le,aI,aG,aF,bA,bR]) <;> try omega)
def IM (r:Option Fm):List Int:=match r with
 | some f=>[f.y,IntKind.i64.wrap (0 - f.bC.a)]
 | none=>[]
def CP (r:Option Fm):Int:=match r with
 | some f=>ct (IM (some f))
 | none=>0
def CO (r:Option Fm):Bool:=match r with
 | some f=>fS (IM (some f))
 | none=>false
theorem Ez (f:Fm):(f.cells.map SV.rv)[1]?=some (.rv (.int .i64 f.y)):=rfl
theorem Ey (f:Fm):(f.cells.map SV.rv)[4]?=some (.rv (.int .i64 f.bC.a)):=rfl
theorem Ig (l:List Nd) (hs:gF l) (hb:l.length≤900) (n w:Int) (h:Sz) (op:Bool):aK Go.Proofs.Tryz.prog 15 [.rv (cv l),.rv (.int .i64 n),.rv (.int .i64 w),h.sv,.rv (.bool op)] [] [] (.aO [.rv (.int .i64 (CP (mJ l n w h op))),.rv (.bool (CO (mJ l n w h op)))]):=by
 refine bu QB [.rv (cv l),.rv (.int .i64 n),.rv (.int .i64 w),h.sv,.rv (.bool op)] _ (by simp) (by simp [aP,aY,bq,aW,bk,aC.sv,Ln.sv,Nd.sv]) (fun K hK=>?_)
 have hw:=Uc l hs hb n w h op
 conv in fc _ _ _ _=>reduce
 simp -implicitDefEqProofs only [Sz.sv,Sz.cells,go_sem,Int.reduceNegSucc] at hw ⊢
 cases hr:mJ l n w h op with
 | none=>
   rw [hr] at hw hK
   simp -implicitDefEqProofs only [bR,Option.isSome,List.map_cons,List.map_nil] at hw
   have mL:=hw;repeat' (first | (simp -implicitDefEqProofs only [go_sem,Int.reduceNegSucc]) | (with_reducible refine aA ?_) | (with_reducible first | refine ag mL ?_ | refine ah mL ?_) | ((first | refine ai (fun hg=>?_) (fun hg=>?_) | refine ax (fun hg=>?_) (fun hg=>?_) | refine ay (fun hg=>?_) (fun hg=>?_)) <;> try simp -implicitDefEqProofs only [hg,Bool.not_true,Bool.not_false]) | ((with_reducible apply And.intro);focus (first | trivial | omega | decide | (simp -implicitDefEqProofs only [maxLen];omega) | (simp [maxLen,af,ak,an,av,aj,au,aq] <;> omega))) | fail)
   refine (hK _ _ (gj ?_ ?_)).2 <;> rfl
 | some f=>
   rw [hr] at hw hK
   simp -implicitDefEqProofs only [bR,Option.isSome] at hw
   have z1:=tO f
   have z2:=yl f
   have z3:=tN f
   have z4:=Ez f
   have z5:=Ey f
   have hs:=fun id=>sZ id [f.y,IntKind.i64.wrap (0 - f.bC.a)] (by simp)
   simp -implicitDefEqProofs only [kS,List.map_cons,List.map_nil,List.length_cons,List.length_nil,Nat.reduceAdd] at hs
   have mM:=hw;have oO:=hs;repeat' (first | (simp -implicitDefEqProofs only [go_sem,Int.reduceNegSucc,z1,z2,z3,z4,z5,List.length_map,List.append_nil]) | (with_reducible refine aA ?_) | (with_reducible first | refine ag mM ?_ | refine ah mM ?_) | ((first | refine bQ (oO _) ?_ ?_ ?_ | refine bV (oO _) ?_ ?_ ?_ | fail);(focus (simp [aT,aB] <;> fail));(focus (simp [aZ,aR] <;> fail))) | ((first | refine ai (fun hg=>?_) (fun hg=>?_) | refine ax (fun hg=>?_) (fun hg=>?_) | refine ay (fun hg=>?_) (fun hg=>?_)) <;> try simp -implicitDefEqProofs only [hg,Bool.not_true,Bool.not_false]) | ((with_reducible apply And.intro);focus (first | trivial | omega | decide | (simp -implicitDefEqProofs only [maxLen];omega) | (simp [maxLen,af,ak,an,av,aj,au,aq] <;> omega))) | fail)
   refine (hK _ _ (gj ?_ ?_)).2 <;> rfl
def xx (s:aC):Bool:=(s.off.a.kind == 0) && (s.off.c.kind == 0)
theorem TC (s:aC):aK Go.Proofs.Tryz.prog 43 [s.sv] [] [] (.rv (.bool (xx s))):=by
 refine bu QA [s.sv] _ (by simp) (by simp [aP,aY,bq,aW,bk,aC.sv,Ln.sv,Nd.sv]) (fun K hK=>?_)
 conv in fc _ _ _ _=>reduce
 simp -implicitDefEqProofs only [go_sem,Int.reduceNegSucc]
 repeat' (first | (simp -implicitDefEqProofs only [go_sem,Int.reduceNegSucc,cC,dX,cD,dY,cO,ez,cZ,eL,dx,eX,dH,fo,dI,fq,dJ,fu,dK,fy,dL,fA,cE,dZ,cF,ec,cG,ee,cH,eg,cI,ek,cJ,ep,cK,er,cL,eu,cM,ew,cN,ey,cP,eA,cQ,eC,cR,eD,cS,eE,cT,eF,cU,eG,cV,eH,cW,eI,cX,eJ,cY,eK,dc,eM,de,eN,dg,eO,dh,eP,di,eR,dj,eS,dm,eT,dn,eU,dr,eV,dw,eW,dy,eY,dz,eZ,cA,fe,dA,ff,dB,fh,dD,fj,dF,fk,dG,fm,dR,dM,dN,dO,dP,dQ,dS,dU,dV,dW,cB,cz,af,Q4.oG,Ln.cells]) | (with_reducible refine aA ?_) | ((first | refine ai (fun hg=>?_) (fun hg=>?_) | refine ax (fun hg=>?_) (fun hg=>?_) | refine ay (fun hg=>?_) (fun hg=>?_)) <;> try simp -implicitDefEqProofs only [hg,Bool.not_true,Bool.not_false]) | ((with_reducible apply And.intro);focus (first | trivial | omega | decide | (simp -implicitDefEqProofs only [maxLen];omega) | (simp [maxLen,af,ak,an,av,aj,au,aq] <;> omega))) | fail)
 all_goals (refine (hK _ _ ?_).2;clear hK;simp -implicitDefEqProofs only [go_sem,Int.reduceNegSucc,aQ,aS,aX,bn,aI,aG,aF,xx] <;>(try simp_all [-Int.not_lt,-Int.not_le,aI,aG,aF,bA,xx]) <;> try omega)
end Go.aL

namespace Go.aL
open Go
theorem PS:aU Go.Proofs.Tryz.prog 21 65 (fc Go.Proofs.Tryz.prog 21 65 [(.c 10 25 true),(.t 11)]) [(.c 10 25 true),(.t 11)]:=bl (by kernel_rfl)
theorem PW:aU Go.Proofs.Tryz.prog 16 35 (fc Go.Proofs.Tryz.prog 16 35 [(.t 10),(.t 11)]) [(.t 10),(.t 11)]:=bl (by kernel_rfl)
theorem HA:∀ {a b:List Nat},a.Pairwise (·< ·)→b.Pairwise (·< ·)→(∀ x,x∈a↔x∈b)→a=b
 | [],[],_,_,_=>rfl
 | [],y::b,_,_,h=>by have:=(h y).2 (.head _);simp at this
 | x::a,[],_,_,h=>by have:=(h x).1 (.head _);simp at this
 | x::a,y::b,ha,hb,h=>by
   rw [List.pairwise_cons] at ha hb
   have hxy:x=y:=by
    rcases List.mem_cons.1 ((h x).1 (.head _)) with e | e
    ·exact e
    ·rcases List.mem_cons.1 ((h y).2 (.head _)) with e2 | e2
     ·exact e2.symm
     ·have:=ha.1 y e2;have:=hb.1 x e;omega
   subst hxy
   congr 1
   refine HA ha.2 hb.2 fun z=>?_
   constructor
   ·intro hz
    rcases List.mem_cons.1 ((h z).1 (.tail _ hz)) with e | e
    ·have:=ha.1 z hz;omega
    ·exact e
   ·intro hz
    rcases List.mem_cons.1 ((h z).2 (.tail _ hz)) with e | e
    ·have:=hb.1 z hz;omega
    ·exact e
theorem DL (x:Nat):∀ {ks:List Nat},ks.Pairwise (·< ·)→ks.take (jV ks x)=ks.filter (fun y=>decide (y<x))∧ks.drop (jV ks x)=ks.filter fun y=>!decide (y<x)
 | [],_=>⟨rfl,rfl⟩
 | y::ks,h=>by
   rw [List.pairwise_cons] at h
   obtain ⟨h1,h2⟩:=DL x h.2
   by_cases hy:y<x
   ·have e:jV (y::ks) x=jV ks x+1:=by simp [jV,hy]
    rw [e,List.take_succ_cons,List.drop_succ_cons,List.filter_cons,List.filter_cons,h1,h2]
    simp [hy]
   ·have hn:∀ z∈ks,¬ z<x:=fun z hz=>by have:=h.1 z hz;omega
    have f1:ks.filter (fun y=>decide (y<x))=[]:=List.filter_eq_nil_iff.2 fun z hz=>by simp;have:=hn z hz;omega
    have f2:ks.filter (fun y=>!decide (y<x))=ks:=List.filter_eq_self.2 fun z hz=>by simp;have:=hn z hz;omega
    have e:jV (y::ks) x=0:=by simp [jV,hy,f1]
    rw [e,List.take_zero,List.drop_zero,List.filter_cons,List.filter_cons,f1,f2]
    simp [hy]
theorem Oi {ks:List Nat} {x:Nat} (hp:ks.Pairwise (·< ·)) (hx:x∉ks):(jK ks x).Pairwise (·< ·):=by
 obtain ⟨h1,h2⟩:=DL x hp
 unfold jK
 rw [h1,h2,List.pairwise_append]
 refine ⟨hp.filter _,List.pairwise_cons.2 ⟨fun b hb=>?_,hp.filter _⟩,fun a ha b hb=>?_⟩
 ·obtain ⟨b1,b2⟩:=List.mem_filter.1 hb
  have:¬ b<x:=by simpa using b2
  have:b≠x:=fun e=>hx (e▸b1)
  omega
 ·have:a<x:=by simpa using (List.mem_filter.1 ha).2
  rcases List.mem_cons.1 hb with rfl | hb
  ·exact this
  ·have:¬ b<x:=by simpa using (List.mem_filter.1 hb).2
   omega
theorem Ev {l:List Nd} {p m:Nat} (hp:p<l.length):m∈bw l p↔0<m∧m<l.length∧bz l m=p∧iA l m=true:=by
 unfold bw ic
 rw [if_pos (sK hp),List.mem_filter,Int.toNat_natCast,qV]
 constructor
 ·rintro ⟨⟨a,b,c⟩,d⟩;exact ⟨a,b,c,d⟩
 ·rintro ⟨a,b,c,d⟩;exact ⟨⟨a,b,c⟩,d⟩
theorem Rm {l:List Nd} {k p:Nat} (hp:p<l.length) (hk:k<l.length) (h0:0<k) (hpk:bz l k=p) (ho:jO l k=true):lQ l p k=jK (bw l p) k:=by
 have hnf:k∉bw l p:=fun h=>by
  have:=((Ev hp).1 h).2.2.2
  simp [iA,ho] at this
 refine HA (List.pairwise_lt_range.filter _) (Oi (Er l p) hnf) fun m=>?_
 rw [vO,Ev hp]
 unfold lQ
 rw [List.mem_filter,List.mem_range]
 simp -implicitDefEqProofs only [sV,Bool.and_eq_true,Bool.or_eq_true,decide_eq_true_eq]
 constructor
 ·rintro ⟨a,⟨b,c⟩,d⟩
  rcases d with d | d
  ·exact .inl (by omega)
  ·exact .inr ⟨by omega,a,c,d⟩
 ·rintro (rfl | ⟨a,b,c,d⟩)
  ·exact ⟨hk,⟨by omega,hpk⟩,.inl rfl⟩
  ·exact ⟨b,⟨by omega,c⟩,.inr d⟩
theorem SF {l:List Nd} {n:Int} (h:jO l n=true):iE l n=true:=by
 simp -implicitDefEqProofs only [jO,Bool.and_eq_true] at h;exact h.1.1
theorem UY (l:List Nd) (ht:fT l=true) (hs:gF l) (hb:l.length≤900) (n:Nat) (hn:n<l.length) (w:Int) (h:Sz) (ot:Bool) (more:Int) (ks:List Nat) (hks:lQ l n more=ks) (hm:∀ m∈ks,iE l m=true∧m<l.length) :
 aK Go.Proofs.Tryz.prog 18 [.rv (.sl 49 (br l)),.rv (.int .i64 n),.rv (.int .i64 more),.rv (.int .i64 w),h.sv,.rv (.bool ot),.rv (.bool false)] [] [] (.aO [.agg ((bH (oA l n ks w h ot).1).map .rv),.rv (.bool (oA l n ks w h ot).2)]):=by
 have:=Ir l ht (by omega) n hn more w h ot false (fun m=>mS l (l.length+1) m w h (bN l n).bZ) (fun m hk q hq=>by
  rw [hks] at hk
  have h1:=tw hs _ m _ _ _ q (hm m hk).2 hq
  have h2:=(hs.rY (hm m hk).2).2
  omega) (fun lB m hk=>by
  rw [hks] at hk
  have hx:=Is l ht hs (by omega) (l.length+1) m w h (bN l n).bZ (hm m hk).2 (by omega)
  rw [(hm m hk).1,lB] at hx
  exact hx)
 rw [hks] at this
 exact this
theorem Va (l:List Nd) (ht:fT l=true) (hs:gF l) (hb:l.length≤900) (n w:Int) (h:Sz) (op:Bool):aK Go.Proofs.Tryz.prog 21 [.rv (.sl 49 (br l)),.rv (.int .i64 n),.rv (.int .i64 w),h.sv,.rv (.bool op)] [] [] (.aO [.agg ((bR (mJ l n w h op)).map .rv),.rv (.bool (mJ l n w h op).isSome)]):=by
 refine bu PS [.rv (.sl 49 (br l)),.rv (.int .i64 n),.rv (.int .i64 w),h.sv,.rv (.bool op)] _ (by simp) (by simp [aP,aY,bq,aW,bk,aC.sv,Ln.sv,Nd.sv]) (fun K hK=>?_)
 have ho:=CC l ht n
 have hw:=CF w h
 have nD:=an l
 unfold mJ at hK
 cases hout:jO l n with
 | false=>
   rw [hout] at ho
   simp -implicitDefEqProofs only [hout,Bool.false_eq_true,if_false] at hK
   conv in fc _ _ _ _=>reduce
   simp -implicitDefEqProofs only [Sz.sv,Sz.cells,go_sem,Int.reduceNegSucc] at hw ⊢
   have bf:=ho;repeat' (first | (simp -implicitDefEqProofs only [go_sem,Int.reduceNegSucc]) | (with_reducible refine aA ?_) | (with_reducible first | refine ag bf ?_ | refine ah bf ?_) | ((first | refine ai (fun hg=>?_) (fun hg=>?_) | refine ax (fun hg=>?_) (fun hg=>?_) | refine ay (fun hg=>?_) (fun hg=>?_)) <;> try simp -implicitDefEqProofs only [hg,Bool.not_true,Bool.not_false]) | ((with_reducible apply And.intro);focus (first | trivial | omega | decide | (simp -implicitDefEqProofs only [maxLen];omega) | (simp [maxLen,af,ak,an,av,aj,au,aq] <;> omega))) | fail)
   all_goals (refine (hK _ _ ?_).2;clear hK;simp -implicitDefEqProofs only [go_sem,Int.reduceNegSucc,aQ,aS,aX,bn,aI,aG,aF,bR] <;>(try simp_all [-Int.not_lt,-Int.not_le,aI,aG,aF,bA,bR]) <;> try omega)
 | true=>
   rw [hout] at ho
   simp -implicitDefEqProofs only [hout,if_true] at hK
   cases lB:iL w h with
   | false=>
     rw [lB] at hw
     rw [Fy l _ _ w h _ lB] at hK
     simp -implicitDefEqProofs only [wT,Bool.false_eq_true,if_false] at hK
     conv in fc _ _ _ _=>reduce
     simp -implicitDefEqProofs only [Sz.sv,Sz.cells,go_sem,Int.reduceNegSucc] at hw ⊢
     have y_2:=ho;have bB:=hw;repeat' (first | (simp -implicitDefEqProofs only [go_sem,Int.reduceNegSucc]) | (with_reducible refine aA ?_) | (with_reducible first | refine ag y_2 ?_ | refine ah y_2 ?_) | (with_reducible first | refine ag bB ?_ | refine ah bB ?_) | ((first | refine ai (fun hg=>?_) (fun hg=>?_) | refine ax (fun hg=>?_) (fun hg=>?_) | refine ay (fun hg=>?_) (fun hg=>?_)) <;> try simp -implicitDefEqProofs only [hg,Bool.not_true,Bool.not_false]) | ((with_reducible apply And.intro);focus (first | trivial | omega | decide | (simp -implicitDefEqProofs only [maxLen];omega) | (simp [maxLen,af,ak,an,av,aj,au,aq] <;> omega))) | fail)
     all_goals (refine (hK _ _ ?_).2;clear hK;simp -implicitDefEqProofs only [go_sem,Int.reduceNegSucc,aQ,aS,aX,bn,aI,aG,aF,bR] <;>(try simp_all [-Int.not_lt,-Int.not_le,aI,aG,aF,bA,bR]) <;> try omega)
   | true=>
     rw [lB] at hw
     obtain ⟨k,rfl,k0,kl⟩:=GU hout
     rw [Int.toNat_natCast] at hK
     have hu:=hs.up k k0 kl
     have hx:=iM kl
     have yM:(l[k]'kl).parent=(((bz l k).toNat:Nat):Int):=by rw [lU kl];omega
     have hpa:lT l k=(((bz l k).toNat:Nat):Int):=by unfold lT;rw [if_pos (sK kl),Int.toNat_natCast];omega
     have x1:=ak (l[k]'kl)
     have x2:=kJ (l[k]'kl)
     rw [yM] at x2
     rw [hpa] at hK
     generalize hP:(bz l k).toNat=p at *
     have hpk:bz l k=p:=by omega
     generalize l[k]'kl=nd at *
     have hin:=UY l ht hs hb p (by omega) w h op k (jK (bw l p) k) (Rm (by omega) kl k0 hpk hout) (fun m hm=>by
      rcases vO.1 hm with rfl | hm
      ·exact ⟨SF hout,kl⟩
      ·exact ⟨Eu hm,vW hs hm⟩)
     have hlen:=fun t=>@Fx l hs p (jK (bw l p) k) w h op t (fun m hm=>by
      rcases vO.1 hm with rfl | hm
      ·exact kl
      ·exact vW hs hm)
     have hks:(jK (bw l p) k).length≤901:=by rw [yU];have:=va l p;omega
     generalize jK (bw l p) k=ks at *
     generalize oA l p ks w h op=r at *
     obtain ⟨r1,r2⟩:=r
     unfold wT at hK
     dsimp at hin hK hlen
     conv in fc _ _ _ _=>reduce
     simp -implicitDefEqProofs only [Sz.sv,Sz.cells,go_sem,Int.reduceNegSucc] at hw hin ⊢
     cases r2 with
     | false=>
       simp -implicitDefEqProofs only [Bool.false_eq_true,if_false] at hK
       obtain ⟨u,hu,lN⟩:∃ u,bH r1=u∧u.length=9:=⟨_,rfl,by cases r1 <;> rfl⟩
       rw [hu] at hin
       have v1:(u.map SV.rv).drop 9=[]:=List.drop_of_length_le (by simp [lN])
       have v2:(u.map SV.rv).take 9=u.map SV.rv:=List.take_of_length_le (by simp [lN])
       have bG:=ho;have bI:=hw;have bK:=hin;repeat' (first | (simp -implicitDefEqProofs only [go_sem,Int.reduceNegSucc,nD,hx,x1,x2,lN,v1,v2,List.length_map,List.append_nil,List.length_drop]) | (with_reducible refine aA ?_) | (with_reducible first | refine ag bG ?_ | refine ah bG ?_) | (with_reducible first | refine ag bI ?_ | refine ah bI ?_) | (with_reducible first | refine ag bK ?_ | refine ah bK ?_) | ((first | refine ai (fun hg=>?_) (fun hg=>?_) | refine ax (fun hg=>?_) (fun hg=>?_) | refine ay (fun hg=>?_) (fun hg=>?_)) <;> try simp -implicitDefEqProofs only [hg,Bool.not_true,Bool.not_false]) | ((with_reducible apply And.intro);focus (first | trivial | omega | decide | (simp -implicitDefEqProofs only [maxLen];omega) | (simp [maxLen,af,ak,an,av,aj,au,aq] <;> omega))) | fail)
       all_goals (refine (hK _ _ ?_).2;clear hK;simp -implicitDefEqProofs only [go_sem,Int.reduceNegSucc,aQ,aS,aX,bn,aI,aG,aF,bR] <;>(try simp_all [-Int.not_lt,-Int.not_le,aI,aG,aF,bA,bR]) <;> try omega)
     | true=>
       cases r1 with
       | none=>
         simp -implicitDefEqProofs only [if_true,Option.bind] at hK
         simp -implicitDefEqProofs only [bH,List.map_cons,List.map_nil] at hin
         have bL:=ho;have bO:=hw;have cl:=hin;repeat' (first | (simp -implicitDefEqProofs only [go_sem,Int.reduceNegSucc,nD,hx,x1,x2,List.length_drop]) | (with_reducible refine aA ?_) | (with_reducible first | refine ag bL ?_ | refine ah bL ?_) | (with_reducible first | refine ag bO ?_ | refine ah bO ?_) | (with_reducible first | refine ag cl ?_ | refine ah cl ?_) | ((first | refine ai (fun hg=>?_) (fun hg=>?_) | refine ax (fun hg=>?_) (fun hg=>?_) | refine ay (fun hg=>?_) (fun hg=>?_)) <;> try simp -implicitDefEqProofs only [hg,Bool.not_true,Bool.not_false]) | ((with_reducible apply And.intro);focus (first | trivial | omega | decide | (simp -implicitDefEqProofs only [maxLen];omega) | (simp [maxLen,af,ak,an,av,aj,au,aq] <;> omega))) | fail)
         refine jX 1 ?_
         repeat' (first | (simp -implicitDefEqProofs only [go_sem,Int.reduceNegSucc,kj,kk,ko,kr,ku,kz,jT,Int.reduceLT,decide_true,decide_false,Int.reduceToNat,Nat.reduceMul]) | (with_reducible refine aA ?_) | (with_reducible show G _ _ (It.l _ _::_) _ _ _;refine jW ?_) | ((first | refine ai (fun hg=>?_) (fun hg=>?_) | refine ax (fun hg=>?_) (fun hg=>?_) | refine ay (fun hg=>?_) (fun hg=>?_)) <;> try simp -implicitDefEqProofs only [hg,Bool.not_true,Bool.not_false]) | ((with_reducible apply And.intro);focus (first | trivial | omega | decide | (simp -implicitDefEqProofs only [maxLen];omega) | (simp [maxLen,af,ak,an,av,aj,au,aq] <;> omega))) | fail)
         all_goals (refine (hK _ _ ?_).2;clear hK;simp -implicitDefEqProofs only [go_sem,Int.reduceNegSucc,aQ,aS,aX,bn,aI,aG,aF,bR] <;>(try simp_all [-Int.not_lt,-Int.not_le,aI,aG,aF,bA,bR]) <;> try omega)
       | some t=>
         have htl:=(hlen t rfl).1
         have NQ:t.L.length≤1000000:=by
          have:ks.length*(l.length+1)≤901*901:=Nat.mul_le_mul hks (by omega)
          omega
         simp -implicitDefEqProofs only [if_true,Option.bind] at hK
         simp -implicitDefEqProofs only [bH,Pl.cells,List.map_cons,List.map_nil,List.cons_append,List.nil_append] at hin
         have gd:=mE t.L
         have cr:=ho;have fU:=hw;have gx:=hin;repeat' (first | (simp -implicitDefEqProofs only [go_sem,Int.reduceNegSucc,nD,hx,x1,x2,gd,List.length_drop]) | (with_reducible refine aA ?_) | (with_reducible first | refine ag cr ?_ | refine ah cr ?_) | (with_reducible first | refine ag fU ?_ | refine ah fU ?_) | (with_reducible first | refine ag gx ?_ | refine ah gx ?_) | ((first | refine ai (fun hg=>?_) (fun hg=>?_) | refine ax (fun hg=>?_) (fun hg=>?_) | refine ay (fun hg=>?_) (fun hg=>?_)) <;> try simp -implicitDefEqProofs only [hg,Bool.not_true,Bool.not_false]) | ((with_reducible apply And.intro);focus (first | trivial | omega | decide | (simp -implicitDefEqProofs only [maxLen];omega) | (simp [maxLen,af,ak,an,av,aj,au,aq] <;> omega))) | fail)
         refine fH (ι:=Nat) (fun i=>[(46,.rv (.int .i64 i)),(45,.rv (.int .i64 t.L.length)),(12,.ptr 2 0),(1,.rv (.int .i64 k)),(10,.ptr 1 0)])
          (fun _=>[some (.var (h.cells.map .rv)),some (.var ((bR none).map .rv)),some (.var ((bH (some t)).map .rv))]) (fun i=>i≤t.L.length∧(t.L.find? fun q=>((q.1:Int) ==(k:Int)))=(t.L.drop i).find? fun q=>((q.1:Int) ==(k:Int))) (fun i=>t.L.length - i) 0 ⟨Nat.zero_le _,rfl⟩ (bg (by simp [lk])) (fun i hi K' hN hX hR=>?_)
         obtain ⟨hi,jy⟩:=hi
         simp -implicitDefEqProofs only [bH,bR,Pl.cells,Sz.cells,go_sem,Int.reduceNegSucc]
         refine ai (fun hg=>?_) (fun hg=>?_)
         ·have hi4:i<t.L.length:=by simp at hg;omega
          have wu:=fB (k:=i) (by omega)
          have y1:=Hs hi4
          rw [List.drop_eq_getElem_cons hi4,List.find?_cons] at jy
          generalize t.L[i]=q at *
          have z0:=Hg q
          have z1:=Hh q
          have z2:=Hi q
          have z3:=Hj q
          have z4:=Hl q
          have z5:=Ho q
          have z6:=Hq q
          have z7:=Hr q
          have z8:=tN q.2
          cases hq:((q.1:Int) ==(k:Int)) with
          | true=>
            rw [hq] at jy
            dsimp at jy
            simp -implicitDefEqProofs only [vg,jy,Option.map,Option.isSome] at hK
            repeat' (first | (simp -implicitDefEqProofs only [go_sem,Int.reduceNegSucc,y1,z0,z1,z2,z3,z4,z5,z6,z7,z8,gd,hq,List.length_map,List.append_nil,List.length_drop]) | (with_reducible refine aA ?_) | ((first | refine ai (fun hg=>?_) (fun hg=>?_) | refine ax (fun hg=>?_) (fun hg=>?_) | refine ay (fun hg=>?_) (fun hg=>?_)) <;> try simp -implicitDefEqProofs only [hg,Bool.not_true,Bool.not_false]) | ((with_reducible apply And.intro);focus (first | trivial | omega | decide | (simp -implicitDefEqProofs only [maxLen];omega) | (simp [maxLen,af,ak,an,av,aj,au,aq] <;> omega) | (omega;done))) | fail)
            refine hR _ _ (hK _ _ ?_).2
            simp -implicitDefEqProofs only [go_sem,Int.reduceNegSucc,aQ,aS,aX,bn,aI,aG,aF,fX,bR,z8,List.length_map,tO,ym]
          | false=>
            rw [hq] at jy
            dsimp at jy
            repeat' (first | (simp -implicitDefEqProofs only [go_sem,Int.reduceNegSucc,y1,z0,z1,z2,z3,z4,z5,z6,z7,z8,gd,hq,wu,List.length_map,List.append_nil,List.length_drop]) | (with_reducible refine aA ?_) | ((first | refine ai (fun hg=>?_) (fun hg=>?_) | refine ax (fun hg=>?_) (fun hg=>?_) | refine ay (fun hg=>?_) (fun hg=>?_)) <;> try simp -implicitDefEqProofs only [hg,Bool.not_true,Bool.not_false]) | ((with_reducible apply And.intro);focus (first | trivial | omega | decide | (simp -implicitDefEqProofs only [maxLen];omega) | (simp [maxLen,af,ak,an,av,aj,au,aq] <;> omega) | (omega;done))) | fail)
            exact hN (i+1) _ _ ⟨by omega,jy⟩ (by omega) (bg (by simp [lk]))
         ·have hi4:i=t.L.length:=by simp at hg;omega
          subst hi4
          rw [List.drop_length,List.find?_nil] at jy
          simp -implicitDefEqProofs only [vg,jy,Option.map,Option.isSome] at hK
          simp -implicitDefEqProofs only [go_sem,Int.reduceNegSucc]
          refine hX _ _ _ ?_
          repeat' (first | (simp -implicitDefEqProofs only [go_sem,Int.reduceNegSucc]) | (with_reducible refine aA ?_) | ((first | refine ai (fun hg=>?_) (fun hg=>?_) | refine ax (fun hg=>?_) (fun hg=>?_) | refine ay (fun hg=>?_) (fun hg=>?_)) <;> try simp -implicitDefEqProofs only [hg,Bool.not_true,Bool.not_false]) | ((with_reducible apply And.intro);focus (first | trivial | omega | decide | (simp -implicitDefEqProofs only [maxLen];omega) | (simp [maxLen,af,ak,an,av,aj,au,aq] <;> omega))) | fail)
          all_goals (refine (hK _ _ ?_).2;clear hK;simp -implicitDefEqProofs only [go_sem,Int.reduceNegSucc,aQ,aS,aX,bn,aI,aG,aF,bR] <;>(try simp_all [-Int.not_lt,-Int.not_le,aI,aG,aF,bA,bR]) <;> try omega)
theorem UZ (l:List Nd) (ht:fT l=true) (hs:gF l) (hb:l.length≤900) (n w:Int) (h:Sz) (op:Bool):aK Go.Proofs.Tryz.prog 16 [.rv (.sl 49 (br l)),.rv (.int .i64 n),.rv (.int .i64 w),h.sv,.rv (.bool op)] [] [] (.aO [.rv (.int .i64 (CP (mJ l n w h op))),.rv (.bool (CO (mJ l n w h op)))]):=by
 refine bu PW [.rv (.sl 49 (br l)),.rv (.int .i64 n),.rv (.int .i64 w),h.sv,.rv (.bool op)] _ (by simp) (by simp [aP,aY,bq,aW,bk,aC.sv,Ln.sv,Nd.sv]) (fun K hK=>?_)
 have hw:=Va l ht hs hb n w h op
 conv in fc _ _ _ _=>reduce
 simp -implicitDefEqProofs only [Sz.sv,Sz.cells,go_sem,Int.reduceNegSucc] at hw ⊢
 cases hr:mJ l n w h op with
 | none=>
   rw [hr] at hw hK
   simp -implicitDefEqProofs only [bR,Option.isSome,List.map_cons,List.map_nil] at hw
   have gO:=hw;repeat' (first | (simp -implicitDefEqProofs only [go_sem,Int.reduceNegSucc]) | (with_reducible refine aA ?_) | (with_reducible first | refine ag gO ?_ | refine ah gO ?_) | ((first | refine ai (fun hg=>?_) (fun hg=>?_) | refine ax (fun hg=>?_) (fun hg=>?_) | refine ay (fun hg=>?_) (fun hg=>?_)) <;> try simp -implicitDefEqProofs only [hg,Bool.not_true,Bool.not_false]) | ((with_reducible apply And.intro);focus (first | trivial | omega | decide | (simp -implicitDefEqProofs only [maxLen];omega) | (simp [maxLen,af,ak,an,av,aj,au,aq] <;> omega))) | fail)
   refine (hK _ _ (gj ?_ ?_)).2 <;> rfl
 | some f=>
   rw [hr] at hw hK
   simp -implicitDefEqProofs only [bR,Option.isSome] at hw
   have z1:=tO f
   have z2:=yl f
   have z3:=tN f
   have z4:=Ez f
   have z5:=Ey f
   have hs:=fun id=>ta id [f.y,IntKind.i64.wrap (0 - f.bC.a)] (by simp)
   simp -implicitDefEqProofs only [kS,List.map_cons,List.map_nil,List.length_cons,List.length_nil,Nat.reduceAdd] at hs
   have gP:=hw;have gQ:=hs;repeat' (first | (simp -implicitDefEqProofs only [go_sem,Int.reduceNegSucc,z1,z2,z3,z4,z5,List.length_map,List.append_nil]) | (with_reducible refine aA ?_) | (with_reducible first | refine ag gP ?_ | refine ah gP ?_) | ((first | refine bQ (gQ _) ?_ ?_ ?_ | refine bV (gQ _) ?_ ?_ ?_ | fail);(focus (simp [aT,aB] <;> fail));(focus (simp [aZ,aR] <;> fail))) | ((first | refine ai (fun hg=>?_) (fun hg=>?_) | refine ax (fun hg=>?_) (fun hg=>?_) | refine ay (fun hg=>?_) (fun hg=>?_)) <;> try simp -implicitDefEqProofs only [hg,Bool.not_true,Bool.not_false]) | ((with_reducible apply And.intro);focus (first | trivial | omega | decide | (simp -implicitDefEqProofs only [maxLen];omega) | (simp [maxLen,af,ak,an,av,aj,au,aq] <;> omega))) | fail)
   refine (hK _ _ (gj ?_ ?_)).2 <;> rfl
end Go.aL

namespace Go.aL
open Go
theorem LF (s:aC):∀ r∈s.cells,jt r:=by
 intro r hr
 simp -implicitDefEqProofs only [aC.cells,List.mem_cons,List.not_mem_nil,or_false] at hr
 repeat' rcases hr with rfl | hr
 all_goals first | exact .int _ _ | exact .bool _ | (subst hr;exact .int _ _)
theorem LG (x:Nd):∀ r∈x.cells,jt r:=by
 intro r hr
 rcases List.mem_append.1 hr with hr | hr
 ·exact LF _ r hr
 ·simp at hr;rw [hr];exact .int _ _
theorem LD {e v:Nat} {xs:List (List RV)} (h:∀ x∈xs,∀ r∈x,jt r):oQ (.row e v (aN xs)):=by
 refine .row _ _ _ (fun i x j y hx hy=>?_)
 unfold aN at hx
 rw [List.getElem?_map] at hx
 cases hq:xs[i]? with
 | none=>simp [hq] at hx
 | some z=>
   simp [hq] at hx
   subst hx
   rw [List.getElem?_map] at hy
   cases hr:z[j]? with
   | none=>simp [hr] at hy
   | some r=>simp [hr] at hy;subst hy;exact .rv _ (h z (List.mem_of_getElem? hq) r (List.mem_of_getElem? hr))
theorem TG (l:List Nd) (hb:l.length≤8589934592) (i v m:Nat) (hne:i≠m):aK Go.Proofs.Tryz.prog 27 [.row i v l.length] [(i,.row 49 v (aN (br l)))] [(m,.row 49 1 (aN (br l)))] (.row m 1 l.length):=by
 have h:=HW (br l) m (by rw [an];exact hb)
 rw [an] at h
 refine xI (rs:=[.sl 49 (br l)]) h (fun hp hpre=>⟨?_,trivial⟩) rfl (.row _ _ _) (fun q hq=>?_)
 ·exact oh (hpre _ (.head _)) rfl (by simp [br]) (zg l)
 ·simp at hq;subst hq
  refine ⟨LD fun x hx=>?_,by simpa using hne⟩
  obtain ⟨n,_,rfl⟩:=List.mem_map.1 hx
  exact LG n
theorem BZ (x:Nd):(x.cells.map SV.rv).take 49=x.cells.map SV.rv:=rfl
def iU (l:List Nd) (k:Nat):List (List SV):=(List.range l.length).map fun p=>[.row (p+7) (bE l k p).length (bE l k p).length]
def iK (l:List Nd) (k:Nat):List (Option HB):=(List.range l.length).map fun p=>some (.row 1 (bE l k p).length (aN (aM (bp (bE l k p)))))
theorem vV (l:List Nd) (k:Nat):(iU l k).length=l.length:=by simp [iU]
theorem nG (l:List Nd) (k:Nat):(iK l k).length=l.length:=by simp [iK]
theorem FR {l:List Nd} {k p:Nat} (hp:p<l.length):(iU l k)[p]?.getD []=[.row (p+7) (bE l k p).length (bE l k p).length]:=by simp [iU,hp]
theorem BO {l:List Nd} {k p:Nat} {C:List (Option HB)} (hp:p<l.length):aB (iK l k++C) p=some (.row 1 (bE l k p).length (aN (aM (bp (bE l k p))))):=by
 unfold aB
 rw [List.getElem?_append_left (by rw [nG];exact hp)]
 simp [iK,hp]
theorem BM {l:List Nd} {k:Nat} {x:Option HB} {C:List (Option HB)}:aB (iK l k++x::C) l.length=x:=by
 unfold aB
 rw [List.getElem?_append_right (by rw [nG];exact Nat.le_refl _),nG]
 simp
theorem FN {l:List Nd} {k:Nat} {x y:Option HB} {C:List (Option HB)}:aB (iK l k++x::y::C) (l.length+1)=y:=by
 unfold aB
 rw [List.getElem?_append_right (by rw [nG];omega),nG,show l.length+1 - l.length=1 by omega]
 simp
theorem FP {l:List Nd} {k p:Nat} {hb:Option HB} {x y:Option HB} {C:List (Option HB)}:aB ((iK l k).set p hb++x::C) l.length=x:=by
 unfold aB
 rw [List.getElem?_append_right (by rw [List.length_set,nG];exact Nat.le_refl _),List.length_set,nG]
 simp
theorem BQ {l:List Nd} {k:Nat} {x y:Option HB} {C:List (Option HB)}:(iK l k++x::C).set l.length y=iK l k++y::C:=by
 rw [List.set_append_right _ _ (by rw [nG];exact Nat.le_refl _),nG,Nat.sub_self];rfl
theorem OQ {l:List Nd} {k p:Nat} {y:Option HB} {C:List (Option HB)} (hp:p<l.length):(iK l k++C).set p y=(iK l k).set p y++C:=by
 rw [List.set_append_left _ _ (by rw [nG];exact hp)]
theorem OS (l:List Nd):iK l 0=iQ l.length 1:=by
 refine List.ext_getElem (by simp [iK,iQ]) (fun i h1 h2=>?_)
 simp [iK,iQ,ue,bp,aM,aN]
theorem FU (l:List Nd):iU l 0=iC 7 l.length l.length:=by
 refine List.ext_getElem (by simp [iU,iC]) (fun i h1 h2=>?_)
 simp [iU] at h1
 simp [iU,iC,ue,h1];omega
theorem OO {l:List Nd} {k p:Nat} (h0:0<k) (hp:bz l k=p) (hl:p<l.length) :
 (iK l k).set p (some (.row 1 ((bE l k p).length+1) (aN (aM (bp (bE l k p)++[(k:Int)])))))=iK l (k+1):=by
 refine List.ext_getElem (by simp [iK]) (fun i h1 h2=>?_)
 simp -implicitDefEqProofs only [List.getElem_set,iK,List.getElem_map,List.getElem_range,ud]
 by_cases h:p=i
 ·subst h;simp [h0,hp,bp]
 ·rw [if_neg h,if_neg (by rw [hp];omega)];simp
theorem OX {l:List Nd} {k p:Nat} (h0:0<k) (hp:bz l k=p) (hl:p<l.length) :
 (iU l k).set p [.row (p+7) ((bE l k p).length+1) ((bE l k p).length+1)]=iU l (k+1):=by
 refine List.ext_getElem (by simp [iU]) (fun i h1 h2=>?_)
 simp -implicitDefEqProofs only [List.getElem_set,iU,List.getElem_map,List.getElem_range,ud]
 by_cases h:p=i
 ·subst h;simp [h0,hp]
 ·rw [if_neg h,if_neg (by rw [hp];omega)];simp
theorem OM (l:List Nd):iK l 1=iK l 0:=by
 refine List.ext_getElem (by simp [iK]) (fun i h1 h2=>?_)
 simp [iK,bE,List.range_succ]
theorem OV (l:List Nd):iU l 1=iU l 0:=by
 refine List.ext_getElem (by simp [iU]) (fun i h1 h2=>?_)
 simp [iU,bE,List.range_succ]
def qT (v:Nat) (l:List Nd) (k:Nat) (es ds:List Int) (bs:List Bool):List (Option HB):=some (.row 49 v (aN (br l)))::some (.row 49 1 (aN (br l)))::some (.row 1 0 (iU l k))::some (.row 1 0 (aN (aM es)))::some (.row 1 0 (aN (aM ds)))::some (.row 1 0 (aN (jv bs)))::some (.var [.row 1 1 l.length,.row 2 0 l.length,.row 3 0 l.length,.row 4 0 l.length,.row 5 0 l.length])::iK l k
theorem BI {v:Nat} {l:List Nd} {k:Nat} {es ds:List Int} {bs:List Bool}:(qT v l k es ds bs).length=l.length+7:=by simp [qT,nG]
theorem OK {v:Nat} {l:List Nd} {k:Nat} {es ds:List Int} {bs:List Bool}:lf (mP (l.length+7)) (qT v l k es ds bs):=by
 refine ⟨iP,iP,fun i x hx=>?_,iP,iP,iP,by simp [mP,mO,jx],lf.of fun j x hx=>?_⟩
 ·obtain ⟨hl,rfl⟩:=List.getElem?_eq_some_iff.1 hx
  simp [vV] at hl
  simp [iU,mO,jx,hl]
 ·obtain ⟨hl,rfl⟩:=List.getElem?_eq_some_iff.1 hx
  exact ⟨.row 1 (bE l k j).length (aN (aM (bp (bE l k j)))),by simp [iK],iP⟩
theorem BK {v:Nat} {l:List Nd} {k:Nat} {es ds:List Int} {bs:List Bool} {env env':List (Nat×SV)} {C:List (Option HB)} (he:hJ (l.length+7) env env'):fV 1 ⟨env,qT v l k es ds bs++C⟩ ⟨env',qT v l k es ds bs⟩:=
 ny (by rw [BI];omega) (by rw [BI];exact OK) (by rw [BI];exact he)
theorem Rr (v:Nat) (l:List Nd) {τ:Nat→Option Nat} (lO:∀ j,0<j→τ j=none):Fz τ (aB (qT v l l.length (rZ l) (cj l l.length) (fQ l l.length))) (.ptr 6 0) (cv l):=by
 refine .ptr 6 [.row 1 1 l.length,.row 2 0 l.length,.row 3 0 l.length,.row 4 0 l.length,.row 5 0 l.length] _ (lO _ (by decide)) rfl rfl (fun i r hr=>?_) (fun i x r hx hr=>?_)
 ·match i with
  | 0=>cases hr;rfl
  | 1=>cases hr;rfl
  | 2=>cases hr;rfl
  | 3=>cases hr;rfl
  | 4=>cases hr;rfl
  | i+5=>simp at hr
 ·match i with
  | 0=>cases hx;cases hr;exact oh rfl (lO _ (by decide)) (by simp [br]) (zg l)
  | 1=>
    cases hx;cases hr
    refine .row 2 1 0 l.length (iU l l.length) (lP l) (lO _ (by decide)) rfl (by simp [lP]) (by rw [vV];exact Nat.le_refl _) (fun i x r hx hr=>?_) (fun i r k q hr hq=>?_) (fun i x r k y q hx hr hy hq=>?_)
    ·obtain ⟨_,rfl⟩:=List.getElem?_eq_some_iff.1 hx
     obtain ⟨_,rfl⟩:=List.getElem?_eq_some_iff.1 hr
     simp [iU,lP]
    ·obtain ⟨_,rfl⟩:=List.getElem?_eq_some_iff.1 hr
     have:=List.mem_of_getElem? hq
     simp [lP] at this
     rw [this];rfl
    ·obtain ⟨hl,rfl⟩:=List.getElem?_eq_some_iff.1 hx
     obtain ⟨_,rfl⟩:=List.getElem?_eq_some_iff.1 hr
     rw [vV] at hl
     cases k with
     | succ k=>simp [iU] at hy
     | zero=>
       simp [iU] at hy
       simp [lP] at hq
       subst hy;subst hq
       refine oh (xs:=aM (bp (ie l i))) ?_ (lO _ (by omega)) (by simp [aM,bp,ie]) (kI _)
       have:=BO (k:=l.length) (C:=[]) hl
       rw [List.append_nil] at this
       exact this
  | 2=>cases hx;cases hr;exact oh rfl (lO _ (by decide)) (by simp [aM,rZ]) (kI _)
  | 3=>cases hx;cases hr;exact oh rfl (lO _ (by decide)) (by simp [aM,cj]) (kI _)
  | 4=>cases hx;cases hr;exact oh rfl (lO _ (by decide)) (by simp [jv,fQ]) (Dt _)
  | i+5=>simp at hx
theorem Uv (l:List Nd) (hb:l.length≤8589934592) (hc:kO l=0) (i0 v:Nat):aK Go.Proofs.Tryz.prog 9 [.row i0 v l.length] [(i0,.row 49 v (aN (br l)))] [] (.aO [.rv (cv l),.rv (.int .i64 0)]):=by
 refine mU FW [i0] [.row 49 v (aN (br l))] [.row 49 v (aN (br l))] [.row 0 v l.length] [.row i0 v l.length] _ _ (by simp) (by simp [aP,lu]) rfl (by simp [bW]) ⟨rfl,rfl,⟨rfl,_,rfl⟩,trivial⟩ (fun K hK=>?_)
 have hlen:=an l
 have EL:=Iz l hb
 rw [hc] at EL
 have qJ:=Gh (id:=0) (v:=v) (n:=l.length) (bs:=[]) EL (.int _ _) (by simp [br]) (zg l)
 have ht:fT l=true:=by
  unfold kO at hc
  cases h:fT l with
  | true=>rfl
  | false=>rw [h] at hc;simp at hc
 have hs:gF l:=wG.1 (by unfold fT at ht;simp -implicitDefEqProofs only [Bool.and_eq_true] at ht;exact ht.1)
 have rV:(((0:Int)) != 0)=false:=rfl
 conv in fc _ _ _ _=>reduce
 simp -implicitDefEqProofs only [go_sem,Int.reduceNegSucc]
 have hb2:(br l).length≤8589934592:=by rw [hlen];exact hb
 have bf:=qJ;have y_2:=TG l hb 0 v 1 (by decide);repeat' (first | (simp -implicitDefEqProofs only [go_sem,Int.reduceNegSucc,rV,hlen,zF,HQ]) | (with_reducible refine aA ?_) | (refine bQ bf ?_ ?_ ?_;(focus (simp [aT,aB] <;> fail));(focus (simp [aZ,aR] <;> fail))) | (refine bV bf ?_ ?_ ?_;(focus (simp [aT,aB] <;> fail));(focus (simp [aZ,aR] <;> fail))) | (refine bQ y_2 ?_ ?_ ?_;(focus (simp [aT,aB] <;> fail));(focus (simp [aZ,aR] <;> fail))) | (refine bV y_2 ?_ ?_ ?_;(focus (simp [aT,aB] <;> fail));(focus (simp [aZ,aR] <;> fail))) | ((first | refine ai (fun hg=>?_) (fun hg=>?_) | refine ax (fun hg=>?_) (fun hg=>?_) | refine ay (fun hg=>?_) (fun hg=>?_)) <;> try simp -implicitDefEqProofs only [hg,Bool.not_true,Bool.not_false]) | ((with_reducible apply And.intro);focus (first | trivial | omega | decide | (simp -implicitDefEqProofs only [maxLen];omega) | (simp [maxLen,af,ak,an,av,aj,au,aq] <;> omega))) | fail)
 have NB:∀ n:Nat,iU l 0=iC 7 l.length l.length:=fun _=>FU l
 let ev:Nat→List (Nat×SV):=fun k=>[(33,.rv (.int .i64 k)),(32,.rv (.int .i64 l.length)),(31,.row 0 v l.length),(5,.ptr 6 0),(0,.row 0 v l.length)]
 refine fH (ι:=Nat) (fun k=>[(33,.rv (.int .i64 k)),(32,.rv (.int .i64 l.length)),(31,.row 0 v l.length),(5,.ptr 6 0),(0,.row 0 v l.length)]) (fun k=>some (.row 49 v (aN (br l)))::some (.row 49 1 (aN (br l)))::some (.row 1 0 (iU l k))::some (.row 1 0 (aN (aM (List.replicate l.length 0))))::some (.row 1 0 (aN (aM (cj l k))))::some (.row 1 0 (aN (jv (fQ l k))))::some (.var [.row 1 1 l.length,.row 2 0 l.length,.row 3 0 l.length,.row 4 0 l.length,.row 5 0 l.length])::iK l k) (fun k=>k≤l.length) (fun k=>l.length - k) 0 (by simp) ?_ (fun k hk K' hN hX hR=>?_)
 ·refine (bg (env':=[(33,.rv (.int .i64 0)),(32,.rv (.int .i64 l.length)),(31,.row 0 v l.length),(5,.ptr 6 0),(0,.row 0 v l.length)]) (by simp [lk])).trans ?_
  rw [FU,OS,Av,Gv]
  exact Ec (r:=2) (v:=0) (n:=l.length) (e:=1) rfl
 simp -implicitDefEqProofs only [go_sem,Int.reduceNegSucc]
 refine ai (fun hg=>?_) (fun hg=>?_)
 ·have aE:k<l.length:=by simp at hg;omega
  have hx:=iM aE
  have sM:=nG l k
  have hdl:=tH l k
  have lA:=aj (cj l k)
  have oZ:=kU (l:=cj l k) (i:=k) (by omega)
  have hml:=Gu l k
  have sG:=xD (fQ l k)
  have sF:=tv (bs:=fQ l k) (i:=k) (by omega)
  have hsh:=Cy aE
  have e1:(l.length=l.length+1)=False:=eq_false (by omega)
  have e2:(l.length=l.length+2)=False:=eq_false (by omega)
  have hds:=xY aE
  have sy:=Au aE
  have wu:=fB (k:=k) (by omega)
  by_cases gA:0<k
  ·have hgt:decide ((k:Int)>0)=true:=decide_eq_true (by omega)
   obtain ⟨p1,p2⟩:=hs.wf.2 k gA aE
   obtain ⟨p,hp⟩:∃ p:Nat,bz l k=p:=⟨(bz l k).toNat,by omega⟩
   have gd:p<l.length:=by omega
   have q0:(p=l.length)=False:=eq_false (by omega)
   have q1:(p=l.length+1)=False:=eq_false (by omega)
   have q2:(p=l.length+2)=False:=eq_false (by omega)
   have hpk:=lU aE
   have Nm:(cj l k).set k 1=(cj l k).set k 1:=rfl
   have sA:((cj l k).set k 1).length=l.length:=by simp [hdl]
   have vl:=aj ((cj l k).set k 1)
   have pe:=kU (l:=(cj l k).set k 1) (i:=p) (by omega)
   have sx:=kU (l:=(cj l k).set k 1) (i:=k) (by omega)
   rw [At (by omega) (by omega)] at pe
   have qK:=Aw hs.wf gA aE
   rw [hp,Int.toNat_natCast] at qK
   have wd:=fB (k:=depth l p) (by have:=uq (l:=l) p;unfold depth;omega)
   rw [← qK] at wd
   obtain ⟨b,sJ⟩:∃ b,pO l k=b:=⟨_,rfl⟩
   have hmp:=tv (bs:=(fQ l k).set k b) (i:=p) (by simp [hml];omega)
   have hmk:=tv (bs:=(fQ l k).set k b) (i:=k) (by simp [hml];omega)
   rw [Gt (by omega) (by omega)] at hmp
   have vv:((fQ l k).set k b).length=l.length:=by simp [hml]
   have vw:=xD ((fQ l k).set k b)
   have mY:((fQ l k).set k b).set k (b && mD l p)=fQ l (k+1):=by
    have:=Gr hs.wf gA aE
    rw [hp,Int.toNat_natCast,sJ] at this
    rw [List.set_set,← this,za aE]
   have ou:=vV l k
   have oq:=FR (k:=k) gd
   have mX:=fun C=>BO (k:=k) (C:=C) gd
   have hkn:=OO gA hp gd
   have htn:=OX gA hp gd
   have hsp:=fun (y:Option HB) C=>OQ (k:=k) (y:=y) (C:=C) gd
   have gI:(bp (bE l k p)).length=(bE l k p).length:=by simp [bp]
   have oo:=aj (bp (bE l k p))
   have jc:(aM (bp (bE l k p))).take (bE l k p).length=aM (bp (bE l k p)):=List.take_of_length_le (by rw [oo,gI];exact Nat.le_refl _)
   have hkk:=sL (l:=l) (k:=k) (p:=p)
   cases b
   all_goals simp -implicitDefEqProofs only [Bool.false_and,Bool.true_and] at mY
   ·repeat' (first | (simp -implicitDefEqProofs only [go_sem,Int.reduceNegSucc,hlen,hx,sM,ak,ql,BZ,Nat.add_assoc,BM,List.append_assoc,hdl,lA,oZ,hml,sG,sF,nh,uy,ug,hsh,sJ,e1,e2,BQ,hgt,hpk,hp,uh,ou,oq,mX,q0,q1,q2,hsp,FN,FP,gI,oo,jc,mF,hkn,htn,sA,vl,pe,sx,wd,sy,wu,hmp,hmk,vv,vw]) | (with_reducible refine aA ?_) | ((first | refine ai (fun hg=>?_) (fun hg=>?_) | refine ax (fun hg=>?_) (fun hg=>?_) | refine ay (fun hg=>?_) (fun hg=>?_)) <;> try simp -implicitDefEqProofs only [hg,Bool.not_true,Bool.not_false]) | ((with_reducible apply And.intro);focus (first | trivial | omega | decide | (simp -implicitDefEqProofs only [maxLen];omega) | (simp [maxLen,af,ak,an,av,aj,au,aq] <;> omega) | (simp (decide:=true) [oW,qE,mQ,pW,Nat.testBit,q0,q1,q2];done))) | fail)
    rw [mY]
    exact hN (k+1) _ _ (by omega) (by omega) (BK (v:=v) (l:=l) (k:=k+1) (by simp [hJ,lk,jE,lJ,jx]))
   ·repeat' (first | (simp -implicitDefEqProofs only [go_sem,Int.reduceNegSucc,hlen,hx,sM,ak,ql,BZ,Nat.add_assoc,BM,List.append_assoc,hdl,lA,oZ,hml,sG,sF,nh,uy,ug,hsh,sJ,e1,e2,BQ,hgt,hpk,hp,uh,ou,oq,mX,q0,q1,q2,hsp,FN,FP,gI,oo,jc,mF,hkn,htn,sA,vl,pe,sx,wd,sy,wu,hmp,hmk,vv,vw]) | (with_reducible refine aA ?_) | ((first | refine ai (fun hg=>?_) (fun hg=>?_) | refine ax (fun hg=>?_) (fun hg=>?_) | refine ay (fun hg=>?_) (fun hg=>?_)) <;> try simp -implicitDefEqProofs only [hg,Bool.not_true,Bool.not_false]) | ((with_reducible apply And.intro);focus (first | trivial | omega | decide | (simp -implicitDefEqProofs only [maxLen];omega) | (simp [maxLen,af,ak,an,av,aj,au,aq] <;> omega) | (simp (decide:=true) [oW,qE,mQ,pW,Nat.testBit,q0,q1,q2];done))) | fail)
    rw [mY]
    exact hN (k+1) _ _ (by omega) (by omega) (BK (v:=v) (l:=l) (k:=k+1) (by simp [hJ,lk,jE,lJ,jx]))
  ·obtain rfl:k=0:=by omega
   have hgt:decide (((0:Nat):Int)>0)=false:=rfl
   rw [Ax] at hds
   have mY:=za aE
   rw [Gs] at mY
   have Bb:(cj l 0).set 0 1=cj l (0+1):=hds
   repeat' (first | (simp -implicitDefEqProofs only [go_sem,Int.reduceNegSucc,hlen,hx,sM,ak,ql,BZ,Nat.add_assoc,BM,List.append_assoc,hdl,lA,oZ,hml,sG,sF,nh,uy,ug,hsh,e1,e2,BQ,hgt,wu,mY,Bb]) | (with_reducible refine aA ?_) | ((first | refine ai (fun hg=>?_) (fun hg=>?_) | refine ax (fun hg=>?_) (fun hg=>?_) | refine ay (fun hg=>?_) (fun hg=>?_)) <;> try simp -implicitDefEqProofs only [hg,Bool.not_true,Bool.not_false]) | ((with_reducible apply And.intro);focus (first | trivial | omega | decide | (simp -implicitDefEqProofs only [maxLen];omega) | (simp [maxLen,af,ak,an,av,aj,au,aq] <;> omega))) | fail)
   refine hN 1 _ _ (by omega) (by omega) ?_
   rw [OV,OM]
   exact BK (v:=v) (l:=l) (k:=0) (es:=List.replicate l.length 0) (ds:=cj l (0+1)) (bs:=fQ l (0+1)) (C:=[some (.var ((l[0]'aE).cells.map .rv))]) (by simp [hJ,lk,jE,lJ,jx])
 ·have aE:k=l.length:=by simp at hg;omega
  subst aE
  simp -implicitDefEqProofs only [go_sem,Int.reduceNegSucc]
  refine hX _ _ _ ?_
  have wl:=uI hs.pos (by omega)
  repeat' (first | (simp -implicitDefEqProofs only [go_sem,Int.reduceNegSucc,hlen,wl]) | (with_reducible refine aA ?_) | ((first | refine ai (fun hg=>?_) (fun hg=>?_) | refine ax (fun hg=>?_) (fun hg=>?_) | refine ay (fun hg=>?_) (fun hg=>?_)) <;> try simp -implicitDefEqProofs only [hg,Bool.not_true,Bool.not_false]) | ((with_reducible apply And.intro);focus (first | trivial | omega | decide | (simp -implicitDefEqProofs only [maxLen];omega) | (simp [maxLen,af,ak,an,av,aj,au,aq] <;> omega))) | fail)
  clear hN hX hR
  refine fH (ι:=Nat) (fun k=>[(8,.rv (.int .i64 ((k:Int) - 1))),(5,.ptr 6 0)]) (fun k=>qT v l l.length (gL l k) (cj l l.length) (fQ l l.length)) (fun k=>k≤l.length) (fun k=>k) l.length (Nat.le_refl _) (by rw [Ea];exact bg (by simp [lk];have:=hs.pos;omega)) (fun k hk K' hN hX hR=>?_)
  simp -implicitDefEqProofs only [qT,go_sem,Int.reduceNegSucc]
  refine ai (fun hg=>?_) (fun hg=>?_)
  ·have gA:0<k:=by simp at hg;omega
   obtain ⟨j,rfl⟩:∃ j,k=j+1:=⟨k - 1,by omega⟩
   have ej:(((j+1:Nat):Int) - 1)=(j:Int):=by omega
   have wj:=fB (k:=j) (by omega)
   have hjl:j<l.length:=by omega
   have hel:=DY l (j+1)
   have vn:=aj (gL l (j+1))
   have sB:=kU (l:=gL l (j+1)) (i:=j) (by omega)
   have ou:=vV l l.length
   have oq:=FR (k:=l.length) hjl
   have mX:=BO (k:=l.length) (C:=[]) hjl
   simp -implicitDefEqProofs only [List.append_nil] at mX
   have gI:(bp (bE l l.length j)).length=(bE l l.length j).length:=by simp [bp]
   have oo:=aj (bp (bE l l.length j))
   have hkk:=sL (l:=l) (k:=l.length) (p:=j)
   have nE:((gL l (j+1)).set j ((j+1:Nat):Int)).length=l.length:=by simp [hel]
   have Bx:=aj ((gL l (j+1)).set j ((j+1:Nat):Int))
   have jb:=DZ (l:=l) (k:=j+1) (by omega) (by omega)
   simp -implicitDefEqProofs only [Nat.add_sub_cancel] at jb
   have wd:IntKind.i64.wrap ((j:Int) - 1)=((j:Int) - 1):=wrap_i64 (by omega) (by omega)
   by_cases fJ:bE l l.length j=[]
   ·have hm0:decide ((((bE l l.length j).length:Nat):Int)>0)=false:=by rw [fJ];rfl
    have he:=AD fJ
    rw [he] at jb
    repeat' (first | (simp -implicitDefEqProofs only [go_sem,Int.reduceNegSucc,hel,vn,sB,ou,oq,mX,ej,wj,hm0,nh,jb,wd]) | (with_reducible refine aA ?_) | ((first | refine ai (fun hg=>?_) (fun hg=>?_) | refine ax (fun hg=>?_) (fun hg=>?_) | refine ay (fun hg=>?_) (fun hg=>?_)) <;> try simp -implicitDefEqProofs only [hg,Bool.not_true,Bool.not_false]) | ((with_reducible apply And.intro);focus (first | trivial | omega | decide | (simp -implicitDefEqProofs only [maxLen];omega) | (simp [maxLen,af,ak,an,av,aj,au,aq] <;> omega))) | fail)
    refine hN j _ _ (by omega) (by omega) (bg (by simp [lk]))
   ·obtain ⟨c,hc⟩:∃ c,(bE l l.length j).getLast?=some c:=by
     cases h:(bE l l.length j).getLast? with
     | none=>exact absurd (List.getLast?_eq_none_iff.1 h) fJ
     | some c=>exact ⟨c,rfl⟩
    have hpos:0<(bE l l.length j).length:=List.length_pos_iff.2 fJ
    have hm0:decide ((((bE l l.length j).length:Nat):Int)>0)=true:=decide_eq_true (by omega)
    have mW:c∈ie l j:=List.mem_of_getLast? hc
    obtain ⟨c1,c2,c3⟩:=qV.1 mW
    have AW:j<c:=by have:=(hs.wf.2 c c1 c2).2;omega
    have he:=AB hc AW c2
    rw [he] at jb
    have wm:=uI hpos (by omega)
    have AV:(bp (bE l l.length j)).getD ((bE l l.length j).length - 1) 0=(c:Int):=by
     rw [List.getLast?_eq_getElem?] at hc
     simp [bp,List.getD_eq_getElem?_getD,hc]
    have jI:=kU (l:=bp (bE l l.length j)) (i:=(bE l l.length j).length - 1) (by omega)
    rw [AV] at jI
    have vm:=kU (l:=(gL l (j+1)).set j ((j+1:Nat):Int)) (i:=c) (by omega)
    have qd:=DX (l:=l) (k:=j+1) (j:=c) (v:=((j+1:Nat):Int)) (by omega) (by omega) c2
    simp -implicitDefEqProofs only [Nat.add_sub_cancel] at qd
    rw [qd] at vm
    have Be:=kU (l:=(gL l (j+1)).set j ((j+1:Nat):Int)) (i:=j) (by omega)
    have vH:((gL l (j+1)).set j ((j+1:Nat):Int)).set j (hU l c)=gL l j:=by rw [List.set_set,jb]
    repeat' (first | (simp -implicitDefEqProofs only [go_sem,Int.reduceNegSucc,hel,vn,sB,ou,oq,mX,ej,wj,hm0,nh,wd,wm,jI,vm,Be,vH,nE,Bx,gI,oo]) | (with_reducible refine aA ?_) | ((first | refine ai (fun hg=>?_) (fun hg=>?_) | refine ax (fun hg=>?_) (fun hg=>?_) | refine ay (fun hg=>?_) (fun hg=>?_)) <;> try simp -implicitDefEqProofs only [hg,Bool.not_true,Bool.not_false]) | ((with_reducible apply And.intro);focus (first | trivial | omega | decide | (simp -implicitDefEqProofs only [maxLen];omega) | (simp [maxLen,af,ak,an,av,aj,au,aq] <;> omega))) | fail)
    refine hN j _ _ (by omega) (by omega) (bg (by simp [lk]))
  ·obtain rfl:k=0:=by simp at hg;omega
   simp -implicitDefEqProofs only [go_sem,Int.reduceNegSucc]
   refine hX _ _ _ ?_
   repeat' (first | (simp -implicitDefEqProofs only [go_sem,Int.reduceNegSucc]) | (with_reducible refine aA ?_) | ((first | refine ai (fun hg=>?_) (fun hg=>?_) | refine ax (fun hg=>?_) (fun hg=>?_) | refine ay (fun hg=>?_) (fun hg=>?_)) <;> try simp -implicitDefEqProofs only [hg,Bool.not_true,Bool.not_false]) | ((with_reducible apply And.intro);focus (first | trivial | omega | decide | (simp -implicitDefEqProofs only [maxLen];omega) | (simp [maxLen,af,ak,an,av,aj,au,aq] <;> omega))) | fail)
   refine (hK _ _ _ _ [] (gM _ _) ?_).2
   rw [Eb]
   simp -implicitDefEqProofs only [gV,List.map_cons,List.map_nil,List.append_nil]
   refine ⟨by simp [bW],trivial,trivial,⟨?_,trivial⟩,trivial,bn.2 ⟨?_,aG.2 rfl,trivial⟩⟩
   ·rw [show fZ (gk ([i0].zip [HB.row 49 v (aN (br l))]) i0) [] i0=some (HB.row 49 v (aN (br l))) from by simp [fZ,gk]]
    exact ⟨rfl,rfl,gW.2 rfl⟩
   ·exact .fz _ _ (Rr v l (fun j hj=>by cases j with
     | zero=>omega
     | succ j=>rfl))
end Go.aL

namespace Go.aL
open Go
theorem Ph:aU Go.Proofs.Tryz.prog 22 13 (fc Go.Proofs.Tryz.prog 22 13 [(.c 0 48 true)]) [(.c 0 48 true)]:=bl (by kernel_rfl)
def BU:List CK→List RV→Bool
 | [],[]=>true
 | .b::ks,.bool _::rs=>BU ks rs
 | .i::ks,.int _ _::rs=>BU ks rs
 | .s::ks,.str _::rs=>BU ks rs
 | _,_=>false
def um:aC:={ (default:aC) with shown:=true,pad:=⟨⟨1,0⟩,⟨1,0⟩,⟨1,0⟩,⟨1,0⟩⟩ }
def SO (k:Nat):aC:={ (default:aC) with shown:=true,pad:=⟨if 0<k then ⟨1,0⟩ else default,if 1<k then ⟨1,0⟩ else default,if 2<k then ⟨1,0⟩ else default,if 3<k then ⟨1,0⟩ else default⟩ }
theorem TZ:aK Go.Proofs.Tryz.prog 22 [] [] [] um.sv:=by
 refine bu Ph [] _ (by simp) (by simp [aP,aY,bq,aW,bk,aC.sv,Ln.sv,Nd.sv]) (fun K hK=>?_)
 conv in fc _ _ _ _=>reduce
 simp -implicitDefEqProofs only [go_sem,Int.reduceNegSucc]
 repeat' (first | (simp -implicitDefEqProofs only [go_sem,Int.reduceNegSucc]) | (with_reducible refine aA ?_) | ((first | refine ai (fun hg=>?_) (fun hg=>?_) | refine ax (fun hg=>?_) (fun hg=>?_) | refine ay (fun hg=>?_) (fun hg=>?_)) <;> try simp -implicitDefEqProofs only [hg,Bool.not_true,Bool.not_false]) | ((with_reducible apply And.intro);focus (first | trivial | omega | decide | (simp -implicitDefEqProofs only [maxLen];omega) | (simp [maxLen,af,ak,an,av,aj,au,aq] <;> omega) | (exact ⟨rfl,by decide⟩;done))) | fail)
 refine fH (ι:=Nat) (fun k=>[(4,.rv (.int .i64 k)),(0,.ptr 0 0),(1,.ptr 1 0)]) (fun k=>[some (.var ((default:aC).cells.map .rv)),some (.var ((SO k).cells.map .rv))]) (fun k=>k≤4) (fun k=>4 - k) 0 (by simp) (bg (by simp [lk])) (fun k hk K' hN hX hR=>?_)
 simp -implicitDefEqProofs only [go_sem,Int.reduceNegSucc]
 refine ai (fun hg=>?_) (fun hg=>?_)
 ·have:k=0∨k=1∨k=2∨k=3:=by simp at hg;omega
  rcases this with rfl | rfl | rfl | rfl
  all_goals
   repeat' (first | (simp -implicitDefEqProofs only [go_sem,Int.reduceNegSucc,af,fB (k:=0) (by decide),fB (k:=1) (by decide),fB (k:=2) (by decide),fB (k:=3) (by decide)]) | (with_reducible refine aA ?_) | ((first | refine ai (fun hg=>?_) (fun hg=>?_) | refine ax (fun hg=>?_) (fun hg=>?_) | refine ay (fun hg=>?_) (fun hg=>?_)) <;> try simp -implicitDefEqProofs only [hg,Bool.not_true,Bool.not_false]) | ((with_reducible apply And.intro);focus (first | trivial | omega | decide | (simp -implicitDefEqProofs only [maxLen];omega) | (simp [maxLen,af,ak,an,av,aj,au,aq] <;> omega))) | fail)
  ·exact hN 1 _ _ (by omega) (by omega) (bg (by simp [lk]))
  ·exact hN 2 _ _ (by omega) (by omega) (bg (by simp [lk]))
  ·exact hN 3 _ _ (by omega) (by omega) (bg (by simp [lk]))
  ·exact hN 4 _ _ (by omega) (by omega) (bg (by simp [lk]))
 ·have aE:k=4:=by simp at hg;omega
  subst aE
  simp -implicitDefEqProofs only [go_sem,Int.reduceNegSucc]
  refine hX _ _ _ ?_
  repeat' (first | (simp -implicitDefEqProofs only [go_sem,Int.reduceNegSucc,af,cz]) | (with_reducible refine aA ?_) | ((first | refine ai (fun hg=>?_) (fun hg=>?_) | refine ax (fun hg=>?_) (fun hg=>?_) | refine ay (fun hg=>?_) (fun hg=>?_)) <;> try simp -implicitDefEqProofs only [hg,Bool.not_true,Bool.not_false]) | ((with_reducible apply And.intro);focus (first | trivial | omega | decide | (simp -implicitDefEqProofs only [maxLen];omega) | (simp [maxLen,af,ak,an,av,aj,au,aq] <;> omega) | (rfl;done) | (exact ⟨rfl,by decide⟩;done))) | fail)
  exact (hK _ _ (Cq (rs:=um.cells) rfl rfl rfl)).2
end Go.aL

namespace Go.aL
open Go
end Go.aL

namespace Go.aL
open Go
theorem Pk:aU Go.Proofs.Tryz.prog 14 36 (fc Go.Proofs.Tryz.prog 14 36 [(.t 0)]) [(.t 0)]:=bl (by kernel_rfl)
def yh:aC:={ um with position:=3 }
def wN:List Nd:=[⟨um,-1⟩,⟨yh,0⟩]
theorem IQ:kO wN=0:=by decide +kernel
theorem Vt:CP (mJ wN 1 10 ⟨true,0⟩ false)=0∧CO (mJ wN 1 10 ⟨true,0⟩ false)=true:=by decide +kernel
theorem Cz:aK Go.Proofs.Tryz.prog 14 [] [] [] (.rv (.bool true)):=by
 refine bu Pk [] _ (by simp) (by simp [aP,aY,bq,aW,bk,aC.sv,Ln.sv,Nd.sv]) (fun K hK=>?_)
 have hk:=Uv wN (by decide) IQ 1 0
 have ht:=Ig wN (CQ (DG IQ)) (by decide) 1 10 ⟨true,0⟩ false
 obtain ⟨h1,h2⟩:=Vt
 rw [h1,h2] at ht
 have ha:=TC yh
 have MZ:xx yh=true:=rfl
 rw [MZ] at ha
 have e0:((0:Int) == 0)=true:=rfl
 conv in fc _ _ _ _=>reduce
 simp -implicitDefEqProofs only [go_sem,Int.reduceNegSucc]
 have bf:=TZ;repeat' (first | (simp -implicitDefEqProofs only [go_sem,Int.reduceNegSucc,af]) | (with_reducible refine aA ?_) | (with_reducible first | refine ag bf ?_ | refine ah bf ?_) | ((first | refine ai (fun hg=>?_) (fun hg=>?_) | refine ax (fun hg=>?_) (fun hg=>?_) | refine ay (fun hg=>?_) (fun hg=>?_)) <;> try simp -implicitDefEqProofs only [hg,Bool.not_true,Bool.not_false]) | ((with_reducible apply And.intro);focus (first | trivial | omega | decide | (simp -implicitDefEqProofs only [maxLen];omega) | (simp [maxLen,af,ak,an,av,aj,au,aq] <;> omega))) | fail)
 refine bV hk (SQ rfl) trivial ?_
 simp -implicitDefEqProofs only [Sz.sv,Sz.cells,List.map_cons,List.map_nil] at ht
 have hz:List.take 48 (List.take 1 (List.map SV.rv um.cells)++[SV.rv (RV.int IntKind.i64 3)]++List.drop 2 (List.map SV.rv um.cells))=yh.cells.map SV.rv:=rfl
 have y_2:=ht;have bB:=ha;repeat' (first | (simp -implicitDefEqProofs only [go_sem,Int.reduceNegSucc,e0,hz]) | (with_reducible refine aA ?_) | (with_reducible first | refine ag y_2 ?_ | refine ah y_2 ?_) | (with_reducible first | refine ag bB ?_ | refine ah bB ?_) | ((first | refine ai (fun hg=>?_) (fun hg=>?_) | refine ax (fun hg=>?_) (fun hg=>?_) | refine ay (fun hg=>?_) (fun hg=>?_)) <;> try simp -implicitDefEqProofs only [hg,Bool.not_true,Bool.not_false]) | ((with_reducible apply And.intro);focus (first | trivial | omega | decide | (simp -implicitDefEqProofs only [maxLen];omega) | (simp [maxLen,af,ak,an,av,aj,au,aq] <;> omega))) | fail)
 exact (hK _ _ (bS rfl)).2
end Go.aL

namespace Go.aL
open Go
theorem Pj:aU Go.Proofs.Tryz.prog 4 65 (fc Go.Proofs.Tryz.prog 4 65 [(.t 10)]) [(.t 10)]:=bl (by kernel_rfl)
theorem KE (a:Int):(a == a)=true:=by simp
theorem KD (a:Bool):(a == a)=true:=by simp
theorem TY (l:List Nd) (n w:Int) (h:Sz) (op:Bool):aK Go.Proofs.Tryz.prog 4 [.rv (.sl 49 (br l)),.rv (.int .i64 n),.rv (.int .i64 w),h.sv,.rv (.bool op)] [] [] (.rv (.bool true)):=by
 refine bu Pj [.rv (.sl 49 (br l)),.rv (.int .i64 n),.rv (.int .i64 w),h.sv,.rv (.bool op)] _ (by simp) (by simp [aP,aY,bq,aW,bk,aC.sv,Ln.sv,Nd.sv]) (fun K hK=>?_)
 have hlen:=an l
 conv in fc _ _ _ _=>reduce
 simp -implicitDefEqProofs only [Sz.sv,Sz.cells,go_sem,Int.reduceNegSucc]
 by_cases hl:l.length>25
 ·have e1:decide ((l.length:Int)>25)=true:=decide_eq_true (by omega)
  have bf:=Cz;repeat' (first | (simp -implicitDefEqProofs only [go_sem,Int.reduceNegSucc,hlen,e1]) | (with_reducible refine aA ?_) | (with_reducible first | refine ag bf ?_ | refine ah bf ?_) | ((first | refine ai (fun hg=>?_) (fun hg=>?_) | refine ax (fun hg=>?_) (fun hg=>?_) | refine ay (fun hg=>?_) (fun hg=>?_)) <;> try simp -implicitDefEqProofs only [hg,Bool.not_true,Bool.not_false]) | ((with_reducible apply And.intro);focus (first | trivial | omega | decide | (simp -implicitDefEqProofs only [maxLen];omega) | (simp [maxLen,af,ak,an,av,aj,au,aq] <;> omega))) | fail)
  exact (hK _ _ (bS rfl)).2
 ·have e1:decide ((l.length:Int)>25)=false:=decide_eq_false (by omega)
  have qJ:=UK l (by omega)
  by_cases hc:kO l=0
  ·have ht:=DG hc
   have hs:=CQ ht
   rw [hc] at qJ
   have rV:((0:Int) != 0)=false:=rfl
   have Lm:((0:Int) == 0)=true:=rfl
   have NA:=Uu l (by omega) hc
   have h1:=Ig l hs (by omega) n w h op
   have h2:=UZ l ht hs (by omega) n w h op
   simp -implicitDefEqProofs only [Sz.sv,Sz.cells,List.map_cons,List.map_nil] at h1 h2
   have y_2:=Cz;have bB:=qJ;have bG:=NA;have bI:=h1;have bK:=h2;repeat' (first | (simp -implicitDefEqProofs only [go_sem,Int.reduceNegSucc,hlen,e1,rV,Lm,KE,KD]) | (with_reducible refine aA ?_) | (with_reducible first | refine ag y_2 ?_ | refine ah y_2 ?_) | (with_reducible first | refine ag bB ?_ | refine ah bB ?_) | (with_reducible first | refine ag bG ?_ | refine ah bG ?_) | (with_reducible first | refine ag bI ?_ | refine ah bI ?_) | (with_reducible first | refine ag bK ?_ | refine ah bK ?_) | ((first | refine ai (fun hg=>?_) (fun hg=>?_) | refine ax (fun hg=>?_) (fun hg=>?_) | refine ay (fun hg=>?_) (fun hg=>?_)) <;> try simp -implicitDefEqProofs only [hg,Bool.not_true,Bool.not_false]) | ((with_reducible apply And.intro);focus (first | trivial | omega | decide | (simp -implicitDefEqProofs only [maxLen];omega) | (simp [maxLen,af,ak,an,av,aj,au,aq] <;> omega))) | fail)
   exact (hK _ _ (bS rfl)).2
  ·have rV:(kO l != 0)=true:=by simpa using hc
   have bL:=Cz;have bO:=qJ;repeat' (first | (simp -implicitDefEqProofs only [go_sem,Int.reduceNegSucc,hlen,e1,rV]) | (with_reducible refine aA ?_) | (with_reducible first | refine ag bL ?_ | refine ah bL ?_) | (with_reducible first | refine ag bO ?_ | refine ah bO ?_) | ((first | refine ai (fun hg=>?_) (fun hg=>?_) | refine ax (fun hg=>?_) (fun hg=>?_) | refine ay (fun hg=>?_) (fun hg=>?_)) <;> try simp -implicitDefEqProofs only [hg,Bool.not_true,Bool.not_false]) | ((with_reducible apply And.intro);focus (first | trivial | omega | decide | (simp -implicitDefEqProofs only [maxLen];omega) | (simp [maxLen,af,ak,an,av,aj,au,aq] <;> omega))) | fail)
   exact (hK _ _ (bS rfl)).2
end Go.aL
