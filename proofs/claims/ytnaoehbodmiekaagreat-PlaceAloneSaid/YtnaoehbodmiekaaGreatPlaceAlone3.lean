/- Part 3 of the proof: K3, K4, K5, K6, K7, K8, K9, K10, K11, K12, U1, P1, F1, FK, G1, G2, F2, G3, G4, F3, EngZe. -/
import Derived.Test.YtnaoehbodmiekaaGreatPlaceAlone2
set_option linter.unusedSimpArgs false
set_option linter.unusedVariables false
set_option maxRecDepth 100000
set_option maxHeartbeats 16000000
namespace Go.aJ
open Go
theorem RM:aX Go.Proofs.Tryz.prog 83 94 (fc Go.Proofs.Tryz.prog 83 94 [(.t 2)]) [(.t 2)]:=br (by kernel_rfl)
theorem RN:aX Go.Proofs.Tryz.prog 58 63 (fc Go.Proofs.Tryz.prog 58 63 [(.t 2)]) [(.t 2)]:=br (by kernel_rfl)
theorem GS (s:aC) {k:Nat} (h:k<18):∃ o,nX[k]?=some o∧((s.cells.map SV.rv).drop o).take 2=((fY s)[k]'h).cells.map SV.rv∧o+2≤48:=by
 have:k=0∨k=1∨k=2∨k=3∨k=4∨k=5∨k=6∨k=7∨k=8∨k=9∨k=10∨k=11∨k=12∨k=13∨k=14∨k=15∨k=16∨k=17:=by omega
 rcases this with rfl | rfl | rfl | rfl | rfl | rfl | rfl | rfl | rfl | rfl | rfl | rfl | rfl | rfl | rfl | rfl | rfl | rfl <;> exact ⟨_,rfl,rfl,by decide⟩
theorem Sr (s:aC) {k o:Nat} (h:k<18) (ho:nX[k]?=some o):(s.cells.map SV.rv)[o]?=some (.rv (.int .i64 ((fY s)[k]'h).kind))∧(s.cells.map SV.rv)[o+1]?=some (.rv (.int .i64 ((fY s)[k]'h).n)):=by
 have:k=0∨k=1∨k=2∨k=3∨k=4∨k=5∨k=6∨k=7∨k=8∨k=9∨k=10∨k=11∨k=12∨k=13∨k=14∨k=15∨k=16∨k=17:=by omega
 rcases this with rfl | rfl | rfl | rfl | rfl | rfl | rfl | rfl | rfl | rfl | rfl | rfl | rfl | rfl | rfl | rfl | rfl | rfl <;>(cases ho;exact ⟨rfl,rfl⟩)
theorem Ic {k:Nat} {i o:Nat} (h:nX[k]?=some o):(iz i nX)[k]?.getD []=[.ptr i o]:=by
 simp [iz,List.getElem?_map,h]
def rK (s:aC):List Ln:=[s.width,s.height,s.jA,s.jz,s.jX,s.jW]
def rF (s:aC) (k:Nat):Bool:=(List.range k).all fun j=>mj (oc s.pad j) (oc s.bE j)
theorem Tu (s:aC) (k:Nat):rF s (k+1)=(rF s k && mj (oc s.pad k) (oc s.bE k)):=by simp [rF,List.range_succ]
theorem Tt (s:aC):rF s 4=(mj s.pad.a s.bE.a && mj s.pad.b s.bE.b && mj s.pad.c s.bE.c && mj s.pad.d s.bE.d):=by
 simp [rF,List.range_succ,oc,Bool.and_assoc]
theorem Jh (s:aC):aL Go.Proofs.Tryz.prog 83 [s.sv] [] [] (.rv (.bool (jb s))):=by
 refine bz RM [s.sv] _ (by simp) (by simp [aP,bg,bu,aY,bq,aC.sv,Ln.sv,Nd.sv]) (fun K hK=>?_)
 have bad:∀ e h,lk e 2 = .rv (.bool false)→jb s=false→K .ret ⟨e,h⟩:=fun e h l2 hf=>(hK _ _ (bU (by rw [l2,hf]))).2
 conv in fc _ _ _ _=>reduce
 simp -implicitDefEqProofs only [aC.sv,go_sem,Int.reduceNegSucc]
 refine bS (IW 0 1 s (by decide)) (by simp [aR,aB]) (by simp [aV,aQ]) ?_
 simp -implicitDefEqProofs only [go_sem,Int.reduceNegSucc]
 refine fG (ι:=Nat) (fun k=>[(10,.rv (.int .i64 k)),(9,.rv (.int .i64 18)),(8,.row 1 13 18),(1,.ptr 0 0)]) (fun k=>[some (.var (s.cells.map .rv)),some (.row 1 13 (iz 0 nX))]) (fun k=>k≤18∧((fY s).drop k).all oX=(fY s).all oX) (fun k=>18 - k) 0 (by simp) (aU (by simp [lk])) (fun k hk K' hN hX hR=>?_)
 obtain ⟨fH,hk2⟩:=hk
 simp -implicitDefEqProofs only [go_sem,Int.reduceNegSucc]
 refine aj (fun hg=>?_) (fun hg=>?_)
 ·have aD:k<18:=by simp at hg;omega
  obtain ⟨o,ho,rq,vZ⟩:=GS s aD
  have gl:=Ic (i:=0) ho
  have oN:(iz 0 nX).length=18:=rfl
  have bh:=VR ((fY s)[k]'aD);repeat' (first | (simp -implicitDefEqProofs only [go_sem,Int.reduceNegSucc,gl,oN,rq]) | (with_reducible refine aA ?_) | (with_reducible first | refine ag bh ?_ | refine ah bh ?_) | ((first | refine aj (fun hg=>?_) (fun hg=>?_) | refine ax (fun hg=>?_) (fun hg=>?_) | refine ay (fun hg=>?_) (fun hg=>?_)) <;> try simp -implicitDefEqProofs only [hg,Bool.not_true,Bool.not_false]) | ((with_reducible apply And.intro);focus (first | trivial | omega | decide | (simp -implicitDefEqProofs only [maxLen];omega) | (simp [maxLen,af,ak,an,av,ai,au,aq] <;> omega))) | fail)
  ·refine hR _ _ (bad _ _ rfl ?_)
   simp -implicitDefEqProofs only [jb,pL aD hk2 (by simpa using hg),Bool.false_and]
  ·rw [cw (by omega)]
   exact hN (k+1) _ _ ⟨by omega,pM aD hk2 (by simpa using hg)⟩ (by omega) (aU (by simp [lk]))
 ·have aD:k=18:=by simp at hg;omega
  subst aD
  have hall:=pK (by rw [aq];omega) hk2
  simp -implicitDefEqProofs only [go_sem,Int.reduceNegSucc]
  refine hX _ _ _ ?_
  repeat' (first | (simp -implicitDefEqProofs only [go_sem,Int.reduceNegSucc,cE,dZ,cF,ec,cQ,eC,de,eN,dz,eZ,dJ,fu,dK,fy,dL,fA,dM,fB,dN,fC,cG,ee,cH,eg,cI,ek,cJ,ep,cK,er,cL,eu,cM,ew,cN,ey,cO,ez,cP,eA,cR,eD,cS,eE,cT,eF,cU,eG,cV,eH,cW,eI,cX,eJ,cY,eK,cZ,eL,dc,eM,dg,eO,dh,eP,di,eR,dj,eS,dm,eT,dn,eU,dr,eV,dw,eW,dx,eX,dy,eY,dA,fe,dB,ff,cB,fh,dD,fj,dF,fk,dG,fm,dH,fo,dI,fq,dU,dO,dP,dQ,dR,dS,dV,dW,dX,dY,cD,cA,af,Ln.cells]) | (with_reducible refine aA ?_) | ((first | refine aj (fun hg=>?_) (fun hg=>?_) | refine ax (fun hg=>?_) (fun hg=>?_) | refine ay (fun hg=>?_) (fun hg=>?_)) <;> try simp -implicitDefEqProofs only [hg,Bool.not_true,Bool.not_false]) | ((with_reducible apply And.intro);focus (first | trivial | omega | decide | (simp -implicitDefEqProofs only [maxLen];omega) | (simp [maxLen,af,ak,an,av,ai,au,aq] <;> omega))) | fail)
  refine fG (ι:=Nat) (fun k=>[(34,.rv (.int .i64 k)),(33,.rv (.int .i64 6)),(32,.row 2 0 6),(1,.ptr 0 0)]) (fun k=>[some (.var (s.cells.map .rv)),some (.row 1 13 (iz 0 nX)),some (.row 2 0 (aM (mh (rK s))))]) (fun k=>k≤6∧((rK s).drop k).all (fun x=>decide (0≤x.n))=(rK s).all (fun x=>decide (0≤x.n))) (fun k=>6 - k) 0 (by simp) (aU (by simp [lk])) (fun k hk K' hN hX hR=>?_)
  obtain ⟨fH,hk2⟩:=hk
  simp -implicitDefEqProofs only [go_sem,Int.reduceNegSucc]
  refine aj (fun hg=>?_) (fun hg=>?_)
  ·have aD:k<6:=by simp at hg;omega
   have hx:=CJ (l:=rK s) aD
   have Oq:(mh (rK s)).length=6:=rfl
   repeat' (first | (simp -implicitDefEqProofs only [go_sem,Int.reduceNegSucc,hx,Oq,Ln.cells]) | (with_reducible refine aA ?_) | ((first | refine aj (fun hg=>?_) (fun hg=>?_) | refine ax (fun hg=>?_) (fun hg=>?_) | refine ay (fun hg=>?_) (fun hg=>?_)) <;> try simp -implicitDefEqProofs only [hg,Bool.not_true,Bool.not_false]) | ((with_reducible apply And.intro);focus (first | trivial | omega | decide | (simp -implicitDefEqProofs only [maxLen];omega) | (simp [maxLen,af,ak,an,av,ai,au,aq] <;> omega))) | fail)
   ·refine hR _ _ (bad _ _ rfl ?_)
    simp -implicitDefEqProofs only [jb]
    rw [show [s.width,s.height,s.jA,s.jz,s.jX,s.jW]=rK s from rfl,pL aD hk2 (by simp at hg ⊢;omega)]
    simp
   ·rw [cw (by omega)]
    exact hN (k+1) _ _ ⟨by omega,pM aD hk2 (by simp at hg ⊢;omega)⟩ (by omega) (ud _ (by simp) (by simp [qF,aB,fJ,fL,Ab,gx,gU]) (by simp [lk,aG,gz,ga,gU]))
  ·have aD:k=6:=by simp at hg;omega
   subst aD
   have NP:=pK (by simp [rK]) hk2
   simp -implicitDefEqProofs only [go_sem,Int.reduceNegSucc]
   refine hX _ _ _ ?_
   repeat' (first | (simp -implicitDefEqProofs only [go_sem,Int.reduceNegSucc]) | (with_reducible refine aA ?_) | ((first | refine aj (fun hg=>?_) (fun hg=>?_) | refine ax (fun hg=>?_) (fun hg=>?_) | refine ay (fun hg=>?_) (fun hg=>?_)) <;> try simp -implicitDefEqProofs only [hg,Bool.not_true,Bool.not_false]) | ((with_reducible apply And.intro);focus (first | trivial | omega | decide | (simp -implicitDefEqProofs only [maxLen];omega) | (simp [maxLen,af,ak,an,av,ai,au,aq] <;> omega))) | fail)
   refine fG (ι:=Nat) (fun k=>[(42,.rv (.int .i64 k)),(1,.ptr 0 0)]) (fun k=>[some (.var (s.cells.map .rv))]) (fun k=>k≤4∧rF s k=true) (fun k=>4 - k) 0 (by simp [rF]) (ud _ (by simp) (by simp [qF,aB,fJ,fL,gU]) (by simp [lk,aG,gz,ga,gU])) (fun k hk K' hN hX hR=>?_)
   obtain ⟨fH,hk2⟩:=hk
   simp -implicitDefEqProofs only [go_sem,Int.reduceNegSucc]
   refine aj (fun hg=>?_) (fun hg=>?_)
   ·have aD:k<4:=by simp at hg;omega
    have hn:mj (oc s.pad k) (oc s.bE k)=true→rF s (k+1)=true:=fun h=>by rw [Tu,hk2,h];rfl
    have hb:mj (oc s.pad k) (oc s.bE k)=false→jb s=false:=fun h=>by
     have:k=0∨k=1∨k=2∨k=3:=by omega
     rcases this with rfl | rfl | rfl | rfl <;> simp_all [jb,oc]
    have:k=0∨k=1∨k=2∨k=3:=by omega
    rcases this with rfl | rfl | rfl | rfl
    all_goals
     repeat' (first | (simp -implicitDefEqProofs only [go_sem,Int.reduceNegSucc,cE,dZ,cF,ec,cQ,eC,de,eN,dz,eZ,dJ,fu,dK,fy,dL,fA,dM,fB,dN,fC,cG,ee,cH,eg,cI,ek,cJ,ep,cK,er,cL,eu,cM,ew,cN,ey,cO,ez,cP,eA,cR,eD,cS,eE,cT,eF,cU,eG,cV,eH,cW,eI,cX,eJ,cY,eK,cZ,eL,dc,eM,dg,eO,dh,eP,di,eR,dj,eS,dm,eT,dn,eU,dr,eV,dw,eW,dx,eX,dy,eY,dA,fe,dB,ff,cB,fh,dD,fj,dF,fk,dG,fm,dH,fo,dI,fq,dU,dO,dP,dQ,dR,dS,dV,dW,dX,dY,cD,cA,af]) | (with_reducible refine aA ?_) | ((first | refine aj (fun hg=>?_) (fun hg=>?_) | refine ax (fun hg=>?_) (fun hg=>?_) | refine ay (fun hg=>?_) (fun hg=>?_)) <;> try simp -implicitDefEqProofs only [hg,Bool.not_true,Bool.not_false]) | ((with_reducible apply And.intro);focus (first | trivial | omega | decide | (simp -implicitDefEqProofs only [maxLen];omega) | (simp [maxLen,af,ak,an,av,ai,au,aq] <;> omega))) | fail)
    all_goals first
     | (refine hR _ _ (bad _ _ rfl (hb ?_));clear hN hX hR hb hn bad hK;simp_all [mj,oc,bF];done)
     | (rw [cw (by omega)];refine hN _ _ _ ⟨by omega,hn ?_⟩ (by omega) (aU (by simp [lk]));clear hN hX hR hb hn bad hK;simp_all [mj,oc,bF];done)
   ·have aD:k=4:=by simp at hg;omega
    subst aD
    rw [Tt] at hk2
    simp -implicitDefEqProofs only [go_sem,Int.reduceNegSucc]
    refine hX _ _ _ ?_
    have fin:∀ e h,lk e 2 = .rv (.bool (rR s))→K .ret ⟨e,h⟩:=fun e h l2=>(hK _ _ (bU (by rw [l2,jb,hall,hk2];rw [show [s.width,s.height,s.jA,s.jz,s.jX,s.jW]=rK s from rfl,NP];rfl))).2
    clear hK hN hX hR bad
    repeat' (first | (simp -implicitDefEqProofs only [go_sem,Int.reduceNegSucc,cE,dZ,cF,ec,cQ,eC,de,eN,dz,eZ,dJ,fu,dK,fy,dL,fA,dM,fB,dN,fC,cG,ee,cH,eg,cI,ek,cJ,ep,cK,er,cL,eu,cM,ew,cN,ey,cO,ez,cP,eA,cR,eD,cS,eE,cT,eF,cU,eG,cV,eH,cW,eI,cX,eJ,cY,eK,cZ,eL,dc,eM,dg,eO,dh,eP,di,eR,dj,eS,dm,eT,dn,eU,dr,eV,dw,eW,dx,eX,dy,eY,dA,fe,dB,ff,cB,fh,dD,fj,dF,fk,dG,fm,dH,fo,dI,fq,dU,dO,dP,dQ,dR,dS,dV,dW,dX,dY,cD,cA,af]) | (with_reducible refine aA ?_) | ((first | refine aj (fun hg=>?_) (fun hg=>?_) | refine ax (fun hg=>?_) (fun hg=>?_) | refine ay (fun hg=>?_) (fun hg=>?_)) <;> try simp -implicitDefEqProofs only [hg,Bool.not_true,Bool.not_false]) | ((with_reducible apply And.intro);focus (first | trivial | omega | decide | (simp -implicitDefEqProofs only [maxLen];omega) | (simp [maxLen,af,ak,an,av,ai,au,aq] <;> omega))) | fail)
    all_goals (refine fin _ _ ?_;(simp_all [lk,rR,bF]) <;>(try (intros;omega)))
theorem VQ (s:aC):aL Go.Proofs.Tryz.prog 58 [s.sv] [] [] (.rv (.bool (lD s))):=by
 refine bz RN [s.sv] _ (by simp) (by simp [aP,bg,bu,aY,bq,aC.sv,Ln.sv,Nd.sv]) (fun K hK=>?_)
 have bad:∀ e h,lk e 2 = .rv (.bool false)→lD s=false→K .ret ⟨e,h⟩:=fun e h l2 hf=>(hK _ _ (bU (by rw [l2,hf]))).2
 conv in fc _ _ _ _=>reduce
 simp -implicitDefEqProofs only [aC.sv,go_sem,Int.reduceNegSucc]
 refine bS (IW 0 1 s (by decide)) (by simp [aR,aB]) (by simp [aV,aQ]) ?_
 simp -implicitDefEqProofs only [go_sem,Int.reduceNegSucc]
 refine fG (ι:=Nat) (fun k=>[(9,.rv (.int .i64 k)),(8,.rv (.int .i64 18)),(7,.row 1 13 18),(1,.ptr 0 0)]) (fun k=>[some (.var (s.cells.map .rv)),some (.row 1 13 (iz 0 nX))]) (fun k=>k≤18∧((fY s).drop k).all qf=(fY s).all qf) (fun k=>18 - k) 0 (by simp) (aU (by simp [lk])) (fun k hk K' hN hX hR=>?_)
 obtain ⟨fH,hk2⟩:=hk
 simp -implicitDefEqProofs only [go_sem,Int.reduceNegSucc]
 refine aj (fun hg=>?_) (fun hg=>?_)
 ·have aD:k<18:=by simp at hg;omega
  obtain ⟨o,ho,rq,vZ⟩:=GS s aD
  have gl:=Ic (i:=0) ho
  have oN:(iz 0 nX).length=18:=rfl
  obtain ⟨hc0,ri⟩:=Sr s aD ho
  have we:o<48:=by omega
  have Ow:o+1<48:=by omega
  have kV:∀ e h,lk e 2 = .rv (.bool false)→qf ((fY s)[k]'aD)=false→K .ret ⟨e,h⟩:=fun e h l2 hf=>bad e h l2 (by simp -implicitDefEqProofs only [lD,pL aD hk2 hf,Bool.false_and])
  have nx:∀ e h,qf ((fY s)[k]'aD)=true→gi 0 ⟨e,h⟩ ⟨[(9,.rv (.int .i64 (k+1:Nat))),(8,.rv (.int .i64 18)),(7,.row 1 13 18),(1,.ptr 0 0)],[some (.var (s.cells.map .rv)),some (.row 1 13 (iz 0 nX))]⟩→K' .normal ⟨e,h⟩:=fun e h hf he=>hN (k+1) _ _ ⟨by omega,pM aD hk2 hf⟩ (by omega) he
  have wu:=cw (k:=k) (by omega)
  generalize (fY s)[k]'aD=x at *
  have y_2:=Dy x.n 1099511627776 (by decide) (by decide);have bC:=Dy x.n 1000000 (by decide) (by decide);repeat' (first | (simp -implicitDefEqProofs only [go_sem,Int.reduceNegSucc,gl,oN,hc0,ri,wu]) | (with_reducible refine aA ?_) | (with_reducible first | refine ag y_2 ?_ | refine ah y_2 ?_) | (with_reducible first | refine ag bC ?_ | refine ah bC ?_) | ((first | refine aj (fun hg=>?_) (fun hg=>?_) | refine ax (fun hg=>?_) (fun hg=>?_) | refine ay (fun hg=>?_) (fun hg=>?_)) <;> try simp -implicitDefEqProofs only [hg,Bool.not_true,Bool.not_false]) | ((with_reducible apply And.intro);focus (first | trivial | omega | decide | (simp -implicitDefEqProofs only [maxLen];omega) | (simp [maxLen,af,ak,an,av,ai,au,aq] <;> omega))) | fail)
  all_goals first
   | (refine hR _ _ (kV _ _ rfl ?_);clear hN hX hR bad kV nx hK;simp_all [qf,bF];done)
   | (refine nx _ _ ?_ (aU (by simp [lk]));clear hN hX hR bad kV nx hK;simp_all [qf,bF];done)
 ·have aD:k=18:=by simp at hg;omega
  subst aD
  have hall:=pK (by rw [aq];omega) hk2
  simp -implicitDefEqProofs only [go_sem,Int.reduceNegSucc]
  refine hX _ _ _ ?_
  repeat' (first | (simp -implicitDefEqProofs only [go_sem,Int.reduceNegSucc,cE,dZ,cF,ec,cQ,eC,de,eN,dz,eZ,dJ,fu,dK,fy,dL,fA,dM,fB,dN,fC,cG,ee,cH,eg,cI,ek,cJ,ep,cK,er,cL,eu,cM,ew,cN,ey,cO,ez,cP,eA,cR,eD,cS,eE,cT,eF,cU,eG,cV,eH,cW,eI,cX,eJ,cY,eK,cZ,eL,dc,eM,dg,eO,dh,eP,di,eR,dj,eS,dm,eT,dn,eU,dr,eV,dw,eW,dx,eX,dy,eY,dA,fe,dB,ff,cB,fh,dD,fj,dF,fk,dG,fm,dH,fo,dI,fq,dU,dO,dP,dQ,dR,dS,dV,dW,dX,dY,cD,cA,af]) | (with_reducible refine aA ?_) | ((first | refine aj (fun hg=>?_) (fun hg=>?_) | refine ax (fun hg=>?_) (fun hg=>?_) | refine ay (fun hg=>?_) (fun hg=>?_)) <;> try simp -implicitDefEqProofs only [hg,Bool.not_true,Bool.not_false]) | ((with_reducible apply And.intro);focus (first | trivial | omega | decide | (simp -implicitDefEqProofs only [maxLen];omega) | (simp [maxLen,af,ak,an,av,ai,au,aq] <;> omega))) | fail)
  refine fG (ι:=Nat) (fun k=>[(44,.rv (.int .i64 k)),(43,.agg (s.bE.ints.map .rv)),(1,.ptr 0 0)]) (fun k=>[some (.var (s.cells.map .rv))]) (fun k=>k≤4∧(s.bE.list.drop k).all (fun n=>decide (n≤1099511627776))=s.bE.list.all (fun n=>decide (n≤1099511627776))) (fun k=>4 - k) 0 (by simp) (ud _ (by simp) (by simp [qF,aB,fJ,fL,gU]) (by simp [lk,aG,gz,ga,aH,fL,gU])) (fun k hk K' hN hX hR=>?_)
  obtain ⟨fH,hk2⟩:=hk
  simp -implicitDefEqProofs only [go_sem,Int.reduceNegSucc]
  refine aj (fun hg=>?_) (fun hg=>?_)
  ·have aD:k<4:=by simp at hg;omega
   have hx:(s.bE.ints.map SV.rv)[k*1]?.getD .dead = .rv (.int .i64 (s.bE.list[k]'aD)):=by
    have:k=0∨k=1∨k=2∨k=3:=by omega
    rcases this with rfl | rfl | rfl | rfl <;> rfl
   have Oo:s.bE.ints.length=4:=rfl
   repeat' (first | (simp -implicitDefEqProofs only [go_sem,Int.reduceNegSucc,hx,Oo]) | (with_reducible refine aA ?_) | ((first | refine aj (fun hg=>?_) (fun hg=>?_) | refine ax (fun hg=>?_) (fun hg=>?_) | refine ay (fun hg=>?_) (fun hg=>?_)) <;> try simp -implicitDefEqProofs only [hg,Bool.not_true,Bool.not_false]) | ((with_reducible apply And.intro);focus (first | trivial | omega | decide | (simp -implicitDefEqProofs only [maxLen];omega) | (simp [maxLen,af,ak,an,av,ai,au,aq] <;> omega))) | fail)
   ·refine hR _ _ (bad _ _ rfl ?_)
    simp -implicitDefEqProofs only [lD]
    rw [pL (l:=s.bE.list) aD hk2 (by simp at hg ⊢;omega)]
    simp
   ·rw [cw (by omega)]
    exact hN (k+1) _ _ ⟨by omega,pM (l:=s.bE.list) aD hk2 (by simp at hg ⊢;omega)⟩ (by omega) (aU (by simp [lk]))
  ·have aD:k=4:=by simp at hg;omega
   subst aD
   have hb:=pK (l:=s.bE.list) (by simp [Q4.list]) hk2
   simp -implicitDefEqProofs only [go_sem,Int.reduceNegSucc]
   refine hX _ _ _ ?_
   have fin:∀ e h,lk e 2 = .rv (.bool (rz s.z 1073741824 && decide (s.back≤16777216) && decide (s.line≤16777216)))→K .ret ⟨e,h⟩:=fun e h l2=>(hK _ _ (bU (by rw [l2,lD,hall,hb];rfl))).2
   clear hK hN hX hR bad
   have bI:=Dy s.z 1073741824 (by decide) (by decide);repeat' (first | (simp -implicitDefEqProofs only [go_sem,Int.reduceNegSucc,cE,dZ,cF,ec,cQ,eC,de,eN,dz,eZ,dJ,fu,dK,fy,dL,fA,dM,fB,dN,fC,cG,ee,cH,eg,cI,ek,cJ,ep,cK,er,cL,eu,cM,ew,cN,ey,cO,ez,cP,eA,cR,eD,cS,eE,cT,eF,cU,eG,cV,eH,cW,eI,cX,eJ,cY,eK,cZ,eL,dc,eM,dg,eO,dh,eP,di,eR,dj,eS,dm,eT,dn,eU,dr,eV,dw,eW,dx,eX,dy,eY,dA,fe,dB,ff,cB,fh,dD,fj,dF,fk,dG,fm,dH,fo,dI,fq,dU,dO,dP,dQ,dR,dS,dV,dW,dX,dY,cD,cA,af]) | (with_reducible refine aA ?_) | (with_reducible first | refine ag bI ?_ | refine ah bI ?_) | ((first | refine aj (fun hg=>?_) (fun hg=>?_) | refine ax (fun hg=>?_) (fun hg=>?_) | refine ay (fun hg=>?_) (fun hg=>?_)) <;> try simp -implicitDefEqProofs only [hg,Bool.not_true,Bool.not_false]) | ((with_reducible apply And.intro);focus (first | trivial | omega | decide | (simp -implicitDefEqProofs only [maxLen];omega) | (simp [maxLen,af,ak,an,av,ai,au,aq] <;> omega))) | fail)
   all_goals (refine fin _ _ ?_;(simp_all [lk,bF]) <;>(try (intros;omega)))
end Go.aJ

namespace Go.aJ
open Go
theorem Qj:aX Go.Proofs.Tryz.prog 53 31 (fc Go.Proofs.Tryz.prog 53 31 [(.t 2)]) [(.t 2)]:=br (by kernel_rfl)
theorem Qi:aX Go.Proofs.Tryz.prog 52 110 (fc Go.Proofs.Tryz.prog 52 110 [(.t 2)]) [(.t 2)]:=br (by kernel_rfl)
theorem Qk:aX Go.Proofs.Tryz.prog 24 89 (fc Go.Proofs.Tryz.prog 24 89 [(.t 2)]) [(.t 2)]:=br (by kernel_rfl)
theorem SA (l:List Ln):∀ x∈mh l,∀ r∈x,r.one=true:=by
 intro x hx r hr
 obtain ⟨n,_,rfl⟩:=List.mem_map.1 hx
 simp [Ln.cells] at hr
 rcases hr with rfl | rfl <;> rfl
theorem IX (s:aC):aL Go.Proofs.Tryz.prog 53 [s.sv] [] [] (.rv (.sl 2 (mh (fY s)))):=by
 refine bz Qj [s.sv] _ (by simp) (by simp [aP,bg,bu,aY,bq,aC.sv,Ln.sv,Nd.sv]) (fun K hK=>?_)
 conv in fc _ _ _ _=>reduce
 simp -implicitDefEqProofs only [aC.sv,go_sem,Int.reduceNegSucc]
 repeat' (first | (simp -implicitDefEqProofs only [go_sem,Int.reduceNegSucc,af]) | (with_reducible refine aA ?_) | ((first | refine aj (fun hg=>?_) (fun hg=>?_) | refine ax (fun hg=>?_) (fun hg=>?_) | refine ay (fun hg=>?_) (fun hg=>?_)) <;> try simp -implicitDefEqProofs only [hg,Bool.not_true,Bool.not_false]) | ((with_reducible apply And.intro);focus (first | trivial | omega | decide | (simp -implicitDefEqProofs only [maxLen];omega) | (simp [maxLen,af,ak,an,av,ai,au,aq] <;> omega))) | fail)
 exact (hK _ _ ⟨trivial,qi (xs:=mh (fY s)) rfl rfl rfl (SA _)⟩).2
def gZ (k:Nat) (x:Ln):Bool:=!(decide (x.kind<0) || decide (x.kind>2) || (decide (x.kind=0) && !decide (x.n=0))) && !((decide (x.n<0) && ((decide (4≤k) && decide (k<10)) || decide (14≤k))) || (decide (14≤k) && decide (x.kind=0)))
def qJ (s:aC) (k:Nat):Bool:=(List.range k).all fun j=>gZ j ((fY s).getD j default)
theorem Tc {s:aC} {k:Nat} (h:k<18):qJ s (k+1)=(qJ s k && gZ k ((fY s)[k]'h)):=by
 have:(fY s).getD k default=(fY s)[k]'h:=by rw [List.getD_eq_getElem?_getD,List.getElem?_eq_getElem h];rfl
 simp -implicitDefEqProofs only [qJ,List.range_succ,List.all_append,List.all_cons,List.all_nil,Bool.and_true,this]
theorem Tb {s:aC} {k:Nat} (h:k<18) (hf:gZ k ((fY s)[k]'h)=false):qJ s 18=false:=by
 have:(fY s).getD k default=(fY s)[k]'h:=by rw [List.getD_eq_getElem?_getD,List.getElem?_eq_getElem h];rfl
 rw [Bool.eq_false_iff]
 intro ht
 have:=List.all_eq_true.1 ht k (by simp;omega)
 simp_all
theorem DA (s:aC):jb s=(qJ s 18 && (s.bE.list.all fun n=>!decide (n<0)) && rR s):=by
 have:qJ s 18=(gZ 0 s.off.a && gZ 1 s.off.b && gZ 2 s.off.c && gZ 3 s.off.d && gZ 4 s.width && gZ 5 s.height && gZ 6 s.jA && gZ 7 s.jz && gZ 8 s.jX && gZ 9 s.jW && gZ 10 s.bA.a && gZ 11 s.bA.b && gZ 12 s.bA.c && gZ 13 s.bA.d && gZ 14 s.pad.a && gZ 15 s.pad.b && gZ 16 s.pad.c && gZ 17 s.pad.d):=by
  simp [qJ,List.range_succ,fY,Q4.list,Bool.and_assoc]
 rw [this]
 have e1:∀ k x,(k<4∨(10≤k∧k<14))→gZ k x=oX x:=fun k x hk=>by
  have h1:decide (14≤k)=false:=decide_eq_false (by omega)
  have h2:(decide (4≤k) && decide (k<10))=false:=by simp;omega
  simp -implicitDefEqProofs only [gZ,oX,h1,h2]
  rw [Bool.eq_iff_iff];simp;omega
 have e2:∀ k x,(4≤k∧k<10)→gZ k x=(oX x && decide (0≤x.n)):=fun k x hk=>by
  have h1:decide (14≤k)=false:=decide_eq_false (by omega)
  have h2:(decide (4≤k) && decide (k<10))=true:=by simp;omega
  simp -implicitDefEqProofs only [gZ,oX,h1,h2]
  rw [Bool.eq_iff_iff];simp;omega
 have e3:∀ k x,14≤k→gZ k x=(oX x && !(decide (x.kind=0) || decide (x.n<0))):=fun k x hk=>by
  have h1:decide (14≤k)=true:=decide_eq_true (by omega)
  simp -implicitDefEqProofs only [gZ,oX,h1]
  rw [Bool.eq_iff_iff];simp;omega
 rw [e1 0 _ (by omega),e1 1 _ (by omega),e1 2 _ (by omega),e1 3 _ (by omega),e2 4 _ (by omega),e2 5 _ (by omega),e2 6 _ (by omega),e2 7 _ (by omega),e2 8 _ (by omega),e2 9 _ (by omega),e1 10 _ (by omega),e1 11 _ (by omega),e1 12 _ (by omega),e1 13 _ (by omega),e3 14 _ (by omega),e3 15 _ (by omega),e3 16 _ (by omega),e3 17 _ (by omega)]
 rw [Bool.eq_iff_iff]
 simp -implicitDefEqProofs only [jb,fY,Q4.list,mj,List.all_append,List.all_cons,List.all_nil,Bool.and_true,Bool.and_eq_true,Bool.not_eq_true',Bool.or_eq_false_iff,decide_eq_true_eq,decide_eq_false_iff_not]
 constructor <;>(intro h;simp -implicitDefEqProofs only [h,not_false_eq_true,and_self])
theorem Vy (s:aC):aL Go.Proofs.Tryz.prog 52 [s.sv] [] [] (.rv (.bool (jb s))):=by
 refine bz Qi [s.sv] _ (by simp) (by simp [aP,bg,bu,aY,bq,aC.sv,Ln.sv,Nd.sv]) (fun K hK=>?_)
 have bad:∀ e h,lk e 2 = .rv (.bool false)→jb s=false→K .ret ⟨e,h⟩:=fun e h l2 hf=>(hK _ _ (bU (by rw [l2,hf]))).2
 conv in fc _ _ _ _=>reduce
 simp -implicitDefEqProofs only [aC.sv,go_sem,Int.reduceNegSucc]
 have bh:=IX s;repeat' (first | (simp -implicitDefEqProofs only [go_sem,Int.reduceNegSucc,cE,dZ,cF,ec,cQ,eC,de,eN,dz,eZ,dJ,fu,dK,fy,dL,fA,dM,fB,dN,fC,cG,ee,cH,eg,cI,ek,cJ,ep,cK,er,cL,eu,cM,ew,cN,ey,cO,ez,cP,eA,cR,eD,cS,eE,cT,eF,cU,eG,cV,eH,cW,eI,cX,eJ,cY,eK,cZ,eL,dc,eM,dg,eO,dh,eP,di,eR,dj,eS,dm,eT,dn,eU,dr,eV,dw,eW,dx,eX,dy,eY,dA,fe,dB,ff,cB,fh,dD,fj,dF,fk,dG,fm,dH,fo,dI,fq,dU,dO,dP,dQ,dR,dS,dV,dW,dX,dY,cD,cA,af,av,aq]) | (with_reducible refine aA ?_) | (with_reducible first | refine ag bh ?_ | refine ah bh ?_) | ((first | refine aj (fun hg=>?_) (fun hg=>?_) | refine ax (fun hg=>?_) (fun hg=>?_) | refine ay (fun hg=>?_) (fun hg=>?_)) <;> try simp -implicitDefEqProofs only [hg,Bool.not_true,Bool.not_false]) | ((with_reducible apply And.intro);focus (first | trivial | omega | decide | (simp -implicitDefEqProofs only [maxLen];omega) | (simp [maxLen,af,ak,an,av,ai,au,aq] <;> omega))) | fail)
 refine fG (ι:=Nat) (fun k=>[(10,.rv (.int .i64 k)),(9,.rv (.int .i64 18)),(3,.rv (.sl 2 (mh (fY s)))),(1,.ptr 0 0)]) (fun k=>[some (.var (s.cells.map .rv))]) (fun k=>k≤18∧qJ s k=true) (fun k=>18 - k) 0 (by simp [qJ]) (aU (by simp [lk])) (fun k hk K' hN hX hR=>?_)
 obtain ⟨fH,hk2⟩:=hk
 simp -implicitDefEqProofs only [go_sem,Int.reduceNegSucc]
 refine aj (fun hg=>?_) (fun hg=>?_)
 ·have aD:k<18:=by simp at hg;omega
  have hx:=CJ (l:=fY s) aD
  have kV:∀ e h,lk e 2 = .rv (.bool false)→gZ k ((fY s)[k]'aD)=false→K .ret ⟨e,h⟩:=fun e h l2 hf=>bad e h l2 (by rw [DA,Tb aD hf];rfl)
  have nx:∀ e h,gZ k ((fY s)[k]'aD)=true→gi 0 ⟨e,h⟩ ⟨[(10,.rv (.int .i64 (k+1:Nat))),(9,.rv (.int .i64 18)),(3,.rv (.sl 2 (mh (fY s)))),(1,.ptr 0 0)],[some (.var (s.cells.map .rv))]⟩→K' .normal ⟨e,h⟩:=fun e h hf he=>hN (k+1) _ _ ⟨by omega,by rw [Tc aD,hk2,hf];rfl⟩ (by omega) he
  have wu:=cw (k:=k) (by omega)
  have qa:(mh (fY s)).length=18:=rfl
  clear hN hX hK bad
  generalize OP:(fY s)[k]'aD=x at *
  repeat' (first | (simp -implicitDefEqProofs only [go_sem,Int.reduceNegSucc,hx,qa,Ln.cells,wu]) | (with_reducible refine aA ?_) | ((first | refine aj (fun hg=>?_) (fun hg=>?_) | refine ax (fun hg=>?_) (fun hg=>?_) | refine ay (fun hg=>?_) (fun hg=>?_)) <;> try simp -implicitDefEqProofs only [hg,Bool.not_true,Bool.not_false]) | ((with_reducible apply And.intro);focus (first | trivial | omega | decide | (simp -implicitDefEqProofs only [maxLen];omega) | (simp [maxLen,af,ak,an,av,ai,au,aq] <;> omega))) | fail)
  all_goals first
   | (refine hR _ _ (kV _ _ rfl ?_);clear hR kV nx;simp_all [gZ,bF];done)
   | (refine nx _ _ ?_ (aU (by simp [lk]));clear hR kV nx;simp_all [gZ,bF];done)
   | (refine hR _ _ (kV _ _ rfl ?_);clear hR kV nx;simp_all [gZ,bF];omega)
   | (refine nx _ _ ?_ (aU (by simp [lk]));clear hR kV nx;simp_all [gZ,bF];omega)
 ·have aD:k=18:=by simp at hg;omega
  subst aD
  simp -implicitDefEqProofs only [go_sem,Int.reduceNegSucc]
  refine hX _ _ _ ?_
  repeat' (first | (simp -implicitDefEqProofs only [go_sem,Int.reduceNegSucc,cE,dZ,cF,ec,cQ,eC,de,eN,dz,eZ,dJ,fu,dK,fy,dL,fA,dM,fB,dN,fC,cG,ee,cH,eg,cI,ek,cJ,ep,cK,er,cL,eu,cM,ew,cN,ey,cO,ez,cP,eA,cR,eD,cS,eE,cT,eF,cU,eG,cV,eH,cW,eI,cX,eJ,cY,eK,cZ,eL,dc,eM,dg,eO,dh,eP,di,eR,dj,eS,dm,eT,dn,eU,dr,eV,dw,eW,dx,eX,dy,eY,dA,fe,dB,ff,cB,fh,dD,fj,dF,fk,dG,fm,dH,fo,dI,fq,dU,dO,dP,dQ,dR,dS,dV,dW,dX,dY,cD,cA,af]) | (with_reducible refine aA ?_) | ((first | refine aj (fun hg=>?_) (fun hg=>?_) | refine ax (fun hg=>?_) (fun hg=>?_) | refine ay (fun hg=>?_) (fun hg=>?_)) <;> try simp -implicitDefEqProofs only [hg,Bool.not_true,Bool.not_false]) | ((with_reducible apply And.intro);focus (first | trivial | omega | decide | (simp -implicitDefEqProofs only [maxLen];omega) | (simp [maxLen,af,ak,an,av,ai,au,aq] <;> omega))) | fail)
  refine fG (ι:=Nat) (fun k=>[(74,.rv (.int .i64 k)),(1,.ptr 0 0)]) (fun k=>[some (.var (s.cells.map .rv))]) (fun k=>k≤4∧(s.bE.list.drop k).all (fun n=>!decide (n<0))=s.bE.list.all (fun n=>!decide (n<0))) (fun k=>4 - k) 0 (by simp) (aU (by simp [lk])) (fun k hk K' hN hX hR=>?_)
  obtain ⟨fH,gq⟩:=hk
  simp -implicitDefEqProofs only [go_sem,Int.reduceNegSucc]
  refine aj (fun hg=>?_) (fun hg=>?_)
  ·have aD:k<4:=by simp at hg;omega
   have hx:(s.cells.map SV.rv)[38+k*1]?=some (.rv (.int .i64 (s.bE.list[k]'aD))):=by
    have:k=0∨k=1∨k=2∨k=3:=by omega
    rcases this with rfl | rfl | rfl | rfl <;> rfl
   repeat' (first | (simp -implicitDefEqProofs only [go_sem,Int.reduceNegSucc,hx,af]) | (with_reducible refine aA ?_) | ((first | refine aj (fun hg=>?_) (fun hg=>?_) | refine ax (fun hg=>?_) (fun hg=>?_) | refine ay (fun hg=>?_) (fun hg=>?_)) <;> try simp -implicitDefEqProofs only [hg,Bool.not_true,Bool.not_false]) | ((with_reducible apply And.intro);focus (first | trivial | omega | decide | (simp -implicitDefEqProofs only [maxLen];omega) | (simp [maxLen,af,ak,an,av,ai,au,aq] <;> omega))) | fail)
   ·refine hR _ _ (bad _ _ rfl ?_)
    rw [DA,pL (l:=s.bE.list) aD gq (by simp at hg ⊢;omega)]
    simp
   ·rw [cw (by omega)]
    exact hN (k+1) _ _ ⟨by omega,pM (l:=s.bE.list) aD gq (by simp at hg ⊢;omega)⟩ (by omega) (aU (by simp [lk]))
  ·have aD:k=4:=by simp at hg;omega
   subst aD
   have hb:=pK (l:=s.bE.list) (by simp [Q4.list]) gq
   simp -implicitDefEqProofs only [go_sem,Int.reduceNegSucc]
   refine hX _ _ _ ?_
   have fin:∀ e h,lk e 2 = .rv (.bool (rR s))→K .ret ⟨e,h⟩:=fun e h l2=>(hK _ _ (bU (by rw [l2,DA,hk2,hb];rfl))).2
   clear hK hN hX hR bad
   repeat' (first | (simp -implicitDefEqProofs only [go_sem,Int.reduceNegSucc,cE,dZ,cF,ec,cQ,eC,de,eN,dz,eZ,dJ,fu,dK,fy,dL,fA,dM,fB,dN,fC,cG,ee,cH,eg,cI,ek,cJ,ep,cK,er,cL,eu,cM,ew,cN,ey,cO,ez,cP,eA,cR,eD,cS,eE,cT,eF,cU,eG,cV,eH,cW,eI,cX,eJ,cY,eK,cZ,eL,dc,eM,dg,eO,dh,eP,di,eR,dj,eS,dm,eT,dn,eU,dr,eV,dw,eW,dx,eX,dy,eY,dA,fe,dB,ff,cB,fh,dD,fj,dF,fk,dG,fm,dH,fo,dI,fq,dU,dO,dP,dQ,dR,dS,dV,dW,dX,dY,cD,cA,af]) | (with_reducible refine aA ?_) | ((first | refine aj (fun hg=>?_) (fun hg=>?_) | refine ax (fun hg=>?_) (fun hg=>?_) | refine ay (fun hg=>?_) (fun hg=>?_)) <;> try simp -implicitDefEqProofs only [hg,Bool.not_true,Bool.not_false]) | ((with_reducible apply And.intro);focus (first | trivial | omega | decide | (simp -implicitDefEqProofs only [maxLen];omega) | (simp [maxLen,af,ak,an,av,ai,au,aq] <;> omega))) | fail)
   all_goals (refine fin _ _ ?_;(simp_all [lk,rR,bF]) <;>(try (intros;omega)))
def nY (x:Ln):Bool:=!(((!decide (x.kind=0) && decide (x.kind<3)) && decide (x.kind>0)) && (decide (x.n>if x.kind=2 then 1000000 else 1099511627776) || decide (x.n < - if x.kind=2 then 1000000 else 1099511627776)))
theorem Sy (x:Ln):qf x=nY x:=by
 rw [Bool.eq_iff_iff]
 unfold qf nY rz
 by_cases h2:x.kind=2
 ·simp [h2];omega
 ·by_cases h1:x.kind=1
  ·simp [h1];omega
  ·simp [h1,h2];omega
theorem Jo (s:aC):lD s=((fY s).all nY && (s.bE.list.all fun n=>decide (n≤1099511627776)) && (decide (s.z≤1073741824) && decide (s.z≥-1073741824) && decide (s.back≤16777216) && decide (s.line≤16777216))):=by
 unfold lD
 rw [show qf=nY from funext Sy]
 rw [Bool.eq_iff_iff]
 simp [rz];omega
theorem Vz (s:aC):aL Go.Proofs.Tryz.prog 24 [s.sv] [] [] (.rv (.bool (lD s))):=by
 refine bz Qk [s.sv] _ (by simp) (by simp [aP,bg,bu,aY,bq,aC.sv,Ln.sv,Nd.sv]) (fun K hK=>?_)
 have bad:∀ e h,lk e 2 = .rv (.bool false)→lD s=false→K .ret ⟨e,h⟩:=fun e h l2 hf=>(hK _ _ (bU (by rw [l2,hf]))).2
 conv in fc _ _ _ _=>reduce
 simp -implicitDefEqProofs only [aC.sv,go_sem,Int.reduceNegSucc]
 have y_2:=IX s;repeat' (first | (simp -implicitDefEqProofs only [go_sem,Int.reduceNegSucc,cE,dZ,cF,ec,cQ,eC,de,eN,dz,eZ,dJ,fu,dK,fy,dL,fA,dM,fB,dN,fC,cG,ee,cH,eg,cI,ek,cJ,ep,cK,er,cL,eu,cM,ew,cN,ey,cO,ez,cP,eA,cR,eD,cS,eE,cT,eF,cU,eG,cV,eH,cW,eI,cX,eJ,cY,eK,cZ,eL,dc,eM,dg,eO,dh,eP,di,eR,dj,eS,dm,eT,dn,eU,dr,eV,dw,eW,dx,eX,dy,eY,dA,fe,dB,ff,cB,fh,dD,fj,dF,fk,dG,fm,dH,fo,dI,fq,dU,dO,dP,dQ,dR,dS,dV,dW,dX,dY,cD,cA,af,av,aq]) | (with_reducible refine aA ?_) | (with_reducible first | refine ag y_2 ?_ | refine ah y_2 ?_) | ((first | refine aj (fun hg=>?_) (fun hg=>?_) | refine ax (fun hg=>?_) (fun hg=>?_) | refine ay (fun hg=>?_) (fun hg=>?_)) <;> try simp -implicitDefEqProofs only [hg,Bool.not_true,Bool.not_false]) | ((with_reducible apply And.intro);focus (first | trivial | omega | decide | (simp -implicitDefEqProofs only [maxLen];omega) | (simp [maxLen,af,ak,an,av,ai,au,aq] <;> omega))) | fail)
 refine fG (ι:=Nat) (fun k=>[(11,.rv (.int .i64 k)),(10,.rv (.int .i64 18)),(3,.rv (.sl 2 (mh (fY s)))),(1,.ptr 0 0)]) (fun k=>[some (.var (s.cells.map .rv))]) (fun k=>k≤18∧((fY s).drop k).all nY=(fY s).all nY) (fun k=>18 - k) 0 (by simp) (aU (by simp [lk])) (fun k hk K' hN hX hR=>?_)
 obtain ⟨fH,hk2⟩:=hk
 simp -implicitDefEqProofs only [go_sem,Int.reduceNegSucc]
 refine aj (fun hg=>?_) (fun hg=>?_)
 ·have aD:k<18:=by simp at hg;omega
  have hx:=CJ (l:=fY s) aD
  have kV:∀ e h,lk e 2 = .rv (.bool false)→nY ((fY s)[k]'aD)=false→K .ret ⟨e,h⟩:=fun e h l2 hf=>bad e h l2 (by rw [Jo,pL aD hk2 hf];rfl)
  have nx:∀ e h,nY ((fY s)[k]'aD)=true→gi 0 ⟨e,h⟩ ⟨[(11,.rv (.int .i64 (k+1:Nat))),(10,.rv (.int .i64 18)),(3,.rv (.sl 2 (mh (fY s)))),(1,.ptr 0 0)],[some (.var (s.cells.map .rv))]⟩→K' .normal ⟨e,h⟩:=fun e h hf he=>hN (k+1) _ _ ⟨by omega,pM aD hk2 hf⟩ (by omega) he
  have wu:=cw (k:=k) (by omega)
  have qa:(mh (fY s)).length=18:=rfl
  have w1:=JK (m:=1000000) (by decide) (by decide)
  have w2:=JK (m:=1099511627776) (by decide) (by decide)
  clear hN hX hK bad
  generalize OP:(fY s)[k]'aD=x at *
  repeat' (first | (simp -implicitDefEqProofs only [go_sem,Int.reduceNegSucc,hx,qa,Ln.cells,wu,w1,w2]) | (with_reducible refine aA ?_) | ((first | refine aj (fun hg=>?_) (fun hg=>?_) | refine ax (fun hg=>?_) (fun hg=>?_) | refine ay (fun hg=>?_) (fun hg=>?_)) <;> try simp -implicitDefEqProofs only [hg,Bool.not_true,Bool.not_false]) | ((with_reducible apply And.intro);focus (first | trivial | omega | decide | (simp -implicitDefEqProofs only [maxLen];omega) | (simp [maxLen,af,ak,an,av,ai,au,aq] <;> omega))) | fail)
  all_goals first
   | (refine hR _ _ (kV _ _ rfl ?_);clear hR kV nx;simp_all [nY,bF];done)
   | (refine nx _ _ ?_ (aU (by simp [lk]));clear hR kV nx;simp_all [nY,bF];done)
   | (refine hR _ _ (kV _ _ rfl ?_);clear hR kV nx;simp_all [nY,bF];omega)
   | (refine nx _ _ ?_ (aU (by simp [lk]));clear hR kV nx;simp_all [nY,bF];omega)
 ·have aD:k=18:=by simp at hg;omega
  subst aD
  have hall:=pK (by rw [aq];omega) hk2
  simp -implicitDefEqProofs only [go_sem,Int.reduceNegSucc]
  refine hX _ _ _ ?_
  repeat' (first | (simp -implicitDefEqProofs only [go_sem,Int.reduceNegSucc,cE,dZ,cF,ec,cQ,eC,de,eN,dz,eZ,dJ,fu,dK,fy,dL,fA,dM,fB,dN,fC,cG,ee,cH,eg,cI,ek,cJ,ep,cK,er,cL,eu,cM,ew,cN,ey,cO,ez,cP,eA,cR,eD,cS,eE,cT,eF,cU,eG,cV,eH,cW,eI,cX,eJ,cY,eK,cZ,eL,dc,eM,dg,eO,dh,eP,di,eR,dj,eS,dm,eT,dn,eU,dr,eV,dw,eW,dx,eX,dy,eY,dA,fe,dB,ff,cB,fh,dD,fj,dF,fk,dG,fm,dH,fo,dI,fq,dU,dO,dP,dQ,dR,dS,dV,dW,dX,dY,cD,cA,af]) | (with_reducible refine aA ?_) | ((first | refine aj (fun hg=>?_) (fun hg=>?_) | refine ax (fun hg=>?_) (fun hg=>?_) | refine ay (fun hg=>?_) (fun hg=>?_)) <;> try simp -implicitDefEqProofs only [hg,Bool.not_true,Bool.not_false]) | ((with_reducible apply And.intro);focus (first | trivial | omega | decide | (simp -implicitDefEqProofs only [maxLen];omega) | (simp [maxLen,af,ak,an,av,ai,au,aq] <;> omega))) | fail)
  refine fG (ι:=Nat) (fun k=>[(62,.rv (.int .i64 k)),(1,.ptr 0 0)]) (fun k=>[some (.var (s.cells.map .rv))]) (fun k=>k≤4∧(s.bE.list.drop k).all (fun n=>decide (n≤1099511627776))=s.bE.list.all (fun n=>decide (n≤1099511627776))) (fun k=>4 - k) 0 (by simp) (aU (by simp [lk])) (fun k hk K' hN hX hR=>?_)
  obtain ⟨fH,gq⟩:=hk
  simp -implicitDefEqProofs only [go_sem,Int.reduceNegSucc]
  refine aj (fun hg=>?_) (fun hg=>?_)
  ·have aD:k<4:=by simp at hg;omega
   have hx:(s.cells.map SV.rv)[38+k*1]?=some (.rv (.int .i64 (s.bE.list[k]'aD))):=by
    have:k=0∨k=1∨k=2∨k=3:=by omega
    rcases this with rfl | rfl | rfl | rfl <;> rfl
   repeat' (first | (simp -implicitDefEqProofs only [go_sem,Int.reduceNegSucc,hx,af]) | (with_reducible refine aA ?_) | ((first | refine aj (fun hg=>?_) (fun hg=>?_) | refine ax (fun hg=>?_) (fun hg=>?_) | refine ay (fun hg=>?_) (fun hg=>?_)) <;> try simp -implicitDefEqProofs only [hg,Bool.not_true,Bool.not_false]) | ((with_reducible apply And.intro);focus (first | trivial | omega | decide | (simp -implicitDefEqProofs only [maxLen];omega) | (simp [maxLen,af,ak,an,av,ai,au,aq] <;> omega))) | fail)
   ·refine hR _ _ (bad _ _ rfl ?_)
    simp -implicitDefEqProofs only [lD]
    rw [pL (l:=s.bE.list) aD gq (by simp at hg ⊢;omega)]
    simp
   ·rw [cw (by omega)]
    exact hN (k+1) _ _ ⟨by omega,pM (l:=s.bE.list) aD gq (by simp at hg ⊢;omega)⟩ (by omega) (aU (by simp [lk]))
  ·have aD:k=4:=by simp at hg;omega
   subst aD
   have hb:=pK (l:=s.bE.list) (by simp [Q4.list]) gq
   simp -implicitDefEqProofs only [go_sem,Int.reduceNegSucc]
   refine hX _ _ _ ?_
   have fin:∀ e h,lk e 2 = .rv (.bool (decide (s.z≤1073741824) && decide (s.z≥-1073741824) && decide (s.back≤16777216) && decide (s.line≤16777216)))→K .ret ⟨e,h⟩:=fun e h l2=>(hK _ _ (bU (by rw [l2,Jo,hall,hb];rfl))).2
   clear hK hN hX hR bad
   repeat' (first | (simp -implicitDefEqProofs only [go_sem,Int.reduceNegSucc,cE,dZ,cF,ec,cQ,eC,de,eN,dz,eZ,dJ,fu,dK,fy,dL,fA,dM,fB,dN,fC,cG,ee,cH,eg,cI,ek,cJ,ep,cK,er,cL,eu,cM,ew,cN,ey,cO,ez,cP,eA,cR,eD,cS,eE,cT,eF,cU,eG,cV,eH,cW,eI,cX,eJ,cY,eK,cZ,eL,dc,eM,dg,eO,dh,eP,di,eR,dj,eS,dm,eT,dn,eU,dr,eV,dw,eW,dx,eX,dy,eY,dA,fe,dB,ff,cB,fh,dD,fj,dF,fk,dG,fm,dH,fo,dI,fq,dU,dO,dP,dQ,dR,dS,dV,dW,dX,dY,cD,cA,af]) | (with_reducible refine aA ?_) | ((first | refine aj (fun hg=>?_) (fun hg=>?_) | refine ax (fun hg=>?_) (fun hg=>?_) | refine ay (fun hg=>?_) (fun hg=>?_)) <;> try simp -implicitDefEqProofs only [hg,Bool.not_true,Bool.not_false]) | ((with_reducible apply And.intro);focus (first | trivial | omega | decide | (simp -implicitDefEqProofs only [maxLen];omega) | (simp [maxLen,af,ak,an,av,ai,au,aq] <;> omega))) | fail)
   all_goals (refine fin _ _ ?_;(simp_all [lk,bF]) <;>(try (intros;omega)))
end Go.aJ

namespace Go.aJ
open Go
theorem Sb:aX Go.Proofs.Tryz.prog 82 27 (fc Go.Proofs.Tryz.prog 82 27 [(.t 4),(.t 5)]) [(.t 4),(.t 5)]:=br (by kernel_rfl)
theorem RZ:aX Go.Proofs.Tryz.prog 54 39 (fc Go.Proofs.Tryz.prog 54 39 [(.t 2)]) [(.t 2)]:=br (by kernel_rfl)
theorem kz (x:Nd):(x.cells.drop 48)[0]?=some (.int .i64 x.parent):=rfl
theorem wW (x:Nd):(x.cells.take 48).map SV.rv=x.s.cells.map SV.rv:=rfl
theorem VV (l:List Nd) (k:Nat) (h0:0<k) (hk:k<l.length) (hw:WF l k) (hb:l.length≤8589934592) :
 aL Go.Proofs.Tryz.prog 82 [.rv (.sl 49 (bp l)),.rv (.int .i64 k)] [] [] (.aO [.rv (.int .i64 ((nF l k).getD 0:Nat)),.rv (.bool (nF l k).isSome)]):=by
 refine bz Sb [.rv (.sl 49 (bp l)),.rv (.int .i64 k)] _ (by simp) (by simp [aP,bg,bu,aY,bq,aC.sv,Ln.sv,Nd.sv]) (fun K hK=>?_)
 have wd:=vg h0 (by omega)
 have ON:=iP hk
 have hlen:=an l
 have hpk:=lX hk
 conv in fc _ _ _ _=>reduce
 simp -implicitDefEqProofs only [wd,go_sem,Int.reduceNegSucc]
 refine fG (ι:=Nat) (fun i=>[(7,.rv (.int .i64 (kH (bw l (k - 1)) i))),(6,.rv (.int .i64 i)),(0,.rv (.sl 49 (bp l))),(1,.rv (.int .i64 k))]) (fun _=>[]) (fun i=>i≤(bw l (k - 1)).length∧∀ j,(h:j<(bw l (k - 1)).length)→j<i→(((bw l (k - 1))[j]'h:Nat):Int)≠aZ l k) (fun i=>(bw l (k - 1)).length - i) 0 (by simp) (by rw [vm];exact aU (by simp [lk])) (fun i hi K' hN hX hR=>?_)
 obtain ⟨hi1,hi2⟩:=hi
 have gl:=uJ (l:=l) (k - 1)
 simp -implicitDefEqProofs only [go_sem,Int.reduceNegSucc]
 refine aj (fun hg=>?_) (fun hg=>?_)
 ·have fE:i<(bw l (k - 1)).length:=qS.1 (by simpa using hg)
  have gC:=vl fE
  have hlt:(bw l (k - 1))[i]<k:=zX (by omega) fE
  have hx:=iP (l:=l) (i:=(bw l (k - 1))[i]) (by omega)
  have hpar:=lX (l:=l) (n:=(bw l (k - 1))[i]) (by omega)
  have oL:=zS hw (k - 1) (by omega) i fE
  repeat' (first | (simp -implicitDefEqProofs only [go_sem,Int.reduceNegSucc,ON,hlen,ak,kz,hpk,gC,hx,hpar,oL]) | (with_reducible refine aA ?_) | ((first | refine aj (fun hg=>?_) (fun hg=>?_) | refine ax (fun hg=>?_) (fun hg=>?_) | refine ay (fun hg=>?_) (fun hg=>?_)) <;> try simp -implicitDefEqProofs only [hg,Bool.not_true,Bool.not_false]) | ((with_reducible apply And.intro);focus (first | trivial | omega | decide | (simp -implicitDefEqProofs only [maxLen];omega) | (simp [maxLen,af,ak,an,av,ai,au,aq] <;> omega))) | fail)
  ·refine hR _ _ (hK _ _ ?_).2
   rw [Wo fE (by simpa using hg) hi2]
   exact gM rfl rfl
  ·rw [cw (by omega)]
   refine hN (i+1) _ _ ⟨by omega,fun j hj hji=>?_⟩ (by omega) (aU (by simp [lk]))
   rcases Nat.lt_or_ge j i with h | h
   ·exact hi2 j hj h
   ·obtain rfl:j=i:=by omega
    simpa using hg
 ·simp -implicitDefEqProofs only [go_sem,Int.reduceNegSucc]
  refine hX _ _ _ ?_
  repeat' (first | (simp -implicitDefEqProofs only [go_sem,Int.reduceNegSucc]) | (with_reducible refine aA ?_) | ((first | refine aj (fun hg=>?_) (fun hg=>?_) | refine ax (fun hg=>?_) (fun hg=>?_) | refine ay (fun hg=>?_) (fun hg=>?_)) <;> try simp -implicitDefEqProofs only [hg,Bool.not_true,Bool.not_false]) | ((with_reducible apply And.intro);focus (first | trivial | omega | decide | (simp -implicitDefEqProofs only [maxLen];omega) | (simp [maxLen,af,ak,an,av,ai,au,aq] <;> omega))) | fail)
  refine (hK _ _ ?_).2
  have fE:¬ i<(bw l (k - 1)).length:=fun h=>by have:=qS.2 h;simp at hg;omega
  rw [Wp fun j hj=>hi2 j hj (by omega)]
  exact gM rfl rfl
theorem Jj (l:List Nd) (hb:l.length≤8589934592):aL Go.Proofs.Tryz.prog 54 [.rv (.sl 49 (bp l))] [] [] (.rv (.bool (fW l))):=by
 refine bz RZ [.rv (.sl 49 (bp l))] _ (by simp) (by simp [aP,bg,bu,aY,bq,aC.sv,Ln.sv,Nd.sv]) (fun K hK=>?_)
 have bad:∀ e h,lk e 2 = .rv (.bool false)→fW l=false→K .ret ⟨e,h⟩:=fun e h l2 hf=>(hK _ _ (bU (by rw [l2,hf]))).2
 have hlen:=an l
 conv in fc _ _ _ _=>reduce
 simp -implicitDefEqProofs only [hlen,go_sem,Int.reduceNegSucc]
 by_cases pZ:l.length=0
 ·have e0:(((l.length:Nat):Int) == 0)=true:=by simp [pZ]
  repeat' (first | (simp -implicitDefEqProofs only [go_sem,Int.reduceNegSucc,e0,hlen]) | (with_reducible refine aA ?_) | ((first | refine aj (fun hg=>?_) (fun hg=>?_) | refine ax (fun hg=>?_) (fun hg=>?_) | refine ay (fun hg=>?_) (fun hg=>?_)) <;> try simp -implicitDefEqProofs only [hg,Bool.not_true,Bool.not_false]) | ((with_reducible apply And.intro);focus (first | trivial | omega | decide | (simp -implicitDefEqProofs only [maxLen];omega) | (simp [maxLen,af,ak,an,av,ai,au,aq] <;> omega))) | fail)
  exact bad _ _ rfl (by simp [fW,lC,pZ])
 ·have e0:(((l.length:Nat):Int) == 0)=false:=by simp [pZ]
  have hx0:=iP (l:=l) (i:=0) (by omega)
  have kk:=lX (l:=l) (n:=0) (by omega)
  repeat' (first | (simp -implicitDefEqProofs only [go_sem,Int.reduceNegSucc,e0,hlen,hx0,ak,kz,kk]) | (with_reducible refine aA ?_) | ((first | refine aj (fun hg=>?_) (fun hg=>?_) | refine ax (fun hg=>?_) (fun hg=>?_) | refine ay (fun hg=>?_) (fun hg=>?_)) <;> try simp -implicitDefEqProofs only [hg,Bool.not_true,Bool.not_false]) | ((with_reducible apply And.intro);focus (first | trivial | omega | decide | (simp -implicitDefEqProofs only [maxLen];omega) | (simp [maxLen,af,ak,an,av,ai,au,aq] <;> omega))) | fail)
  ·exact bad _ _ rfl (by simp [fW,lC];intro _ h;simp at hg;exact absurd h hg)
  ·have wq:aZ l 0 = -1:=by simpa using hg
   refine fG (ι:=Nat) (fun k=>[(18,.rv (.int .i64 k)),(17,.rv (.int .i64 l.length)),(0,.rv (.sl 49 (bp l)))]) (fun _=>[]) (fun k=>k≤l.length∧(∀ j,j<k→jL l j=true)∧((l.drop k).all fun x=>jb x.s)=l.all fun x=>jb x.s) (fun k=>l.length - k) 0 (by simp) (aU (by simp [lk])) (fun k hk K' hN hX hR=>?_)
   obtain ⟨fH,hk2,gq⟩:=hk
   have hw:=JH wq hk2
   simp -implicitDefEqProofs only [go_sem,Int.reduceNegSucc]
   refine aj (fun hg=>?_) (fun hg=>?_)
   ·have aD:k<l.length:=by simp at hg;omega
    have hx:=iP aD
    have h48:(l[k]'aD).cells.drop 0=(l[k]'aD).cells:=rfl
    have vo:jL l k=false→fW l=false:=fun h=>by
     simp -implicitDefEqProofs only [fW,Bool.and_eq_false_iff]
     left
     rw [Bool.eq_false_iff]
     intro ht
     simp -implicitDefEqProofs only [lC,Bool.and_eq_true,List.all_eq_true,List.mem_range] at ht
     have:=ht.2 k aD
     rw [h] at this;cases this
    have Eb:jb (l[k]'aD).s=false→fW l=false:=fun h=>by
     have:(l.all fun x=>jb x.s)=false:=pL aD gq h
     simp -implicitDefEqProofs only [fW,this,Bool.and_false]
    have nx:∀ e h,jL l k=true→jb (l[k]'aD).s=true→gi 0 ⟨e,h⟩ ⟨[(18,.rv (.int .i64 (k+1:Nat))),(17,.rv (.int .i64 l.length)),(0,.rv (.sl 49 (bp l)))],[]⟩→K' .normal ⟨e,h⟩:=fun e h h1 h2 he=>hN (k+1) _ _ ⟨by omega,fun j hj=>by
     rcases Nat.lt_or_ge j k with h | h
     ·exact hk2 j h
     ·obtain rfl:j=k:=by omega
      exact h1,pM aD gq h2⟩ (by omega) he
    have wu:=cw (k:=k) (by omega)
    clear hN hX hK
    by_cases gQ:0<k
    ·have hn:jL l k=(nF l k).isSome:=by simp [jL];intro h;omega
     have hgt:decide ((k:Int)>0)=true:=decide_eq_true (by omega)
     have bh:=VV l k gQ aD hw hb;have y_2:=Jh (l[k]'aD).s;repeat' (first | (simp -implicitDefEqProofs only [go_sem,Int.reduceNegSucc,hgt,hlen,hx,ak,kz,wW,wu]) | (with_reducible refine aA ?_) | (with_reducible first | refine ag bh ?_ | refine ah bh ?_) | (with_reducible first | refine ag y_2 ?_ | refine ah y_2 ?_) | ((first | refine aj (fun hg=>?_) (fun hg=>?_) | refine ax (fun hg=>?_) (fun hg=>?_) | refine ay (fun hg=>?_) (fun hg=>?_)) <;> try simp -implicitDefEqProofs only [hg,Bool.not_true,Bool.not_false]) | ((with_reducible apply And.intro);focus (first | trivial | omega | decide | (simp -implicitDefEqProofs only [maxLen];omega) | (simp [maxLen,af,ak,an,av,ai,au,aq] <;> omega))) | fail)
     all_goals first
      | (refine hR _ _ (bad _ _ rfl (vo ?_));rw [hn];simpa using hg;done)
      | (refine hR _ _ (bad _ _ rfl (Eb ?_));simpa using hg;done)
      | (refine nx _ _ ?_ ?_ (aU (by simp [lk])) <;> simp_all;done)
    ·obtain rfl:k=0:=by omega
     have hn:jL l 0=true:=by simp [jL]
     have hgt:decide (((0:Nat):Int)>0)=false:=rfl
     have bC:=Jh (l[0]'aD).s;repeat' (first | (simp -implicitDefEqProofs only [go_sem,Int.reduceNegSucc,hgt,hlen,hx,ak,kz,wW,wu]) | (with_reducible refine aA ?_) | (with_reducible first | refine ag bC ?_ | refine ah bC ?_) | ((first | refine aj (fun hg=>?_) (fun hg=>?_) | refine ax (fun hg=>?_) (fun hg=>?_) | refine ay (fun hg=>?_) (fun hg=>?_)) <;> try simp -implicitDefEqProofs only [hg,Bool.not_true,Bool.not_false]) | ((with_reducible apply And.intro);focus (first | trivial | omega | decide | (simp -implicitDefEqProofs only [maxLen];omega) | (simp [maxLen,af,ak,an,av,ai,au,aq] <;> omega))) | fail)
     all_goals first
      | (refine hR _ _ (bad _ _ rfl (Eb ?_));simpa using hg;done)
      | (refine nx _ _ hn ?_ (aU (by simp [lk]));simpa using hg)
   ·have aD:k=l.length:=by simp at hg;omega
    subst aD
    have hall:=pK (Nat.le_refl _) gq
    have hs:lC l=true:=by
     simp -implicitDefEqProofs only [lC,Bool.and_eq_true,decide_eq_true_eq,List.all_eq_true,List.mem_range]
     exact ⟨⟨by omega,wq⟩,hk2⟩
    simp -implicitDefEqProofs only [go_sem,Int.reduceNegSucc]
    refine hX _ _ _ ?_
    repeat' (first | (simp -implicitDefEqProofs only [go_sem,Int.reduceNegSucc]) | (with_reducible refine aA ?_) | ((first | refine aj (fun hg=>?_) (fun hg=>?_) | refine ax (fun hg=>?_) (fun hg=>?_) | refine ay (fun hg=>?_) (fun hg=>?_)) <;> try simp -implicitDefEqProofs only [hg,Bool.not_true,Bool.not_false]) | ((with_reducible apply And.intro);focus (first | trivial | omega | decide | (simp -implicitDefEqProofs only [maxLen];omega) | (simp [maxLen,af,ak,an,av,ai,au,aq] <;> omega))) | fail)
    exact (hK _ _ (bU (by rw [fW,hs,hall];rfl))).2
end Go.aJ

namespace Go.aJ
open Go
theorem RG:aX Go.Proofs.Tryz.prog 84 25 (fc Go.Proofs.Tryz.prog 84 25 [(.t 2)]) [(.t 2)]:=br (by kernel_rfl)
theorem Sa:aX Go.Proofs.Tryz.prog 55 33 (fc Go.Proofs.Tryz.prog 55 33 [(.t 2)]) [(.t 2)]:=br (by kernel_rfl)
theorem RY:aX Go.Proofs.Tryz.prog 57 7 (fc Go.Proofs.Tryz.prog 57 7 [(.t 2)]) [(.t 2)]:=br (by kernel_rfl)
theorem RB:aX Go.Proofs.Tryz.prog 85 19 (fc Go.Proofs.Tryz.prog 85 19 [(.t 4)]) [(.t 4)]:=br (by kernel_rfl)
theorem Ry:aX Go.Proofs.Tryz.prog 56 9 (fc Go.Proofs.Tryz.prog 56 9 [(.t 4)]) [(.t 4)]:=br (by kernel_rfl)
theorem RX:aX Go.Proofs.Tryz.prog 26 18 (fc Go.Proofs.Tryz.prog 26 18 [(.t 2)]) [(.t 2)]:=br (by kernel_rfl)
def oZ (ys:List Int) (m:Int) (k:Nat):Int:=(ys.drop k).foldl (fun a b=>if b>a then b else a) m
theorem SR {ys:List Int} {m:Int} {k:Nat} (h:k<ys.length):oZ ys m k=oZ ys (if ys[k]'h>m then ys[k]'h else m) (k+1):=by
 unfold oZ;rw [List.drop_eq_getElem_cons h];rfl
theorem SP {ys:List Int} {m:Int} {k:Nat} (h:ys.length≤k):oZ ys m k=m:=by
 unfold oZ;rw [List.drop_of_length_le h];rfl
theorem UL (ys:List Int) (h0:0<ys.length) (hb:ys.length≤8589934592):aL Go.Proofs.Tryz.prog 84 [.rv (.sl 1 (aN ys))] [] [] (.rv (.int .i64 (oZ ys (ys[0]'h0) 1))):=by
 refine bz RG [.rv (.sl 1 (aN ys))] _ (by simp) (by simp [aP,bg,bu,aY,bq,aC.sv,Ln.sv,Nd.sv]) (fun K hK=>?_)
 have hlen:=ai ys
 have e0:decide (((ys.length:Nat):Int)<1)=false:=decide_eq_false (by omega)
 have hx0:=oS h0
 conv in fc _ _ _ _=>reduce
 simp -implicitDefEqProofs only [go_sem,Int.reduceNegSucc]
 repeat' (first | (simp -implicitDefEqProofs only [go_sem,Int.reduceNegSucc,hlen,e0,hx0]) | (with_reducible refine aA ?_) | ((first | refine aj (fun hg=>?_) (fun hg=>?_) | refine ax (fun hg=>?_) (fun hg=>?_) | refine ay (fun hg=>?_) (fun hg=>?_)) <;> try simp -implicitDefEqProofs only [hg,Bool.not_true,Bool.not_false]) | ((with_reducible apply And.intro);focus (first | trivial | omega | decide | (simp -implicitDefEqProofs only [maxLen];omega) | (simp [maxLen,af,ak,an,av,ai,au,aq] <;> omega))) | fail)
 refine fG (ι:=Nat×Int) (fun i=>[(4,.rv (.int .i64 i.1)),(3,.rv (.int .i64 i.2)),(0,.rv (.sl 1 (aN ys)))]) (fun _=>[]) (fun i=>i.1≤ys.length∧oZ ys i.2 i.1=oZ ys (ys[0]'h0) 1) (fun i=>ys.length - i.1) (1,ys[0]'h0) ⟨by dsimp only;omega,rfl⟩ (aU (by simp [lk])) (fun i hi K' hN hX hR=>?_)
 obtain ⟨k,m⟩:=i
 obtain ⟨fH,hk2⟩:=hi
 dsimp only at fH hk2 ⊢
 simp -implicitDefEqProofs only [hlen,go_sem,Int.reduceNegSucc]
 refine aj (fun hg=>?_) (fun hg=>?_)
 ·have aD:k<ys.length:=by simp at hg;omega
  have hx:=oS aD
  repeat' (first | (simp -implicitDefEqProofs only [go_sem,Int.reduceNegSucc,hlen,hx]) | (with_reducible refine aA ?_) | ((first | refine aj (fun hg=>?_) (fun hg=>?_) | refine ax (fun hg=>?_) (fun hg=>?_) | refine ay (fun hg=>?_) (fun hg=>?_)) <;> try simp -implicitDefEqProofs only [hg,Bool.not_true,Bool.not_false]) | ((with_reducible apply And.intro);focus (first | trivial | omega | decide | (simp -implicitDefEqProofs only [maxLen];omega) | (simp [maxLen,af,ak,an,av,ai,au,aq] <;> omega))) | fail)
  rw [cw (by omega)]
  exact hN (k+1,if ys[k]'aD>m then ys[k]'aD else m) _ _ ⟨by dsimp only;omega,by rw [← hk2];exact (SR aD).symm⟩ (by dsimp only;omega) (aU (by simp [lk]))
 ·simp -implicitDefEqProofs only [go_sem,Int.reduceNegSucc]
  refine hX _ _ _ ?_
  repeat' (first | (simp -implicitDefEqProofs only [go_sem,Int.reduceNegSucc]) | (with_reducible refine aA ?_) | ((first | refine aj (fun hg=>?_) (fun hg=>?_) | refine ax (fun hg=>?_) (fun hg=>?_) | refine ay (fun hg=>?_) (fun hg=>?_)) <;> try simp -implicitDefEqProofs only [hg,Bool.not_true,Bool.not_false]) | ((with_reducible apply And.intro);focus (first | trivial | omega | decide | (simp -implicitDefEqProofs only [maxLen];omega) | (simp [maxLen,af,ak,an,av,ai,au,aq] <;> omega))) | fail)
  refine (hK _ _ (bU ?_)).2
  rw [← hk2,SP (by simp at hg;omega)];rfl
def ck (l:List Nd) (k:Nat):List Int:=(List.range l.length).map fun j=>if j<k then (depth l j:Int) else 0
theorem ua (l:List Nd) (k:Nat):(ck l k).length=l.length:=by simp [ck]
theorem yG {l:List Nd} {k:Nat} (hk:k<l.length):(ck l k).set k (depth l k)=ck l (k+1):=by
 refine List.ext_getElem (by simp [ck]) (fun i h1 h2=>?_)
 simp -implicitDefEqProofs only [List.getElem_set,ck,List.getElem_map,List.getElem_range]
 by_cases h:k=i
 ·subst h;simp
 ·rw [if_neg h]
  by_cases hi:i<k
  ·rw [if_pos hi,if_pos (by omega)]
  ·rw [if_neg hi,if_neg (by omega)]
theorem Bl (l:List Nd):ck l 0=List.replicate l.length 0:=by
 refine List.ext_getElem (by simp [ck]) (fun i h1 h2=>?_)
 simp [ck]
theorem Bi {l:List Nd} {k j:Nat} (hj:j<k) (hl:j<l.length):((ck l k).set k 1).getD j 0=depth l j:=by
 rw [List.getD_eq_getElem?_getD,List.getElem?_set_ne (by omega)]
 simp [ck,hl,hj]
theorem Bj {l:List Nd} {k:Nat} (hk:k<l.length):((ck l k).set k 1).set k (depth l k)=ck l (k+1):=by
 rw [List.set_set,yG hk]
def vv (l:List Nd):Int:=oZ (ck l l.length) ((ck l l.length).getD 0 0) 1
theorem VU (l:List Nd) (h0:0<l.length) (hw:WF l l.length) (hb:l.length≤8589934592):aL Go.Proofs.Tryz.prog 55 [.rv (.sl 49 (bp l))] [] [] (.rv (.int .i64 (vv l))):=by
 refine bz Sa [.rv (.sl 49 (bp l))] _ (by simp) (by simp [aP,bg,bu,aY,bq,aC.sv,Ln.sv,Nd.sv]) (fun K hK=>?_)
 have hlen:=an l
 conv in fc _ _ _ _=>reduce
 simp -implicitDefEqProofs only [go_sem,Int.reduceNegSucc]
 repeat' (first | (simp -implicitDefEqProofs only [go_sem,Int.reduceNegSucc,hlen,Af]) | (with_reducible refine aA ?_) | ((first | refine aj (fun hg=>?_) (fun hg=>?_) | refine ax (fun hg=>?_) (fun hg=>?_) | refine ay (fun hg=>?_) (fun hg=>?_)) <;> try simp -implicitDefEqProofs only [hg,Bool.not_true,Bool.not_false]) | ((with_reducible apply And.intro);focus (first | trivial | omega | decide | (simp -implicitDefEqProofs only [maxLen];omega) | (simp [maxLen,af,ak,an,av,ai,au,aq] <;> omega))) | fail)
 refine fG (ι:=Nat) (fun k=>[(11,.rv (.int .i64 k)),(10,.rv (.int .i64 l.length)),(9,.rv (.sl 49 (bp l))),(3,.row 0 0 l.length)]) (fun k=>[some (.row 1 0 (aM (aN (ck l k))))]) (fun k=>k≤l.length) (fun k=>l.length - k) 0 (by simp) (by rw [Bl];exact aU (by simp [lk])) (fun k hk K' hN hX hR=>?_)
 simp -implicitDefEqProofs only [go_sem,Int.reduceNegSucc]
 refine aj (fun hg=>?_) (fun hg=>?_)
 ·have aD:k<l.length:=by simp at hg;omega
  have hx:=iP aD
  have hdl:=ua l k
  have pR:=lq (l:=ck l k) (i:=k) (by omega)
  have lR:=ai (ck l k)
  have nU:((ck l k).set k 1).length=l.length:=by simp [hdl]
  have hpk:=lX aD
  have wu:=cw (k:=k) (by omega)
  have nx:∀ e,gi 0 ⟨e,[some (.row 1 0 (aM (aN (ck l (k+1))))),some (.var ((l[k]'aD).cells.map .rv))]⟩ ⟨[(11,.rv (.int .i64 (k+1:Nat))),(10,.rv (.int .i64 l.length)),(9,.rv (.sl 49 (bp l))),(3,.row 0 0 l.length)],[some (.row 1 0 (aM (aN (ck l (k+1)))))]⟩→K' .normal ⟨e,_⟩:=fun e he=>hN (k+1) _ _ (by omega) (by omega) he
  have hds:=yG aD
  have sO:=Bj aD
  by_cases gQ:0<k
  ·have hgt:decide ((k:Int)>0)=true:=decide_eq_true (by omega)
   obtain ⟨p1,p2⟩:=hw.2 k gQ aD
   obtain ⟨p,hp⟩:∃ p:Nat,aZ l k=p:=⟨(aZ l k).toNat,by omega⟩
   have pS:=lq (l:=(ck l k).set k 1) (i:=p) (by omega)
   have sN:=lq (l:=(ck l k).set k 1) (i:=k) (by omega)
   rw [Bi (by omega) (by omega)] at pS
   have sP:=ai ((ck l k).set k 1)
   have rj:=Bm hw gQ aD
   rw [hp,Int.toNat_natCast] at rj
   have wd:=cw (k:=depth l p) (by have:=uJ (l:=l) p;unfold depth;omega)
   rw [← rj] at wd
   repeat' (first | (simp -implicitDefEqProofs only [go_sem,Int.reduceNegSucc,hgt,hlen,hx,ak,uF,qH,wu,pR,hdl,lR,nA,hpk,hp,pS,sN,nU,sP,wd,sO]) | (with_reducible refine aA ?_) | ((first | refine aj (fun hg=>?_) (fun hg=>?_) | refine ax (fun hg=>?_) (fun hg=>?_) | refine ay (fun hg=>?_) (fun hg=>?_)) <;> try simp -implicitDefEqProofs only [hg,Bool.not_true,Bool.not_false]) | ((with_reducible apply And.intro);focus (first | trivial | omega | decide | (simp -implicitDefEqProofs only [maxLen];omega) | (simp [maxLen,af,ak,an,av,ai,au,aq] <;> omega))) | fail)
   exact nx _ (ud _ (by simp) (by simp [qF,aB,fJ,gx]) (by simp [lk,aG,ga,gU]))
  ·obtain rfl:k=0:=by omega
   have hgt:decide (((0:Nat):Int)>0)=false:=rfl
   rw [Bn] at hds
   repeat' (first | (simp -implicitDefEqProofs only [go_sem,Int.reduceNegSucc,hgt,hlen,hx,ak,uF,qH,wu,pR,hdl,lR,nA]) | (with_reducible refine aA ?_) | ((first | refine aj (fun hg=>?_) (fun hg=>?_) | refine ax (fun hg=>?_) (fun hg=>?_) | refine ay (fun hg=>?_) (fun hg=>?_)) <;> try simp -implicitDefEqProofs only [hg,Bool.not_true,Bool.not_false]) | ((with_reducible apply And.intro);focus (first | trivial | omega | decide | (simp -implicitDefEqProofs only [maxLen];omega) | (simp [maxLen,af,ak,an,av,ai,au,aq] <;> omega))) | fail)
   rw [show (1:Int)=((1:Nat):Int) from rfl,hds]
   exact nx _ (ud _ (by simp) (by simp [qF,aB,fJ,gx]) (by simp [lk,aG,ga,gU]))
 ·have aD:k=l.length:=by simp at hg;omega
  subst aD
  have hpos:0<(ck l l.length).length:=by rw [ua];exact h0
  have hm:=UL (ck l l.length) hpos (by rw [ua];exact hb)
  have hml:=GV (id:=0) (v:=0) (n:=l.length) (bs:=[]) hm (.int _ _) (by simp [aN,ck]) (kM _)
  simp -implicitDefEqProofs only [go_sem,Int.reduceNegSucc]
  refine hX _ _ _ ?_
  have bh:=hml;repeat' (first | (simp -implicitDefEqProofs only [go_sem,Int.reduceNegSucc]) | (with_reducible refine aA ?_) | (refine bS bh ?_ ?_ ?_;(focus (simp [aR,aB] <;> fail));(focus (simp [aV,aQ] <;> fail))) | (refine bV bh ?_ ?_ ?_;(focus (simp [aR,aB] <;> fail));(focus (simp [aV,aQ] <;> fail))) | ((first | refine aj (fun hg=>?_) (fun hg=>?_) | refine ax (fun hg=>?_) (fun hg=>?_) | refine ay (fun hg=>?_) (fun hg=>?_)) <;> try simp -implicitDefEqProofs only [hg,Bool.not_true,Bool.not_false]) | ((with_reducible apply And.intro);focus (first | trivial | omega | decide | (simp -implicitDefEqProofs only [maxLen];omega) | (simp [maxLen,af,ak,an,av,ai,au,aq] <;> omega))) | fail)
  refine (hK _ _ (bU ?_)).2
  rw [vv,List.getD_eq_getElem?_getD,List.getElem?_eq_getElem hpos];rfl
theorem SQ {ys:List Int} {m b:Int} {k:Nat}:oZ ys m k≤b↔m≤b∧∀ x∈ys.drop k,x≤b:=by
 unfold oZ
 induction ys.drop k generalizing m with
 | nil=>simp
 | cons a r ih=>
   rw [List.foldl_cons,ih]
   by_cases h:a>m
   ·rw [if_pos h];simp;intro _;omega
   ·rw [if_neg h];simp;intro _ _;omega
theorem Me (l:List Nd) (h0:0<l.length):decide (vv l>256)=(List.range l.length).any (fun k=>decide (depth l k>256)):=by
 have hg:∀ k,k<l.length→(ck l l.length)[k]?=some (depth l k:Int):=fun k hk=>by simp [ck,hk]
 have:vv l≤256↔∀ k,k<l.length→depth l k≤256:=by
  rw [vv,SQ]
  constructor
  ·rintro ⟨h1,h2⟩ k hk
   rcases Nat.eq_zero_or_pos k with rfl | gQ
   ·rw [List.getD_eq_getElem?_getD,hg 0 hk] at h1;simp at h1;omega
   ·have:=h2 (depth l k) (List.mem_iff_getElem?.2 ⟨k - 1,by rw [List.getElem?_drop,show 1+(k - 1)=k by omega,hg k hk]⟩)
    omega
  ·intro h
   refine ⟨by rw [List.getD_eq_getElem?_getD,hg 0 h0];have:=h 0 h0;simp;omega,fun x hx=>?_⟩
   obtain ⟨i,hi⟩:=List.mem_iff_getElem?.1 hx
   rw [List.getElem?_drop] at hi
   have hlt:1+i<l.length:=by have:=(List.getElem?_eq_some_iff.1 hi).1;rwa [ua] at this
   rw [hg _ hlt] at hi
   have:=h _ hlt
   simp at hi;omega
 rw [Bool.eq_iff_iff]
 simp -implicitDefEqProofs only [decide_eq_true_eq,List.any_eq_true,List.mem_range]
 constructor
 ·intro h
  apply Classical.byContradiction
  intro hn
  have:=this.2 (fun k hk=>by apply Classical.byContradiction;intro h2;exact hn ⟨k,hk,by omega⟩)
  omega
 ·rintro ⟨k,hk,h⟩
  apply Classical.byContradiction
  intro hn
  have:=this.1 (by omega) k hk
  omega
theorem VT (x:Nd):aL Go.Proofs.Tryz.prog 57 [x.sv] [] [] (.rv (.bool (!lD x.s))):=by
 refine bz RY [x.sv] _ (by simp) (by simp [aP,bg,bu,aY,bq,aC.sv,Ln.sv,Nd.sv]) (fun K hK=>?_)
 conv in fc _ _ _ _=>reduce
 simp -implicitDefEqProofs only [go_sem,Int.reduceNegSucc]
 have h48:(x.cells.map SV.rv).take 48=x.s.cells.map SV.rv:=rfl
 have y_2:=VQ x.s;repeat' (first | (simp -implicitDefEqProofs only [go_sem,Int.reduceNegSucc,ak,h48]) | (with_reducible refine aA ?_) | (with_reducible first | refine ag y_2 ?_ | refine ah y_2 ?_) | ((first | refine aj (fun hg=>?_) (fun hg=>?_) | refine ax (fun hg=>?_) (fun hg=>?_) | refine ay (fun hg=>?_) (fun hg=>?_)) <;> try simp -implicitDefEqProofs only [hg,Bool.not_true,Bool.not_false]) | ((with_reducible apply And.intro);focus (first | trivial | omega | decide | (simp -implicitDefEqProofs only [maxLen];omega) | (simp [maxLen,af,ak,an,av,ai,au,aq] <;> omega))) | fail)
 exact (hK _ _ (bU rfl)).2
theorem UD (l:List Nd) (f:Nat) (p:Nd→Bool) (hf:∀ x:Nd,aL Go.Proofs.Tryz.prog f [x.sv] [] [] (.rv (.bool (p x)))) (hb:l.length≤8589934592) :
 aL Go.Proofs.Tryz.prog 85 [.rv (.sl 49 (bp l)),.fn f []] [] [] (.rv (.int .i64 (match l.findIdx? p with | some i=>((i:Nat):Int) | none=>-1))):=by
 refine bz RB [.rv (.sl 49 (bp l)),.fn f []] _ (by simp) (by simp [aP,bg,bu,aY,bq,aC.sv,Ln.sv,Nd.sv]) (fun K hK=>?_)
 have hlen:=an l
 conv in fc _ _ _ _=>reduce
 simp -implicitDefEqProofs only [hlen,go_sem,Int.reduceNegSucc]
 refine fG (ι:=Nat) (fun k=>[(8,.rv (.int .i64 k)),(7,.rv (.int .i64 l.length)),(0,.rv (.sl 49 (bp l))),(1,.fn f [])]) (fun _=>[]) (fun k=>k≤l.length∧∀ j,(h:j<l.length)→j<k→p (l[j]'h)=false) (fun k=>l.length - k) 0 (by simp) (aU (by simp [lk])) (fun k hk K' hN hX hR=>?_)
 obtain ⟨fH,hk2⟩:=hk
 simp -implicitDefEqProofs only [go_sem,Int.reduceNegSucc]
 refine aj (fun hg=>?_) (fun hg=>?_)
 ·have aD:k<l.length:=by simp at hg;omega
  have hx:=iP aD
  have bC:=hf (l[k]'aD);repeat' (first | (simp -implicitDefEqProofs only [go_sem,Int.reduceNegSucc,hlen,hx,ak,qH]) | (with_reducible refine aA ?_) | (with_reducible first | refine ag bC ?_ | refine ah bC ?_) | ((first | refine aj (fun hg=>?_) (fun hg=>?_) | refine ax (fun hg=>?_) (fun hg=>?_) | refine ay (fun hg=>?_) (fun hg=>?_)) <;> try simp -implicitDefEqProofs only [hg,Bool.not_true,Bool.not_false]) | ((with_reducible apply And.intro);focus (first | trivial | omega | decide | (simp -implicitDefEqProofs only [maxLen];omega) | (simp [maxLen,af,ak,an,av,ai,au,aq] <;> omega))) | fail)
  ·refine hR _ _ (hK _ _ (bU ?_)).2
   have:l.findIdx? p=some k:=by
    rw [List.findIdx?_eq_some_iff_getElem]
    exact ⟨aD,by simpa using hg,fun j hj=>by rw [hk2 j (by omega) hj];simp⟩
   rw [this];rfl
  ·rw [cw (by omega)]
   refine hN (k+1) _ _ ⟨by omega,fun j hj hji=>?_⟩ (by omega) (aU (by simp [lk]))
   rcases Nat.lt_or_ge j k with h | h
   ·exact hk2 j hj h
   ·obtain rfl:j=k:=by omega
    simpa using hg
 ·have aD:k=l.length:=by simp at hg;omega
  subst aD
  simp -implicitDefEqProofs only [go_sem,Int.reduceNegSucc]
  refine hX _ _ _ ?_
  repeat' (first | (simp -implicitDefEqProofs only [go_sem,Int.reduceNegSucc]) | (with_reducible refine aA ?_) | ((first | refine aj (fun hg=>?_) (fun hg=>?_) | refine ax (fun hg=>?_) (fun hg=>?_) | refine ay (fun hg=>?_) (fun hg=>?_)) <;> try simp -implicitDefEqProofs only [hg,Bool.not_true,Bool.not_false]) | ((with_reducible apply And.intro);focus (first | trivial | omega | decide | (simp -implicitDefEqProofs only [maxLen];omega) | (simp [maxLen,af,ak,an,av,ai,au,aq] <;> omega))) | fail)
  refine (hK _ _ (bU ?_)).2
  have:l.findIdx? p=none:=by
   rw [List.findIdx?_eq_none_iff]
   intro x hx
   obtain ⟨j,hj,rfl⟩:=List.getElem_of_mem hx
   exact hk2 j hj hj
  rw [this];rfl
theorem Uy (l:List Nd) (f:Nat) (p:Nd→Bool) (hf:∀ x:Nd,aL Go.Proofs.Tryz.prog f [x.sv] [] [] (.rv (.bool (p x)))) (hb:l.length≤8589934592) :
 aL Go.Proofs.Tryz.prog 56 [.rv (.sl 49 (bp l)),.fn f []] [] [] (.rv (.bool (l.any p))):=by
 refine bz Ry [.rv (.sl 49 (bp l)),.fn f []] _ (by simp) (by simp [aP,bg,bu,aY,bq,aC.sv,Ln.sv,Nd.sv]) (fun K hK=>?_)
 conv in fc _ _ _ _=>reduce
 simp -implicitDefEqProofs only [go_sem,Int.reduceNegSucc]
 have bI:=UD l f p hf hb;repeat' (first | (simp -implicitDefEqProofs only [go_sem,Int.reduceNegSucc]) | (with_reducible refine aA ?_) | (with_reducible first | refine ag bI ?_ | refine ah bI ?_) | ((first | refine aj (fun hg=>?_) (fun hg=>?_) | refine ax (fun hg=>?_) (fun hg=>?_) | refine ay (fun hg=>?_) (fun hg=>?_)) <;> try simp -implicitDefEqProofs only [hg,Bool.not_true,Bool.not_false]) | ((with_reducible apply And.intro);focus (first | trivial | omega | decide | (simp -implicitDefEqProofs only [maxLen];omega) | (simp [maxLen,af,ak,an,av,ai,au,aq] <;> omega))) | fail)
 refine (hK _ _ (bU ?_)).2
 have:(l.findIdx? p).isSome=l.any p:=List.findIdx?_isSome
 rw [← this]
 cases l.findIdx? p <;> simp [lk]
theorem Ji (l:List Nd) (hb:l.length≤8589934592):aL Go.Proofs.Tryz.prog 26 [.rv (.sl 49 (bp l))] [] [] (.rv (.int .i64 (kX l))):=by
 refine bz RX [.rv (.sl 49 (bp l))] _ (by simp) (by simp [aP,bg,bu,aY,bq,aC.sv,Ln.sv,Nd.sv]) (fun K hK=>?_)
 have hlen:=an l
 conv in fc _ _ _ _=>reduce
 simp -implicitDefEqProofs only [go_sem,Int.reduceNegSucc]
 cases ht:fW l with
 | false=>
   have hc:=Jj l hb
   rw [ht] at hc
   have bK:=hc;repeat' (first | (simp -implicitDefEqProofs only [go_sem,Int.reduceNegSucc]) | (with_reducible refine aA ?_) | (with_reducible first | refine ag bK ?_ | refine ah bK ?_) | ((first | refine aj (fun hg=>?_) (fun hg=>?_) | refine ax (fun hg=>?_) (fun hg=>?_) | refine ay (fun hg=>?_) (fun hg=>?_)) <;> try simp -implicitDefEqProofs only [hg,Bool.not_true,Bool.not_false]) | ((with_reducible apply And.intro);focus (first | trivial | omega | decide | (simp -implicitDefEqProofs only [maxLen];omega) | (simp [maxLen,af,ak,an,av,ai,au,aq] <;> omega))) | fail)
   exact (hK _ _ (bU (by simp [kX,ht,lk]))).2
 | true=>
   have hc:=Jj l hb
   rw [ht] at hc
   have hs:gF l:=uS.1 (by unfold fW at ht;simp -implicitDefEqProofs only [Bool.and_eq_true] at ht;exact ht.1)
   have hd:=Me l hs.pos
   have bM:=hc;have bN:=VU l hs.pos hs.wf hb;have bR:=Uy l 57 (fun x=>!lD x.s) VT hb;repeat' (first | (simp -implicitDefEqProofs only [go_sem,Int.reduceNegSucc,hlen]) | (with_reducible refine aA ?_) | (with_reducible first | refine ag bM ?_ | refine ah bM ?_) | (with_reducible first | refine ag bN ?_ | refine ah bN ?_) | (with_reducible first | refine ag bR ?_ | refine ah bR ?_) | ((first | refine aj (fun hg=>?_) (fun hg=>?_) | refine ax (fun hg=>?_) (fun hg=>?_) | refine ay (fun hg=>?_) (fun hg=>?_)) <;> try simp -implicitDefEqProofs only [hg,Bool.not_true,Bool.not_false]) | ((with_reducible apply And.intro);focus (first | trivial | omega | decide | (simp -implicitDefEqProofs only [maxLen];omega) | (simp [maxLen,af,ak,an,av,ai,au,aq] <;> omega))) | fail)
   all_goals (refine (hK _ _ (bU ?_)).2;clear hK;(simp_all [kX,lk]) <;>(try (intros;omega)))
end Go.aJ

namespace Go.aJ
open Go
theorem Ql:aX Go.Proofs.Tryz.prog 81 17 (fc Go.Proofs.Tryz.prog 81 17 [(.t 6)]) [(.t 6)]:=br (by kernel_rfl)
theorem Qp:aX Go.Proofs.Tryz.prog 51 41 (fc Go.Proofs.Tryz.prog 51 41 [(.t 2)]) [(.t 2)]:=br (by kernel_rfl)
theorem Qo:aX Go.Proofs.Tryz.prog 23 20 (fc Go.Proofs.Tryz.prog 23 20 [(.t 2)]) [(.t 2)]:=br (by kernel_rfl)
theorem Qn:aX Go.Proofs.Tryz.prog 25 16 (fc Go.Proofs.Tryz.prog 25 16 [(.t 4)]) [(.t 4)]:=br (by kernel_rfl)
theorem Qm:aX Go.Proofs.Tryz.prog 8 29 (fc Go.Proofs.Tryz.prog 8 29 [(.t 2)]) [(.t 2)]:=br (by kernel_rfl)
def ql (l:List Nd) (a:Int) (n:Nat):Bool:=(bw l n).any fun (j:Nat)=>decide ((j:Int)=a)
theorem KG {l:List Nd} {a:Int} {n i:Nat} (h:i<(bw l n).length) (hp:(((bw l n)[i]'h:Nat):Int)=a):ql l a n=true:=by
 unfold ql;rw [List.any_eq_true];exact ⟨_,List.getElem_mem h,by simpa using hp⟩
theorem KH {l:List Nd} {a:Int} {n:Nat} (hn:∀ j,(h:j<(bw l n).length)→(((bw l n)[j]'h:Nat):Int)≠a):ql l a n=false:=by
 unfold ql;rw [List.any_eq_false]
 intro x hx
 obtain ⟨j,hj,rfl⟩:=List.getElem_of_mem hx
 simpa using hn j hj
theorem VA (l:List Nd) (a:Int) (n:Nat) (hw:WF l (n+1)) (hn:n<l.length) (hb:l.length≤8589934592) :
 aL Go.Proofs.Tryz.prog 81 [.rv (.sl 49 (bp l)),.rv (.int .i64 a),.rv (.int .i64 n)] [] [] (.rv (.bool (ql l a n))):=by
 refine bz Ql [.rv (.sl 49 (bp l)),.rv (.int .i64 a),.rv (.int .i64 n)] _ (by simp) (by simp [aP,bg,bu,aY,bq,aC.sv,Ln.sv,Nd.sv]) (fun K hK=>?_)
 have hlen:=an l
 conv in fc _ _ _ _=>reduce
 simp -implicitDefEqProofs only [go_sem,Int.reduceNegSucc]
 refine fG (ι:=Nat) (fun i=>[(2,.rv (.int .i64 (kH (bw l n) i))),(0,.rv (.sl 49 (bp l))),(1,.rv (.int .i64 a))]) (fun _=>[]) (fun i=>i≤(bw l n).length∧∀ j,(h:j<(bw l n).length)→j<i→(((bw l n)[j]'h:Nat):Int)≠a) (fun i=>(bw l n).length - i) 0 (by simp) (by rw [vm];exact aU (by simp [lk])) (fun i hi K' hN hX hR=>?_)
 obtain ⟨hi1,hi2⟩:=hi
 have gl:=uJ (l:=l) n
 simp -implicitDefEqProofs only [go_sem,Int.reduceNegSucc]
 refine aj (fun hg=>?_) (fun hg=>?_)
 ·have fE:i<(bw l n).length:=qS.1 (by simpa using hg)
  have gC:=vl fE
  have hlt:(bw l n)[i]<n+1:=zX (by omega) fE
  have hx:=iP (l:=l) (i:=(bw l n)[i]) (by omega)
  have hpar:=lX (l:=l) (n:=(bw l n)[i]) (by omega)
  have oL:=zS hw n (by omega) i fE
  repeat' (first | (simp -implicitDefEqProofs only [go_sem,Int.reduceNegSucc,hlen,ak,kz,gC,hx,hpar,oL]) | (with_reducible refine aA ?_) | ((first | refine aj (fun hg=>?_) (fun hg=>?_) | refine ax (fun hg=>?_) (fun hg=>?_) | refine ay (fun hg=>?_) (fun hg=>?_)) <;> try simp -implicitDefEqProofs only [hg,Bool.not_true,Bool.not_false]) | ((with_reducible apply And.intro);focus (first | trivial | omega | decide | (simp -implicitDefEqProofs only [maxLen];omega) | (simp [maxLen,af,ak,an,av,ai,au,aq] <;> omega))) | fail)
  ·exact hR _ _ (hK _ _ (bU (by rw [KG fE (by simpa using hg)];rfl))).2
  ·refine hN (i+1) _ _ ⟨by omega,fun j hj hji=>?_⟩ (by omega) (aU (by simp [lk]))
   rcases Nat.lt_or_ge j i with h | h
   ·exact hi2 j hj h
   ·obtain rfl:j=i:=by omega
    simpa using hg
 ·have fE:¬ i<(bw l n).length:=fun h=>by have:=qS.2 h;simp at hg;omega
  simp -implicitDefEqProofs only [go_sem,Int.reduceNegSucc]
  refine hX _ _ _ ?_
  repeat' (first | (simp -implicitDefEqProofs only [go_sem,Int.reduceNegSucc]) | (with_reducible refine aA ?_) | ((first | refine aj (fun hg=>?_) (fun hg=>?_) | refine ax (fun hg=>?_) (fun hg=>?_) | refine ay (fun hg=>?_) (fun hg=>?_)) <;> try simp -implicitDefEqProofs only [hg,Bool.not_true,Bool.not_false]) | ((with_reducible apply And.intro);focus (first | trivial | omega | decide | (simp -implicitDefEqProofs only [maxLen];omega) | (simp [maxLen,af,ak,an,av,ai,au,aq] <;> omega))) | fail)
  exact (hK _ _ (bU (by rw [KH fun j hj=>hi2 j hj (by omega)];rfl))).2
theorem SZ {l:List Nd} {k:Nat} (hk:0<k):jL l k=(!(decide (aZ l k<0) || decide (aZ l k≥k) || !ql l (aZ l k) (k - 1))):=by
 have h1:jL l k=ql l (aZ l k) (k - 1):=by
  have:decide (k=0)=false:=decide_eq_false (by omega)
  simp -implicitDefEqProofs only [jL,this,Bool.false_or,nF,ql,List.findIdx?_isSome]
 rw [h1]
 cases h:ql l (aZ l k) (k - 1) with
 | false=>simp
 | true=>
   rw [← h1] at h
   have gQ:¬ k=0:=by omega
   simp [jL,gQ] at h
   obtain ⟨a,b,_⟩:=DH h
   simp;omega
theorem VE (l:List Nd) (hb:l.length≤8589934592):aL Go.Proofs.Tryz.prog 51 [.rv (.sl 49 (bp l))] [] [] (.rv (.bool (lC l))):=by
 refine bz Qp [.rv (.sl 49 (bp l))] _ (by simp) (by simp [aP,bg,bu,aY,bq,aC.sv,Ln.sv,Nd.sv]) (fun K hK=>?_)
 have bad:∀ e h,lk e 2 = .rv (.bool false)→lC l=false→K .ret ⟨e,h⟩:=fun e h l2 hf=>(hK _ _ (bU (by rw [l2,hf]))).2
 have hlen:=an l
 conv in fc _ _ _ _=>reduce
 simp -implicitDefEqProofs only [hlen,go_sem,Int.reduceNegSucc]
 by_cases pZ:l.length=0
 ·have e0:(((l.length:Nat):Int) == 0)=true:=by simp [pZ]
  repeat' (first | (simp -implicitDefEqProofs only [go_sem,Int.reduceNegSucc,e0,hlen]) | (with_reducible refine aA ?_) | ((first | refine aj (fun hg=>?_) (fun hg=>?_) | refine ax (fun hg=>?_) (fun hg=>?_) | refine ay (fun hg=>?_) (fun hg=>?_)) <;> try simp -implicitDefEqProofs only [hg,Bool.not_true,Bool.not_false]) | ((with_reducible apply And.intro);focus (first | trivial | omega | decide | (simp -implicitDefEqProofs only [maxLen];omega) | (simp [maxLen,af,ak,an,av,ai,au,aq] <;> omega))) | fail)
  exact bad _ _ rfl (by simp [lC,pZ])
 ·have e0:(((l.length:Nat):Int) == 0)=false:=by simp [pZ]
  have hx0:=iP (l:=l) (i:=0) (by omega)
  have kk:=lX (l:=l) (n:=0) (by omega)
  repeat' (first | (simp -implicitDefEqProofs only [go_sem,Int.reduceNegSucc,e0,hlen,hx0,ak,kz,kk]) | (with_reducible refine aA ?_) | ((first | refine aj (fun hg=>?_) (fun hg=>?_) | refine ax (fun hg=>?_) (fun hg=>?_) | refine ay (fun hg=>?_) (fun hg=>?_)) <;> try simp -implicitDefEqProofs only [hg,Bool.not_true,Bool.not_false]) | ((with_reducible apply And.intro);focus (first | trivial | omega | decide | (simp -implicitDefEqProofs only [maxLen];omega) | (simp [maxLen,af,ak,an,av,ai,au,aq] <;> omega))) | fail)
  ·exact bad _ _ rfl (by simp [lC];intro _ h;simp at hg;exact absurd h hg)
  ·have wq:aZ l 0 = -1:=by simpa using hg
   refine fG (ι:=Nat) (fun k=>[(3,.rv (.int .i64 k)),(0,.rv (.sl 49 (bp l)))]) (fun _=>[]) (fun k=>0<k∧k≤l.length∧(∀ j,j<k→jL l j=true)) (fun k=>l.length - k) 1 ⟨by omega,by omega,fun j hj=>by simp [jL];omega⟩ (aU (by simp [lk])) (fun k hk K' hN hX hR=>?_)
   obtain ⟨gQ,fH,hk2⟩:=hk
   have hw:=JH wq hk2
   simp -implicitDefEqProofs only [hlen,go_sem,Int.reduceNegSucc]
   refine aj (fun hg=>?_) (fun hg=>?_)
   ·have aD:k<l.length:=by simp at hg;omega
    have hx:=iP aD
    have hpk:=lX aD
    have wd:=vg gQ (by omega)
    have wu:=cw (k:=k) (by omega)
    have zk:=SZ (l:=l) gQ
    have vo:jL l k=false→lC l=false:=fun h=>by
     rw [Bool.eq_false_iff]
     intro ht
     simp -implicitDefEqProofs only [lC,Bool.and_eq_true,List.all_eq_true,List.mem_range] at ht
     have:=ht.2 k aD
     rw [h] at this;cases this
    have nx:∀ e h,jL l k=true→gi 0 ⟨e,h⟩ ⟨[(3,.rv (.int .i64 (k+1:Nat))),(0,.rv (.sl 49 (bp l)))],[]⟩→K' .normal ⟨e,h⟩:=fun e h h1 he=>hN (k+1) _ _ ⟨by omega,by omega,fun j hj=>by
     rcases Nat.lt_or_ge j k with h | h
     ·exact hk2 j h
     ·obtain rfl:j=k:=by omega
      exact h1⟩ (by omega) he
    have hwk:WF l (k - 1+1):=by rw [show k - 1+1=k by omega];exact hw
    have bh:=VA l (aZ l k) (k - 1) hwk (by omega) hb;repeat' (first | (simp -implicitDefEqProofs only [go_sem,Int.reduceNegSucc,hlen,hx,hpk,ak,kz,wd,wu]) | (with_reducible refine aA ?_) | (with_reducible first | refine ag bh ?_ | refine ah bh ?_) | ((first | refine aj (fun hg=>?_) (fun hg=>?_) | refine ax (fun hg=>?_) (fun hg=>?_) | refine ay (fun hg=>?_) (fun hg=>?_)) <;> try simp -implicitDefEqProofs only [hg,Bool.not_true,Bool.not_false]) | ((with_reducible apply And.intro);focus (first | trivial | omega | decide | (simp -implicitDefEqProofs only [maxLen];omega) | (simp [maxLen,af,ak,an,av,ai,au,aq] <;> omega))) | fail)
    all_goals first
     | (refine hR _ _ (bad _ _ rfl (vo ?_));rw [zk];clear zk vo nx hK hN hX hR bad;simp_all;done)
     | (refine nx _ _ ?_ (aU (by simp [lk]));rw [zk];clear zk vo nx hK hN hX hR bad;(simp_all) <;> omega)
   ·have aD:k=l.length:=by simp at hg;omega
    subst aD
    simp -implicitDefEqProofs only [go_sem,Int.reduceNegSucc]
    refine hX _ _ _ ?_
    repeat' (first | (simp -implicitDefEqProofs only [go_sem,Int.reduceNegSucc]) | (with_reducible refine aA ?_) | ((first | refine aj (fun hg=>?_) (fun hg=>?_) | refine ax (fun hg=>?_) (fun hg=>?_) | refine ay (fun hg=>?_) (fun hg=>?_)) <;> try simp -implicitDefEqProofs only [hg,Bool.not_true,Bool.not_false]) | ((with_reducible apply And.intro);focus (first | trivial | omega | decide | (simp -implicitDefEqProofs only [maxLen];omega) | (simp [maxLen,af,ak,an,av,ai,au,aq] <;> omega))) | fail)
    refine (hK _ _ (bU ?_)).2
    have hs:lC l=true:=by
     simp -implicitDefEqProofs only [lC,Bool.and_eq_true,decide_eq_true_eq,List.all_eq_true,List.mem_range]
     exact ⟨⟨by omega,wq⟩,hk2⟩
    rw [hs];rfl
theorem VD (l:List Nd) (hb:l.length≤8589934592):aL Go.Proofs.Tryz.prog 23 [.rv (.sl 49 (bp l))] [] [] (.rv (.bool (fW l))):=by
 refine bz Qo [.rv (.sl 49 (bp l))] _ (by simp) (by simp [aP,bg,bu,aY,bq,aC.sv,Ln.sv,Nd.sv]) (fun K hK=>?_)
 have bad:∀ e h,lk e 2 = .rv (.bool false)→fW l=false→K .ret ⟨e,h⟩:=fun e h l2 hf=>(hK _ _ (bU (by rw [l2,hf]))).2
 have hlen:=an l
 conv in fc _ _ _ _=>reduce
 simp -implicitDefEqProofs only [go_sem,Int.reduceNegSucc]
 have y_2:=VE l hb;repeat' (first | (simp -implicitDefEqProofs only [go_sem,Int.reduceNegSucc]) | (with_reducible refine aA ?_) | (with_reducible first | refine ag y_2 ?_ | refine ah y_2 ?_) | ((first | refine aj (fun hg=>?_) (fun hg=>?_) | refine ax (fun hg=>?_) (fun hg=>?_) | refine ay (fun hg=>?_) (fun hg=>?_)) <;> try simp -implicitDefEqProofs only [hg,Bool.not_true,Bool.not_false]) | ((with_reducible apply And.intro);focus (first | trivial | omega | decide | (simp -implicitDefEqProofs only [maxLen];omega) | (simp [maxLen,af,ak,an,av,ai,au,aq] <;> omega))) | fail)
 ·exact bad _ _ rfl (by simp at hg;simp [fW,hg])
 ·have hs:lC l=true:=by simpa using hg
  simp -implicitDefEqProofs only [hlen,go_sem,Int.reduceNegSucc]
  refine fG (ι:=Nat) (fun k=>[(9,.rv (.int .i64 k)),(8,.rv (.int .i64 l.length)),(0,.rv (.sl 49 (bp l)))]) (fun _=>[]) (fun k=>k≤l.length∧((l.drop k).all fun x=>jb x.s)=l.all fun x=>jb x.s) (fun k=>l.length - k) 0 (by simp) (aU (by simp [lk])) (fun k hk K' hN hX hR=>?_)
  obtain ⟨fH,gq⟩:=hk
  simp -implicitDefEqProofs only [go_sem,Int.reduceNegSucc]
  refine aj (fun hg=>?_) (fun hg=>?_)
  ·have aD:k<l.length:=by simp at hg;omega
   have hx:=iP aD
   have wu:=cw (k:=k) (by omega)
   have bC:=Vy (l[k]'aD).s;repeat' (first | (simp -implicitDefEqProofs only [go_sem,Int.reduceNegSucc,hlen,hx,ak,kz,wW,wu]) | (with_reducible refine aA ?_) | (with_reducible first | refine ag bC ?_ | refine ah bC ?_) | ((first | refine aj (fun hg=>?_) (fun hg=>?_) | refine ax (fun hg=>?_) (fun hg=>?_) | refine ay (fun hg=>?_) (fun hg=>?_)) <;> try simp -implicitDefEqProofs only [hg,Bool.not_true,Bool.not_false]) | ((with_reducible apply And.intro);focus (first | trivial | omega | decide | (simp -implicitDefEqProofs only [maxLen];omega) | (simp [maxLen,af,ak,an,av,ai,au,aq] <;> omega))) | fail)
   ·refine hR _ _ (bad _ _ rfl ?_)
    have:(l.all fun x=>jb x.s)=false:=pL aD gq (by simpa using hg)
    simp -implicitDefEqProofs only [fW,this,Bool.and_false]
   ·exact hN (k+1) _ _ ⟨by omega,pM aD gq (by simpa using hg)⟩ (by omega) (aU (by simp [lk]))
  ·have aD:k=l.length:=by simp at hg;omega
   subst aD
   have hall:=pK (Nat.le_refl _) gq
   simp -implicitDefEqProofs only [go_sem,Int.reduceNegSucc]
   refine hX _ _ _ ?_
   repeat' (first | (simp -implicitDefEqProofs only [go_sem,Int.reduceNegSucc]) | (with_reducible refine aA ?_) | ((first | refine aj (fun hg=>?_) (fun hg=>?_) | refine ax (fun hg=>?_) (fun hg=>?_) | refine ay (fun hg=>?_) (fun hg=>?_)) <;> try simp -implicitDefEqProofs only [hg,Bool.not_true,Bool.not_false]) | ((with_reducible apply And.intro);focus (first | trivial | omega | decide | (simp -implicitDefEqProofs only [maxLen];omega) | (simp [maxLen,af,ak,an,av,ai,au,aq] <;> omega))) | fail)
   exact (hK _ _ (bU (by rw [fW,hs,hall];rfl))).2
theorem VC (l:List Nd) (n:Nat) (hw:WF l (n+1)) (hn:n<l.length) (hb:l.length≤8589934592) :
 aL Go.Proofs.Tryz.prog 25 [.rv (.sl 49 (bp l)),.rv (.int .i64 n)] [] [] (.rv (.int .i64 (depth l n))):=by
 refine bz Qn [.rv (.sl 49 (bp l)),.rv (.int .i64 n)] _ (by simp) (by simp [aP,bg,bu,aY,bq,aC.sv,Ln.sv,Nd.sv]) (fun K hK=>?_)
 have hlen:=an l
 conv in fc _ _ _ _=>reduce
 simp -implicitDefEqProofs only [go_sem,Int.reduceNegSucc]
 refine fG (ι:=Nat) (fun i=>[(1,.rv (.int .i64 (kH (bw l n) i))),(0,.rv (.sl 49 (bp l))),(5,.rv (.int .i64 i))]) (fun _=>[]) (fun i=>i≤(bw l n).length) (fun i=>(bw l n).length - i) 0 (by simp) (by rw [vm];exact aU (by simp [lk])) (fun i hi1 K' hN hX hR=>?_)
 have gl:=uJ (l:=l) n
 simp -implicitDefEqProofs only [go_sem,Int.reduceNegSucc]
 refine aj (fun hg=>?_) (fun hg=>?_)
 ·have fE:i<(bw l n).length:=qS.1 (by simpa using hg)
  have gC:=vl fE
  have hlt:(bw l n)[i]<n+1:=zX (by omega) fE
  have hx:=iP (l:=l) (i:=(bw l n)[i]) (by omega)
  have hpar:=lX (l:=l) (n:=(bw l n)[i]) (by omega)
  have oL:=zS hw n (by omega) i fE
  have wu:=cw (k:=i) (by omega)
  repeat' (first | (simp -implicitDefEqProofs only [go_sem,Int.reduceNegSucc,hlen,ak,kz,gC,hx,hpar,oL,wu]) | (with_reducible refine aA ?_) | ((first | refine aj (fun hg=>?_) (fun hg=>?_) | refine ax (fun hg=>?_) (fun hg=>?_) | refine ay (fun hg=>?_) (fun hg=>?_)) <;> try simp -implicitDefEqProofs only [hg,Bool.not_true,Bool.not_false]) | ((with_reducible apply And.intro);focus (first | trivial | omega | decide | (simp -implicitDefEqProofs only [maxLen];omega) | (simp [maxLen,af,ak,an,av,ai,au,aq] <;> omega))) | fail)
  exact hN (i+1) _ _ (by omega) (by omega) (aU (by simp [lk]))
 ·have fE:¬ i<(bw l n).length:=fun h=>by have:=qS.2 h;simp at hg;omega
  have:i=(bw l n).length:=by omega
  subst this
  simp -implicitDefEqProofs only [go_sem,Int.reduceNegSucc]
  refine hX _ _ _ ?_
  repeat' (first | (simp -implicitDefEqProofs only [go_sem,Int.reduceNegSucc]) | (with_reducible refine aA ?_) | ((first | refine aj (fun hg=>?_) (fun hg=>?_) | refine ax (fun hg=>?_) (fun hg=>?_) | refine ay (fun hg=>?_) (fun hg=>?_)) <;> try simp -implicitDefEqProofs only [hg,Bool.not_true,Bool.not_false]) | ((with_reducible apply And.intro);focus (first | trivial | omega | decide | (simp -implicitDefEqProofs only [maxLen];omega) | (simp [maxLen,af,ak,an,av,ai,au,aq] <;> omega))) | fail)
  exact (hK _ _ (bU rfl)).2
theorem VB (l:List Nd) (hb:l.length≤8589934592):aL Go.Proofs.Tryz.prog 8 [.rv (.sl 49 (bp l))] [] [] (.rv (.int .i64 (kX l))):=by
 refine bz Qm [.rv (.sl 49 (bp l))] _ (by simp) (by simp [aP,bg,bu,aY,bq,aC.sv,Ln.sv,Nd.sv]) (fun K hK=>?_)
 have hlen:=an l
 conv in fc _ _ _ _=>reduce
 simp -implicitDefEqProofs only [go_sem,Int.reduceNegSucc]
 have bI:=VD l hb;repeat' (first | (simp -implicitDefEqProofs only [go_sem,Int.reduceNegSucc]) | (with_reducible refine aA ?_) | (with_reducible first | refine ag bI ?_ | refine ah bI ?_) | ((first | refine aj (fun hg=>?_) (fun hg=>?_) | refine ax (fun hg=>?_) (fun hg=>?_) | refine ay (fun hg=>?_) (fun hg=>?_)) <;> try simp -implicitDefEqProofs only [hg,Bool.not_true,Bool.not_false]) | ((with_reducible apply And.intro);focus (first | trivial | omega | decide | (simp -implicitDefEqProofs only [maxLen];omega) | (simp [maxLen,af,ak,an,av,ai,au,aq] <;> omega))) | fail)
 ·exact (hK _ _ (bU (by simp at hg;simp [kX,hg,lk]))).2
 ·have ht:fW l=true:=by simpa using hg
  have hs:gF l:=uS.1 (by unfold fW at ht;simp -implicitDefEqProofs only [Bool.and_eq_true] at ht;exact ht.1)
  simp -implicitDefEqProofs only [hlen,go_sem,Int.reduceNegSucc]
  refine fG (ι:=Nat) (fun k=>[(9,.rv (.int .i64 k)),(8,.rv (.int .i64 l.length)),(0,.rv (.sl 49 (bp l)))]) (fun _=>[]) (fun k=>k≤l.length∧∀ j,(h:j<l.length)→j<k→lD (l[j]'h).s=true∧depth l j≤256) (fun k=>l.length - k) 0 (by simp) (aU (by simp [lk])) (fun k hk K' hN hX hR=>?_)
  obtain ⟨fH,gq⟩:=hk
  simp -implicitDefEqProofs only [go_sem,Int.reduceNegSucc]
  refine aj (fun hg=>?_) (fun hg=>?_)
  ·have aD:k<l.length:=by simp at hg;omega
   have hx:=iP aD
   have wu:=cw (k:=k) (by omega)
   have bad:∀ e h,lk e 2 = .rv (.int .i64 3)→(lD (l[k]'aD).s=false∨depth l k>256)→K' .ret ⟨e,h⟩:=fun e h l2 hf=>hR _ _ (hK _ _ (bU (by
    rw [l2];unfold kX
    rw [if_neg (by rw [ht];simp),if_pos]
    simp -implicitDefEqProofs only [Bool.or_eq_true,List.any_eq_true,List.mem_range,decide_eq_true_eq,Bool.not_eq_true']
    rcases hf with h | h
    ·exact .inr ⟨_,List.getElem_mem aD,h⟩
    ·exact .inl (.inr ⟨k,aD,h⟩)))).2
   have nx:∀ e h,lD (l[k]'aD).s=true→depth l k≤256→gi 0 ⟨e,h⟩ ⟨[(9,.rv (.int .i64 (k+1:Nat))),(8,.rv (.int .i64 l.length)),(0,.rv (.sl 49 (bp l)))],[]⟩→K' .normal ⟨e,h⟩:=fun e h h1 h2 he=>hN (k+1) _ _ ⟨by omega,fun j hj hji=>by
    rcases Nat.lt_or_ge j k with h | h
    ·exact gq j hj h
    ·obtain rfl:j=k:=by omega
     exact ⟨h1,h2⟩⟩ (by omega) he
   have bK:=Vz (l[k]'aD).s;have bM:=VC l k (hs.wf.mono (by omega)) aD hb;repeat' (first | (simp -implicitDefEqProofs only [go_sem,Int.reduceNegSucc,hlen,hx,ak,kz,wW,wu]) | (with_reducible refine aA ?_) | (with_reducible first | refine ag bK ?_ | refine ah bK ?_) | (with_reducible first | refine ag bM ?_ | refine ah bM ?_) | ((first | refine aj (fun hg=>?_) (fun hg=>?_) | refine ax (fun hg=>?_) (fun hg=>?_) | refine ay (fun hg=>?_) (fun hg=>?_)) <;> try simp -implicitDefEqProofs only [hg,Bool.not_true,Bool.not_false]) | ((with_reducible apply And.intro);focus (first | trivial | omega | decide | (simp -implicitDefEqProofs only [maxLen];omega) | (simp [maxLen,af,ak,an,av,ai,au,aq] <;> omega))) | fail)
   all_goals first
    | (refine bad _ _ rfl ?_;clear bad nx hK hN hX hR;(simp_all) <;> omega)
    | (refine nx _ _ ?_ ?_ (aU (by simp [lk])) <;> clear bad nx hK hN hX hR <;>(simp_all) <;> omega)
  ·have aD:k=l.length:=by simp at hg;omega
   subst aD
   simp -implicitDefEqProofs only [go_sem,Int.reduceNegSucc]
   refine hX _ _ _ ?_
   have hno:((List.range l.length).any (fun k=>decide (depth l k>256)) || l.any fun x=>!lD x.s)=false:=by
    rw [Bool.or_eq_false_iff,List.any_eq_false,List.any_eq_false]
    refine ⟨fun k hk=>?_,fun x hx=>?_⟩
    ·have:=(gq k (by simpa using hk) (by simpa using hk)).2;simp;omega
    ·obtain ⟨j,hj,rfl⟩:=List.getElem_of_mem hx
     simp [(gq j hj hj).1]
   have fin:kX l=if (l.length:Int)>65535 then 3 else 0:=by
    unfold kX
    rw [if_neg (by rw [ht];simp),Bool.or_assoc,hno]
    by_cases h:l.length>65535
    ·have:(l.length:Int)>65535:=by omega
     simp [h,this]
    ·have:¬ (l.length:Int)>65535:=by omega
     simp [h,this]
   repeat' (first | (simp -implicitDefEqProofs only [go_sem,Int.reduceNegSucc,hlen]) | (with_reducible refine aA ?_) | ((first | refine aj (fun hg=>?_) (fun hg=>?_) | refine ax (fun hg=>?_) (fun hg=>?_) | refine ay (fun hg=>?_) (fun hg=>?_)) <;> try simp -implicitDefEqProofs only [hg,Bool.not_true,Bool.not_false]) | ((with_reducible apply And.intro);focus (first | trivial | omega | decide | (simp -implicitDefEqProofs only [maxLen];omega) | (simp [maxLen,af,ak,an,av,ai,au,aq] <;> omega))) | fail)
   all_goals (refine (hK _ _ (bU ?_)).2;rw [fin];clear fin hK hN hX hR;(simp_all [lk]) <;> omega)
end Go.aJ

namespace Go.aJ
open Go
theorem GK:aX Go.Proofs.Tryz.prog 27 8 (fc Go.Proofs.Tryz.prog 27 8 [(.t 2)]) [(.t 2)]:=br (by kernel_rfl)
theorem GL:aX Go.Proofs.Tryz.prog 120 8 (fc Go.Proofs.Tryz.prog 120 8 [(.t 2)]) [(.t 2)]:=br (by kernel_rfl)
theorem IG (xs:List (List RV)) (m:Nat) (hb:xs.length≤8589934592):aL Go.Proofs.Tryz.prog 27 [.rv (.sl 49 xs)] [] [(m,.row 49 1 (aM xs))] (.row m 1 xs.length):=by
 have nz:∀ r:RV,(r = .mT∧xs=[])∨(r = .sl 49 xs∧0<xs.length)→aL Go.Proofs.Tryz.prog 27 [.rv r] [] [(m,.row 49 1 (aM xs))] (.row m 1 xs.length):=fun r hr=>by
  refine mF GK [] [] [] [.rv r] [.rv r] _ _ (by simp) (by simp [aP,mb,lN,aY,bg,oz,bq,oA,oy,iB,oo,bQ]) rfl (by simp [bQ]) (by simp [iB]) (fun K hK=>?_)
  conv in fc _ _ _ _=>reduce
  simp -implicitDefEqProofs only [go_sem,Int.reduceNegSucc]
  rcases hr with ⟨rfl,rfl⟩ | ⟨rfl,h0⟩
  ·repeat' (first | (simp -implicitDefEqProofs only [go_sem,Int.reduceNegSucc]) | (with_reducible refine aA ?_) | ((first | refine aj (fun hg=>?_) (fun hg=>?_) | refine ax (fun hg=>?_) (fun hg=>?_) | refine ay (fun hg=>?_) (fun hg=>?_)) <;> try simp -implicitDefEqProofs only [hg,Bool.not_true,Bool.not_false]) | ((with_reducible apply And.intro);focus (first | trivial | omega | decide | (simp -implicitDefEqProofs only [maxLen];omega) | (simp [maxLen,af,ak,an,av,ai,au,aq] <;> omega))) | fail)
   refine (hK _ _ _ _ [some m] (gk _ _) ?_).2
   simp [gw,bQ,newL,gB,gn,aT,aS,lk,bf,fJ,fU,fN,gL,gK,aB,gx,bl,aG,ga,gz,gS,aH,gR,aF,gd,fL]
   exact ⟨by simp [aM],fun i x y hx=>by simp at hx⟩
  ·repeat' (first | (simp -implicitDefEqProofs only [go_sem,Int.reduceNegSucc,Dq]) | (with_reducible refine aA ?_) | ((first | refine aj (fun hg=>?_) (fun hg=>?_) | refine ax (fun hg=>?_) (fun hg=>?_) | refine ay (fun hg=>?_) (fun hg=>?_)) <;> try simp -implicitDefEqProofs only [hg,Bool.not_true,Bool.not_false]) | ((with_reducible apply And.intro);focus (first | trivial | omega | decide | (simp -implicitDefEqProofs only [maxLen];omega) | (simp [maxLen,af,ak,an,av,ai,au,aq] <;> omega))) | fail)
   refine (hK _ _ _ _ [some m] (gk _ _) ?_).2
   simp [gw,bQ,newL,gB,gn,aT,aS,lk,bf,fJ,fU,fN,gL,gK,aB,gx,bl,aG,ga,gz,gS,aH,gR,aF,gd,fL]
 by_cases h0:xs=[]
 ·subst h0
  refine @El _ _ _ [] [] _ _ _ ?_ (nz _ (.inl ⟨rfl,rfl⟩))
  show aL _ _ [.rv .cv] _ _ _
  refine mF GK [] [] [] [.rv .cv] [.rv .cv] _ _ (by simp) (by simp [aP,mb,lN,aY,bg,oz,bq,oA,oy,iB,oo,bQ]) rfl (by simp [bQ]) (by simp [iB]) (fun K hK=>?_)
  conv in fc _ _ _ _=>reduce
  simp -implicitDefEqProofs only [go_sem,Int.reduceNegSucc]
  repeat' (first | (simp -implicitDefEqProofs only [go_sem,Int.reduceNegSucc]) | (with_reducible refine aA ?_) | ((first | refine aj (fun hg=>?_) (fun hg=>?_) | refine ax (fun hg=>?_) (fun hg=>?_) | refine ay (fun hg=>?_) (fun hg=>?_)) <;> try simp -implicitDefEqProofs only [hg,Bool.not_true,Bool.not_false]) | ((with_reducible apply And.intro);focus (first | trivial | omega | decide | (simp -implicitDefEqProofs only [maxLen];omega) | (simp [maxLen,af,ak,an,av,ai,au,aq] <;> omega))) | fail)
  refine (hK _ _ _ _ [some m] (pP 2 49 1 rfl) ?_).2
  simp [gw,bQ,newL,gB,gn,aT,aS,lk,bf,fJ,fU,fN,gL,gK,aB,gx,bl,aG,ga,gz,gS,aH,gR,aF,gd,fL]
  exact ⟨by simp [aM],fun i x y hx=>by simp at hx⟩
 ·exact nz _ (.inr ⟨rfl,List.length_pos_iff.2 h0⟩)
theorem Ux (xs:List (List RV)) (m:Nat) (hb:xs.length≤8589934592):aL Go.Proofs.Tryz.prog 120 [.rv (.sl 1 xs)] [] [(m,.row 1 1 (aM xs))] (.row m 1 xs.length):=by
 have nz:∀ r:RV,(r = .mT∧xs=[])∨(r = .sl 1 xs∧0<xs.length)→aL Go.Proofs.Tryz.prog 120 [.rv r] [] [(m,.row 1 1 (aM xs))] (.row m 1 xs.length):=fun r hr=>by
  refine mF GL [] [] [] [.rv r] [.rv r] _ _ (by simp) (by simp [aP,mb,lN,aY,bg,oz,bq,oA,oy,iB,oo,bQ]) rfl (by simp [bQ]) (by simp [iB]) (fun K hK=>?_)
  conv in fc _ _ _ _=>reduce
  simp -implicitDefEqProofs only [go_sem,Int.reduceNegSucc]
  rcases hr with ⟨rfl,rfl⟩ | ⟨rfl,h0⟩
  ·repeat' (first | (simp -implicitDefEqProofs only [go_sem,Int.reduceNegSucc]) | (with_reducible refine aA ?_) | ((first | refine aj (fun hg=>?_) (fun hg=>?_) | refine ax (fun hg=>?_) (fun hg=>?_) | refine ay (fun hg=>?_) (fun hg=>?_)) <;> try simp -implicitDefEqProofs only [hg,Bool.not_true,Bool.not_false]) | ((with_reducible apply And.intro);focus (first | trivial | omega | decide | (simp -implicitDefEqProofs only [maxLen];omega) | (simp [maxLen,af,ak,an,av,ai,au,aq] <;> omega))) | fail)
   refine (hK _ _ _ _ [some m] (gk _ _) ?_).2
   simp [gw,bQ,newL,gB,gn,aT,aS,lk,bf,fJ,fU,fN,gL,gK,aB,gx,bl,aG,ga,gz,gS,aH,gR,aF,gd,fL]
   exact ⟨by simp [aM],fun i x y hx=>by simp at hx⟩
  ·repeat' (first | (simp -implicitDefEqProofs only [go_sem,Int.reduceNegSucc,Dq]) | (with_reducible refine aA ?_) | ((first | refine aj (fun hg=>?_) (fun hg=>?_) | refine ax (fun hg=>?_) (fun hg=>?_) | refine ay (fun hg=>?_) (fun hg=>?_)) <;> try simp -implicitDefEqProofs only [hg,Bool.not_true,Bool.not_false]) | ((with_reducible apply And.intro);focus (first | trivial | omega | decide | (simp -implicitDefEqProofs only [maxLen];omega) | (simp [maxLen,af,ak,an,av,ai,au,aq] <;> omega))) | fail)
   refine (hK _ _ _ _ [some m] (gk _ _) ?_).2
   simp [gw,bQ,newL,gB,gn,aT,aS,lk,bf,fJ,fU,fN,gL,gK,aB,gx,bl,aG,ga,gz,gS,aH,gR,aF,gd,fL]
 by_cases h0:xs=[]
 ·subst h0
  refine @El _ _ _ [] [] _ _ _ ?_ (nz _ (.inl ⟨rfl,rfl⟩))
  show aL _ _ [.rv .cv] _ _ _
  refine mF GL [] [] [] [.rv .cv] [.rv .cv] _ _ (by simp) (by simp [aP,mb,lN,aY,bg,oz,bq,oA,oy,iB,oo,bQ]) rfl (by simp [bQ]) (by simp [iB]) (fun K hK=>?_)
  conv in fc _ _ _ _=>reduce
  simp -implicitDefEqProofs only [go_sem,Int.reduceNegSucc]
  repeat' (first | (simp -implicitDefEqProofs only [go_sem,Int.reduceNegSucc]) | (with_reducible refine aA ?_) | ((first | refine aj (fun hg=>?_) (fun hg=>?_) | refine ax (fun hg=>?_) (fun hg=>?_) | refine ay (fun hg=>?_) (fun hg=>?_)) <;> try simp -implicitDefEqProofs only [hg,Bool.not_true,Bool.not_false]) | ((with_reducible apply And.intro);focus (first | trivial | omega | decide | (simp -implicitDefEqProofs only [maxLen];omega) | (simp [maxLen,af,ak,an,av,ai,au,aq] <;> omega))) | fail)
  refine (hK _ _ _ _ [some m] (pP 2 1 1 rfl) ?_).2
  simp [gw,bQ,newL,gB,gn,aT,aS,lk,bf,fJ,fU,fN,gL,gK,aB,gx,bl,aG,ga,gz,gS,aH,gR,aF,gd,fL]
  exact ⟨by simp [aM],fun i x y hx=>by simp at hx⟩
 ·exact nz _ (.inr ⟨rfl,List.length_pos_iff.2 h0⟩)
end Go.aJ

namespace Go.aJ
open Go
theorem GJ:aX Go.Proofs.Tryz.prog 9 157 (fc Go.Proofs.Tryz.prog 9 157 [(.t 2),(.t 3)]) [(.t 2),(.t 3)]:=br (by kernel_rfl)
def bt (l:List Nat):List Int:=l.map fun (n:Nat)=>(n:Int)
def jF (bs:List Bool):List (List RV):=bs.map fun b=>[.bool b]
theorem ye (bs:List Bool):(jF bs).length=bs.length:=by simp [jF]
theorem tQ {bs:List Bool} {i:Nat} (h:i<bs.length):(jF bs)[i]?.getD []=[.bool (bs.getD i false)]:=by simp [jF,h]
theorem uP {ys:List Bool} {k:Nat} {v:Bool}:(aM (jF ys)).set k [.rv (.bool v)]=aM (jF (ys.set k v)):=by simp [aM,jF,List.map_set]
theorem IA {n:Nat}:List.replicate n [SV.rv (.bool false)]=aM (jF (List.replicate n false)):=by simp [aM,jF]
theorem Ei (l:List Bool):∀ x∈jF l,∀ r∈x,r.one=true:=by
 intro x hx r hr
 obtain ⟨n,_,rfl⟩:=List.mem_map.1 hx
 simp at hr;rw [hr];rfl
def fZ (l:List Nd) (k:Nat):List Bool:=(List.range l.length).map fun j=>if j<k then lz l j else false
theorem Hq (l:List Nd) (k:Nat):(fZ l k).length=l.length:=by simp [fZ]
theorem Hr (l:List Nd):fZ l 0=List.replicate l.length false:=by
 refine List.ext_getElem (by simp [fZ]) (fun i h1 h2=>?_)
 simp [fZ]
theorem zF {l:List Nd} {k:Nat} (hk:k<l.length):(fZ l k).set k (lz l k)=fZ l (k+1):=by
 refine List.ext_getElem (by simp [fZ]) (fun i h1 h2=>?_)
 simp -implicitDefEqProofs only [List.getElem_set,fZ,List.getElem_map,List.getElem_range]
 by_cases h:k=i
 ·subst h;simp
 ·rw [if_neg h]
  by_cases hi:i<k
  ·rw [if_pos hi,if_pos (by omega)]
  ·rw [if_neg hi,if_neg (by omega)]
theorem Ho {l:List Nd} {k j:Nat} {b:Bool} (hj:j<k) (hl:j<l.length):((fZ l k).set k b).getD j false=lz l j:=by
 rw [List.getD_eq_getElem?_getD,List.getElem?_set_ne (by omega)]
 simp [fZ,hl,hj]
def ji (l:List Nd) (k:Nat):List (List SV):=(List.range l.length).map fun p=>[.row (p+6) (bB l k p).length (bB l k p).length]
def iY (l:List Nd) (k:Nat):List (Option HB):=(List.range l.length).map fun p=>some (.row 1 (bB l k p).length (aM (aN (bt (bB l k p)))))
theorem wN (l:List Nd) (k:Nat):(ji l k).length=l.length:=by simp [ji]
theorem nV (l:List Nd) (k:Nat):(iY l k).length=l.length:=by simp [iY]
theorem GC {l:List Nd} {k p:Nat} (hp:p<l.length):(ji l k)[p]?.getD []=[.row (p+6) (bB l k p).length (bB l k p).length]:=by simp [ji,hp]
theorem CB {l:List Nd} {k p:Nat} {C:List (Option HB)} (hp:p<l.length):aB (iY l k++C) p=some (.row 1 (bB l k p).length (aM (aN (bt (bB l k p))))):=by
 unfold aB
 rw [List.getElem?_append_left (by rw [nV];exact hp)]
 simp [iY,hp]
theorem Cz {l:List Nd} {k:Nat} {x:Option HB} {C:List (Option HB)}:aB (iY l k++x::C) l.length=x:=by
 unfold aB
 rw [List.getElem?_append_right (by rw [nV];exact Nat.le_refl _),nV]
 simp
theorem Gy {l:List Nd} {k:Nat} {x y:Option HB} {C:List (Option HB)}:aB (iY l k++x::y::C) (l.length+1)=y:=by
 unfold aB
 rw [List.getElem?_append_right (by rw [nV];omega),nV,show l.length+1 - l.length=1 by omega]
 simp
theorem GA {l:List Nd} {k p:Nat} {hb:Option HB} {x y:Option HB} {C:List (Option HB)}:aB ((iY l k).set p hb++x::C) l.length=x:=by
 unfold aB
 rw [List.getElem?_append_right (by rw [List.length_set,nV];exact Nat.le_refl _),List.length_set,nV]
 simp
theorem CD {l:List Nd} {k:Nat} {x y:Option HB} {C:List (Option HB)}:(iY l k++x::C).set l.length y=iY l k++y::C:=by
 rw [List.set_append_right _ _ (by rw [nV];exact Nat.le_refl _),nV,Nat.sub_self];rfl
theorem PJ {l:List Nd} {k p:Nat} {y:Option HB} {C:List (Option HB)} (hp:p<l.length):(iY l k++C).set p y=(iY l k).set p y++C:=by
 rw [List.set_append_left _ _ (by rw [nV];exact hp)]
theorem PL (l:List Nd):iY l 0=jf l.length 1:=by
 refine List.ext_getElem (by simp [iY,jf]) (fun i h1 h2=>?_)
 simp [iY,jf,uC,bt,aN,aM]
theorem GF (l:List Nd):ji l 0=iM 6 l.length l.length:=by
 refine List.ext_getElem (by simp [ji,iM]) (fun i h1 h2=>?_)
 simp [ji] at h1
 simp [ji,iM,uC,h1];omega
theorem PG {l:List Nd} {k p:Nat} (h0:0<k) (hp:aZ l k=p) (hl:p<l.length) :
 (iY l k).set p (some (.row 1 ((bB l k p).length+1) (aM (aN (bt (bB l k p)++[(k:Int)])))))=iY l (k+1):=by
 refine List.ext_getElem (by simp [iY]) (fun i h1 h2=>?_)
 simp -implicitDefEqProofs only [List.getElem_set,iY,List.getElem_map,List.getElem_range,uB]
 by_cases h:p=i
 ·subst h;simp [h0,hp,bt]
 ·rw [if_neg h,if_neg (by rw [hp];omega)];simp
theorem PR {l:List Nd} {k p:Nat} (h0:0<k) (hp:aZ l k=p) (hl:p<l.length) :
 (ji l k).set p [.row (p+6) ((bB l k p).length+1) ((bB l k p).length+1)]=ji l (k+1):=by
 refine List.ext_getElem (by simp [ji]) (fun i h1 h2=>?_)
 simp -implicitDefEqProofs only [List.getElem_set,ji,List.getElem_map,List.getElem_range,uB]
 by_cases h:p=i
 ·subst h;simp [h0,hp]
 ·rw [if_neg h,if_neg (by rw [hp];omega)];simp
theorem PE (l:List Nd):iY l 1=iY l 0:=by
 refine List.ext_getElem (by simp [iY]) (fun i h1 h2=>?_)
 simp [iY,bB,List.range_succ]
theorem PN (l:List Nd):ji l 1=ji l 0:=by
 refine List.ext_getElem (by simp [ji]) (fun i h1 h2=>?_)
 simp [ji,bB,List.range_succ]
def mg (l:List Nd):List (List RV):=(List.range l.length).map fun p=>[.sl 1 (aN (bt (gY l p)))]
def sC (l:List Nd):List Int:=(List.range l.length).map fun n=>(iH l n:Int)
abbrev cu (l:List Nd):RV:=.rop [.sl 49 (bp l),.sl 1 (mg l),.sl 1 (aN (sC l)),.sl 1 (aN (ck l l.length)),.sl 1 (jF (fZ l l.length))]
def rD (l:List Nd) (k:Nat) (es ds:List Int) (bs:List Bool):List (Option HB):=some (.row 49 1 (aM (bp l)))::some (.row 1 0 (ji l k))::some (.row 1 0 (aM (aN es)))::some (.row 1 0 (aM (aN ds)))::some (.row 1 0 (aM (jF bs)))::some (.var [.row 0 1 l.length,.row 1 0 l.length,.row 2 0 l.length,.row 3 0 l.length,.row 4 0 l.length])::iY l k
theorem Gx {l:List Nd} {k:Nat} {es ds:List Int} {bs:List Bool}:(rD l k es ds bs).length=l.length+6:=by simp [rD,nV]
theorem PC {l:List Nd} {k:Nat} {es ds:List Int} {bs:List Bool}:lH (nc (l.length+6)) (rD l k es ds bs):=by
 refine ⟨jd,fun i x hx=>?_,jd,jd,jd,by simp [nc,mZ,jw],lH.of fun j x hx=>?_⟩
 ·obtain ⟨hl,rfl⟩:=List.getElem?_eq_some_iff.1 hx
  simp [wN] at hl
  simp [ji,mZ,jw,hl]
 ·obtain ⟨hl,rfl⟩:=List.getElem?_eq_some_iff.1 hx
  exact ⟨.row 1 (bB l k j).length (aM (aN (bt (bB l k j)))),by simp [iY],jd⟩
theorem Cx {l:List Nd} {k:Nat} {es ds:List Int} {bs:List Bool} {env env':List (Nat×SV)} {C:List (Option HB)} (he:iC (l.length+6) env env'):gi 0 ⟨env,rD l k es ds bs++C⟩ ⟨env',rD l k es ds bs⟩:=
 nj (Nat.zero_le _) (by rw [Gx];exact PC) (by rw [Gx];exact he)
def hU (l:List Nd) (k:Nat):List Int:=(List.range l.length).map fun j=>if k≤j then (iH l j:Int) else 0
theorem EO (l:List Nd) (k:Nat):(hU l k).length=l.length:=by simp [hU]
theorem ER (l:List Nd):hU l l.length=List.replicate l.length 0:=by
 refine List.ext_getElem (by simp [hU]) (fun i h1 h2=>?_)
 simp [hU] at h1
 simp [hU];omega
theorem ES (l:List Nd):hU l 0=sC l:=by simp [hU,sC]
theorem EP {l:List Nd} {k:Nat} (hk:0<k) (hl:k≤l.length):(hU l k).set (k - 1) (iH l (k - 1))=hU l (k - 1):=by
 refine List.ext_getElem (by simp [hU]) (fun i h1 h2=>?_)
 simp -implicitDefEqProofs only [List.getElem_set,hU,List.getElem_map,List.getElem_range]
 by_cases h:k - 1=i
 ·subst h;simp
 ·rw [if_neg h]
  by_cases hi:k≤i
  ·rw [if_pos hi,if_pos (by omega)]
  ·rw [if_neg hi,if_neg (by omega)]
theorem EM {l:List Nd} {k j:Nat} {v:Int} (hj:k≤j) (hk:0<k) (hl:j<l.length):((hU l k).set (k - 1) v).getD j 0=iH l j:=by
 rw [List.getD_eq_getElem?_getD,List.getElem?_set_ne (by omega)]
 simp [hU,hl,hj]
theorem oF {τ:Nat→Option Nat} {h:Hp} {j e az len:Nat} {xs:List (List RV)} (hj:h j=some (.row e az (aM xs))) (me:τ j=none) (hl:len=xs.length) (h1:∀ x∈xs,∀ r∈x,r.one=true):Fz τ h (.row j az len) (.sl e xs):=by
 have:=nP (τ:=τ) hj me (len:=len) (by omega) h1
 rw [hl,List.take_length] at this
 rw [hl];exact this
theorem Si (l:List Nd):Fz (fun _=>none) (aB (rD l l.length (sC l) (ck l l.length) (fZ l l.length))) (.ptr 5 0) (cu l):=by
 refine .ptr 5 [.row 0 1 l.length,.row 1 0 l.length,.row 2 0 l.length,.row 3 0 l.length,.row 4 0 l.length] _ rfl rfl rfl (fun i r hr=>?_) (fun i x r hx hr=>?_)
 ·match i with
  | 0=>cases hr;rfl
  | 1=>cases hr;rfl
  | 2=>cases hr;rfl
  | 3=>cases hr;rfl
  | 4=>cases hr;rfl
  | i+5=>simp at hr
 ·match i with
  | 0=>cases hx;cases hr;exact oF rfl rfl (by simp [bp]) (zL l)
  | 1=>
    cases hx;cases hr
    refine .row 1 1 0 l.length (ji l l.length) (mg l) rfl rfl (by simp [mg]) (by rw [wN];exact Nat.le_refl _) (fun i x r hx hr=>?_) (fun i r k q hr hq=>?_) (fun i x r k y q hx hr hy hq=>?_)
    ·obtain ⟨_,rfl⟩:=List.getElem?_eq_some_iff.1 hx
     obtain ⟨_,rfl⟩:=List.getElem?_eq_some_iff.1 hr
     simp [ji,mg]
    ·obtain ⟨_,rfl⟩:=List.getElem?_eq_some_iff.1 hr
     have:=List.mem_of_getElem? hq
     simp [mg] at this
     rw [this];rfl
    ·obtain ⟨hl,rfl⟩:=List.getElem?_eq_some_iff.1 hx
     obtain ⟨_,rfl⟩:=List.getElem?_eq_some_iff.1 hr
     rw [wN] at hl
     cases k with
     | succ k=>simp [ji] at hy
     | zero=>
       simp [ji] at hy
       simp [mg] at hq
       subst hy;subst hq
       refine oF (xs:=aN (bt (gY l i))) ?_ rfl (by simp [aN,bt,gY]) (kM _)
       have:=CB (k:=l.length) (C:=[]) hl
       rw [List.append_nil] at this
       exact this
  | 2=>cases hx;cases hr;exact oF rfl rfl (by simp [aN,sC]) (kM _)
  | 3=>cases hx;cases hr;exact oF rfl rfl (by simp [aN,ck]) (kM _)
  | 4=>cases hx;cases hr;exact oF rfl rfl (by simp [jF,fZ]) (Ei _)
  | i+5=>simp at hx
theorem uE (x:Nd):(x.cells.map SV.rv)[0]?=some (.rv (.bool x.s.shown)):=rfl
theorem Vl (l:List Nd) (hb:l.length≤8589934592) (hc:kX l=0):aL Go.Proofs.Tryz.prog 9 [.rv (.sl 49 (bp l))] [] [] (.aO [.rv (cu l),.rv (.int .i64 0)]):=by
 refine bz GJ [.rv (.sl 49 (bp l))] _ (by simp) (by simp [aP,bg,bu,aY,bq,aC.sv,Ln.sv,Nd.sv]) (fun K hK=>?_)
 have hlen:=an l
 have qy:=Ji l hb
 rw [hc] at qy
 have ht:fW l=true:=by
  unfold kX at hc
  cases h:fW l with
  | true=>rfl
  | false=>rw [h] at hc;simp at hc
 have hs:gF l:=uS.1 (by unfold fW at ht;simp -implicitDefEqProofs only [Bool.and_eq_true] at ht;exact ht.1)
 have oC:(((0:Int)) != 0)=false:=rfl
 conv in fc _ _ _ _=>reduce
 simp -implicitDefEqProofs only [go_sem,Int.reduceNegSucc]
 have hb2:(bp l).length≤8589934592:=by rw [hlen];exact hb
 have bh:=qy;have y_2:=IG (bp l) 0 hb2;repeat' (first | (simp -implicitDefEqProofs only [go_sem,Int.reduceNegSucc,oC,hlen,Af,IA]) | (with_reducible refine aA ?_) | (with_reducible first | refine ag bh ?_ | refine ah bh ?_) | (refine bS y_2 ?_ ?_ ?_;(focus (simp [aR,aB] <;> fail));(focus (simp [aV,aQ] <;> fail))) | (refine bV y_2 ?_ ?_ ?_;(focus (simp [aR,aB] <;> fail));(focus (simp [aV,aQ] <;> fail))) | ((first | refine aj (fun hg=>?_) (fun hg=>?_) | refine ax (fun hg=>?_) (fun hg=>?_) | refine ay (fun hg=>?_) (fun hg=>?_)) <;> try simp -implicitDefEqProofs only [hg,Bool.not_true,Bool.not_false]) | ((with_reducible apply And.intro);focus (first | trivial | omega | decide | (simp -implicitDefEqProofs only [maxLen];omega) | (simp [maxLen,af,ak,an,av,ai,au,aq] <;> omega))) | fail)
 have On:∀ n:Nat,ji l 0=iM 6 l.length l.length:=fun _=>GF l
 let ev:Nat→List (Nat×SV):=fun k=>[(33,.rv (.int .i64 k)),(32,.rv (.int .i64 l.length)),(31,.rv (.sl 49 (bp l))),(5,.ptr 5 0),(0,.rv (.sl 49 (bp l)))]
 refine fG (ι:=Nat) (fun k=>[(33,.rv (.int .i64 k)),(32,.rv (.int .i64 l.length)),(31,.rv (.sl 49 (bp l))),(5,.ptr 5 0),(0,.rv (.sl 49 (bp l)))]) (fun k=>some (.row 49 1 (aM (bp l)))::some (.row 1 0 (ji l k))::some (.row 1 0 (aM (aN (List.replicate l.length 0))))::some (.row 1 0 (aM (aN (ck l k))))::some (.row 1 0 (aM (jF (fZ l k))))::some (.var [.row 0 1 l.length,.row 1 0 l.length,.row 2 0 l.length,.row 3 0 l.length,.row 4 0 l.length])::iY l k) (fun k=>k≤l.length) (fun k=>l.length - k) 0 (by simp) ?_ (fun k hk K' hN hX hR=>?_)
 ·refine (aU (env':=[(33,.rv (.int .i64 0)),(32,.rv (.int .i64 l.length)),(31,.rv (.sl 49 (bp l))),(5,.ptr 5 0),(0,.rv (.sl 49 (bp l)))]) (by simp [lk])).trans ?_
  rw [GF,PL,Bl,Hr]
  exact ET (r:=1) (v:=0) (n:=l.length) (e:=1) rfl
 simp -implicitDefEqProofs only [go_sem,Int.reduceNegSucc]
 refine aj (fun hg=>?_) (fun hg=>?_)
 ·have aD:k<l.length:=by simp at hg;omega
  have hx:=iP aD
  have tj:=nV l k
  have hdl:=ua l k
  have lR:=ai (ck l k)
  have pR:=lq (l:=ck l k) (i:=k) (by omega)
  have hml:=Hq l k
  have sV:=ye (fZ l k)
  have sU:=tQ (bs:=fZ l k) (i:=k) (by omega)
  have hsh:=Ds aD
  have e1:(l.length=l.length+1)=False:=eq_false (by omega)
  have e2:(l.length=l.length+2)=False:=eq_false (by omega)
  have hds:=yG aD
  have sO:=Bj aD
  have wu:=cw (k:=k) (by omega)
  by_cases gQ:0<k
  ·have hgt:decide ((k:Int)>0)=true:=decide_eq_true (by omega)
   obtain ⟨p1,p2⟩:=hs.wf.2 k gQ aD
   obtain ⟨p,hp⟩:∃ p:Nat,aZ l k=p:=⟨(aZ l k).toNat,by omega⟩
   have gl:p<l.length:=by omega
   have q0:(p=l.length)=False:=eq_false (by omega)
   have q1:(p=l.length+1)=False:=eq_false (by omega)
   have q2:(p=l.length+2)=False:=eq_false (by omega)
   have hpk:=lX aD
   have NY:(ck l k).set k 1=(ck l k).set k 1:=rfl
   have sP:((ck l k).set k 1).length=l.length:=by simp [hdl]
   have vM:=ai ((ck l k).set k 1)
   have pS:=lq (l:=(ck l k).set k 1) (i:=p) (by omega)
   have sN:=lq (l:=(ck l k).set k 1) (i:=k) (by omega)
   rw [Bi (by omega) (by omega)] at pS
   have rj:=Bm hs.wf gQ aD
   rw [hp,Int.toNat_natCast] at rj
   have wd:=cw (k:=depth l p) (by have:=uJ (l:=l) p;unfold depth;omega)
   rw [← rj] at wd
   obtain ⟨b,tc⟩:∃ b,nB l k=b:=⟨_,rfl⟩
   have hmp:=tQ (bs:=(fZ l k).set k b) (i:=p) (by simp [hml];omega)
   have hmk:=tQ (bs:=(fZ l k).set k b) (i:=k) (by simp [hml];omega)
   rw [Ho (by omega) (by omega)] at hmp
   have vW:((fZ l k).set k b).length=l.length:=by simp [hml]
   have vX:=ye ((fZ l k).set k b)
   have nt:((fZ l k).set k b).set k (b && lz l p)=fZ l (k+1):=by
    have:=Hj hs.wf gQ aD
    rw [hp,Int.toNat_natCast,tc] at this
    rw [List.set_set,← this,zF aD]
   have oK:=wN l k
   have oJ:=GC (k:=k) gl
   have nr:=fun C=>CB (k:=k) (C:=C) gl
   have hkn:=PG gQ hp gl
   have htn:=PR gQ hp gl
   have hsp:=fun (y:Option HB) C=>PJ (k:=k) (y:=y) (C:=C) gl
   have gX:(bt (bB l k p)).length=(bB l k p).length:=by simp [bt]
   have oI:=ai (bt (bB l k p))
   have iR:(aN (bt (bB l k p))).take (bB l k p).length=aN (bt (bB l k p)):=List.take_of_length_le (by rw [oI,gX];exact Nat.le_refl _)
   have hkk:=th (l:=l) (k:=k) (p:=p)
   cases b
   all_goals simp -implicitDefEqProofs only [Bool.false_and,Bool.true_and] at nt
   ·repeat' (first | (simp -implicitDefEqProofs only [go_sem,Int.reduceNegSucc,hlen,hx,tj,ak,qH,Nat.add_assoc,Cz,List.append_assoc,hdl,lR,pR,hml,sV,sU,nA,uP,uE,hsh,tc,e1,e2,CD,hgt,hpk,hp,uF,oK,oJ,nr,q0,q1,q2,hsp,Gy,GA,gX,oI,iR,mu,hkn,htn,sP,vM,pS,sN,wd,sO,wu,hmp,hmk,vW,vX]) | (with_reducible refine aA ?_) | ((first | refine aj (fun hg=>?_) (fun hg=>?_) | refine ax (fun hg=>?_) (fun hg=>?_) | refine ay (fun hg=>?_) (fun hg=>?_)) <;> try simp -implicitDefEqProofs only [hg,Bool.not_true,Bool.not_false]) | ((with_reducible apply And.intro);focus (first | trivial | omega | decide | (simp -implicitDefEqProofs only [maxLen];omega) | (simp [maxLen,af,ak,an,av,ai,au,aq] <;> omega) | (simp (decide:=true) [pO,qX,ng,qt,Nat.testBit,q0,q1,q2];done))) | fail)
    rw [nt]
    exact hN (k+1) _ _ (by omega) (by omega) (Cx (l:=l) (k:=k+1) (by simp [iC,lk,jH,lP]))
   ·repeat' (first | (simp -implicitDefEqProofs only [go_sem,Int.reduceNegSucc,hlen,hx,tj,ak,qH,Nat.add_assoc,Cz,List.append_assoc,hdl,lR,pR,hml,sV,sU,nA,uP,uE,hsh,tc,e1,e2,CD,hgt,hpk,hp,uF,oK,oJ,nr,q0,q1,q2,hsp,Gy,GA,gX,oI,iR,mu,hkn,htn,sP,vM,pS,sN,wd,sO,wu,hmp,hmk,vW,vX]) | (with_reducible refine aA ?_) | ((first | refine aj (fun hg=>?_) (fun hg=>?_) | refine ax (fun hg=>?_) (fun hg=>?_) | refine ay (fun hg=>?_) (fun hg=>?_)) <;> try simp -implicitDefEqProofs only [hg,Bool.not_true,Bool.not_false]) | ((with_reducible apply And.intro);focus (first | trivial | omega | decide | (simp -implicitDefEqProofs only [maxLen];omega) | (simp [maxLen,af,ak,an,av,ai,au,aq] <;> omega) | (simp (decide:=true) [pO,qX,ng,qt,Nat.testBit,q0,q1,q2];done))) | fail)
    rw [nt]
    exact hN (k+1) _ _ (by omega) (by omega) (Cx (l:=l) (k:=k+1) (by simp [iC,lk,jH,lP]))
  ·obtain rfl:k=0:=by omega
   have hgt:decide (((0:Nat):Int)>0)=false:=rfl
   rw [Bn] at hds
   have nt:=zF aD
   rw [Hl] at nt
   have BU:(ck l 0).set 0 1=ck l (0+1):=hds
   repeat' (first | (simp -implicitDefEqProofs only [go_sem,Int.reduceNegSucc,hlen,hx,tj,ak,qH,Nat.add_assoc,Cz,List.append_assoc,hdl,lR,pR,hml,sV,sU,nA,uP,uE,hsh,e1,e2,CD,hgt,wu,nt,BU]) | (with_reducible refine aA ?_) | ((first | refine aj (fun hg=>?_) (fun hg=>?_) | refine ax (fun hg=>?_) (fun hg=>?_) | refine ay (fun hg=>?_) (fun hg=>?_)) <;> try simp -implicitDefEqProofs only [hg,Bool.not_true,Bool.not_false]) | ((with_reducible apply And.intro);focus (first | trivial | omega | decide | (simp -implicitDefEqProofs only [maxLen];omega) | (simp [maxLen,af,ak,an,av,ai,au,aq] <;> omega))) | fail)
   refine hN 1 _ _ (by omega) (by omega) ?_
   rw [PN,PE]
   exact Cx (l:=l) (k:=0) (es:=List.replicate l.length 0) (ds:=ck l (0+1)) (bs:=fZ l (0+1)) (C:=[some (.var ((l[0]'aD).cells.map .rv))]) (by simp [iC,lk,jH,lP])
 ·have aD:k=l.length:=by simp at hg;omega
  subst aD
  simp -implicitDefEqProofs only [go_sem,Int.reduceNegSucc]
  refine hX _ _ _ ?_
  have wl:=vg hs.pos (by omega)
  repeat' (first | (simp -implicitDefEqProofs only [go_sem,Int.reduceNegSucc,hlen,wl]) | (with_reducible refine aA ?_) | ((first | refine aj (fun hg=>?_) (fun hg=>?_) | refine ax (fun hg=>?_) (fun hg=>?_) | refine ay (fun hg=>?_) (fun hg=>?_)) <;> try simp -implicitDefEqProofs only [hg,Bool.not_true,Bool.not_false]) | ((with_reducible apply And.intro);focus (first | trivial | omega | decide | (simp -implicitDefEqProofs only [maxLen];omega) | (simp [maxLen,af,ak,an,av,ai,au,aq] <;> omega))) | fail)
  clear hN hX hR
  refine fG (ι:=Nat) (fun k=>[(8,.rv (.int .i64 ((k:Int) - 1))),(5,.ptr 5 0)]) (fun k=>rD l l.length (hU l k) (ck l l.length) (fZ l l.length)) (fun k=>k≤l.length) (fun k=>k) l.length (Nat.le_refl _) (by rw [ER];exact aU (by simp [lk];have:=hs.pos;omega)) (fun k hk K' hN hX hR=>?_)
  simp -implicitDefEqProofs only [rD,go_sem,Int.reduceNegSucc]
  refine aj (fun hg=>?_) (fun hg=>?_)
  ·have gQ:0<k:=by simp at hg;omega
   obtain ⟨j,rfl⟩:∃ j,k=j+1:=⟨k - 1,by omega⟩
   have ej:(((j+1:Nat):Int) - 1)=(j:Int):=by omega
   have wj:=cw (k:=j) (by omega)
   have hjl:j<l.length:=by omega
   have hel:=EO l (j+1)
   have vO:=ai (hU l (j+1))
   have sQ:=lq (l:=hU l (j+1)) (i:=j) (by omega)
   have oK:=wN l l.length
   have oJ:=GC (k:=l.length) hjl
   have nr:=CB (k:=l.length) (C:=[]) hjl
   simp -implicitDefEqProofs only [List.append_nil] at nr
   have gX:(bt (bB l l.length j)).length=(bB l l.length j).length:=by simp [bt]
   have oI:=ai (bt (bB l l.length j))
   have hkk:=th (l:=l) (k:=l.length) (p:=j)
   have nU:((hU l (j+1)).set j ((j+1:Nat):Int)).length=l.length:=by simp [hel]
   have Cm:=ai ((hU l (j+1)).set j ((j+1:Nat):Int))
   have iO:=EP (l:=l) (k:=j+1) (by omega) (by omega)
   simp -implicitDefEqProofs only [Nat.add_sub_cancel] at iO
   have wd:IntKind.i64.wrap ((j:Int) - 1)=((j:Int) - 1):=wrap_i64 (by omega) (by omega)
   by_cases fH:bB l l.length j=[]
   ·have hm0:decide ((((bB l l.length j).length:Nat):Int)>0)=false:=by rw [fH];rfl
    have he:=Bt fH
    rw [he] at iO
    repeat' (first | (simp -implicitDefEqProofs only [go_sem,Int.reduceNegSucc,hel,vO,sQ,oK,oJ,nr,ej,wj,hm0,nA,iO,wd]) | (with_reducible refine aA ?_) | ((first | refine aj (fun hg=>?_) (fun hg=>?_) | refine ax (fun hg=>?_) (fun hg=>?_) | refine ay (fun hg=>?_) (fun hg=>?_)) <;> try simp -implicitDefEqProofs only [hg,Bool.not_true,Bool.not_false]) | ((with_reducible apply And.intro);focus (first | trivial | omega | decide | (simp -implicitDefEqProofs only [maxLen];omega) | (simp [maxLen,af,ak,an,av,ai,au,aq] <;> omega))) | fail)
    refine hN j _ _ (by omega) (by omega) (aU (by simp [lk]))
   ·obtain ⟨c,hc⟩:∃ c,(bB l l.length j).getLast?=some c:=by
     cases h:(bB l l.length j).getLast? with
     | none=>exact absurd (List.getLast?_eq_none_iff.1 h) fH
     | some c=>exact ⟨c,rfl⟩
    have hpos:0<(bB l l.length j).length:=List.length_pos_iff.2 fH
    have hm0:decide ((((bB l l.length j).length:Nat):Int)>0)=true:=decide_eq_true (by omega)
    have nq:c∈gY l j:=List.mem_of_getLast? hc
    obtain ⟨c1,c2,c3⟩:=qG.1 nq
    have BO:j<c:=by have:=(hs.wf.2 c c1 c2).2;omega
    have he:=Bs hc BO c2
    rw [he] at iO
    have wm:=vg hpos (by omega)
    have BN:(bt (bB l l.length j)).getD ((bB l l.length j).length - 1) 0=(c:Int):=by
     rw [List.getLast?_eq_getElem?] at hc
     simp [bt,List.getD_eq_getElem?_getD,hc]
    have jU:=lq (l:=bt (bB l l.length j)) (i:=(bB l l.length j).length - 1) (by omega)
    rw [BN] at jU
    have vN:=lq (l:=(hU l (j+1)).set j ((j+1:Nat):Int)) (i:=c) (by omega)
    have qz:=EM (l:=l) (k:=j+1) (j:=c) (v:=((j+1:Nat):Int)) (by omega) (by omega) c2
    simp -implicitDefEqProofs only [Nat.add_sub_cancel] at qz
    rw [qz] at vN
    have BX:=lq (l:=(hU l (j+1)).set j ((j+1:Nat):Int)) (i:=j) (by omega)
    have ta:((hU l (j+1)).set j ((j+1:Nat):Int)).set j (iH l c)=hU l j:=by rw [List.set_set,iO]
    repeat' (first | (simp -implicitDefEqProofs only [go_sem,Int.reduceNegSucc,hel,vO,sQ,oK,oJ,nr,ej,wj,hm0,nA,wd,wm,jU,vN,BX,ta,nU,Cm,gX,oI]) | (with_reducible refine aA ?_) | ((first | refine aj (fun hg=>?_) (fun hg=>?_) | refine ax (fun hg=>?_) (fun hg=>?_) | refine ay (fun hg=>?_) (fun hg=>?_)) <;> try simp -implicitDefEqProofs only [hg,Bool.not_true,Bool.not_false]) | ((with_reducible apply And.intro);focus (first | trivial | omega | decide | (simp -implicitDefEqProofs only [maxLen];omega) | (simp [maxLen,af,ak,an,av,ai,au,aq] <;> omega))) | fail)
    refine hN j _ _ (by omega) (by omega) (aU (by simp [lk]))
  ·obtain rfl:k=0:=by simp at hg;omega
   simp -implicitDefEqProofs only [go_sem,Int.reduceNegSucc]
   refine hX _ _ _ ?_
   repeat' (first | (simp -implicitDefEqProofs only [go_sem,Int.reduceNegSucc]) | (with_reducible refine aA ?_) | ((first | refine aj (fun hg=>?_) (fun hg=>?_) | refine ax (fun hg=>?_) (fun hg=>?_) | refine ay (fun hg=>?_) (fun hg=>?_)) <;> try simp -implicitDefEqProofs only [hg,Bool.not_true,Bool.not_false]) | ((with_reducible apply And.intro);focus (first | trivial | omega | decide | (simp -implicitDefEqProofs only [maxLen];omega) | (simp [maxLen,af,ak,an,av,ai,au,aq] <;> omega))) | fail)
   refine (hK _ _ ?_).2
   rw [ES]
   exact ⟨trivial,bl.2 ⟨.fz _ _ (Si l),aG.2 rfl,trivial⟩⟩
end Go.aJ

namespace Go.aJ
open Go
theorem Rc:aX Go.Proofs.Tryz.prog 88 10 (fc Go.Proofs.Tryz.prog 88 10 [(.t 2)]) [(.t 2)]:=br (by kernel_rfl)
theorem Rh:aX Go.Proofs.Tryz.prog 59 13 (fc Go.Proofs.Tryz.prog 59 13 [(.t 4)]) [(.t 4)]:=br (by kernel_rfl)
theorem Rg:aX Go.Proofs.Tryz.prog 60 18 (fc Go.Proofs.Tryz.prog 60 18 [(.c 4 48 true)]) [(.c 4 48 true)]:=br (by kernel_rfl)
theorem Rf:aX Go.Proofs.Tryz.prog 50 17 (fc Go.Proofs.Tryz.prog 50 17 [(.t 4)]) [(.t 4)]:=br (by kernel_rfl)
theorem Rd:aX Go.Proofs.Tryz.prog 28 17 (fc Go.Proofs.Tryz.prog 28 17 [(.t 4)]) [(.t 4)]:=br (by kernel_rfl)
theorem Re:aX Go.Proofs.Tryz.prog 48 36 (fc Go.Proofs.Tryz.prog 48 36 [(.t 4)]) [(.t 4)]:=br (by kernel_rfl)
def iE (l:List Nd) (n:Int):Bool:=decide (n≥0) && decide (n<l.length)
theorem qD {l:List Nd} {n:Int} (h:iE l n=true):∃ k:Nat,n=k∧k<l.length:=by
 simp [iE] at h;exact ⟨n.toNat,by omega,by omega⟩
theorem nv {l:List Nd} {k:Nat} (h:k<l.length):iE l k=true:=by simp [iE,h]
def bJ (l:List Nd) (n:Int):aC:=if iE l n=true then (l.getD n.toNat default).s else default
def mm (l:List Nd) (n:Int):Int:=if iE l n=true then aZ l n.toNat else -1
def Br (l:List Nd) (n:Int):Int:=if iE l n=true then iH l n.toNat else 0
def WH (l:List Nd) (n:Int):Int:=if iE l n=true then depth l n.toNat else 0
def ia (l:List Nd) (n:Int):Bool:=iE l n && lz l n.toNat
def ja (l:List Nd) (n:Int):Bool:=ia l n && decide (n>0) && (decide ((bJ l n).position=2) || decide ((bJ l n).position=3))
def WE (l:List Nd) (a n:Int):Bool:=iE l a && iE l n && decide (n≥a) && decide (n<Br l a)
theorem Sf (l:List Nd):(mg l).length=l.length:=by simp [mg]
theorem Se {l:List Nd} {k:Nat} (h:k<l.length):(mg l)[k]?.getD []=[.sl 1 (aN (bt (gY l k)))]:=by simp [mg,h]
theorem SO (l:List Nd):(jF (fZ l l.length)).length=l.length:=by simp [jF,fZ]
theorem SN {l:List Nd} {k:Nat} (h:k<l.length):(jF (fZ l l.length))[k]?.getD []=[.bool (lz l k)]:=by simp [jF,fZ,h]
theorem Dj {τ:Nat→Option Nat} {h:List (Option HB)} {env:List (Nat×SV)} {a n id:Nat} {rs:List RV} (hl:lk env a = .ptr id 0) (hh:aB h id=some (.var (rs.map .rv))) (hn:rs.length=n):aT τ (aB h) (.agg (rs.map .rv)) (aS (lk env) (aB h) [.c a n true]):=by
 simp [aS,aT,bf,hl,gE,hh,hn]
 rw [List.take_of_length_le (by simp [hn])];exact aH.2 (fL.2 rfl)
section
variable (l:List Nd) (hb:l.length≤8589934592) (n:Int)
theorem UJ:aL Go.Proofs.Tryz.prog 88 [.rv (cu l)] [] [] (.rv (.int .i64 l.length)):=by
 refine bz Rc [.rv (cu l)] _ (by simp) (by simp [aP,bg,bu,aY,bq,aC.sv,Ln.sv,Nd.sv]) (fun K hK=>?_)
 conv in fc _ _ _ _=>reduce
 simp -implicitDefEqProofs only [go_sem,Int.reduceNegSucc]
 repeat' (first | (simp -implicitDefEqProofs only [go_sem,Int.reduceNegSucc,an,cu]) | (with_reducible refine aA ?_) | ((first | refine aj (fun hg=>?_) (fun hg=>?_) | refine ax (fun hg=>?_) (fun hg=>?_) | refine ay (fun hg=>?_) (fun hg=>?_)) <;> try simp -implicitDefEqProofs only [hg,Bool.not_true,Bool.not_false]) | ((with_reducible apply And.intro);focus (first | trivial | omega | decide | (simp -implicitDefEqProofs only [maxLen];omega) | (simp [maxLen,af,ak,an,av,ai,au,aq] <;> omega))) | fail)
 exact (hK _ _ (bU rfl)).2
theorem Al:aL Go.Proofs.Tryz.prog 59 [.rv (cu l),.rv (.int .i64 n)] [] [] (.rv (.bool (iE l n))):=by
 refine bz Rh [.rv (cu l),.rv (.int .i64 n)] _ (by simp) (by simp [aP,bg,bu,aY,bq,aC.sv,Ln.sv,Nd.sv]) (fun K hK=>?_)
 conv in fc _ _ _ _=>reduce
 simp -implicitDefEqProofs only [go_sem,Int.reduceNegSucc]
 have bh:=UJ l;repeat' (first | (simp -implicitDefEqProofs only [go_sem,Int.reduceNegSucc]) | (with_reducible refine aA ?_) | (with_reducible first | refine ag bh ?_ | refine ah bh ?_) | ((first | refine aj (fun hg=>?_) (fun hg=>?_) | refine ax (fun hg=>?_) (fun hg=>?_) | refine ay (fun hg=>?_) (fun hg=>?_)) <;> try simp -implicitDefEqProofs only [hg,Bool.not_true,Bool.not_false]) | ((with_reducible apply And.intro);focus (first | trivial | omega | decide | (simp -implicitDefEqProofs only [maxLen];omega) | (simp [maxLen,af,ak,an,av,ai,au,aq] <;> omega))) | fail)
 all_goals (try ((first | refine (hK _ _ _ _ [] (gk _ _) ?_).2 | refine (hK _ _ ?_).2 | refine (hK _ _ _ _ [] (gk _ _) ?_).1 | refine (hK _ _ ?_).1 | fail);clear hK;(simp_all [gw,bQ,newL,gB,gn,aT,aS,lk,bf,fJ,fU,fN,gL,gK,aB,gx,bl,aG,ga,gz,gS,aH,gR,aF,gd,fL,bF,iE]) <;> try omega))
theorem IP:aL Go.Proofs.Tryz.prog 60 [.rv (cu l),.rv (.int .i64 n)] [] [] (bJ l n).sv:=by
 refine bz Rg [.rv (cu l),.rv (.int .i64 n)] _ (by simp) (by simp [aP,bg,bu,aY,bq,aC.sv,Ln.sv,Nd.sv]) (fun K hK=>?_)
 have hh:=Al l n
 conv in fc _ _ _ _=>reduce
 simp -implicitDefEqProofs only [go_sem,Int.reduceNegSucc]
 cases hi:iE l n with
 | false=>
   rw [hi] at hh
   have y_2:=hh;repeat' (first | (simp -implicitDefEqProofs only [go_sem,Int.reduceNegSucc]) | (with_reducible refine aA ?_) | (with_reducible first | refine ag y_2 ?_ | refine ah y_2 ?_) | ((first | refine aj (fun hg=>?_) (fun hg=>?_) | refine ax (fun hg=>?_) (fun hg=>?_) | refine ay (fun hg=>?_) (fun hg=>?_)) <;> try simp -implicitDefEqProofs only [hg,Bool.not_true,Bool.not_false]) | ((with_reducible apply And.intro);focus (first | trivial | omega | decide | (simp -implicitDefEqProofs only [maxLen];omega) | (simp [maxLen,af,ak,an,av,ai,au,aq] <;> omega) | (rfl;done) | (exact ⟨rfl,by decide⟩;done))) | fail)
   have Cl:bJ l n=default:=by simp [bJ,hi]
   rw [Cl] at hK
   exact (hK _ _ (Dj rfl rfl rfl)).2
 | true=>
   rw [hi] at hh
   obtain ⟨k,rfl,hk⟩:=qD hi
   have hx:=iP hk
   have hlen:=an l
   have bC:=hh;repeat' (first | (simp -implicitDefEqProofs only [go_sem,Int.reduceNegSucc,hx,hlen,ak,af,wW,cu]) | (with_reducible refine aA ?_) | (with_reducible first | refine ag bC ?_ | refine ah bC ?_) | ((first | refine aj (fun hg=>?_) (fun hg=>?_) | refine ax (fun hg=>?_) (fun hg=>?_) | refine ay (fun hg=>?_) (fun hg=>?_)) <;> try simp -implicitDefEqProofs only [hg,Bool.not_true,Bool.not_false]) | ((with_reducible apply And.intro);focus (first | trivial | omega | decide | (simp -implicitDefEqProofs only [maxLen];omega) | (simp [maxLen,af,ak,an,av,ai,au,aq] <;> omega))) | fail)
   have Cl:bJ l k=(l[k]'hk).s:=by simp [bJ,hi,hk]
   rw [Cl] at hK
   exact (hK _ _ (Dj rfl rfl rfl)).2
theorem UM:aL Go.Proofs.Tryz.prog 50 [.rv (cu l),.rv (.int .i64 n)] [] [] (.rv (.int .i64 (mm l n))):=by
 refine bz Rf [.rv (cu l),.rv (.int .i64 n)] _ (by simp) (by simp [aP,bg,bu,aY,bq,aC.sv,Ln.sv,Nd.sv]) (fun K hK=>?_)
 have hh:=Al l n
 conv in fc _ _ _ _=>reduce
 simp -implicitDefEqProofs only [go_sem,Int.reduceNegSucc]
 cases hi:iE l n with
 | false=>
   rw [hi] at hh
   have bI:=hh;repeat' (first | (simp -implicitDefEqProofs only [go_sem,Int.reduceNegSucc]) | (with_reducible refine aA ?_) | (with_reducible first | refine ag bI ?_ | refine ah bI ?_) | ((first | refine aj (fun hg=>?_) (fun hg=>?_) | refine ax (fun hg=>?_) (fun hg=>?_) | refine ay (fun hg=>?_) (fun hg=>?_)) <;> try simp -implicitDefEqProofs only [hg,Bool.not_true,Bool.not_false]) | ((with_reducible apply And.intro);focus (first | trivial | omega | decide | (simp -implicitDefEqProofs only [maxLen];omega) | (simp [maxLen,af,ak,an,av,ai,au,aq] <;> omega))) | fail)
   exact (hK _ _ (bU (by simp [mm,hi,lk]))).2
 | true=>
   rw [hi] at hh
   obtain ⟨k,rfl,hk⟩:=qD hi
   have hx:=iP hk
   have hlen:=an l
   have hp:=lX hk
   have bK:=hh;repeat' (first | (simp -implicitDefEqProofs only [go_sem,Int.reduceNegSucc,hx,hlen,ak,cu,kz,hp]) | (with_reducible refine aA ?_) | (with_reducible first | refine ag bK ?_ | refine ah bK ?_) | ((first | refine aj (fun hg=>?_) (fun hg=>?_) | refine ax (fun hg=>?_) (fun hg=>?_) | refine ay (fun hg=>?_) (fun hg=>?_)) <;> try simp -implicitDefEqProofs only [hg,Bool.not_true,Bool.not_false]) | ((with_reducible apply And.intro);focus (first | trivial | omega | decide | (simp -implicitDefEqProofs only [maxLen];omega) | (simp [maxLen,af,ak,an,av,ai,au,aq] <;> omega))) | fail)
   exact (hK _ _ (bU (by simp [mm,hi,lk]))).2
theorem IL:aL Go.Proofs.Tryz.prog 28 [.rv (cu l),.rv (.int .i64 n)] [] [] (.rv (.bool (ia l n))):=by
 refine bz Rd [.rv (cu l),.rv (.int .i64 n)] _ (by simp) (by simp [aP,bg,bu,aY,bq,aC.sv,Ln.sv,Nd.sv]) (fun K hK=>?_)
 have hh:=Al l n
 conv in fc _ _ _ _=>reduce
 simp -implicitDefEqProofs only [go_sem,Int.reduceNegSucc]
 cases hi:iE l n with
 | false=>
   rw [hi] at hh
   have bM:=hh;repeat' (first | (simp -implicitDefEqProofs only [go_sem,Int.reduceNegSucc]) | (with_reducible refine aA ?_) | (with_reducible first | refine ag bM ?_ | refine ah bM ?_) | ((first | refine aj (fun hg=>?_) (fun hg=>?_) | refine ax (fun hg=>?_) (fun hg=>?_) | refine ay (fun hg=>?_) (fun hg=>?_)) <;> try simp -implicitDefEqProofs only [hg,Bool.not_true,Bool.not_false]) | ((with_reducible apply And.intro);focus (first | trivial | omega | decide | (simp -implicitDefEqProofs only [maxLen];omega) | (simp [maxLen,af,ak,an,av,ai,au,aq] <;> omega))) | fail)
   exact (hK _ _ (bU (by simp [ia,hi,lk]))).2
 | true=>
   rw [hi] at hh
   obtain ⟨k,rfl,hk⟩:=qD hi
   have bN:=hh;repeat' (first | (simp -implicitDefEqProofs only [go_sem,Int.reduceNegSucc,SO,SN hk,cu]) | (with_reducible refine aA ?_) | (with_reducible first | refine ag bN ?_ | refine ah bN ?_) | ((first | refine aj (fun hg=>?_) (fun hg=>?_) | refine ax (fun hg=>?_) (fun hg=>?_) | refine ay (fun hg=>?_) (fun hg=>?_)) <;> try simp -implicitDefEqProofs only [hg,Bool.not_true,Bool.not_false]) | ((with_reducible apply And.intro);focus (first | trivial | omega | decide | (simp -implicitDefEqProofs only [maxLen];omega) | (simp [maxLen,af,ak,an,av,ai,au,aq] <;> omega))) | fail)
   exact (hK _ _ (bU (by simp [ia,hi,lk]))).2
theorem IN:aL Go.Proofs.Tryz.prog 48 [.rv (cu l),.rv (.int .i64 n)] [] [] (.rv (.bool (ja l n))):=by
 refine bz Re [.rv (cu l),.rv (.int .i64 n)] _ (by simp) (by simp [aP,bg,bu,aY,bq,aC.sv,Ln.sv,Nd.sv]) (fun K hK=>?_)
 have hh:=IL l n
 conv in fc _ _ _ _=>reduce
 simp -implicitDefEqProofs only [go_sem,Int.reduceNegSucc]
 cases hi:ia l n with
 | false=>
   rw [hi] at hh
   have bR:=hh;repeat' (first | (simp -implicitDefEqProofs only [go_sem,Int.reduceNegSucc]) | (with_reducible refine aA ?_) | (with_reducible first | refine ag bR ?_ | refine ah bR ?_) | ((first | refine aj (fun hg=>?_) (fun hg=>?_) | refine ax (fun hg=>?_) (fun hg=>?_) | refine ay (fun hg=>?_) (fun hg=>?_)) <;> try simp -implicitDefEqProofs only [hg,Bool.not_true,Bool.not_false]) | ((with_reducible apply And.intro);focus (first | trivial | omega | decide | (simp -implicitDefEqProofs only [maxLen];omega) | (simp [maxLen,af,ak,an,av,ai,au,aq] <;> omega))) | fail)
   exact (hK _ _ (bU (by simp [ja,hi,lk]))).2
 | true=>
   rw [hi] at hh
   have hin:iE l n=true:=by simp [ia] at hi;exact hi.1
   obtain ⟨k,rfl,hk⟩:=qD hin
   have hx:=iP hk
   have hlen:=an l
   have hs:bJ l k=(l[k]'hk).s:=by simp [bJ,hin,hk]
   have hp:((l[k]'hk).cells.drop 1)[0]?=some (.int .i64 (l[k]'hk).s.position):=rfl
   have bZ:=hh;repeat' (first | (simp -implicitDefEqProofs only [go_sem,Int.reduceNegSucc,hx,hlen,ak,cu,hp]) | (with_reducible refine aA ?_) | (with_reducible first | refine ag bZ ?_ | refine ah bZ ?_) | ((first | refine aj (fun hg=>?_) (fun hg=>?_) | refine ax (fun hg=>?_) (fun hg=>?_) | refine ay (fun hg=>?_) (fun hg=>?_)) <;> try simp -implicitDefEqProofs only [hg,Bool.not_true,Bool.not_false]) | ((with_reducible apply And.intro);focus (first | trivial | omega | decide | (simp -implicitDefEqProofs only [maxLen];omega) | (simp [maxLen,af,ak,an,av,ai,au,aq] <;> omega))) | fail)
   all_goals (refine (hK _ _ (bU ?_)).2;rw [ja,hi,hs];clear hK hs hp;simp_all [lk,bF])
end
end Go.aJ

namespace Go.aJ
open Go
theorem Rb:aX Go.Proofs.Tryz.prog 101 17 (fc Go.Proofs.Tryz.prog 101 17 [(.t 4)]) [(.t 4)]:=br (by kernel_rfl)
theorem QZ:aX Go.Proofs.Tryz.prog 76 10 (fc Go.Proofs.Tryz.prog 76 10 [(.t 4)]) [(.t 4)]:=br (by kernel_rfl)
theorem Ra:aX Go.Proofs.Tryz.prog 102 13 (fc Go.Proofs.Tryz.prog 102 13 [(.t 3)]) [(.t 3)]:=br (by kernel_rfl)
theorem RC:aX Go.Proofs.Tryz.prog 119 19 (fc Go.Proofs.Tryz.prog 119 19 [(.t 4)]) [(.t 4)]:=br (by kernel_rfl)
theorem RA:aX Go.Proofs.Tryz.prog 100 42 (fc Go.Proofs.Tryz.prog 100 42 [(.t 4)]) [(.t 4)]:=br (by kernel_rfl)
def iw (l:List Nd) (n:Int):List Nat:=if iE l n=true then gY l n.toNat else []
def Xr (l:List Nd) (n:Int):List Nat:=if iE l n=true then (bw l n.toNat).drop 1 else []
def iA (l:List Nd) (m:Int):Bool:=ia l m && !ja l m
def bn (l:List Nd) (n:Int):List Nat:=(iw l n).filter fun (m:Nat)=>iA l m
theorem Hz (l:List Nat):(bt l).length=l.length:=by simp [bt]
theorem GP (l:List Nd) (n:Int):(iw l n).length≤l.length:=by
 unfold iw;split
 ·exact th
 ·simp
section
variable (l:List Nd) (hb:l.length≤8589934592) (n:Int)
theorem UH (m:Nat) (hb:l.length≤8589934592):aL Go.Proofs.Tryz.prog 101 [.rv (cu l),.rv (.int .i64 n)] [] [(m,.row 1 1 (aM (aN (bt (iw l n)))))] (.row m 1 (iw l n).length):=by
 refine mF Rb [] [] [] [.rv (cu l),.rv (.int .i64 n)] [.rv (cu l),.rv (.int .i64 n)] _ _ (by simp) (by simp [aP,aY]) rfl (by simp [bQ]) (by simp [iB]) (fun K hK=>?_)
 have hh:=Al l n
 conv in fc _ _ _ _=>reduce
 simp -implicitDefEqProofs only [go_sem,Int.reduceNegSucc]
 cases hi:iE l n with
 | false=>
   rw [hi] at hh
   have gQ:iw l n=[]:=by simp [iw,hi]
   have bh:=hh;repeat' (first | (simp -implicitDefEqProofs only [go_sem,Int.reduceNegSucc]) | (with_reducible refine aA ?_) | (with_reducible first | refine ag bh ?_ | refine ah bh ?_) | ((first | refine aj (fun hg=>?_) (fun hg=>?_) | refine ax (fun hg=>?_) (fun hg=>?_) | refine ay (fun hg=>?_) (fun hg=>?_)) <;> try simp -implicitDefEqProofs only [hg,Bool.not_true,Bool.not_false]) | ((with_reducible apply And.intro);focus (first | trivial | omega | decide | (simp -implicitDefEqProofs only [maxLen];omega) | (simp [maxLen,af,ak,an,av,ai,au,aq] <;> omega))) | fail)
   refine (hK _ _ _ _ [some m] (pP 4 1 1 rfl) ?_).2
   rw [gQ]
   simp [gw,bQ,newL,gB,gn,aT,aS,lk,bf,fJ,fU,fN,gL,gK,aB,gx,bl,aG,ga,gz,gS,aH,gR,aF,gd,fL]
   exact ⟨by simp [aM,aN,bt],fun i x y hx=>by simp at hx⟩
 | true=>
   rw [hi] at hh
   obtain ⟨k,rfl,hk⟩:=qD hi
   have gQ:iw l k=gY l k:=by simp [iw,hi]
   have gX:=th (l:=l) (k:=l.length) (p:=k)
   have hlen:(aN (bt (gY l k))).length=(gY l k).length:=by simp [aN,bt]
   have hlb:(aN (bt (gY l k))).length≤8589934592:=by rw [hlen];unfold gY;omega
   have Ol:=Se hk
   have y_2:=hh;have bC:=Ux (aN (bt (gY l k))) 0 hlb;repeat' (first | (simp -implicitDefEqProofs only [go_sem,Int.reduceNegSucc,Sf,Ol,cu]) | (with_reducible refine aA ?_) | (with_reducible first | refine ag y_2 ?_ | refine ah y_2 ?_) | (refine bS bC ?_ ?_ ?_;(focus (simp [aR,aB] <;> fail));(focus (simp [aV,aQ] <;> fail))) | (refine bV bC ?_ ?_ ?_;(focus (simp [aR,aB] <;> fail));(focus (simp [aV,aQ] <;> fail))) | ((first | refine aj (fun hg=>?_) (fun hg=>?_) | refine ax (fun hg=>?_) (fun hg=>?_) | refine ay (fun hg=>?_) (fun hg=>?_)) <;> try simp -implicitDefEqProofs only [hg,Bool.not_true,Bool.not_false]) | ((with_reducible apply And.intro);focus (first | trivial | omega | decide | (simp -implicitDefEqProofs only [maxLen];omega) | (simp [maxLen,af,ak,an,av,ai,au,aq] <;> omega))) | fail)
   refine (hK _ _ _ _ [some m] (gk _ _) ?_).2
   rw [gQ]
   simp [gw,bQ,newL,gB,gn,aT,aS,lk,bf,fJ,fU,fN,gL,gK,aB,gx,bl,aG,ga,gz,gS,aH,gR,aF,gd,fL,hlen]
theorem UC (m:Int) (j:Nat):aL Go.Proofs.Tryz.prog 102 [.rv (.int .i64 m),.ptr j 0] [(j,.var [.rv (cu l)])] [] (.rv (.bool (!iA l m))):=by
 refine mF Ra [j] [.var [.rv (cu l)]] [.var [.rv (cu l)]] [.rv (.int .i64 m),.ptr 0 0] [.rv (.int .i64 m),.ptr j 0] _ _ (by simp) (by simp [aP,mb,lN,aY,bg,oz,bq,oA,oy,iB,oo,bQ]) rfl (by simp [bQ]) (by simp [aP,mb,lN,aY,bg,oz,bq,oA,oy,iB,oo,bQ]) (fun K hK=>?_)
 conv in fc _ _ _ _=>reduce
 simp -implicitDefEqProofs only [go_sem,Int.reduceNegSucc]
 have bI:=IL l m;have bK:=IN l m;repeat' (first | (simp -implicitDefEqProofs only [go_sem,Int.reduceNegSucc]) | (with_reducible refine aA ?_) | (with_reducible first | refine ag bI ?_ | refine ah bI ?_) | (with_reducible first | refine ag bK ?_ | refine ah bK ?_) | ((first | refine aj (fun hg=>?_) (fun hg=>?_) | refine ax (fun hg=>?_) (fun hg=>?_) | refine ay (fun hg=>?_) (fun hg=>?_)) <;> try simp -implicitDefEqProofs only [hg,Bool.not_true,Bool.not_false]) | ((with_reducible apply And.intro);focus (first | trivial | omega | decide | (simp -implicitDefEqProofs only [maxLen];omega) | (simp [maxLen,af,ak,an,av,ai,au,aq] <;> omega))) | fail)
 all_goals (refine (hK _ _ _ _ [] (gk _ _) ?_).2;clear hK;simp_all [gw,bQ,newL,gB,gn,aT,aS,lk,bf,fJ,fU,fN,gL,gK,aB,gx,bl,aG,ga,gz,gS,aH,gR,aF,gd,fL,iA])
end
section
variable (f:Nat) (i j v:Nat) (cap:RV) (p:Int→Bool) (hij:i≠j) (hf:∀ (m:Int) (j:Nat),aL Go.Proofs.Tryz.prog f [.rv (.int .i64 m),.ptr j 0] [(j,.var [.rv cap])] [] (.rv (.bool (p m))))
include hij hf
theorem UE (ys:List Int) (hb:ys.length≤8589934592) :
 aL Go.Proofs.Tryz.prog 119 [.row i v ys.length,.fn f [.ptr j 0]] [(i,.row 1 v (aM (aN ys))),(j,.var [.rv cap])] [] (.rv (.int .i64 (match ys.findIdx? p with | some k=>((k:Nat):Int) | none=>-1))):=by
 refine yj RC [i,j] [.row 1 v (aM (aN ys)),.var [.rv cap]] [.row 1 v (aM (aN ys)),.var [.rv cap]] [.row 0 v ys.length,.fn f [.ptr 1 0]] [.row i v ys.length,.fn f [.ptr j 0]] _ _ (by simp) (by simp [aP,lN,bq,mb]) rfl (by simp [bQ,hij]) rfl (DS Eg (AR (by simp [aP,mb,lN,aY,bg,oz,bq,oA,oy,iB,oo,bQ]))) (fun K hK=>?_)
 have hlen:=ai ys
 conv in fc _ _ _ _=>reduce
 simp -implicitDefEqProofs only [go_sem,Int.reduceNegSucc]
 refine fG (ι:=Nat) (fun k=>[(8,.rv (.int .i64 k)),(7,.rv (.int .i64 ys.length)),(0,.row 0 v ys.length),(1,.fn f [.ptr 1 0])]) (fun _=>[some (.row 1 v (aM (aN ys))),some (.var [.rv cap])]) (fun k=>k≤ys.length∧∀ j,(h:j<ys.length)→j<k→p (ys[j]'h)=false) (fun k=>ys.length - k) 0 (by simp) (aU (by simp [lk])) (fun k hk K' hN hX hR=>?_)
 obtain ⟨fH,hk2⟩:=hk
 simp -implicitDefEqProofs only [go_sem,Int.reduceNegSucc]
 refine aj (fun hg=>?_) (fun hg=>?_)
 ·have aD:k<ys.length:=by simp at hg;omega
  have hx:=oS aD
  have bM:=hf (ys[k]'aD) 1;repeat' (first | (simp -implicitDefEqProofs only [go_sem,Int.reduceNegSucc,hlen,hx]) | (with_reducible refine aA ?_) | (refine bS bM ?_ ?_ ?_;(focus (simp [aR,aB] <;> fail));(focus (simp [aV,aQ] <;> fail))) | (refine bV bM ?_ ?_ ?_;(focus (simp [aR,aB] <;> fail));(focus (simp [aV,aQ] <;> fail))) | ((first | refine aj (fun hg=>?_) (fun hg=>?_) | refine ax (fun hg=>?_) (fun hg=>?_) | refine ay (fun hg=>?_) (fun hg=>?_)) <;> try simp -implicitDefEqProofs only [hg,Bool.not_true,Bool.not_false]) | ((with_reducible apply And.intro);focus (first | trivial | omega | decide | (simp -implicitDefEqProofs only [maxLen];omega) | (simp [maxLen,af,ak,an,av,ai,au,aq] <;> omega))) | fail)
  ·refine hR _ _ (hK _ _ _ _ [] (gk _ _) ?_).2
   have:ys.findIdx? p=some k:=by
    rw [List.findIdx?_eq_some_iff_getElem]
    exact ⟨aD,by simpa using hg,fun j hj=>by rw [hk2 j (by omega) hj];simp⟩
   rw [this]
   simp [gw,bQ,newL,gB,gn,aT,aS,lk,bf,fJ,fU,fN,gL,gK,aB,gx,bl,aG,ga,gz,gS,aH,gR,aF,gd,fL,hij,Ne.symm hij]
  ·rw [cw (by omega)]
   refine hN (k+1) _ _ ⟨by omega,fun j hj hji=>?_⟩ (by omega) (aU (by simp [lk]))
   rcases Nat.lt_or_ge j k with h | h
   ·exact hk2 j hj h
   ·obtain rfl:j=k:=by omega
    simpa using hg
 ·have aD:k=ys.length:=by simp at hg;omega
  subst aD
  simp -implicitDefEqProofs only [go_sem,Int.reduceNegSucc]
  refine hX _ _ _ ?_
  repeat' (first | (simp -implicitDefEqProofs only [go_sem,Int.reduceNegSucc]) | (with_reducible refine aA ?_) | ((first | refine aj (fun hg=>?_) (fun hg=>?_) | refine ax (fun hg=>?_) (fun hg=>?_) | refine ay (fun hg=>?_) (fun hg=>?_)) <;> try simp -implicitDefEqProofs only [hg,Bool.not_true,Bool.not_false]) | ((with_reducible apply And.intro);focus (first | trivial | omega | decide | (simp -implicitDefEqProofs only [maxLen];omega) | (simp [maxLen,af,ak,an,av,ai,au,aq] <;> omega))) | fail)
  refine (hK _ _ _ _ [] (gk _ _) ?_).2
  have:ys.findIdx? p=none:=by
   rw [List.findIdx?_eq_none_iff]
   intro x hx
   obtain ⟨j,hj,rfl⟩:=List.getElem_of_mem hx
   exact hk2 j hj hj
  rw [this]
  simp [gw,bQ,newL,gB,gn,aT,aS,lk,bf,fJ,fU,fN,gL,gK,aB,gx,bl,aG,ga,gz,gS,aH,gR,aF,gd,fL,hij,Ne.symm hij]
def iI (ys:List Int) (p:Int→Bool):List Int:=ys.filter fun y=>!p y
def mH (ys:List Int) (p:Int→Bool):List Int:=iI ys p++List.replicate (ys.length - (iI ys p).length) 0
theorem UB (ys:List Int) (hb:ys.length≤8589934592) :
 aL Go.Proofs.Tryz.prog 100 [.row i v ys.length,.fn f [.ptr j 0]] [(i,.row 1 v (aM (aN ys))),(j,.var [.rv cap])] [(i,.row 1 v (aM (aN (mH ys p))))] (.row i v (iI ys p).length):=by
 refine yj RA [i,j] [.row 1 v (aM (aN ys)),.var [.rv cap]] [.row 1 v (aM (aN ys)),.var [.rv cap]] [.row 0 v ys.length,.fn f [.ptr 1 0]] [.row i v ys.length,.fn f [.ptr j 0]] _ _ (by simp) (by simp [aP,lN,bq,mb]) rfl (by simp [bQ,hij]) rfl (DS Eg (AR (by simp [aP,mb,lN,aY,bg,oz,bq,oA,oy,iB,oo,bQ]))) (fun K hK=>?_)
 have zd:=UE f 0 1 v cap p (by decide) hf ys hb
 conv in fc _ _ _ _=>reduce
 simp -implicitDefEqProofs only [go_sem,Int.reduceNegSucc]
 cases pT:ys.findIdx? p with
 | none=>
   rw [pT] at zd
   have hno:iI ys p=ys:=by
    rw [List.findIdx?_eq_none_iff] at pT
    exact List.filter_eq_self.2 fun a ha=>by rw [pT a ha];rfl
   have e1:((-1:Int) == -1)=true:=rfl
   have bN:=zd;repeat' (first | (simp -implicitDefEqProofs only [go_sem,Int.reduceNegSucc,e1]) | (with_reducible refine aA ?_) | (refine bS bN ?_ ?_ ?_;(focus (simp [aR,aB] <;> fail));(focus (simp [aV,aQ] <;> fail))) | (refine bV bN ?_ ?_ ?_;(focus (simp [aR,aB] <;> fail));(focus (simp [aV,aQ] <;> fail))) | ((first | refine aj (fun hg=>?_) (fun hg=>?_) | refine ax (fun hg=>?_) (fun hg=>?_) | refine ay (fun hg=>?_) (fun hg=>?_)) <;> try simp -implicitDefEqProofs only [hg,Bool.not_true,Bool.not_false]) | ((with_reducible apply And.intro);focus (first | trivial | omega | decide | (simp -implicitDefEqProofs only [maxLen];omega) | (simp [maxLen,af,ak,an,av,ai,au,aq] <;> omega))) | fail)
   refine (hK _ _ _ _ [] (gk _ _) ?_).2
   simp [gw,bQ,newL,gB,gn,aT,aS,lk,bf,fJ,fU,fN,gL,gK,aB,gx,bl,aG,ga,gz,gS,aH,gR,aF,gd,fL,hij,Ne.symm hij,hno,mH]
 | some k0=>
   rw [pT] at zd
   rw [List.findIdx?_eq_some_iff_getElem] at pT
   obtain ⟨gQ,kk,oN⟩:=pT
   have e1:(((k0:Nat):Int) == -1)=false:=by simp
   have w0:=cw (k:=k0) (by omega)
   have bR:=zd;repeat' (first | (simp -implicitDefEqProofs only [go_sem,Int.reduceNegSucc,e1,w0]) | (with_reducible refine aA ?_) | (refine bS bR ?_ ?_ ?_;(focus (simp [aR,aB] <;> fail));(focus (simp [aV,aQ] <;> fail))) | (refine bV bR ?_ ?_ ?_;(focus (simp [aR,aB] <;> fail));(focus (simp [aV,aQ] <;> fail))) | ((first | refine aj (fun hg=>?_) (fun hg=>?_) | refine ax (fun hg=>?_) (fun hg=>?_) | refine ay (fun hg=>?_) (fun hg=>?_)) <;> try simp -implicitDefEqProofs only [hg,Bool.not_true,Bool.not_false]) | ((with_reducible apply And.intro);focus (first | trivial | omega | decide | (simp -implicitDefEqProofs only [maxLen];omega) | (simp [maxLen,af,ak,an,av,ai,au,aq] <;> omega))) | fail)
   let kept:Nat→List Int:=fun j=>iI (ys.take j) p
   have Sd:∀ j,(kept j).length≤j:=fun j=>by
    have:=List.length_filter_le (fun y=>!p y) (ys.take j)
    simp -implicitDefEqProofs only [List.length_take] at this
    show (iI (ys.take j) p).length≤j
    unfold iI;omega
   have GO:∀ j (h:j<ys.length),kept (j+1)=kept j++if p (ys[j]'h)=true then [] else [ys[j]'h]:=fun j h=>by
    show iI _ _=iI _ _++_
    rw [List.take_succ_eq_append_getElem h]
    unfold iI
    rw [List.filter_append]
    cases js:p (ys[j]'h) <;> simp [js]
   have Sc:kept k0=ys.take k0:=List.filter_eq_self.2 fun a ha=>by
    obtain ⟨q,hq,rfl⟩:=List.getElem_of_mem ha
    have Oz:q<k0:=by simp at hq;omega
    have:=oN q Oz
    simp -implicitDefEqProofs only [Bool.not_eq_true] at this
    simp [this]
   have CG:kept (k0+1)=ys.take k0:=by rw [GO k0 gQ,Sc,kk];simp
   refine fG (ι:=List Int×Nat) (fun q=>[(6,.rv (.int .i64 q.2)),(5,.rv (.int .i64 (kept q.2).length)),(0,.row 0 v ys.length),(1,.fn f [.ptr 1 0])]) (fun q=>[some (.row 1 v (aM (aN q.1))),some (.var [.rv cap])]) (fun q=>q.1.length=ys.length∧q.2≤ys.length∧(kept q.2).length<q.2∧q.1.take (kept q.2).length=kept q.2∧q.1.drop q.2=ys.drop q.2) (fun q=>ys.length - q.2) (ys,k0+1) ⟨rfl,gQ,?_,?_,rfl⟩ (aU ?_) (fun q hq K' hN hX hR=>?_)
   ·show (kept (k0+1)).length<k0+1
    rw [CG];simp;omega
   ·show ys.take (kept (k0+1)).length=kept (k0+1)
    rw [CG];simp
   ·have:(kept (k0+1)).length=k0:=by rw [CG];simp;omega
    simp [lk,this]
   obtain ⟨zs,j⟩:=q
   obtain ⟨q1,q2,q3,q4,q5⟩:=hq
   dsimp only at q1 q2 q3 q4 q5 ⊢
   simp -implicitDefEqProofs only [go_sem,Int.reduceNegSucc]
   refine aj (fun hg=>?_) (fun hg=>?_)
   ·have hj:j<ys.length:=by simp at hg;omega
    have Cc:zs[j]'(by omega)=ys[j]'hj:=by
     have h1:=List.getElem_drop (xs:=zs) (i:=j) (j:=0) (h:=by simp;omega)
     have h2:=List.getElem_drop (xs:=ys) (i:=j) (j:=0) (h:=by simp;omega)
     simp -implicitDefEqProofs only [Nat.add_zero] at h1 h2
     rw [← h1,← h2]
     congr 1
    have hx:=oS (l:=zs) (i:=j) (by omega)
    rw [Cc] at hx
    have hzl:=ai zs
    have qc:=GO j hj
    have wj:=cw (k:=j) (by omega)
    have wi:=cw (k:=(kept j).length) (by omega)
    have kr:=oS (l:=zs) (i:=(kept j).length) (by omega)
    have bZ:=hf (ys[j]'hj) 1;repeat' (first | (simp -implicitDefEqProofs only [go_sem,Int.reduceNegSucc,hx,hzl,q1,kr,nA,wj,wi]) | (with_reducible refine aA ?_) | (refine bS bZ ?_ ?_ ?_;(focus (simp [aR,aB] <;> fail));(focus (simp [aV,aQ] <;> fail))) | (refine bV bZ ?_ ?_ ?_;(focus (simp [aR,aB] <;> fail));(focus (simp [aV,aQ] <;> fail))) | ((first | refine aj (fun hg=>?_) (fun hg=>?_) | refine ax (fun hg=>?_) (fun hg=>?_) | refine ay (fun hg=>?_) (fun hg=>?_)) <;> try simp -implicitDefEqProofs only [hg,Bool.not_true,Bool.not_false]) | ((with_reducible apply And.intro);focus (first | trivial | omega | decide | (simp -implicitDefEqProofs only [maxLen];omega) | (simp [maxLen,af,ak,an,av,ai,au,aq] <;> omega))) | fail)
    ·have js:p (ys[j]'hj)=false:=by simpa using hg
     rw [js] at qc
     simp -implicitDefEqProofs only [Bool.false_eq_true,if_false] at qc
     refine hN (zs.set (kept j).length (ys[j]'hj),j+1) _ _ ⟨by simp [q1],by omega,?_,?_,?_⟩ (by dsimp only;omega) (aU (by simp [lk,qc]))
     ·show (kept (j+1)).length<j+1
      rw [qc];simp;omega
     ·show (zs.set (kept j).length (ys[j]'hj)).take (kept (j+1)).length=kept (j+1)
      rw [qc]
      simp -implicitDefEqProofs only [List.length_append,List.length_singleton]
      rw [List.take_succ_eq_append_getElem (by simp;omega),List.take_set_of_le (by omega),q4]
      simp
     ·show (zs.set (kept j).length (ys[j]'hj)).drop (j+1)=ys.drop (j+1)
      rw [List.drop_set_of_lt (by omega),← List.drop_drop,q5,List.drop_drop]
    ·have js:p (ys[j]'hj)=true:=by simpa using hg
     rw [js] at qc
     simp -implicitDefEqProofs only [if_true,List.append_nil] at qc
     refine hN (zs,j+1) _ _ ⟨q1,by omega,?_,?_,?_⟩ (by dsimp only;omega) (aU (by simp [lk,qc]))
     ·show (kept (j+1)).length<j+1
      rw [qc];omega
     ·show zs.take (kept (j+1)).length=kept (j+1)
      rw [qc];exact q4
     ·show zs.drop (j+1)=ys.drop (j+1)
      rw [← List.drop_drop,q5,List.drop_drop]
   ·have hj:j=ys.length:=by simp at hg;omega
    subst hj
    have hkk:kept ys.length=iI ys p:=by show iI (ys.take ys.length) p=_;rw [List.take_length]
    have gX:=Sd ys.length
    rw [hkk] at gX q4 q3
    simp -implicitDefEqProofs only [hkk,go_sem,Int.reduceNegSucc]
    refine hX _ _ _ ?_
    have hnz:(((iI ys p).length:Int)=0)=((iI ys p).length=0):=propext (by omega)
    repeat' (first | (simp -implicitDefEqProofs only [go_sem,Int.reduceNegSucc]) | (with_reducible refine aA ?_) | ((first | refine aj (fun hg=>?_) (fun hg=>?_) | refine ax (fun hg=>?_) (fun hg=>?_) | refine ay (fun hg=>?_) (fun hg=>?_)) <;> try simp -implicitDefEqProofs only [hg,Bool.not_true,Bool.not_false]) | ((with_reducible apply And.intro);focus (first | trivial | omega | decide | (simp -implicitDefEqProofs only [maxLen];omega) | (simp [maxLen,af,ak,an,av,ai,au,aq] <;> omega))) | fail)
    have hrow:aM (List.take (iI ys p).length (aN zs))++List.replicate (ys.length - (iI ys p).length) [SV.rv (.int .i64 0)]++List.drop ((iI ys p).length+(List.replicate (ys.length - (iI ys p).length) [SV.rv (.int .i64 0)]).length) (aM (aN zs))=aM (aN (mH ys p)):=by
     rw [List.drop_of_length_le (by simp [au,ai];omega),List.append_nil,Af,show List.take (iI ys p).length (aN zs)=aN (zs.take (iI ys p).length) by simp [aN,List.map_take],q4,Iz]
     simp [aN,mH]
    rw [hrow]
    refine (hK _ _ _ _ [] (gk _ _) ?_).2
    simp [gw,bQ,newL,gB,gn,aT,aS,lk,bf,fJ,fU,fN,gL,gK,aB,gx,bl,aG,ga,gz,gS,aH,gR,aF,gd,fL,hij,Ne.symm hij]
end
section
variable (l:List Nd) (n:Int)
theorem IJ (hb:l.length≤8589934592) (m:Nat):aL Go.Proofs.Tryz.prog 76 [.rv (cu l),.rv (.int .i64 n)] [] [(m,.row 1 1 (aM (aN (mH (bt (iw l n)) fun m=>!iA l m))))] (.row m 1 (bn l n).length):=by
 refine mF QZ [] [] [] [.rv (cu l),.rv (.int .i64 n)] [.rv (cu l),.rv (.int .i64 n)] _ _ (by simp) (by simp [aP,aY]) rfl (by simp [bQ]) (by simp [iB]) (fun K hK=>?_)
 have gX:=GP l n
 have hkn:=Hz (iw l n)
 have hd:=UB 102 1 0 1 (cu l) (fun m=>!iA l m) (by decide) (fun m j=>UC l m j) (bt (iw l n)) (by rw [hkn];omega)
 rw [hkn] at hd
 have hfl:(iI (bt (iw l n)) fun m=>!iA l m).length=(bn l n).length:=by
  unfold iI bn bt
  rw [List.filter_map,List.length_map]
  simp [Function.comp_def]
 rw [hfl] at hd
 conv in fc _ _ _ _=>reduce
 simp -implicitDefEqProofs only [go_sem,Int.reduceNegSucc]
 refine bS (UH l n 1 hb) (by simp [aR,aB]) (by simp [aV,aQ]) ?_
 have cm:=hd;repeat' (first | (simp -implicitDefEqProofs only [go_sem,Int.reduceNegSucc]) | (with_reducible refine aA ?_) | (refine bS cm ?_ ?_ ?_;(focus (simp [aR,aB] <;> fail));(focus (simp [aV,aQ] <;> fail))) | (refine bV cm ?_ ?_ ?_;(focus (simp [aR,aB] <;> fail));(focus (simp [aV,aQ] <;> fail))) | ((first | refine aj (fun hg=>?_) (fun hg=>?_) | refine ax (fun hg=>?_) (fun hg=>?_) | refine ay (fun hg=>?_) (fun hg=>?_)) <;> try simp -implicitDefEqProofs only [hg,Bool.not_true,Bool.not_false]) | ((with_reducible apply And.intro);focus (first | trivial | omega | decide | (simp -implicitDefEqProofs only [maxLen];omega) | (simp [maxLen,af,ak,an,av,ai,au,aq] <;> omega))) | fail)
 refine (hK _ _ _ _ [none,some m] (gk _ _) ?_).2
 simp [gw,bQ,newL,gB,gn,aT,aS,lk,bf,fJ,fU,fN,gL,gK,aB,gx,bl,aG,ga,gz,gS,aH,gR,aF,gd,fL]
theorem IK (hb:l.length≤8589934592):aL Go.Proofs.Tryz.prog 76 [.rv (cu l),.rv (.int .i64 n)] [] [] (.rv (.sl 1 (aN (bt (bn l n))))):=by
 refine LC (rs:=[cu l,.int .i64 n]) (IJ l n hb 0) ?_ ⟨_,.inl rfl⟩
 have hfl:(iI (bt (iw l n)) fun m=>!iA l m)=bt (bn l n):=by
  unfold iI bn bt
  rw [List.filter_map]
  simp [Function.comp_def]
 have qa:(bn l n).length=(bt (bn l n)).length:=by simp [bt]
 refine .fz _ _ ?_
 have h1:=nP (τ:=fun _=>none) (h:=bP (fun _=>none) [(0,HB.row 1 1 (aM (aN (mH (bt (iw l n)) fun m=>!iA l m))))]) (j:=0) (e:=1) (az:=1) (len:=(bn l n).length) (xs:=aN (mH (bt (iw l n)) fun m=>!iA l m)) (by simp [bP,up]) rfl (by rw [ai,mH,List.length_append,hfl,← qa];omega) (kM _)
 rw [show (aN (mH (bt (iw l n)) fun m=>!iA l m)).take (bn l n).length=aN (bt (bn l n)) by
  rw [qa]
  simp -implicitDefEqProofs only [aN,← List.map_take,mH,hfl]
  rw [List.take_left]] at h1
 exact h1
end
end Go.aJ

namespace Go.aJ
open Go
theorem Qr:aX Go.Proofs.Tryz.prog 31 27 (fc Go.Proofs.Tryz.prog 31 27 [(.t 4)]) [(.t 4)]:=br (by kernel_rfl)
theorem Qs:aX Go.Proofs.Tryz.prog 17 21 (fc Go.Proofs.Tryz.prog 17 21 [(.t 4)]) [(.t 4)]:=br (by kernel_rfl)
theorem Qq:aX Go.Proofs.Tryz.prog 69 40 (fc Go.Proofs.Tryz.prog 69 40 [(.t 4)]) [(.t 4)]:=br (by kernel_rfl)
theorem Ar {l:List Nd} (ht:fW l=true):gF l:=uS.1 (by unfold fW at ht;simp -implicitDefEqProofs only [Bool.and_eq_true] at ht;exact ht.1)
theorem Wh {l:List Nd} (ht:fW l=true) {k:Nat} (hk:k<l.length):jb (l[k]'hk).s=true:=by
 unfold fW at ht
 simp -implicitDefEqProofs only [Bool.and_eq_true,List.all_eq_true] at ht
 exact ht.2 _ (List.getElem_mem hk)
theorem We {s:aC} (h:jb s=true):0≤s.position∧s.position≤3:=by
 unfold jb rR at h
 simp -implicitDefEqProofs only [Bool.and_eq_true,decide_eq_true_eq] at h
 exact ⟨h.2.1.1.1.1,h.2.1.1.1.2⟩
theorem Eu {l:List Nd} (h:kX l=0):fW l=true:=by
 unfold kX at h
 cases ht:fW l with
 | true=>rfl
 | false=>rw [ht] at h;simp at h
theorem OU (l:List Nd) (n:Int):(n<0∧iE l n=false)∨((l.length:Int)≤n∧0≤n∧iE l n=false)∨∃ k:Nat,n=k∧k<l.length∧iE l n=true:=by
 by_cases h0:n<0
 ·exact .inl ⟨h0,by simp [iE];omega⟩
 ·by_cases h1:n<l.length
  ·exact .inr (.inr ⟨n.toNat,by omega,by omega,by simp [iE];omega⟩)
  ·exact .inr (.inl ⟨by omega,by omega,by simp [iE];omega⟩)
theorem xk (l:List Nd) (ht:fW l=true) (n:Int):aL Go.Proofs.Tryz.prog 31 [.rv (.sl 49 (bp l)),.rv (.int .i64 n)] [] [] (.rv (.bool (ia l n))):=by
 refine bz Qr [.rv (.sl 49 (bp l)),.rv (.int .i64 n)] _ (by simp) (by simp [aP,bg,bu,aY,bq,aC.sv,Ln.sv,Nd.sv]) (fun K hK=>?_)
 have hlen:=an l
 have hs:=Ar ht
 conv in fc _ _ _ _=>reduce
 simp -implicitDefEqProofs only [go_sem,Int.reduceNegSucc]
 rcases OU l n with ⟨h1,hi⟩ | ⟨h1,h0,hi⟩ | ⟨k,rfl,hk,hi⟩
 ·have e1:decide (n<0)=true:=decide_eq_true h1
  repeat' (first | (simp -implicitDefEqProofs only [go_sem,Int.reduceNegSucc,e1,hlen]) | (with_reducible refine aA ?_) | ((first | refine aj (fun hg=>?_) (fun hg=>?_) | refine ax (fun hg=>?_) (fun hg=>?_) | refine ay (fun hg=>?_) (fun hg=>?_)) <;> try simp -implicitDefEqProofs only [hg,Bool.not_true,Bool.not_false]) | ((with_reducible apply And.intro);focus (first | trivial | omega | decide | (simp -implicitDefEqProofs only [maxLen];omega) | (simp [maxLen,af,ak,an,av,ai,au,aq] <;> omega))) | fail)
  exact (hK _ _ (bU (by simp [ia,hi,lk]))).2
 ·have e1:decide (n<0)=false:=decide_eq_false (by omega)
  have e2:decide (n≥(l.length:Int))=true:=decide_eq_true h1
  repeat' (first | (simp -implicitDefEqProofs only [go_sem,Int.reduceNegSucc,e1,e2,hlen]) | (with_reducible refine aA ?_) | ((first | refine aj (fun hg=>?_) (fun hg=>?_) | refine ax (fun hg=>?_) (fun hg=>?_) | refine ay (fun hg=>?_) (fun hg=>?_)) <;> try simp -implicitDefEqProofs only [hg,Bool.not_true,Bool.not_false]) | ((with_reducible apply And.intro);focus (first | trivial | omega | decide | (simp -implicitDefEqProofs only [maxLen];omega) | (simp [maxLen,af,ak,an,av,ai,au,aq] <;> omega))) | fail)
  exact (hK _ _ (bU (by simp [ia,hi,lk]))).2
 ·have e1:decide ((k:Int)<0)=false:=decide_eq_false (by omega)
  have e2:decide ((k:Int)≥(l.length:Int))=false:=decide_eq_false (by omega)
  repeat' (first | (simp -implicitDefEqProofs only [go_sem,Int.reduceNegSucc,e1,e2,hlen]) | (with_reducible refine aA ?_) | ((first | refine aj (fun hg=>?_) (fun hg=>?_) | refine ax (fun hg=>?_) (fun hg=>?_) | refine ay (fun hg=>?_) (fun hg=>?_)) <;> try simp -implicitDefEqProofs only [hg,Bool.not_true,Bool.not_false]) | ((with_reducible apply And.intro);focus (first | trivial | omega | decide | (simp -implicitDefEqProofs only [maxLen];omega) | (simp [maxLen,af,ak,an,av,ai,au,aq] <;> omega))) | fail)
  refine fG (ι:=Nat) (fun i=>[(1,.rv (.int .i64 (kH (bw l k) i))),(0,.rv (.sl 49 (bp l)))]) (fun _=>[]) (fun i=>i≤(bw l k).length∧((bw l k).drop i).all (nB l)=(bw l k).all (nB l)) (fun i=>(bw l k).length - i) 0 (by simp) (by rw [vm];exact aU (by simp [lk])) (fun i hi' K' hN hX hR=>?_)
  obtain ⟨hi1,hi2⟩:=hi'
  simp -implicitDefEqProofs only [go_sem,Int.reduceNegSucc]
  refine aj (fun hg=>?_) (fun hg=>?_)
  ·have fE:i<(bw l k).length:=qS.1 (by simpa using hg)
   have gC:=vl fE
   have hlt:(bw l k)[i]<l.length:=zX hk fE
   have hx:=iP hlt
   have hpar:=lX hlt
   have oL:=zS hs.wf k hk i fE
   have hsh:=Ds hlt
   have hs0:((l[(bw l k)[i]]'hlt).cells)[0]?=some (.bool (l[(bw l k)[i]]'hlt).s.shown):=rfl
   repeat' (first | (simp -implicitDefEqProofs only [go_sem,Int.reduceNegSucc,hlen,ak,kz,gC,hx,hpar,oL,hs0,hsh]) | (with_reducible refine aA ?_) | ((first | refine aj (fun hg=>?_) (fun hg=>?_) | refine ax (fun hg=>?_) (fun hg=>?_) | refine ay (fun hg=>?_) (fun hg=>?_)) <;> try simp -implicitDefEqProofs only [hg,Bool.not_true,Bool.not_false]) | ((with_reducible apply And.intro);focus (first | trivial | omega | decide | (simp -implicitDefEqProofs only [maxLen];omega) | (simp [maxLen,af,ak,an,av,ai,au,aq] <;> omega))) | fail)
   ·refine hR _ _ (hK _ _ (bU ?_)).2
    have:(bw l k).all (nB l)=false:=pL fE hi2 (by simpa using hg)
    simp [ia,hi,lz,this,lk]
   ·exact hN (i+1) _ _ ⟨by omega,pM fE hi2 (by simpa using hg)⟩ (by omega) (aU (by simp [lk]))
  ·have fE:¬ i<(bw l k).length:=fun h=>by have:=qS.2 h;simp at hg;omega
   simp -implicitDefEqProofs only [go_sem,Int.reduceNegSucc]
   refine hX _ _ _ ?_
   repeat' (first | (simp -implicitDefEqProofs only [go_sem,Int.reduceNegSucc]) | (with_reducible refine aA ?_) | ((first | refine aj (fun hg=>?_) (fun hg=>?_) | refine ax (fun hg=>?_) (fun hg=>?_) | refine ay (fun hg=>?_) (fun hg=>?_)) <;> try simp -implicitDefEqProofs only [hg,Bool.not_true,Bool.not_false]) | ((with_reducible apply And.intro);focus (first | trivial | omega | decide | (simp -implicitDefEqProofs only [maxLen];omega) | (simp [maxLen,af,ak,an,av,ai,au,aq] <;> omega))) | fail)
   refine (hK _ _ (bU ?_)).2
   have:=pK (by omega) hi2
   simp [ia,hi,lz,this,lk]
theorem Am (l:List Nd) (ht:fW l=true) (n:Int):aL Go.Proofs.Tryz.prog 17 [.rv (.sl 49 (bp l)),.rv (.int .i64 n)] [] [] (.rv (.bool (ja l n))):=by
 refine bz Qs [.rv (.sl 49 (bp l)),.rv (.int .i64 n)] _ (by simp) (by simp [aP,bg,bu,aY,bq,aC.sv,Ln.sv,Nd.sv]) (fun K hK=>?_)
 have hlen:=an l
 have hm:=xk l ht n
 conv in fc _ _ _ _=>reduce
 simp -implicitDefEqProofs only [go_sem,Int.reduceNegSucc]
 cases hi:ia l n with
 | false=>
   rw [hi] at hm
   have bh:=hm;repeat' (first | (simp -implicitDefEqProofs only [go_sem,Int.reduceNegSucc]) | (with_reducible refine aA ?_) | (with_reducible first | refine ag bh ?_ | refine ah bh ?_) | ((first | refine aj (fun hg=>?_) (fun hg=>?_) | refine ax (fun hg=>?_) (fun hg=>?_) | refine ay (fun hg=>?_) (fun hg=>?_)) <;> try simp -implicitDefEqProofs only [hg,Bool.not_true,Bool.not_false]) | ((with_reducible apply And.intro);focus (first | trivial | omega | decide | (simp -implicitDefEqProofs only [maxLen];omega) | (simp [maxLen,af,ak,an,av,ai,au,aq] <;> omega))) | fail)
   all_goals exact (hK _ _ (bU (by simp [ja,hi,lk]))).2
 | true=>
   rw [hi] at hm
   have hin:iE l n=true:=by simp [ia] at hi;exact hi.1
   obtain ⟨k,rfl,hk⟩:=qD hin
   have hx:=iP hk
   have hs:bJ l k=(l[k]'hk).s:=by simp [bJ,hin,hk]
   obtain ⟨q1,q2⟩:=We (Wh ht hk)
   have hp:((l[k]'hk).cells.drop 1)[0]?=some (.int .i64 (l[k]'hk).s.position):=rfl
   have y_2:=hm;repeat' (first | (simp -implicitDefEqProofs only [go_sem,Int.reduceNegSucc,hx,hlen,ak,hp]) | (with_reducible refine aA ?_) | (with_reducible first | refine ag y_2 ?_ | refine ah y_2 ?_) | ((first | refine aj (fun hg=>?_) (fun hg=>?_) | refine ax (fun hg=>?_) (fun hg=>?_) | refine ay (fun hg=>?_) (fun hg=>?_)) <;> try simp -implicitDefEqProofs only [hg,Bool.not_true,Bool.not_false]) | ((with_reducible apply And.intro);focus (first | trivial | omega | decide | (simp -implicitDefEqProofs only [maxLen];omega) | (simp [maxLen,af,ak,an,av,ai,au,aq] <;> omega))) | fail)
   ·refine (hK _ _ (bU ?_)).2
    simp -implicitDefEqProofs only [lk,if_true,ja,hi,hs]
    clear hK hs hp
    simp at hg
    congr 2
    rw [Bool.eq_iff_iff];simp;omega
   ·refine (hK _ _ (bU ?_)).2
    simp -implicitDefEqProofs only [lk,if_true,ja,hi,hs]
    clear hK hs hp
    simp at hg
    simp [hg]
def gP (l:List Nd) (k p:Nat):List Nat:=(bB l k p).filter fun (m:Nat)=>iA l m
theorem MD {l:List Nd} {k p:Nat}:(gP l k p).length≤k:=by
 have:=List.length_filter_le (fun (m:Nat)=>iA l m) (bB l k p)
 have:=th (l:=l) (k:=k) (p:=p)
 unfold gP;omega
theorem VF (l:List Nd) (ht:fW l=true) (hb:l.length≤8589934592) (n:Nat) (hn:n<l.length):aL Go.Proofs.Tryz.prog 69 [.rv (.sl 49 (bp l)),.rv (.int .i64 n)] [] [] (.rv (.sl 1 (aN (bt (bn l n))))):=by
 refine bz Qq [.rv (.sl 49 (bp l)),.rv (.int .i64 n)] _ (by simp) (by simp [aP,bg,bu,aY,bq,aC.sv,Ln.sv,Nd.sv]) (fun K hK=>?_)
 have hlen:=an l
 conv in fc _ _ _ _=>reduce
 simp -implicitDefEqProofs only [hlen,go_sem,Int.reduceNegSucc]
 refine fG (ι:=Nat) (fun k=>[(9,.rv (.int .i64 k)),(8,.rv (.int .i64 l.length)),(5,.row 0 (gP l k n).length (gP l k n).length),(0,.rv (.sl 49 (bp l))),(1,.rv (.int .i64 n))]) (fun k=>[some (.row 1 (gP l k n).length (aM (aN (bt (gP l k n)))))]) (fun k=>k≤l.length) (fun k=>l.length - k) 0 (by simp) ((pP 5 1 0 rfl).trans (aU (by simp [lk,gP,uC]))) (fun k hk K' hN hX hR=>?_)
 simp -implicitDefEqProofs only [go_sem,Int.reduceNegSucc]
 refine aj (fun hg=>?_) (fun hg=>?_)
 ·have aD:k<l.length:=by simp at hg;omega
  have hx:=iP aD
  have hpk:=lX aD
  have wu:=cw (k:=k) (by omega)
  have gX:=MD (l:=l) (k:=k) (p:=n)
  have hs:=uB (l:=l) (k:=k) (p:=n)
  have hm:=xk l ht k
  have ho:=Am l ht k
  have stay:gP l (k+1) n=gP l k n→∀ e,iC 1 e [(9,.rv (.int .i64 (k+1:Nat))),(8,.rv (.int .i64 l.length)),(5,.row 0 (gP l k n).length (gP l k n).length),(0,.rv (.sl 49 (bp l))),(1,.rv (.int .i64 n))]→K' .normal ⟨e,[some (.row 1 (gP l k n).length (aM (aN (bt (gP l k n)))))]⟩:=fun hs e he=>by
   refine hN (k+1) _ _ (by omega) (by omega) ?_
   rw [hs]
   have:=nj (n0:=0) (env:=e) (h':=[some (.row 1 (gP l k n).length (aM (aN (bt (gP l k n)))))]) (C:=[]) (by simp) ⟨jd,trivial⟩ he
   simpa using this
  by_cases hc:0<k∧aZ l k=n
  ·rw [if_pos hc] at hs
   have e1:decide ((k:Int)>0)=true:=decide_eq_true (by omega)
   have e2:(aZ l k ==(n:Int))=true:=by simp [hc.2]
   have fs:gP l (k+1) n=gP l k n++if iA l k=true then [k] else []:=by
    unfold gP
    rw [hs,List.filter_append]
    cases hst:iA l k <;> simp [hst]
   cases hmk:ia l k with
   | false=>
     rw [hmk] at hm
     have bC:=hm;repeat' (first | (simp -implicitDefEqProofs only [go_sem,Int.reduceNegSucc,e1,e2,hlen,hx,ak,kz,hpk,wu]) | (with_reducible refine aA ?_) | (with_reducible first | refine ag bC ?_ | refine ah bC ?_) | ((first | refine aj (fun hg=>?_) (fun hg=>?_) | refine ax (fun hg=>?_) (fun hg=>?_) | refine ay (fun hg=>?_) (fun hg=>?_)) <;> try simp -implicitDefEqProofs only [hg,Bool.not_true,Bool.not_false]) | ((with_reducible apply And.intro);focus (first | trivial | omega | decide | (simp -implicitDefEqProofs only [maxLen];omega) | (simp [maxLen,af,ak,an,av,ai,au,aq] <;> omega))) | fail)
     refine stay ?_ _ (by simp [iC,lk,jH,jw])
     rw [fs];simp [iA,hmk]
   | true=>
     rw [hmk] at hm
     cases hok:ja l k with
     | true=>
       rw [hok] at ho
       have bI:=hm;have bK:=ho;repeat' (first | (simp -implicitDefEqProofs only [go_sem,Int.reduceNegSucc,e1,e2,hlen,hx,ak,kz,hpk,wu]) | (with_reducible refine aA ?_) | (with_reducible first | refine ag bI ?_ | refine ah bI ?_) | (with_reducible first | refine ag bK ?_ | refine ah bK ?_) | ((first | refine aj (fun hg=>?_) (fun hg=>?_) | refine ax (fun hg=>?_) (fun hg=>?_) | refine ay (fun hg=>?_) (fun hg=>?_)) <;> try simp -implicitDefEqProofs only [hg,Bool.not_true,Bool.not_false]) | ((with_reducible apply And.intro);focus (first | trivial | omega | decide | (simp -implicitDefEqProofs only [maxLen];omega) | (simp [maxLen,af,ak,an,av,ai,au,aq] <;> omega))) | fail)
       refine stay ?_ _ (by simp [iC,lk,jH,jw])
       rw [fs];simp [iA,hok]
     | false=>
       rw [hok] at ho
       have hst:iA l k=true:=by simp [iA,hmk,hok]
       rw [hst] at fs
       simp -implicitDefEqProofs only [if_true] at fs
       have htl:(aN (bt (gP l k n))).length=(gP l k n).length:=by simp [aN,bt]
       have iR:(aN (bt (gP l k n))).take (gP l k n).length=aN (bt (gP l k n)):=List.take_of_length_le (by omega)
       have hap:bt (gP l k n)++[(k:Int)]=bt (gP l (k+1) n):=by rw [fs];simp [bt]
       have qa:(gP l (k+1) n).length=(gP l k n).length+1:=by rw [fs];simp
       have bM:=hm;have bN:=ho;repeat' (first | (simp -implicitDefEqProofs only [go_sem,Int.reduceNegSucc,e1,e2,hlen,hx,ak,kz,hpk,wu,htl,iR,mu,hap]) | (with_reducible refine aA ?_) | (with_reducible first | refine ag bM ?_ | refine ah bM ?_) | (with_reducible first | refine ag bN ?_ | refine ah bN ?_) | ((first | refine aj (fun hg=>?_) (fun hg=>?_) | refine ax (fun hg=>?_) (fun hg=>?_) | refine ay (fun hg=>?_) (fun hg=>?_)) <;> try simp -implicitDefEqProofs only [hg,Bool.not_true,Bool.not_false]) | ((with_reducible apply And.intro);focus (first | trivial | omega | decide | (simp -implicitDefEqProofs only [maxLen];omega) | (simp [maxLen,af,ak,an,av,ai,au,aq] <;> omega))) | fail)
       refine hN (k+1) _ _ (by omega) (by omega) ?_
       rw [qa]
       exact nj (h':=[some (.row 1 ((gP l k n).length+1) (aM (aN (bt (gP l (k+1) n)))))]) (C:=[some (.row 1 0 [[.rv (.int .i64 k)]])]) (by simp) ⟨jd,trivial⟩ (by simp [iC,lk,jH,jw])
  ·rw [if_neg hc,List.append_nil] at hs
   have hs':gP l (k+1) n=gP l k n:=by unfold gP;rw [hs]
   by_cases h0:0<k
   ·have e1:decide ((k:Int)>0)=true:=decide_eq_true (by omega)
    have e2:(aZ l k ==(n:Int))=false:=by
     rw [Bool.eq_false_iff];intro h;exact hc ⟨h0,by simpa using h⟩
    repeat' (first | (simp -implicitDefEqProofs only [go_sem,Int.reduceNegSucc,e1,e2,hlen,hx,ak,kz,hpk,wu]) | (with_reducible refine aA ?_) | ((first | refine aj (fun hg=>?_) (fun hg=>?_) | refine ax (fun hg=>?_) (fun hg=>?_) | refine ay (fun hg=>?_) (fun hg=>?_)) <;> try simp -implicitDefEqProofs only [hg,Bool.not_true,Bool.not_false]) | ((with_reducible apply And.intro);focus (first | trivial | omega | decide | (simp -implicitDefEqProofs only [maxLen];omega) | (simp [maxLen,af,ak,an,av,ai,au,aq] <;> omega))) | fail)
    exact stay hs' _ (by simp [iC,lk,jH,jw])
   ·have e1:decide ((k:Int)>0)=false:=decide_eq_false (by omega)
    repeat' (first | (simp -implicitDefEqProofs only [go_sem,Int.reduceNegSucc,e1,wu]) | (with_reducible refine aA ?_) | ((first | refine aj (fun hg=>?_) (fun hg=>?_) | refine ax (fun hg=>?_) (fun hg=>?_) | refine ay (fun hg=>?_) (fun hg=>?_)) <;> try simp -implicitDefEqProofs only [hg,Bool.not_true,Bool.not_false]) | ((with_reducible apply And.intro);focus (first | trivial | omega | decide | (simp -implicitDefEqProofs only [maxLen];omega) | (simp [maxLen,af,ak,an,av,ai,au,aq] <;> omega))) | fail)
    exact stay hs' _ (by simp [iC,lk,jH,jw])
 ·have aD:k=l.length:=by simp at hg;omega
  subst aD
  have hfa:gP l l.length n=bn l n:=by
   unfold gP bn iw
   rw [if_pos (nv hn)];rfl
  simp -implicitDefEqProofs only [go_sem,Int.reduceNegSucc]
  refine hX _ _ _ ?_
  repeat' (first | (simp -implicitDefEqProofs only [go_sem,Int.reduceNegSucc]) | (with_reducible refine aA ?_) | ((first | refine aj (fun hg=>?_) (fun hg=>?_) | refine ax (fun hg=>?_) (fun hg=>?_) | refine ay (fun hg=>?_) (fun hg=>?_)) <;> try simp -implicitDefEqProofs only [hg,Bool.not_true,Bool.not_false]) | ((with_reducible apply And.intro);focus (first | trivial | omega | decide | (simp -implicitDefEqProofs only [maxLen];omega) | (simp [maxLen,af,ak,an,av,ai,au,aq] <;> omega))) | fail)
  rw [hfa]
  exact (hK _ _ ⟨trivial,qi (xs:=aN (bt (bn l n))) rfl rfl (by simp [aN,bt]) (kM _)⟩).2
def Xm (l:List Nd) (n:Int) (i:Nat):Int:=if iE l n=true∧n<i then (if (i:Int)<Br l n then (i:Int) else Br l n) else 0
end Go.aJ

namespace Go.aJ
open Go
theorem zK (xs:List Nat):(aN (bt xs)).length=xs.length:=by simp [aN,bt]
def WS (p:Int→Bool) (xs:List Nat):Int:=match xs.find? (fun (m:Nat)=>p m) with
 | some k=>k
 | none=>-1
end Go.aJ

namespace Go.aJ
open Go
theorem QJ:aX Go.Proofs.Tryz.prog 74 9 (fc Go.Proofs.Tryz.prog 74 9 [(.t 2)]) [(.t 2)]:=br (by kernel_rfl)
theorem QM:aX Go.Proofs.Tryz.prog 44 47 (fc Go.Proofs.Tryz.prog 44 47 [(.t 2),(.t 3)]) [(.t 2),(.t 3)]:=br (by kernel_rfl)
theorem QI:aX Go.Proofs.Tryz.prog 95 12 (fc Go.Proofs.Tryz.prog 95 12 [(.t 6)]) [(.t 6)]:=br (by kernel_rfl)
theorem Qf:aX Go.Proofs.Tryz.prog 47 9 (fc Go.Proofs.Tryz.prog 47 9 [(.t 2)]) [(.t 2)]:=br (by kernel_rfl)
theorem Qh:aX Go.Proofs.Tryz.prog 34 30 (fc Go.Proofs.Tryz.prog 34 30 [(.t 2),(.t 3)]) [(.t 2),(.t 3)]:=br (by kernel_rfl)
theorem Qe:aX Go.Proofs.Tryz.prog 38 16 (fc Go.Proofs.Tryz.prog 38 16 [(.t 6)]) [(.t 6)]:=br (by kernel_rfl)
def bT (x:Int):Bool:=decide (x≥-1125899906842624) && decide (x≤1125899906842624)
theorem je {x:Int}:bT x=true↔-1125899906842624≤x∧x≤1125899906842624:=by simp [bT]
def fV (xs:List Int):Bool:=xs.all bT && bT xs.sum
def cq (xs:List Int):Int:=if fV xs=true then xs.sum else 0
theorem xh (a:Int):a.fdiv (2 ^ min 25 64)=a / 33554432:=by
 rw [Int.fdiv_eq_ediv_of_nonneg _ (by decide)];rfl
theorem KY (a:Int):IntKind.i64.wrap ((BitVec.ofInt 64 a &&& BitVec.ofInt 64 33554431).toNat:Int)=a % 33554432:=by
 have h1:(BitVec.ofInt 64 a &&& BitVec.ofInt 64 33554431).toNat=(BitVec.ofInt 64 a).toNat % 33554432:=by
  show (BitVec.ofInt 64 a &&& BitVec.ofInt 64 33554431).toNat=_
  rw [BitVec.toNat_and]
  exact Nat.and_two_pow_sub_one_eq_mod _ 25
 have h2:(((BitVec.ofInt 64 a).toNat % 33554432:Nat):Int)=a % 33554432:=by
  rw [BitVec.toNat_ofInt]
  omega
 rw [h1,h2,wrap_i64 (by omega) (by omega)]
theorem vk (a:Int):IntKind.i64.wrap ((@BitVec.toNat 64 (@HAnd.hAnd (BitVec 64) (BitVec 64) (BitVec 64) (@instHAndOfAndOp (BitVec IntKind.i64.bits) (@BitVec.instAndOp IntKind.i64.bits)) (BitVec.ofInt 64 a) (BitVec.ofInt 64 33554431)):Nat):Int)=a % 33554432:=KY a
theorem mz (x:Int):aL Go.Proofs.Tryz.prog 74 [.rv (.int .i64 x)] [] [] (.rv (.bool (bT x))):=by
 refine bz QJ [.rv (.int .i64 x)] _ (by simp) (by simp [aP,bg,bu,aY,bq,aC.sv,Ln.sv,Nd.sv]) (fun K hK=>?_)
 conv in fc _ _ _ _=>reduce
 simp -implicitDefEqProofs only [go_sem,Int.reduceNegSucc]
 repeat' (first | (simp -implicitDefEqProofs only [go_sem,Int.reduceNegSucc]) | (with_reducible refine aA ?_) | ((first | refine aj (fun hg=>?_) (fun hg=>?_) | refine ax (fun hg=>?_) (fun hg=>?_) | refine ay (fun hg=>?_) (fun hg=>?_)) <;> try simp -implicitDefEqProofs only [hg,Bool.not_true,Bool.not_false]) | ((with_reducible apply And.intro);focus (first | trivial | omega | decide | (simp -implicitDefEqProofs only [maxLen];omega) | (simp [maxLen,af,ak,an,av,ai,au,aq] <;> omega))) | fail)
 all_goals (refine (hK _ _ (bU ?_)).2;clear hK;simp_all [lk,bT];try (intro _;omega))
theorem jO (x:Int):aL Go.Proofs.Tryz.prog 47 [.rv (.int .i64 x)] [] [] (.rv (.bool (bT x))):=by
 refine bz Qf [.rv (.int .i64 x)] _ (by simp) (by simp [aP,bg,bu,aY,bq,aC.sv,Ln.sv,Nd.sv]) (fun K hK=>?_)
 conv in fc _ _ _ _=>reduce
 simp -implicitDefEqProofs only [go_sem,Int.reduceNegSucc]
 repeat' (first | (simp -implicitDefEqProofs only [go_sem,Int.reduceNegSucc]) | (with_reducible refine aA ?_) | ((first | refine aj (fun hg=>?_) (fun hg=>?_) | refine ax (fun hg=>?_) (fun hg=>?_) | refine ay (fun hg=>?_) (fun hg=>?_)) <;> try simp -implicitDefEqProofs only [hg,Bool.not_true,Bool.not_false]) | ((with_reducible apply And.intro);focus (first | trivial | omega | decide | (simp -implicitDefEqProofs only [maxLen];omega) | (simp [maxLen,af,ak,an,av,ai,au,aq] <;> omega))) | fail)
 all_goals (refine (hK _ _ (bU ?_)).2;clear hK;simp_all [lk,bT];try (intro _;omega))
def Xq (x:Ln) (d:Int):Int:=if x.kind=1 then x.n else d
def jR (v lo hi:Int):Int:=if (if v>hi then hi else v)<lo then lo else (if v>hi then hi else v)
theorem Vs (v lo hi:Int):aL Go.Proofs.Tryz.prog 38 [.rv (.int .i64 v),.rv (.int .i64 lo),.rv (.int .i64 hi)] [] [] (.rv (.int .i64 (jR v lo hi))):=by
 refine bz Qe [.rv (.int .i64 v),.rv (.int .i64 lo),.rv (.int .i64 hi)] _ (by simp) (by simp [aP,bg,bu,aY,bq,aC.sv,Ln.sv,Nd.sv]) (fun K hK=>?_)
 conv in fc _ _ _ _=>reduce
 simp -implicitDefEqProofs only [go_sem,Int.reduceNegSucc]
 repeat' (first | (simp -implicitDefEqProofs only [go_sem,Int.reduceNegSucc]) | (with_reducible refine aA ?_) | ((first | refine aj (fun hg=>?_) (fun hg=>?_) | refine ax (fun hg=>?_) (fun hg=>?_) | refine ay (fun hg=>?_) (fun hg=>?_)) <;> try simp -implicitDefEqProofs only [hg,Bool.not_true,Bool.not_false]) | ((with_reducible apply And.intro);focus (first | trivial | omega | decide | (simp -implicitDefEqProofs only [maxLen];omega) | (simp [maxLen,af,ak,an,av,ai,au,aq] <;> omega))) | fail)
 all_goals (refine (hK _ _ (bU ?_)).2;clear hK;simp_all [lk,jR];try omega)
theorem IT (v lo hi:Int):aL Go.Proofs.Tryz.prog 95 [.rv (.int .i64 v),.rv (.int .i64 lo),.rv (.int .i64 hi)] [] [] (.rv (.int .i64 (jR v lo hi))):=by
 refine bz QI [.rv (.int .i64 v),.rv (.int .i64 lo),.rv (.int .i64 hi)] _ (by simp) (by simp [aP,bg,bu,aY,bq,aC.sv,Ln.sv,Nd.sv]) (fun K hK=>?_)
 conv in fc _ _ _ _=>reduce
 simp -implicitDefEqProofs only [go_sem,Int.reduceNegSucc]
 repeat' (first | (simp -implicitDefEqProofs only [go_sem,Int.reduceNegSucc]) | (with_reducible refine aA ?_) | ((first | refine aj (fun hg=>?_) (fun hg=>?_) | refine ax (fun hg=>?_) (fun hg=>?_) | refine ay (fun hg=>?_) (fun hg=>?_)) <;> try simp -implicitDefEqProofs only [hg,Bool.not_true,Bool.not_false]) | ((with_reducible apply And.intro);focus (first | trivial | omega | decide | (simp -implicitDefEqProofs only [maxLen];omega) | (simp [maxLen,af,ak,an,av,ai,au,aq] <;> omega))) | fail)
 exact (hK _ _ (bU rfl)).2
theorem DV {p:Int→Bool} {xs:List Int} (h:∀ i,(h:i<xs.length)→p xs[i]=true):xs.all p=true:=by
 rw [List.all_eq_true];intro x hx
 obtain ⟨i,hi,rfl⟩:=List.getElem_of_mem hx
 exact h i hi
theorem DB {xs:List Int} {k:Nat} (h:k<xs.length):(xs.take (k+1)).sum=(xs.take k).sum+xs[k]:=by
 rw [List.take_succ_eq_append_getElem h,List.sum_append];simp
theorem HF {xs:List Int} {i:Nat} (h:i<xs.length) (hf:bT xs[i]=false):fV xs=false:=by
 unfold fV
 rw [show xs.all bT=false from by
  rw [List.all_eq_false];exact ⟨_,List.getElem_mem h,by simp [hf]⟩]
 rfl
theorem Vx (xs:List Int) (hb:xs.length≤1000):aL Go.Proofs.Tryz.prog 34 [.rv (.sl 1 (aN xs))] [] [] (.aO [.rv (.int .i64 (cq xs)),.rv (.bool (fV xs))]):=by
 refine bz Qh [.rv (.sl 1 (aN xs))] _ (by simp) (by simp [aP,bg,bu,aY,bq,aC.sv,Ln.sv,Nd.sv]) (fun K hK=>?_)
 have hl:=ai xs
 conv in fc _ _ _ _=>reduce
 simp -implicitDefEqProofs only [hl,go_sem,Int.reduceNegSucc]
 repeat' (first | (simp -implicitDefEqProofs only [go_sem,Int.reduceNegSucc,hl]) | (with_reducible refine aA ?_) | ((first | refine aj (fun hg=>?_) (fun hg=>?_) | refine ax (fun hg=>?_) (fun hg=>?_) | refine ay (fun hg=>?_) (fun hg=>?_)) <;> try simp -implicitDefEqProofs only [hg,Bool.not_true,Bool.not_false]) | ((with_reducible apply And.intro);focus (first | trivial | omega | decide | (simp -implicitDefEqProofs only [maxLen];omega) | (simp [maxLen,af,ak,an,av,ai,au,aq] <;> omega))) | fail)
 refine fG (ι:=Nat) (fun k=>[(9,.rv (.int .i64 k)),(8,.rv (.int .i64 xs.length)),(4,.rv (.int .i64 (xs.take k).sum)),(5,.rv (.bool true)),(0,.rv (.sl 1 (aN xs)))]) (fun _=>[]) (fun k=>k≤xs.length∧(∀ i,(h:i<xs.length)→i<k→bT xs[i]=true)∧-(1125899906842624*k)≤(xs.take k).sum∧(xs.take k).sum≤1125899906842624*k) (fun k=>xs.length - k) 0 ⟨by simp,fun i _ h=>absurd h (by omega),by simp,by simp⟩ (aU (by simp [lk])) (fun k hk K' hN hX hR=>?_)
 obtain ⟨fH,hk2,gq,FP⟩:=hk
 simp -implicitDefEqProofs only [go_sem,Int.reduceNegSucc]
 refine aj (fun hg=>?_) (fun hg=>?_)
 ·have aD:k<xs.length:=by simp at hg;omega
  have hx:=oS aD
  have wu:=cw (k:=k) (by omega)
  have hf:=jO xs[k]
  cases jJ:bT xs[k] with
  | false=>
    rw [jJ] at hf
    have bh:=hf;repeat' (first | (simp -implicitDefEqProofs only [go_sem,Int.reduceNegSucc,hx,hl,wu]) | (with_reducible refine aA ?_) | (with_reducible first | refine ag bh ?_ | refine ah bh ?_) | ((first | refine aj (fun hg=>?_) (fun hg=>?_) | refine ax (fun hg=>?_) (fun hg=>?_) | refine ay (fun hg=>?_) (fun hg=>?_)) <;> try simp -implicitDefEqProofs only [hg,Bool.not_true,Bool.not_false]) | ((with_reducible apply And.intro);focus (first | trivial | omega | decide | (simp -implicitDefEqProofs only [maxLen];omega) | (simp [maxLen,af,ak,an,av,ai,au,aq] <;> omega))) | fail)
    refine hR _ _ (hK _ _ ?_).2
    have:=HF aD jJ
    exact gM (by simp [lk,cq,this]) (by simp [lk,this])
  | true=>
    rw [jJ] at hf
    have pT:=je.1 jJ
    have hst:=DB aD
    have ws:IntKind.i64.wrap ((xs.take k).sum+xs[k])=(xs.take (k+1)).sum:=by rw [wrap_i64 (by omega) (by omega),hst]
    have y_2:=hf;repeat' (first | (simp -implicitDefEqProofs only [go_sem,Int.reduceNegSucc,hx,hl,wu,ws]) | (with_reducible refine aA ?_) | (with_reducible first | refine ag y_2 ?_ | refine ah y_2 ?_) | ((first | refine aj (fun hg=>?_) (fun hg=>?_) | refine ax (fun hg=>?_) (fun hg=>?_) | refine ay (fun hg=>?_) (fun hg=>?_)) <;> try simp -implicitDefEqProofs only [hg,Bool.not_true,Bool.not_false]) | ((with_reducible apply And.intro);focus (first | trivial | omega | decide | (simp -implicitDefEqProofs only [maxLen];omega) | (simp [maxLen,af,ak,an,av,ai,au,aq] <;> omega))) | fail)
    refine hN (k+1) _ _ ⟨by omega,fun i h hi=>?_,by omega,by omega⟩ (by omega) (aU (by simp [lk]))
    by_cases e:i=k
    ·subst e;exact jJ
    ·exact hk2 i h (by omega)
 ·have aD:k=xs.length:=by simp at hg;omega
  subst aD
  simp -implicitDefEqProofs only [go_sem,Int.reduceNegSucc]
  refine hX _ _ _ ?_
  have hall:=DV (fun i h=>hk2 i h h)
  rw [List.take_length] at *
  have hf:=jO xs.sum
  cases jJ:bT xs.sum with
  | false=>
    rw [jJ] at hf
    have:fV xs=false:=by simp [fV,jJ]
    have bC:=hf;repeat' (first | (simp -implicitDefEqProofs only [go_sem,Int.reduceNegSucc]) | (with_reducible refine aA ?_) | (with_reducible first | refine ag bC ?_ | refine ah bC ?_) | ((first | refine aj (fun hg=>?_) (fun hg=>?_) | refine ax (fun hg=>?_) (fun hg=>?_) | refine ay (fun hg=>?_) (fun hg=>?_)) <;> try simp -implicitDefEqProofs only [hg,Bool.not_true,Bool.not_false]) | ((with_reducible apply And.intro);focus (first | trivial | omega | decide | (simp -implicitDefEqProofs only [maxLen];omega) | (simp [maxLen,af,ak,an,av,ai,au,aq] <;> omega))) | fail)
    refine (hK _ _ ?_).2
    exact gM (by simp [lk,cq,this]) (by simp [lk,this])
  | true=>
    rw [jJ] at hf
    have:fV xs=true:=by simp [fV,jJ,hall]
    have bI:=hf;repeat' (first | (simp -implicitDefEqProofs only [go_sem,Int.reduceNegSucc]) | (with_reducible refine aA ?_) | (with_reducible first | refine ag bI ?_ | refine ah bI ?_) | ((first | refine aj (fun hg=>?_) (fun hg=>?_) | refine ax (fun hg=>?_) (fun hg=>?_) | refine ay (fun hg=>?_) (fun hg=>?_)) <;> try simp -implicitDefEqProofs only [hg,Bool.not_true,Bool.not_false]) | ((with_reducible apply And.intro);focus (first | trivial | omega | decide | (simp -implicitDefEqProofs only [maxLen];omega) | (simp [maxLen,af,ak,an,av,ai,au,aq] <;> omega))) | fail)
    refine (hK _ _ ?_).2
    exact gM (by simp [lk,cq,this]) (by simp [lk,this])
theorem Vf (xs:List Int) (hb:xs.length≤1000):aL Go.Proofs.Tryz.prog 44 [.rv (.sl 1 (aN xs))] [] [] (.aO [.rv (.int .i64 (cq xs)),.rv (.bool (fV xs))]):=by
 refine bz QM [.rv (.sl 1 (aN xs))] _ (by simp) (by simp [aP,bg,bu,aY,bq,aC.sv,Ln.sv,Nd.sv]) (fun K hK=>?_)
 have hl:=ai xs
 conv in fc _ _ _ _=>reduce
 simp -implicitDefEqProofs only [hl,go_sem,Int.reduceNegSucc]
 repeat' (first | (simp -implicitDefEqProofs only [go_sem,Int.reduceNegSucc,hl]) | (with_reducible refine aA ?_) | ((first | refine aj (fun hg=>?_) (fun hg=>?_) | refine ax (fun hg=>?_) (fun hg=>?_) | refine ay (fun hg=>?_) (fun hg=>?_)) <;> try simp -implicitDefEqProofs only [hg,Bool.not_true,Bool.not_false]) | ((with_reducible apply And.intro);focus (first | trivial | omega | decide | (simp -implicitDefEqProofs only [maxLen];omega) | (simp [maxLen,af,ak,an,av,ai,au,aq] <;> omega))) | fail)
 refine fG (ι:=Nat×Int×Int) (fun q=>[(11,.rv (.int .i64 q.1)),(10,.rv (.int .i64 xs.length)),(9,.rv (.sl 1 (aN xs))),(4,.rv (.int .i64 q.2.1)),(5,.rv (.int .i64 q.2.2))]) (fun _=>[]) (fun q=>q.1≤xs.length∧(∀ i,(h:i<xs.length)→i<q.1→bT xs[i]=true)∧q.2.1*33554432+q.2.2=(xs.take q.1).sum∧-(33554432*q.1)≤q.2.1∧q.2.1≤33554432*q.1∧0≤q.2.2∧q.2.2≤33554432*q.1) (fun q=>xs.length - q.1) (0,0,0) ⟨by simp,fun i _ h=>absurd h (by simp),by simp,by simp,by simp,by simp,by simp⟩ (aU (by simp [lk])) (fun q hk K' hN hX hR=>?_)
 obtain ⟨k,hi,lo⟩:=q
 obtain ⟨fH,hk2,gq,FP,Oi,Oj,Ok⟩:=hk
 dsimp only at fH hk2 gq FP Oi Oj Ok ⊢
 simp -implicitDefEqProofs only [go_sem,Int.reduceNegSucc]
 refine aj (fun hg=>?_) (fun hg=>?_)
 ·have aD:k<xs.length:=by simp at hg;omega
  have hx:=oS aD
  have wu:=cw (k:=k) (by omega)
  have hf:=mz xs[k]
  cases jJ:bT xs[k] with
  | false=>
    rw [jJ] at hf
    have bK:=hf;repeat' (first | (simp -implicitDefEqProofs only [go_sem,Int.reduceNegSucc,hx,hl,wu]) | (with_reducible refine aA ?_) | (with_reducible first | refine ag bK ?_ | refine ah bK ?_) | ((first | refine aj (fun hg=>?_) (fun hg=>?_) | refine ax (fun hg=>?_) (fun hg=>?_) | refine ay (fun hg=>?_) (fun hg=>?_)) <;> try simp -implicitDefEqProofs only [hg,Bool.not_true,Bool.not_false]) | ((with_reducible apply And.intro);focus (first | trivial | omega | decide | (simp -implicitDefEqProofs only [maxLen];omega) | (simp [maxLen,af,ak,an,av,ai,au,aq] <;> omega))) | fail)
    refine hR _ _ (hK _ _ ?_).2
    have:=HF aD jJ
    exact gM (by simp [lk,cq,this]) (by simp [lk,this])
  | true=>
    rw [jJ] at hf
    have pT:=je.1 jJ
    have hst:=DB aD
    have w1:IntKind.i64.wrap (hi+xs[k] / 33554432)=hi+xs[k] / 33554432:=by rw [wrap_i64 (by omega) (by omega)]
    have w2:IntKind.i64.wrap (lo+xs[k] % 33554432)=lo+xs[k] % 33554432:=by rw [wrap_i64 (by omega) (by omega)]
    have bM:=hf;repeat' (first | (simp -implicitDefEqProofs only [go_sem,Int.reduceNegSucc,hx,hl,wu,xh,vk,w1,w2]) | (with_reducible refine aA ?_) | (with_reducible first | refine ag bM ?_ | refine ah bM ?_) | ((first | refine aj (fun hg=>?_) (fun hg=>?_) | refine ax (fun hg=>?_) (fun hg=>?_) | refine ay (fun hg=>?_) (fun hg=>?_)) <;> try simp -implicitDefEqProofs only [hg,Bool.not_true,Bool.not_false]) | ((with_reducible apply And.intro);focus (first | trivial | omega | decide | (simp -implicitDefEqProofs only [maxLen];omega) | (simp [maxLen,af,ak,an,av,ai,au,aq] <;> omega))) | fail)
    refine hN (k+1,hi+xs[k] / 33554432,lo+xs[k] % 33554432) _ _ ⟨by dsimp only;omega,fun i h hi=>?_,by dsimp only;omega,by dsimp only;omega,by dsimp only;omega,by dsimp only;omega,by dsimp only;omega⟩ (by dsimp only;omega) (aU (by simp [lk]))
    dsimp only at hi
    by_cases e:i=k
    ·subst e;exact jJ
    ·exact hk2 i h (by omega)
 ·have aD:k=xs.length:=by simp at hg;omega
  subst aD
  simp -implicitDefEqProofs only [go_sem,Int.reduceNegSucc]
  refine hX _ _ _ ?_
  have hall:=DV (fun i h=>hk2 i h h)
  rw [List.take_length] at *
  have w1:IntKind.i64.wrap (hi+lo / 33554432)=hi+lo / 33554432:=by rw [wrap_i64 (by omega) (by omega)]
  by_cases h1:hi+lo / 33554432 < -33554432
  ·have e1:decide (hi+lo / 33554432 < -33554432)=true:=decide_eq_true h1
   have:fV xs=false:=by
    have:bT xs.sum=false:=by rw [Bool.eq_false_iff];intro h;have:=je.1 h;omega
    simp [fV,this]
   repeat' (first | (simp -implicitDefEqProofs only [go_sem,Int.reduceNegSucc,xh,vk,w1,e1]) | (with_reducible refine aA ?_) | ((first | refine aj (fun hg=>?_) (fun hg=>?_) | refine ax (fun hg=>?_) (fun hg=>?_) | refine ay (fun hg=>?_) (fun hg=>?_)) <;> try simp -implicitDefEqProofs only [hg,Bool.not_true,Bool.not_false]) | ((with_reducible apply And.intro);focus (first | trivial | omega | decide | (simp -implicitDefEqProofs only [maxLen];omega) | (simp [maxLen,af,ak,an,av,ai,au,aq] <;> omega))) | fail)
   refine (hK _ _ ?_).2
   exact gM (by simp [lk,cq,this]) (by simp [lk,this])
  ·have e1:decide (hi+lo / 33554432 < -33554432)=false:=decide_eq_false h1
   by_cases h2:hi+lo / 33554432>33554432
   ·have e2:decide (hi+lo / 33554432>33554432)=true:=decide_eq_true h2
    have:fV xs=false:=by
     have:bT xs.sum=false:=by rw [Bool.eq_false_iff];intro h;have:=je.1 h;omega
     simp [fV,this]
    repeat' (first | (simp -implicitDefEqProofs only [go_sem,Int.reduceNegSucc,xh,vk,w1,e1,e2]) | (with_reducible refine aA ?_) | ((first | refine aj (fun hg=>?_) (fun hg=>?_) | refine ax (fun hg=>?_) (fun hg=>?_) | refine ay (fun hg=>?_) (fun hg=>?_)) <;> try simp -implicitDefEqProofs only [hg,Bool.not_true,Bool.not_false]) | ((with_reducible apply And.intro);focus (first | trivial | omega | decide | (simp -implicitDefEqProofs only [maxLen];omega) | (simp [maxLen,af,ak,an,av,ai,au,aq] <;> omega))) | fail)
    refine (hK _ _ ?_).2
    exact gM (by simp [lk,cq,this]) (by simp [lk,this])
   ·have e2:decide (hi+lo / 33554432>33554432)=false:=decide_eq_false h2
    have hf:=mz xs.sum
    have w2:IntKind.i64.wrap (IntKind.i64.wrap ((hi+lo / 33554432)*2 ^ min 25 64)+lo % 33554432)=xs.sum:=by
     rw [show (2:Int) ^ min 25 64=33554432 from rfl,wrap_i64 (n:=(hi+lo / 33554432)*33554432) (by omega) (by omega),wrap_i64 (by omega) (by omega)]
     omega
    cases jJ:bT xs.sum with
    | false=>
      rw [jJ] at hf
      have:fV xs=false:=by simp [fV,jJ]
      have bN:=hf;repeat' (first | (simp -implicitDefEqProofs only [go_sem,Int.reduceNegSucc,xh,vk,w1,e1,e2,w2]) | (with_reducible refine aA ?_) | (with_reducible first | refine ag bN ?_ | refine ah bN ?_) | ((first | refine aj (fun hg=>?_) (fun hg=>?_) | refine ax (fun hg=>?_) (fun hg=>?_) | refine ay (fun hg=>?_) (fun hg=>?_)) <;> try simp -implicitDefEqProofs only [hg,Bool.not_true,Bool.not_false]) | ((with_reducible apply And.intro);focus (first | trivial | omega | decide | (simp -implicitDefEqProofs only [maxLen];omega) | (simp [maxLen,af,ak,an,av,ai,au,aq] <;> omega))) | fail)
      refine (hK _ _ ?_).2
      exact gM (by simp [lk,cq,this]) (by simp [lk,this])
    | true=>
      rw [jJ] at hf
      have:fV xs=true:=by simp [fV,jJ,hall]
      have bR:=hf;repeat' (first | (simp -implicitDefEqProofs only [go_sem,Int.reduceNegSucc,xh,vk,w1,e1,e2,w2]) | (with_reducible refine aA ?_) | (with_reducible first | refine ag bR ?_ | refine ah bR ?_) | ((first | refine aj (fun hg=>?_) (fun hg=>?_) | refine ax (fun hg=>?_) (fun hg=>?_) | refine ay (fun hg=>?_) (fun hg=>?_)) <;> try simp -implicitDefEqProofs only [hg,Bool.not_true,Bool.not_false]) | ((with_reducible apply And.intro);focus (first | trivial | omega | decide | (simp -implicitDefEqProofs only [maxLen];omega) | (simp [maxLen,af,ak,an,av,ai,au,aq] <;> omega))) | fail)
      refine (hK _ _ ?_).2
      exact gM (by simp [lk,cq,this]) (by simp [lk,this])
end Go.aJ

namespace Go.aJ
open Go
theorem Ru:aX Go.Proofs.Tryz.prog 63 49 (fc Go.Proofs.Tryz.prog 63 49 [(.c 6 2 true),(.t 7)]) [(.c 6 2 true),(.t 7)]:=br (by kernel_rfl)
theorem Rs:aX Go.Proofs.Tryz.prog 64 20 (fc Go.Proofs.Tryz.prog 64 20 [(.t 6),(.t 7)]) [(.t 6),(.t 7)]:=br (by kernel_rfl)
theorem Rt:aX Go.Proofs.Tryz.prog 65 20 (fc Go.Proofs.Tryz.prog 65 20 [(.t 6),(.t 7)]) [(.t 6),(.t 7)]:=br (by kernel_rfl)
theorem Rv:aX Go.Proofs.Tryz.prog 92 10 (fc Go.Proofs.Tryz.prog 92 10 [(.t 4)]) [(.t 4)]:=br (by kernel_rfl)
theorem QL:aX Go.Proofs.Tryz.prog 91 35 (fc Go.Proofs.Tryz.prog 91 35 [(.t 4),(.t 5)]) [(.t 4),(.t 5)]:=br (by kernel_rfl)
theorem QN:aX Go.Proofs.Tryz.prog 111 16 (fc Go.Proofs.Tryz.prog 111 16 [(.t 4)]) [(.t 4)]:=br (by kernel_rfl)
theorem RJ:aX Go.Proofs.Tryz.prog 115 8 (fc Go.Proofs.Tryz.prog 115 8 [(.c 2 2 true)]) [(.c 2 2 true)]:=br (by kernel_rfl)
theorem RI:aX Go.Proofs.Tryz.prog 116 16 (fc Go.Proofs.Tryz.prog 116 16 [(.c 4 2 true)]) [(.c 4 2 true)]:=br (by kernel_rfl)
theorem RK:aX Go.Proofs.Tryz.prog 80 12 (fc Go.Proofs.Tryz.prog 80 12 [(.t 2),(.t 3)]) [(.t 2),(.t 3)]:=br (by kernel_rfl)
theorem QK:aX Go.Proofs.Tryz.prog 123 5 (fc Go.Proofs.Tryz.prog 123 5 [(.t 2)]) [(.t 2)]:=br (by kernel_rfl)
theorem QY:aX Go.Proofs.Tryz.prog 29 25 (fc Go.Proofs.Tryz.prog 29 25 [(.t 4)]) [(.t 4)]:=br (by kernel_rfl)
structure Sz where
 auto:Bool
 n:Int
 deriving DecidableEq,Inhabited
def Sz.cells (x:Sz):List RV:=[.bool x.auto,.int .i64 x.n]
abbrev Sz.sv (x:Sz):SV:=.agg (x.cells.map .rv)
structure Su where
 p:Int
 n:Int
 deriving DecidableEq,Inhabited
def Su.cells (x:Su):List RV:=[.int .i64 x.p,.int .i64 x.n]
abbrev Su.sv (x:Su):SV:=.agg (x.cells.map .rv)
def lA (b p:Int):Bool:=decide (0≤b∧b≤1125899906842624∧-1000000≤p∧p≤1000000) && bT (b*p / 10000)
def lY (b p:Int):Int:=if lA b p=true then b*p / 10000 else 0
def gf (x:Ln) (b:Int) (has:Bool):Sz:=if x.kind=0∨x.kind=2∧has=false then ⟨true,0⟩ else if x.kind=1∧bT x.n=true then ⟨false,x.n⟩ else if x.kind=2 then ⟨false,lY b x.n⟩ else ⟨false,0⟩
def iy (x:Ln) (b:Int) (has:Bool):Bool:=decide (x.kind=0) || decide (x.kind=2) && (!has || lA b x.n) || decide (x.kind=1) && bT x.n
def bk (x:Sz) (d:Int):Int:=if x.auto=true then d else x.n
def fR (a b:Su):Su:=⟨max a.p b.p,min a.n b.n⟩
def iQ (a:Su):Int:=cq [a.p,a.n]
def nG (a:Su):Bool:=fV [a.p,a.n]
def ic (w:Int) (h:Sz):Bool:=decide (0≤w∧w≤1125899906842624) && (h.auto || decide (0≤h.n∧h.n≤1125899906842624))
theorem Vd (x:Int):aL Go.Proofs.Tryz.prog 123 [.rv (.int .i64 x)] [] [] (.rv (.int .i64 (x / 2))):=by
 refine bz QK [.rv (.int .i64 x)] _ (by simp) (by simp [aP,bg,bu,aY,bq,aC.sv,Ln.sv,Nd.sv]) (fun K hK=>?_)
 conv in fc _ _ _ _=>reduce
 simp -implicitDefEqProofs only [go_sem,Int.reduceNegSucc]
 repeat' (first | (simp -implicitDefEqProofs only [go_sem,Int.reduceNegSucc]) | (with_reducible refine aA ?_) | ((first | refine aj (fun hg=>?_) (fun hg=>?_) | refine ax (fun hg=>?_) (fun hg=>?_) | refine ay (fun hg=>?_) (fun hg=>?_)) <;> try simp -implicitDefEqProofs only [hg,Bool.not_true,Bool.not_false]) | ((with_reducible apply And.intro);focus (first | trivial | omega | decide | (simp -implicitDefEqProofs only [maxLen];omega) | (simp [maxLen,af,ak,an,av,ai,au,aq] <;> omega))) | fail)
 refine (hK _ _ (bU ?_)).2
 simp [lk]
 exact Int.fdiv_eq_ediv_of_nonneg _ (by decide)
theorem nC (x:Sz) (d:Int):aL Go.Proofs.Tryz.prog 92 [x.sv,.rv (.int .i64 d)] [] [] (.rv (.int .i64 (bk x d))):=by
 refine bz Rv [x.sv,.rv (.int .i64 d)] _ (by simp) (by simp [aP,bg,bu,aY,bq,aC.sv,Ln.sv,Nd.sv]) (fun K hK=>?_)
 conv in fc _ _ _ _=>reduce
 simp -implicitDefEqProofs only [Sz.sv,Sz.cells,go_sem,Int.reduceNegSucc]
 repeat' (first | (simp -implicitDefEqProofs only [go_sem,Int.reduceNegSucc]) | (with_reducible refine aA ?_) | ((first | refine aj (fun hg=>?_) (fun hg=>?_) | refine ax (fun hg=>?_) (fun hg=>?_) | refine ay (fun hg=>?_) (fun hg=>?_)) <;> try simp -implicitDefEqProofs only [hg,Bool.not_true,Bool.not_false]) | ((with_reducible apply And.intro);focus (first | trivial | omega | decide | (simp -implicitDefEqProofs only [maxLen];omega) | (simp [maxLen,af,ak,an,av,ai,au,aq] <;> omega))) | fail)
 all_goals (refine (hK _ _ ?_).2;clear hK;simp -implicitDefEqProofs only [go_sem,Int.reduceNegSucc,aS,aT,bf,bl,aH,aG,aF,bk] <;>(try simp_all [-Int.not_lt,-Int.not_le,aH,aG,aF,bF,bk]) <;> try omega)
theorem Jg (x:Int):aL Go.Proofs.Tryz.prog 115 [.rv (.int .i64 x)] [] [] (Su.sv ⟨max x 0,min x 0⟩):=by
 refine bz RJ [.rv (.int .i64 x)] _ (by simp) (by simp [aP,bg,bu,aY,bq,aC.sv,Ln.sv,Nd.sv]) (fun K hK=>?_)
 conv in fc _ _ _ _=>reduce
 simp -implicitDefEqProofs only [Su.sv,Su.cells,go_sem,Int.reduceNegSucc]
 repeat' (first | (simp -implicitDefEqProofs only [go_sem,Int.reduceNegSucc]) | (with_reducible refine aA ?_) | ((first | refine aj (fun hg=>?_) (fun hg=>?_) | refine ax (fun hg=>?_) (fun hg=>?_) | refine ay (fun hg=>?_) (fun hg=>?_)) <;> try simp -implicitDefEqProofs only [hg,Bool.not_true,Bool.not_false]) | ((with_reducible apply And.intro);focus (first | trivial | omega | decide | (simp -implicitDefEqProofs only [maxLen];omega) | (simp [maxLen,af,ak,an,av,ai,au,aq] <;> omega))) | fail)
 all_goals (refine (hK _ _ ?_).2;clear hK;simp -implicitDefEqProofs only [go_sem,Int.reduceNegSucc,aS,aT,bf,bl,aH,aG,aF,Su.sv,Su.cells] <;>(try simp_all [-Int.not_lt,-Int.not_le,aH,aG,aF,bF,Su.sv,Su.cells]) <;> try omega)
theorem uV (a b:Su):aL Go.Proofs.Tryz.prog 116 [a.sv,b.sv] [] [] (fR a b).sv:=by
 refine bz RI [a.sv,b.sv] _ (by simp) (by simp [aP,bg,bu,aY,bq,aC.sv,Ln.sv,Nd.sv]) (fun K hK=>?_)
 conv in fc _ _ _ _=>reduce
 simp -implicitDefEqProofs only [Su.sv,Su.cells,go_sem,Int.reduceNegSucc]
 repeat' (first | (simp -implicitDefEqProofs only [go_sem,Int.reduceNegSucc]) | (with_reducible refine aA ?_) | ((first | refine aj (fun hg=>?_) (fun hg=>?_) | refine ax (fun hg=>?_) (fun hg=>?_) | refine ay (fun hg=>?_) (fun hg=>?_)) <;> try simp -implicitDefEqProofs only [hg,Bool.not_true,Bool.not_false]) | ((with_reducible apply And.intro);focus (first | trivial | omega | decide | (simp -implicitDefEqProofs only [maxLen];omega) | (simp [maxLen,af,ak,an,av,ai,au,aq] <;> omega))) | fail)
 all_goals (refine (hK _ _ ?_).2;clear hK;simp -implicitDefEqProofs only [go_sem,Int.reduceNegSucc,aS,aT,bf,bl,aH,aG,aF,Su.sv,Su.cells,fR] <;>(try simp_all [-Int.not_lt,-Int.not_le,aH,aG,aF,bF,Su.sv,Su.cells,fR]) <;> try omega)
def lT (xs:List Int):List (List SV):=xs.map fun x=>[.rv (.int .i64 x)]
theorem Cq (xs:List Int):lT xs=aM (aN xs):=by simp [lT,aM,aN]
theorem tI (id:Nat) (xs:List Int) (hb:xs.length≤1000):aL Go.Proofs.Tryz.prog 44 [.row id 0 xs.length] [(id,.row 1 0 (lT xs))] [] (.aO [.rv (.int .i64 (cq xs)),.rv (.bool (fV xs))]):=by
 have:=GW (id:=id) (v:=0) (n:=xs.length) (bs:=[]) (rs:=[.int .i64 (cq xs),.bool (fV xs)]) (Vf xs hb) (by simp;exact ⟨.int _ _,.bool _⟩) (by rw [ai]) (kM _)
 rw [Cq];exact this
theorem Dx (a:Su):aL Go.Proofs.Tryz.prog 80 [a.sv] [] [] (.aO [.rv (.int .i64 (iQ a)),.rv (.bool (nG a))]):=by
 refine bz RK [a.sv] _ (by simp) (by simp [aP,bg,bu,aY,bq,aC.sv,Ln.sv,Nd.sv]) (fun K hK=>?_)
 have hs:=fun id=>tI id [a.p,a.n] (by simp)
 conv in fc _ _ _ _=>reduce
 simp -implicitDefEqProofs only [Su.sv,Su.cells,go_sem,Int.reduceNegSucc]
 simp [lT] at hs
 have bh:=hs;repeat' (first | (simp -implicitDefEqProofs only [go_sem,Int.reduceNegSucc]) | (with_reducible refine aA ?_) | ((first | refine bS (bh _) ?_ ?_ ?_ | refine bV (bh _) ?_ ?_ ?_ | fail);(focus (simp [aR,aB] <;> fail));(focus (simp [aV,aQ] <;> fail))) | ((first | refine aj (fun hg=>?_) (fun hg=>?_) | refine ax (fun hg=>?_) (fun hg=>?_) | refine ay (fun hg=>?_) (fun hg=>?_)) <;> try simp -implicitDefEqProofs only [hg,Bool.not_true,Bool.not_false]) | ((with_reducible apply And.intro);focus (first | trivial | omega | decide | (simp -implicitDefEqProofs only [maxLen];omega) | (simp [maxLen,af,ak,an,av,ai,au,aq] <;> omega))) | fail)
 all_goals (refine (hK _ _ ?_).2;clear hK;simp -implicitDefEqProofs only [go_sem,Int.reduceNegSucc,aS,aT,bf,bl,aH,aG,aF,iQ,nG] <;>(try simp_all [-Int.not_lt,-Int.not_le,aH,aG,aF,bF,iQ,nG]) <;> try omega)
theorem IU (w:Int) (h:Sz):aL Go.Proofs.Tryz.prog 29 [.rv (.int .i64 w),h.sv] [] [] (.rv (.bool (ic w h))):=by
 refine bz QY [.rv (.int .i64 w),h.sv] _ (by simp) (by simp [aP,bg,bu,aY,bq,aC.sv,Ln.sv,Nd.sv]) (fun K hK=>?_)
 conv in fc _ _ _ _=>reduce
 simp -implicitDefEqProofs only [Sz.sv,Sz.cells,go_sem,Int.reduceNegSucc]
 repeat' (first | (simp -implicitDefEqProofs only [go_sem,Int.reduceNegSucc]) | (with_reducible refine aA ?_) | ((first | refine aj (fun hg=>?_) (fun hg=>?_) | refine ax (fun hg=>?_) (fun hg=>?_) | refine ay (fun hg=>?_) (fun hg=>?_)) <;> try simp -implicitDefEqProofs only [hg,Bool.not_true,Bool.not_false]) | ((with_reducible apply And.intro);focus (first | trivial | omega | decide | (simp -implicitDefEqProofs only [maxLen];omega) | (simp [maxLen,af,ak,an,av,ai,au,aq] <;> omega))) | fail)
 all_goals (refine (hK _ _ ?_).2;clear hK;simp -implicitDefEqProofs only [go_sem,Int.reduceNegSucc,aS,aT,bf,bl,aH,aG,aF,ic] <;>(try simp_all [-Int.not_lt,-Int.not_le,aH,aG,aF,bF,ic]) <;> try omega)
end Go.aJ

namespace Go.aJ
open Go Go.Proofs
theorem KK:fD Go.Proofs.Tryz.prog 2=some false:=by kernel_rfl
theorem KI:fD Go.Proofs.Tryz.prog 4=some false:=by kernel_rfl
theorem KM:fD Go.Proofs.Tryz.prog 24=some true:=by kernel_rfl
theorem Tm {rs:List RV} (h:jv Go.Proofs.Tryz.prog 1 2 rs):∃ i:Int,nJ Go.Proofs.Tryz.prog 2 rs = .rv (.int .i64 i):=by
 obtain ⟨i,rfl⟩:=qj h
 exact ⟨i,xW KK⟩
theorem Tk {rs:List RV} (h:jv Go.Proofs.Tryz.prog 1 4 rs):∃ i:Bool,nJ Go.Proofs.Tryz.prog 4 rs = .rv (.bool i):=by
 obtain ⟨i,rfl⟩:=uZ h
 exact ⟨i,xW KI⟩
theorem To {rs:List RV} (h:jv Go.Proofs.Tryz.prog 2 24 rs):∃ x:Sz,nJ Go.Proofs.Tryz.prog 24 rs=x.sv:=by
 have h:=As Tryz.underlying24 h
 obtain ⟨_,_,rfl,h1,_,_,rfl,h2,rfl⟩:=h
 obtain ⟨a,rfl⟩:=uZ h1
 obtain ⟨b,rfl⟩:=qj h2
 exact ⟨⟨a,b⟩,Lg KM⟩
end Go.aJ

namespace Go.aJ
open Go
theorem Rl:aX Go.Proofs.Tryz.prog 97 51 (fc Go.Proofs.Tryz.prog 97 51 [(.t 4),(.t 5)]) [(.t 4),(.t 5)]:=br (by kernel_rfl)
theorem Rk:aX Go.Proofs.Tryz.prog 124 25 (fc Go.Proofs.Tryz.prog 124 25 [(.t 2)]) [(.t 2)]:=br (by kernel_rfl)
theorem Rj:aX Go.Proofs.Tryz.prog 118 6 (fc Go.Proofs.Tryz.prog 118 6 [(.t 2)]) [(.t 2)]:=br (by kernel_rfl)
theorem wrap_u64 {n:Int} (h1:0≤n) (h2:n<18446744073709551616):IntKind.u64.wrap n=n:=by
 have:IntKind.u64.wrap n=n % 18446744073709551616:=by rfl
 rw [this];omega
theorem DW (a:Int):IntKind.u64.wrap ((@BitVec.toNat 64 (@HAnd.hAnd (BitVec 64) (BitVec 64) (BitVec 64) (@instHAndOfAndOp (BitVec IntKind.u64.bits) (@BitVec.instAndOp IntKind.u64.bits)) (BitVec.ofInt 64 a) (BitVec.ofInt 64 4294967295)):Nat):Int)=a % 4294967296:=by
 have h1:(BitVec.ofInt 64 a &&& BitVec.ofInt 64 4294967295).toNat=(BitVec.ofInt 64 a).toNat % 4294967296:=by
  show (BitVec.ofInt 64 a &&& BitVec.ofInt 64 4294967295).toNat=_
  rw [BitVec.toNat_and]
  exact Nat.and_two_pow_sub_one_eq_mod _ 32
 have h2:(((BitVec.ofInt 64 a).toNat % 4294967296:Nat):Int)=a % 4294967296:=by
  rw [BitVec.toNat_ofInt]
  omega
 have h3:((BitVec.ofInt 64 a &&& BitVec.ofInt 64 4294967295).toNat:Int)=a % 4294967296:=by rw [h1,h2]
 exact (congrArg IntKind.u64.wrap h3).trans (wrap_u64 (by omega) (by omega))
theorem Ul (a:Int):a.fdiv (2 ^ min 32 64)=a / 4294967296:=by
 rw [Int.fdiv_eq_ediv_of_nonneg _ (by decide)];rfl
theorem CN {a b A B:Int} (h0:0≤a) (h:a≤A) (h1:0≤b) (h2:b≤B):0≤a*b∧a*b≤A*B:=
 ⟨Int.mul_nonneg h0 h1,Int.mul_le_mul h h2 h1 (by omega)⟩
theorem IM (x y:Int) (hx:0≤x) (Xj:x≤1125899906842624) (hy:0≤y) (zq:y≤1000000):aL Go.Proofs.Tryz.prog 97 [.rv (.int .u64 x),.rv (.int .u64 y)] [] [] (.aO [.rv (.int .u64 (x*y / 18446744073709551616)),.rv (.int .u64 (x*y % 18446744073709551616))]):=by
 refine bz Rl [.rv (.int .u64 x),.rv (.int .u64 y)] _ (by simp) (by simp [aP,bg,bu,aY,bq,aC.sv,Ln.sv,Nd.sv]) (fun K hK=>?_)
 have y0:y % 4294967296=y:=by omega
 have y1:y / 4294967296=0:=by omega
 have m1:=CN (a:=x % 4294967296) (b:=y) (A:=4294967295) (B:=1000000) (by omega) (by omega) hy zq
 have m2:=CN (a:=x / 4294967296) (b:=y) (A:=262144) (B:=1000000) (by omega) (by omega) hy zq
 have e:x*y=x / 4294967296*y*4294967296+x % 4294967296*y:=by
  conv=>lhs;rw [← Int.mul_ediv_add_emod x 4294967296]
  rw [Int.add_mul,Int.mul_comm 4294967296,Int.mul_assoc,Int.mul_comm 4294967296,Int.mul_assoc]
 generalize hA:x % 4294967296*y=A at *
 generalize hB:x / 4294967296*y=B at *
 have w1:IntKind.u64.wrap A=A:=wrap_u64 (by omega) (by omega)
 have w2:IntKind.u64.wrap B=B:=wrap_u64 (by omega) (by omega)
 have w3:IntKind.u64.wrap (B+A / 4294967296)=B+A / 4294967296:=wrap_u64 (by omega) (by omega)
 have w4:IntKind.u64.wrap 0=0:=rfl
 have w5:IntKind.u64.wrap ((B+A / 4294967296) % 4294967296+0)=(B+A / 4294967296) % 4294967296:=by rw [Int.add_zero];exact wrap_u64 (by omega) (by omega)
 have w6:IntKind.u64.wrap (0+(B+A / 4294967296) / 4294967296)=(B+A / 4294967296) / 4294967296:=by rw [Int.zero_add];exact wrap_u64 (by omega) (by omega)
 have w7:IntKind.u64.wrap ((B+A / 4294967296) / 4294967296+(B+A / 4294967296) % 4294967296 / 4294967296)=x*y / 18446744073709551616:=by rw [wrap_u64 (by omega) (by omega)];omega
 have w8:IntKind.u64.wrap (x*y)=x*y % 18446744073709551616:=rfl
 conv in fc _ _ _ _=>reduce
 simp -implicitDefEqProofs only [go_sem,Int.reduceNegSucc]
 repeat' (first | (simp -implicitDefEqProofs only [go_sem,Int.reduceNegSucc,DW,Ul,y0,y1,hA,hB,w1,w2,w3,Int.mul_zero,w4,w5,w6,w7,w8]) | (with_reducible refine aA ?_) | ((first | refine aj (fun hg=>?_) (fun hg=>?_) | refine ax (fun hg=>?_) (fun hg=>?_) | refine ay (fun hg=>?_) (fun hg=>?_)) <;> try simp -implicitDefEqProofs only [hg,Bool.not_true,Bool.not_false]) | ((with_reducible apply And.intro);focus (first | trivial | omega | decide | (simp -implicitDefEqProofs only [maxLen];omega) | (simp [maxLen,af,ak,an,av,ai,au,aq] <;> omega))) | fail)
 exact (hK _ _ (gM rfl rfl)).2
theorem UK:aL Go.Proofs.Tryz.prog 124 [.rv (.int .u64 10000)] [] [] (.rv (.int .i64 14)):=by
 refine bz Rk [.rv (.int .u64 10000)] _ (by simp) (by simp [aP,bg,bu,aY,bq,aC.sv,Ln.sv,Nd.sv]) (fun K hK=>?_)
 have g1:decide ((10000:Int)≥4294967296)=false:=rfl
 have g2:decide ((10000:Int)≥65536)=false:=rfl
 have g3:decide ((10000:Int)≥256)=true:=rfl
 have s1:(10000:Int).fdiv (2 ^ min 8 64)=39:=rfl
 have s2:IntKind.i64.wrap (0+8)=8:=rfl
 have s3:IntKind.u8.wrap 39=39:=rfl
 conv in fc _ _ _ _=>reduce
 simp -implicitDefEqProofs only [go_sem,Int.reduceNegSucc]
 repeat' (first | (simp -implicitDefEqProofs only [go_sem,Int.reduceNegSucc,g1,g2,g3,s1,s2,s3]) | (with_reducible refine aA ?_) | ((first | refine aj (fun hg=>?_) (fun hg=>?_) | refine ax (fun hg=>?_) (fun hg=>?_) | refine ay (fun hg=>?_) (fun hg=>?_)) <;> try simp -implicitDefEqProofs only [hg,Bool.not_true,Bool.not_false]) | ((with_reducible apply And.intro);focus (first | trivial | omega | decide | (simp -implicitDefEqProofs only [maxLen];omega) | (simp [maxLen,af,ak,an,av,ai,au,aq] <;> omega))) | fail)
 exact (hK _ _ (bU (by rfl))).2
theorem UI:aL Go.Proofs.Tryz.prog 118 [.rv (.int .u64 10000)] [] [] (.rv (.int .i64 50)):=by
 refine bz Rj [.rv (.int .u64 10000)] _ (by simp) (by simp [aP,bg,bu,aY,bq,aC.sv,Ln.sv,Nd.sv]) (fun K hK=>?_)
 have h:=UK
 have s2:IntKind.i64.wrap (64 - 14)=50:=rfl
 conv in fc _ _ _ _=>reduce
 simp -implicitDefEqProofs only [go_sem,Int.reduceNegSucc]
 have bh:=h;repeat' (first | (simp -implicitDefEqProofs only [go_sem,Int.reduceNegSucc,s2]) | (with_reducible refine aA ?_) | (with_reducible first | refine ag bh ?_ | refine ah bh ?_) | ((first | refine aj (fun hg=>?_) (fun hg=>?_) | refine ax (fun hg=>?_) (fun hg=>?_) | refine ay (fun hg=>?_) (fun hg=>?_)) <;> try simp -implicitDefEqProofs only [hg,Bool.not_true,Bool.not_false]) | ((with_reducible apply And.intro);focus (first | trivial | omega | decide | (simp -implicitDefEqProofs only [maxLen];omega) | (simp [maxLen,af,ak,an,av,ai,au,aq] <;> omega))) | fail)
 exact (hK _ _ (bU rfl)).2
end Go.aJ

namespace Go.aJ
open Go
theorem Ri:aX Go.Proofs.Tryz.prog 98 135 (fc Go.Proofs.Tryz.prog 98 135 [(.t 6),(.t 7)]) [(.t 6),(.t 7)]:=br (by kernel_rfl)
theorem Ay (n:Int):IntKind.u64.wrap n=n % 18446744073709551616:=rfl
theorem Tq (a b:Nat) (hb:b<2 ^ 50) (ha:a<2 ^ 14):IntKind.u64.wrap ((@BitVec.toNat 64 (@HOr.hOr (BitVec 64) (BitVec 64) (BitVec 64) (@instHOrOfOrOp (BitVec IntKind.u64.bits) (@BitVec.instOrOp IntKind.u64.bits)) (BitVec.ofInt 64 ((a:Int)*1125899906842624)) (BitVec.ofInt 64 (b:Int))):Nat):Int)=(a:Int)*1125899906842624+b:=by
 have h1:(BitVec.ofInt 64 ((a:Int)*1125899906842624)).toNat=a <<< 50:=by
  rw [BitVec.toNat_ofInt,Nat.shiftLeft_eq];omega
 have h2:(BitVec.ofInt 64 (b:Int)).toNat=b:=by rw [BitVec.toNat_ofInt];omega
 have h3:(BitVec.ofInt 64 ((a:Int)*1125899906842624) ||| BitVec.ofInt 64 (b:Int)).toNat=a*2 ^ 50+b:=by
  rw [BitVec.toNat_or,h1,h2,← Nat.shiftLeft_add_eq_or_of_lt hb,Nat.shiftLeft_eq]
 have h4:((BitVec.ofInt 64 ((a:Int)*1125899906842624) ||| BitVec.ofInt 64 (b:Int)).toNat:Int)=(a:Int)*1125899906842624+b:=by rw [h3];omega
 exact (congrArg IntKind.u64.wrap h4).trans (wrap_u64 (by omega) (by omega))
theorem II (hi lo:Nat) (h1:hi<1024) (h2:lo<18446744073709551616):aL Go.Proofs.Tryz.prog 98 [.rv (.int .u64 hi),.rv (.int .u64 lo),.rv (.int .u64 10000)] [] []
 (.aO [.rv (.int .u64 (((hi:Int)*18446744073709551616+lo) / 10000)),.rv (.int .u64 (((hi:Int)*18446744073709551616+lo) % 10000))]):=by
 refine bz Ri [.rv (.int .u64 hi),.rv (.int .u64 lo),.rv (.int .u64 10000)] _ (by simp) (by simp [aP,bg,bu,aY,bq,aC.sv,Ln.sv,Nd.sv]) (fun K hK=>?_)
 have g1:((10000:Int) == 0)=false:=rfl
 have g2:decide ((10000:Int)≤hi)=false:=decide_eq_false (by omega)
 by_cases h0:hi=0
 ·subst h0
  have g3:(((0:Nat):Int) == 0)=true:=rfl
  have t1:(lo:Int).tdiv 10000=lo / 10000:=Int.tdiv_eq_ediv_of_nonneg (by omega)
  have t2:(lo:Int).tmod 10000=lo % 10000:=Int.tmod_eq_emod_of_nonneg (by omega)
  have w1:IntKind.u64.wrap ((lo:Int) / 10000)=lo / 10000:=wrap_u64 (by omega) (by omega)
  conv in fc _ _ _ _=>reduce
  simp -implicitDefEqProofs only [go_sem,Int.reduceNegSucc]
  repeat' (first | (simp -implicitDefEqProofs only [go_sem,Int.reduceNegSucc,g1,g2,g3,t1,t2,w1]) | (with_reducible refine aA ?_) | ((first | refine aj (fun hg=>?_) (fun hg=>?_) | refine ax (fun hg=>?_) (fun hg=>?_) | refine ay (fun hg=>?_) (fun hg=>?_)) <;> try simp -implicitDefEqProofs only [hg,Bool.not_true,Bool.not_false]) | ((with_reducible apply And.intro);focus (first | trivial | omega | decide | (simp -implicitDefEqProofs only [maxLen];omega) | (simp [maxLen,af,ak,an,av,ai,au,aq] <;> omega))) | fail)
  exact (hK _ _ (gM (by simp [lk]) (by simp [lk]))).2
 ·have g3:((hi:Int) == 0)=false:=by rw [Bool.eq_false_iff];simp;omega
  have hz:=UI
  conv in fc _ _ _ _=>reduce
  simp -implicitDefEqProofs only [go_sem,Int.reduceNegSucc]
  have c1:IntKind.u64.wrap 50=50:=rfl
  have c2:IntKind.u64.wrap (10000*2 ^ min 50 64)=11258999068426240000:=rfl
  have c3:(11258999068426240000:Int).fdiv (2 ^ min 32 64)=2621440000:=rfl
  have c4:(11258999068426240000:Int) % 4294967296=0:=rfl
  have c5:IntKind.u64.wrap (64 - 50)=14:=rfl
  have c6:IntKind.u64.wrap ((hi:Int)*2 ^ min 50 64)=(hi:Int)*1125899906842624:=wrap_u64 (by show 0≤(hi:Int)*1125899906842624;omega) (by show (hi:Int)*1125899906842624<_;omega)
  have c7:(lo:Int).fdiv (2 ^ min 14 64)=((lo / 16384:Nat):Int):=by rw [Int.fdiv_eq_ediv_of_nonneg _ (by decide)];rfl
  have c8:=Tq hi (lo / 16384) (by omega) (by omega)
  have bh:=hz;repeat' (first | (simp -implicitDefEqProofs only [go_sem,Int.reduceNegSucc,g1,g2,g3,c1,c2,c3,DW,c4,c5,c6,c7,c8]) | (with_reducible refine aA ?_) | (with_reducible first | refine ag bh ?_ | refine ah bh ?_) | ((first | refine aj (fun hg=>?_) (fun hg=>?_) | refine ax (fun hg=>?_) (fun hg=>?_) | refine ay (fun hg=>?_) (fun hg=>?_)) <;> try simp -implicitDefEqProofs only [hg,Bool.not_true,Bool.not_false]) | ((with_reducible apply And.intro);focus (first | trivial | omega | decide | (simp -implicitDefEqProofs only [maxLen];omega) | (simp [maxLen,af,ak,an,av,ai,au,aq] <;> omega))) | fail)
  have hV:(hi:Int)*18446744073709551616+lo=((hi:Int)*1125899906842624+((lo / 16384:Nat):Int))*16384+(lo:Int) % 16384:=by omega
  have NL:0≤(hi:Int)*1125899906842624+((lo / 16384:Nat):Int):=by omega
  have WV:(hi:Int)*1125899906842624+((lo / 16384:Nat):Int)<1152921504606846976:=by omega
  rw [hV] at hK
  have d4:IntKind.u64.wrap ((lo:Int)*2 ^ min 50 64)=(lo:Int) % 16384*1125899906842624:=by rw [show (2:Int) ^ min 50 64=1125899906842624 from rfl,Ay];omega
  have zp:0≤(lo:Int) % 16384:=by omega
  have Ga:(lo:Int) % 16384<16384:=by omega
  generalize (hi:Int)*1125899906842624+((lo / 16384:Nat):Int)=U at *
  generalize (lo:Int) % 16384=r at *
  have d5:(r*1125899906842624).fdiv (2 ^ min 32 64)=r*262144:=by rw [show (2:Int) ^ min 32 64=4294967296 from rfl,Int.fdiv_eq_ediv_of_nonneg _ (by decide)];omega
  have d6:r*1125899906842624 % 4294967296=0:=by omega
  have d1:IntKind.u64.wrap (U.tdiv 2621440000)=U / 2621440000:=by rw [Int.tdiv_eq_ediv_of_nonneg NL];exact wrap_u64 (by omega) (by omega)
  have d2:IntKind.u64.wrap (U / 2621440000*2621440000)=U / 2621440000*2621440000:=wrap_u64 (by omega) (by omega)
  have d3:IntKind.u64.wrap (U - U / 2621440000*2621440000)=U % 2621440000:=by rw [wrap_u64 (by omega) (by omega)];omega
  have e0:decide (U / 2621440000≥4294967296)=false:=decide_eq_false (by omega)
  have e1:IntKind.u64.wrap 0=0:=rfl
  have e2:IntKind.u64.wrap (4294967296*(U % 2621440000))=4294967296*(U % 2621440000):=wrap_u64 (by omega) (by omega)
  have e3:IntKind.u64.wrap (4294967296*(U % 2621440000)+r*262144)=4294967296*(U % 2621440000)+r*262144:=wrap_u64 (by omega) (by omega)
  have e4:decide (0>4294967296*(U % 2621440000)+r*262144)=false:=decide_eq_false (by omega)
  have d10:IntKind.u64.wrap (IntKind.u64.wrap (IntKind.u64.wrap (U*4294967296)+r*262144) - IntKind.u64.wrap (U / 2621440000*11258999068426240000))=U % 2621440000*4294967296+r*262144:=by
   simp -implicitDefEqProofs only [Ay];omega
  obtain ⟨X,hX⟩:∃ X,X=U % 2621440000*4294967296+r*262144:=⟨_,rfl⟩
  rw [← hX] at d10
  have f0:IntKind.u64.wrap (X.tdiv 2621440000)=X / 2621440000:=by rw [Int.tdiv_eq_ediv_of_nonneg (by omega)];exact wrap_u64 (by omega) (by omega)
  have f1:IntKind.u64.wrap (X / 2621440000*2621440000)=X / 2621440000*2621440000:=wrap_u64 (by omega) (by omega)
  have f2:IntKind.u64.wrap (X - X / 2621440000*2621440000)=X % 2621440000:=by rw [wrap_u64 (by omega) (by omega)];omega
  have f3:decide (X / 2621440000≥4294967296)=false:=decide_eq_false (by omega)
  have f4:IntKind.u64.wrap (4294967296*(X % 2621440000))=4294967296*(X % 2621440000):=wrap_u64 (by omega) (by omega)
  have f6:decide (0>4294967296*(X % 2621440000))=false:=decide_eq_false (by omega)
  have f7:IntKind.u64.wrap (IntKind.u64.wrap (U / 2621440000*4294967296)+X / 2621440000)=(U*16384+r) / 10000:=by
   rw [wrap_u64 (n:=U / 2621440000*4294967296) (by omega) (by omega),wrap_u64 (by omega) (by omega)];omega
  have f8:IntKind.u64.wrap (IntKind.u64.wrap (X*4294967296) - IntKind.u64.wrap (X / 2621440000*11258999068426240000))=(U*16384+r) % 10000*1125899906842624:=by
   simp -implicitDefEqProofs only [Ay];omega
  have f9:IntKind.u64.wrap (IntKind.u64.wrap (X*4294967296))=IntKind.u64.wrap (X*4294967296):=by simp -implicitDefEqProofs only [Ay];omega
  have f10:((U*16384+r) % 10000*1125899906842624).fdiv (2 ^ min 50 64)=(U*16384+r) % 10000:=by rw [show (2:Int) ^ min 50 64=1125899906842624 from rfl,Int.fdiv_eq_ediv_of_nonneg _ (by decide)];omega
  simp -implicitDefEqProofs only [d1,d2,d3,d4,d5,d6]
  refine kK 2 ?_
  repeat' (first | (simp -implicitDefEqProofs only [go_sem,Int.reduceNegSucc,kO,kP,kQ,kR,kS,kT,kI,Int.reduceLT,decide_true,decide_false,Int.reduceToNat,Nat.reduceMul,e0,Int.mul_zero,e1,e2,e3,e4]) | (with_reducible refine aA ?_) | (with_reducible show G _ _ (It.l _ _::_) _ _ _;refine kJ ?_) | ((first | refine aj (fun hg=>?_) (fun hg=>?_) | refine ax (fun hg=>?_) (fun hg=>?_) | refine ay (fun hg=>?_) (fun hg=>?_)) <;> try simp -implicitDefEqProofs only [hg,Bool.not_true,Bool.not_false]) | ((with_reducible apply And.intro);focus (first | trivial | omega | decide | (simp -implicitDefEqProofs only [maxLen];omega) | (simp [maxLen,af,ak,an,av,ai,au,aq] <;> omega))) | fail)
  repeat' (first | (simp -implicitDefEqProofs only [go_sem,Int.reduceNegSucc,d10,f0,f1,f2]) | (with_reducible refine aA ?_) | ((first | refine aj (fun hg=>?_) (fun hg=>?_) | refine ax (fun hg=>?_) (fun hg=>?_) | refine ay (fun hg=>?_) (fun hg=>?_)) <;> try simp -implicitDefEqProofs only [hg,Bool.not_true,Bool.not_false]) | ((with_reducible apply And.intro);focus (first | trivial | omega | decide | (simp -implicitDefEqProofs only [maxLen];omega) | (simp [maxLen,af,ak,an,av,ai,au,aq] <;> omega))) | fail)
  refine kK 2 ?_
  repeat' (first | (simp -implicitDefEqProofs only [go_sem,Int.reduceNegSucc,kO,kP,kQ,kR,kS,kT,kI,Int.reduceLT,decide_true,decide_false,Int.reduceToNat,Nat.reduceMul,f3,Int.mul_zero,e1,f4,Int.add_zero,f6,f7,f9,f8,f10]) | (with_reducible refine aA ?_) | (with_reducible show G _ _ (It.l _ _::_) _ _ _;refine kJ ?_) | ((first | refine aj (fun hg=>?_) (fun hg=>?_) | refine ax (fun hg=>?_) (fun hg=>?_) | refine ay (fun hg=>?_) (fun hg=>?_)) <;> try simp -implicitDefEqProofs only [hg,Bool.not_true,Bool.not_false]) | ((with_reducible apply And.intro);focus (first | trivial | omega | decide | (simp -implicitDefEqProofs only [maxLen];omega) | (simp [maxLen,af,ak,an,av,ai,au,aq] <;> omega))) | fail)
  exact (hK _ _ (gM (by simp -implicitDefEqProofs only [lk,↓reduceIte,Nat.reduceEqDiff]) (by simp -implicitDefEqProofs only [lk,↓reduceIte,Nat.reduceEqDiff]))).2
end Go.aJ

namespace Go.aJ
open Go
theorem xx (a:Int):a.tdiv 10000=if 0≤a∨a % 10000=0 then a / 10000 else a / 10000+1:=by
 rw [Int.tdiv_eq_ediv]
 have:(10000:Int) ∣ a↔a % 10000=0:=Int.dvd_iff_emod_eq_zero
 simp -implicitDefEqProofs only [this]
 split <;> simp
theorem Wf (a:Int):a.tmod 10000=if 0≤a∨a % 10000=0 then a % 10000 else a % 10000 - 10000:=by
 rw [Int.tmod_eq_emod]
 have:(10000:Int) ∣ a↔a % 10000=0:=Int.dvd_iff_emod_eq_zero
 simp -implicitDefEqProofs only [this]
 split <;> simp
theorem Vg (a:Int) (h : -100000000000≤a) (h2:a≤100000000000):aL Go.Proofs.Tryz.prog 111 [.rv (.int .i64 a),.rv (.int .i64 10000)] [] [] (.rv (.int .i64 (a / 10000))):=by
 refine bz QN [.rv (.int .i64 a),.rv (.int .i64 10000)] _ (by simp) (by simp [aP,bg,bu,aY,bq,aC.sv,Ln.sv,Nd.sv]) (fun K hK=>?_)
 have e1:IntKind.i64.wrap (a.tdiv 10000)=a.tdiv 10000:=wrap_i64 (by rw [xx];split <;> omega) (by rw [xx];split <;> omega)
 have e2:IntKind.i64.wrap (a.tdiv 10000 - 1)=a.tdiv 10000 - 1:=wrap_i64 (by rw [xx];split <;> omega) (by rw [xx];split <;> omega)
 conv in fc _ _ _ _=>reduce
 simp -implicitDefEqProofs only [go_sem,Int.reduceNegSucc]
 repeat' (first | (simp -implicitDefEqProofs only [go_sem,Int.reduceNegSucc,e1,e2]) | (with_reducible refine aA ?_) | ((first | refine aj (fun hg=>?_) (fun hg=>?_) | refine ax (fun hg=>?_) (fun hg=>?_) | refine ay (fun hg=>?_) (fun hg=>?_)) <;> try simp -implicitDefEqProofs only [hg,Bool.not_true,Bool.not_false]) | ((with_reducible apply And.intro);focus (first | trivial | omega | decide | (simp -implicitDefEqProofs only [maxLen];omega) | (simp [maxLen,af,ak,an,av,ai,au,aq] <;> omega))) | fail)
 all_goals (refine (hK _ _ (bU ?_)).2;clear hK;simp -implicitDefEqProofs only [decide_eq_true_eq,decide_eq_false_iff_not,Wf] at hg;simp [lk,xx];split at hg <;>(try intros) <;>(try split) <;> omega)
theorem Tv {b p:Int}:b / 10000*p+b % 10000*p / 10000=b*p / 10000:=by
 have h:b*p=b % 10000*p+10000*(b / 10000*p):=by
  conv=>lhs;rw [← Int.emod_add_mul_ediv b 10000]
  rw [Int.add_mul,Int.mul_assoc]
 rw [h,Int.add_mul_ediv_left _ _ (by decide)];omega
theorem Hw {a b A B:Int} (h0:0≤a) (h:a≤A) (h1 : -B≤b) (h2:b≤B) : -(A*B)≤a*b∧a*b≤A*B:=by
 have hB:0≤B:=by omega
 have e1:=Int.mul_le_mul_of_nonneg_left h2 h0
 have e2:=Int.mul_le_mul_of_nonneg_right h hB
 have e3:=Int.mul_le_mul_of_nonneg_left h1 h0
 rw [Int.mul_neg] at e3
 omega
theorem Ve (b p:Int):aL Go.Proofs.Tryz.prog 91 [.rv (.int .i64 b),.rv (.int .i64 p)] [] [] (.aO [.rv (.int .i64 (lY b p)),.rv (.bool (lA b p))]):=by
 refine bz QL [.rv (.int .i64 b),.rv (.int .i64 p)] _ (by simp) (by simp [aP,bg,bu,aY,bq,aC.sv,Ln.sv,Nd.sv]) (fun K hK=>?_)
 conv in fc _ _ _ _=>reduce
 simp -implicitDefEqProofs only [go_sem,Int.reduceNegSucc]
 by_cases h:0≤b∧b≤1125899906842624∧-1000000≤p∧p≤1000000
 ·have g1:decide (b<0)=false:=decide_eq_false (by omega)
  have g2:decide (b>1125899906842624)=false:=decide_eq_false (by omega)
  have g3:decide (p < -1000000)=false:=decide_eq_false (by omega)
  have g4:decide (p>1000000)=false:=decide_eq_false (by omega)
  have q1:b.tdiv 10000=b / 10000:=Int.tdiv_eq_ediv_of_nonneg h.1
  have q2:b.tmod 10000=b % 10000:=Int.tmod_eq_emod_of_nonneg h.1
  have m1:=Hw (a:=b % 10000) (b:=p) (A:=9999) (B:=1000000) (by omega) (by omega) h.2.2.1 h.2.2.2
  have m2:=Hw (a:=b / 10000) (b:=p) (A:=112589990684) (B:=1000000) (by omega) (by omega) h.2.2.1 h.2.2.2
  have w1:IntKind.i64.wrap (b / 10000)=b / 10000:=wrap_i64 (by omega) (by omega)
  have w2:IntKind.i64.wrap (b % 10000*p)=b % 10000*p:=wrap_i64 (by omega) (by omega)
  have w3:IntKind.i64.wrap (b / 10000*p)=b / 10000*p:=wrap_i64 (by omega) (by omega)
  have w4:IntKind.i64.wrap (b / 10000*p+b % 10000*p / 10000)=b*p / 10000:=by rw [wrap_i64 (by omega) (by omega),Tv]
  have hd:=Vg (b % 10000*p) (by omega) (by omega)
  have hf:=mz (b*p / 10000)
  have e:lA b p=bT (b*p / 10000):=by simp [lA,h]
  have bh:=hd;have y_2:=hf;repeat' (first | (simp -implicitDefEqProofs only [go_sem,Int.reduceNegSucc,g1,g2,g3,g4,q1,q2,w1,w2,w3,w4]) | (with_reducible refine aA ?_) | (with_reducible first | refine ag bh ?_ | refine ah bh ?_) | (with_reducible first | refine ag y_2 ?_ | refine ah y_2 ?_) | ((first | refine aj (fun hg=>?_) (fun hg=>?_) | refine ax (fun hg=>?_) (fun hg=>?_) | refine ay (fun hg=>?_) (fun hg=>?_)) <;> try simp -implicitDefEqProofs only [hg,Bool.not_true,Bool.not_false]) | ((with_reducible apply And.intro);focus (first | trivial | omega | decide | (simp -implicitDefEqProofs only [maxLen];omega) | (simp [maxLen,af,ak,an,av,ai,au,aq] <;> omega))) | fail)
  all_goals (refine (hK _ _ (gM ?_ ?_)).2 <;> clear hK <;> simp_all [lk,lY])
 ·have e:lA b p=false:=by simp [lA];intro a1 a2 a3 a4;exact absurd ⟨a1,a2,a3,a4⟩ h
  repeat' (first | (simp -implicitDefEqProofs only [go_sem,Int.reduceNegSucc]) | (with_reducible refine aA ?_) | ((first | refine aj (fun hg=>?_) (fun hg=>?_) | refine ax (fun hg=>?_) (fun hg=>?_) | refine ay (fun hg=>?_) (fun hg=>?_)) <;> try simp -implicitDefEqProofs only [hg,Bool.not_true,Bool.not_false]) | ((with_reducible apply And.intro);focus (first | trivial | omega | decide | (simp -implicitDefEqProofs only [maxLen];omega) | (simp [maxLen,af,ak,an,av,ai,au,aq] <;> omega))) | fail)
  all_goals (first | (refine (hK _ _ (gM ?_ ?_)).2 <;> clear hK <;> simp [lk,lY,e];done) | (exfalso;simp at *;omega))
theorem rP (x:Ln) (b:Int) (has:Bool):aL Go.Proofs.Tryz.prog 63 [x.sv,.rv (.int .i64 b),.rv (.bool has)] [] [] (.aO [(gf x b has).sv,.rv (.bool (iy x b has))]):=by
 refine bz Ru [x.sv,.rv (.int .i64 b),.rv (.bool has)] _ (by simp) (by simp [aP,bg,bu,aY,bq,aC.sv,Ln.sv,Nd.sv]) (fun K hK=>?_)
 have hf:=mz x.n
 have hp:=Ve b x.n
 conv in fc _ _ _ _=>reduce
 simp -implicitDefEqProofs only [Ln.sv,Ln.cells,Sz.sv,Sz.cells,go_sem,Int.reduceNegSucc]
 have bC:=hf;have bI:=hp;repeat' (first | (simp -implicitDefEqProofs only [go_sem,Int.reduceNegSucc]) | (with_reducible refine aA ?_) | (with_reducible first | refine ag bC ?_ | refine ah bC ?_) | (with_reducible first | refine ag bI ?_ | refine ah bI ?_) | ((first | refine aj (fun hg=>?_) (fun hg=>?_) | refine ax (fun hg=>?_) (fun hg=>?_) | refine ay (fun hg=>?_) (fun hg=>?_)) <;> try simp -implicitDefEqProofs only [hg,Bool.not_true,Bool.not_false]) | ((with_reducible apply And.intro);focus (first | trivial | omega | decide | (simp -implicitDefEqProofs only [maxLen];omega) | (simp [maxLen,af,ak,an,av,ai,au,aq] <;> omega))) | fail)
 all_goals (refine (hK _ _ ?_).2;clear hK;simp -implicitDefEqProofs only [go_sem,Int.reduceNegSucc,aS,aT,bf,bl,aH,aG,aF,Sz.sv,Sz.cells,gf,iy] <;>(try simp_all [-Int.not_lt,-Int.not_le,aH,aG,aF,bF,Sz.sv,Sz.cells,gf,iy]) <;> try omega)
theorem Jd (x:Ln) (b:Int) (has:Bool):aL Go.Proofs.Tryz.prog 64 [x.sv,.rv (.int .i64 b),.rv (.bool has)] [] [] (.aO [.rv (.int .i64 (bk (gf x b has) 0)),.rv (.bool (iy x b has))]):=by
 refine bz Rs [x.sv,.rv (.int .i64 b),.rv (.bool has)] _ (by simp) (by simp [aP,bg,bu,aY,bq,aC.sv,Ln.sv,Nd.sv]) (fun K hK=>?_)
 have hf:=rP x b has
 have ho:=nC (gf x b has) 0
 conv in fc _ _ _ _=>reduce
 simp -implicitDefEqProofs only [Ln.sv,Ln.cells,Sz.sv,Sz.cells,go_sem,Int.reduceNegSucc] at *
 have bK:=hf;have bM:=ho;repeat' (first | (simp -implicitDefEqProofs only [go_sem,Int.reduceNegSucc]) | (with_reducible refine aA ?_) | (with_reducible first | refine ag bK ?_ | refine ah bK ?_) | (with_reducible first | refine ag bM ?_ | refine ah bM ?_) | ((first | refine aj (fun hg=>?_) (fun hg=>?_) | refine ax (fun hg=>?_) (fun hg=>?_) | refine ay (fun hg=>?_) (fun hg=>?_)) <;> try simp -implicitDefEqProofs only [hg,Bool.not_true,Bool.not_false]) | ((with_reducible apply And.intro);focus (first | trivial | omega | decide | (simp -implicitDefEqProofs only [maxLen];omega) | (simp [maxLen,af,ak,an,av,ai,au,aq] <;> omega))) | fail)
 exact (hK _ _ (gM rfl rfl)).2
theorem Je (x:Ln) (b:Int) (has:Bool):aL Go.Proofs.Tryz.prog 65 [x.sv,.rv (.int .i64 b),.rv (.bool has)] [] [] (.aO [.rv (.int .i64 (bk (gf x b has) 1125899906842624)),.rv (.bool (iy x b has))]):=by
 refine bz Rt [x.sv,.rv (.int .i64 b),.rv (.bool has)] _ (by simp) (by simp [aP,bg,bu,aY,bq,aC.sv,Ln.sv,Nd.sv]) (fun K hK=>?_)
 have hf:=rP x b has
 have ho:=nC (gf x b has) 1125899906842624
 conv in fc _ _ _ _=>reduce
 simp -implicitDefEqProofs only [Ln.sv,Ln.cells,Sz.sv,Sz.cells,go_sem,Int.reduceNegSucc] at *
 have bN:=hf;have bR:=ho;repeat' (first | (simp -implicitDefEqProofs only [go_sem,Int.reduceNegSucc]) | (with_reducible refine aA ?_) | (with_reducible first | refine ag bN ?_ | refine ah bN ?_) | (with_reducible first | refine ag bR ?_ | refine ah bR ?_) | ((first | refine aj (fun hg=>?_) (fun hg=>?_) | refine ax (fun hg=>?_) (fun hg=>?_) | refine ay (fun hg=>?_) (fun hg=>?_)) <;> try simp -implicitDefEqProofs only [hg,Bool.not_true,Bool.not_false]) | ((with_reducible apply And.intro);focus (first | trivial | omega | decide | (simp -implicitDefEqProofs only [maxLen];omega) | (simp [maxLen,af,ak,an,av,ai,au,aq] <;> omega))) | fail)
 exact (hK _ _ (gM rfl rfl)).2
end Go.aJ

namespace Go.aJ
open Go
theorem Qg:aX Go.Proofs.Tryz.prog 99 15 (fc Go.Proofs.Tryz.prog 99 15 [(.t 2)]) [(.t 2)]:=br (by kernel_rfl)
theorem CF:aX Go.Proofs.Tryz.prog 70 62 (fc Go.Proofs.Tryz.prog 70 62 [(.t 4),(.t 5)]) [(.t 4),(.t 5)]:=br (by kernel_rfl)
theorem Qu:aX Go.Proofs.Tryz.prog 35 48 (fc Go.Proofs.Tryz.prog 35 48 [(.c 6 2 true),(.t 7)]) [(.c 6 2 true),(.t 7)]:=br (by kernel_rfl)
theorem Qv:aX Go.Proofs.Tryz.prog 39 11 (fc Go.Proofs.Tryz.prog 39 11 [(.t 4)]) [(.t 4)]:=br (by kernel_rfl)
theorem Qt:aX Go.Proofs.Tryz.prog 36 37 (fc Go.Proofs.Tryz.prog 36 37 [(.t 8),(.t 9),(.t 10)]) [(.t 8),(.t 9),(.t 10)]:=br (by kernel_rfl)
theorem Qy:aX Go.Proofs.Tryz.prog 72 16 (fc Go.Proofs.Tryz.prog 72 16 [(.c 4 2 true)]) [(.c 4 2 true)]:=br (by kernel_rfl)
theorem Qz:aX Go.Proofs.Tryz.prog 46 12 (fc Go.Proofs.Tryz.prog 46 12 [(.t 2),(.t 3)]) [(.t 2),(.t 3)]:=br (by kernel_rfl)
theorem QH:aX Go.Proofs.Tryz.prog 32 25 (fc Go.Proofs.Tryz.prog 32 25 [(.t 4)]) [(.t 4)]:=br (by kernel_rfl)
theorem Vt (x:Int) (h : -9223372036854775807≤x) (h2:x<9223372036854775808):aL Go.Proofs.Tryz.prog 99 [.rv (.int .i64 x)] [] [] (.rv (.int .i64 (x / 2))):=by
 refine bz Qg [.rv (.int .i64 x)] _ (by simp) (by simp [aP,bg,bu,aY,bq,aC.sv,Ln.sv,Nd.sv]) (fun K hK=>?_)
 have t1:x.tdiv 2=if 0≤x∨x % 2=0 then x / 2 else x / 2+1:=by
  rw [Int.tdiv_eq_ediv]
  have:(2:Int) ∣ x↔x % 2=0:=Int.dvd_iff_emod_eq_zero
  simp -implicitDefEqProofs only [this];split <;> simp
 have t2:x.tmod 2=if 0≤x∨x % 2=0 then x % 2 else x % 2 - 2:=by
  rw [Int.tmod_eq_emod]
  have:(2:Int) ∣ x↔x % 2=0:=Int.dvd_iff_emod_eq_zero
  simp -implicitDefEqProofs only [this];split <;> simp
 have w1:IntKind.i64.wrap (x.tdiv 2)=x.tdiv 2:=wrap_i64 (by rw [t1];split <;> omega) (by rw [t1];split <;> omega)
 have w2:IntKind.i64.wrap (x.tdiv 2 - 1)=x.tdiv 2 - 1:=wrap_i64 (by rw [t1];split <;> omega) (by rw [t1];split <;> omega)
 conv in fc _ _ _ _=>reduce
 simp -implicitDefEqProofs only [go_sem,Int.reduceNegSucc]
 repeat' (first | (simp -implicitDefEqProofs only [go_sem,Int.reduceNegSucc,w1,w2]) | (with_reducible refine aA ?_) | ((first | refine aj (fun hg=>?_) (fun hg=>?_) | refine ax (fun hg=>?_) (fun hg=>?_) | refine ay (fun hg=>?_) (fun hg=>?_)) <;> try simp -implicitDefEqProofs only [hg,Bool.not_true,Bool.not_false]) | ((with_reducible apply And.intro);focus (first | trivial | omega | decide | (simp -implicitDefEqProofs only [maxLen];omega) | (simp [maxLen,af,ak,an,av,ai,au,aq] <;> omega))) | fail)
 all_goals (refine (hK _ _ (bU ?_)).2;clear hK;simp -implicitDefEqProofs only [lk,↓reduceIte,Nat.reduceEqDiff,SV.rv.injEq,RV.int.injEq,true_and,t1,t2,decide_eq_true_eq,decide_eq_false_iff_not,bne_iff_ne,ne_eq,bne_eq_false_iff_eq,Bool.not_true,Bool.not_false] at *;clear w1 w2;(try split at hg) <;>(try split) <;> omega)
theorem pz (x:Sz) (d:Int):aL Go.Proofs.Tryz.prog 39 [x.sv,.rv (.int .i64 d)] [] [] (.rv (.int .i64 (bk x d))):=by
 refine bz Qv [x.sv,.rv (.int .i64 d)] _ (by simp) (by simp [aP,bg,bu,aY,bq,aC.sv,Ln.sv,Nd.sv]) (fun K hK=>?_)
 conv in fc _ _ _ _=>reduce
 simp -implicitDefEqProofs only [Sz.sv,Sz.cells,go_sem,Int.reduceNegSucc]
 repeat' (first | (simp -implicitDefEqProofs only [go_sem,Int.reduceNegSucc]) | (with_reducible refine aA ?_) | ((first | refine aj (fun hg=>?_) (fun hg=>?_) | refine ax (fun hg=>?_) (fun hg=>?_) | refine ay (fun hg=>?_) (fun hg=>?_)) <;> try simp -implicitDefEqProofs only [hg,Bool.not_true,Bool.not_false]) | ((with_reducible apply And.intro);focus (first | trivial | omega | decide | (simp -implicitDefEqProofs only [maxLen];omega) | (simp [maxLen,af,ak,an,av,ai,au,aq] <;> omega))) | fail)
 all_goals (refine (hK _ _ ?_).2;clear hK;simp -implicitDefEqProofs only [go_sem,Int.reduceNegSucc,aS,aT,bf,bl,aH,aG,aF,bk] <;>(try simp_all [-Int.not_lt,-Int.not_le,aH,aG,aF,bF,bk]) <;> try omega)
theorem uU (a b:Su):aL Go.Proofs.Tryz.prog 72 [a.sv,b.sv] [] [] (fR a b).sv:=by
 refine bz Qy [a.sv,b.sv] _ (by simp) (by simp [aP,bg,bu,aY,bq,aC.sv,Ln.sv,Nd.sv]) (fun K hK=>?_)
 conv in fc _ _ _ _=>reduce
 simp -implicitDefEqProofs only [Su.sv,Su.cells,go_sem,Int.reduceNegSucc]
 repeat' (first | (simp -implicitDefEqProofs only [go_sem,Int.reduceNegSucc]) | (with_reducible refine aA ?_) | ((first | refine aj (fun hg=>?_) (fun hg=>?_) | refine ax (fun hg=>?_) (fun hg=>?_) | refine ay (fun hg=>?_) (fun hg=>?_)) <;> try simp -implicitDefEqProofs only [hg,Bool.not_true,Bool.not_false]) | ((with_reducible apply And.intro);focus (first | trivial | omega | decide | (simp -implicitDefEqProofs only [maxLen];omega) | (simp [maxLen,af,ak,an,av,ai,au,aq] <;> omega))) | fail)
 all_goals (refine (hK _ _ ?_).2;clear hK;simp -implicitDefEqProofs only [go_sem,Int.reduceNegSucc,aS,aT,bf,bl,aH,aG,aF,Su.sv,Su.cells,fR] <;>(try simp_all [-Int.not_lt,-Int.not_le,aH,aG,aF,bF,Su.sv,Su.cells,fR]) <;> try omega)
theorem uT (id:Nat) (xs:List Int) (hb:xs.length≤1000):aL Go.Proofs.Tryz.prog 34 [.row id 0 xs.length] [(id,.row 1 0 (lT xs))] [] (.aO [.rv (.int .i64 (cq xs)),.rv (.bool (fV xs))]):=by
 have:=GW (id:=id) (v:=0) (n:=xs.length) (bs:=[]) (rs:=[.int .i64 (cq xs),.bool (fV xs)]) (Vx xs hb) (by simp;exact ⟨.int _ _,.bool _⟩) (by rw [ai]) (kM _)
 rw [Cq];exact this
theorem xm (a:Su):aL Go.Proofs.Tryz.prog 46 [a.sv] [] [] (.aO [.rv (.int .i64 (iQ a)),.rv (.bool (nG a))]):=by
 refine bz Qz [a.sv] _ (by simp) (by simp [aP,bg,bu,aY,bq,aC.sv,Ln.sv,Nd.sv]) (fun K hK=>?_)
 have hs:=fun id=>uT id [a.p,a.n] (by simp)
 conv in fc _ _ _ _=>reduce
 simp -implicitDefEqProofs only [Su.sv,Su.cells,go_sem,Int.reduceNegSucc]
 simp [lT] at hs
 have bh:=hs;repeat' (first | (simp -implicitDefEqProofs only [go_sem,Int.reduceNegSucc]) | (with_reducible refine aA ?_) | ((first | refine bS (bh _) ?_ ?_ ?_ | refine bV (bh _) ?_ ?_ ?_ | fail);(focus (simp [aR,aB] <;> fail));(focus (simp [aV,aQ] <;> fail))) | ((first | refine aj (fun hg=>?_) (fun hg=>?_) | refine ax (fun hg=>?_) (fun hg=>?_) | refine ay (fun hg=>?_) (fun hg=>?_)) <;> try simp -implicitDefEqProofs only [hg,Bool.not_true,Bool.not_false]) | ((with_reducible apply And.intro);focus (first | trivial | omega | decide | (simp -implicitDefEqProofs only [maxLen];omega) | (simp [maxLen,af,ak,an,av,ai,au,aq] <;> omega))) | fail)
 all_goals (refine (hK _ _ ?_).2;clear hK;simp -implicitDefEqProofs only [go_sem,Int.reduceNegSucc,aS,aT,bf,bl,aH,aG,aF,iQ,nG] <;>(try simp_all [-Int.not_lt,-Int.not_le,aH,aG,aF,bF,iQ,nG]) <;> try omega)
theorem Dw (w:Int) (h:Sz):aL Go.Proofs.Tryz.prog 32 [.rv (.int .i64 w),h.sv] [] [] (.rv (.bool (ic w h))):=by
 refine bz QH [.rv (.int .i64 w),h.sv] _ (by simp) (by simp [aP,bg,bu,aY,bq,aC.sv,Ln.sv,Nd.sv]) (fun K hK=>?_)
 conv in fc _ _ _ _=>reduce
 simp -implicitDefEqProofs only [Sz.sv,Sz.cells,go_sem,Int.reduceNegSucc]
 repeat' (first | (simp -implicitDefEqProofs only [go_sem,Int.reduceNegSucc]) | (with_reducible refine aA ?_) | ((first | refine aj (fun hg=>?_) (fun hg=>?_) | refine ax (fun hg=>?_) (fun hg=>?_) | refine ay (fun hg=>?_) (fun hg=>?_)) <;> try simp -implicitDefEqProofs only [hg,Bool.not_true,Bool.not_false]) | ((with_reducible apply And.intro);focus (first | trivial | omega | decide | (simp -implicitDefEqProofs only [maxLen];omega) | (simp [maxLen,af,ak,an,av,ai,au,aq] <;> omega))) | fail)
 all_goals (refine (hK _ _ ?_).2;clear hK;simp -implicitDefEqProofs only [go_sem,Int.reduceNegSucc,aS,aT,bf,bl,aH,aG,aF,ic] <;>(try simp_all [-Int.not_lt,-Int.not_le,aH,aG,aF,bF,ic]) <;> try omega)
end Go.aJ

namespace Go.aJ
open Go
theorem Hy (b N:Int) (b0:0≤b) (b1:b≤1125899906842624) (h0:0≤N) (h1:N≤1000000):∃ (hi lo:Nat) (W:Int),b*N=W∧0≤W∧W≤1125899906842624000000∧
 b*N / 18446744073709551616=(hi:Int)∧b*N % 18446744073709551616=(lo:Int)∧hi<1024∧lo<18446744073709551616∧(hi:Int)*18446744073709551616+(lo:Int)=W:=by
 have m:=CN (a:=b) (b:=N) (A:=1125899906842624) (B:=1000000) b0 b1 h0 h1
 generalize b*N=W at *
 exact ⟨(W / 18446744073709551616).toNat,(W % 18446744073709551616).toNat,W,rfl,m.1,by omega,by omega,by omega,by omega,by omega,by omega⟩
theorem HT {W:Int} (h0:0≤W) (h1:W≤1125899906842624000000):0≤W / 10000∧W / 10000≤112589990684262400∧0≤W % 10000∧W % 10000<10000:=by omega
theorem Tw {W:Int}:(W % 10000>0→-W / 10000 = -(W / 10000+1))∧(¬ W % 10000>0→-W / 10000 = -(W / 10000)):=by omega
theorem Vv (b p:Int) (b0:0≤b) (b1:b≤1125899906842624) (p0 : -1000000≤p) (p1:p≤1000000) (hp:p<0):aL Go.Proofs.Tryz.prog 70 [.rv (.int .i64 b),.rv (.int .i64 p)] [] [] (.aO [.rv (.int .i64 (lY b p)),.rv (.bool (lA b p))]):=by
 refine bz CF [.rv (.int .i64 b),.rv (.int .i64 p)] _ (by simp) (by simp [aP,bg,bu,aY,bq,aC.sv,Ln.sv,Nd.sv]) (fun K hK=>?_)
 have sL:lA b p=bT (b*p / 10000):=by simp [lA,b0,b1,p0,p1]
 have g1:decide (b<0)=false:=decide_eq_false (by omega)
 have g2:decide (b>1125899906842624)=false:=decide_eq_false (by omega)
 have g3:decide (p < -1000000)=false:=decide_eq_false (by omega)
 have g4:decide (p>1000000)=false:=decide_eq_false (by omega)
 have wb:IntKind.u64.wrap b=b:=wrap_u64 b0 (by omega)
 have g5:decide (p<0)=true:=decide_eq_true hp
 have w1:IntKind.i64.wrap (0 - p) = -p:=by rw [wrap_i64 (by omega) (by omega)] <;> try omega
 have w2:IntKind.u64.wrap (-p) = -p:=wrap_u64 (by omega) (by omega)
 have hm:=IM b (-p) b0 b1 (by omega) (by omega)
 obtain ⟨hi,lo,W,e0,e1,e2,e3,e4,e5,e6,e7⟩:=Hy b (-p) b0 b1 (by omega) (by omega)
 have hd:=II hi lo e5 e6
 rw [e3,e4] at hm
 rw [e7] at hd
 have e8:b*p = -W:=by rw [Int.mul_neg] at e0;omega
 have vJ:lY b p=if bT (-W / 10000)=true then -W / 10000 else 0:=by simp -implicitDefEqProofs only [lY,sL,e8]
 rw [sL,vJ,e8] at hK
 clear e0 e3 e4 e5 e6 e7 e8 sL vJ
 conv in fc _ _ _ _=>reduce
 simp -implicitDefEqProofs only [go_sem,Int.reduceNegSucc]
 generalize (hi:Int)=H at *
 generalize (lo:Int)=L at *
 obtain ⟨q1,q2,q3,q4⟩:=HT e1 e2
 obtain ⟨r1,r2⟩:=Tw (W:=W)
 generalize -W / 10000=X at *
 generalize W / 10000=Q at *
 generalize W % 10000=R at *
 clear e1 e2
 have w3:IntKind.u64.wrap (Q+1)=Q+1:=wrap_u64 (by omega) (by omega)
 have w4:IntKind.i64.wrap (Q+1)=Q+1:=by rw [wrap_i64 (by omega) (by omega)] <;> try omega
 have w5:IntKind.i64.wrap Q=Q:=by rw [wrap_i64 (by omega) (by omega)] <;> try omega
 have w6:IntKind.i64.wrap (0 - (Q+1)) = -(Q+1):=by rw [wrap_i64 (by omega) (by omega)] <;> try omega
 have w7:IntKind.i64.wrap (0 - Q) = -Q:=by rw [wrap_i64 (by omega) (by omega)] <;> try omega
 by_cases hr:R>0
 ·have g6:decide (R>0)=true:=decide_eq_true hr
  rw [r1 hr] at hK
  by_cases hq:Q+1>1125899906842624
  ·have g7:decide (Q+1>1125899906842624)=true:=decide_eq_true hq
   have hF:bT (-(Q+1))=false:=by rw [Bool.eq_false_iff,ne_eq,je];omega
   rw [hF] at hK
   have bh:=hm;have y_2:=hd;repeat' (first | (simp -implicitDefEqProofs only [go_sem,Int.reduceNegSucc,g1,g2,g3,g4,g5,wb,w1,w2,w3,g6,g7]) | (with_reducible refine aA ?_) | (with_reducible first | refine ag bh ?_ | refine ah bh ?_) | (with_reducible first | refine ag y_2 ?_ | refine ah y_2 ?_) | ((first | refine aj (fun hg=>?_) (fun hg=>?_) | refine ax (fun hg=>?_) (fun hg=>?_) | refine ay (fun hg=>?_) (fun hg=>?_)) <;> try simp -implicitDefEqProofs only [hg,Bool.not_true,Bool.not_false]) | ((with_reducible apply And.intro);focus (first | trivial | omega | decide | (simp -implicitDefEqProofs only [maxLen];omega) | (simp [maxLen,af,ak,an,av,ai,au,aq] <;> omega))) | fail)
   refine (hK _ _ (gM ?_ ?_)).2 <;> rfl
  ·have g7:decide (Q+1>1125899906842624)=false:=decide_eq_false hq
   have hF:bT (-(Q+1))=true:=by rw [je];omega
   rw [hF] at hK
   have bC:=hm;have bI:=hd;repeat' (first | (simp -implicitDefEqProofs only [go_sem,Int.reduceNegSucc,g1,g2,g3,g4,g5,wb,w1,w2,w3,g6,g7,w4,w6]) | (with_reducible refine aA ?_) | (with_reducible first | refine ag bC ?_ | refine ah bC ?_) | (with_reducible first | refine ag bI ?_ | refine ah bI ?_) | ((first | refine aj (fun hg=>?_) (fun hg=>?_) | refine ax (fun hg=>?_) (fun hg=>?_) | refine ay (fun hg=>?_) (fun hg=>?_)) <;> try simp -implicitDefEqProofs only [hg,Bool.not_true,Bool.not_false]) | ((with_reducible apply And.intro);focus (first | trivial | omega | decide | (simp -implicitDefEqProofs only [maxLen];omega) | (simp [maxLen,af,ak,an,av,ai,au,aq] <;> omega))) | fail)
   refine (hK _ _ (gM ?_ ?_)).2 <;> rfl
 ·have g6:decide (R>0)=false:=decide_eq_false hr
  rw [r2 hr] at hK
  by_cases hq:Q>1125899906842624
  ·have g7:decide (Q>1125899906842624)=true:=decide_eq_true hq
   have hF:bT (-Q)=false:=by rw [Bool.eq_false_iff,ne_eq,je];omega
   rw [hF] at hK
   have bK:=hm;have bM:=hd;repeat' (first | (simp -implicitDefEqProofs only [go_sem,Int.reduceNegSucc,g1,g2,g3,g4,g5,wb,w1,w2,w3,g6,g7]) | (with_reducible refine aA ?_) | (with_reducible first | refine ag bK ?_ | refine ah bK ?_) | (with_reducible first | refine ag bM ?_ | refine ah bM ?_) | ((first | refine aj (fun hg=>?_) (fun hg=>?_) | refine ax (fun hg=>?_) (fun hg=>?_) | refine ay (fun hg=>?_) (fun hg=>?_)) <;> try simp -implicitDefEqProofs only [hg,Bool.not_true,Bool.not_false]) | ((with_reducible apply And.intro);focus (first | trivial | omega | decide | (simp -implicitDefEqProofs only [maxLen];omega) | (simp [maxLen,af,ak,an,av,ai,au,aq] <;> omega))) | fail)
   refine (hK _ _ (gM ?_ ?_)).2 <;> rfl
  ·have g7:decide (Q>1125899906842624)=false:=decide_eq_false hq
   have hF:bT (-Q)=true:=by rw [je];omega
   rw [hF] at hK
   have bN:=hm;have bR:=hd;repeat' (first | (simp -implicitDefEqProofs only [go_sem,Int.reduceNegSucc,g1,g2,g3,g4,g5,wb,w1,w2,w3,g6,g7,w5,w7]) | (with_reducible refine aA ?_) | (with_reducible first | refine ag bN ?_ | refine ah bN ?_) | (with_reducible first | refine ag bR ?_ | refine ah bR ?_) | ((first | refine aj (fun hg=>?_) (fun hg=>?_) | refine ax (fun hg=>?_) (fun hg=>?_) | refine ay (fun hg=>?_) (fun hg=>?_)) <;> try simp -implicitDefEqProofs only [hg,Bool.not_true,Bool.not_false]) | ((with_reducible apply And.intro);focus (first | trivial | omega | decide | (simp -implicitDefEqProofs only [maxLen];omega) | (simp [maxLen,af,ak,an,av,ai,au,aq] <;> omega))) | fail)
   refine (hK _ _ (gM ?_ ?_)).2 <;> rfl
theorem Vw (b p:Int) (b0:0≤b) (b1:b≤1125899906842624) (p0 : -1000000≤p) (p1:p≤1000000) (hp:¬ p<0):aL Go.Proofs.Tryz.prog 70 [.rv (.int .i64 b),.rv (.int .i64 p)] [] [] (.aO [.rv (.int .i64 (lY b p)),.rv (.bool (lA b p))]):=by
 refine bz CF [.rv (.int .i64 b),.rv (.int .i64 p)] _ (by simp) (by simp [aP,bg,bu,aY,bq,aC.sv,Ln.sv,Nd.sv]) (fun K hK=>?_)
 have sL:lA b p=bT (b*p / 10000):=by simp [lA,b0,b1,p0,p1]
 have g1:decide (b<0)=false:=decide_eq_false (by omega)
 have g2:decide (b>1125899906842624)=false:=decide_eq_false (by omega)
 have g3:decide (p < -1000000)=false:=decide_eq_false (by omega)
 have g4:decide (p>1000000)=false:=decide_eq_false (by omega)
 have wb:IntKind.u64.wrap b=b:=wrap_u64 b0 (by omega)
 have g5:decide (p<0)=false:=decide_eq_false hp
 have w2:IntKind.u64.wrap p=p:=wrap_u64 (by omega) (by omega)
 have hm:=IM b p b0 b1 (by omega) (by omega)
 obtain ⟨hi,lo,W,e0,e1,e2,e3,e4,e5,e6,e7⟩:=Hy b p b0 b1 (by omega) (by omega)
 have hd:=II hi lo e5 e6
 rw [e3,e4] at hm
 rw [e7] at hd
 have vJ:lY b p=if bT (W / 10000)=true then W / 10000 else 0:=by simp -implicitDefEqProofs only [lY,sL,e0]
 rw [sL,vJ,e0] at hK
 clear e0 e3 e4 e5 e6 e7 sL vJ
 conv in fc _ _ _ _=>reduce
 simp -implicitDefEqProofs only [go_sem,Int.reduceNegSucc]
 generalize (hi:Int)=H at *
 generalize (lo:Int)=L at *
 obtain ⟨q1,q2,q3,q4⟩:=HT e1 e2
 generalize W / 10000=Q at *
 generalize W % 10000=R at *
 clear e1 e2
 have w5:IntKind.i64.wrap Q=Q:=by rw [wrap_i64 (by omega) (by omega)] <;> try omega
 by_cases hq:Q>1125899906842624
 ·have g7:decide (Q>1125899906842624)=true:=decide_eq_true hq
  have hF:bT Q=false:=by rw [Bool.eq_false_iff,ne_eq,je];omega
  rw [hF] at hK
  have bZ:=hm;have cm:=hd;repeat' (first | (simp -implicitDefEqProofs only [go_sem,Int.reduceNegSucc,g1,g2,g3,g4,g5,wb,w2,g7]) | (with_reducible refine aA ?_) | (with_reducible first | refine ag bZ ?_ | refine ah bZ ?_) | (with_reducible first | refine ag cm ?_ | refine ah cm ?_) | ((first | refine aj (fun hg=>?_) (fun hg=>?_) | refine ax (fun hg=>?_) (fun hg=>?_) | refine ay (fun hg=>?_) (fun hg=>?_)) <;> try simp -implicitDefEqProofs only [hg,Bool.not_true,Bool.not_false]) | ((with_reducible apply And.intro);focus (first | trivial | omega | decide | (simp -implicitDefEqProofs only [maxLen];omega) | (simp [maxLen,af,ak,an,av,ai,au,aq] <;> omega))) | fail)
  refine (hK _ _ (gM ?_ ?_)).2 <;> rfl
 ·have g7:decide (Q>1125899906842624)=false:=decide_eq_false hq
  have hF:bT Q=true:=by rw [je];omega
  rw [hF] at hK
  have fT:=hm;have gO:=hd;repeat' (first | (simp -implicitDefEqProofs only [go_sem,Int.reduceNegSucc,g1,g2,g3,g4,g5,wb,w2,w5,g7]) | (with_reducible refine aA ?_) | (with_reducible first | refine ag fT ?_ | refine ah fT ?_) | (with_reducible first | refine ag gO ?_ | refine ah gO ?_) | ((first | refine aj (fun hg=>?_) (fun hg=>?_) | refine ax (fun hg=>?_) (fun hg=>?_) | refine ay (fun hg=>?_) (fun hg=>?_)) <;> try simp -implicitDefEqProofs only [hg,Bool.not_true,Bool.not_false]) | ((with_reducible apply And.intro);focus (first | trivial | omega | decide | (simp -implicitDefEqProofs only [maxLen];omega) | (simp [maxLen,af,ak,an,av,ai,au,aq] <;> omega))) | fail)
  refine (hK _ _ (gM ?_ ?_)).2 <;> rfl
theorem Vu (b p:Int):aL Go.Proofs.Tryz.prog 70 [.rv (.int .i64 b),.rv (.int .i64 p)] [] [] (.aO [.rv (.int .i64 (lY b p)),.rv (.bool (lA b p))]):=by
 by_cases h:0≤b∧b≤1125899906842624∧-1000000≤p∧p≤1000000
 ·obtain ⟨b0,b1,p0,p1⟩:=h
  by_cases hp:p<0
  ·exact Vv b p b0 b1 p0 p1 hp
  ·exact Vw b p b0 b1 p0 p1 hp
 ·refine bz CF [.rv (.int .i64 b),.rv (.int .i64 p)] _ (by simp) (by simp [aP,bg,bu,aY,bq,aC.sv,Ln.sv,Nd.sv]) (fun K hK=>?_)
  have e:lA b p=false:=by simp [lA];intro a1 a2 a3 a4;exact absurd ⟨a1,a2,a3,a4⟩ h
  have e2:lY b p=0:=by simp [lY,e]
  rw [e,e2] at hK
  by_cases g1:b<0
  ·have sI:decide (b<0)=true:=decide_eq_true g1
   conv in fc _ _ _ _=>reduce
   simp -implicitDefEqProofs only [go_sem,Int.reduceNegSucc]
   repeat' (first | (simp -implicitDefEqProofs only [go_sem,Int.reduceNegSucc,sI]) | (with_reducible refine aA ?_) | ((first | refine aj (fun hg=>?_) (fun hg=>?_) | refine ax (fun hg=>?_) (fun hg=>?_) | refine ay (fun hg=>?_) (fun hg=>?_)) <;> try simp -implicitDefEqProofs only [hg,Bool.not_true,Bool.not_false]) | ((with_reducible apply And.intro);focus (first | trivial | omega | decide | (simp -implicitDefEqProofs only [maxLen];omega) | (simp [maxLen,af,ak,an,av,ai,au,aq] <;> omega))) | fail)
   refine (hK _ _ (gM ?_ ?_)).2 <;> rfl
  by_cases g2:b>1125899906842624
  ·have sI:decide (b<0)=false:=decide_eq_false g1
   have vG:decide (b>1125899906842624)=true:=decide_eq_true g2
   conv in fc _ _ _ _=>reduce
   simp -implicitDefEqProofs only [go_sem,Int.reduceNegSucc]
   repeat' (first | (simp -implicitDefEqProofs only [go_sem,Int.reduceNegSucc,sI,vG]) | (with_reducible refine aA ?_) | ((first | refine aj (fun hg=>?_) (fun hg=>?_) | refine ax (fun hg=>?_) (fun hg=>?_) | refine ay (fun hg=>?_) (fun hg=>?_)) <;> try simp -implicitDefEqProofs only [hg,Bool.not_true,Bool.not_false]) | ((with_reducible apply And.intro);focus (first | trivial | omega | decide | (simp -implicitDefEqProofs only [maxLen];omega) | (simp [maxLen,af,ak,an,av,ai,au,aq] <;> omega))) | fail)
   refine (hK _ _ (gM ?_ ?_)).2 <;> rfl
  by_cases g3:p < -1000000
  ·have sI:decide (b<0)=false:=decide_eq_false g1
   have vG:decide (b>1125899906842624)=false:=decide_eq_false g2
   have BG:decide (p < -1000000)=true:=decide_eq_true g3
   conv in fc _ _ _ _=>reduce
   simp -implicitDefEqProofs only [go_sem,Int.reduceNegSucc]
   repeat' (first | (simp -implicitDefEqProofs only [go_sem,Int.reduceNegSucc,sI,vG,BG]) | (with_reducible refine aA ?_) | ((first | refine aj (fun hg=>?_) (fun hg=>?_) | refine ax (fun hg=>?_) (fun hg=>?_) | refine ay (fun hg=>?_) (fun hg=>?_)) <;> try simp -implicitDefEqProofs only [hg,Bool.not_true,Bool.not_false]) | ((with_reducible apply And.intro);focus (first | trivial | omega | decide | (simp -implicitDefEqProofs only [maxLen];omega) | (simp [maxLen,af,ak,an,av,ai,au,aq] <;> omega))) | fail)
   refine (hK _ _ (gM ?_ ?_)).2 <;> rfl
  ·have sI:decide (b<0)=false:=decide_eq_false g1
   have vG:decide (b>1125899906842624)=false:=decide_eq_false g2
   have BG:decide (p < -1000000)=false:=decide_eq_false g3
   have MJ:decide (p>1000000)=true:=decide_eq_true (by omega)
   conv in fc _ _ _ _=>reduce
   simp -implicitDefEqProofs only [go_sem,Int.reduceNegSucc]
   repeat' (first | (simp -implicitDefEqProofs only [go_sem,Int.reduceNegSucc,sI,vG,BG,MJ]) | (with_reducible refine aA ?_) | ((first | refine aj (fun hg=>?_) (fun hg=>?_) | refine ax (fun hg=>?_) (fun hg=>?_) | refine ay (fun hg=>?_) (fun hg=>?_)) <;> try simp -implicitDefEqProofs only [hg,Bool.not_true,Bool.not_false]) | ((with_reducible apply And.intro);focus (first | trivial | omega | decide | (simp -implicitDefEqProofs only [maxLen];omega) | (simp [maxLen,af,ak,an,av,ai,au,aq] <;> omega))) | fail)
   refine (hK _ _ (gM ?_ ?_)).2 <;> rfl
end Go.aJ

namespace Go.aJ
open Go
theorem Rw:aX Go.Proofs.Tryz.prog 89 30 (fc Go.Proofs.Tryz.prog 89 30 [(.c 4 8 true),(.t 5)]) [(.c 4 8 true),(.t 5)]:=br (by kernel_rfl)
theorem Rz:aX Go.Proofs.Tryz.prog 90 9 (fc Go.Proofs.Tryz.prog 90 9 [(.t 4)]) [(.t 4)]:=br (by kernel_rfl)
theorem RE:aX Go.Proofs.Tryz.prog 110 19 (fc Go.Proofs.Tryz.prog 110 19 [(.t 4)]) [(.t 4)]:=br (by kernel_rfl)
theorem QT:aX Go.Proofs.Tryz.prog 61 137 (fc Go.Proofs.Tryz.prog 61 137 [(.c 8 28 true),(.t 9)]) [(.c 8 28 true),(.t 9)]:=br (by kernel_rfl)
theorem GI:aX Go.Proofs.Tryz.prog 62 30 (fc Go.Proofs.Tryz.prog 62 30 [(.t 6),(.t 7)]) [(.t 6),(.t 7)]:=br (by kernel_rfl)
theorem PT:aX Go.Proofs.Tryz.prog 113 24 (fc Go.Proofs.Tryz.prog 113 24 [(.t 4)]) [(.t 4)]:=br (by kernel_rfl)
theorem PU:aX Go.Proofs.Tryz.prog 114 76 (fc Go.Proofs.Tryz.prog 114 76 [(.t 4),(.t 5)]) [(.t 4),(.t 5)]:=br (by kernel_rfl)
def Q4.iG (q:Q4 Sz):List RV:=[.bool q.a.auto,.int .i64 q.a.n,.bool q.b.auto,.int .i64 q.b.n,.bool q.c.auto,.int .i64 q.c.n,.bool q.d.auto,.int .i64 q.d.n]
def xj (q:Q4 Ln) (b:Int):Q4 Sz:=⟨gf q.a b true,gf q.b b true,gf q.c b true,gf q.d b true⟩
def pq (q:Q4 Ln) (b:Int):Bool:=iy q.a b true && iy q.b b true && iy q.c b true && iy q.d b true
def mS (q:Q4 Ln) (b:Int):Q4 Sz:=if pq q b=true then xj q b else ⟨⟨false,0⟩,⟨false,0⟩,⟨false,0⟩,⟨false,0⟩⟩
theorem Jf (q:Q4 Ln) (b:Int):aL Go.Proofs.Tryz.prog 89 [.agg (q.oY.map .rv),.rv (.int .i64 b)] [] [] (.aO [.agg ((mS q b).iG.map .rv),.rv (.bool (pq q b))]):=by
 refine bz Rw [.agg (q.oY.map .rv),.rv (.int .i64 b)] _ (by simp) (by simp [aP,bg,bu,aY,bq,aC.sv,Ln.sv,Nd.sv]) (fun K hK=>?_)
 have ha:=rP q.a b true
 have hb:=rP q.b b true
 have hc:=rP q.c b true
 have hd:=rP q.d b true
 conv in fc _ _ _ _=>reduce
 simp -implicitDefEqProofs only [Q4.oY,Ln.sv,Ln.cells,Sz.sv,Sz.cells,go_sem,Int.reduceNegSucc] at *
 repeat' (first | (simp -implicitDefEqProofs only [go_sem,Int.reduceNegSucc]) | (with_reducible refine aA ?_) | ((first | refine aj (fun hg=>?_) (fun hg=>?_) | refine ax (fun hg=>?_) (fun hg=>?_) | refine ay (fun hg=>?_) (fun hg=>?_)) <;> try simp -implicitDefEqProofs only [hg,Bool.not_true,Bool.not_false]) | ((with_reducible apply And.intro);focus (first | trivial | omega | decide | (simp -implicitDefEqProofs only [maxLen];omega) | (simp [maxLen,af,ak,an,av,ai,au,aq] <;> omega))) | fail)
 refine kK 5 ?_
 have bh:=ha;have y_2:=hb;have bC:=hc;have bI:=hd;repeat' (first | (simp -implicitDefEqProofs only [go_sem,Int.reduceNegSucc,kO,kP,kQ,kR,kS,kT,kI,Int.reduceLT,decide_true,decide_false,Int.reduceToNat,Nat.reduceMul]) | (with_reducible refine aA ?_) | (with_reducible show G _ _ (It.l _ _::_) _ _ _;refine kJ ?_) | (with_reducible first | refine ag bh ?_ | refine ah bh ?_) | (with_reducible first | refine ag y_2 ?_ | refine ah y_2 ?_) | (with_reducible first | refine ag bC ?_ | refine ah bC ?_) | (with_reducible first | refine ag bI ?_ | refine ah bI ?_) | ((first | refine aj (fun hg=>?_) (fun hg=>?_) | refine ax (fun hg=>?_) (fun hg=>?_) | refine ay (fun hg=>?_) (fun hg=>?_)) <;> try simp -implicitDefEqProofs only [hg,Bool.not_true,Bool.not_false]) | ((with_reducible apply And.intro);focus (first | trivial | omega | decide | (simp -implicitDefEqProofs only [maxLen];omega) | (simp [maxLen,af,ak,an,av,ai,au,aq] <;> omega))) | fail)
 all_goals (refine (hK _ _ ?_).2;clear hK;simp -implicitDefEqProofs only [go_sem,Int.reduceNegSucc,aS,aT,bf,bl,aH,aG,aF,mS,pq,xj,Q4.iG] <;>(try simp_all [-Int.not_lt,-Int.not_le,aH,aG,aF,bF,mS,pq,xj,Q4.iG]) <;> try omega)
def Cv (a b c d e:Bool):Int:=if a=false then 0 else if b=false then 1 else if c=false then 2 else if d=false then 3 else if e=false then 4 else -1
theorem UF (a b c d e:Bool):aL Go.Proofs.Tryz.prog 110 [.rv (.sl 1 [[.bool a],[.bool b],[.bool c],[.bool d],[.bool e]]),.rv (.bool false)] [] [] (.rv (.int .i64 (Cv a b c d e))):=by
 refine bz RE [.rv (.sl 1 [[.bool a],[.bool b],[.bool c],[.bool d],[.bool e]]),.rv (.bool false)] _ (by simp) (by simp [aP,bg,bu,aY,bq,aC.sv,Ln.sv,Nd.sv]) (fun K hK=>?_)
 conv in fc _ _ _ _=>reduce
 simp -implicitDefEqProofs only [go_sem,Int.reduceNegSucc]
 repeat' (first | (simp -implicitDefEqProofs only [go_sem,Int.reduceNegSucc]) | (with_reducible refine aA ?_) | ((first | refine aj (fun hg=>?_) (fun hg=>?_) | refine ax (fun hg=>?_) (fun hg=>?_) | refine ay (fun hg=>?_) (fun hg=>?_)) <;> try simp -implicitDefEqProofs only [hg,Bool.not_true,Bool.not_false]) | ((with_reducible apply And.intro);focus (first | trivial | omega | decide | (simp -implicitDefEqProofs only [maxLen];omega) | (simp [maxLen,af,ak,an,av,ai,au,aq] <;> omega))) | fail)
 refine kK 6 ?_
 repeat' (first | (simp -implicitDefEqProofs only [go_sem,Int.reduceNegSucc,kO,kP,kQ,kR,kS,kT,kI,Int.reduceLT,decide_true,decide_false,Int.reduceToNat,Nat.reduceMul]) | (with_reducible refine aA ?_) | (with_reducible show G _ _ (It.l _ _::_) _ _ _;refine kJ ?_) | ((first | refine aj (fun hg=>?_) (fun hg=>?_) | refine ax (fun hg=>?_) (fun hg=>?_) | refine ay (fun hg=>?_) (fun hg=>?_)) <;> try simp -implicitDefEqProofs only [hg,Bool.not_true,Bool.not_false]) | ((with_reducible apply And.intro);focus (first | trivial | omega | decide | (simp -implicitDefEqProofs only [maxLen];omega) | (simp [maxLen,af,ak,an,av,ai,au,aq] <;> omega))) | fail)
 all_goals (refine (hK _ _ (bU ?_)).2;clear hK;simp_all [lk,Cv])
theorem Uz (a b c d e:Bool):aL Go.Proofs.Tryz.prog 90 [.rv (.sl 1 [[.bool a],[.bool b],[.bool c],[.bool d],[.bool e]]),.rv (.bool false)] [] [] (.rv (.bool !(a && b && c && d && e))):=by
 refine bz Rz [.rv (.sl 1 [[.bool a],[.bool b],[.bool c],[.bool d],[.bool e]]),.rv (.bool false)] _ (by simp) (by simp [aP,bg,bu,aY,bq,aC.sv,Ln.sv,Nd.sv]) (fun K hK=>?_)
 have hi:=UF a b c d e
 have h5:decide (Cv a b c d e≥0) = !(a && b && c && d && e):=by cases a <;> cases b <;> cases c <;> cases d <;> cases e <;> rfl
 conv in fc _ _ _ _=>reduce
 simp -implicitDefEqProofs only [go_sem,Int.reduceNegSucc]
 have bK:=hi;repeat' (first | (simp -implicitDefEqProofs only [go_sem,Int.reduceNegSucc,h5]) | (with_reducible refine aA ?_) | (with_reducible first | refine ag bK ?_ | refine ah bK ?_) | ((first | refine aj (fun hg=>?_) (fun hg=>?_) | refine ax (fun hg=>?_) (fun hg=>?_) | refine ay (fun hg=>?_) (fun hg=>?_)) <;> try simp -implicitDefEqProofs only [hg,Bool.not_true,Bool.not_false]) | ((with_reducible apply And.intro);focus (first | trivial | omega | decide | (simp -implicitDefEqProofs only [maxLen];omega) | (simp [maxLen,af,ak,an,av,ai,au,aq] <;> omega))) | fail)
 exact (hK _ _ (bU rfl)).2
theorem UA (j v:Nat) (a b c d e:Bool):aL Go.Proofs.Tryz.prog 90 [.win j v 0 5,.rv (.bool false)] [(j,.var [.rv (.bool a),.rv (.bool b),.rv (.bool c),.rv (.bool d),.rv (.bool e)])] [] (.rv (.bool !(a && b && c && d && e))):=by
 refine yl (rs:=[.sl 1 [[.bool a],[.bool b],[.bool c],[.bool d],[.bool e]],.bool false]) (Uz a b c d e) (fun hp hpre=>⟨?_,.rv _,trivial⟩) rfl (.rv _ (.bool _)) (by simp)
 refine .win j v 0 1 5 [.rv (.bool a),.rv (.bool b),.rv (.bool c),.rv (.bool d),.rv (.bool e)] _ rfl (hpre _ (.head _)) rfl (by simp) (by simp) (fun i r k q hi hk=>?_) (fun i r k y q hi hy hk=>?_)
 ·match i,k with
  | 0,0 | 1,0 | 2,0 | 3,0 | 4,0=>cases hi;cases hk;rfl
  | 0,k+1 | 1,k+1 | 2,k+1 | 3,k+1 | 4,k+1=>cases hi;simp at hk
  | i+5,k=>simp at hi
 ·match i,k with
  | 0,0 | 1,0 | 2,0 | 3,0 | 4,0=>cases hi;cases hk;cases hy;exact .rv _
  | 0,k+1 | 1,k+1 | 2,k+1 | 3,k+1 | 4,k+1=>cases hi;simp at hk
  | i+5,k=>simp at hi
structure Ed where
 bA:Q4 Sz
 pad:Q4 Sz
 bE:Q4 Int
 high:Sz
 least:Int
 most:Int
 alone:Bool
 flat:Bool
 oe:Bool
 lW:Bool
def Ed.cells (e:Ed):List RV:=e.bA.iG++e.pad.iG++e.bE.ints++[.bool e.high.auto,.int .i64 e.high.n,.int .i64 e.least,.int .i64 e.most,.bool e.alone,.bool e.flat,.bool e.oe,.bool e.lW]
def rV (s:aC) (w:Int):Bool:=(s.bE.a == 0) && ((mS s.pad w).a.n == 0)
def qT (s:aC) (w:Int):Bool:=(s.bE.c == 0) && ((mS s.pad w).c.n == 0)
def wS (s:aC) (h:Sz):Int:=bk (gf s.jX h.n (!h.auto)) 0
def vw (s:aC) (w:Int) (h:Sz) (alone:Bool):Ed:=
 ⟨mS s.bA w,mS s.pad w,s.bE,gf s.height h.n (!h.auto),wS s h,bk (gf s.jW h.n (!h.auto)) 1125899906842624,alone,
  !alone && rV s w && qT s w && (wS s h == 0),!alone && rV s w,!alone && qT s w && (gf s.height h.n (!h.auto)).auto && (wS s h == 0)⟩
def sy (s:aC) (w:Int) (h:Sz):Bool:=pq s.bA w && pq s.pad w && iy s.height h.n (!h.auto) && iy s.jX h.n (!h.auto) && iy s.jW h.n (!h.auto)
theorem Vb (s:aC) (w:Int) (h:Sz) (alone:Bool):aL Go.Proofs.Tryz.prog 61 [s.sv,.rv (.int .i64 w),h.sv,.rv (.bool alone)] [] [] (.aO [.agg ((vw s w h alone).cells.map .rv),.rv (.bool (sy s w h))]):=by
 refine bz QT [s.sv,.rv (.int .i64 w),h.sv,.rv (.bool alone)] _ (by simp) (by simp [aP,bg,bu,aY,bq,aC.sv,Ln.sv,Nd.sv]) (fun K hK=>?_)
 have h1:=Jf s.bA w
 have h2:=Jf s.pad w
 have h3:=rP s.height h.n (!h.auto)
 have h4:=Jd s.jX h.n (!h.auto)
 have h5:=Je s.jW h.n (!h.auto)
 have h6:=fun j=>UA j 0 (pq s.bA w) (pq s.pad w) (iy s.height h.n (!h.auto)) (iy s.jX h.n (!h.auto)) (iy s.jW h.n (!h.auto))
 simp -implicitDefEqProofs only [vw,rV,qT,wS,sy] at hK
 simp -implicitDefEqProofs only [Q4.iG,Sz.sv,Sz.cells,List.map_cons,List.map_nil] at h1 h2 h3 h4 h5
 generalize mS s.bA w=M at *
 generalize mS s.pad w=D at *
 generalize gf s.height h.n (!h.auto)=H at *
 generalize bk (gf s.jX h.n (!h.auto)) 0=L at *
 generalize bk (gf s.jW h.n (!h.auto)) 1125899906842624=X at *
 conv in fc _ _ _ _=>reduce
 simp -implicitDefEqProofs only [Sz.sv,Sz.cells,go_sem,Int.reduceNegSucc]
 cases alone <;>(have bM:=h1;have bN:=h2;have bR:=h3;have bZ:=h4;have cm:=h5;have fT:=h6;repeat' (first | (simp -implicitDefEqProofs only [go_sem,Int.reduceNegSucc,cE,dZ,cF,ec,cQ,eC,de,eN,dz,eZ,dJ,fu,dK,fy,dL,fA,dM,fB,dN,fC,cG,ee,cH,eg,cI,ek,cJ,ep,cK,er,cL,eu,cM,ew,cN,ey,cO,ez,cP,eA,cR,eD,cS,eE,cT,eF,cU,eG,cV,eH,cW,eI,cX,eJ,cY,eK,cZ,eL,dc,eM,dg,eO,dh,eP,di,eR,dj,eS,dm,eT,dn,eU,dr,eV,dw,eW,dx,eX,dy,eY,dA,fe,dB,ff,cB,fh,dD,fj,dF,fk,dG,fm,dH,fo,dI,fq,dU,dO,dP,dQ,dR,dS,dV,dW,dX,dY,cD,cA,af,Q4.ints]) | (with_reducible refine aA ?_) | (with_reducible first | refine ag bM ?_ | refine ah bM ?_) | (with_reducible first | refine ag bN ?_ | refine ah bN ?_) | (with_reducible first | refine ag bR ?_ | refine ah bR ?_) | (with_reducible first | refine ag bZ ?_ | refine ah bZ ?_) | (with_reducible first | refine ag cm ?_ | refine ah cm ?_) | ((first | refine bS (fT _) ?_ ?_ ?_ | refine bV (fT _) ?_ ?_ ?_ | fail);(focus (simp [aR,aB] <;> fail));(focus (simp [aV,aQ] <;> fail))) | ((first | refine aj (fun hg=>?_) (fun hg=>?_) | refine ax (fun hg=>?_) (fun hg=>?_) | refine ay (fun hg=>?_) (fun hg=>?_)) <;> try simp -implicitDefEqProofs only [hg,Bool.not_true,Bool.not_false]) | ((with_reducible apply And.intro);focus (first | trivial | omega | decide | (simp -implicitDefEqProofs only [maxLen];omega) | (simp [maxLen,af,ak,an,av,ai,au,aq] <;> omega))) | fail))
 all_goals (refine (hK _ _ ?_).2;clear hK;simp -implicitDefEqProofs only [go_sem,Int.reduceNegSucc,aS,aT,bf,bl,aH,aG,aF,Ed.cells,Q4.iG,Q4.ints] <;>(try simp_all [-Int.not_lt,-Int.not_le,aH,aG,aF,bF,Ed.cells,Q4.iG,Q4.ints]) <;> try omega)
end Go.aJ

namespace Go.aJ
open Go
def Xy (i j m k:Nat):Option Nat:=if k=j then some i else if k=i then none else if k<m then some k else none
def Xx (i j k:Nat):Nat:=if k=i then j else k
end Go.aJ
