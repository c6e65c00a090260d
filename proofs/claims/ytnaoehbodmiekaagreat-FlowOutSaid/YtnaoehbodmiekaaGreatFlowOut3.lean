/- Part 3 of the proof: K3, K4, K5, K6, K7, K8, K9, K10, K11, K12, U1, P1, F1, FK, G1, G2, F2, G3, G4, F3, EngZe. -/
import Derived.Test.YtnaoehbodmiekaaGreatFlowOut2
set_option linter.unusedSimpArgs false
set_option linter.unusedVariables false
set_option maxRecDepth 100000
set_option maxHeartbeats 16000000
namespace Go.aL
open Go
theorem Rj:aU Go.Proofs.Tryz.prog 83 94 (fc Go.Proofs.Tryz.prog 83 94 [(.t 2)]) [(.t 2)]:=bl (by kernel_rfl)
theorem Rk:aU Go.Proofs.Tryz.prog 58 63 (fc Go.Proofs.Tryz.prog 58 63 [(.t 2)]) [(.t 2)]:=bl (by kernel_rfl)
theorem Gz (s:aC) {k:Nat} (h:k<18):∃ o,nI[k]?=some o∧((s.cells.map SV.rv).drop o).take 2=((fQ s)[k]'h).cells.map SV.rv∧o+2≤48:=by
 have:k=0∨k=1∨k=2∨k=3∨k=4∨k=5∨k=6∨k=7∨k=8∨k=9∨k=10∨k=11∨k=12∨k=13∨k=14∨k=15∨k=16∨k=17:=by omega
 rcases this with rfl | rfl | rfl | rfl | rfl | rfl | rfl | rfl | rfl | rfl | rfl | rfl | rfl | rfl | rfl | rfl | rfl | rfl <;> exact ⟨_,rfl,rfl,by decide⟩
theorem RN (s:aC) {k o:Nat} (h:k<18) (ho:nI[k]?=some o):(s.cells.map SV.rv)[o]?=some (.rv (.int .i64 ((fQ s)[k]'h).kind))∧(s.cells.map SV.rv)[o+1]?=some (.rv (.int .i64 ((fQ s)[k]'h).n)):=by
 have:k=0∨k=1∨k=2∨k=3∨k=4∨k=5∨k=6∨k=7∨k=8∨k=9∨k=10∨k=11∨k=12∨k=13∨k=14∨k=15∨k=16∨k=17:=by omega
 rcases this with rfl | rfl | rfl | rfl | rfl | rfl | rfl | rfl | rfl | rfl | rfl | rfl | rfl | rfl | rfl | rfl | rfl | rfl <;>(cases ho;exact ⟨rfl,rfl⟩)
theorem HR {k:Nat} {i o:Nat} (h:nI[k]?=some o):(gY i nI)[k]?.getD []=[.ptr i o]:=by
 simp [gY,List.getElem?_map,h]
def ru (s:aC):List Ln:=[s.width,s.height,s.jv,s.ju,s.kg,s.kf]
def qZ (s:aC) (k:Nat):Bool:=(List.range k).all fun j=>lX (nM s.pad j) (nM s.bD j)
theorem SW (s:aC) (k:Nat):qZ s (k+1)=(qZ s k && lX (nM s.pad k) (nM s.bD k)):=by simp [qZ,List.range_succ]
theorem SU (s:aC):qZ s 4=(lX s.pad.a s.bD.a && lX s.pad.b s.bD.b && lX s.pad.c s.bD.c && lX s.pad.d s.bD.d):=by
 simp [qZ,List.range_succ,nM,Bool.and_assoc]
theorem IQ (s:aC):aI Go.Proofs.Tryz.prog 83 [s.sv] [] [] (.rv (.bool (jq s))):=by
 refine bt Rj [s.sv] _ (by simp) (by simp [aO,aW,bp,aS,bg,aC.sv,Ln.sv,Nd.sv]) (fun K hK=>?_)
 have bad:∀ e h,lk e 2 = .rv (.bool false)→jq s=false→K .ret ⟨e,h⟩:=fun e h l2 hf=>(hK _ _ (bO (by rw [l2,hf]))).2
 conv in fc _ _ _ _=>reduce
 simp -implicitDefEqProofs only [aC.sv,go_sem,Int.reduceNegSucc]
 refine bS (IC 0 1 s (by decide)) (by simp [aY,aB]) (by simp [bq,aX]) ?_
 simp -implicitDefEqProofs only [go_sem,Int.reduceNegSucc]
 refine fE (ι:=Nat) (fun k=>[(10,.rv (.int .i64 k)),(9,.rv (.int .i64 18)),(8,.row 1 13 18),(1,.ptr 0 0)]) (fun k=>[some (.var (s.cells.map .rv)),some (.row 1 13 (gY 0 nI))]) (fun k=>k≤18∧((fQ s).drop k).all oH=(fQ s).all oH) (fun k=>18 - k) 0 (by simp) (bh (by simp [lk])) (fun k hk K' hN hX hR=>?_)
 obtain ⟨fJ,hk2⟩:=hk
 simp -implicitDefEqProofs only [go_sem,Int.reduceNegSucc]
 refine ai (fun hg=>?_) (fun hg=>?_)
 ·have aE:k<18:=by simp at hg;omega
  obtain ⟨o,ho,nE,vG⟩:=Gz s aE
  have fS:=HR (i:=0) ho
  have ql:(gY 0 nI).length=18:=rfl
  have aT:=Vy ((fQ s)[k]'aE);repeat' (first | (simp -implicitDefEqProofs only [go_sem,Int.reduceNegSucc,fS,ql,nE]) | (with_reducible refine aA ?_) | (with_reducible first | refine af aT ?_ | refine ag aT ?_) | ((first | refine ai (fun hg=>?_) (fun hg=>?_) | refine ax (fun hg=>?_) (fun hg=>?_) | refine ay (fun hg=>?_) (fun hg=>?_)) <;> try simp -implicitDefEqProofs only [hg,Bool.not_true,Bool.not_false]) | ((with_reducible apply And.intro);focus (first | trivial | omega | decide | (simp -implicitDefEqProofs only [maxLen];omega) | (simp [maxLen,ah,ak,an,av,aj,au,aq] <;> omega))) | fail)
  ·refine hR _ _ (bad _ _ rfl ?_)
   simp -implicitDefEqProofs only [jq,oW aE hk2 (by simpa using hg),Bool.false_and]
  ·rw [cz (by omega)]
   exact hN (k+1) _ _ ⟨by omega,oX aE hk2 (by simpa using hg)⟩ (by omega) (bh (by simp [lk]))
 ·have aE:k=18:=by simp at hg;omega
  subst aE
  have hall:=oV (by rw [aq];omega) hk2
  simp -implicitDefEqProofs only [go_sem,Int.reduceNegSucc]
  refine hX _ _ _ ?_
  repeat' (first | (simp -implicitDefEqProofs only [go_sem,Int.reduceNegSucc,cD,dY,cE,dZ,cP,eA,dc,eM,dy,eY,dI,fq,dJ,fu,dK,fy,dL,fA,dM,fB,cF,ec,cG,ee,cH,eg,cI,ek,cJ,ep,cK,er,cL,eu,cM,ew,cN,ey,cO,ez,cQ,eC,cR,eD,cS,eE,cT,eF,cU,eG,cV,eH,cW,eI,cX,eJ,cY,eK,cZ,eL,de,eN,dg,eO,dh,eP,di,eR,dj,eS,dm,eT,dn,eU,dr,eV,dw,eW,dx,eX,dz,eZ,dA,fe,cB,ff,dB,fh,dD,fj,dF,fk,dG,fm,dH,fo,dS,dN,dO,dP,dQ,dR,dU,dV,dW,dX,cC,cA,ah,Ln.cells]) | (with_reducible refine aA ?_) | ((first | refine ai (fun hg=>?_) (fun hg=>?_) | refine ax (fun hg=>?_) (fun hg=>?_) | refine ay (fun hg=>?_) (fun hg=>?_)) <;> try simp -implicitDefEqProofs only [hg,Bool.not_true,Bool.not_false]) | ((with_reducible apply And.intro);focus (first | trivial | omega | decide | (simp -implicitDefEqProofs only [maxLen];omega) | (simp [maxLen,ah,ak,an,av,aj,au,aq] <;> omega))) | fail)
  refine fE (ι:=Nat) (fun k=>[(34,.rv (.int .i64 k)),(33,.rv (.int .i64 6)),(32,.row 2 0 6),(1,.ptr 0 0)]) (fun k=>[some (.var (s.cells.map .rv)),some (.row 1 13 (gY 0 nI)),some (.row 2 0 (aN (lW (ru s))))]) (fun k=>k≤6∧((ru s).drop k).all (fun x=>decide (0≤x.n))=(ru s).all (fun x=>decide (0≤x.n))) (fun k=>6 - k) 0 (by simp) (bh (by simp [lk])) (fun k hk K' hN hX hR=>?_)
  obtain ⟨fJ,hk2⟩:=hk
  simp -implicitDefEqProofs only [go_sem,Int.reduceNegSucc]
  refine ai (fun hg=>?_) (fun hg=>?_)
  ·have aE:k<6:=by simp at hg;omega
   have hx:=Ck (l:=ru s) aE
   have NQ:(lW (ru s)).length=6:=rfl
   repeat' (first | (simp -implicitDefEqProofs only [go_sem,Int.reduceNegSucc,hx,NQ,Ln.cells]) | (with_reducible refine aA ?_) | ((first | refine ai (fun hg=>?_) (fun hg=>?_) | refine ax (fun hg=>?_) (fun hg=>?_) | refine ay (fun hg=>?_) (fun hg=>?_)) <;> try simp -implicitDefEqProofs only [hg,Bool.not_true,Bool.not_false]) | ((with_reducible apply And.intro);focus (first | trivial | omega | decide | (simp -implicitDefEqProofs only [maxLen];omega) | (simp [maxLen,ah,ak,an,av,aj,au,aq] <;> omega))) | fail)
   ·refine hR _ _ (bad _ _ rfl ?_)
    simp -implicitDefEqProofs only [jq]
    rw [show [s.width,s.height,s.jv,s.ju,s.kg,s.kf]=ru s from rfl,oW aE hk2 (by simp at hg ⊢;omega)]
    simp
   ·rw [cz (by omega)]
    exact hN (k+1) _ _ ⟨by omega,oX aE hk2 (by simp at hg ⊢;omega)⟩ (by omega) (tN _ (by simp) (by simp [qo,aB,fY,fU,zD,hD,gD]) (by simp [lk,aG,hJ,gw,gD]))
  ·have aE:k=6:=by simp at hg;omega
   subst aE
   have Np:=oV (by simp [ru]) hk2
   simp -implicitDefEqProofs only [go_sem,Int.reduceNegSucc]
   refine hX _ _ _ ?_
   repeat' (first | (simp -implicitDefEqProofs only [go_sem,Int.reduceNegSucc]) | (with_reducible refine aA ?_) | ((first | refine ai (fun hg=>?_) (fun hg=>?_) | refine ax (fun hg=>?_) (fun hg=>?_) | refine ay (fun hg=>?_) (fun hg=>?_)) <;> try simp -implicitDefEqProofs only [hg,Bool.not_true,Bool.not_false]) | ((with_reducible apply And.intro);focus (first | trivial | omega | decide | (simp -implicitDefEqProofs only [maxLen];omega) | (simp [maxLen,ah,ak,an,av,aj,au,aq] <;> omega))) | fail)
   refine fE (ι:=Nat) (fun k=>[(42,.rv (.int .i64 k)),(1,.ptr 0 0)]) (fun k=>[some (.var (s.cells.map .rv))]) (fun k=>k≤4∧qZ s k=true) (fun k=>4 - k) 0 (by simp [qZ]) (tN _ (by simp) (by simp [qo,aB,fY,fU,gD]) (by simp [lk,aG,hJ,gw,gD])) (fun k hk K' hN hX hR=>?_)
   obtain ⟨fJ,hk2⟩:=hk
   simp -implicitDefEqProofs only [go_sem,Int.reduceNegSucc]
   refine ai (fun hg=>?_) (fun hg=>?_)
   ·have aE:k<4:=by simp at hg;omega
    have hn:lX (nM s.pad k) (nM s.bD k)=true→qZ s (k+1)=true:=fun h=>by rw [SW,hk2,h];rfl
    have hb:lX (nM s.pad k) (nM s.bD k)=false→jq s=false:=fun h=>by
     have:k=0∨k=1∨k=2∨k=3:=by omega
     rcases this with rfl | rfl | rfl | rfl <;> simp_all [jq,nM]
    have:k=0∨k=1∨k=2∨k=3:=by omega
    rcases this with rfl | rfl | rfl | rfl
    all_goals
     repeat' (first | (simp -implicitDefEqProofs only [go_sem,Int.reduceNegSucc,cD,dY,cE,dZ,cP,eA,dc,eM,dy,eY,dI,fq,dJ,fu,dK,fy,dL,fA,dM,fB,cF,ec,cG,ee,cH,eg,cI,ek,cJ,ep,cK,er,cL,eu,cM,ew,cN,ey,cO,ez,cQ,eC,cR,eD,cS,eE,cT,eF,cU,eG,cV,eH,cW,eI,cX,eJ,cY,eK,cZ,eL,de,eN,dg,eO,dh,eP,di,eR,dj,eS,dm,eT,dn,eU,dr,eV,dw,eW,dx,eX,dz,eZ,dA,fe,cB,ff,dB,fh,dD,fj,dF,fk,dG,fm,dH,fo,dS,dN,dO,dP,dQ,dR,dU,dV,dW,dX,cC,cA,ah]) | (with_reducible refine aA ?_) | ((first | refine ai (fun hg=>?_) (fun hg=>?_) | refine ax (fun hg=>?_) (fun hg=>?_) | refine ay (fun hg=>?_) (fun hg=>?_)) <;> try simp -implicitDefEqProofs only [hg,Bool.not_true,Bool.not_false]) | ((with_reducible apply And.intro);focus (first | trivial | omega | decide | (simp -implicitDefEqProofs only [maxLen];omega) | (simp [maxLen,ah,ak,an,av,aj,au,aq] <;> omega))) | fail)
    all_goals first
     | (refine hR _ _ (bad _ _ rfl (hb ?_));clear hN hX hR hb hn bad hK;simp_all [lX,nM,bB];done)
     | (rw [cz (by omega)];refine hN _ _ _ ⟨by omega,hn ?_⟩ (by omega) (bh (by simp [lk]));clear hN hX hR hb hn bad hK;simp_all [lX,nM,bB];done)
   ·have aE:k=4:=by simp at hg;omega
    subst aE
    rw [SU] at hk2
    simp -implicitDefEqProofs only [go_sem,Int.reduceNegSucc]
    refine hX _ _ _ ?_
    have fin:∀ e h,lk e 2 = .rv (.bool (tf s))→K .ret ⟨e,h⟩:=fun e h l2=>(hK _ _ (bO (by rw [l2,jq,hall,hk2];rw [show [s.width,s.height,s.jv,s.ju,s.kg,s.kf]=ru s from rfl,Np];rfl))).2
    clear hK hN hX hR bad
    repeat' (first | (simp -implicitDefEqProofs only [go_sem,Int.reduceNegSucc,cD,dY,cE,dZ,cP,eA,dc,eM,dy,eY,dI,fq,dJ,fu,dK,fy,dL,fA,dM,fB,cF,ec,cG,ee,cH,eg,cI,ek,cJ,ep,cK,er,cL,eu,cM,ew,cN,ey,cO,ez,cQ,eC,cR,eD,cS,eE,cT,eF,cU,eG,cV,eH,cW,eI,cX,eJ,cY,eK,cZ,eL,de,eN,dg,eO,dh,eP,di,eR,dj,eS,dm,eT,dn,eU,dr,eV,dw,eW,dx,eX,dz,eZ,dA,fe,cB,ff,dB,fh,dD,fj,dF,fk,dG,fm,dH,fo,dS,dN,dO,dP,dQ,dR,dU,dV,dW,dX,cC,cA,ah]) | (with_reducible refine aA ?_) | ((first | refine ai (fun hg=>?_) (fun hg=>?_) | refine ax (fun hg=>?_) (fun hg=>?_) | refine ay (fun hg=>?_) (fun hg=>?_)) <;> try simp -implicitDefEqProofs only [hg,Bool.not_true,Bool.not_false]) | ((with_reducible apply And.intro);focus (first | trivial | omega | decide | (simp -implicitDefEqProofs only [maxLen];omega) | (simp [maxLen,ah,ak,an,av,aj,au,aq] <;> omega))) | fail)
    all_goals (refine fin _ _ ?_;(simp_all [lk,tf,bB]) <;>(try (intros;omega)))
theorem Vx (s:aC):aI Go.Proofs.Tryz.prog 58 [s.sv] [] [] (.rv (.bool (lq s))):=by
 refine bt Rk [s.sv] _ (by simp) (by simp [aO,aW,bp,aS,bg,aC.sv,Ln.sv,Nd.sv]) (fun K hK=>?_)
 have bad:∀ e h,lk e 2 = .rv (.bool false)→lq s=false→K .ret ⟨e,h⟩:=fun e h l2 hf=>(hK _ _ (bO (by rw [l2,hf]))).2
 conv in fc _ _ _ _=>reduce
 simp -implicitDefEqProofs only [aC.sv,go_sem,Int.reduceNegSucc]
 refine bS (IC 0 1 s (by decide)) (by simp [aY,aB]) (by simp [bq,aX]) ?_
 simp -implicitDefEqProofs only [go_sem,Int.reduceNegSucc]
 refine fE (ι:=Nat) (fun k=>[(9,.rv (.int .i64 k)),(8,.rv (.int .i64 18)),(7,.row 1 13 18),(1,.ptr 0 0)]) (fun k=>[some (.var (s.cells.map .rv)),some (.row 1 13 (gY 0 nI))]) (fun k=>k≤18∧((fQ s).drop k).all pN=(fQ s).all pN) (fun k=>18 - k) 0 (by simp) (bh (by simp [lk])) (fun k hk K' hN hX hR=>?_)
 obtain ⟨fJ,hk2⟩:=hk
 simp -implicitDefEqProofs only [go_sem,Int.reduceNegSucc]
 refine ai (fun hg=>?_) (fun hg=>?_)
 ·have aE:k<18:=by simp at hg;omega
  obtain ⟨o,ho,nE,vG⟩:=Gz s aE
  have fS:=HR (i:=0) ho
  have ql:(gY 0 nI).length=18:=rfl
  obtain ⟨hc0,qN⟩:=RN s aE ho
  have vH:o<48:=by omega
  have NT:o+1<48:=by omega
  have kS:∀ e h,lk e 2 = .rv (.bool false)→pN ((fQ s)[k]'aE)=false→K .ret ⟨e,h⟩:=fun e h l2 hf=>bad e h l2 (by simp -implicitDefEqProofs only [lq,oW aE hk2 hf,Bool.false_and])
  have nx:∀ e h,pN ((fQ s)[k]'aE)=true→fX 0 ⟨e,h⟩ ⟨[(9,.rv (.int .i64 (k+1:Nat))),(8,.rv (.int .i64 18)),(7,.row 1 13 18),(1,.ptr 0 0)],[some (.var (s.cells.map .rv)),some (.row 1 13 (gY 0 nI))]⟩→K' .normal ⟨e,h⟩:=fun e h hf he=>hN (k+1) _ _ ⟨by omega,oX aE hk2 hf⟩ (by omega) he
  have wu:=cz (k:=k) (by omega)
  generalize (fQ s)[k]'aE=x at *
  have y_2:=CZ x.n 1099511627776 (by decide) (by decide);have bA:=CZ x.n 1000000 (by decide) (by decide);repeat' (first | (simp -implicitDefEqProofs only [go_sem,Int.reduceNegSucc,fS,ql,hc0,qN,wu]) | (with_reducible refine aA ?_) | (with_reducible first | refine af y_2 ?_ | refine ag y_2 ?_) | (with_reducible first | refine af bA ?_ | refine ag bA ?_) | ((first | refine ai (fun hg=>?_) (fun hg=>?_) | refine ax (fun hg=>?_) (fun hg=>?_) | refine ay (fun hg=>?_) (fun hg=>?_)) <;> try simp -implicitDefEqProofs only [hg,Bool.not_true,Bool.not_false]) | ((with_reducible apply And.intro);focus (first | trivial | omega | decide | (simp -implicitDefEqProofs only [maxLen];omega) | (simp [maxLen,ah,ak,an,av,aj,au,aq] <;> omega))) | fail)
  all_goals first
   | (refine hR _ _ (kS _ _ rfl ?_);clear hN hX hR bad kS nx hK;simp_all [pN,bB];done)
   | (refine nx _ _ ?_ (bh (by simp [lk]));clear hN hX hR bad kS nx hK;simp_all [pN,bB];done)
 ·have aE:k=18:=by simp at hg;omega
  subst aE
  have hall:=oV (by rw [aq];omega) hk2
  simp -implicitDefEqProofs only [go_sem,Int.reduceNegSucc]
  refine hX _ _ _ ?_
  repeat' (first | (simp -implicitDefEqProofs only [go_sem,Int.reduceNegSucc,cD,dY,cE,dZ,cP,eA,dc,eM,dy,eY,dI,fq,dJ,fu,dK,fy,dL,fA,dM,fB,cF,ec,cG,ee,cH,eg,cI,ek,cJ,ep,cK,er,cL,eu,cM,ew,cN,ey,cO,ez,cQ,eC,cR,eD,cS,eE,cT,eF,cU,eG,cV,eH,cW,eI,cX,eJ,cY,eK,cZ,eL,de,eN,dg,eO,dh,eP,di,eR,dj,eS,dm,eT,dn,eU,dr,eV,dw,eW,dx,eX,dz,eZ,dA,fe,cB,ff,dB,fh,dD,fj,dF,fk,dG,fm,dH,fo,dS,dN,dO,dP,dQ,dR,dU,dV,dW,dX,cC,cA,ah]) | (with_reducible refine aA ?_) | ((first | refine ai (fun hg=>?_) (fun hg=>?_) | refine ax (fun hg=>?_) (fun hg=>?_) | refine ay (fun hg=>?_) (fun hg=>?_)) <;> try simp -implicitDefEqProofs only [hg,Bool.not_true,Bool.not_false]) | ((with_reducible apply And.intro);focus (first | trivial | omega | decide | (simp -implicitDefEqProofs only [maxLen];omega) | (simp [maxLen,ah,ak,an,av,aj,au,aq] <;> omega))) | fail)
  refine fE (ι:=Nat) (fun k=>[(44,.rv (.int .i64 k)),(43,.agg (s.bD.ints.map .rv)),(1,.ptr 0 0)]) (fun k=>[some (.var (s.cells.map .rv))]) (fun k=>k≤4∧(s.bD.list.drop k).all (fun n=>decide (n≤1099511627776))=s.bD.list.all (fun n=>decide (n≤1099511627776))) (fun k=>4 - k) 0 (by simp) (tN _ (by simp) (by simp [qo,aB,fY,fU,gD]) (by simp [lk,aG,hJ,gw,aH,fU,gD])) (fun k hk K' hN hX hR=>?_)
  obtain ⟨fJ,hk2⟩:=hk
  simp -implicitDefEqProofs only [go_sem,Int.reduceNegSucc]
  refine ai (fun hg=>?_) (fun hg=>?_)
  ·have aE:k<4:=by simp at hg;omega
   have hx:(s.bD.ints.map SV.rv)[k*1]?.getD .dead = .rv (.int .i64 (s.bD.list[k]'aE)):=by
    have:k=0∨k=1∨k=2∨k=3:=by omega
    rcases this with rfl | rfl | rfl | rfl <;> rfl
   have NP:s.bD.ints.length=4:=rfl
   repeat' (first | (simp -implicitDefEqProofs only [go_sem,Int.reduceNegSucc,hx,NP]) | (with_reducible refine aA ?_) | ((first | refine ai (fun hg=>?_) (fun hg=>?_) | refine ax (fun hg=>?_) (fun hg=>?_) | refine ay (fun hg=>?_) (fun hg=>?_)) <;> try simp -implicitDefEqProofs only [hg,Bool.not_true,Bool.not_false]) | ((with_reducible apply And.intro);focus (first | trivial | omega | decide | (simp -implicitDefEqProofs only [maxLen];omega) | (simp [maxLen,ah,ak,an,av,aj,au,aq] <;> omega))) | fail)
   ·refine hR _ _ (bad _ _ rfl ?_)
    simp -implicitDefEqProofs only [lq]
    rw [oW (l:=s.bD.list) aE hk2 (by simp at hg ⊢;omega)]
    simp
   ·rw [cz (by omega)]
    exact hN (k+1) _ _ ⟨by omega,oX (l:=s.bD.list) aE hk2 (by simp at hg ⊢;omega)⟩ (by omega) (bh (by simp [lk]))
  ·have aE:k=4:=by simp at hg;omega
   subst aE
   have hb:=oV (l:=s.bD.list) (by simp [Q4.list]) hk2
   simp -implicitDefEqProofs only [go_sem,Int.reduceNegSucc]
   refine hX _ _ _ ?_
   have fin:∀ e h,lk e 2 = .rv (.bool (qR s.z 1073741824 && decide (s.back≤16777216) && decide (s.line≤16777216)))→K .ret ⟨e,h⟩:=fun e h l2=>(hK _ _ (bO (by rw [l2,lq,hall,hb];rfl))).2
   clear hK hN hX hR bad
   have bC:=CZ s.z 1073741824 (by decide) (by decide);repeat' (first | (simp -implicitDefEqProofs only [go_sem,Int.reduceNegSucc,cD,dY,cE,dZ,cP,eA,dc,eM,dy,eY,dI,fq,dJ,fu,dK,fy,dL,fA,dM,fB,cF,ec,cG,ee,cH,eg,cI,ek,cJ,ep,cK,er,cL,eu,cM,ew,cN,ey,cO,ez,cQ,eC,cR,eD,cS,eE,cT,eF,cU,eG,cV,eH,cW,eI,cX,eJ,cY,eK,cZ,eL,de,eN,dg,eO,dh,eP,di,eR,dj,eS,dm,eT,dn,eU,dr,eV,dw,eW,dx,eX,dz,eZ,dA,fe,cB,ff,dB,fh,dD,fj,dF,fk,dG,fm,dH,fo,dS,dN,dO,dP,dQ,dR,dU,dV,dW,dX,cC,cA,ah]) | (with_reducible refine aA ?_) | (with_reducible first | refine af bC ?_ | refine ag bC ?_) | ((first | refine ai (fun hg=>?_) (fun hg=>?_) | refine ax (fun hg=>?_) (fun hg=>?_) | refine ay (fun hg=>?_) (fun hg=>?_)) <;> try simp -implicitDefEqProofs only [hg,Bool.not_true,Bool.not_false]) | ((with_reducible apply And.intro);focus (first | trivial | omega | decide | (simp -implicitDefEqProofs only [maxLen];omega) | (simp [maxLen,ah,ak,an,av,aj,au,aq] <;> omega))) | fail)
   all_goals (refine fin _ _ ?_;(simp_all [lk,bB]) <;>(try (intros;omega)))
end Go.aL

namespace Go.aL
open Go
theorem PG:aU Go.Proofs.Tryz.prog 53 31 (fc Go.Proofs.Tryz.prog 53 31 [(.t 2)]) [(.t 2)]:=bl (by kernel_rfl)
theorem PF:aU Go.Proofs.Tryz.prog 52 110 (fc Go.Proofs.Tryz.prog 52 110 [(.t 2)]) [(.t 2)]:=bl (by kernel_rfl)
theorem PI:aU Go.Proofs.Tryz.prog 24 89 (fc Go.Proofs.Tryz.prog 24 89 [(.t 2)]) [(.t 2)]:=bl (by kernel_rfl)
theorem RY (l:List Ln):∀ x∈lW l,∀ r∈x,r.one=true:=by
 intro x hx r hr
 obtain ⟨n,_,rfl⟩:=List.mem_map.1 hx
 simp [Ln.cells] at hr
 rcases hr with rfl | rfl <;> rfl
theorem ID (s:aC):aI Go.Proofs.Tryz.prog 53 [s.sv] [] [] (.rv (.sl 2 (lW (fQ s)))):=by
 refine bt PG [s.sv] _ (by simp) (by simp [aO,aW,bp,aS,bg,aC.sv,Ln.sv,Nd.sv]) (fun K hK=>?_)
 conv in fc _ _ _ _=>reduce
 simp -implicitDefEqProofs only [aC.sv,go_sem,Int.reduceNegSucc]
 repeat' (first | (simp -implicitDefEqProofs only [go_sem,Int.reduceNegSucc,ah]) | (with_reducible refine aA ?_) | ((first | refine ai (fun hg=>?_) (fun hg=>?_) | refine ax (fun hg=>?_) (fun hg=>?_) | refine ay (fun hg=>?_) (fun hg=>?_)) <;> try simp -implicitDefEqProofs only [hg,Bool.not_true,Bool.not_false]) | ((with_reducible apply And.intro);focus (first | trivial | omega | decide | (simp -implicitDefEqProofs only [maxLen];omega) | (simp [maxLen,ah,ak,an,av,aj,au,aq] <;> omega))) | fail)
 exact (hK _ _ ⟨trivial,pQ (xs:=lW (fQ s)) rfl rfl rfl (RY _)⟩).2
def gJ (k:Nat) (x:Ln):Bool:=!(decide (x.kind<0) || decide (x.kind>2) || (decide (x.kind=0) && !decide (x.n=0))) && !((decide (x.n<0) && ((decide (4≤k) && decide (k<10)) || decide (14≤k))) || (decide (14≤k) && decide (x.kind=0)))
def qq (s:aC) (k:Nat):Bool:=(List.range k).all fun j=>gJ j ((fQ s).getD j default)
theorem SC {s:aC} {k:Nat} (h:k<18):qq s (k+1)=(qq s k && gJ k ((fQ s)[k]'h)):=by
 have:(fQ s).getD k default=(fQ s)[k]'h:=by rw [List.getD_eq_getElem?_getD,List.getElem?_eq_getElem h];rfl
 simp -implicitDefEqProofs only [qq,List.range_succ,List.all_append,List.all_cons,List.all_nil,Bool.and_true,this]
theorem SB {s:aC} {k:Nat} (h:k<18) (hf:gJ k ((fQ s)[k]'h)=false):qq s 18=false:=by
 have:(fQ s).getD k default=(fQ s)[k]'h:=by rw [List.getD_eq_getElem?_getD,List.getElem?_eq_getElem h];rfl
 rw [Bool.eq_false_iff]
 intro ht
 have:=List.all_eq_true.1 ht k (by simp;omega)
 simp_all
theorem Db (s:aC):jq s=(qq s 18 && (s.bD.list.all fun n=>!decide (n<0)) && tf s):=by
 have:qq s 18=(gJ 0 s.off.a && gJ 1 s.off.b && gJ 2 s.off.c && gJ 3 s.off.d && gJ 4 s.width && gJ 5 s.height && gJ 6 s.jv && gJ 7 s.ju && gJ 8 s.kg && gJ 9 s.kf && gJ 10 s.bF.a && gJ 11 s.bF.b && gJ 12 s.bF.c && gJ 13 s.bF.d && gJ 14 s.pad.a && gJ 15 s.pad.b && gJ 16 s.pad.c && gJ 17 s.pad.d):=by
  simp [qq,List.range_succ,fQ,Q4.list,Bool.and_assoc]
 rw [this]
 have e1:∀ k x,(k<4∨(10≤k∧k<14))→gJ k x=oH x:=fun k x hk=>by
  have h1:decide (14≤k)=false:=decide_eq_false (by omega)
  have h2:(decide (4≤k) && decide (k<10))=false:=by simp;omega
  simp -implicitDefEqProofs only [gJ,oH,h1,h2]
  rw [Bool.eq_iff_iff];simp;omega
 have e2:∀ k x,(4≤k∧k<10)→gJ k x=(oH x && decide (0≤x.n)):=fun k x hk=>by
  have h1:decide (14≤k)=false:=decide_eq_false (by omega)
  have h2:(decide (4≤k) && decide (k<10))=true:=by simp;omega
  simp -implicitDefEqProofs only [gJ,oH,h1,h2]
  rw [Bool.eq_iff_iff];simp;omega
 have e3:∀ k x,14≤k→gJ k x=(oH x && !(decide (x.kind=0) || decide (x.n<0))):=fun k x hk=>by
  have h1:decide (14≤k)=true:=decide_eq_true (by omega)
  simp -implicitDefEqProofs only [gJ,oH,h1]
  rw [Bool.eq_iff_iff];simp;omega
 rw [e1 0 _ (by omega),e1 1 _ (by omega),e1 2 _ (by omega),e1 3 _ (by omega),e2 4 _ (by omega),e2 5 _ (by omega),e2 6 _ (by omega),e2 7 _ (by omega),e2 8 _ (by omega),e2 9 _ (by omega),e1 10 _ (by omega),e1 11 _ (by omega),e1 12 _ (by omega),e1 13 _ (by omega),e3 14 _ (by omega),e3 15 _ (by omega),e3 16 _ (by omega),e3 17 _ (by omega)]
 rw [Bool.eq_iff_iff]
 simp -implicitDefEqProofs only [jq,fQ,Q4.list,lX,List.all_append,List.all_cons,List.all_nil,Bool.and_true,Bool.and_eq_true,Bool.not_eq_true',Bool.or_eq_false_iff,decide_eq_true_eq,decide_eq_false_iff_not]
 constructor <;>(intro h;simp -implicitDefEqProofs only [h,not_false_eq_true,and_self])
theorem Vf (s:aC):aI Go.Proofs.Tryz.prog 52 [s.sv] [] [] (.rv (.bool (jq s))):=by
 refine bt PF [s.sv] _ (by simp) (by simp [aO,aW,bp,aS,bg,aC.sv,Ln.sv,Nd.sv]) (fun K hK=>?_)
 have bad:∀ e h,lk e 2 = .rv (.bool false)→jq s=false→K .ret ⟨e,h⟩:=fun e h l2 hf=>(hK _ _ (bO (by rw [l2,hf]))).2
 conv in fc _ _ _ _=>reduce
 simp -implicitDefEqProofs only [aC.sv,go_sem,Int.reduceNegSucc]
 have aT:=ID s;repeat' (first | (simp -implicitDefEqProofs only [go_sem,Int.reduceNegSucc,cD,dY,cE,dZ,cP,eA,dc,eM,dy,eY,dI,fq,dJ,fu,dK,fy,dL,fA,dM,fB,cF,ec,cG,ee,cH,eg,cI,ek,cJ,ep,cK,er,cL,eu,cM,ew,cN,ey,cO,ez,cQ,eC,cR,eD,cS,eE,cT,eF,cU,eG,cV,eH,cW,eI,cX,eJ,cY,eK,cZ,eL,de,eN,dg,eO,dh,eP,di,eR,dj,eS,dm,eT,dn,eU,dr,eV,dw,eW,dx,eX,dz,eZ,dA,fe,cB,ff,dB,fh,dD,fj,dF,fk,dG,fm,dH,fo,dS,dN,dO,dP,dQ,dR,dU,dV,dW,dX,cC,cA,ah,av,aq]) | (with_reducible refine aA ?_) | (with_reducible first | refine af aT ?_ | refine ag aT ?_) | ((first | refine ai (fun hg=>?_) (fun hg=>?_) | refine ax (fun hg=>?_) (fun hg=>?_) | refine ay (fun hg=>?_) (fun hg=>?_)) <;> try simp -implicitDefEqProofs only [hg,Bool.not_true,Bool.not_false]) | ((with_reducible apply And.intro);focus (first | trivial | omega | decide | (simp -implicitDefEqProofs only [maxLen];omega) | (simp [maxLen,ah,ak,an,av,aj,au,aq] <;> omega))) | fail)
 refine fE (ι:=Nat) (fun k=>[(10,.rv (.int .i64 k)),(9,.rv (.int .i64 18)),(3,.rv (.sl 2 (lW (fQ s)))),(1,.ptr 0 0)]) (fun k=>[some (.var (s.cells.map .rv))]) (fun k=>k≤18∧qq s k=true) (fun k=>18 - k) 0 (by simp [qq]) (bh (by simp [lk])) (fun k hk K' hN hX hR=>?_)
 obtain ⟨fJ,hk2⟩:=hk
 simp -implicitDefEqProofs only [go_sem,Int.reduceNegSucc]
 refine ai (fun hg=>?_) (fun hg=>?_)
 ·have aE:k<18:=by simp at hg;omega
  have hx:=Ck (l:=fQ s) aE
  have kS:∀ e h,lk e 2 = .rv (.bool false)→gJ k ((fQ s)[k]'aE)=false→K .ret ⟨e,h⟩:=fun e h l2 hf=>bad e h l2 (by rw [Db,SB aE hf];rfl)
  have nx:∀ e h,gJ k ((fQ s)[k]'aE)=true→fX 0 ⟨e,h⟩ ⟨[(10,.rv (.int .i64 (k+1:Nat))),(9,.rv (.int .i64 18)),(3,.rv (.sl 2 (lW (fQ s)))),(1,.ptr 0 0)],[some (.var (s.cells.map .rv))]⟩→K' .normal ⟨e,h⟩:=fun e h hf he=>hN (k+1) _ _ ⟨by omega,by rw [SC aE,hk2,hf];rfl⟩ (by omega) he
  have wu:=cz (k:=k) (by omega)
  have pI:(lW (fQ s)).length=18:=rfl
  clear hN hX hK bad
  generalize Ol:(fQ s)[k]'aE=x at *
  repeat' (first | (simp -implicitDefEqProofs only [go_sem,Int.reduceNegSucc,hx,pI,Ln.cells,wu]) | (with_reducible refine aA ?_) | ((first | refine ai (fun hg=>?_) (fun hg=>?_) | refine ax (fun hg=>?_) (fun hg=>?_) | refine ay (fun hg=>?_) (fun hg=>?_)) <;> try simp -implicitDefEqProofs only [hg,Bool.not_true,Bool.not_false]) | ((with_reducible apply And.intro);focus (first | trivial | omega | decide | (simp -implicitDefEqProofs only [maxLen];omega) | (simp [maxLen,ah,ak,an,av,aj,au,aq] <;> omega))) | fail)
  all_goals first
   | (refine hR _ _ (kS _ _ rfl ?_);clear hR kS nx;simp_all [gJ,bB];done)
   | (refine nx _ _ ?_ (bh (by simp [lk]));clear hR kS nx;simp_all [gJ,bB];done)
   | (refine hR _ _ (kS _ _ rfl ?_);clear hR kS nx;simp_all [gJ,bB];omega)
   | (refine nx _ _ ?_ (bh (by simp [lk]));clear hR kS nx;simp_all [gJ,bB];omega)
 ·have aE:k=18:=by simp at hg;omega
  subst aE
  simp -implicitDefEqProofs only [go_sem,Int.reduceNegSucc]
  refine hX _ _ _ ?_
  repeat' (first | (simp -implicitDefEqProofs only [go_sem,Int.reduceNegSucc,cD,dY,cE,dZ,cP,eA,dc,eM,dy,eY,dI,fq,dJ,fu,dK,fy,dL,fA,dM,fB,cF,ec,cG,ee,cH,eg,cI,ek,cJ,ep,cK,er,cL,eu,cM,ew,cN,ey,cO,ez,cQ,eC,cR,eD,cS,eE,cT,eF,cU,eG,cV,eH,cW,eI,cX,eJ,cY,eK,cZ,eL,de,eN,dg,eO,dh,eP,di,eR,dj,eS,dm,eT,dn,eU,dr,eV,dw,eW,dx,eX,dz,eZ,dA,fe,cB,ff,dB,fh,dD,fj,dF,fk,dG,fm,dH,fo,dS,dN,dO,dP,dQ,dR,dU,dV,dW,dX,cC,cA,ah]) | (with_reducible refine aA ?_) | ((first | refine ai (fun hg=>?_) (fun hg=>?_) | refine ax (fun hg=>?_) (fun hg=>?_) | refine ay (fun hg=>?_) (fun hg=>?_)) <;> try simp -implicitDefEqProofs only [hg,Bool.not_true,Bool.not_false]) | ((with_reducible apply And.intro);focus (first | trivial | omega | decide | (simp -implicitDefEqProofs only [maxLen];omega) | (simp [maxLen,ah,ak,an,av,aj,au,aq] <;> omega))) | fail)
  refine fE (ι:=Nat) (fun k=>[(74,.rv (.int .i64 k)),(1,.ptr 0 0)]) (fun k=>[some (.var (s.cells.map .rv))]) (fun k=>k≤4∧(s.bD.list.drop k).all (fun n=>!decide (n<0))=s.bD.list.all (fun n=>!decide (n<0))) (fun k=>4 - k) 0 (by simp) (bh (by simp [lk])) (fun k hk K' hN hX hR=>?_)
  obtain ⟨fJ,gd⟩:=hk
  simp -implicitDefEqProofs only [go_sem,Int.reduceNegSucc]
  refine ai (fun hg=>?_) (fun hg=>?_)
  ·have aE:k<4:=by simp at hg;omega
   have hx:(s.cells.map SV.rv)[38+k*1]?=some (.rv (.int .i64 (s.bD.list[k]'aE))):=by
    have:k=0∨k=1∨k=2∨k=3:=by omega
    rcases this with rfl | rfl | rfl | rfl <;> rfl
   repeat' (first | (simp -implicitDefEqProofs only [go_sem,Int.reduceNegSucc,hx,ah]) | (with_reducible refine aA ?_) | ((first | refine ai (fun hg=>?_) (fun hg=>?_) | refine ax (fun hg=>?_) (fun hg=>?_) | refine ay (fun hg=>?_) (fun hg=>?_)) <;> try simp -implicitDefEqProofs only [hg,Bool.not_true,Bool.not_false]) | ((with_reducible apply And.intro);focus (first | trivial | omega | decide | (simp -implicitDefEqProofs only [maxLen];omega) | (simp [maxLen,ah,ak,an,av,aj,au,aq] <;> omega))) | fail)
   ·refine hR _ _ (bad _ _ rfl ?_)
    rw [Db,oW (l:=s.bD.list) aE gd (by simp at hg ⊢;omega)]
    simp
   ·rw [cz (by omega)]
    exact hN (k+1) _ _ ⟨by omega,oX (l:=s.bD.list) aE gd (by simp at hg ⊢;omega)⟩ (by omega) (bh (by simp [lk]))
  ·have aE:k=4:=by simp at hg;omega
   subst aE
   have hb:=oV (l:=s.bD.list) (by simp [Q4.list]) gd
   simp -implicitDefEqProofs only [go_sem,Int.reduceNegSucc]
   refine hX _ _ _ ?_
   have fin:∀ e h,lk e 2 = .rv (.bool (tf s))→K .ret ⟨e,h⟩:=fun e h l2=>(hK _ _ (bO (by rw [l2,Db,hk2,hb];rfl))).2
   clear hK hN hX hR bad
   repeat' (first | (simp -implicitDefEqProofs only [go_sem,Int.reduceNegSucc,cD,dY,cE,dZ,cP,eA,dc,eM,dy,eY,dI,fq,dJ,fu,dK,fy,dL,fA,dM,fB,cF,ec,cG,ee,cH,eg,cI,ek,cJ,ep,cK,er,cL,eu,cM,ew,cN,ey,cO,ez,cQ,eC,cR,eD,cS,eE,cT,eF,cU,eG,cV,eH,cW,eI,cX,eJ,cY,eK,cZ,eL,de,eN,dg,eO,dh,eP,di,eR,dj,eS,dm,eT,dn,eU,dr,eV,dw,eW,dx,eX,dz,eZ,dA,fe,cB,ff,dB,fh,dD,fj,dF,fk,dG,fm,dH,fo,dS,dN,dO,dP,dQ,dR,dU,dV,dW,dX,cC,cA,ah]) | (with_reducible refine aA ?_) | ((first | refine ai (fun hg=>?_) (fun hg=>?_) | refine ax (fun hg=>?_) (fun hg=>?_) | refine ay (fun hg=>?_) (fun hg=>?_)) <;> try simp -implicitDefEqProofs only [hg,Bool.not_true,Bool.not_false]) | ((with_reducible apply And.intro);focus (first | trivial | omega | decide | (simp -implicitDefEqProofs only [maxLen];omega) | (simp [maxLen,ah,ak,an,av,aj,au,aq] <;> omega))) | fail)
   all_goals (refine fin _ _ ?_;(simp_all [lk,tf,bB]) <;>(try (intros;omega)))
def nJ (x:Ln):Bool:=!(((!decide (x.kind=0) && decide (x.kind<3)) && decide (x.kind>0)) && (decide (x.n>if x.kind=2 then 1000000 else 1099511627776) || decide (x.n < - if x.kind=2 then 1000000 else 1099511627776)))
theorem RX (x:Ln):pN x=nJ x:=by
 rw [Bool.eq_iff_iff]
 unfold pN nJ qR
 by_cases h2:x.kind=2
 ·simp [h2];omega
 ·by_cases h1:x.kind=1
  ·simp [h1];omega
  ·simp [h1,h2];omega
theorem IZ (s:aC):lq s=((fQ s).all nJ && (s.bD.list.all fun n=>decide (n≤1099511627776)) && (decide (s.z≤1073741824) && decide (s.z≥-1073741824) && decide (s.back≤16777216) && decide (s.line≤16777216))):=by
 unfold lq
 rw [show pN=nJ from funext RX]
 rw [Bool.eq_iff_iff]
 simp [qR];omega
theorem Vg (s:aC):aI Go.Proofs.Tryz.prog 24 [s.sv] [] [] (.rv (.bool (lq s))):=by
 refine bt PI [s.sv] _ (by simp) (by simp [aO,aW,bp,aS,bg,aC.sv,Ln.sv,Nd.sv]) (fun K hK=>?_)
 have bad:∀ e h,lk e 2 = .rv (.bool false)→lq s=false→K .ret ⟨e,h⟩:=fun e h l2 hf=>(hK _ _ (bO (by rw [l2,hf]))).2
 conv in fc _ _ _ _=>reduce
 simp -implicitDefEqProofs only [aC.sv,go_sem,Int.reduceNegSucc]
 have y_2:=ID s;repeat' (first | (simp -implicitDefEqProofs only [go_sem,Int.reduceNegSucc,cD,dY,cE,dZ,cP,eA,dc,eM,dy,eY,dI,fq,dJ,fu,dK,fy,dL,fA,dM,fB,cF,ec,cG,ee,cH,eg,cI,ek,cJ,ep,cK,er,cL,eu,cM,ew,cN,ey,cO,ez,cQ,eC,cR,eD,cS,eE,cT,eF,cU,eG,cV,eH,cW,eI,cX,eJ,cY,eK,cZ,eL,de,eN,dg,eO,dh,eP,di,eR,dj,eS,dm,eT,dn,eU,dr,eV,dw,eW,dx,eX,dz,eZ,dA,fe,cB,ff,dB,fh,dD,fj,dF,fk,dG,fm,dH,fo,dS,dN,dO,dP,dQ,dR,dU,dV,dW,dX,cC,cA,ah,av,aq]) | (with_reducible refine aA ?_) | (with_reducible first | refine af y_2 ?_ | refine ag y_2 ?_) | ((first | refine ai (fun hg=>?_) (fun hg=>?_) | refine ax (fun hg=>?_) (fun hg=>?_) | refine ay (fun hg=>?_) (fun hg=>?_)) <;> try simp -implicitDefEqProofs only [hg,Bool.not_true,Bool.not_false]) | ((with_reducible apply And.intro);focus (first | trivial | omega | decide | (simp -implicitDefEqProofs only [maxLen];omega) | (simp [maxLen,ah,ak,an,av,aj,au,aq] <;> omega))) | fail)
 refine fE (ι:=Nat) (fun k=>[(11,.rv (.int .i64 k)),(10,.rv (.int .i64 18)),(3,.rv (.sl 2 (lW (fQ s)))),(1,.ptr 0 0)]) (fun k=>[some (.var (s.cells.map .rv))]) (fun k=>k≤18∧((fQ s).drop k).all nJ=(fQ s).all nJ) (fun k=>18 - k) 0 (by simp) (bh (by simp [lk])) (fun k hk K' hN hX hR=>?_)
 obtain ⟨fJ,hk2⟩:=hk
 simp -implicitDefEqProofs only [go_sem,Int.reduceNegSucc]
 refine ai (fun hg=>?_) (fun hg=>?_)
 ·have aE:k<18:=by simp at hg;omega
  have hx:=Ck (l:=fQ s) aE
  have kS:∀ e h,lk e 2 = .rv (.bool false)→nJ ((fQ s)[k]'aE)=false→K .ret ⟨e,h⟩:=fun e h l2 hf=>bad e h l2 (by rw [IZ,oW aE hk2 hf];rfl)
  have nx:∀ e h,nJ ((fQ s)[k]'aE)=true→fX 0 ⟨e,h⟩ ⟨[(11,.rv (.int .i64 (k+1:Nat))),(10,.rv (.int .i64 18)),(3,.rv (.sl 2 (lW (fQ s)))),(1,.ptr 0 0)],[some (.var (s.cells.map .rv))]⟩→K' .normal ⟨e,h⟩:=fun e h hf he=>hN (k+1) _ _ ⟨by omega,oX aE hk2 hf⟩ (by omega) he
  have wu:=cz (k:=k) (by omega)
  have pI:(lW (fQ s)).length=18:=rfl
  have w1:=Jv (m:=1000000) (by decide) (by decide)
  have w2:=Jv (m:=1099511627776) (by decide) (by decide)
  clear hN hX hK bad
  generalize Ol:(fQ s)[k]'aE=x at *
  repeat' (first | (simp -implicitDefEqProofs only [go_sem,Int.reduceNegSucc,hx,pI,Ln.cells,wu,w1,w2]) | (with_reducible refine aA ?_) | ((first | refine ai (fun hg=>?_) (fun hg=>?_) | refine ax (fun hg=>?_) (fun hg=>?_) | refine ay (fun hg=>?_) (fun hg=>?_)) <;> try simp -implicitDefEqProofs only [hg,Bool.not_true,Bool.not_false]) | ((with_reducible apply And.intro);focus (first | trivial | omega | decide | (simp -implicitDefEqProofs only [maxLen];omega) | (simp [maxLen,ah,ak,an,av,aj,au,aq] <;> omega))) | fail)
  all_goals first
   | (refine hR _ _ (kS _ _ rfl ?_);clear hR kS nx;simp_all [nJ,bB];done)
   | (refine nx _ _ ?_ (bh (by simp [lk]));clear hR kS nx;simp_all [nJ,bB];done)
   | (refine hR _ _ (kS _ _ rfl ?_);clear hR kS nx;simp_all [nJ,bB];omega)
   | (refine nx _ _ ?_ (bh (by simp [lk]));clear hR kS nx;simp_all [nJ,bB];omega)
 ·have aE:k=18:=by simp at hg;omega
  subst aE
  have hall:=oV (by rw [aq];omega) hk2
  simp -implicitDefEqProofs only [go_sem,Int.reduceNegSucc]
  refine hX _ _ _ ?_
  repeat' (first | (simp -implicitDefEqProofs only [go_sem,Int.reduceNegSucc,cD,dY,cE,dZ,cP,eA,dc,eM,dy,eY,dI,fq,dJ,fu,dK,fy,dL,fA,dM,fB,cF,ec,cG,ee,cH,eg,cI,ek,cJ,ep,cK,er,cL,eu,cM,ew,cN,ey,cO,ez,cQ,eC,cR,eD,cS,eE,cT,eF,cU,eG,cV,eH,cW,eI,cX,eJ,cY,eK,cZ,eL,de,eN,dg,eO,dh,eP,di,eR,dj,eS,dm,eT,dn,eU,dr,eV,dw,eW,dx,eX,dz,eZ,dA,fe,cB,ff,dB,fh,dD,fj,dF,fk,dG,fm,dH,fo,dS,dN,dO,dP,dQ,dR,dU,dV,dW,dX,cC,cA,ah]) | (with_reducible refine aA ?_) | ((first | refine ai (fun hg=>?_) (fun hg=>?_) | refine ax (fun hg=>?_) (fun hg=>?_) | refine ay (fun hg=>?_) (fun hg=>?_)) <;> try simp -implicitDefEqProofs only [hg,Bool.not_true,Bool.not_false]) | ((with_reducible apply And.intro);focus (first | trivial | omega | decide | (simp -implicitDefEqProofs only [maxLen];omega) | (simp [maxLen,ah,ak,an,av,aj,au,aq] <;> omega))) | fail)
  refine fE (ι:=Nat) (fun k=>[(62,.rv (.int .i64 k)),(1,.ptr 0 0)]) (fun k=>[some (.var (s.cells.map .rv))]) (fun k=>k≤4∧(s.bD.list.drop k).all (fun n=>decide (n≤1099511627776))=s.bD.list.all (fun n=>decide (n≤1099511627776))) (fun k=>4 - k) 0 (by simp) (bh (by simp [lk])) (fun k hk K' hN hX hR=>?_)
  obtain ⟨fJ,gd⟩:=hk
  simp -implicitDefEqProofs only [go_sem,Int.reduceNegSucc]
  refine ai (fun hg=>?_) (fun hg=>?_)
  ·have aE:k<4:=by simp at hg;omega
   have hx:(s.cells.map SV.rv)[38+k*1]?=some (.rv (.int .i64 (s.bD.list[k]'aE))):=by
    have:k=0∨k=1∨k=2∨k=3:=by omega
    rcases this with rfl | rfl | rfl | rfl <;> rfl
   repeat' (first | (simp -implicitDefEqProofs only [go_sem,Int.reduceNegSucc,hx,ah]) | (with_reducible refine aA ?_) | ((first | refine ai (fun hg=>?_) (fun hg=>?_) | refine ax (fun hg=>?_) (fun hg=>?_) | refine ay (fun hg=>?_) (fun hg=>?_)) <;> try simp -implicitDefEqProofs only [hg,Bool.not_true,Bool.not_false]) | ((with_reducible apply And.intro);focus (first | trivial | omega | decide | (simp -implicitDefEqProofs only [maxLen];omega) | (simp [maxLen,ah,ak,an,av,aj,au,aq] <;> omega))) | fail)
   ·refine hR _ _ (bad _ _ rfl ?_)
    simp -implicitDefEqProofs only [lq]
    rw [oW (l:=s.bD.list) aE gd (by simp at hg ⊢;omega)]
    simp
   ·rw [cz (by omega)]
    exact hN (k+1) _ _ ⟨by omega,oX (l:=s.bD.list) aE gd (by simp at hg ⊢;omega)⟩ (by omega) (bh (by simp [lk]))
  ·have aE:k=4:=by simp at hg;omega
   subst aE
   have hb:=oV (l:=s.bD.list) (by simp [Q4.list]) gd
   simp -implicitDefEqProofs only [go_sem,Int.reduceNegSucc]
   refine hX _ _ _ ?_
   have fin:∀ e h,lk e 2 = .rv (.bool (decide (s.z≤1073741824) && decide (s.z≥-1073741824) && decide (s.back≤16777216) && decide (s.line≤16777216)))→K .ret ⟨e,h⟩:=fun e h l2=>(hK _ _ (bO (by rw [l2,IZ,hall,hb];rfl))).2
   clear hK hN hX hR bad
   repeat' (first | (simp -implicitDefEqProofs only [go_sem,Int.reduceNegSucc,cD,dY,cE,dZ,cP,eA,dc,eM,dy,eY,dI,fq,dJ,fu,dK,fy,dL,fA,dM,fB,cF,ec,cG,ee,cH,eg,cI,ek,cJ,ep,cK,er,cL,eu,cM,ew,cN,ey,cO,ez,cQ,eC,cR,eD,cS,eE,cT,eF,cU,eG,cV,eH,cW,eI,cX,eJ,cY,eK,cZ,eL,de,eN,dg,eO,dh,eP,di,eR,dj,eS,dm,eT,dn,eU,dr,eV,dw,eW,dx,eX,dz,eZ,dA,fe,cB,ff,dB,fh,dD,fj,dF,fk,dG,fm,dH,fo,dS,dN,dO,dP,dQ,dR,dU,dV,dW,dX,cC,cA,ah]) | (with_reducible refine aA ?_) | ((first | refine ai (fun hg=>?_) (fun hg=>?_) | refine ax (fun hg=>?_) (fun hg=>?_) | refine ay (fun hg=>?_) (fun hg=>?_)) <;> try simp -implicitDefEqProofs only [hg,Bool.not_true,Bool.not_false]) | ((with_reducible apply And.intro);focus (first | trivial | omega | decide | (simp -implicitDefEqProofs only [maxLen];omega) | (simp [maxLen,ah,ak,an,av,aj,au,aq] <;> omega))) | fail)
   all_goals (refine fin _ _ ?_;(simp_all [lk,bB]) <;>(try (intros;omega)))
end Go.aL

namespace Go.aL
open Go
theorem Rv:aU Go.Proofs.Tryz.prog 82 27 (fc Go.Proofs.Tryz.prog 82 27 [(.t 4),(.t 5)]) [(.t 4),(.t 5)]:=bl (by kernel_rfl)
theorem Rt:aU Go.Proofs.Tryz.prog 54 39 (fc Go.Proofs.Tryz.prog 54 39 [(.t 2)]) [(.t 2)]:=bl (by kernel_rfl)
theorem kO (x:Nd):(x.cells.drop 48)[0]?=some (.int .i64 x.parent):=rfl
theorem wC (x:Nd):(x.cells.take 48).map SV.rv=x.s.cells.map SV.rv:=rfl
theorem VC (l:List Nd) (k:Nat) (h0:0<k) (hk:k<l.length) (hw:WF l k) (hb:l.length≤8589934592) :
 aI Go.Proofs.Tryz.prog 82 [.rv (.sl 49 (bw l)),.rv (.int .i64 k)] [] [] (.aP [.rv (.int .i64 ((nr l k).getD 0:Nat)),.rv (.bool (nr l k).isSome)]):=by
 refine bt Rv [.rv (.sl 49 (bw l)),.rv (.int .i64 k)] _ (by simp) (by simp [aO,aW,bp,aS,bg,aC.sv,Ln.sv,Nd.sv]) (fun K hK=>?_)
 have wd:=uO h0 (by omega)
 have Oj:=iS hk
 have hlen:=an l
 have hpk:=lZ hk
 conv in fc _ _ _ _=>reduce
 simp -implicitDefEqProofs only [wd,go_sem,Int.reduceNegSucc]
 refine fE (ι:=Nat) (fun i=>[(7,.rv (.int .i64 (kK (bz l (k - 1)) i))),(6,.rv (.int .i64 i)),(0,.rv (.sl 49 (bw l))),(1,.rv (.int .i64 k))]) (fun _=>[]) (fun i=>i≤(bz l (k - 1)).length∧∀ j,(h:j<(bz l (k - 1)).length)→j<i→(((bz l (k - 1))[j]'h:Nat):Int)≠bE l k) (fun i=>(bz l (k - 1)).length - i) 0 (by simp) (by rw [uU];exact bh (by simp [lk])) (fun i hi K' hN hX hR=>?_)
 obtain ⟨hi1,hi2⟩:=hi
 have fS:=uw (l:=l) (k - 1)
 simp -implicitDefEqProofs only [go_sem,Int.reduceNegSucc]
 refine ai (fun hg=>?_) (fun hg=>?_)
 ·have fH:i<(bz l (k - 1)).length:=qD.1 (by simpa using hg)
  have iX:=uT fH
  have hlt:(bz l (k - 1))[i]<k:=zA (by omega) fH
  have hx:=iS (l:=l) (i:=(bz l (k - 1))[i]) (by omega)
  have hpar:=lZ (l:=l) (n:=(bz l (k - 1))[i]) (by omega)
  have ox:=zu hw (k - 1) (by omega) i fH
  repeat' (first | (simp -implicitDefEqProofs only [go_sem,Int.reduceNegSucc,Oj,hlen,ak,kO,hpk,iX,hx,hpar,ox]) | (with_reducible refine aA ?_) | ((first | refine ai (fun hg=>?_) (fun hg=>?_) | refine ax (fun hg=>?_) (fun hg=>?_) | refine ay (fun hg=>?_) (fun hg=>?_)) <;> try simp -implicitDefEqProofs only [hg,Bool.not_true,Bool.not_false]) | ((with_reducible apply And.intro);focus (first | trivial | omega | decide | (simp -implicitDefEqProofs only [maxLen];omega) | (simp [maxLen,ah,ak,an,av,aj,au,aq] <;> omega))) | fail)
  ·refine hR _ _ (hK _ _ ?_).2
   rw [VT fH (by simpa using hg) hi2]
   exact gL rfl rfl
  ·rw [cz (by omega)]
   refine hN (i+1) _ _ ⟨by omega,fun j hj hji=>?_⟩ (by omega) (bh (by simp [lk]))
   rcases Nat.lt_or_ge j i with h | h
   ·exact hi2 j hj h
   ·obtain rfl:j=i:=by omega
    simpa using hg
 ·simp -implicitDefEqProofs only [go_sem,Int.reduceNegSucc]
  refine hX _ _ _ ?_
  repeat' (first | (simp -implicitDefEqProofs only [go_sem,Int.reduceNegSucc]) | (with_reducible refine aA ?_) | ((first | refine ai (fun hg=>?_) (fun hg=>?_) | refine ax (fun hg=>?_) (fun hg=>?_) | refine ay (fun hg=>?_) (fun hg=>?_)) <;> try simp -implicitDefEqProofs only [hg,Bool.not_true,Bool.not_false]) | ((with_reducible apply And.intro);focus (first | trivial | omega | decide | (simp -implicitDefEqProofs only [maxLen];omega) | (simp [maxLen,ah,ak,an,av,aj,au,aq] <;> omega))) | fail)
  refine (hK _ _ ?_).2
  have fH:¬ i<(bz l (k - 1)).length:=fun h=>by have:=qD.2 h;simp at hg;omega
  rw [VU fun j hj=>hi2 j hj (by omega)]
  exact gL rfl rfl
theorem IT (l:List Nd) (hb:l.length≤8589934592):aI Go.Proofs.Tryz.prog 54 [.rv (.sl 49 (bw l))] [] [] (.rv (.bool (fW l))):=by
 refine bt Rt [.rv (.sl 49 (bw l))] _ (by simp) (by simp [aO,aW,bp,aS,bg,aC.sv,Ln.sv,Nd.sv]) (fun K hK=>?_)
 have bad:∀ e h,lk e 2 = .rv (.bool false)→fW l=false→K .ret ⟨e,h⟩:=fun e h l2 hf=>(hK _ _ (bO (by rw [l2,hf]))).2
 have hlen:=an l
 conv in fc _ _ _ _=>reduce
 simp -implicitDefEqProofs only [hlen,go_sem,Int.reduceNegSucc]
 by_cases pH:l.length=0
 ·have e0:(((l.length:Nat):Int) == 0)=true:=by simp [pH]
  repeat' (first | (simp -implicitDefEqProofs only [go_sem,Int.reduceNegSucc,e0,hlen]) | (with_reducible refine aA ?_) | ((first | refine ai (fun hg=>?_) (fun hg=>?_) | refine ax (fun hg=>?_) (fun hg=>?_) | refine ay (fun hg=>?_) (fun hg=>?_)) <;> try simp -implicitDefEqProofs only [hg,Bool.not_true,Bool.not_false]) | ((with_reducible apply And.intro);focus (first | trivial | omega | decide | (simp -implicitDefEqProofs only [maxLen];omega) | (simp [maxLen,ah,ak,an,av,aj,au,aq] <;> omega))) | fail)
  exact bad _ _ rfl (by simp [fW,lp,pH])
 ·have e0:(((l.length:Nat):Int) == 0)=false:=by simp [pH]
  have hx0:=iS (l:=l) (i:=0) (by omega)
  have kC:=lZ (l:=l) (n:=0) (by omega)
  repeat' (first | (simp -implicitDefEqProofs only [go_sem,Int.reduceNegSucc,e0,hlen,hx0,ak,kO,kC]) | (with_reducible refine aA ?_) | ((first | refine ai (fun hg=>?_) (fun hg=>?_) | refine ax (fun hg=>?_) (fun hg=>?_) | refine ay (fun hg=>?_) (fun hg=>?_)) <;> try simp -implicitDefEqProofs only [hg,Bool.not_true,Bool.not_false]) | ((with_reducible apply And.intro);focus (first | trivial | omega | decide | (simp -implicitDefEqProofs only [maxLen];omega) | (simp [maxLen,ah,ak,an,av,aj,au,aq] <;> omega))) | fail)
  ·exact bad _ _ rfl (by simp [fW,lp];intro _ h;simp at hg;exact absurd h hg)
  ·have vN:bE l 0 = -1:=by simpa using hg
   refine fE (ι:=Nat) (fun k=>[(18,.rv (.int .i64 k)),(17,.rv (.int .i64 l.length)),(0,.rv (.sl 49 (bw l)))]) (fun _=>[]) (fun k=>k≤l.length∧(∀ j,j<k→jK l j=true)∧((l.drop k).all fun x=>jq x.s)=l.all fun x=>jq x.s) (fun k=>l.length - k) 0 (by simp) (bh (by simp [lk])) (fun k hk K' hN hX hR=>?_)
   obtain ⟨fJ,hk2,gd⟩:=hk
   have hw:=Jt vN hk2
   simp -implicitDefEqProofs only [go_sem,Int.reduceNegSucc]
   refine ai (fun hg=>?_) (fun hg=>?_)
   ·have aE:k<l.length:=by simp at hg;omega
    have hx:=iS aE
    have h48:(l[k]'aE).cells.drop 0=(l[k]'aE).cells:=rfl
    have uW:jK l k=false→fW l=false:=fun h=>by
     simp -implicitDefEqProofs only [fW,Bool.and_eq_false_iff]
     left
     rw [Bool.eq_false_iff]
     intro ht
     simp -implicitDefEqProofs only [lp,Bool.and_eq_true,List.all_eq_true,List.mem_range] at ht
     have:=ht.2 k aE
     rw [h] at this;cases this
    have DB:jq (l[k]'aE).s=false→fW l=false:=fun h=>by
     have:(l.all fun x=>jq x.s)=false:=oW aE gd h
     simp -implicitDefEqProofs only [fW,this,Bool.and_false]
    have nx:∀ e h,jK l k=true→jq (l[k]'aE).s=true→fX 0 ⟨e,h⟩ ⟨[(18,.rv (.int .i64 (k+1:Nat))),(17,.rv (.int .i64 l.length)),(0,.rv (.sl 49 (bw l)))],[]⟩→K' .normal ⟨e,h⟩:=fun e h h1 h2 he=>hN (k+1) _ _ ⟨by omega,fun j hj=>by
     rcases Nat.lt_or_ge j k with h | h
     ·exact hk2 j h
     ·obtain rfl:j=k:=by omega
      exact h1,oX aE gd h2⟩ (by omega) he
    have wu:=cz (k:=k) (by omega)
    clear hN hX hK
    by_cases gA:0<k
    ·have hn:jK l k=(nr l k).isSome:=by simp [jK];intro h;omega
     have hgt:decide ((k:Int)>0)=true:=decide_eq_true (by omega)
     have aT:=VC l k gA aE hw hb;have y_2:=IQ (l[k]'aE).s;repeat' (first | (simp -implicitDefEqProofs only [go_sem,Int.reduceNegSucc,hgt,hlen,hx,ak,kO,wC,wu]) | (with_reducible refine aA ?_) | (with_reducible first | refine af aT ?_ | refine ag aT ?_) | (with_reducible first | refine af y_2 ?_ | refine ag y_2 ?_) | ((first | refine ai (fun hg=>?_) (fun hg=>?_) | refine ax (fun hg=>?_) (fun hg=>?_) | refine ay (fun hg=>?_) (fun hg=>?_)) <;> try simp -implicitDefEqProofs only [hg,Bool.not_true,Bool.not_false]) | ((with_reducible apply And.intro);focus (first | trivial | omega | decide | (simp -implicitDefEqProofs only [maxLen];omega) | (simp [maxLen,ah,ak,an,av,aj,au,aq] <;> omega))) | fail)
     all_goals first
      | (refine hR _ _ (bad _ _ rfl (uW ?_));rw [hn];simpa using hg;done)
      | (refine hR _ _ (bad _ _ rfl (DB ?_));simpa using hg;done)
      | (refine nx _ _ ?_ ?_ (bh (by simp [lk])) <;> simp_all;done)
    ·obtain rfl:k=0:=by omega
     have hn:jK l 0=true:=by simp [jK]
     have hgt:decide (((0:Nat):Int)>0)=false:=rfl
     have bA:=IQ (l[0]'aE).s;repeat' (first | (simp -implicitDefEqProofs only [go_sem,Int.reduceNegSucc,hgt,hlen,hx,ak,kO,wC,wu]) | (with_reducible refine aA ?_) | (with_reducible first | refine af bA ?_ | refine ag bA ?_) | ((first | refine ai (fun hg=>?_) (fun hg=>?_) | refine ax (fun hg=>?_) (fun hg=>?_) | refine ay (fun hg=>?_) (fun hg=>?_)) <;> try simp -implicitDefEqProofs only [hg,Bool.not_true,Bool.not_false]) | ((with_reducible apply And.intro);focus (first | trivial | omega | decide | (simp -implicitDefEqProofs only [maxLen];omega) | (simp [maxLen,ah,ak,an,av,aj,au,aq] <;> omega))) | fail)
     all_goals first
      | (refine hR _ _ (bad _ _ rfl (DB ?_));simpa using hg;done)
      | (refine nx _ _ hn ?_ (bh (by simp [lk]));simpa using hg)
   ·have aE:k=l.length:=by simp at hg;omega
    subst aE
    have hall:=oV (Nat.le_refl _) gd
    have hs:lp l=true:=by
     simp -implicitDefEqProofs only [lp,Bool.and_eq_true,decide_eq_true_eq,List.all_eq_true,List.mem_range]
     exact ⟨⟨by omega,vN⟩,hk2⟩
    simp -implicitDefEqProofs only [go_sem,Int.reduceNegSucc]
    refine hX _ _ _ ?_
    repeat' (first | (simp -implicitDefEqProofs only [go_sem,Int.reduceNegSucc]) | (with_reducible refine aA ?_) | ((first | refine ai (fun hg=>?_) (fun hg=>?_) | refine ax (fun hg=>?_) (fun hg=>?_) | refine ay (fun hg=>?_) (fun hg=>?_)) <;> try simp -implicitDefEqProofs only [hg,Bool.not_true,Bool.not_false]) | ((with_reducible apply And.intro);focus (first | trivial | omega | decide | (simp -implicitDefEqProofs only [maxLen];omega) | (simp [maxLen,ah,ak,an,av,aj,au,aq] <;> omega))) | fail)
    exact (hK _ _ (bO (by rw [fW,hs,hall];rfl))).2
end Go.aL

namespace Go.aL
open Go
theorem Re:aU Go.Proofs.Tryz.prog 84 25 (fc Go.Proofs.Tryz.prog 84 25 [(.t 2)]) [(.t 2)]:=bl (by kernel_rfl)
theorem Ru:aU Go.Proofs.Tryz.prog 55 33 (fc Go.Proofs.Tryz.prog 55 33 [(.t 2)]) [(.t 2)]:=bl (by kernel_rfl)
theorem Rs:aU Go.Proofs.Tryz.prog 57 7 (fc Go.Proofs.Tryz.prog 57 7 [(.t 2)]) [(.t 2)]:=bl (by kernel_rfl)
theorem Rb:aU Go.Proofs.Tryz.prog 85 19 (fc Go.Proofs.Tryz.prog 85 19 [(.t 4)]) [(.t 4)]:=bl (by kernel_rfl)
theorem QY:aU Go.Proofs.Tryz.prog 56 9 (fc Go.Proofs.Tryz.prog 56 9 [(.t 4)]) [(.t 4)]:=bl (by kernel_rfl)
theorem Rr:aU Go.Proofs.Tryz.prog 26 18 (fc Go.Proofs.Tryz.prog 26 18 [(.t 2)]) [(.t 2)]:=bl (by kernel_rfl)
def oI (ys:List Int) (m:Int) (k:Nat):Int:=(ys.drop k).foldl (fun a b=>if b>a then b else a) m
theorem Sp {ys:List Int} {m:Int} {k:Nat} (h:k<ys.length):oI ys m k=oI ys (if ys[k]'h>m then ys[k]'h else m) (k+1):=by
 unfold oI;rw [List.drop_eq_getElem_cons h];rfl
theorem Sn {ys:List Int} {m:Int} {k:Nat} (h:ys.length≤k):oI ys m k=m:=by
 unfold oI;rw [List.drop_of_length_le h];rfl
theorem Un (ys:List Int) (h0:0<ys.length) (hb:ys.length≤8589934592):aI Go.Proofs.Tryz.prog 84 [.rv (.sl 1 (aM ys))] [] [] (.rv (.int .i64 (oI ys (ys[0]'h0) 1))):=by
 refine bt Re [.rv (.sl 1 (aM ys))] _ (by simp) (by simp [aO,aW,bp,aS,bg,aC.sv,Ln.sv,Nd.sv]) (fun K hK=>?_)
 have hlen:=aj ys
 have e0:decide (((ys.length:Nat):Int)<1)=false:=decide_eq_false (by omega)
 have hx0:=oC h0
 conv in fc _ _ _ _=>reduce
 simp -implicitDefEqProofs only [go_sem,Int.reduceNegSucc]
 repeat' (first | (simp -implicitDefEqProofs only [go_sem,Int.reduceNegSucc,hlen,e0,hx0]) | (with_reducible refine aA ?_) | ((first | refine ai (fun hg=>?_) (fun hg=>?_) | refine ax (fun hg=>?_) (fun hg=>?_) | refine ay (fun hg=>?_) (fun hg=>?_)) <;> try simp -implicitDefEqProofs only [hg,Bool.not_true,Bool.not_false]) | ((with_reducible apply And.intro);focus (first | trivial | omega | decide | (simp -implicitDefEqProofs only [maxLen];omega) | (simp [maxLen,ah,ak,an,av,aj,au,aq] <;> omega))) | fail)
 refine fE (ι:=Nat×Int) (fun i=>[(4,.rv (.int .i64 i.1)),(3,.rv (.int .i64 i.2)),(0,.rv (.sl 1 (aM ys)))]) (fun _=>[]) (fun i=>i.1≤ys.length∧oI ys i.2 i.1=oI ys (ys[0]'h0) 1) (fun i=>ys.length - i.1) (1,ys[0]'h0) ⟨by dsimp only;omega,rfl⟩ (bh (by simp [lk])) (fun i hi K' hN hX hR=>?_)
 obtain ⟨k,m⟩:=i
 obtain ⟨fJ,hk2⟩:=hi
 dsimp only at fJ hk2 ⊢
 simp -implicitDefEqProofs only [hlen,go_sem,Int.reduceNegSucc]
 refine ai (fun hg=>?_) (fun hg=>?_)
 ·have aE:k<ys.length:=by simp at hg;omega
  have hx:=oC aE
  repeat' (first | (simp -implicitDefEqProofs only [go_sem,Int.reduceNegSucc,hlen,hx]) | (with_reducible refine aA ?_) | ((first | refine ai (fun hg=>?_) (fun hg=>?_) | refine ax (fun hg=>?_) (fun hg=>?_) | refine ay (fun hg=>?_) (fun hg=>?_)) <;> try simp -implicitDefEqProofs only [hg,Bool.not_true,Bool.not_false]) | ((with_reducible apply And.intro);focus (first | trivial | omega | decide | (simp -implicitDefEqProofs only [maxLen];omega) | (simp [maxLen,ah,ak,an,av,aj,au,aq] <;> omega))) | fail)
  rw [cz (by omega)]
  exact hN (k+1,if ys[k]'aE>m then ys[k]'aE else m) _ _ ⟨by dsimp only;omega,by rw [← hk2];exact (Sp aE).symm⟩ (by dsimp only;omega) (bh (by simp [lk]))
 ·simp -implicitDefEqProofs only [go_sem,Int.reduceNegSucc]
  refine hX _ _ _ ?_
  repeat' (first | (simp -implicitDefEqProofs only [go_sem,Int.reduceNegSucc]) | (with_reducible refine aA ?_) | ((first | refine ai (fun hg=>?_) (fun hg=>?_) | refine ax (fun hg=>?_) (fun hg=>?_) | refine ay (fun hg=>?_) (fun hg=>?_)) <;> try simp -implicitDefEqProofs only [hg,Bool.not_true,Bool.not_false]) | ((with_reducible apply And.intro);focus (first | trivial | omega | decide | (simp -implicitDefEqProofs only [maxLen];omega) | (simp [maxLen,ah,ak,an,av,aj,au,aq] <;> omega))) | fail)
  refine (hK _ _ (bO ?_)).2
  rw [← hk2,Sn (by simp at hg;omega)];rfl
def cj (l:List Nd) (k:Nat):List Int:=(List.range l.length).map fun j=>if j<k then (depth l j:Int) else 0
theorem tK (l:List Nd) (k:Nat):(cj l k).length=l.length:=by simp [cj]
theorem yc {l:List Nd} {k:Nat} (hk:k<l.length):(cj l k).set k (depth l k)=cj l (k+1):=by
 refine List.ext_getElem (by simp [cj]) (fun i h1 h2=>?_)
 simp -implicitDefEqProofs only [List.getElem_set,cj,List.getElem_map,List.getElem_range]
 by_cases h:k=i
 ·subst h;simp
 ·rw [if_neg h]
  by_cases hi:i<k
  ·rw [if_pos hi,if_pos (by omega)]
  ·rw [if_neg hi,if_neg (by omega)]
theorem AF (l:List Nd):cj l 0=List.replicate l.length 0:=by
 refine List.ext_getElem (by simp [cj]) (fun i h1 h2=>?_)
 simp [cj]
theorem AD {l:List Nd} {k j:Nat} (hj:j<k) (hl:j<l.length):((cj l k).set k 1).getD j 0=depth l j:=by
 rw [List.getD_eq_getElem?_getD,List.getElem?_set_ne (by omega)]
 simp [cj,hl,hj]
theorem AE {l:List Nd} {k:Nat} (hk:k<l.length):((cj l k).set k 1).set k (depth l k)=cj l (k+1):=by
 rw [List.set_set,yc hk]
def vg (l:List Nd):Int:=oI (cj l l.length) ((cj l l.length).getD 0 0) 1
theorem VB (l:List Nd) (h0:0<l.length) (hw:WF l l.length) (hb:l.length≤8589934592):aI Go.Proofs.Tryz.prog 55 [.rv (.sl 49 (bw l))] [] [] (.rv (.int .i64 (vg l))):=by
 refine bt Ru [.rv (.sl 49 (bw l))] _ (by simp) (by simp [aO,aW,bp,aS,bg,aC.sv,Ln.sv,Nd.sv]) (fun K hK=>?_)
 have hlen:=an l
 conv in fc _ _ _ _=>reduce
 simp -implicitDefEqProofs only [go_sem,Int.reduceNegSucc]
 repeat' (first | (simp -implicitDefEqProofs only [go_sem,Int.reduceNegSucc,hlen,zH]) | (with_reducible refine aA ?_) | ((first | refine ai (fun hg=>?_) (fun hg=>?_) | refine ax (fun hg=>?_) (fun hg=>?_) | refine ay (fun hg=>?_) (fun hg=>?_)) <;> try simp -implicitDefEqProofs only [hg,Bool.not_true,Bool.not_false]) | ((with_reducible apply And.intro);focus (first | trivial | omega | decide | (simp -implicitDefEqProofs only [maxLen];omega) | (simp [maxLen,ah,ak,an,av,aj,au,aq] <;> omega))) | fail)
 refine fE (ι:=Nat) (fun k=>[(11,.rv (.int .i64 k)),(10,.rv (.int .i64 l.length)),(9,.rv (.sl 49 (bw l))),(3,.row 0 0 l.length)]) (fun k=>[some (.row 1 0 (aN (aM (cj l k))))]) (fun k=>k≤l.length) (fun k=>l.length - k) 0 (by simp) (by rw [AF];exact bh (by simp [lk])) (fun k hk K' hN hX hR=>?_)
 simp -implicitDefEqProofs only [go_sem,Int.reduceNegSucc]
 refine ai (fun hg=>?_) (fun hg=>?_)
 ·have aE:k<l.length:=by simp at hg;omega
  have hx:=iS aE
  have hdl:=tK l k
  have pg:=kZ (l:=cj l k) (i:=k) (by omega)
  have lG:=aj (cj l k)
  have nF:((cj l k).set k 1).length=l.length:=by simp [hdl]
  have hpk:=lZ aE
  have wu:=cz (k:=k) (by omega)
  have nx:∀ e,fX 0 ⟨e,[some (.row 1 0 (aN (aM (cj l (k+1))))),some (.var ((l[k]'aE).cells.map .rv))]⟩ ⟨[(11,.rv (.int .i64 (k+1:Nat))),(10,.rv (.int .i64 l.length)),(9,.rv (.sl 49 (bw l))),(3,.row 0 0 l.length)],[some (.row 1 0 (aN (aM (cj l (k+1)))))]⟩→K' .normal ⟨e,_⟩:=fun e he=>hN (k+1) _ _ (by omega) (by omega) he
  have hds:=yc aE
  have sB:=AE aE
  by_cases gA:0<k
  ·have hgt:decide ((k:Int)>0)=true:=decide_eq_true (by omega)
   obtain ⟨p1,p2⟩:=hw.2 k gA aE
   obtain ⟨p,hp⟩:∃ p:Nat,bE l k=p:=⟨(bE l k).toNat,by omega⟩
   have pn:=kZ (l:=(cj l k).set k 1) (i:=p) (by omega)
   have sA:=kZ (l:=(cj l k).set k 1) (i:=k) (by omega)
   rw [AD (by omega) (by omega)] at pn
   have sC:=aj ((cj l k).set k 1)
   have qO:=AG hw gA aE
   rw [hp,Int.toNat_natCast] at qO
   have wd:=cz (k:=depth l p) (by have:=uw (l:=l) p;unfold depth;omega)
   rw [← qO] at wd
   repeat' (first | (simp -implicitDefEqProofs only [go_sem,Int.reduceNegSucc,hgt,hlen,hx,ak,um,qp,wu,pg,hdl,lG,ni,hpk,hp,pn,sA,nF,sC,wd,sB]) | (with_reducible refine aA ?_) | ((first | refine ai (fun hg=>?_) (fun hg=>?_) | refine ax (fun hg=>?_) (fun hg=>?_) | refine ay (fun hg=>?_) (fun hg=>?_)) <;> try simp -implicitDefEqProofs only [hg,Bool.not_true,Bool.not_false]) | ((with_reducible apply And.intro);focus (first | trivial | omega | decide | (simp -implicitDefEqProofs only [maxLen];omega) | (simp [maxLen,ah,ak,an,av,aj,au,aq] <;> omega))) | fail)
   exact nx _ (tN _ (by simp) (by simp [qo,aB,fY,hD]) (by simp [lk,aG,gw,gD]))
  ·obtain rfl:k=0:=by omega
   have hgt:decide (((0:Nat):Int)>0)=false:=rfl
   rw [AH] at hds
   repeat' (first | (simp -implicitDefEqProofs only [go_sem,Int.reduceNegSucc,hgt,hlen,hx,ak,um,qp,wu,pg,hdl,lG,ni]) | (with_reducible refine aA ?_) | ((first | refine ai (fun hg=>?_) (fun hg=>?_) | refine ax (fun hg=>?_) (fun hg=>?_) | refine ay (fun hg=>?_) (fun hg=>?_)) <;> try simp -implicitDefEqProofs only [hg,Bool.not_true,Bool.not_false]) | ((with_reducible apply And.intro);focus (first | trivial | omega | decide | (simp -implicitDefEqProofs only [maxLen];omega) | (simp [maxLen,ah,ak,an,av,aj,au,aq] <;> omega))) | fail)
   rw [show (1:Int)=((1:Nat):Int) from rfl,hds]
   exact nx _ (tN _ (by simp) (by simp [qo,aB,fY,hD]) (by simp [lk,aG,gw,gD]))
 ·have aE:k=l.length:=by simp at hg;omega
  subst aE
  have hpos:0<(cj l l.length).length:=by rw [tK];exact h0
  have hm:=Un (cj l l.length) hpos (by rw [tK];exact hb)
  have hml:=GB (id:=0) (v:=0) (n:=l.length) (bs:=[]) hm (.int _ _) (by simp [aM,cj]) (kN _)
  simp -implicitDefEqProofs only [go_sem,Int.reduceNegSucc]
  refine hX _ _ _ ?_
  have aT:=hml;repeat' (first | (simp -implicitDefEqProofs only [go_sem,Int.reduceNegSucc]) | (with_reducible refine aA ?_) | (refine bS aT ?_ ?_ ?_;(focus (simp [aY,aB] <;> fail));(focus (simp [bq,aX] <;> fail))) | (refine ck aT ?_ ?_ ?_;(focus (simp [aY,aB] <;> fail));(focus (simp [bq,aX] <;> fail))) | ((first | refine ai (fun hg=>?_) (fun hg=>?_) | refine ax (fun hg=>?_) (fun hg=>?_) | refine ay (fun hg=>?_) (fun hg=>?_)) <;> try simp -implicitDefEqProofs only [hg,Bool.not_true,Bool.not_false]) | ((with_reducible apply And.intro);focus (first | trivial | omega | decide | (simp -implicitDefEqProofs only [maxLen];omega) | (simp [maxLen,ah,ak,an,av,aj,au,aq] <;> omega))) | fail)
  refine (hK _ _ (bO ?_)).2
  rw [vg,List.getD_eq_getElem?_getD,List.getElem?_eq_getElem hpos];rfl
theorem So {ys:List Int} {m b:Int} {k:Nat}:oI ys m k≤b↔m≤b∧∀ x∈ys.drop k,x≤b:=by
 unfold oI
 induction ys.drop k generalizing m with
 | nil=>simp
 | cons a r ih=>
   rw [List.foldl_cons,ih]
   by_cases h:a>m
   ·rw [if_pos h];simp;intro _;omega
   ·rw [if_neg h];simp;intro _ _;omega
theorem LB (l:List Nd) (h0:0<l.length):decide (vg l>256)=(List.range l.length).any (fun k=>decide (depth l k>256)):=by
 have hg:∀ k,k<l.length→(cj l l.length)[k]?=some (depth l k:Int):=fun k hk=>by simp [cj,hk]
 have:vg l≤256↔∀ k,k<l.length→depth l k≤256:=by
  rw [vg,So]
  constructor
  ·rintro ⟨h1,h2⟩ k hk
   rcases Nat.eq_zero_or_pos k with rfl | gA
   ·rw [List.getD_eq_getElem?_getD,hg 0 hk] at h1;simp at h1;omega
   ·have:=h2 (depth l k) (List.mem_iff_getElem?.2 ⟨k - 1,by rw [List.getElem?_drop,show 1+(k - 1)=k by omega,hg k hk]⟩)
    omega
  ·intro h
   refine ⟨by rw [List.getD_eq_getElem?_getD,hg 0 h0];have:=h 0 h0;simp;omega,fun x hx=>?_⟩
   obtain ⟨i,hi⟩:=List.mem_iff_getElem?.1 hx
   rw [List.getElem?_drop] at hi
   have hlt:1+i<l.length:=by have:=(List.getElem?_eq_some_iff.1 hi).1;rwa [tK] at this
   rw [hg _ hlt] at hi
   have:=h _ hlt
   simp at hi;omega
 rw [Bool.eq_iff_iff]
 simp -implicitDefEqProofs only [decide_eq_true_eq,List.any_eq_true,List.mem_range]
 constructor
 ·intro h
  apply Classical.byContradiction
  intro hn
  have:=this.2 (fun k hk=>by apply Classical.byContradiction;intro h2;exact hn ⟨k,hk,by omega⟩)
  omega
 ·rintro ⟨k,hk,h⟩
  apply Classical.byContradiction
  intro hn
  have:=this.1 (by omega) k hk
  omega
theorem VA (x:Nd):aI Go.Proofs.Tryz.prog 57 [x.sv] [] [] (.rv (.bool (!lq x.s))):=by
 refine bt Rs [x.sv] _ (by simp) (by simp [aO,aW,bp,aS,bg,aC.sv,Ln.sv,Nd.sv]) (fun K hK=>?_)
 conv in fc _ _ _ _=>reduce
 simp -implicitDefEqProofs only [go_sem,Int.reduceNegSucc]
 have h48:(x.cells.map SV.rv).take 48=x.s.cells.map SV.rv:=rfl
 have y_2:=Vx x.s;repeat' (first | (simp -implicitDefEqProofs only [go_sem,Int.reduceNegSucc,ak,h48]) | (with_reducible refine aA ?_) | (with_reducible first | refine af y_2 ?_ | refine ag y_2 ?_) | ((first | refine ai (fun hg=>?_) (fun hg=>?_) | refine ax (fun hg=>?_) (fun hg=>?_) | refine ay (fun hg=>?_) (fun hg=>?_)) <;> try simp -implicitDefEqProofs only [hg,Bool.not_true,Bool.not_false]) | ((with_reducible apply And.intro);focus (first | trivial | omega | decide | (simp -implicitDefEqProofs only [maxLen];omega) | (simp [maxLen,ah,ak,an,av,aj,au,aq] <;> omega))) | fail)
 exact (hK _ _ (bO rfl)).2
theorem Uf (l:List Nd) (f:Nat) (p:Nd→Bool) (hf:∀ x:Nd,aI Go.Proofs.Tryz.prog f [x.sv] [] [] (.rv (.bool (p x)))) (hb:l.length≤8589934592) :
 aI Go.Proofs.Tryz.prog 85 [.rv (.sl 49 (bw l)),.fn f []] [] [] (.rv (.int .i64 (match l.findIdx? p with | some i=>((i:Nat):Int) | none=>-1))):=by
 refine bt Rb [.rv (.sl 49 (bw l)),.fn f []] _ (by simp) (by simp [aO,aW,bp,aS,bg,aC.sv,Ln.sv,Nd.sv]) (fun K hK=>?_)
 have hlen:=an l
 conv in fc _ _ _ _=>reduce
 simp -implicitDefEqProofs only [hlen,go_sem,Int.reduceNegSucc]
 refine fE (ι:=Nat) (fun k=>[(8,.rv (.int .i64 k)),(7,.rv (.int .i64 l.length)),(0,.rv (.sl 49 (bw l))),(1,.fn f [])]) (fun _=>[]) (fun k=>k≤l.length∧∀ j,(h:j<l.length)→j<k→p (l[j]'h)=false) (fun k=>l.length - k) 0 (by simp) (bh (by simp [lk])) (fun k hk K' hN hX hR=>?_)
 obtain ⟨fJ,hk2⟩:=hk
 simp -implicitDefEqProofs only [go_sem,Int.reduceNegSucc]
 refine ai (fun hg=>?_) (fun hg=>?_)
 ·have aE:k<l.length:=by simp at hg;omega
  have hx:=iS aE
  have bA:=hf (l[k]'aE);repeat' (first | (simp -implicitDefEqProofs only [go_sem,Int.reduceNegSucc,hlen,hx,ak,qp]) | (with_reducible refine aA ?_) | (with_reducible first | refine af bA ?_ | refine ag bA ?_) | ((first | refine ai (fun hg=>?_) (fun hg=>?_) | refine ax (fun hg=>?_) (fun hg=>?_) | refine ay (fun hg=>?_) (fun hg=>?_)) <;> try simp -implicitDefEqProofs only [hg,Bool.not_true,Bool.not_false]) | ((with_reducible apply And.intro);focus (first | trivial | omega | decide | (simp -implicitDefEqProofs only [maxLen];omega) | (simp [maxLen,ah,ak,an,av,aj,au,aq] <;> omega))) | fail)
  ·refine hR _ _ (hK _ _ (bO ?_)).2
   have:l.findIdx? p=some k:=by
    rw [List.findIdx?_eq_some_iff_getElem]
    exact ⟨aE,by simpa using hg,fun j hj=>by rw [hk2 j (by omega) hj];simp⟩
   rw [this];rfl
  ·rw [cz (by omega)]
   refine hN (k+1) _ _ ⟨by omega,fun j hj hji=>?_⟩ (by omega) (bh (by simp [lk]))
   rcases Nat.lt_or_ge j k with h | h
   ·exact hk2 j hj h
   ·obtain rfl:j=k:=by omega
    simpa using hg
 ·have aE:k=l.length:=by simp at hg;omega
  subst aE
  simp -implicitDefEqProofs only [go_sem,Int.reduceNegSucc]
  refine hX _ _ _ ?_
  repeat' (first | (simp -implicitDefEqProofs only [go_sem,Int.reduceNegSucc]) | (with_reducible refine aA ?_) | ((first | refine ai (fun hg=>?_) (fun hg=>?_) | refine ax (fun hg=>?_) (fun hg=>?_) | refine ay (fun hg=>?_) (fun hg=>?_)) <;> try simp -implicitDefEqProofs only [hg,Bool.not_true,Bool.not_false]) | ((with_reducible apply And.intro);focus (first | trivial | omega | decide | (simp -implicitDefEqProofs only [maxLen];omega) | (simp [maxLen,ah,ak,an,av,aj,au,aq] <;> omega))) | fail)
  refine (hK _ _ (bO ?_)).2
  have:l.findIdx? p=none:=by
   rw [List.findIdx?_eq_none_iff]
   intro x hx
   obtain ⟨j,hj,rfl⟩:=List.getElem_of_mem hx
   exact hk2 j hj hj
  rw [this];rfl
theorem TZ (l:List Nd) (f:Nat) (p:Nd→Bool) (hf:∀ x:Nd,aI Go.Proofs.Tryz.prog f [x.sv] [] [] (.rv (.bool (p x)))) (hb:l.length≤8589934592) :
 aI Go.Proofs.Tryz.prog 56 [.rv (.sl 49 (bw l)),.fn f []] [] [] (.rv (.bool (l.any p))):=by
 refine bt QY [.rv (.sl 49 (bw l)),.fn f []] _ (by simp) (by simp [aO,aW,bp,aS,bg,aC.sv,Ln.sv,Nd.sv]) (fun K hK=>?_)
 conv in fc _ _ _ _=>reduce
 simp -implicitDefEqProofs only [go_sem,Int.reduceNegSucc]
 have bC:=Uf l f p hf hb;repeat' (first | (simp -implicitDefEqProofs only [go_sem,Int.reduceNegSucc]) | (with_reducible refine aA ?_) | (with_reducible first | refine af bC ?_ | refine ag bC ?_) | ((first | refine ai (fun hg=>?_) (fun hg=>?_) | refine ax (fun hg=>?_) (fun hg=>?_) | refine ay (fun hg=>?_) (fun hg=>?_)) <;> try simp -implicitDefEqProofs only [hg,Bool.not_true,Bool.not_false]) | ((with_reducible apply And.intro);focus (first | trivial | omega | decide | (simp -implicitDefEqProofs only [maxLen];omega) | (simp [maxLen,ah,ak,an,av,aj,au,aq] <;> omega))) | fail)
 refine (hK _ _ (bO ?_)).2
 have:(l.findIdx? p).isSome=l.any p:=List.findIdx?_isSome
 rw [← this]
 cases l.findIdx? p <;> simp [lk]
theorem IS (l:List Nd) (hb:l.length≤8589934592):aI Go.Proofs.Tryz.prog 26 [.rv (.sl 49 (bw l))] [] [] (.rv (.int .i64 (kT l))):=by
 refine bt Rr [.rv (.sl 49 (bw l))] _ (by simp) (by simp [aO,aW,bp,aS,bg,aC.sv,Ln.sv,Nd.sv]) (fun K hK=>?_)
 have hlen:=an l
 conv in fc _ _ _ _=>reduce
 simp -implicitDefEqProofs only [go_sem,Int.reduceNegSucc]
 cases ht:fW l with
 | false=>
   have hc:=IT l hb
   rw [ht] at hc
   have bH:=hc;repeat' (first | (simp -implicitDefEqProofs only [go_sem,Int.reduceNegSucc]) | (with_reducible refine aA ?_) | (with_reducible first | refine af bH ?_ | refine ag bH ?_) | ((first | refine ai (fun hg=>?_) (fun hg=>?_) | refine ax (fun hg=>?_) (fun hg=>?_) | refine ay (fun hg=>?_) (fun hg=>?_)) <;> try simp -implicitDefEqProofs only [hg,Bool.not_true,Bool.not_false]) | ((with_reducible apply And.intro);focus (first | trivial | omega | decide | (simp -implicitDefEqProofs only [maxLen];omega) | (simp [maxLen,ah,ak,an,av,aj,au,aq] <;> omega))) | fail)
   exact (hK _ _ (bO (by simp [kT,ht,lk]))).2
 | true=>
   have hc:=IT l hb
   rw [ht] at hc
   have hs:gx l:=wL.1 (by unfold fW at ht;simp -implicitDefEqProofs only [Bool.and_eq_true] at ht;exact ht.1)
   have hd:=LB l hs.pos
   have bJ:=hc;have bL:=VB l hs.pos hs.wf hb;have bQ:=TZ l 57 (fun x=>!lq x.s) VA hb;repeat' (first | (simp -implicitDefEqProofs only [go_sem,Int.reduceNegSucc,hlen]) | (with_reducible refine aA ?_) | (with_reducible first | refine af bJ ?_ | refine ag bJ ?_) | (with_reducible first | refine af bL ?_ | refine ag bL ?_) | (with_reducible first | refine af bQ ?_ | refine ag bQ ?_) | ((first | refine ai (fun hg=>?_) (fun hg=>?_) | refine ax (fun hg=>?_) (fun hg=>?_) | refine ay (fun hg=>?_) (fun hg=>?_)) <;> try simp -implicitDefEqProofs only [hg,Bool.not_true,Bool.not_false]) | ((with_reducible apply And.intro);focus (first | trivial | omega | decide | (simp -implicitDefEqProofs only [maxLen];omega) | (simp [maxLen,ah,ak,an,av,aj,au,aq] <;> omega))) | fail)
   all_goals (refine (hK _ _ (bO ?_)).2;clear hK;(simp_all [kT,lk]) <;>(try (intros;omega)))
end Go.aL

namespace Go.aL
open Go
theorem PJ:aU Go.Proofs.Tryz.prog 81 17 (fc Go.Proofs.Tryz.prog 81 17 [(.t 6)]) [(.t 6)]:=bl (by kernel_rfl)
theorem PN:aU Go.Proofs.Tryz.prog 51 41 (fc Go.Proofs.Tryz.prog 51 41 [(.t 2)]) [(.t 2)]:=bl (by kernel_rfl)
theorem PM:aU Go.Proofs.Tryz.prog 23 20 (fc Go.Proofs.Tryz.prog 23 20 [(.t 2)]) [(.t 2)]:=bl (by kernel_rfl)
theorem PL:aU Go.Proofs.Tryz.prog 25 16 (fc Go.Proofs.Tryz.prog 25 16 [(.t 4)]) [(.t 4)]:=bl (by kernel_rfl)
theorem PK:aU Go.Proofs.Tryz.prog 8 29 (fc Go.Proofs.Tryz.prog 8 29 [(.t 2)]) [(.t 2)]:=bl (by kernel_rfl)
def pU (l:List Nd) (a:Int) (n:Nat):Bool:=(bz l n).any fun (j:Nat)=>decide ((j:Int)=a)
theorem Ko {l:List Nd} {a:Int} {n i:Nat} (h:i<(bz l n).length) (hp:(((bz l n)[i]'h:Nat):Int)=a):pU l a n=true:=by
 unfold pU;rw [List.any_eq_true];exact ⟨_,List.getElem_mem h,by simpa using hp⟩
theorem Kp {l:List Nd} {a:Int} {n:Nat} (hn:∀ j,(h:j<(bz l n).length)→(((bz l n)[j]'h:Nat):Int)≠a):pU l a n=false:=by
 unfold pU;rw [List.any_eq_false]
 intro x hx
 obtain ⟨j,hj,rfl⟩:=List.getElem_of_mem hx
 simpa using hn j hj
theorem Vh (l:List Nd) (a:Int) (n:Nat) (hw:WF l (n+1)) (hn:n<l.length) (hb:l.length≤8589934592) :
 aI Go.Proofs.Tryz.prog 81 [.rv (.sl 49 (bw l)),.rv (.int .i64 a),.rv (.int .i64 n)] [] [] (.rv (.bool (pU l a n))):=by
 refine bt PJ [.rv (.sl 49 (bw l)),.rv (.int .i64 a),.rv (.int .i64 n)] _ (by simp) (by simp [aO,aW,bp,aS,bg,aC.sv,Ln.sv,Nd.sv]) (fun K hK=>?_)
 have hlen:=an l
 conv in fc _ _ _ _=>reduce
 simp -implicitDefEqProofs only [go_sem,Int.reduceNegSucc]
 refine fE (ι:=Nat) (fun i=>[(2,.rv (.int .i64 (kK (bz l n) i))),(0,.rv (.sl 49 (bw l))),(1,.rv (.int .i64 a))]) (fun _=>[]) (fun i=>i≤(bz l n).length∧∀ j,(h:j<(bz l n).length)→j<i→(((bz l n)[j]'h:Nat):Int)≠a) (fun i=>(bz l n).length - i) 0 (by simp) (by rw [uU];exact bh (by simp [lk])) (fun i hi K' hN hX hR=>?_)
 obtain ⟨hi1,hi2⟩:=hi
 have fS:=uw (l:=l) n
 simp -implicitDefEqProofs only [go_sem,Int.reduceNegSucc]
 refine ai (fun hg=>?_) (fun hg=>?_)
 ·have fH:i<(bz l n).length:=qD.1 (by simpa using hg)
  have iX:=uT fH
  have hlt:(bz l n)[i]<n+1:=zA (by omega) fH
  have hx:=iS (l:=l) (i:=(bz l n)[i]) (by omega)
  have hpar:=lZ (l:=l) (n:=(bz l n)[i]) (by omega)
  have ox:=zu hw n (by omega) i fH
  repeat' (first | (simp -implicitDefEqProofs only [go_sem,Int.reduceNegSucc,hlen,ak,kO,iX,hx,hpar,ox]) | (with_reducible refine aA ?_) | ((first | refine ai (fun hg=>?_) (fun hg=>?_) | refine ax (fun hg=>?_) (fun hg=>?_) | refine ay (fun hg=>?_) (fun hg=>?_)) <;> try simp -implicitDefEqProofs only [hg,Bool.not_true,Bool.not_false]) | ((with_reducible apply And.intro);focus (first | trivial | omega | decide | (simp -implicitDefEqProofs only [maxLen];omega) | (simp [maxLen,ah,ak,an,av,aj,au,aq] <;> omega))) | fail)
  ·exact hR _ _ (hK _ _ (bO (by rw [Ko fH (by simpa using hg)];rfl))).2
  ·refine hN (i+1) _ _ ⟨by omega,fun j hj hji=>?_⟩ (by omega) (bh (by simp [lk]))
   rcases Nat.lt_or_ge j i with h | h
   ·exact hi2 j hj h
   ·obtain rfl:j=i:=by omega
    simpa using hg
 ·have fH:¬ i<(bz l n).length:=fun h=>by have:=qD.2 h;simp at hg;omega
  simp -implicitDefEqProofs only [go_sem,Int.reduceNegSucc]
  refine hX _ _ _ ?_
  repeat' (first | (simp -implicitDefEqProofs only [go_sem,Int.reduceNegSucc]) | (with_reducible refine aA ?_) | ((first | refine ai (fun hg=>?_) (fun hg=>?_) | refine ax (fun hg=>?_) (fun hg=>?_) | refine ay (fun hg=>?_) (fun hg=>?_)) <;> try simp -implicitDefEqProofs only [hg,Bool.not_true,Bool.not_false]) | ((with_reducible apply And.intro);focus (first | trivial | omega | decide | (simp -implicitDefEqProofs only [maxLen];omega) | (simp [maxLen,ah,ak,an,av,aj,au,aq] <;> omega))) | fail)
  exact (hK _ _ (bO (by rw [Kp fun j hj=>hi2 j hj (by omega)];rfl))).2
theorem Sy {l:List Nd} {k:Nat} (hk:0<k):jK l k=(!(decide (bE l k<0) || decide (bE l k≥k) || !pU l (bE l k) (k - 1))):=by
 have h1:jK l k=pU l (bE l k) (k - 1):=by
  have:decide (k=0)=false:=decide_eq_false (by omega)
  simp -implicitDefEqProofs only [jK,this,Bool.false_or,nr,pU,List.findIdx?_isSome]
 rw [h1]
 cases h:pU l (bE l k) (k - 1) with
 | false=>simp
 | true=>
   rw [← h1] at h
   have gA:¬ k=0:=by omega
   simp [jK,gA] at h
   obtain ⟨a,b,_⟩:=Dh h
   simp;omega
theorem Vl (l:List Nd) (hb:l.length≤8589934592):aI Go.Proofs.Tryz.prog 51 [.rv (.sl 49 (bw l))] [] [] (.rv (.bool (lp l))):=by
 refine bt PN [.rv (.sl 49 (bw l))] _ (by simp) (by simp [aO,aW,bp,aS,bg,aC.sv,Ln.sv,Nd.sv]) (fun K hK=>?_)
 have bad:∀ e h,lk e 2 = .rv (.bool false)→lp l=false→K .ret ⟨e,h⟩:=fun e h l2 hf=>(hK _ _ (bO (by rw [l2,hf]))).2
 have hlen:=an l
 conv in fc _ _ _ _=>reduce
 simp -implicitDefEqProofs only [hlen,go_sem,Int.reduceNegSucc]
 by_cases pH:l.length=0
 ·have e0:(((l.length:Nat):Int) == 0)=true:=by simp [pH]
  repeat' (first | (simp -implicitDefEqProofs only [go_sem,Int.reduceNegSucc,e0,hlen]) | (with_reducible refine aA ?_) | ((first | refine ai (fun hg=>?_) (fun hg=>?_) | refine ax (fun hg=>?_) (fun hg=>?_) | refine ay (fun hg=>?_) (fun hg=>?_)) <;> try simp -implicitDefEqProofs only [hg,Bool.not_true,Bool.not_false]) | ((with_reducible apply And.intro);focus (first | trivial | omega | decide | (simp -implicitDefEqProofs only [maxLen];omega) | (simp [maxLen,ah,ak,an,av,aj,au,aq] <;> omega))) | fail)
  exact bad _ _ rfl (by simp [lp,pH])
 ·have e0:(((l.length:Nat):Int) == 0)=false:=by simp [pH]
  have hx0:=iS (l:=l) (i:=0) (by omega)
  have kC:=lZ (l:=l) (n:=0) (by omega)
  repeat' (first | (simp -implicitDefEqProofs only [go_sem,Int.reduceNegSucc,e0,hlen,hx0,ak,kO,kC]) | (with_reducible refine aA ?_) | ((first | refine ai (fun hg=>?_) (fun hg=>?_) | refine ax (fun hg=>?_) (fun hg=>?_) | refine ay (fun hg=>?_) (fun hg=>?_)) <;> try simp -implicitDefEqProofs only [hg,Bool.not_true,Bool.not_false]) | ((with_reducible apply And.intro);focus (first | trivial | omega | decide | (simp -implicitDefEqProofs only [maxLen];omega) | (simp [maxLen,ah,ak,an,av,aj,au,aq] <;> omega))) | fail)
  ·exact bad _ _ rfl (by simp [lp];intro _ h;simp at hg;exact absurd h hg)
  ·have vN:bE l 0 = -1:=by simpa using hg
   refine fE (ι:=Nat) (fun k=>[(3,.rv (.int .i64 k)),(0,.rv (.sl 49 (bw l)))]) (fun _=>[]) (fun k=>0<k∧k≤l.length∧(∀ j,j<k→jK l j=true)) (fun k=>l.length - k) 1 ⟨by omega,by omega,fun j hj=>by simp [jK];omega⟩ (bh (by simp [lk])) (fun k hk K' hN hX hR=>?_)
   obtain ⟨gA,fJ,hk2⟩:=hk
   have hw:=Jt vN hk2
   simp -implicitDefEqProofs only [hlen,go_sem,Int.reduceNegSucc]
   refine ai (fun hg=>?_) (fun hg=>?_)
   ·have aE:k<l.length:=by simp at hg;omega
    have hx:=iS aE
    have hpk:=lZ aE
    have wd:=uO gA (by omega)
    have wu:=cz (k:=k) (by omega)
    have yL:=Sy (l:=l) gA
    have uW:jK l k=false→lp l=false:=fun h=>by
     rw [Bool.eq_false_iff]
     intro ht
     simp -implicitDefEqProofs only [lp,Bool.and_eq_true,List.all_eq_true,List.mem_range] at ht
     have:=ht.2 k aE
     rw [h] at this;cases this
    have nx:∀ e h,jK l k=true→fX 0 ⟨e,h⟩ ⟨[(3,.rv (.int .i64 (k+1:Nat))),(0,.rv (.sl 49 (bw l)))],[]⟩→K' .normal ⟨e,h⟩:=fun e h h1 he=>hN (k+1) _ _ ⟨by omega,by omega,fun j hj=>by
     rcases Nat.lt_or_ge j k with h | h
     ·exact hk2 j h
     ·obtain rfl:j=k:=by omega
      exact h1⟩ (by omega) he
    have hwk:WF l (k - 1+1):=by rw [show k - 1+1=k by omega];exact hw
    have aT:=Vh l (bE l k) (k - 1) hwk (by omega) hb;repeat' (first | (simp -implicitDefEqProofs only [go_sem,Int.reduceNegSucc,hlen,hx,hpk,ak,kO,wd,wu]) | (with_reducible refine aA ?_) | (with_reducible first | refine af aT ?_ | refine ag aT ?_) | ((first | refine ai (fun hg=>?_) (fun hg=>?_) | refine ax (fun hg=>?_) (fun hg=>?_) | refine ay (fun hg=>?_) (fun hg=>?_)) <;> try simp -implicitDefEqProofs only [hg,Bool.not_true,Bool.not_false]) | ((with_reducible apply And.intro);focus (first | trivial | omega | decide | (simp -implicitDefEqProofs only [maxLen];omega) | (simp [maxLen,ah,ak,an,av,aj,au,aq] <;> omega))) | fail)
    all_goals first
     | (refine hR _ _ (bad _ _ rfl (uW ?_));rw [yL];clear yL uW nx hK hN hX hR bad;simp_all;done)
     | (refine nx _ _ ?_ (bh (by simp [lk]));rw [yL];clear yL uW nx hK hN hX hR bad;(simp_all) <;> omega)
   ·have aE:k=l.length:=by simp at hg;omega
    subst aE
    simp -implicitDefEqProofs only [go_sem,Int.reduceNegSucc]
    refine hX _ _ _ ?_
    repeat' (first | (simp -implicitDefEqProofs only [go_sem,Int.reduceNegSucc]) | (with_reducible refine aA ?_) | ((first | refine ai (fun hg=>?_) (fun hg=>?_) | refine ax (fun hg=>?_) (fun hg=>?_) | refine ay (fun hg=>?_) (fun hg=>?_)) <;> try simp -implicitDefEqProofs only [hg,Bool.not_true,Bool.not_false]) | ((with_reducible apply And.intro);focus (first | trivial | omega | decide | (simp -implicitDefEqProofs only [maxLen];omega) | (simp [maxLen,ah,ak,an,av,aj,au,aq] <;> omega))) | fail)
    refine (hK _ _ (bO ?_)).2
    have hs:lp l=true:=by
     simp -implicitDefEqProofs only [lp,Bool.and_eq_true,decide_eq_true_eq,List.all_eq_true,List.mem_range]
     exact ⟨⟨by omega,vN⟩,hk2⟩
    rw [hs];rfl
theorem Vk (l:List Nd) (hb:l.length≤8589934592):aI Go.Proofs.Tryz.prog 23 [.rv (.sl 49 (bw l))] [] [] (.rv (.bool (fW l))):=by
 refine bt PM [.rv (.sl 49 (bw l))] _ (by simp) (by simp [aO,aW,bp,aS,bg,aC.sv,Ln.sv,Nd.sv]) (fun K hK=>?_)
 have bad:∀ e h,lk e 2 = .rv (.bool false)→fW l=false→K .ret ⟨e,h⟩:=fun e h l2 hf=>(hK _ _ (bO (by rw [l2,hf]))).2
 have hlen:=an l
 conv in fc _ _ _ _=>reduce
 simp -implicitDefEqProofs only [go_sem,Int.reduceNegSucc]
 have y_2:=Vl l hb;repeat' (first | (simp -implicitDefEqProofs only [go_sem,Int.reduceNegSucc]) | (with_reducible refine aA ?_) | (with_reducible first | refine af y_2 ?_ | refine ag y_2 ?_) | ((first | refine ai (fun hg=>?_) (fun hg=>?_) | refine ax (fun hg=>?_) (fun hg=>?_) | refine ay (fun hg=>?_) (fun hg=>?_)) <;> try simp -implicitDefEqProofs only [hg,Bool.not_true,Bool.not_false]) | ((with_reducible apply And.intro);focus (first | trivial | omega | decide | (simp -implicitDefEqProofs only [maxLen];omega) | (simp [maxLen,ah,ak,an,av,aj,au,aq] <;> omega))) | fail)
 ·exact bad _ _ rfl (by simp at hg;simp [fW,hg])
 ·have hs:lp l=true:=by simpa using hg
  simp -implicitDefEqProofs only [hlen,go_sem,Int.reduceNegSucc]
  refine fE (ι:=Nat) (fun k=>[(9,.rv (.int .i64 k)),(8,.rv (.int .i64 l.length)),(0,.rv (.sl 49 (bw l)))]) (fun _=>[]) (fun k=>k≤l.length∧((l.drop k).all fun x=>jq x.s)=l.all fun x=>jq x.s) (fun k=>l.length - k) 0 (by simp) (bh (by simp [lk])) (fun k hk K' hN hX hR=>?_)
  obtain ⟨fJ,gd⟩:=hk
  simp -implicitDefEqProofs only [go_sem,Int.reduceNegSucc]
  refine ai (fun hg=>?_) (fun hg=>?_)
  ·have aE:k<l.length:=by simp at hg;omega
   have hx:=iS aE
   have wu:=cz (k:=k) (by omega)
   have bA:=Vf (l[k]'aE).s;repeat' (first | (simp -implicitDefEqProofs only [go_sem,Int.reduceNegSucc,hlen,hx,ak,kO,wC,wu]) | (with_reducible refine aA ?_) | (with_reducible first | refine af bA ?_ | refine ag bA ?_) | ((first | refine ai (fun hg=>?_) (fun hg=>?_) | refine ax (fun hg=>?_) (fun hg=>?_) | refine ay (fun hg=>?_) (fun hg=>?_)) <;> try simp -implicitDefEqProofs only [hg,Bool.not_true,Bool.not_false]) | ((with_reducible apply And.intro);focus (first | trivial | omega | decide | (simp -implicitDefEqProofs only [maxLen];omega) | (simp [maxLen,ah,ak,an,av,aj,au,aq] <;> omega))) | fail)
   ·refine hR _ _ (bad _ _ rfl ?_)
    have:(l.all fun x=>jq x.s)=false:=oW aE gd (by simpa using hg)
    simp -implicitDefEqProofs only [fW,this,Bool.and_false]
   ·exact hN (k+1) _ _ ⟨by omega,oX aE gd (by simpa using hg)⟩ (by omega) (bh (by simp [lk]))
  ·have aE:k=l.length:=by simp at hg;omega
   subst aE
   have hall:=oV (Nat.le_refl _) gd
   simp -implicitDefEqProofs only [go_sem,Int.reduceNegSucc]
   refine hX _ _ _ ?_
   repeat' (first | (simp -implicitDefEqProofs only [go_sem,Int.reduceNegSucc]) | (with_reducible refine aA ?_) | ((first | refine ai (fun hg=>?_) (fun hg=>?_) | refine ax (fun hg=>?_) (fun hg=>?_) | refine ay (fun hg=>?_) (fun hg=>?_)) <;> try simp -implicitDefEqProofs only [hg,Bool.not_true,Bool.not_false]) | ((with_reducible apply And.intro);focus (first | trivial | omega | decide | (simp -implicitDefEqProofs only [maxLen];omega) | (simp [maxLen,ah,ak,an,av,aj,au,aq] <;> omega))) | fail)
   exact (hK _ _ (bO (by rw [fW,hs,hall];rfl))).2
theorem Vj (l:List Nd) (n:Nat) (hw:WF l (n+1)) (hn:n<l.length) (hb:l.length≤8589934592) :
 aI Go.Proofs.Tryz.prog 25 [.rv (.sl 49 (bw l)),.rv (.int .i64 n)] [] [] (.rv (.int .i64 (depth l n))):=by
 refine bt PL [.rv (.sl 49 (bw l)),.rv (.int .i64 n)] _ (by simp) (by simp [aO,aW,bp,aS,bg,aC.sv,Ln.sv,Nd.sv]) (fun K hK=>?_)
 have hlen:=an l
 conv in fc _ _ _ _=>reduce
 simp -implicitDefEqProofs only [go_sem,Int.reduceNegSucc]
 refine fE (ι:=Nat) (fun i=>[(1,.rv (.int .i64 (kK (bz l n) i))),(0,.rv (.sl 49 (bw l))),(5,.rv (.int .i64 i))]) (fun _=>[]) (fun i=>i≤(bz l n).length) (fun i=>(bz l n).length - i) 0 (by simp) (by rw [uU];exact bh (by simp [lk])) (fun i hi1 K' hN hX hR=>?_)
 have fS:=uw (l:=l) n
 simp -implicitDefEqProofs only [go_sem,Int.reduceNegSucc]
 refine ai (fun hg=>?_) (fun hg=>?_)
 ·have fH:i<(bz l n).length:=qD.1 (by simpa using hg)
  have iX:=uT fH
  have hlt:(bz l n)[i]<n+1:=zA (by omega) fH
  have hx:=iS (l:=l) (i:=(bz l n)[i]) (by omega)
  have hpar:=lZ (l:=l) (n:=(bz l n)[i]) (by omega)
  have ox:=zu hw n (by omega) i fH
  have wu:=cz (k:=i) (by omega)
  repeat' (first | (simp -implicitDefEqProofs only [go_sem,Int.reduceNegSucc,hlen,ak,kO,iX,hx,hpar,ox,wu]) | (with_reducible refine aA ?_) | ((first | refine ai (fun hg=>?_) (fun hg=>?_) | refine ax (fun hg=>?_) (fun hg=>?_) | refine ay (fun hg=>?_) (fun hg=>?_)) <;> try simp -implicitDefEqProofs only [hg,Bool.not_true,Bool.not_false]) | ((with_reducible apply And.intro);focus (first | trivial | omega | decide | (simp -implicitDefEqProofs only [maxLen];omega) | (simp [maxLen,ah,ak,an,av,aj,au,aq] <;> omega))) | fail)
  exact hN (i+1) _ _ (by omega) (by omega) (bh (by simp [lk]))
 ·have fH:¬ i<(bz l n).length:=fun h=>by have:=qD.2 h;simp at hg;omega
  have:i=(bz l n).length:=by omega
  subst this
  simp -implicitDefEqProofs only [go_sem,Int.reduceNegSucc]
  refine hX _ _ _ ?_
  repeat' (first | (simp -implicitDefEqProofs only [go_sem,Int.reduceNegSucc]) | (with_reducible refine aA ?_) | ((first | refine ai (fun hg=>?_) (fun hg=>?_) | refine ax (fun hg=>?_) (fun hg=>?_) | refine ay (fun hg=>?_) (fun hg=>?_)) <;> try simp -implicitDefEqProofs only [hg,Bool.not_true,Bool.not_false]) | ((with_reducible apply And.intro);focus (first | trivial | omega | decide | (simp -implicitDefEqProofs only [maxLen];omega) | (simp [maxLen,ah,ak,an,av,aj,au,aq] <;> omega))) | fail)
  exact (hK _ _ (bO rfl)).2
theorem Vi (l:List Nd) (hb:l.length≤8589934592):aI Go.Proofs.Tryz.prog 8 [.rv (.sl 49 (bw l))] [] [] (.rv (.int .i64 (kT l))):=by
 refine bt PK [.rv (.sl 49 (bw l))] _ (by simp) (by simp [aO,aW,bp,aS,bg,aC.sv,Ln.sv,Nd.sv]) (fun K hK=>?_)
 have hlen:=an l
 conv in fc _ _ _ _=>reduce
 simp -implicitDefEqProofs only [go_sem,Int.reduceNegSucc]
 have bC:=Vk l hb;repeat' (first | (simp -implicitDefEqProofs only [go_sem,Int.reduceNegSucc]) | (with_reducible refine aA ?_) | (with_reducible first | refine af bC ?_ | refine ag bC ?_) | ((first | refine ai (fun hg=>?_) (fun hg=>?_) | refine ax (fun hg=>?_) (fun hg=>?_) | refine ay (fun hg=>?_) (fun hg=>?_)) <;> try simp -implicitDefEqProofs only [hg,Bool.not_true,Bool.not_false]) | ((with_reducible apply And.intro);focus (first | trivial | omega | decide | (simp -implicitDefEqProofs only [maxLen];omega) | (simp [maxLen,ah,ak,an,av,aj,au,aq] <;> omega))) | fail)
 ·exact (hK _ _ (bO (by simp at hg;simp [kT,hg,lk]))).2
 ·have ht:fW l=true:=by simpa using hg
  have hs:gx l:=wL.1 (by unfold fW at ht;simp -implicitDefEqProofs only [Bool.and_eq_true] at ht;exact ht.1)
  simp -implicitDefEqProofs only [hlen,go_sem,Int.reduceNegSucc]
  refine fE (ι:=Nat) (fun k=>[(9,.rv (.int .i64 k)),(8,.rv (.int .i64 l.length)),(0,.rv (.sl 49 (bw l)))]) (fun _=>[]) (fun k=>k≤l.length∧∀ j,(h:j<l.length)→j<k→lq (l[j]'h).s=true∧depth l j≤256) (fun k=>l.length - k) 0 (by simp) (bh (by simp [lk])) (fun k hk K' hN hX hR=>?_)
  obtain ⟨fJ,gd⟩:=hk
  simp -implicitDefEqProofs only [go_sem,Int.reduceNegSucc]
  refine ai (fun hg=>?_) (fun hg=>?_)
  ·have aE:k<l.length:=by simp at hg;omega
   have hx:=iS aE
   have wu:=cz (k:=k) (by omega)
   have bad:∀ e h,lk e 2 = .rv (.int .i64 3)→(lq (l[k]'aE).s=false∨depth l k>256)→K' .ret ⟨e,h⟩:=fun e h l2 hf=>hR _ _ (hK _ _ (bO (by
    rw [l2];unfold kT
    rw [if_neg (by rw [ht];simp),if_pos]
    simp -implicitDefEqProofs only [Bool.or_eq_true,List.any_eq_true,List.mem_range,decide_eq_true_eq,Bool.not_eq_true']
    rcases hf with h | h
    ·exact .inr ⟨_,List.getElem_mem aE,h⟩
    ·exact .inl (.inr ⟨k,aE,h⟩)))).2
   have nx:∀ e h,lq (l[k]'aE).s=true→depth l k≤256→fX 0 ⟨e,h⟩ ⟨[(9,.rv (.int .i64 (k+1:Nat))),(8,.rv (.int .i64 l.length)),(0,.rv (.sl 49 (bw l)))],[]⟩→K' .normal ⟨e,h⟩:=fun e h h1 h2 he=>hN (k+1) _ _ ⟨by omega,fun j hj hji=>by
    rcases Nat.lt_or_ge j k with h | h
    ·exact gd j hj h
    ·obtain rfl:j=k:=by omega
     exact ⟨h1,h2⟩⟩ (by omega) he
   have bH:=Vg (l[k]'aE).s;have bJ:=Vj l k (hs.wf.mono (by omega)) aE hb;repeat' (first | (simp -implicitDefEqProofs only [go_sem,Int.reduceNegSucc,hlen,hx,ak,kO,wC,wu]) | (with_reducible refine aA ?_) | (with_reducible first | refine af bH ?_ | refine ag bH ?_) | (with_reducible first | refine af bJ ?_ | refine ag bJ ?_) | ((first | refine ai (fun hg=>?_) (fun hg=>?_) | refine ax (fun hg=>?_) (fun hg=>?_) | refine ay (fun hg=>?_) (fun hg=>?_)) <;> try simp -implicitDefEqProofs only [hg,Bool.not_true,Bool.not_false]) | ((with_reducible apply And.intro);focus (first | trivial | omega | decide | (simp -implicitDefEqProofs only [maxLen];omega) | (simp [maxLen,ah,ak,an,av,aj,au,aq] <;> omega))) | fail)
   all_goals first
    | (refine bad _ _ rfl ?_;clear bad nx hK hN hX hR;(simp_all) <;> omega)
    | (refine nx _ _ ?_ ?_ (bh (by simp [lk])) <;> clear bad nx hK hN hX hR <;>(simp_all) <;> omega)
  ·have aE:k=l.length:=by simp at hg;omega
   subst aE
   simp -implicitDefEqProofs only [go_sem,Int.reduceNegSucc]
   refine hX _ _ _ ?_
   have hno:((List.range l.length).any (fun k=>decide (depth l k>256)) || l.any fun x=>!lq x.s)=false:=by
    rw [Bool.or_eq_false_iff,List.any_eq_false,List.any_eq_false]
    refine ⟨fun k hk=>?_,fun x hx=>?_⟩
    ·have:=(gd k (by simpa using hk) (by simpa using hk)).2;simp;omega
    ·obtain ⟨j,hj,rfl⟩:=List.getElem_of_mem hx
     simp [(gd j hj hj).1]
   have fin:kT l=if (l.length:Int)>65535 then 3 else 0:=by
    unfold kT
    rw [if_neg (by rw [ht];simp),Bool.or_assoc,hno]
    by_cases h:l.length>65535
    ·have:(l.length:Int)>65535:=by omega
     simp [h,this]
    ·have:¬ (l.length:Int)>65535:=by omega
     simp [h,this]
   repeat' (first | (simp -implicitDefEqProofs only [go_sem,Int.reduceNegSucc,hlen]) | (with_reducible refine aA ?_) | ((first | refine ai (fun hg=>?_) (fun hg=>?_) | refine ax (fun hg=>?_) (fun hg=>?_) | refine ay (fun hg=>?_) (fun hg=>?_)) <;> try simp -implicitDefEqProofs only [hg,Bool.not_true,Bool.not_false]) | ((with_reducible apply And.intro);focus (first | trivial | omega | decide | (simp -implicitDefEqProofs only [maxLen];omega) | (simp [maxLen,ah,ak,an,av,aj,au,aq] <;> omega))) | fail)
   all_goals (refine (hK _ _ (bO ?_)).2;rw [fin];clear fin hK hN hX hR;(simp_all [lk]) <;> omega)
end Go.aL

namespace Go.aL
open Go
theorem Gq:aU Go.Proofs.Tryz.prog 27 8 (fc Go.Proofs.Tryz.prog 27 8 [(.t 2)]) [(.t 2)]:=bl (by kernel_rfl)
theorem Gr:aU Go.Proofs.Tryz.prog 120 8 (fc Go.Proofs.Tryz.prog 120 8 [(.t 2)]) [(.t 2)]:=bl (by kernel_rfl)
theorem Is (xs:List (List RV)) (m:Nat) (hb:xs.length≤8589934592):aI Go.Proofs.Tryz.prog 27 [.rv (.sl 49 xs)] [] [(m,.row 49 1 (aN xs))] (.row m 1 xs.length):=by
 have nz:∀ r:RV,(r = .mN∧xs=[])∨(r = .sl 49 xs∧0<xs.length)→aI Go.Proofs.Tryz.prog 27 [.rv r] [] [(m,.row 49 1 (aN xs))] (.row m 1 xs.length):=fun r hr=>by
  refine mV Gq [] [] [] [.rv r] [.rv r] _ _ (by simp) (by simp [aO,lP,lD,aS,aW,nY,bg,nZ,nX,ig,nQ,bW]) rfl (by simp [bW]) (by simp [ig]) (fun K hK=>?_)
  conv in fc _ _ _ _=>reduce
  simp -implicitDefEqProofs only [go_sem,Int.reduceNegSucc]
  rcases hr with ⟨rfl,rfl⟩ | ⟨rfl,h0⟩
  ·repeat' (first | (simp -implicitDefEqProofs only [go_sem,Int.reduceNegSucc]) | (with_reducible refine aA ?_) | ((first | refine ai (fun hg=>?_) (fun hg=>?_) | refine ax (fun hg=>?_) (fun hg=>?_) | refine ay (fun hg=>?_) (fun hg=>?_)) <;> try simp -implicitDefEqProofs only [hg,Bool.not_true,Bool.not_false]) | ((with_reducible apply And.intro);focus (first | trivial | omega | decide | (simp -implicitDefEqProofs only [maxLen];omega) | (simp [maxLen,ah,ak,an,av,aj,au,aq] <;> omega))) | fail)
   refine (hK _ _ _ _ [some m] (gO _ _) ?_).2
   simp [gZ,bW,newL,ia,gP,aR,aQ,lk,aV,fY,gk,ga,iD,iC,aB,hD,bf,aG,gw,hJ,iK,aH,iJ,aF,gB,fU]
   exact ⟨by simp [aN],fun i x y hx=>by simp at hx⟩
  ·repeat' (first | (simp -implicitDefEqProofs only [go_sem,Int.reduceNegSucc,CN]) | (with_reducible refine aA ?_) | ((first | refine ai (fun hg=>?_) (fun hg=>?_) | refine ax (fun hg=>?_) (fun hg=>?_) | refine ay (fun hg=>?_) (fun hg=>?_)) <;> try simp -implicitDefEqProofs only [hg,Bool.not_true,Bool.not_false]) | ((with_reducible apply And.intro);focus (first | trivial | omega | decide | (simp -implicitDefEqProofs only [maxLen];omega) | (simp [maxLen,ah,ak,an,av,aj,au,aq] <;> omega))) | fail)
   refine (hK _ _ _ _ [some m] (gO _ _) ?_).2
   simp [gZ,bW,newL,ia,gP,aR,aQ,lk,aV,fY,gk,ga,iD,iC,aB,hD,bf,aG,gw,hJ,iK,aH,iJ,aF,gB,fU]
 by_cases h0:xs=[]
 ·subst h0
  refine @DM _ _ _ [] [] _ _ _ ?_ (nz _ (.inl ⟨rfl,rfl⟩))
  show aI _ _ [.rv .cr] _ _ _
  refine mV Gq [] [] [] [.rv .cr] [.rv .cr] _ _ (by simp) (by simp [aO,lP,lD,aS,aW,nY,bg,nZ,nX,ig,nQ,bW]) rfl (by simp [bW]) (by simp [ig]) (fun K hK=>?_)
  conv in fc _ _ _ _=>reduce
  simp -implicitDefEqProofs only [go_sem,Int.reduceNegSucc]
  repeat' (first | (simp -implicitDefEqProofs only [go_sem,Int.reduceNegSucc]) | (with_reducible refine aA ?_) | ((first | refine ai (fun hg=>?_) (fun hg=>?_) | refine ax (fun hg=>?_) (fun hg=>?_) | refine ay (fun hg=>?_) (fun hg=>?_)) <;> try simp -implicitDefEqProofs only [hg,Bool.not_true,Bool.not_false]) | ((with_reducible apply And.intro);focus (first | trivial | omega | decide | (simp -implicitDefEqProofs only [maxLen];omega) | (simp [maxLen,ah,ak,an,av,aj,au,aq] <;> omega))) | fail)
  refine (hK _ _ _ _ [some m] (qL 2 49 1 rfl) ?_).2
  simp [gZ,bW,newL,ia,gP,aR,aQ,lk,aV,fY,gk,ga,iD,iC,aB,hD,bf,aG,gw,hJ,iK,aH,iJ,aF,gB,fU]
  exact ⟨by simp [aN],fun i x y hx=>by simp at hx⟩
 ·exact nz _ (.inr ⟨rfl,List.length_pos_iff.2 h0⟩)
theorem TY (xs:List (List RV)) (m:Nat) (hb:xs.length≤8589934592):aI Go.Proofs.Tryz.prog 120 [.rv (.sl 1 xs)] [] [(m,.row 1 1 (aN xs))] (.row m 1 xs.length):=by
 have nz:∀ r:RV,(r = .mN∧xs=[])∨(r = .sl 1 xs∧0<xs.length)→aI Go.Proofs.Tryz.prog 120 [.rv r] [] [(m,.row 1 1 (aN xs))] (.row m 1 xs.length):=fun r hr=>by
  refine mV Gr [] [] [] [.rv r] [.rv r] _ _ (by simp) (by simp [aO,lP,lD,aS,aW,nY,bg,nZ,nX,ig,nQ,bW]) rfl (by simp [bW]) (by simp [ig]) (fun K hK=>?_)
  conv in fc _ _ _ _=>reduce
  simp -implicitDefEqProofs only [go_sem,Int.reduceNegSucc]
  rcases hr with ⟨rfl,rfl⟩ | ⟨rfl,h0⟩
  ·repeat' (first | (simp -implicitDefEqProofs only [go_sem,Int.reduceNegSucc]) | (with_reducible refine aA ?_) | ((first | refine ai (fun hg=>?_) (fun hg=>?_) | refine ax (fun hg=>?_) (fun hg=>?_) | refine ay (fun hg=>?_) (fun hg=>?_)) <;> try simp -implicitDefEqProofs only [hg,Bool.not_true,Bool.not_false]) | ((with_reducible apply And.intro);focus (first | trivial | omega | decide | (simp -implicitDefEqProofs only [maxLen];omega) | (simp [maxLen,ah,ak,an,av,aj,au,aq] <;> omega))) | fail)
   refine (hK _ _ _ _ [some m] (gO _ _) ?_).2
   simp [gZ,bW,newL,ia,gP,aR,aQ,lk,aV,fY,gk,ga,iD,iC,aB,hD,bf,aG,gw,hJ,iK,aH,iJ,aF,gB,fU]
   exact ⟨by simp [aN],fun i x y hx=>by simp at hx⟩
  ·repeat' (first | (simp -implicitDefEqProofs only [go_sem,Int.reduceNegSucc,CN]) | (with_reducible refine aA ?_) | ((first | refine ai (fun hg=>?_) (fun hg=>?_) | refine ax (fun hg=>?_) (fun hg=>?_) | refine ay (fun hg=>?_) (fun hg=>?_)) <;> try simp -implicitDefEqProofs only [hg,Bool.not_true,Bool.not_false]) | ((with_reducible apply And.intro);focus (first | trivial | omega | decide | (simp -implicitDefEqProofs only [maxLen];omega) | (simp [maxLen,ah,ak,an,av,aj,au,aq] <;> omega))) | fail)
   refine (hK _ _ _ _ [some m] (gO _ _) ?_).2
   simp [gZ,bW,newL,ia,gP,aR,aQ,lk,aV,fY,gk,ga,iD,iC,aB,hD,bf,aG,gw,hJ,iK,aH,iJ,aF,gB,fU]
 by_cases h0:xs=[]
 ·subst h0
  refine @DM _ _ _ [] [] _ _ _ ?_ (nz _ (.inl ⟨rfl,rfl⟩))
  show aI _ _ [.rv .cr] _ _ _
  refine mV Gr [] [] [] [.rv .cr] [.rv .cr] _ _ (by simp) (by simp [aO,lP,lD,aS,aW,nY,bg,nZ,nX,ig,nQ,bW]) rfl (by simp [bW]) (by simp [ig]) (fun K hK=>?_)
  conv in fc _ _ _ _=>reduce
  simp -implicitDefEqProofs only [go_sem,Int.reduceNegSucc]
  repeat' (first | (simp -implicitDefEqProofs only [go_sem,Int.reduceNegSucc]) | (with_reducible refine aA ?_) | ((first | refine ai (fun hg=>?_) (fun hg=>?_) | refine ax (fun hg=>?_) (fun hg=>?_) | refine ay (fun hg=>?_) (fun hg=>?_)) <;> try simp -implicitDefEqProofs only [hg,Bool.not_true,Bool.not_false]) | ((with_reducible apply And.intro);focus (first | trivial | omega | decide | (simp -implicitDefEqProofs only [maxLen];omega) | (simp [maxLen,ah,ak,an,av,aj,au,aq] <;> omega))) | fail)
  refine (hK _ _ _ _ [some m] (qL 2 1 1 rfl) ?_).2
  simp [gZ,bW,newL,ia,gP,aR,aQ,lk,aV,fY,gk,ga,iD,iC,aB,hD,bf,aG,gw,hJ,iK,aH,iJ,aF,gB,fU]
  exact ⟨by simp [aN],fun i x y hx=>by simp at hx⟩
 ·exact nz _ (.inr ⟨rfl,List.length_pos_iff.2 h0⟩)
end Go.aL

namespace Go.aL
open Go
theorem Gp:aU Go.Proofs.Tryz.prog 9 157 (fc Go.Proofs.Tryz.prog 9 157 [(.t 2),(.t 3)]) [(.t 2),(.t 3)]:=bl (by kernel_rfl)
def br (l:List Nat):List Int:=l.map fun (n:Nat)=>(n:Int)
def jC (bs:List Bool):List (List RV):=bs.map fun b=>[.bool b]
theorem xG (bs:List Bool):(jC bs).length=bs.length:=by simp [jC]
theorem tD {bs:List Bool} {i:Nat} (h:i<bs.length):(jC bs)[i]?.getD []=[.bool (bs.getD i false)]:=by simp [jC,h]
theorem uC {ys:List Bool} {k:Nat} {v:Bool}:(aN (jC ys)).set k [.rv (.bool v)]=aN (jC (ys.set k v)):=by simp [aN,jC,List.map_set]
theorem Il {n:Nat}:List.replicate n [SV.rv (.bool false)]=aN (jC (List.replicate n false)):=by simp [aN,jC]
theorem DI (l:List Bool):∀ x∈jC l,∀ r∈x,r.one=true:=by
 intro x hx r hr
 obtain ⟨n,_,rfl⟩:=List.mem_map.1 hx
 simp at hr;rw [hr];rfl
def fR (l:List Nd) (k:Nat):List Bool:=(List.range l.length).map fun j=>if j<k then mJ l j else false
theorem GO (l:List Nd) (k:Nat):(fR l k).length=l.length:=by simp [fR]
theorem GP (l:List Nd):fR l 0=List.replicate l.length false:=by
 refine List.ext_getElem (by simp [fR]) (fun i h1 h2=>?_)
 simp [fR]
theorem ze {l:List Nd} {k:Nat} (hk:k<l.length):(fR l k).set k (mJ l k)=fR l (k+1):=by
 refine List.ext_getElem (by simp [fR]) (fun i h1 h2=>?_)
 simp -implicitDefEqProofs only [List.getElem_set,fR,List.getElem_map,List.getElem_range]
 by_cases h:k=i
 ·subst h;simp
 ·rw [if_neg h]
  by_cases hi:i<k
  ·rw [if_pos hi,if_pos (by omega)]
  ·rw [if_neg hi,if_neg (by omega)]
theorem GN {l:List Nd} {k j:Nat} {b:Bool} (hj:j<k) (hl:j<l.length):((fR l k).set k b).getD j false=mJ l j:=by
 rw [List.getD_eq_getElem?_getD,List.getElem?_set_ne (by omega)]
 simp [fR,hl,hj]
def iZ (l:List Nd) (k:Nat):List (List SV):=(List.range l.length).map fun p=>[.row (p+6) (bG l k p).length (bG l k p).length]
def iQ (l:List Nd) (k:Nat):List (Option HB):=(List.range l.length).map fun p=>some (.row 1 (bG l k p).length (aN (aM (br (bG l k p)))))
theorem we (l:List Nd) (k:Nat):(iZ l k).length=l.length:=by simp [iZ]
theorem nG (l:List Nd) (k:Nat):(iQ l k).length=l.length:=by simp [iQ]
theorem Gh {l:List Nd} {k p:Nat} (hp:p<l.length):(iZ l k)[p]?.getD []=[.row (p+6) (bG l k p).length (bG l k p).length]:=by simp [iZ,hp]
theorem Cc {l:List Nd} {k p:Nat} {C:List (Option HB)} (hp:p<l.length):aB (iQ l k++C) p=some (.row 1 (bG l k p).length (aN (aM (br (bG l k p))))):=by
 unfold aB
 rw [List.getElem?_append_left (by rw [nG];exact hp)]
 simp [iQ,hp]
theorem Ca {l:List Nd} {k:Nat} {x:Option HB} {C:List (Option HB)}:aB (iQ l k++x::C) l.length=x:=by
 unfold aB
 rw [List.getElem?_append_right (by rw [nG];exact Nat.le_refl _),nG]
 simp
theorem Gd {l:List Nd} {k:Nat} {x y:Option HB} {C:List (Option HB)}:aB (iQ l k++x::y::C) (l.length+1)=y:=by
 unfold aB
 rw [List.getElem?_append_right (by rw [nG];omega),nG,show l.length+1 - l.length=1 by omega]
 simp
theorem Gf {l:List Nd} {k p:Nat} {hb:Option HB} {x y:Option HB} {C:List (Option HB)}:aB ((iQ l k).set p hb++x::C) l.length=x:=by
 unfold aB
 rw [List.getElem?_append_right (by rw [List.length_set,nG];exact Nat.le_refl _),List.length_set,nG]
 simp
theorem Ce {l:List Nd} {k:Nat} {x y:Option HB} {C:List (Option HB)}:(iQ l k++x::C).set l.length y=iQ l k++y::C:=by
 rw [List.set_append_right _ _ (by rw [nG];exact Nat.le_refl _),nG,Nat.sub_self];rfl
theorem Pd {l:List Nd} {k p:Nat} {y:Option HB} {C:List (Option HB)} (hp:p<l.length):(iQ l k++C).set p y=(iQ l k).set p y++C:=by
 rw [List.set_append_left _ _ (by rw [nG];exact hp)]
theorem Pf (l:List Nd):iQ l 0=iW l.length 1:=by
 refine List.ext_getElem (by simp [iQ,iW]) (fun i h1 h2=>?_)
 simp [iQ,iW,uh,br,aM,aN]
theorem Gj (l:List Nd):iZ l 0=iG 6 l.length l.length:=by
 refine List.ext_getElem (by simp [iZ,iG]) (fun i h1 h2=>?_)
 simp [iZ] at h1
 simp [iZ,iG,uh,h1];omega
theorem Pb {l:List Nd} {k p:Nat} (h0:0<k) (hp:bE l k=p) (hl:p<l.length) :
 (iQ l k).set p (some (.row 1 ((bG l k p).length+1) (aN (aM (br (bG l k p)++[(k:Int)])))))=iQ l (k+1):=by
 refine List.ext_getElem (by simp [iQ]) (fun i h1 h2=>?_)
 simp -implicitDefEqProofs only [List.getElem_set,iQ,List.getElem_map,List.getElem_range,ug]
 by_cases h:p=i
 ·subst h;simp [h0,hp,br]
 ·rw [if_neg h,if_neg (by rw [hp];omega)];simp
theorem Pk {l:List Nd} {k p:Nat} (h0:0<k) (hp:bE l k=p) (hl:p<l.length) :
 (iZ l k).set p [.row (p+6) ((bG l k p).length+1) ((bG l k p).length+1)]=iZ l (k+1):=by
 refine List.ext_getElem (by simp [iZ]) (fun i h1 h2=>?_)
 simp -implicitDefEqProofs only [List.getElem_set,iZ,List.getElem_map,List.getElem_range,ug]
 by_cases h:p=i
 ·subst h;simp [h0,hp]
 ·rw [if_neg h,if_neg (by rw [hp];omega)];simp
theorem OY (l:List Nd):iQ l 1=iQ l 0:=by
 refine List.ext_getElem (by simp [iQ]) (fun i h1 h2=>?_)
 simp [iQ,bG,List.range_succ]
theorem Ph (l:List Nd):iZ l 1=iZ l 0:=by
 refine List.ext_getElem (by simp [iZ]) (fun i h1 h2=>?_)
 simp [iZ,bG,List.range_succ]
def lU (l:List Nd):List (List RV):=(List.range l.length).map fun p=>[.sl 1 (aM (br (iw l p)))]
def sj (l:List Nd):List Int:=(List.range l.length).map fun n=>(iq l n:Int)
abbrev cu (l:List Nd):RV:=.rop [.sl 49 (bw l),.sl 1 (lU l),.sl 1 (aM (sj l)),.sl 1 (aM (cj l l.length)),.sl 1 (jC (fR l l.length))]
def qV (l:List Nd) (k:Nat) (es ds:List Int) (bs:List Bool):List (Option HB):=some (.row 49 1 (aN (bw l)))::some (.row 1 0 (iZ l k))::some (.row 1 0 (aN (aM es)))::some (.row 1 0 (aN (aM ds)))::some (.row 1 0 (aN (jC bs)))::some (.var [.row 0 1 l.length,.row 1 0 l.length,.row 2 0 l.length,.row 3 0 l.length,.row 4 0 l.length])::iQ l k
theorem Gc {l:List Nd} {k:Nat} {es ds:List Int} {bs:List Bool}:(qV l k es ds bs).length=l.length+6:=by simp [qV,nG]
theorem OW {l:List Nd} {k:Nat} {es ds:List Int} {bs:List Bool}:lz (mS (l.length+6)) (qV l k es ds bs):=by
 refine ⟨iV,fun i x hx=>?_,iV,iV,iV,by simp [mS,mR,jF],lz.of fun j x hx=>?_⟩
 ·obtain ⟨hl,rfl⟩:=List.getElem?_eq_some_iff.1 hx
  simp [we] at hl
  simp [iZ,mR,jF,hl]
 ·obtain ⟨hl,rfl⟩:=List.getElem?_eq_some_iff.1 hx
  exact ⟨.row 1 (bG l k j).length (aN (aM (br (bG l k j)))),by simp [iQ],iV⟩
theorem BY {l:List Nd} {k:Nat} {es ds:List Int} {bs:List Bool} {env env':List (Nat×SV)} {C:List (Option HB)} (he:ij (l.length+6) env env'):fX 0 ⟨env,qV l k es ds bs++C⟩ ⟨env',qV l k es ds bs⟩:=
 nA (Nat.zero_le _) (by rw [Gc];exact OW) (by rw [Gc];exact he)
def gN (l:List Nd) (k:Nat):List Int:=(List.range l.length).map fun j=>if k≤j then (iq l j:Int) else 0
theorem Er (l:List Nd) (k:Nat):(gN l k).length=l.length:=by simp [gN]
theorem Et (l:List Nd):gN l l.length=List.replicate l.length 0:=by
 refine List.ext_getElem (by simp [gN]) (fun i h1 h2=>?_)
 simp [gN] at h1
 simp [gN];omega
theorem Eu (l:List Nd):gN l 0=sj l:=by simp [gN,sj]
theorem Es {l:List Nd} {k:Nat} (hk:0<k) (hl:k≤l.length):(gN l k).set (k - 1) (iq l (k - 1))=gN l (k - 1):=by
 refine List.ext_getElem (by simp [gN]) (fun i h1 h2=>?_)
 simp -implicitDefEqProofs only [List.getElem_set,gN,List.getElem_map,List.getElem_range]
 by_cases h:k - 1=i
 ·subst h;simp
 ·rw [if_neg h]
  by_cases hi:k≤i
  ·rw [if_pos hi,if_pos (by omega)]
  ·rw [if_neg hi,if_neg (by omega)]
theorem Ep {l:List Nd} {k j:Nat} {v:Int} (hj:k≤j) (hk:0<k) (hl:j<l.length):((gN l k).set (k - 1) v).getD j 0=iq l j:=by
 rw [List.getD_eq_getElem?_getD,List.getElem?_set_ne (by omega)]
 simp [gN,hl,hj]
theorem oo {τ:Nat→Option Nat} {h:Hp} {j e az len:Nat} {xs:List (List RV)} (hj:h j=some (.row e az (aN xs))) (lS:τ j=none) (hl:len=xs.length) (h1:∀ x∈xs,∀ r∈x,r.one=true):Fz τ h (.row j az len) (.sl e xs):=by
 have:=om (τ:=τ) hj lS (len:=len) (by omega) h1
 rw [hl,List.take_length] at this
 rw [hl];exact this
theorem RC (l:List Nd):Fz (fun _=>none) (aB (qV l l.length (sj l) (cj l l.length) (fR l l.length))) (.ptr 5 0) (cu l):=by
 refine .ptr 5 [.row 0 1 l.length,.row 1 0 l.length,.row 2 0 l.length,.row 3 0 l.length,.row 4 0 l.length] _ rfl rfl rfl (fun i r hr=>?_) (fun i x r hx hr=>?_)
 ·match i with
  | 0=>cases hr;rfl
  | 1=>cases hr;rfl
  | 2=>cases hr;rfl
  | 3=>cases hr;rfl
  | 4=>cases hr;rfl
  | i+5=>simp at hr
 ·match i with
  | 0=>cases hx;cases hr;exact oo rfl rfl (by simp [bw]) (zk l)
  | 1=>
    cases hx;cases hr
    refine .row 1 1 0 l.length (iZ l l.length) (lU l) rfl rfl (by simp [lU]) (by rw [we];exact Nat.le_refl _) (fun i x r hx hr=>?_) (fun i r k q hr hq=>?_) (fun i x r k y q hx hr hy hq=>?_)
    ·obtain ⟨_,rfl⟩:=List.getElem?_eq_some_iff.1 hx
     obtain ⟨_,rfl⟩:=List.getElem?_eq_some_iff.1 hr
     simp [iZ,lU]
    ·obtain ⟨_,rfl⟩:=List.getElem?_eq_some_iff.1 hr
     have:=List.mem_of_getElem? hq
     simp [lU] at this
     rw [this];rfl
    ·obtain ⟨hl,rfl⟩:=List.getElem?_eq_some_iff.1 hx
     obtain ⟨_,rfl⟩:=List.getElem?_eq_some_iff.1 hr
     rw [we] at hl
     cases k with
     | succ k=>simp [iZ] at hy
     | zero=>
       simp [iZ] at hy
       simp [lU] at hq
       subst hy;subst hq
       refine oo (xs:=aM (br (iw l i))) ?_ rfl (by simp [aM,br,iw]) (kN _)
       have:=Cc (k:=l.length) (C:=[]) hl
       rw [List.append_nil] at this
       exact this
  | 2=>cases hx;cases hr;exact oo rfl rfl (by simp [aM,sj]) (kN _)
  | 3=>cases hx;cases hr;exact oo rfl rfl (by simp [aM,cj]) (kN _)
  | 4=>cases hx;cases hr;exact oo rfl rfl (by simp [jC,fR]) (DI _)
  | i+5=>simp at hx
theorem uk (x:Nd):(x.cells.map SV.rv)[0]?=some (.rv (.bool x.s.shown)):=rfl
theorem UL (l:List Nd) (hb:l.length≤8589934592) (hc:kT l=0):aI Go.Proofs.Tryz.prog 9 [.rv (.sl 49 (bw l))] [] [] (.aP [.rv (cu l),.rv (.int .i64 0)]):=by
 refine bt Gp [.rv (.sl 49 (bw l))] _ (by simp) (by simp [aO,aW,bp,aS,bg,aC.sv,Ln.sv,Nd.sv]) (fun K hK=>?_)
 have hlen:=an l
 have qh:=IS l hb
 rw [hc] at qh
 have ht:fW l=true:=by
  unfold kT at hc
  cases h:fW l with
  | true=>rfl
  | false=>rw [h] at hc;simp at hc
 have hs:gx l:=wL.1 (by unfold fW at ht;simp -implicitDefEqProofs only [Bool.and_eq_true] at ht;exact ht.1)
 have qJ:(((0:Int)) != 0)=false:=rfl
 conv in fc _ _ _ _=>reduce
 simp -implicitDefEqProofs only [go_sem,Int.reduceNegSucc]
 have hb2:(bw l).length≤8589934592:=by rw [hlen];exact hb
 have aT:=qh;have y_2:=Is (bw l) 0 hb2;repeat' (first | (simp -implicitDefEqProofs only [go_sem,Int.reduceNegSucc,qJ,hlen,zH,Il]) | (with_reducible refine aA ?_) | (with_reducible first | refine af aT ?_ | refine ag aT ?_) | (refine bS y_2 ?_ ?_ ?_;(focus (simp [aY,aB] <;> fail));(focus (simp [bq,aX] <;> fail))) | (refine ck y_2 ?_ ?_ ?_;(focus (simp [aY,aB] <;> fail));(focus (simp [bq,aX] <;> fail))) | ((first | refine ai (fun hg=>?_) (fun hg=>?_) | refine ax (fun hg=>?_) (fun hg=>?_) | refine ay (fun hg=>?_) (fun hg=>?_)) <;> try simp -implicitDefEqProofs only [hg,Bool.not_true,Bool.not_false]) | ((with_reducible apply And.intro);focus (first | trivial | omega | decide | (simp -implicitDefEqProofs only [maxLen];omega) | (simp [maxLen,ah,ak,an,av,aj,au,aq] <;> omega))) | fail)
 have NO:∀ n:Nat,iZ l 0=iG 6 l.length l.length:=fun _=>Gj l
 let ev:Nat→List (Nat×SV):=fun k=>[(33,.rv (.int .i64 k)),(32,.rv (.int .i64 l.length)),(31,.rv (.sl 49 (bw l))),(5,.ptr 5 0),(0,.rv (.sl 49 (bw l)))]
 refine fE (ι:=Nat) (fun k=>[(33,.rv (.int .i64 k)),(32,.rv (.int .i64 l.length)),(31,.rv (.sl 49 (bw l))),(5,.ptr 5 0),(0,.rv (.sl 49 (bw l)))]) (fun k=>some (.row 49 1 (aN (bw l)))::some (.row 1 0 (iZ l k))::some (.row 1 0 (aN (aM (List.replicate l.length 0))))::some (.row 1 0 (aN (aM (cj l k))))::some (.row 1 0 (aN (jC (fR l k))))::some (.var [.row 0 1 l.length,.row 1 0 l.length,.row 2 0 l.length,.row 3 0 l.length,.row 4 0 l.length])::iQ l k) (fun k=>k≤l.length) (fun k=>l.length - k) 0 (by simp) ?_ (fun k hk K' hN hX hR=>?_)
 ·refine (bh (env':=[(33,.rv (.int .i64 0)),(32,.rv (.int .i64 l.length)),(31,.rv (.sl 49 (bw l))),(5,.ptr 5 0),(0,.rv (.sl 49 (bw l)))]) (by simp [lk])).trans ?_
  rw [Gj,Pf,AF,GP]
  exact Ev (r:=1) (v:=0) (n:=l.length) (e:=1) rfl
 simp -implicitDefEqProofs only [go_sem,Int.reduceNegSucc]
 refine ai (fun hg=>?_) (fun hg=>?_)
 ·have aE:k<l.length:=by simp at hg;omega
  have hx:=iS aE
  have sQ:=nG l k
  have hdl:=tK l k
  have lG:=aj (cj l k)
  have pg:=kZ (l:=cj l k) (i:=k) (by omega)
  have hml:=GO l k
  have sI:=xG (fR l k)
  have sH:=tD (bs:=fR l k) (i:=k) (by omega)
  have hsh:=CP aE
  have e1:(l.length=l.length+1)=False:=eq_false (by omega)
  have e2:(l.length=l.length+2)=False:=eq_false (by omega)
  have hds:=yc aE
  have sB:=AE aE
  have wu:=cz (k:=k) (by omega)
  by_cases gA:0<k
  ·have hgt:decide ((k:Int)>0)=true:=decide_eq_true (by omega)
   obtain ⟨p1,p2⟩:=hs.wf.2 k gA aE
   obtain ⟨p,hp⟩:∃ p:Nat,bE l k=p:=⟨(bE l k).toNat,by omega⟩
   have fS:p<l.length:=by omega
   have q0:(p=l.length)=False:=eq_false (by omega)
   have q1:(p=l.length+1)=False:=eq_false (by omega)
   have q2:(p=l.length+2)=False:=eq_false (by omega)
   have hpk:=lZ aE
   have Nz:(cj l k).set k 1=(cj l k).set k 1:=rfl
   have sC:((cj l k).set k 1).length=l.length:=by simp [hdl]
   have vr:=aj ((cj l k).set k 1)
   have pn:=kZ (l:=(cj l k).set k 1) (i:=p) (by omega)
   have sA:=kZ (l:=(cj l k).set k 1) (i:=k) (by omega)
   rw [AD (by omega) (by omega)] at pn
   have qO:=AG hs.wf gA aE
   rw [hp,Int.toNat_natCast] at qO
   have wd:=cz (k:=depth l p) (by have:=uw (l:=l) p;unfold depth;omega)
   rw [← qO] at wd
   obtain ⟨b,sL⟩:∃ b,pR l k=b:=⟨_,rfl⟩
   have hmp:=tD (bs:=(fR l k).set k b) (i:=p) (by simp [hml];omega)
   have hmk:=tD (bs:=(fR l k).set k b) (i:=k) (by simp [hml];omega)
   rw [GN (by omega) (by omega)] at hmp
   have vD:((fR l k).set k b).length=l.length:=by simp [hml]
   have vE:=xG ((fR l k).set k b)
   have mZ:((fR l k).set k b).set k (b && mJ l p)=fR l (k+1):=by
    have:=GL hs.wf gA aE
    rw [hp,Int.toNat_natCast,sL] at this
    rw [List.set_set,← this,ze aE]
   have ow:=we l k
   have ov:=Gh (k:=k) fS
   have mY:=fun C=>Cc (k:=k) (C:=C) fS
   have hkn:=Pb gA hp fS
   have htn:=Pk gA hp fS
   have hsp:=fun (y:Option HB) C=>Pd (k:=k) (y:=y) (C:=C) fS
   have gI:(br (bG l k p)).length=(bG l k p).length:=by simp [br]
   have ou:=aj (br (bG l k p))
   have jk:(aM (br (bG l k p))).take (bG l k p).length=aM (br (bG l k p)):=List.take_of_length_le (by rw [ou,gI];exact Nat.le_refl _)
   have hkk:=sP (l:=l) (k:=k) (p:=p)
   cases b
   all_goals simp -implicitDefEqProofs only [Bool.false_and,Bool.true_and] at mZ
   ·repeat' (first | (simp -implicitDefEqProofs only [go_sem,Int.reduceNegSucc,hlen,hx,sQ,ak,qp,Nat.add_assoc,Ca,List.append_assoc,hdl,lG,pg,hml,sI,sH,ni,uC,uk,hsh,sL,e1,e2,Ce,hgt,hpk,hp,um,ow,ov,mY,q0,q1,q2,hsp,Gd,Gf,gI,ou,jk,mL,hkn,htn,sC,vr,pn,sA,wd,sB,wu,hmp,hmk,vD,vE]) | (with_reducible refine aA ?_) | ((first | refine ai (fun hg=>?_) (fun hg=>?_) | refine ax (fun hg=>?_) (fun hg=>?_) | refine ay (fun hg=>?_) (fun hg=>?_)) <;> try simp -implicitDefEqProofs only [hg,Bool.not_true,Bool.not_false]) | ((with_reducible apply And.intro);focus (first | trivial | omega | decide | (simp -implicitDefEqProofs only [maxLen];omega) | (simp [maxLen,ah,ak,an,av,aj,au,aq] <;> omega) | (simp (decide:=true) [oY,qI,mT,qb,Nat.testBit,q0,q1,q2];done))) | fail)
    rw [mZ]
    exact hN (k+1) _ _ (by omega) (by omega) (BY (l:=l) (k:=k+1) (by simp [ij,lk,jU,lQ]))
   ·repeat' (first | (simp -implicitDefEqProofs only [go_sem,Int.reduceNegSucc,hlen,hx,sQ,ak,qp,Nat.add_assoc,Ca,List.append_assoc,hdl,lG,pg,hml,sI,sH,ni,uC,uk,hsh,sL,e1,e2,Ce,hgt,hpk,hp,um,ow,ov,mY,q0,q1,q2,hsp,Gd,Gf,gI,ou,jk,mL,hkn,htn,sC,vr,pn,sA,wd,sB,wu,hmp,hmk,vD,vE]) | (with_reducible refine aA ?_) | ((first | refine ai (fun hg=>?_) (fun hg=>?_) | refine ax (fun hg=>?_) (fun hg=>?_) | refine ay (fun hg=>?_) (fun hg=>?_)) <;> try simp -implicitDefEqProofs only [hg,Bool.not_true,Bool.not_false]) | ((with_reducible apply And.intro);focus (first | trivial | omega | decide | (simp -implicitDefEqProofs only [maxLen];omega) | (simp [maxLen,ah,ak,an,av,aj,au,aq] <;> omega) | (simp (decide:=true) [oY,qI,mT,qb,Nat.testBit,q0,q1,q2];done))) | fail)
    rw [mZ]
    exact hN (k+1) _ _ (by omega) (by omega) (BY (l:=l) (k:=k+1) (by simp [ij,lk,jU,lQ]))
  ·obtain rfl:k=0:=by omega
   have hgt:decide (((0:Nat):Int)>0)=false:=rfl
   rw [AH] at hds
   have mZ:=ze aE
   rw [GM] at mZ
   have Bo:(cj l 0).set 0 1=cj l (0+1):=hds
   repeat' (first | (simp -implicitDefEqProofs only [go_sem,Int.reduceNegSucc,hlen,hx,sQ,ak,qp,Nat.add_assoc,Ca,List.append_assoc,hdl,lG,pg,hml,sI,sH,ni,uC,uk,hsh,e1,e2,Ce,hgt,wu,mZ,Bo]) | (with_reducible refine aA ?_) | ((first | refine ai (fun hg=>?_) (fun hg=>?_) | refine ax (fun hg=>?_) (fun hg=>?_) | refine ay (fun hg=>?_) (fun hg=>?_)) <;> try simp -implicitDefEqProofs only [hg,Bool.not_true,Bool.not_false]) | ((with_reducible apply And.intro);focus (first | trivial | omega | decide | (simp -implicitDefEqProofs only [maxLen];omega) | (simp [maxLen,ah,ak,an,av,aj,au,aq] <;> omega))) | fail)
   refine hN 1 _ _ (by omega) (by omega) ?_
   rw [Ph,OY]
   exact BY (l:=l) (k:=0) (es:=List.replicate l.length 0) (ds:=cj l (0+1)) (bs:=fR l (0+1)) (C:=[some (.var ((l[0]'aE).cells.map .rv))]) (by simp [ij,lk,jU,lQ])
 ·have aE:k=l.length:=by simp at hg;omega
  subst aE
  simp -implicitDefEqProofs only [go_sem,Int.reduceNegSucc]
  refine hX _ _ _ ?_
  have wl:=uO hs.pos (by omega)
  repeat' (first | (simp -implicitDefEqProofs only [go_sem,Int.reduceNegSucc,hlen,wl]) | (with_reducible refine aA ?_) | ((first | refine ai (fun hg=>?_) (fun hg=>?_) | refine ax (fun hg=>?_) (fun hg=>?_) | refine ay (fun hg=>?_) (fun hg=>?_)) <;> try simp -implicitDefEqProofs only [hg,Bool.not_true,Bool.not_false]) | ((with_reducible apply And.intro);focus (first | trivial | omega | decide | (simp -implicitDefEqProofs only [maxLen];omega) | (simp [maxLen,ah,ak,an,av,aj,au,aq] <;> omega))) | fail)
  clear hN hX hR
  refine fE (ι:=Nat) (fun k=>[(8,.rv (.int .i64 ((k:Int) - 1))),(5,.ptr 5 0)]) (fun k=>qV l l.length (gN l k) (cj l l.length) (fR l l.length)) (fun k=>k≤l.length) (fun k=>k) l.length (Nat.le_refl _) (by rw [Et];exact bh (by simp [lk];have:=hs.pos;omega)) (fun k hk K' hN hX hR=>?_)
  simp -implicitDefEqProofs only [qV,go_sem,Int.reduceNegSucc]
  refine ai (fun hg=>?_) (fun hg=>?_)
  ·have gA:0<k:=by simp at hg;omega
   obtain ⟨j,rfl⟩:∃ j,k=j+1:=⟨k - 1,by omega⟩
   have ej:(((j+1:Nat):Int) - 1)=(j:Int):=by omega
   have wj:=cz (k:=j) (by omega)
   have hjl:j<l.length:=by omega
   have hel:=Er l (j+1)
   have vv:=aj (gN l (j+1))
   have sD:=kZ (l:=gN l (j+1)) (i:=j) (by omega)
   have ow:=we l l.length
   have ov:=Gh (k:=l.length) hjl
   have mY:=Cc (k:=l.length) (C:=[]) hjl
   simp -implicitDefEqProofs only [List.append_nil] at mY
   have gI:(br (bG l l.length j)).length=(bG l l.length j).length:=by simp [br]
   have ou:=aj (br (bG l l.length j))
   have hkk:=sP (l:=l) (k:=l.length) (p:=j)
   have nF:((gN l (j+1)).set j ((j+1:Nat):Int)).length=l.length:=by simp [hel]
   have BJ:=aj ((gN l (j+1)).set j ((j+1:Nat):Int))
   have ji:=Es (l:=l) (k:=j+1) (by omega) (by omega)
   simp -implicitDefEqProofs only [Nat.add_sub_cancel] at ji
   have wd:IntKind.i64.wrap ((j:Int) - 1)=((j:Int) - 1):=wrap_i64 (by omega) (by omega)
   by_cases fJ:bG l l.length j=[]
   ·have hm0:decide ((((bG l l.length j).length:Nat):Int)>0)=false:=by rw [fJ];rfl
    have he:=AP fJ
    rw [he] at ji
    repeat' (first | (simp -implicitDefEqProofs only [go_sem,Int.reduceNegSucc,hel,vv,sD,ow,ov,mY,ej,wj,hm0,ni,ji,wd]) | (with_reducible refine aA ?_) | ((first | refine ai (fun hg=>?_) (fun hg=>?_) | refine ax (fun hg=>?_) (fun hg=>?_) | refine ay (fun hg=>?_) (fun hg=>?_)) <;> try simp -implicitDefEqProofs only [hg,Bool.not_true,Bool.not_false]) | ((with_reducible apply And.intro);focus (first | trivial | omega | decide | (simp -implicitDefEqProofs only [maxLen];omega) | (simp [maxLen,ah,ak,an,av,aj,au,aq] <;> omega))) | fail)
    refine hN j _ _ (by omega) (by omega) (bh (by simp [lk]))
   ·obtain ⟨c,hc⟩:∃ c,(bG l l.length j).getLast?=some c:=by
     cases h:(bG l l.length j).getLast? with
     | none=>exact absurd (List.getLast?_eq_none_iff.1 h) fJ
     | some c=>exact ⟨c,rfl⟩
    have hpos:0<(bG l l.length j).length:=List.length_pos_iff.2 fJ
    have hm0:decide ((((bG l l.length j).length:Nat):Int)>0)=true:=decide_eq_true (by omega)
    have mX:c∈iw l j:=List.mem_of_getLast? hc
    obtain ⟨c1,c2,c3⟩:=qY.1 mX
    have Bi:j<c:=by have:=(hs.wf.2 c c1 c2).2;omega
    have he:=AN hc Bi c2
    rw [he] at ji
    have wm:=uO hpos (by omega)
    have Bh:(br (bG l l.length j)).getD ((bG l l.length j).length - 1) 0=(c:Int):=by
     rw [List.getLast?_eq_getElem?] at hc
     simp [br,List.getD_eq_getElem?_getD,hc]
    have jY:=kZ (l:=br (bG l l.length j)) (i:=(bG l l.length j).length - 1) (by omega)
    rw [Bh] at jY
    have vu:=kZ (l:=(gN l (j+1)).set j ((j+1:Nat):Int)) (i:=c) (by omega)
    have qi:=Ep (l:=l) (k:=j+1) (j:=c) (v:=((j+1:Nat):Int)) (by omega) (by omega) c2
    simp -implicitDefEqProofs only [Nat.add_sub_cancel] at qi
    rw [qi] at vu
    have Br:=kZ (l:=(gN l (j+1)).set j ((j+1:Nat):Int)) (i:=j) (by omega)
    have vO:((gN l (j+1)).set j ((j+1:Nat):Int)).set j (iq l c)=gN l j:=by rw [List.set_set,ji]
    repeat' (first | (simp -implicitDefEqProofs only [go_sem,Int.reduceNegSucc,hel,vv,sD,ow,ov,mY,ej,wj,hm0,ni,wd,wm,jY,vu,Br,vO,nF,BJ,gI,ou]) | (with_reducible refine aA ?_) | ((first | refine ai (fun hg=>?_) (fun hg=>?_) | refine ax (fun hg=>?_) (fun hg=>?_) | refine ay (fun hg=>?_) (fun hg=>?_)) <;> try simp -implicitDefEqProofs only [hg,Bool.not_true,Bool.not_false]) | ((with_reducible apply And.intro);focus (first | trivial | omega | decide | (simp -implicitDefEqProofs only [maxLen];omega) | (simp [maxLen,ah,ak,an,av,aj,au,aq] <;> omega))) | fail)
    refine hN j _ _ (by omega) (by omega) (bh (by simp [lk]))
  ·obtain rfl:k=0:=by simp at hg;omega
   simp -implicitDefEqProofs only [go_sem,Int.reduceNegSucc]
   refine hX _ _ _ ?_
   repeat' (first | (simp -implicitDefEqProofs only [go_sem,Int.reduceNegSucc]) | (with_reducible refine aA ?_) | ((first | refine ai (fun hg=>?_) (fun hg=>?_) | refine ax (fun hg=>?_) (fun hg=>?_) | refine ay (fun hg=>?_) (fun hg=>?_)) <;> try simp -implicitDefEqProofs only [hg,Bool.not_true,Bool.not_false]) | ((with_reducible apply And.intro);focus (first | trivial | omega | decide | (simp -implicitDefEqProofs only [maxLen];omega) | (simp [maxLen,ah,ak,an,av,aj,au,aq] <;> omega))) | fail)
   refine (hK _ _ ?_).2
   rw [Eu]
   exact ⟨trivial,bf.2 ⟨.fz _ _ (RC l),aG.2 rfl,trivial⟩⟩
end Go.aL

namespace Go.aL
open Go
theorem QD:aU Go.Proofs.Tryz.prog 88 10 (fc Go.Proofs.Tryz.prog 88 10 [(.t 2)]) [(.t 2)]:=bl (by kernel_rfl)
theorem QI:aU Go.Proofs.Tryz.prog 59 13 (fc Go.Proofs.Tryz.prog 59 13 [(.t 4)]) [(.t 4)]:=bl (by kernel_rfl)
theorem QH:aU Go.Proofs.Tryz.prog 60 18 (fc Go.Proofs.Tryz.prog 60 18 [(.c 4 48 true)]) [(.c 4 48 true)]:=bl (by kernel_rfl)
theorem QG:aU Go.Proofs.Tryz.prog 50 17 (fc Go.Proofs.Tryz.prog 50 17 [(.t 4)]) [(.t 4)]:=bl (by kernel_rfl)
theorem QE:aU Go.Proofs.Tryz.prog 28 17 (fc Go.Proofs.Tryz.prog 28 17 [(.t 4)]) [(.t 4)]:=bl (by kernel_rfl)
theorem QF:aU Go.Proofs.Tryz.prog 48 36 (fc Go.Proofs.Tryz.prog 48 36 [(.t 4)]) [(.t 4)]:=bl (by kernel_rfl)
def ic (l:List Nd) (n:Int):Bool:=decide (n≥0) && decide (n<l.length)
theorem pM {l:List Nd} {n:Int} (h:ic l n=true):∃ k:Nat,n=k∧k<l.length:=by
 simp [ic] at h;exact ⟨n.toNat,by omega,by omega⟩
theorem sM {l:List Nd} {k:Nat} (h:k<l.length):ic l k=true:=by simp [ic,h]
def bP (l:List Nd) (n:Int):aC:=if ic l n=true then (l.getD n.toNat default).s else default
def lY (l:List Nd) (n:Int):Int:=if ic l n=true then bE l n.toNat else -1
def AM (l:List Nd) (n:Int):Int:=if ic l n=true then iq l n.toNat else 0
def Wk (l:List Nd) (n:Int):Int:=if ic l n=true then depth l n.toNat else 0
def iA (l:List Nd) (n:Int):Bool:=ic l n && mJ l n.toNat
def jw (l:List Nd) (n:Int):Bool:=iA l n && decide (n>0) && (decide ((bP l n).position=2) || decide ((bP l n).position=3))
def Wj (l:List Nd) (a n:Int):Bool:=ic l a && ic l n && decide (n≥a) && decide (n<AM l a)
theorem Rz (l:List Nd):(lU l).length=l.length:=by simp [lU]
theorem Ry {l:List Nd} {k:Nat} (h:k<l.length):(lU l)[k]?.getD []=[.sl 1 (aM (br (iw l k)))]:=by simp [lU,h]
theorem Sm (l:List Nd):(jC (fR l l.length)).length=l.length:=by simp [jC,fR]
theorem Sl {l:List Nd} {k:Nat} (h:k<l.length):(jC (fR l l.length))[k]?.getD []=[.bool (mJ l k)]:=by simp [jC,fR,h]
theorem CF {τ:Nat→Option Nat} {h:List (Option HB)} {env:List (Nat×SV)} {a n id:Nat} {rs:List RV} (hl:lk env a = .ptr id 0) (hh:aB h id=some (.var (rs.map .rv))) (hn:rs.length=n):aR τ (aB h) (.agg (rs.map .rv)) (aQ (lk env) (aB h) [.c a n true]):=by
 simp [aQ,aR,aV,hl,iz,hh,hn]
 rw [List.take_of_length_le (by simp [hn])];exact aH.2 (fU.2 rfl)
section
variable (l:List Nd) (hb:l.length≤8589934592) (n:Int)
theorem Ul:aI Go.Proofs.Tryz.prog 88 [.rv (cu l)] [] [] (.rv (.int .i64 l.length)):=by
 refine bt QD [.rv (cu l)] _ (by simp) (by simp [aO,aW,bp,aS,bg,aC.sv,Ln.sv,Nd.sv]) (fun K hK=>?_)
 conv in fc _ _ _ _=>reduce
 simp -implicitDefEqProofs only [go_sem,Int.reduceNegSucc]
 repeat' (first | (simp -implicitDefEqProofs only [go_sem,Int.reduceNegSucc,an,cu]) | (with_reducible refine aA ?_) | ((first | refine ai (fun hg=>?_) (fun hg=>?_) | refine ax (fun hg=>?_) (fun hg=>?_) | refine ay (fun hg=>?_) (fun hg=>?_)) <;> try simp -implicitDefEqProofs only [hg,Bool.not_true,Bool.not_false]) | ((with_reducible apply And.intro);focus (first | trivial | omega | decide | (simp -implicitDefEqProofs only [maxLen];omega) | (simp [maxLen,ah,ak,an,av,aj,au,aq] <;> omega))) | fail)
 exact (hK _ _ (bO rfl)).2
theorem zN:aI Go.Proofs.Tryz.prog 59 [.rv (cu l),.rv (.int .i64 n)] [] [] (.rv (.bool (ic l n))):=by
 refine bt QI [.rv (cu l),.rv (.int .i64 n)] _ (by simp) (by simp [aO,aW,bp,aS,bg,aC.sv,Ln.sv,Nd.sv]) (fun K hK=>?_)
 conv in fc _ _ _ _=>reduce
 simp -implicitDefEqProofs only [go_sem,Int.reduceNegSucc]
 have aT:=Ul l;repeat' (first | (simp -implicitDefEqProofs only [go_sem,Int.reduceNegSucc]) | (with_reducible refine aA ?_) | (with_reducible first | refine af aT ?_ | refine ag aT ?_) | ((first | refine ai (fun hg=>?_) (fun hg=>?_) | refine ax (fun hg=>?_) (fun hg=>?_) | refine ay (fun hg=>?_) (fun hg=>?_)) <;> try simp -implicitDefEqProofs only [hg,Bool.not_true,Bool.not_false]) | ((with_reducible apply And.intro);focus (first | trivial | omega | decide | (simp -implicitDefEqProofs only [maxLen];omega) | (simp [maxLen,ah,ak,an,av,aj,au,aq] <;> omega))) | fail)
 all_goals (try ((first | refine (hK _ _ _ _ [] (gO _ _) ?_).2 | refine (hK _ _ ?_).2 | refine (hK _ _ _ _ [] (gO _ _) ?_).1 | refine (hK _ _ ?_).1 | fail);clear hK;(simp_all [gZ,bW,newL,ia,gP,aR,aQ,lk,aV,fY,gk,ga,iD,iC,aB,hD,bf,aG,gw,hJ,iK,aH,iJ,aF,gB,fU,bB,ic]) <;> try omega))
theorem Iy:aI Go.Proofs.Tryz.prog 60 [.rv (cu l),.rv (.int .i64 n)] [] [] (bP l n).sv:=by
 refine bt QH [.rv (cu l),.rv (.int .i64 n)] _ (by simp) (by simp [aO,aW,bp,aS,bg,aC.sv,Ln.sv,Nd.sv]) (fun K hK=>?_)
 have hh:=zN l n
 conv in fc _ _ _ _=>reduce
 simp -implicitDefEqProofs only [go_sem,Int.reduceNegSucc]
 cases hi:ic l n with
 | false=>
   rw [hi] at hh
   have y_2:=hh;repeat' (first | (simp -implicitDefEqProofs only [go_sem,Int.reduceNegSucc]) | (with_reducible refine aA ?_) | (with_reducible first | refine af y_2 ?_ | refine ag y_2 ?_) | ((first | refine ai (fun hg=>?_) (fun hg=>?_) | refine ax (fun hg=>?_) (fun hg=>?_) | refine ay (fun hg=>?_) (fun hg=>?_)) <;> try simp -implicitDefEqProofs only [hg,Bool.not_true,Bool.not_false]) | ((with_reducible apply And.intro);focus (first | trivial | omega | decide | (simp -implicitDefEqProofs only [maxLen];omega) | (simp [maxLen,ah,ak,an,av,aj,au,aq] <;> omega) | (rfl;done) | (exact ⟨rfl,by decide⟩;done))) | fail)
   have BI:bP l n=default:=by simp [bP,hi]
   rw [BI] at hK
   exact (hK _ _ (CF rfl rfl rfl)).2
 | true=>
   rw [hi] at hh
   obtain ⟨k,rfl,hk⟩:=pM hi
   have hx:=iS hk
   have hlen:=an l
   have bA:=hh;repeat' (first | (simp -implicitDefEqProofs only [go_sem,Int.reduceNegSucc,hx,hlen,ak,ah,wC,cu]) | (with_reducible refine aA ?_) | (with_reducible first | refine af bA ?_ | refine ag bA ?_) | ((first | refine ai (fun hg=>?_) (fun hg=>?_) | refine ax (fun hg=>?_) (fun hg=>?_) | refine ay (fun hg=>?_) (fun hg=>?_)) <;> try simp -implicitDefEqProofs only [hg,Bool.not_true,Bool.not_false]) | ((with_reducible apply And.intro);focus (first | trivial | omega | decide | (simp -implicitDefEqProofs only [maxLen];omega) | (simp [maxLen,ah,ak,an,av,aj,au,aq] <;> omega))) | fail)
   have BI:bP l k=(l[k]'hk).s:=by simp [bP,hi,hk]
   rw [BI] at hK
   exact (hK _ _ (CF rfl rfl rfl)).2
theorem Uo:aI Go.Proofs.Tryz.prog 50 [.rv (cu l),.rv (.int .i64 n)] [] [] (.rv (.int .i64 (lY l n))):=by
 refine bt QG [.rv (cu l),.rv (.int .i64 n)] _ (by simp) (by simp [aO,aW,bp,aS,bg,aC.sv,Ln.sv,Nd.sv]) (fun K hK=>?_)
 have hh:=zN l n
 conv in fc _ _ _ _=>reduce
 simp -implicitDefEqProofs only [go_sem,Int.reduceNegSucc]
 cases hi:ic l n with
 | false=>
   rw [hi] at hh
   have bC:=hh;repeat' (first | (simp -implicitDefEqProofs only [go_sem,Int.reduceNegSucc]) | (with_reducible refine aA ?_) | (with_reducible first | refine af bC ?_ | refine ag bC ?_) | ((first | refine ai (fun hg=>?_) (fun hg=>?_) | refine ax (fun hg=>?_) (fun hg=>?_) | refine ay (fun hg=>?_) (fun hg=>?_)) <;> try simp -implicitDefEqProofs only [hg,Bool.not_true,Bool.not_false]) | ((with_reducible apply And.intro);focus (first | trivial | omega | decide | (simp -implicitDefEqProofs only [maxLen];omega) | (simp [maxLen,ah,ak,an,av,aj,au,aq] <;> omega))) | fail)
   exact (hK _ _ (bO (by simp [lY,hi,lk]))).2
 | true=>
   rw [hi] at hh
   obtain ⟨k,rfl,hk⟩:=pM hi
   have hx:=iS hk
   have hlen:=an l
   have hp:=lZ hk
   have bH:=hh;repeat' (first | (simp -implicitDefEqProofs only [go_sem,Int.reduceNegSucc,hx,hlen,ak,cu,kO,hp]) | (with_reducible refine aA ?_) | (with_reducible first | refine af bH ?_ | refine ag bH ?_) | ((first | refine ai (fun hg=>?_) (fun hg=>?_) | refine ax (fun hg=>?_) (fun hg=>?_) | refine ay (fun hg=>?_) (fun hg=>?_)) <;> try simp -implicitDefEqProofs only [hg,Bool.not_true,Bool.not_false]) | ((with_reducible apply And.intro);focus (first | trivial | omega | decide | (simp -implicitDefEqProofs only [maxLen];omega) | (simp [maxLen,ah,ak,an,av,aj,au,aq] <;> omega))) | fail)
   exact (hK _ _ (bO (by simp [lY,hi,lk]))).2
theorem CQ:aI Go.Proofs.Tryz.prog 28 [.rv (cu l),.rv (.int .i64 n)] [] [] (.rv (.bool (iA l n))):=by
 refine bt QE [.rv (cu l),.rv (.int .i64 n)] _ (by simp) (by simp [aO,aW,bp,aS,bg,aC.sv,Ln.sv,Nd.sv]) (fun K hK=>?_)
 have hh:=zN l n
 conv in fc _ _ _ _=>reduce
 simp -implicitDefEqProofs only [go_sem,Int.reduceNegSucc]
 cases hi:ic l n with
 | false=>
   rw [hi] at hh
   have bJ:=hh;repeat' (first | (simp -implicitDefEqProofs only [go_sem,Int.reduceNegSucc]) | (with_reducible refine aA ?_) | (with_reducible first | refine af bJ ?_ | refine ag bJ ?_) | ((first | refine ai (fun hg=>?_) (fun hg=>?_) | refine ax (fun hg=>?_) (fun hg=>?_) | refine ay (fun hg=>?_) (fun hg=>?_)) <;> try simp -implicitDefEqProofs only [hg,Bool.not_true,Bool.not_false]) | ((with_reducible apply And.intro);focus (first | trivial | omega | decide | (simp -implicitDefEqProofs only [maxLen];omega) | (simp [maxLen,ah,ak,an,av,aj,au,aq] <;> omega))) | fail)
   exact (hK _ _ (bO (by simp [iA,hi,lk]))).2
 | true=>
   rw [hi] at hh
   obtain ⟨k,rfl,hk⟩:=pM hi
   have bL:=hh;repeat' (first | (simp -implicitDefEqProofs only [go_sem,Int.reduceNegSucc,Sm,Sl hk,cu]) | (with_reducible refine aA ?_) | (with_reducible first | refine af bL ?_ | refine ag bL ?_) | ((first | refine ai (fun hg=>?_) (fun hg=>?_) | refine ax (fun hg=>?_) (fun hg=>?_) | refine ay (fun hg=>?_) (fun hg=>?_)) <;> try simp -implicitDefEqProofs only [hg,Bool.not_true,Bool.not_false]) | ((with_reducible apply And.intro);focus (first | trivial | omega | decide | (simp -implicitDefEqProofs only [maxLen];omega) | (simp [maxLen,ah,ak,an,av,aj,au,aq] <;> omega))) | fail)
   exact (hK _ _ (bO (by simp [iA,hi,lk]))).2
theorem CR:aI Go.Proofs.Tryz.prog 48 [.rv (cu l),.rv (.int .i64 n)] [] [] (.rv (.bool (jw l n))):=by
 refine bt QF [.rv (cu l),.rv (.int .i64 n)] _ (by simp) (by simp [aO,aW,bp,aS,bg,aC.sv,Ln.sv,Nd.sv]) (fun K hK=>?_)
 have hh:=CQ l n
 conv in fc _ _ _ _=>reduce
 simp -implicitDefEqProofs only [go_sem,Int.reduceNegSucc]
 cases hi:iA l n with
 | false=>
   rw [hi] at hh
   have bQ:=hh;repeat' (first | (simp -implicitDefEqProofs only [go_sem,Int.reduceNegSucc]) | (with_reducible refine aA ?_) | (with_reducible first | refine af bQ ?_ | refine ag bQ ?_) | ((first | refine ai (fun hg=>?_) (fun hg=>?_) | refine ax (fun hg=>?_) (fun hg=>?_) | refine ay (fun hg=>?_) (fun hg=>?_)) <;> try simp -implicitDefEqProofs only [hg,Bool.not_true,Bool.not_false]) | ((with_reducible apply And.intro);focus (first | trivial | omega | decide | (simp -implicitDefEqProofs only [maxLen];omega) | (simp [maxLen,ah,ak,an,av,aj,au,aq] <;> omega))) | fail)
   exact (hK _ _ (bO (by simp [jw,hi,lk]))).2
 | true=>
   rw [hi] at hh
   have hin:ic l n=true:=by simp [iA] at hi;exact hi.1
   obtain ⟨k,rfl,hk⟩:=pM hin
   have hx:=iS hk
   have hlen:=an l
   have hs:bP l k=(l[k]'hk).s:=by simp [bP,hin,hk]
   have hp:((l[k]'hk).cells.drop 1)[0]?=some (.int .i64 (l[k]'hk).s.position):=rfl
   have bZ:=hh;repeat' (first | (simp -implicitDefEqProofs only [go_sem,Int.reduceNegSucc,hx,hlen,ak,cu,hp]) | (with_reducible refine aA ?_) | (with_reducible first | refine af bZ ?_ | refine ag bZ ?_) | ((first | refine ai (fun hg=>?_) (fun hg=>?_) | refine ax (fun hg=>?_) (fun hg=>?_) | refine ay (fun hg=>?_) (fun hg=>?_)) <;> try simp -implicitDefEqProofs only [hg,Bool.not_true,Bool.not_false]) | ((with_reducible apply And.intro);focus (first | trivial | omega | decide | (simp -implicitDefEqProofs only [maxLen];omega) | (simp [maxLen,ah,ak,an,av,aj,au,aq] <;> omega))) | fail)
   all_goals (refine (hK _ _ (bO ?_)).2;rw [jw,hi,hs];clear hK hs hp;simp_all [lk,bB])
end
end Go.aL

namespace Go.aL
open Go
theorem QC:aU Go.Proofs.Tryz.prog 101 17 (fc Go.Proofs.Tryz.prog 101 17 [(.t 4)]) [(.t 4)]:=bl (by kernel_rfl)
theorem QA:aU Go.Proofs.Tryz.prog 76 10 (fc Go.Proofs.Tryz.prog 76 10 [(.t 4)]) [(.t 4)]:=bl (by kernel_rfl)
theorem QB:aU Go.Proofs.Tryz.prog 102 13 (fc Go.Proofs.Tryz.prog 102 13 [(.t 3)]) [(.t 3)]:=bl (by kernel_rfl)
theorem Rc:aU Go.Proofs.Tryz.prog 119 19 (fc Go.Proofs.Tryz.prog 119 19 [(.t 4)]) [(.t 4)]:=bl (by kernel_rfl)
theorem Ra:aU Go.Proofs.Tryz.prog 100 42 (fc Go.Proofs.Tryz.prog 100 42 [(.t 4)]) [(.t 4)]:=bl (by kernel_rfl)
def iu (l:List Nd) (n:Int):List Nat:=if ic l n=true then iw l n.toNat else []
def WS (l:List Nd) (n:Int):List Nat:=if ic l n=true then (bz l n.toNat).drop 1 else []
def iE (l:List Nd) (m:Int):Bool:=iA l m && !jw l m
def bu (l:List Nd) (n:Int):List Nat:=(iu l n).filter fun (m:Nat)=>iE l m
theorem GY (l:List Nat):(br l).length=l.length:=by simp [br]
theorem Gv (l:List Nd) (n:Int):(iu l n).length≤l.length:=by
 unfold iu;split
 ·exact sP
 ·simp
section
variable (l:List Nd) (hb:l.length≤8589934592) (n:Int)
theorem Uj (m:Nat) (hb:l.length≤8589934592):aI Go.Proofs.Tryz.prog 101 [.rv (cu l),.rv (.int .i64 n)] [] [(m,.row 1 1 (aN (aM (br (iu l n)))))] (.row m 1 (iu l n).length):=by
 refine mV QC [] [] [] [.rv (cu l),.rv (.int .i64 n)] [.rv (cu l),.rv (.int .i64 n)] _ _ (by simp) (by simp [aO,aS]) rfl (by simp [bW]) (by simp [ig]) (fun K hK=>?_)
 have hh:=zN l n
 conv in fc _ _ _ _=>reduce
 simp -implicitDefEqProofs only [go_sem,Int.reduceNegSucc]
 cases hi:ic l n with
 | false=>
   rw [hi] at hh
   have gA:iu l n=[]:=by simp [iu,hi]
   have aT:=hh;repeat' (first | (simp -implicitDefEqProofs only [go_sem,Int.reduceNegSucc]) | (with_reducible refine aA ?_) | (with_reducible first | refine af aT ?_ | refine ag aT ?_) | ((first | refine ai (fun hg=>?_) (fun hg=>?_) | refine ax (fun hg=>?_) (fun hg=>?_) | refine ay (fun hg=>?_) (fun hg=>?_)) <;> try simp -implicitDefEqProofs only [hg,Bool.not_true,Bool.not_false]) | ((with_reducible apply And.intro);focus (first | trivial | omega | decide | (simp -implicitDefEqProofs only [maxLen];omega) | (simp [maxLen,ah,ak,an,av,aj,au,aq] <;> omega))) | fail)
   refine (hK _ _ _ _ [some m] (qL 4 1 1 rfl) ?_).2
   rw [gA]
   simp [gZ,bW,newL,ia,gP,aR,aQ,lk,aV,fY,gk,ga,iD,iC,aB,hD,bf,aG,gw,hJ,iK,aH,iJ,aF,gB,fU]
   exact ⟨by simp [aN,aM,br],fun i x y hx=>by simp at hx⟩
 | true=>
   rw [hi] at hh
   obtain ⟨k,rfl,hk⟩:=pM hi
   have gA:iu l k=iw l k:=by simp [iu,hi]
   have gI:=sP (l:=l) (k:=l.length) (p:=k)
   have hlen:(aM (br (iw l k))).length=(iw l k).length:=by simp [aM,br]
   have hlb:(aM (br (iw l k))).length≤8589934592:=by rw [hlen];unfold iw;omega
   have NN:=Ry hk
   have y_2:=hh;have bA:=TY (aM (br (iw l k))) 0 hlb;repeat' (first | (simp -implicitDefEqProofs only [go_sem,Int.reduceNegSucc,Rz,NN,cu]) | (with_reducible refine aA ?_) | (with_reducible first | refine af y_2 ?_ | refine ag y_2 ?_) | (refine bS bA ?_ ?_ ?_;(focus (simp [aY,aB] <;> fail));(focus (simp [bq,aX] <;> fail))) | (refine ck bA ?_ ?_ ?_;(focus (simp [aY,aB] <;> fail));(focus (simp [bq,aX] <;> fail))) | ((first | refine ai (fun hg=>?_) (fun hg=>?_) | refine ax (fun hg=>?_) (fun hg=>?_) | refine ay (fun hg=>?_) (fun hg=>?_)) <;> try simp -implicitDefEqProofs only [hg,Bool.not_true,Bool.not_false]) | ((with_reducible apply And.intro);focus (first | trivial | omega | decide | (simp -implicitDefEqProofs only [maxLen];omega) | (simp [maxLen,ah,ak,an,av,aj,au,aq] <;> omega))) | fail)
   refine (hK _ _ _ _ [some m] (gO _ _) ?_).2
   rw [gA]
   simp [gZ,bW,newL,ia,gP,aR,aQ,lk,aV,fY,gk,ga,iD,iC,aB,hD,bf,aG,gw,hJ,iK,aH,iJ,aF,gB,fU,hlen]
theorem Ue (m:Int) (j:Nat):aI Go.Proofs.Tryz.prog 102 [.rv (.int .i64 m),.ptr j 0] [(j,.var [.rv (cu l)])] [] (.rv (.bool (!iE l m))):=by
 refine mV QB [j] [.var [.rv (cu l)]] [.var [.rv (cu l)]] [.rv (.int .i64 m),.ptr 0 0] [.rv (.int .i64 m),.ptr j 0] _ _ (by simp) (by simp [aO,lP,lD,aS,aW,nY,bg,nZ,nX,ig,nQ,bW]) rfl (by simp [bW]) (by simp [aO,lP,lD,aS,aW,nY,bg,nZ,nX,ig,nQ,bW]) (fun K hK=>?_)
 conv in fc _ _ _ _=>reduce
 simp -implicitDefEqProofs only [go_sem,Int.reduceNegSucc]
 have bC:=CQ l m;have bH:=CR l m;repeat' (first | (simp -implicitDefEqProofs only [go_sem,Int.reduceNegSucc]) | (with_reducible refine aA ?_) | (with_reducible first | refine af bC ?_ | refine ag bC ?_) | (with_reducible first | refine af bH ?_ | refine ag bH ?_) | ((first | refine ai (fun hg=>?_) (fun hg=>?_) | refine ax (fun hg=>?_) (fun hg=>?_) | refine ay (fun hg=>?_) (fun hg=>?_)) <;> try simp -implicitDefEqProofs only [hg,Bool.not_true,Bool.not_false]) | ((with_reducible apply And.intro);focus (first | trivial | omega | decide | (simp -implicitDefEqProofs only [maxLen];omega) | (simp [maxLen,ah,ak,an,av,aj,au,aq] <;> omega))) | fail)
 all_goals (refine (hK _ _ _ _ [] (gO _ _) ?_).2;clear hK;simp_all [gZ,bW,newL,ia,gP,aR,aQ,lk,aV,fY,gk,ga,iD,iC,aB,hD,bf,aG,gw,hJ,iK,aH,iJ,aF,gB,fU,iE])
end
section
variable (f:Nat) (i j v:Nat) (cap:RV) (p:Int→Bool) (hij:i≠j) (hf:∀ (m:Int) (j:Nat),aI Go.Proofs.Tryz.prog f [.rv (.int .i64 m),.ptr j 0] [(j,.var [.rv cap])] [] (.rv (.bool (p m))))
include hij hf
theorem Ug (ys:List Int) (hb:ys.length≤8589934592) :
 aI Go.Proofs.Tryz.prog 119 [.row i v ys.length,.fn f [.ptr j 0]] [(i,.row 1 v (aN (aM ys))),(j,.var [.rv cap])] [] (.rv (.int .i64 (match ys.findIdx? p with | some k=>((k:Nat):Int) | none=>-1))):=by
 refine xL Rc [i,j] [.row 1 v (aN (aM ys)),.var [.rv cap]] [.row 1 v (aN (aM ys)),.var [.rv cap]] [.row 0 v ys.length,.fn f [.ptr 1 0]] [.row i v ys.length,.fn f [.ptr j 0]] _ _ (by simp) (by simp [aO,lD,bg,lP]) rfl (by simp [bW,hij]) rfl (Dp DF (Al (by simp [aO,lP,lD,aS,aW,nY,bg,nZ,nX,ig,nQ,bW]))) (fun K hK=>?_)
 have hlen:=aj ys
 conv in fc _ _ _ _=>reduce
 simp -implicitDefEqProofs only [go_sem,Int.reduceNegSucc]
 refine fE (ι:=Nat) (fun k=>[(8,.rv (.int .i64 k)),(7,.rv (.int .i64 ys.length)),(0,.row 0 v ys.length),(1,.fn f [.ptr 1 0])]) (fun _=>[some (.row 1 v (aN (aM ys))),some (.var [.rv cap])]) (fun k=>k≤ys.length∧∀ j,(h:j<ys.length)→j<k→p (ys[j]'h)=false) (fun k=>ys.length - k) 0 (by simp) (bh (by simp [lk])) (fun k hk K' hN hX hR=>?_)
 obtain ⟨fJ,hk2⟩:=hk
 simp -implicitDefEqProofs only [go_sem,Int.reduceNegSucc]
 refine ai (fun hg=>?_) (fun hg=>?_)
 ·have aE:k<ys.length:=by simp at hg;omega
  have hx:=oC aE
  have bJ:=hf (ys[k]'aE) 1;repeat' (first | (simp -implicitDefEqProofs only [go_sem,Int.reduceNegSucc,hlen,hx]) | (with_reducible refine aA ?_) | (refine bS bJ ?_ ?_ ?_;(focus (simp [aY,aB] <;> fail));(focus (simp [bq,aX] <;> fail))) | (refine ck bJ ?_ ?_ ?_;(focus (simp [aY,aB] <;> fail));(focus (simp [bq,aX] <;> fail))) | ((first | refine ai (fun hg=>?_) (fun hg=>?_) | refine ax (fun hg=>?_) (fun hg=>?_) | refine ay (fun hg=>?_) (fun hg=>?_)) <;> try simp -implicitDefEqProofs only [hg,Bool.not_true,Bool.not_false]) | ((with_reducible apply And.intro);focus (first | trivial | omega | decide | (simp -implicitDefEqProofs only [maxLen];omega) | (simp [maxLen,ah,ak,an,av,aj,au,aq] <;> omega))) | fail)
  ·refine hR _ _ (hK _ _ _ _ [] (gO _ _) ?_).2
   have:ys.findIdx? p=some k:=by
    rw [List.findIdx?_eq_some_iff_getElem]
    exact ⟨aE,by simpa using hg,fun j hj=>by rw [hk2 j (by omega) hj];simp⟩
   rw [this]
   simp [gZ,bW,newL,ia,gP,aR,aQ,lk,aV,fY,gk,ga,iD,iC,aB,hD,bf,aG,gw,hJ,iK,aH,iJ,aF,gB,fU,hij,Ne.symm hij]
  ·rw [cz (by omega)]
   refine hN (k+1) _ _ ⟨by omega,fun j hj hji=>?_⟩ (by omega) (bh (by simp [lk]))
   rcases Nat.lt_or_ge j k with h | h
   ·exact hk2 j hj h
   ·obtain rfl:j=k:=by omega
    simpa using hg
 ·have aE:k=ys.length:=by simp at hg;omega
  subst aE
  simp -implicitDefEqProofs only [go_sem,Int.reduceNegSucc]
  refine hX _ _ _ ?_
  repeat' (first | (simp -implicitDefEqProofs only [go_sem,Int.reduceNegSucc]) | (with_reducible refine aA ?_) | ((first | refine ai (fun hg=>?_) (fun hg=>?_) | refine ax (fun hg=>?_) (fun hg=>?_) | refine ay (fun hg=>?_) (fun hg=>?_)) <;> try simp -implicitDefEqProofs only [hg,Bool.not_true,Bool.not_false]) | ((with_reducible apply And.intro);focus (first | trivial | omega | decide | (simp -implicitDefEqProofs only [maxLen];omega) | (simp [maxLen,ah,ak,an,av,aj,au,aq] <;> omega))) | fail)
  refine (hK _ _ _ _ [] (gO _ _) ?_).2
  have:ys.findIdx? p=none:=by
   rw [List.findIdx?_eq_none_iff]
   intro x hx
   obtain ⟨j,hj,rfl⟩:=List.getElem_of_mem hx
   exact hk2 j hj hj
  rw [this]
  simp [gZ,bW,newL,ia,gP,aR,aQ,lk,aV,fY,gk,ga,iD,iC,aB,hD,bf,aG,gw,hJ,iK,aH,iJ,aF,gB,fU,hij,Ne.symm hij]
def iy (ys:List Int) (p:Int→Bool):List Int:=ys.filter fun y=>!p y
def mz (ys:List Int) (p:Int→Bool):List Int:=iy ys p++List.replicate (ys.length - (iy ys p).length) 0
theorem Uc (ys:List Int) (hb:ys.length≤8589934592) :
 aI Go.Proofs.Tryz.prog 100 [.row i v ys.length,.fn f [.ptr j 0]] [(i,.row 1 v (aN (aM ys))),(j,.var [.rv cap])] [(i,.row 1 v (aN (aM (mz ys p))))] (.row i v (iy ys p).length):=by
 refine xL Ra [i,j] [.row 1 v (aN (aM ys)),.var [.rv cap]] [.row 1 v (aN (aM ys)),.var [.rv cap]] [.row 0 v ys.length,.fn f [.ptr 1 0]] [.row i v ys.length,.fn f [.ptr j 0]] _ _ (by simp) (by simp [aO,lD,bg,lP]) rfl (by simp [bW,hij]) rfl (Dp DF (Al (by simp [aO,lP,lD,aS,aW,nY,bg,nZ,nX,ig,nQ,bW]))) (fun K hK=>?_)
 have yF:=Ug f 0 1 v cap p (by decide) hf ys hb
 conv in fc _ _ _ _=>reduce
 simp -implicitDefEqProofs only [go_sem,Int.reduceNegSucc]
 cases pq:ys.findIdx? p with
 | none=>
   rw [pq] at yF
   have hno:iy ys p=ys:=by
    rw [List.findIdx?_eq_none_iff] at pq
    exact List.filter_eq_self.2 fun a ha=>by rw [pq a ha];rfl
   have e1:((-1:Int) == -1)=true:=rfl
   have bL:=yF;repeat' (first | (simp -implicitDefEqProofs only [go_sem,Int.reduceNegSucc,e1]) | (with_reducible refine aA ?_) | (refine bS bL ?_ ?_ ?_;(focus (simp [aY,aB] <;> fail));(focus (simp [bq,aX] <;> fail))) | (refine ck bL ?_ ?_ ?_;(focus (simp [aY,aB] <;> fail));(focus (simp [bq,aX] <;> fail))) | ((first | refine ai (fun hg=>?_) (fun hg=>?_) | refine ax (fun hg=>?_) (fun hg=>?_) | refine ay (fun hg=>?_) (fun hg=>?_)) <;> try simp -implicitDefEqProofs only [hg,Bool.not_true,Bool.not_false]) | ((with_reducible apply And.intro);focus (first | trivial | omega | decide | (simp -implicitDefEqProofs only [maxLen];omega) | (simp [maxLen,ah,ak,an,av,aj,au,aq] <;> omega))) | fail)
   refine (hK _ _ _ _ [] (gO _ _) ?_).2
   simp [gZ,bW,newL,ia,gP,aR,aQ,lk,aV,fY,gk,ga,iD,iC,aB,hD,bf,aG,gw,hJ,iK,aH,iJ,aF,gB,fU,hij,Ne.symm hij,hno,mz]
 | some k0=>
   rw [pq] at yF
   rw [List.findIdx?_eq_some_iff_getElem] at pq
   obtain ⟨gA,kC,ql⟩:=pq
   have e1:(((k0:Nat):Int) == -1)=false:=by simp
   have w0:=cz (k:=k0) (by omega)
   have bQ:=yF;repeat' (first | (simp -implicitDefEqProofs only [go_sem,Int.reduceNegSucc,e1,w0]) | (with_reducible refine aA ?_) | (refine bS bQ ?_ ?_ ?_;(focus (simp [aY,aB] <;> fail));(focus (simp [bq,aX] <;> fail))) | (refine ck bQ ?_ ?_ ?_;(focus (simp [aY,aB] <;> fail));(focus (simp [bq,aX] <;> fail))) | ((first | refine ai (fun hg=>?_) (fun hg=>?_) | refine ax (fun hg=>?_) (fun hg=>?_) | refine ay (fun hg=>?_) (fun hg=>?_)) <;> try simp -implicitDefEqProofs only [hg,Bool.not_true,Bool.not_false]) | ((with_reducible apply And.intro);focus (first | trivial | omega | decide | (simp -implicitDefEqProofs only [maxLen];omega) | (simp [maxLen,ah,ak,an,av,aj,au,aq] <;> omega))) | fail)
   let kept:Nat→List Int:=fun j=>iy (ys.take j) p
   have Rx:∀ j,(kept j).length≤j:=fun j=>by
    have:=List.length_filter_le (fun y=>!p y) (ys.take j)
    simp -implicitDefEqProofs only [List.length_take] at this
    show (iy (ys.take j) p).length≤j
    unfold iy;omega
   have Gu:∀ j (h:j<ys.length),kept (j+1)=kept j++if p (ys[j]'h)=true then [] else [ys[j]'h]:=fun j h=>by
    show iy _ _=iy _ _++_
    rw [List.take_succ_eq_append_getElem h]
    unfold iy
    rw [List.filter_append]
    cases jh:p (ys[j]'h) <;> simp [jh]
   have Rw:kept k0=ys.take k0:=List.filter_eq_self.2 fun a ha=>by
    obtain ⟨q,hq,rfl⟩:=List.getElem_of_mem ha
    have NW:q<k0:=by simp at hq;omega
    have:=ql q NW
    simp -implicitDefEqProofs only [Bool.not_eq_true] at this
    simp [this]
   have Ci:kept (k0+1)=ys.take k0:=by rw [Gu k0 gA,Rw,kC];simp
   refine fE (ι:=List Int×Nat) (fun q=>[(6,.rv (.int .i64 q.2)),(5,.rv (.int .i64 (kept q.2).length)),(0,.row 0 v ys.length),(1,.fn f [.ptr 1 0])]) (fun q=>[some (.row 1 v (aN (aM q.1))),some (.var [.rv cap])]) (fun q=>q.1.length=ys.length∧q.2≤ys.length∧(kept q.2).length<q.2∧q.1.take (kept q.2).length=kept q.2∧q.1.drop q.2=ys.drop q.2) (fun q=>ys.length - q.2) (ys,k0+1) ⟨rfl,gA,?_,?_,rfl⟩ (bh ?_) (fun q hq K' hN hX hR=>?_)
   ·show (kept (k0+1)).length<k0+1
    rw [Ci];simp;omega
   ·show ys.take (kept (k0+1)).length=kept (k0+1)
    rw [Ci];simp
   ·have:(kept (k0+1)).length=k0:=by rw [Ci];simp;omega
    simp [lk,this]
   obtain ⟨zs,j⟩:=q
   obtain ⟨q1,q2,q3,q4,q5⟩:=hq
   dsimp only at q1 q2 q3 q4 q5 ⊢
   simp -implicitDefEqProofs only [go_sem,Int.reduceNegSucc]
   refine ai (fun hg=>?_) (fun hg=>?_)
   ·have hj:j<ys.length:=by simp at hg;omega
    have Bx:zs[j]'(by omega)=ys[j]'hj:=by
     have h1:=List.getElem_drop (xs:=zs) (i:=j) (j:=0) (h:=by simp;omega)
     have h2:=List.getElem_drop (xs:=ys) (i:=j) (j:=0) (h:=by simp;omega)
     simp -implicitDefEqProofs only [Nat.add_zero] at h1 h2
     rw [← h1,← h2]
     congr 1
    have hx:=oC (l:=zs) (i:=j) (by omega)
    rw [Bx] at hx
    have hzl:=aj zs
    have pK:=Gu j hj
    have wj:=cz (k:=j) (by omega)
    have wi:=cz (k:=(kept j).length) (by omega)
    have kE:=oC (l:=zs) (i:=(kept j).length) (by omega)
    have bZ:=hf (ys[j]'hj) 1;repeat' (first | (simp -implicitDefEqProofs only [go_sem,Int.reduceNegSucc,hx,hzl,q1,kE,ni,wj,wi]) | (with_reducible refine aA ?_) | (refine bS bZ ?_ ?_ ?_;(focus (simp [aY,aB] <;> fail));(focus (simp [bq,aX] <;> fail))) | (refine ck bZ ?_ ?_ ?_;(focus (simp [aY,aB] <;> fail));(focus (simp [bq,aX] <;> fail))) | ((first | refine ai (fun hg=>?_) (fun hg=>?_) | refine ax (fun hg=>?_) (fun hg=>?_) | refine ay (fun hg=>?_) (fun hg=>?_)) <;> try simp -implicitDefEqProofs only [hg,Bool.not_true,Bool.not_false]) | ((with_reducible apply And.intro);focus (first | trivial | omega | decide | (simp -implicitDefEqProofs only [maxLen];omega) | (simp [maxLen,ah,ak,an,av,aj,au,aq] <;> omega))) | fail)
    ·have jh:p (ys[j]'hj)=false:=by simpa using hg
     rw [jh] at pK
     simp -implicitDefEqProofs only [Bool.false_eq_true,if_false] at pK
     refine hN (zs.set (kept j).length (ys[j]'hj),j+1) _ _ ⟨by simp [q1],by omega,?_,?_,?_⟩ (by dsimp only;omega) (bh (by simp [lk,pK]))
     ·show (kept (j+1)).length<j+1
      rw [pK];simp;omega
     ·show (zs.set (kept j).length (ys[j]'hj)).take (kept (j+1)).length=kept (j+1)
      rw [pK]
      simp -implicitDefEqProofs only [List.length_append,List.length_singleton]
      rw [List.take_succ_eq_append_getElem (by simp;omega),List.take_set_of_le (by omega),q4]
      simp
     ·show (zs.set (kept j).length (ys[j]'hj)).drop (j+1)=ys.drop (j+1)
      rw [List.drop_set_of_lt (by omega),← List.drop_drop,q5,List.drop_drop]
    ·have jh:p (ys[j]'hj)=true:=by simpa using hg
     rw [jh] at pK
     simp -implicitDefEqProofs only [if_true,List.append_nil] at pK
     refine hN (zs,j+1) _ _ ⟨q1,by omega,?_,?_,?_⟩ (by dsimp only;omega) (bh (by simp [lk,pK]))
     ·show (kept (j+1)).length<j+1
      rw [pK];omega
     ·show zs.take (kept (j+1)).length=kept (j+1)
      rw [pK];exact q4
     ·show zs.drop (j+1)=ys.drop (j+1)
      rw [← List.drop_drop,q5,List.drop_drop]
   ·have hj:j=ys.length:=by simp at hg;omega
    subst hj
    have hkk:kept ys.length=iy ys p:=by show iy (ys.take ys.length) p=_;rw [List.take_length]
    have gI:=Rx ys.length
    rw [hkk] at gI q4 q3
    simp -implicitDefEqProofs only [hkk,go_sem,Int.reduceNegSucc]
    refine hX _ _ _ ?_
    have hnz:(((iy ys p).length:Int)=0)=((iy ys p).length=0):=propext (by omega)
    repeat' (first | (simp -implicitDefEqProofs only [go_sem,Int.reduceNegSucc]) | (with_reducible refine aA ?_) | ((first | refine ai (fun hg=>?_) (fun hg=>?_) | refine ax (fun hg=>?_) (fun hg=>?_) | refine ay (fun hg=>?_) (fun hg=>?_)) <;> try simp -implicitDefEqProofs only [hg,Bool.not_true,Bool.not_false]) | ((with_reducible apply And.intro);focus (first | trivial | omega | decide | (simp -implicitDefEqProofs only [maxLen];omega) | (simp [maxLen,ah,ak,an,av,aj,au,aq] <;> omega))) | fail)
    have hrow:aN (List.take (iy ys p).length (aM zs))++List.replicate (ys.length - (iy ys p).length) [SV.rv (.int .i64 0)]++List.drop ((iy ys p).length+(List.replicate (ys.length - (iy ys p).length) [SV.rv (.int .i64 0)]).length) (aN (aM zs))=aN (aM (mz ys p)):=by
     rw [List.drop_of_length_le (by simp [au,aj];omega),List.append_nil,zH,show List.take (iy ys p).length (aM zs)=aM (zs.take (iy ys p).length) by simp [aM,List.map_take],q4,Ik]
     simp [aM,mz]
    rw [hrow]
    refine (hK _ _ _ _ [] (gO _ _) ?_).2
    simp [gZ,bW,newL,ia,gP,aR,aQ,lk,aV,fY,gk,ga,iD,iC,aB,hD,bf,aG,gw,hJ,iK,aH,iJ,aF,gB,fU,hij,Ne.symm hij]
end
section
variable (l:List Nd) (n:Int)
theorem Iv (hb:l.length≤8589934592) (m:Nat):aI Go.Proofs.Tryz.prog 76 [.rv (cu l),.rv (.int .i64 n)] [] [(m,.row 1 1 (aN (aM (mz (br (iu l n)) fun m=>!iE l m))))] (.row m 1 (bu l n).length):=by
 refine mV QA [] [] [] [.rv (cu l),.rv (.int .i64 n)] [.rv (cu l),.rv (.int .i64 n)] _ _ (by simp) (by simp [aO,aS]) rfl (by simp [bW]) (by simp [ig]) (fun K hK=>?_)
 have gI:=Gv l n
 have hkn:=GY (iu l n)
 have hd:=Uc 102 1 0 1 (cu l) (fun m=>!iE l m) (by decide) (fun m j=>Ue l m j) (br (iu l n)) (by rw [hkn];omega)
 rw [hkn] at hd
 have hfl:(iy (br (iu l n)) fun m=>!iE l m).length=(bu l n).length:=by
  unfold iy bu br
  rw [List.filter_map,List.length_map]
  simp [Function.comp_def]
 rw [hfl] at hd
 conv in fc _ _ _ _=>reduce
 simp -implicitDefEqProofs only [go_sem,Int.reduceNegSucc]
 refine bS (Uj l n 1 hb) (by simp [aY,aB]) (by simp [bq,aX]) ?_
 have cm:=hd;repeat' (first | (simp -implicitDefEqProofs only [go_sem,Int.reduceNegSucc]) | (with_reducible refine aA ?_) | (refine bS cm ?_ ?_ ?_;(focus (simp [aY,aB] <;> fail));(focus (simp [bq,aX] <;> fail))) | (refine ck cm ?_ ?_ ?_;(focus (simp [aY,aB] <;> fail));(focus (simp [bq,aX] <;> fail))) | ((first | refine ai (fun hg=>?_) (fun hg=>?_) | refine ax (fun hg=>?_) (fun hg=>?_) | refine ay (fun hg=>?_) (fun hg=>?_)) <;> try simp -implicitDefEqProofs only [hg,Bool.not_true,Bool.not_false]) | ((with_reducible apply And.intro);focus (first | trivial | omega | decide | (simp -implicitDefEqProofs only [maxLen];omega) | (simp [maxLen,ah,ak,an,av,aj,au,aq] <;> omega))) | fail)
 refine (hK _ _ _ _ [none,some m] (gO _ _) ?_).2
 simp [gZ,bW,newL,ia,gP,aR,aQ,lk,aV,fY,gk,ga,iD,iC,aB,hD,bf,aG,gw,hJ,iK,aH,iJ,aF,gB,fU]
theorem Iw (hb:l.length≤8589934592):aI Go.Proofs.Tryz.prog 76 [.rv (cu l),.rv (.int .i64 n)] [] [] (.rv (.sl 1 (aM (br (bu l n))))):=by
 refine KX (rs:=[cu l,.int .i64 n]) (Iv l n hb 0) ?_ ⟨_,.inl rfl⟩
 have hfl:(iy (br (iu l n)) fun m=>!iE l m)=br (bu l n):=by
  unfold iy bu br
  rw [List.filter_map]
  simp [Function.comp_def]
 have pI:(bu l n).length=(br (bu l n)).length:=by simp [br]
 refine .fz _ _ ?_
 have h1:=om (τ:=fun _=>none) (h:=bM (fun _=>none) [(0,HB.row 1 1 (aN (aM (mz (br (iu l n)) fun m=>!iE l m))))]) (j:=0) (e:=1) (az:=1) (len:=(bu l n).length) (xs:=aM (mz (br (iu l n)) fun m=>!iE l m)) (by simp [bM,up]) rfl (by rw [aj,mz,List.length_append,hfl,← pI];omega) (kN _)
 rw [show (aM (mz (br (iu l n)) fun m=>!iE l m)).take (bu l n).length=aM (br (bu l n)) by
  rw [pI]
  simp -implicitDefEqProofs only [aM,← List.map_take,mz,hfl]
  rw [List.take_left]] at h1
 exact h1
end
end Go.aL

namespace Go.aL
open Go
theorem PR:aU Go.Proofs.Tryz.prog 31 27 (fc Go.Proofs.Tryz.prog 31 27 [(.t 4)]) [(.t 4)]:=bl (by kernel_rfl)
theorem PS:aU Go.Proofs.Tryz.prog 17 21 (fc Go.Proofs.Tryz.prog 17 21 [(.t 4)]) [(.t 4)]:=bl (by kernel_rfl)
theorem PO:aU Go.Proofs.Tryz.prog 69 40 (fc Go.Proofs.Tryz.prog 69 40 [(.t 4)]) [(.t 4)]:=bl (by kernel_rfl)
theorem De {l:List Nd} (ht:fW l=true):gx l:=wL.1 (by unfold fW at ht;simp -implicitDefEqProofs only [Bool.and_eq_true] at ht;exact ht.1)
theorem VN {l:List Nd} (ht:fW l=true) {k:Nat} (hk:k<l.length):jq (l[k]'hk).s=true:=by
 unfold fW at ht
 simp -implicitDefEqProofs only [Bool.and_eq_true,List.all_eq_true] at ht
 exact ht.2 _ (List.getElem_mem hk)
theorem VL {s:aC} (h:jq s=true):0≤s.position∧s.position≤3:=by
 unfold jq tf at h
 simp -implicitDefEqProofs only [Bool.and_eq_true,decide_eq_true_eq] at h
 exact ⟨h.2.1.1.1.1,h.2.1.1.1.2⟩
theorem DW {l:List Nd} (h:kT l=0):fW l=true:=by
 unfold kT at h
 cases ht:fW l with
 | true=>rfl
 | false=>rw [ht] at h;simp at h
theorem Oq (l:List Nd) (n:Int):(n<0∧ic l n=false)∨((l.length:Int)≤n∧0≤n∧ic l n=false)∨∃ k:Nat,n=k∧k<l.length∧ic l n=true:=by
 by_cases h0:n<0
 ·exact .inl ⟨h0,by simp [ic];omega⟩
 ·by_cases h1:n<l.length
  ·exact .inr (.inr ⟨n.toNat,by omega,by omega,by simp [ic];omega⟩)
  ·exact .inr (.inl ⟨by omega,by omega,by simp [ic];omega⟩)
theorem zP (l:List Nd) (ht:fW l=true) (n:Int):aI Go.Proofs.Tryz.prog 31 [.rv (.sl 49 (bw l)),.rv (.int .i64 n)] [] [] (.rv (.bool (iA l n))):=by
 refine bt PR [.rv (.sl 49 (bw l)),.rv (.int .i64 n)] _ (by simp) (by simp [aO,aW,bp,aS,bg,aC.sv,Ln.sv,Nd.sv]) (fun K hK=>?_)
 have hlen:=an l
 have hs:=De ht
 conv in fc _ _ _ _=>reduce
 simp -implicitDefEqProofs only [go_sem,Int.reduceNegSucc]
 rcases Oq l n with ⟨h1,hi⟩ | ⟨h1,h0,hi⟩ | ⟨k,rfl,hk,hi⟩
 ·have e1:decide (n<0)=true:=decide_eq_true h1
  repeat' (first | (simp -implicitDefEqProofs only [go_sem,Int.reduceNegSucc,e1,hlen]) | (with_reducible refine aA ?_) | ((first | refine ai (fun hg=>?_) (fun hg=>?_) | refine ax (fun hg=>?_) (fun hg=>?_) | refine ay (fun hg=>?_) (fun hg=>?_)) <;> try simp -implicitDefEqProofs only [hg,Bool.not_true,Bool.not_false]) | ((with_reducible apply And.intro);focus (first | trivial | omega | decide | (simp -implicitDefEqProofs only [maxLen];omega) | (simp [maxLen,ah,ak,an,av,aj,au,aq] <;> omega))) | fail)
  exact (hK _ _ (bO (by simp [iA,hi,lk]))).2
 ·have e1:decide (n<0)=false:=decide_eq_false (by omega)
  have e2:decide (n≥(l.length:Int))=true:=decide_eq_true h1
  repeat' (first | (simp -implicitDefEqProofs only [go_sem,Int.reduceNegSucc,e1,e2,hlen]) | (with_reducible refine aA ?_) | ((first | refine ai (fun hg=>?_) (fun hg=>?_) | refine ax (fun hg=>?_) (fun hg=>?_) | refine ay (fun hg=>?_) (fun hg=>?_)) <;> try simp -implicitDefEqProofs only [hg,Bool.not_true,Bool.not_false]) | ((with_reducible apply And.intro);focus (first | trivial | omega | decide | (simp -implicitDefEqProofs only [maxLen];omega) | (simp [maxLen,ah,ak,an,av,aj,au,aq] <;> omega))) | fail)
  exact (hK _ _ (bO (by simp [iA,hi,lk]))).2
 ·have e1:decide ((k:Int)<0)=false:=decide_eq_false (by omega)
  have e2:decide ((k:Int)≥(l.length:Int))=false:=decide_eq_false (by omega)
  repeat' (first | (simp -implicitDefEqProofs only [go_sem,Int.reduceNegSucc,e1,e2,hlen]) | (with_reducible refine aA ?_) | ((first | refine ai (fun hg=>?_) (fun hg=>?_) | refine ax (fun hg=>?_) (fun hg=>?_) | refine ay (fun hg=>?_) (fun hg=>?_)) <;> try simp -implicitDefEqProofs only [hg,Bool.not_true,Bool.not_false]) | ((with_reducible apply And.intro);focus (first | trivial | omega | decide | (simp -implicitDefEqProofs only [maxLen];omega) | (simp [maxLen,ah,ak,an,av,aj,au,aq] <;> omega))) | fail)
  refine fE (ι:=Nat) (fun i=>[(1,.rv (.int .i64 (kK (bz l k) i))),(0,.rv (.sl 49 (bw l)))]) (fun _=>[]) (fun i=>i≤(bz l k).length∧((bz l k).drop i).all (pR l)=(bz l k).all (pR l)) (fun i=>(bz l k).length - i) 0 (by simp) (by rw [uU];exact bh (by simp [lk])) (fun i hi' K' hN hX hR=>?_)
  obtain ⟨hi1,hi2⟩:=hi'
  simp -implicitDefEqProofs only [go_sem,Int.reduceNegSucc]
  refine ai (fun hg=>?_) (fun hg=>?_)
  ·have fH:i<(bz l k).length:=qD.1 (by simpa using hg)
   have iX:=uT fH
   have hlt:(bz l k)[i]<l.length:=zA hk fH
   have hx:=iS hlt
   have hpar:=lZ hlt
   have ox:=zu hs.wf k hk i fH
   have hsh:=CP hlt
   have hs0:((l[(bz l k)[i]]'hlt).cells)[0]?=some (.bool (l[(bz l k)[i]]'hlt).s.shown):=rfl
   repeat' (first | (simp -implicitDefEqProofs only [go_sem,Int.reduceNegSucc,hlen,ak,kO,iX,hx,hpar,ox,hs0,hsh]) | (with_reducible refine aA ?_) | ((first | refine ai (fun hg=>?_) (fun hg=>?_) | refine ax (fun hg=>?_) (fun hg=>?_) | refine ay (fun hg=>?_) (fun hg=>?_)) <;> try simp -implicitDefEqProofs only [hg,Bool.not_true,Bool.not_false]) | ((with_reducible apply And.intro);focus (first | trivial | omega | decide | (simp -implicitDefEqProofs only [maxLen];omega) | (simp [maxLen,ah,ak,an,av,aj,au,aq] <;> omega))) | fail)
   ·refine hR _ _ (hK _ _ (bO ?_)).2
    have:(bz l k).all (pR l)=false:=oW fH hi2 (by simpa using hg)
    simp [iA,hi,mJ,this,lk]
   ·exact hN (i+1) _ _ ⟨by omega,oX fH hi2 (by simpa using hg)⟩ (by omega) (bh (by simp [lk]))
  ·have fH:¬ i<(bz l k).length:=fun h=>by have:=qD.2 h;simp at hg;omega
   simp -implicitDefEqProofs only [go_sem,Int.reduceNegSucc]
   refine hX _ _ _ ?_
   repeat' (first | (simp -implicitDefEqProofs only [go_sem,Int.reduceNegSucc]) | (with_reducible refine aA ?_) | ((first | refine ai (fun hg=>?_) (fun hg=>?_) | refine ax (fun hg=>?_) (fun hg=>?_) | refine ay (fun hg=>?_) (fun hg=>?_)) <;> try simp -implicitDefEqProofs only [hg,Bool.not_true,Bool.not_false]) | ((with_reducible apply And.intro);focus (first | trivial | omega | decide | (simp -implicitDefEqProofs only [maxLen];omega) | (simp [maxLen,ah,ak,an,av,aj,au,aq] <;> omega))) | fail)
   refine (hK _ _ (bO ?_)).2
   have:=oV (by omega) hi2
   simp [iA,hi,mJ,this,lk]
theorem zQ (l:List Nd) (ht:fW l=true) (n:Int):aI Go.Proofs.Tryz.prog 17 [.rv (.sl 49 (bw l)),.rv (.int .i64 n)] [] [] (.rv (.bool (jw l n))):=by
 refine bt PS [.rv (.sl 49 (bw l)),.rv (.int .i64 n)] _ (by simp) (by simp [aO,aW,bp,aS,bg,aC.sv,Ln.sv,Nd.sv]) (fun K hK=>?_)
 have hlen:=an l
 have hm:=zP l ht n
 conv in fc _ _ _ _=>reduce
 simp -implicitDefEqProofs only [go_sem,Int.reduceNegSucc]
 cases hi:iA l n with
 | false=>
   rw [hi] at hm
   have aT:=hm;repeat' (first | (simp -implicitDefEqProofs only [go_sem,Int.reduceNegSucc]) | (with_reducible refine aA ?_) | (with_reducible first | refine af aT ?_ | refine ag aT ?_) | ((first | refine ai (fun hg=>?_) (fun hg=>?_) | refine ax (fun hg=>?_) (fun hg=>?_) | refine ay (fun hg=>?_) (fun hg=>?_)) <;> try simp -implicitDefEqProofs only [hg,Bool.not_true,Bool.not_false]) | ((with_reducible apply And.intro);focus (first | trivial | omega | decide | (simp -implicitDefEqProofs only [maxLen];omega) | (simp [maxLen,ah,ak,an,av,aj,au,aq] <;> omega))) | fail)
   all_goals exact (hK _ _ (bO (by simp [jw,hi,lk]))).2
 | true=>
   rw [hi] at hm
   have hin:ic l n=true:=by simp [iA] at hi;exact hi.1
   obtain ⟨k,rfl,hk⟩:=pM hin
   have hx:=iS hk
   have hs:bP l k=(l[k]'hk).s:=by simp [bP,hin,hk]
   obtain ⟨q1,q2⟩:=VL (VN ht hk)
   have hp:((l[k]'hk).cells.drop 1)[0]?=some (.int .i64 (l[k]'hk).s.position):=rfl
   have y_2:=hm;repeat' (first | (simp -implicitDefEqProofs only [go_sem,Int.reduceNegSucc,hx,hlen,ak,hp]) | (with_reducible refine aA ?_) | (with_reducible first | refine af y_2 ?_ | refine ag y_2 ?_) | ((first | refine ai (fun hg=>?_) (fun hg=>?_) | refine ax (fun hg=>?_) (fun hg=>?_) | refine ay (fun hg=>?_) (fun hg=>?_)) <;> try simp -implicitDefEqProofs only [hg,Bool.not_true,Bool.not_false]) | ((with_reducible apply And.intro);focus (first | trivial | omega | decide | (simp -implicitDefEqProofs only [maxLen];omega) | (simp [maxLen,ah,ak,an,av,aj,au,aq] <;> omega))) | fail)
   ·refine (hK _ _ (bO ?_)).2
    simp -implicitDefEqProofs only [lk,if_true,jw,hi,hs]
    clear hK hs hp
    simp at hg
    congr 2
    rw [Bool.eq_iff_iff];simp;omega
   ·refine (hK _ _ (bO ?_)).2
    simp -implicitDefEqProofs only [lk,if_true,jw,hi,hs]
    clear hK hs hp
    simp at hg
    simp [hg]
def gz (l:List Nd) (k p:Nat):List Nat:=(bG l k p).filter fun (m:Nat)=>iE l m
theorem Me {l:List Nd} {k p:Nat}:(gz l k p).length≤k:=by
 have:=List.length_filter_le (fun (m:Nat)=>iE l m) (bG l k p)
 have:=sP (l:=l) (k:=k) (p:=p)
 unfold gz;omega
theorem Vm (l:List Nd) (ht:fW l=true) (hb:l.length≤8589934592) (n:Nat) (hn:n<l.length):aI Go.Proofs.Tryz.prog 69 [.rv (.sl 49 (bw l)),.rv (.int .i64 n)] [] [] (.rv (.sl 1 (aM (br (bu l n))))):=by
 refine bt PO [.rv (.sl 49 (bw l)),.rv (.int .i64 n)] _ (by simp) (by simp [aO,aW,bp,aS,bg,aC.sv,Ln.sv,Nd.sv]) (fun K hK=>?_)
 have hlen:=an l
 conv in fc _ _ _ _=>reduce
 simp -implicitDefEqProofs only [hlen,go_sem,Int.reduceNegSucc]
 refine fE (ι:=Nat) (fun k=>[(9,.rv (.int .i64 k)),(8,.rv (.int .i64 l.length)),(5,.row 0 (gz l k n).length (gz l k n).length),(0,.rv (.sl 49 (bw l))),(1,.rv (.int .i64 n))]) (fun k=>[some (.row 1 (gz l k n).length (aN (aM (br (gz l k n)))))]) (fun k=>k≤l.length) (fun k=>l.length - k) 0 (by simp) ((qL 5 1 0 rfl).trans (bh (by simp [lk,gz,uh]))) (fun k hk K' hN hX hR=>?_)
 simp -implicitDefEqProofs only [go_sem,Int.reduceNegSucc]
 refine ai (fun hg=>?_) (fun hg=>?_)
 ·have aE:k<l.length:=by simp at hg;omega
  have hx:=iS aE
  have hpk:=lZ aE
  have wu:=cz (k:=k) (by omega)
  have gI:=Me (l:=l) (k:=k) (p:=n)
  have hs:=ug (l:=l) (k:=k) (p:=n)
  have hm:=zP l ht k
  have ho:=zQ l ht k
  have stay:gz l (k+1) n=gz l k n→∀ e,ij 1 e [(9,.rv (.int .i64 (k+1:Nat))),(8,.rv (.int .i64 l.length)),(5,.row 0 (gz l k n).length (gz l k n).length),(0,.rv (.sl 49 (bw l))),(1,.rv (.int .i64 n))]→K' .normal ⟨e,[some (.row 1 (gz l k n).length (aN (aM (br (gz l k n)))))]⟩:=fun hs e he=>by
   refine hN (k+1) _ _ (by omega) (by omega) ?_
   rw [hs]
   have:=nA (n0:=0) (env:=e) (h':=[some (.row 1 (gz l k n).length (aN (aM (br (gz l k n)))))]) (C:=[]) (by simp) ⟨iV,trivial⟩ he
   simpa using this
  by_cases hc:0<k∧bE l k=n
  ·rw [if_pos hc] at hs
   have e1:decide ((k:Int)>0)=true:=decide_eq_true (by omega)
   have e2:(bE l k ==(n:Int))=true:=by simp [hc.2]
   have fs:gz l (k+1) n=gz l k n++if iE l k=true then [k] else []:=by
    unfold gz
    rw [hs,List.filter_append]
    cases hst:iE l k <;> simp [hst]
   cases hmk:iA l k with
   | false=>
     rw [hmk] at hm
     have bA:=hm;repeat' (first | (simp -implicitDefEqProofs only [go_sem,Int.reduceNegSucc,e1,e2,hlen,hx,ak,kO,hpk,wu]) | (with_reducible refine aA ?_) | (with_reducible first | refine af bA ?_ | refine ag bA ?_) | ((first | refine ai (fun hg=>?_) (fun hg=>?_) | refine ax (fun hg=>?_) (fun hg=>?_) | refine ay (fun hg=>?_) (fun hg=>?_)) <;> try simp -implicitDefEqProofs only [hg,Bool.not_true,Bool.not_false]) | ((with_reducible apply And.intro);focus (first | trivial | omega | decide | (simp -implicitDefEqProofs only [maxLen];omega) | (simp [maxLen,ah,ak,an,av,aj,au,aq] <;> omega))) | fail)
     refine stay ?_ _ (by simp [ij,lk,jU,jF])
     rw [fs];simp [iE,hmk]
   | true=>
     rw [hmk] at hm
     cases hok:jw l k with
     | true=>
       rw [hok] at ho
       have bC:=hm;have bH:=ho;repeat' (first | (simp -implicitDefEqProofs only [go_sem,Int.reduceNegSucc,e1,e2,hlen,hx,ak,kO,hpk,wu]) | (with_reducible refine aA ?_) | (with_reducible first | refine af bC ?_ | refine ag bC ?_) | (with_reducible first | refine af bH ?_ | refine ag bH ?_) | ((first | refine ai (fun hg=>?_) (fun hg=>?_) | refine ax (fun hg=>?_) (fun hg=>?_) | refine ay (fun hg=>?_) (fun hg=>?_)) <;> try simp -implicitDefEqProofs only [hg,Bool.not_true,Bool.not_false]) | ((with_reducible apply And.intro);focus (first | trivial | omega | decide | (simp -implicitDefEqProofs only [maxLen];omega) | (simp [maxLen,ah,ak,an,av,aj,au,aq] <;> omega))) | fail)
       refine stay ?_ _ (by simp [ij,lk,jU,jF])
       rw [fs];simp [iE,hok]
     | false=>
       rw [hok] at ho
       have hst:iE l k=true:=by simp [iE,hmk,hok]
       rw [hst] at fs
       simp -implicitDefEqProofs only [if_true] at fs
       have htl:(aM (br (gz l k n))).length=(gz l k n).length:=by simp [aM,br]
       have jk:(aM (br (gz l k n))).take (gz l k n).length=aM (br (gz l k n)):=List.take_of_length_le (by omega)
       have hap:br (gz l k n)++[(k:Int)]=br (gz l (k+1) n):=by rw [fs];simp [br]
       have pI:(gz l (k+1) n).length=(gz l k n).length+1:=by rw [fs];simp
       have bJ:=hm;have bL:=ho;repeat' (first | (simp -implicitDefEqProofs only [go_sem,Int.reduceNegSucc,e1,e2,hlen,hx,ak,kO,hpk,wu,htl,jk,mL,hap]) | (with_reducible refine aA ?_) | (with_reducible first | refine af bJ ?_ | refine ag bJ ?_) | (with_reducible first | refine af bL ?_ | refine ag bL ?_) | ((first | refine ai (fun hg=>?_) (fun hg=>?_) | refine ax (fun hg=>?_) (fun hg=>?_) | refine ay (fun hg=>?_) (fun hg=>?_)) <;> try simp -implicitDefEqProofs only [hg,Bool.not_true,Bool.not_false]) | ((with_reducible apply And.intro);focus (first | trivial | omega | decide | (simp -implicitDefEqProofs only [maxLen];omega) | (simp [maxLen,ah,ak,an,av,aj,au,aq] <;> omega))) | fail)
       refine hN (k+1) _ _ (by omega) (by omega) ?_
       rw [pI]
       exact nA (h':=[some (.row 1 ((gz l k n).length+1) (aN (aM (br (gz l (k+1) n)))))]) (C:=[some (.row 1 0 [[.rv (.int .i64 k)]])]) (by simp) ⟨iV,trivial⟩ (by simp [ij,lk,jU,jF])
  ·rw [if_neg hc,List.append_nil] at hs
   have hs':gz l (k+1) n=gz l k n:=by unfold gz;rw [hs]
   by_cases h0:0<k
   ·have e1:decide ((k:Int)>0)=true:=decide_eq_true (by omega)
    have e2:(bE l k ==(n:Int))=false:=by
     rw [Bool.eq_false_iff];intro h;exact hc ⟨h0,by simpa using h⟩
    repeat' (first | (simp -implicitDefEqProofs only [go_sem,Int.reduceNegSucc,e1,e2,hlen,hx,ak,kO,hpk,wu]) | (with_reducible refine aA ?_) | ((first | refine ai (fun hg=>?_) (fun hg=>?_) | refine ax (fun hg=>?_) (fun hg=>?_) | refine ay (fun hg=>?_) (fun hg=>?_)) <;> try simp -implicitDefEqProofs only [hg,Bool.not_true,Bool.not_false]) | ((with_reducible apply And.intro);focus (first | trivial | omega | decide | (simp -implicitDefEqProofs only [maxLen];omega) | (simp [maxLen,ah,ak,an,av,aj,au,aq] <;> omega))) | fail)
    exact stay hs' _ (by simp [ij,lk,jU,jF])
   ·have e1:decide ((k:Int)>0)=false:=decide_eq_false (by omega)
    repeat' (first | (simp -implicitDefEqProofs only [go_sem,Int.reduceNegSucc,e1,wu]) | (with_reducible refine aA ?_) | ((first | refine ai (fun hg=>?_) (fun hg=>?_) | refine ax (fun hg=>?_) (fun hg=>?_) | refine ay (fun hg=>?_) (fun hg=>?_)) <;> try simp -implicitDefEqProofs only [hg,Bool.not_true,Bool.not_false]) | ((with_reducible apply And.intro);focus (first | trivial | omega | decide | (simp -implicitDefEqProofs only [maxLen];omega) | (simp [maxLen,ah,ak,an,av,aj,au,aq] <;> omega))) | fail)
    exact stay hs' _ (by simp [ij,lk,jU,jF])
 ·have aE:k=l.length:=by simp at hg;omega
  subst aE
  have hfa:gz l l.length n=bu l n:=by
   unfold gz bu iu
   rw [if_pos (sM hn)];rfl
  simp -implicitDefEqProofs only [go_sem,Int.reduceNegSucc]
  refine hX _ _ _ ?_
  repeat' (first | (simp -implicitDefEqProofs only [go_sem,Int.reduceNegSucc]) | (with_reducible refine aA ?_) | ((first | refine ai (fun hg=>?_) (fun hg=>?_) | refine ax (fun hg=>?_) (fun hg=>?_) | refine ay (fun hg=>?_) (fun hg=>?_)) <;> try simp -implicitDefEqProofs only [hg,Bool.not_true,Bool.not_false]) | ((with_reducible apply And.intro);focus (first | trivial | omega | decide | (simp -implicitDefEqProofs only [maxLen];omega) | (simp [maxLen,ah,ak,an,av,aj,au,aq] <;> omega))) | fail)
  rw [hfa]
  exact (hK _ _ ⟨trivial,pQ (xs:=aM (br (bu l n))) rfl rfl (by simp [aM,br]) (kN _)⟩).2
def WM (l:List Nd) (n:Int) (i:Nat):Int:=if ic l n=true∧n<i then (if (i:Int)<AM l n then (i:Int) else AM l n) else 0
end Go.aL

namespace Go.aL
open Go
theorem zj (xs:List Nat):(aM (br xs)).length=xs.length:=by simp [aM,br]
def Wt (p:Int→Bool) (xs:List Nat):Int:=match xs.find? (fun (m:Nat)=>p m) with
 | some k=>k
 | none=>-1
end Go.aL

namespace Go.aL
open Go
theorem Ql:aU Go.Proofs.Tryz.prog 74 9 (fc Go.Proofs.Tryz.prog 74 9 [(.t 2)]) [(.t 2)]:=bl (by kernel_rfl)
theorem Qo:aU Go.Proofs.Tryz.prog 44 47 (fc Go.Proofs.Tryz.prog 44 47 [(.t 2),(.t 3)]) [(.t 2),(.t 3)]:=bl (by kernel_rfl)
theorem Qk:aU Go.Proofs.Tryz.prog 95 12 (fc Go.Proofs.Tryz.prog 95 12 [(.t 6)]) [(.t 6)]:=bl (by kernel_rfl)
theorem PC:aU Go.Proofs.Tryz.prog 47 9 (fc Go.Proofs.Tryz.prog 47 9 [(.t 2)]) [(.t 2)]:=bl (by kernel_rfl)
theorem PE:aU Go.Proofs.Tryz.prog 34 30 (fc Go.Proofs.Tryz.prog 34 30 [(.t 2),(.t 3)]) [(.t 2),(.t 3)]:=bl (by kernel_rfl)
theorem PB:aU Go.Proofs.Tryz.prog 38 16 (fc Go.Proofs.Tryz.prog 38 16 [(.t 6)]) [(.t 6)]:=bl (by kernel_rfl)
def bR (x:Int):Bool:=decide (x≥-1125899906842624) && decide (x≤1125899906842624)
theorem jf {x:Int}:bR x=true↔-1125899906842624≤x∧x≤1125899906842624:=by simp [bR]
def fV (xs:List Int):Bool:=xs.all bR && bR xs.sum
def cv (xs:List Int):Int:=if fV xs=true then xs.sum else 0
theorem wM (a:Int):a.fdiv (2 ^ min 25 64)=a / 33554432:=by
 rw [Int.fdiv_eq_ediv_of_nonneg _ (by decide)];rfl
theorem Ky (a:Int):IntKind.i64.wrap ((BitVec.ofInt 64 a &&& BitVec.ofInt 64 33554431).toNat:Int)=a % 33554432:=by
 have h1:(BitVec.ofInt 64 a &&& BitVec.ofInt 64 33554431).toNat=(BitVec.ofInt 64 a).toNat % 33554432:=by
  show (BitVec.ofInt 64 a &&& BitVec.ofInt 64 33554431).toNat=_
  rw [BitVec.toNat_and]
  exact Nat.and_two_pow_sub_one_eq_mod _ 25
 have h2:(((BitVec.ofInt 64 a).toNat % 33554432:Nat):Int)=a % 33554432:=by
  rw [BitVec.toNat_ofInt]
  omega
 rw [h1,h2,wrap_i64 (by omega) (by omega)]
theorem uS (a:Int):IntKind.i64.wrap ((@BitVec.toNat 64 (@HAnd.hAnd (BitVec 64) (BitVec 64) (BitVec 64) (@instHAndOfAndOp (BitVec IntKind.i64.bits) (@BitVec.instAndOp IntKind.i64.bits)) (BitVec.ofInt 64 a) (BitVec.ofInt 64 33554431)):Nat):Int)=a % 33554432:=Ky a
theorem mg (x:Int):aI Go.Proofs.Tryz.prog 74 [.rv (.int .i64 x)] [] [] (.rv (.bool (bR x))):=by
 refine bt Ql [.rv (.int .i64 x)] _ (by simp) (by simp [aO,aW,bp,aS,bg,aC.sv,Ln.sv,Nd.sv]) (fun K hK=>?_)
 conv in fc _ _ _ _=>reduce
 simp -implicitDefEqProofs only [go_sem,Int.reduceNegSucc]
 repeat' (first | (simp -implicitDefEqProofs only [go_sem,Int.reduceNegSucc]) | (with_reducible refine aA ?_) | ((first | refine ai (fun hg=>?_) (fun hg=>?_) | refine ax (fun hg=>?_) (fun hg=>?_) | refine ay (fun hg=>?_) (fun hg=>?_)) <;> try simp -implicitDefEqProofs only [hg,Bool.not_true,Bool.not_false]) | ((with_reducible apply And.intro);focus (first | trivial | omega | decide | (simp -implicitDefEqProofs only [maxLen];omega) | (simp [maxLen,ah,ak,an,av,aj,au,aq] <;> omega))) | fail)
 all_goals (refine (hK _ _ (bO ?_)).2;clear hK;simp_all [lk,bR];try (intro _;omega))
theorem kj (x:Int):aI Go.Proofs.Tryz.prog 47 [.rv (.int .i64 x)] [] [] (.rv (.bool (bR x))):=by
 refine bt PC [.rv (.int .i64 x)] _ (by simp) (by simp [aO,aW,bp,aS,bg,aC.sv,Ln.sv,Nd.sv]) (fun K hK=>?_)
 conv in fc _ _ _ _=>reduce
 simp -implicitDefEqProofs only [go_sem,Int.reduceNegSucc]
 repeat' (first | (simp -implicitDefEqProofs only [go_sem,Int.reduceNegSucc]) | (with_reducible refine aA ?_) | ((first | refine ai (fun hg=>?_) (fun hg=>?_) | refine ax (fun hg=>?_) (fun hg=>?_) | refine ay (fun hg=>?_) (fun hg=>?_)) <;> try simp -implicitDefEqProofs only [hg,Bool.not_true,Bool.not_false]) | ((with_reducible apply And.intro);focus (first | trivial | omega | decide | (simp -implicitDefEqProofs only [maxLen];omega) | (simp [maxLen,ah,ak,an,av,aj,au,aq] <;> omega))) | fail)
 all_goals (refine (hK _ _ (bO ?_)).2;clear hK;simp_all [lk,bR];try (intro _;omega))
def WR (x:Ln) (d:Int):Int:=if x.kind=1 then x.n else d
def jV (v lo hi:Int):Int:=if (if v>hi then hi else v)<lo then lo else (if v>hi then hi else v)
theorem UZ (v lo hi:Int):aI Go.Proofs.Tryz.prog 38 [.rv (.int .i64 v),.rv (.int .i64 lo),.rv (.int .i64 hi)] [] [] (.rv (.int .i64 (jV v lo hi))):=by
 refine bt PB [.rv (.int .i64 v),.rv (.int .i64 lo),.rv (.int .i64 hi)] _ (by simp) (by simp [aO,aW,bp,aS,bg,aC.sv,Ln.sv,Nd.sv]) (fun K hK=>?_)
 conv in fc _ _ _ _=>reduce
 simp -implicitDefEqProofs only [go_sem,Int.reduceNegSucc]
 repeat' (first | (simp -implicitDefEqProofs only [go_sem,Int.reduceNegSucc]) | (with_reducible refine aA ?_) | ((first | refine ai (fun hg=>?_) (fun hg=>?_) | refine ax (fun hg=>?_) (fun hg=>?_) | refine ay (fun hg=>?_) (fun hg=>?_)) <;> try simp -implicitDefEqProofs only [hg,Bool.not_true,Bool.not_false]) | ((with_reducible apply And.intro);focus (first | trivial | omega | decide | (simp -implicitDefEqProofs only [maxLen];omega) | (simp [maxLen,ah,ak,an,av,aj,au,aq] <;> omega))) | fail)
 all_goals (refine (hK _ _ (bO ?_)).2;clear hK;simp_all [lk,jV];try omega)
theorem Iz (v lo hi:Int):aI Go.Proofs.Tryz.prog 95 [.rv (.int .i64 v),.rv (.int .i64 lo),.rv (.int .i64 hi)] [] [] (.rv (.int .i64 (jV v lo hi))):=by
 refine bt Qk [.rv (.int .i64 v),.rv (.int .i64 lo),.rv (.int .i64 hi)] _ (by simp) (by simp [aO,aW,bp,aS,bg,aC.sv,Ln.sv,Nd.sv]) (fun K hK=>?_)
 conv in fc _ _ _ _=>reduce
 simp -implicitDefEqProofs only [go_sem,Int.reduceNegSucc]
 repeat' (first | (simp -implicitDefEqProofs only [go_sem,Int.reduceNegSucc]) | (with_reducible refine aA ?_) | ((first | refine ai (fun hg=>?_) (fun hg=>?_) | refine ax (fun hg=>?_) (fun hg=>?_) | refine ay (fun hg=>?_) (fun hg=>?_)) <;> try simp -implicitDefEqProofs only [hg,Bool.not_true,Bool.not_false]) | ((with_reducible apply And.intro);focus (first | trivial | omega | decide | (simp -implicitDefEqProofs only [maxLen];omega) | (simp [maxLen,ah,ak,an,av,aj,au,aq] <;> omega))) | fail)
 exact (hK _ _ (bO rfl)).2
theorem Ds {p:Int→Bool} {xs:List Int} (h:∀ i,(h:i<xs.length)→p xs[i]=true):xs.all p=true:=by
 rw [List.all_eq_true];intro x hx
 obtain ⟨i,hi,rfl⟩:=List.getElem_of_mem hx
 exact h i hi
theorem Dc {xs:List Int} {k:Nat} (h:k<xs.length):(xs.take (k+1)).sum=(xs.take k).sum+xs[k]:=by
 rw [List.take_succ_eq_append_getElem h,List.sum_append];simp
theorem Hf {xs:List Int} {i:Nat} (h:i<xs.length) (hf:bR xs[i]=false):fV xs=false:=by
 unfold fV
 rw [show xs.all bR=false from by
  rw [List.all_eq_false];exact ⟨_,List.getElem_mem h,by simp [hf]⟩]
 rfl
theorem Ve (xs:List Int) (hb:xs.length≤1000):aI Go.Proofs.Tryz.prog 34 [.rv (.sl 1 (aM xs))] [] [] (.aP [.rv (.int .i64 (cv xs)),.rv (.bool (fV xs))]):=by
 refine bt PE [.rv (.sl 1 (aM xs))] _ (by simp) (by simp [aO,aW,bp,aS,bg,aC.sv,Ln.sv,Nd.sv]) (fun K hK=>?_)
 have hl:=aj xs
 conv in fc _ _ _ _=>reduce
 simp -implicitDefEqProofs only [hl,go_sem,Int.reduceNegSucc]
 repeat' (first | (simp -implicitDefEqProofs only [go_sem,Int.reduceNegSucc,hl]) | (with_reducible refine aA ?_) | ((first | refine ai (fun hg=>?_) (fun hg=>?_) | refine ax (fun hg=>?_) (fun hg=>?_) | refine ay (fun hg=>?_) (fun hg=>?_)) <;> try simp -implicitDefEqProofs only [hg,Bool.not_true,Bool.not_false]) | ((with_reducible apply And.intro);focus (first | trivial | omega | decide | (simp -implicitDefEqProofs only [maxLen];omega) | (simp [maxLen,ah,ak,an,av,aj,au,aq] <;> omega))) | fail)
 refine fE (ι:=Nat) (fun k=>[(9,.rv (.int .i64 k)),(8,.rv (.int .i64 xs.length)),(4,.rv (.int .i64 (xs.take k).sum)),(5,.rv (.bool true)),(0,.rv (.sl 1 (aM xs)))]) (fun _=>[]) (fun k=>k≤xs.length∧(∀ i,(h:i<xs.length)→i<k→bR xs[i]=true)∧-(1125899906842624*k)≤(xs.take k).sum∧(xs.take k).sum≤1125899906842624*k) (fun k=>xs.length - k) 0 ⟨by simp,fun i _ h=>absurd h (by omega),by simp,by simp⟩ (bh (by simp [lk])) (fun k hk K' hN hX hR=>?_)
 obtain ⟨fJ,hk2,gd,Ft⟩:=hk
 simp -implicitDefEqProofs only [go_sem,Int.reduceNegSucc]
 refine ai (fun hg=>?_) (fun hg=>?_)
 ·have aE:k<xs.length:=by simp at hg;omega
  have hx:=oC aE
  have wu:=cz (k:=k) (by omega)
  have hf:=kj xs[k]
  cases jJ:bR xs[k] with
  | false=>
    rw [jJ] at hf
    have aT:=hf;repeat' (first | (simp -implicitDefEqProofs only [go_sem,Int.reduceNegSucc,hx,hl,wu]) | (with_reducible refine aA ?_) | (with_reducible first | refine af aT ?_ | refine ag aT ?_) | ((first | refine ai (fun hg=>?_) (fun hg=>?_) | refine ax (fun hg=>?_) (fun hg=>?_) | refine ay (fun hg=>?_) (fun hg=>?_)) <;> try simp -implicitDefEqProofs only [hg,Bool.not_true,Bool.not_false]) | ((with_reducible apply And.intro);focus (first | trivial | omega | decide | (simp -implicitDefEqProofs only [maxLen];omega) | (simp [maxLen,ah,ak,an,av,aj,au,aq] <;> omega))) | fail)
    refine hR _ _ (hK _ _ ?_).2
    have:=Hf aE jJ
    exact gL (by simp [lk,cv,this]) (by simp [lk,this])
  | true=>
    rw [jJ] at hf
    have pq:=jf.1 jJ
    have hst:=Dc aE
    have ws:IntKind.i64.wrap ((xs.take k).sum+xs[k])=(xs.take (k+1)).sum:=by rw [wrap_i64 (by omega) (by omega),hst]
    have y_2:=hf;repeat' (first | (simp -implicitDefEqProofs only [go_sem,Int.reduceNegSucc,hx,hl,wu,ws]) | (with_reducible refine aA ?_) | (with_reducible first | refine af y_2 ?_ | refine ag y_2 ?_) | ((first | refine ai (fun hg=>?_) (fun hg=>?_) | refine ax (fun hg=>?_) (fun hg=>?_) | refine ay (fun hg=>?_) (fun hg=>?_)) <;> try simp -implicitDefEqProofs only [hg,Bool.not_true,Bool.not_false]) | ((with_reducible apply And.intro);focus (first | trivial | omega | decide | (simp -implicitDefEqProofs only [maxLen];omega) | (simp [maxLen,ah,ak,an,av,aj,au,aq] <;> omega))) | fail)
    refine hN (k+1) _ _ ⟨by omega,fun i h hi=>?_,by omega,by omega⟩ (by omega) (bh (by simp [lk]))
    by_cases e:i=k
    ·subst e;exact jJ
    ·exact hk2 i h (by omega)
 ·have aE:k=xs.length:=by simp at hg;omega
  subst aE
  simp -implicitDefEqProofs only [go_sem,Int.reduceNegSucc]
  refine hX _ _ _ ?_
  have hall:=Ds (fun i h=>hk2 i h h)
  rw [List.take_length] at *
  have hf:=kj xs.sum
  cases jJ:bR xs.sum with
  | false=>
    rw [jJ] at hf
    have:fV xs=false:=by simp [fV,jJ]
    have bA:=hf;repeat' (first | (simp -implicitDefEqProofs only [go_sem,Int.reduceNegSucc]) | (with_reducible refine aA ?_) | (with_reducible first | refine af bA ?_ | refine ag bA ?_) | ((first | refine ai (fun hg=>?_) (fun hg=>?_) | refine ax (fun hg=>?_) (fun hg=>?_) | refine ay (fun hg=>?_) (fun hg=>?_)) <;> try simp -implicitDefEqProofs only [hg,Bool.not_true,Bool.not_false]) | ((with_reducible apply And.intro);focus (first | trivial | omega | decide | (simp -implicitDefEqProofs only [maxLen];omega) | (simp [maxLen,ah,ak,an,av,aj,au,aq] <;> omega))) | fail)
    refine (hK _ _ ?_).2
    exact gL (by simp [lk,cv,this]) (by simp [lk,this])
  | true=>
    rw [jJ] at hf
    have:fV xs=true:=by simp [fV,jJ,hall]
    have bC:=hf;repeat' (first | (simp -implicitDefEqProofs only [go_sem,Int.reduceNegSucc]) | (with_reducible refine aA ?_) | (with_reducible first | refine af bC ?_ | refine ag bC ?_) | ((first | refine ai (fun hg=>?_) (fun hg=>?_) | refine ax (fun hg=>?_) (fun hg=>?_) | refine ay (fun hg=>?_) (fun hg=>?_)) <;> try simp -implicitDefEqProofs only [hg,Bool.not_true,Bool.not_false]) | ((with_reducible apply And.intro);focus (first | trivial | omega | decide | (simp -implicitDefEqProofs only [maxLen];omega) | (simp [maxLen,ah,ak,an,av,aj,au,aq] <;> omega))) | fail)
    refine (hK _ _ ?_).2
    exact gL (by simp [lk,cv,this]) (by simp [lk,this])
theorem UE (xs:List Int) (hb:xs.length≤1000):aI Go.Proofs.Tryz.prog 44 [.rv (.sl 1 (aM xs))] [] [] (.aP [.rv (.int .i64 (cv xs)),.rv (.bool (fV xs))]):=by
 refine bt Qo [.rv (.sl 1 (aM xs))] _ (by simp) (by simp [aO,aW,bp,aS,bg,aC.sv,Ln.sv,Nd.sv]) (fun K hK=>?_)
 have hl:=aj xs
 conv in fc _ _ _ _=>reduce
 simp -implicitDefEqProofs only [hl,go_sem,Int.reduceNegSucc]
 repeat' (first | (simp -implicitDefEqProofs only [go_sem,Int.reduceNegSucc,hl]) | (with_reducible refine aA ?_) | ((first | refine ai (fun hg=>?_) (fun hg=>?_) | refine ax (fun hg=>?_) (fun hg=>?_) | refine ay (fun hg=>?_) (fun hg=>?_)) <;> try simp -implicitDefEqProofs only [hg,Bool.not_true,Bool.not_false]) | ((with_reducible apply And.intro);focus (first | trivial | omega | decide | (simp -implicitDefEqProofs only [maxLen];omega) | (simp [maxLen,ah,ak,an,av,aj,au,aq] <;> omega))) | fail)
 refine fE (ι:=Nat×Int×Int) (fun q=>[(11,.rv (.int .i64 q.1)),(10,.rv (.int .i64 xs.length)),(9,.rv (.sl 1 (aM xs))),(4,.rv (.int .i64 q.2.1)),(5,.rv (.int .i64 q.2.2))]) (fun _=>[]) (fun q=>q.1≤xs.length∧(∀ i,(h:i<xs.length)→i<q.1→bR xs[i]=true)∧q.2.1*33554432+q.2.2=(xs.take q.1).sum∧-(33554432*q.1)≤q.2.1∧q.2.1≤33554432*q.1∧0≤q.2.2∧q.2.2≤33554432*q.1) (fun q=>xs.length - q.1) (0,0,0) ⟨by simp,fun i _ h=>absurd h (by simp),by simp,by simp,by simp,by simp,by simp⟩ (bh (by simp [lk])) (fun q hk K' hN hX hR=>?_)
 obtain ⟨k,hi,lo⟩:=q
 obtain ⟨fJ,hk2,gd,Ft,NK,NL,NM⟩:=hk
 dsimp only at fJ hk2 gd Ft NK NL NM ⊢
 simp -implicitDefEqProofs only [go_sem,Int.reduceNegSucc]
 refine ai (fun hg=>?_) (fun hg=>?_)
 ·have aE:k<xs.length:=by simp at hg;omega
  have hx:=oC aE
  have wu:=cz (k:=k) (by omega)
  have hf:=mg xs[k]
  cases jJ:bR xs[k] with
  | false=>
    rw [jJ] at hf
    have bH:=hf;repeat' (first | (simp -implicitDefEqProofs only [go_sem,Int.reduceNegSucc,hx,hl,wu]) | (with_reducible refine aA ?_) | (with_reducible first | refine af bH ?_ | refine ag bH ?_) | ((first | refine ai (fun hg=>?_) (fun hg=>?_) | refine ax (fun hg=>?_) (fun hg=>?_) | refine ay (fun hg=>?_) (fun hg=>?_)) <;> try simp -implicitDefEqProofs only [hg,Bool.not_true,Bool.not_false]) | ((with_reducible apply And.intro);focus (first | trivial | omega | decide | (simp -implicitDefEqProofs only [maxLen];omega) | (simp [maxLen,ah,ak,an,av,aj,au,aq] <;> omega))) | fail)
    refine hR _ _ (hK _ _ ?_).2
    have:=Hf aE jJ
    exact gL (by simp [lk,cv,this]) (by simp [lk,this])
  | true=>
    rw [jJ] at hf
    have pq:=jf.1 jJ
    have hst:=Dc aE
    have w1:IntKind.i64.wrap (hi+xs[k] / 33554432)=hi+xs[k] / 33554432:=by rw [wrap_i64 (by omega) (by omega)]
    have w2:IntKind.i64.wrap (lo+xs[k] % 33554432)=lo+xs[k] % 33554432:=by rw [wrap_i64 (by omega) (by omega)]
    have bJ:=hf;repeat' (first | (simp -implicitDefEqProofs only [go_sem,Int.reduceNegSucc,hx,hl,wu,wM,uS,w1,w2]) | (with_reducible refine aA ?_) | (with_reducible first | refine af bJ ?_ | refine ag bJ ?_) | ((first | refine ai (fun hg=>?_) (fun hg=>?_) | refine ax (fun hg=>?_) (fun hg=>?_) | refine ay (fun hg=>?_) (fun hg=>?_)) <;> try simp -implicitDefEqProofs only [hg,Bool.not_true,Bool.not_false]) | ((with_reducible apply And.intro);focus (first | trivial | omega | decide | (simp -implicitDefEqProofs only [maxLen];omega) | (simp [maxLen,ah,ak,an,av,aj,au,aq] <;> omega))) | fail)
    refine hN (k+1,hi+xs[k] / 33554432,lo+xs[k] % 33554432) _ _ ⟨by dsimp only;omega,fun i h hi=>?_,by dsimp only;omega,by dsimp only;omega,by dsimp only;omega,by dsimp only;omega,by dsimp only;omega⟩ (by dsimp only;omega) (bh (by simp [lk]))
    dsimp only at hi
    by_cases e:i=k
    ·subst e;exact jJ
    ·exact hk2 i h (by omega)
 ·have aE:k=xs.length:=by simp at hg;omega
  subst aE
  simp -implicitDefEqProofs only [go_sem,Int.reduceNegSucc]
  refine hX _ _ _ ?_
  have hall:=Ds (fun i h=>hk2 i h h)
  rw [List.take_length] at *
  have w1:IntKind.i64.wrap (hi+lo / 33554432)=hi+lo / 33554432:=by rw [wrap_i64 (by omega) (by omega)]
  by_cases h1:hi+lo / 33554432 < -33554432
  ·have e1:decide (hi+lo / 33554432 < -33554432)=true:=decide_eq_true h1
   have:fV xs=false:=by
    have:bR xs.sum=false:=by rw [Bool.eq_false_iff];intro h;have:=jf.1 h;omega
    simp [fV,this]
   repeat' (first | (simp -implicitDefEqProofs only [go_sem,Int.reduceNegSucc,wM,uS,w1,e1]) | (with_reducible refine aA ?_) | ((first | refine ai (fun hg=>?_) (fun hg=>?_) | refine ax (fun hg=>?_) (fun hg=>?_) | refine ay (fun hg=>?_) (fun hg=>?_)) <;> try simp -implicitDefEqProofs only [hg,Bool.not_true,Bool.not_false]) | ((with_reducible apply And.intro);focus (first | trivial | omega | decide | (simp -implicitDefEqProofs only [maxLen];omega) | (simp [maxLen,ah,ak,an,av,aj,au,aq] <;> omega))) | fail)
   refine (hK _ _ ?_).2
   exact gL (by simp [lk,cv,this]) (by simp [lk,this])
  ·have e1:decide (hi+lo / 33554432 < -33554432)=false:=decide_eq_false h1
   by_cases h2:hi+lo / 33554432>33554432
   ·have e2:decide (hi+lo / 33554432>33554432)=true:=decide_eq_true h2
    have:fV xs=false:=by
     have:bR xs.sum=false:=by rw [Bool.eq_false_iff];intro h;have:=jf.1 h;omega
     simp [fV,this]
    repeat' (first | (simp -implicitDefEqProofs only [go_sem,Int.reduceNegSucc,wM,uS,w1,e1,e2]) | (with_reducible refine aA ?_) | ((first | refine ai (fun hg=>?_) (fun hg=>?_) | refine ax (fun hg=>?_) (fun hg=>?_) | refine ay (fun hg=>?_) (fun hg=>?_)) <;> try simp -implicitDefEqProofs only [hg,Bool.not_true,Bool.not_false]) | ((with_reducible apply And.intro);focus (first | trivial | omega | decide | (simp -implicitDefEqProofs only [maxLen];omega) | (simp [maxLen,ah,ak,an,av,aj,au,aq] <;> omega))) | fail)
    refine (hK _ _ ?_).2
    exact gL (by simp [lk,cv,this]) (by simp [lk,this])
   ·have e2:decide (hi+lo / 33554432>33554432)=false:=decide_eq_false h2
    have hf:=mg xs.sum
    have w2:IntKind.i64.wrap (IntKind.i64.wrap ((hi+lo / 33554432)*2 ^ min 25 64)+lo % 33554432)=xs.sum:=by
     rw [show (2:Int) ^ min 25 64=33554432 from rfl,wrap_i64 (n:=(hi+lo / 33554432)*33554432) (by omega) (by omega),wrap_i64 (by omega) (by omega)]
     omega
    cases jJ:bR xs.sum with
    | false=>
      rw [jJ] at hf
      have:fV xs=false:=by simp [fV,jJ]
      have bL:=hf;repeat' (first | (simp -implicitDefEqProofs only [go_sem,Int.reduceNegSucc,wM,uS,w1,e1,e2,w2]) | (with_reducible refine aA ?_) | (with_reducible first | refine af bL ?_ | refine ag bL ?_) | ((first | refine ai (fun hg=>?_) (fun hg=>?_) | refine ax (fun hg=>?_) (fun hg=>?_) | refine ay (fun hg=>?_) (fun hg=>?_)) <;> try simp -implicitDefEqProofs only [hg,Bool.not_true,Bool.not_false]) | ((with_reducible apply And.intro);focus (first | trivial | omega | decide | (simp -implicitDefEqProofs only [maxLen];omega) | (simp [maxLen,ah,ak,an,av,aj,au,aq] <;> omega))) | fail)
      refine (hK _ _ ?_).2
      exact gL (by simp [lk,cv,this]) (by simp [lk,this])
    | true=>
      rw [jJ] at hf
      have:fV xs=true:=by simp [fV,jJ,hall]
      have bQ:=hf;repeat' (first | (simp -implicitDefEqProofs only [go_sem,Int.reduceNegSucc,wM,uS,w1,e1,e2,w2]) | (with_reducible refine aA ?_) | (with_reducible first | refine af bQ ?_ | refine ag bQ ?_) | ((first | refine ai (fun hg=>?_) (fun hg=>?_) | refine ax (fun hg=>?_) (fun hg=>?_) | refine ay (fun hg=>?_) (fun hg=>?_)) <;> try simp -implicitDefEqProofs only [hg,Bool.not_true,Bool.not_false]) | ((with_reducible apply And.intro);focus (first | trivial | omega | decide | (simp -implicitDefEqProofs only [maxLen];omega) | (simp [maxLen,ah,ak,an,av,aj,au,aq] <;> omega))) | fail)
      refine (hK _ _ ?_).2
      exact gL (by simp [lk,cv,this]) (by simp [lk,this])
end Go.aL

namespace Go.aL
open Go
theorem QU:aU Go.Proofs.Tryz.prog 63 49 (fc Go.Proofs.Tryz.prog 63 49 [(.c 6 2 true),(.t 7)]) [(.c 6 2 true),(.t 7)]:=bl (by kernel_rfl)
theorem QS:aU Go.Proofs.Tryz.prog 64 20 (fc Go.Proofs.Tryz.prog 64 20 [(.t 6),(.t 7)]) [(.t 6),(.t 7)]:=bl (by kernel_rfl)
theorem QT:aU Go.Proofs.Tryz.prog 65 20 (fc Go.Proofs.Tryz.prog 65 20 [(.t 6),(.t 7)]) [(.t 6),(.t 7)]:=bl (by kernel_rfl)
theorem QV:aU Go.Proofs.Tryz.prog 92 10 (fc Go.Proofs.Tryz.prog 92 10 [(.t 4)]) [(.t 4)]:=bl (by kernel_rfl)
theorem Qn:aU Go.Proofs.Tryz.prog 91 35 (fc Go.Proofs.Tryz.prog 91 35 [(.t 4),(.t 5)]) [(.t 4),(.t 5)]:=bl (by kernel_rfl)
theorem Qp:aU Go.Proofs.Tryz.prog 111 16 (fc Go.Proofs.Tryz.prog 111 16 [(.t 4)]) [(.t 4)]:=bl (by kernel_rfl)
theorem Rh:aU Go.Proofs.Tryz.prog 115 8 (fc Go.Proofs.Tryz.prog 115 8 [(.c 2 2 true)]) [(.c 2 2 true)]:=bl (by kernel_rfl)
theorem Rg:aU Go.Proofs.Tryz.prog 116 16 (fc Go.Proofs.Tryz.prog 116 16 [(.c 4 2 true)]) [(.c 4 2 true)]:=bl (by kernel_rfl)
theorem Ri:aU Go.Proofs.Tryz.prog 80 12 (fc Go.Proofs.Tryz.prog 80 12 [(.t 2),(.t 3)]) [(.t 2),(.t 3)]:=bl (by kernel_rfl)
theorem Qm:aU Go.Proofs.Tryz.prog 123 5 (fc Go.Proofs.Tryz.prog 123 5 [(.t 2)]) [(.t 2)]:=bl (by kernel_rfl)
theorem Qz:aU Go.Proofs.Tryz.prog 29 25 (fc Go.Proofs.Tryz.prog 29 25 [(.t 4)]) [(.t 4)]:=bl (by kernel_rfl)
structure Sz where
 auto:Bool
 n:Int
 deriving DecidableEq,Inhabited
def Sz.cells (x:Sz):List RV:=[.bool x.auto,.int .i64 x.n]
abbrev Sz.sv (x:Sz):SV:=.agg (x.cells.map .rv)
structure Su where
 p:Int
 n:Int
 deriving DecidableEq,Inhabited
def Su.cells (x:Su):List RV:=[.int .i64 x.p,.int .i64 x.n]
abbrev Su.sv (x:Su):SV:=.agg (x.cells.map .rv)
def lg (b p:Int):Bool:=decide (0≤b∧b≤1125899906842624∧-1000000≤p∧p≤1000000) && bR (b*p / 10000)
def lM (b p:Int):Int:=if lg b p=true then b*p / 10000 else 0
def fT (x:Ln) (b:Int) (has:Bool):Sz:=if x.kind=0∨x.kind=2∧has=false then ⟨true,0⟩ else if x.kind=1∧bR x.n=true then ⟨false,x.n⟩ else if x.kind=2 then ⟨false,lM b x.n⟩ else ⟨false,0⟩
def gX (x:Ln) (b:Int) (has:Bool):Bool:=decide (x.kind=0) || decide (x.kind=2) && (!has || lg b x.n) || decide (x.kind=1) && bR x.n
def bn (x:Sz) (d:Int):Int:=if x.auto=true then d else x.n
def fM (a b:Su):Su:=⟨max a.p b.p,min a.n b.n⟩
def iT (a:Su):Int:=cv [a.p,a.n]
def nT (a:Su):Bool:=fV [a.p,a.n]
def iI (w:Int) (h:Sz):Bool:=decide (0≤w∧w≤1125899906842624) && (h.auto || decide (0≤h.n∧h.n≤1125899906842624))
theorem UC (x:Int):aI Go.Proofs.Tryz.prog 123 [.rv (.int .i64 x)] [] [] (.rv (.int .i64 (x / 2))):=by
 refine bt Qm [.rv (.int .i64 x)] _ (by simp) (by simp [aO,aW,bp,aS,bg,aC.sv,Ln.sv,Nd.sv]) (fun K hK=>?_)
 conv in fc _ _ _ _=>reduce
 simp -implicitDefEqProofs only [go_sem,Int.reduceNegSucc]
 repeat' (first | (simp -implicitDefEqProofs only [go_sem,Int.reduceNegSucc]) | (with_reducible refine aA ?_) | ((first | refine ai (fun hg=>?_) (fun hg=>?_) | refine ax (fun hg=>?_) (fun hg=>?_) | refine ay (fun hg=>?_) (fun hg=>?_)) <;> try simp -implicitDefEqProofs only [hg,Bool.not_true,Bool.not_false]) | ((with_reducible apply And.intro);focus (first | trivial | omega | decide | (simp -implicitDefEqProofs only [maxLen];omega) | (simp [maxLen,ah,ak,an,av,aj,au,aq] <;> omega))) | fail)
 refine (hK _ _ (bO ?_)).2
 simp [lk]
 exact Int.fdiv_eq_ediv_of_nonneg _ (by decide)
theorem nj (x:Sz) (d:Int):aI Go.Proofs.Tryz.prog 92 [x.sv,.rv (.int .i64 d)] [] [] (.rv (.int .i64 (bn x d))):=by
 refine bt QV [x.sv,.rv (.int .i64 d)] _ (by simp) (by simp [aO,aW,bp,aS,bg,aC.sv,Ln.sv,Nd.sv]) (fun K hK=>?_)
 conv in fc _ _ _ _=>reduce
 simp -implicitDefEqProofs only [Sz.sv,Sz.cells,go_sem,Int.reduceNegSucc]
 repeat' (first | (simp -implicitDefEqProofs only [go_sem,Int.reduceNegSucc]) | (with_reducible refine aA ?_) | ((first | refine ai (fun hg=>?_) (fun hg=>?_) | refine ax (fun hg=>?_) (fun hg=>?_) | refine ay (fun hg=>?_) (fun hg=>?_)) <;> try simp -implicitDefEqProofs only [hg,Bool.not_true,Bool.not_false]) | ((with_reducible apply And.intro);focus (first | trivial | omega | decide | (simp -implicitDefEqProofs only [maxLen];omega) | (simp [maxLen,ah,ak,an,av,aj,au,aq] <;> omega))) | fail)
 all_goals (refine (hK _ _ ?_).2;clear hK;simp -implicitDefEqProofs only [go_sem,Int.reduceNegSucc,aQ,aR,aV,bf,aH,aG,aF,bn] <;>(try simp_all [-Int.not_lt,-Int.not_le,aH,aG,aF,bB,bn]) <;> try omega)
theorem IP (x:Int):aI Go.Proofs.Tryz.prog 115 [.rv (.int .i64 x)] [] [] (Su.sv ⟨max x 0,min x 0⟩):=by
 refine bt Rh [.rv (.int .i64 x)] _ (by simp) (by simp [aO,aW,bp,aS,bg,aC.sv,Ln.sv,Nd.sv]) (fun K hK=>?_)
 conv in fc _ _ _ _=>reduce
 simp -implicitDefEqProofs only [Su.sv,Su.cells,go_sem,Int.reduceNegSucc]
 repeat' (first | (simp -implicitDefEqProofs only [go_sem,Int.reduceNegSucc]) | (with_reducible refine aA ?_) | ((first | refine ai (fun hg=>?_) (fun hg=>?_) | refine ax (fun hg=>?_) (fun hg=>?_) | refine ay (fun hg=>?_) (fun hg=>?_)) <;> try simp -implicitDefEqProofs only [hg,Bool.not_true,Bool.not_false]) | ((with_reducible apply And.intro);focus (first | trivial | omega | decide | (simp -implicitDefEqProofs only [maxLen];omega) | (simp [maxLen,ah,ak,an,av,aj,au,aq] <;> omega))) | fail)
 all_goals (refine (hK _ _ ?_).2;clear hK;simp -implicitDefEqProofs only [go_sem,Int.reduceNegSucc,aQ,aR,aV,bf,aH,aG,aF,Su.sv,Su.cells] <;>(try simp_all [-Int.not_lt,-Int.not_le,aH,aG,aF,bB,Su.sv,Su.cells]) <;> try omega)
theorem uI (a b:Su):aI Go.Proofs.Tryz.prog 116 [a.sv,b.sv] [] [] (fM a b).sv:=by
 refine bt Rg [a.sv,b.sv] _ (by simp) (by simp [aO,aW,bp,aS,bg,aC.sv,Ln.sv,Nd.sv]) (fun K hK=>?_)
 conv in fc _ _ _ _=>reduce
 simp -implicitDefEqProofs only [Su.sv,Su.cells,go_sem,Int.reduceNegSucc]
 repeat' (first | (simp -implicitDefEqProofs only [go_sem,Int.reduceNegSucc]) | (with_reducible refine aA ?_) | ((first | refine ai (fun hg=>?_) (fun hg=>?_) | refine ax (fun hg=>?_) (fun hg=>?_) | refine ay (fun hg=>?_) (fun hg=>?_)) <;> try simp -implicitDefEqProofs only [hg,Bool.not_true,Bool.not_false]) | ((with_reducible apply And.intro);focus (first | trivial | omega | decide | (simp -implicitDefEqProofs only [maxLen];omega) | (simp [maxLen,ah,ak,an,av,aj,au,aq] <;> omega))) | fail)
 all_goals (refine (hK _ _ ?_).2;clear hK;simp -implicitDefEqProofs only [go_sem,Int.reduceNegSucc,aQ,aR,aV,bf,aH,aG,aF,Su.sv,Su.cells,fM] <;>(try simp_all [-Int.not_lt,-Int.not_le,aH,aG,aF,bB,Su.sv,Su.cells,fM]) <;> try omega)
def lT (xs:List Int):List (List SV):=xs.map fun x=>[.rv (.int .i64 x)]
theorem BQ (xs:List Int):lT xs=aN (aM xs):=by simp [lT,aN,aM]
theorem uF (id:Nat) (xs:List Int) (hb:xs.length≤1000):aI Go.Proofs.Tryz.prog 44 [.row id 0 xs.length] [(id,.row 1 0 (lT xs))] [] (.aP [.rv (.int .i64 (cv xs)),.rv (.bool (fV xs))]):=by
 have:=GC (id:=id) (v:=0) (n:=xs.length) (bs:=[]) (rs:=[.int .i64 (cv xs),.bool (fV xs)]) (UE xs hb) (by simp;exact ⟨.int _ _,.bool _⟩) (by rw [aj]) (kN _)
 rw [BQ];exact this
theorem CY (a:Su):aI Go.Proofs.Tryz.prog 80 [a.sv] [] [] (.aP [.rv (.int .i64 (iT a)),.rv (.bool (nT a))]):=by
 refine bt Ri [a.sv] _ (by simp) (by simp [aO,aW,bp,aS,bg,aC.sv,Ln.sv,Nd.sv]) (fun K hK=>?_)
 have hs:=fun id=>uF id [a.p,a.n] (by simp)
 conv in fc _ _ _ _=>reduce
 simp -implicitDefEqProofs only [Su.sv,Su.cells,go_sem,Int.reduceNegSucc]
 simp [lT] at hs
 have aT:=hs;repeat' (first | (simp -implicitDefEqProofs only [go_sem,Int.reduceNegSucc]) | (with_reducible refine aA ?_) | ((first | refine bS (aT _) ?_ ?_ ?_ | refine ck (aT _) ?_ ?_ ?_ | fail);(focus (simp [aY,aB] <;> fail));(focus (simp [bq,aX] <;> fail))) | ((first | refine ai (fun hg=>?_) (fun hg=>?_) | refine ax (fun hg=>?_) (fun hg=>?_) | refine ay (fun hg=>?_) (fun hg=>?_)) <;> try simp -implicitDefEqProofs only [hg,Bool.not_true,Bool.not_false]) | ((with_reducible apply And.intro);focus (first | trivial | omega | decide | (simp -implicitDefEqProofs only [maxLen];omega) | (simp [maxLen,ah,ak,an,av,aj,au,aq] <;> omega))) | fail)
 all_goals (refine (hK _ _ ?_).2;clear hK;simp -implicitDefEqProofs only [go_sem,Int.reduceNegSucc,aQ,aR,aV,bf,aH,aG,aF,iT,nT] <;>(try simp_all [-Int.not_lt,-Int.not_le,aH,aG,aF,bB,iT,nT]) <;> try omega)
theorem zM (w:Int) (h:Sz):aI Go.Proofs.Tryz.prog 29 [.rv (.int .i64 w),h.sv] [] [] (.rv (.bool (iI w h))):=by
 refine bt Qz [.rv (.int .i64 w),h.sv] _ (by simp) (by simp [aO,aW,bp,aS,bg,aC.sv,Ln.sv,Nd.sv]) (fun K hK=>?_)
 conv in fc _ _ _ _=>reduce
 simp -implicitDefEqProofs only [Sz.sv,Sz.cells,go_sem,Int.reduceNegSucc]
 repeat' (first | (simp -implicitDefEqProofs only [go_sem,Int.reduceNegSucc]) | (with_reducible refine aA ?_) | ((first | refine ai (fun hg=>?_) (fun hg=>?_) | refine ax (fun hg=>?_) (fun hg=>?_) | refine ay (fun hg=>?_) (fun hg=>?_)) <;> try simp -implicitDefEqProofs only [hg,Bool.not_true,Bool.not_false]) | ((with_reducible apply And.intro);focus (first | trivial | omega | decide | (simp -implicitDefEqProofs only [maxLen];omega) | (simp [maxLen,ah,ak,an,av,aj,au,aq] <;> omega))) | fail)
 all_goals (refine (hK _ _ ?_).2;clear hK;simp -implicitDefEqProofs only [go_sem,Int.reduceNegSucc,aQ,aR,aV,bf,aH,aG,aF,iI] <;>(try simp_all [-Int.not_lt,-Int.not_le,aH,aG,aF,bB,iI]) <;> try omega)
end Go.aL

namespace Go.aL
open Go Go.Proofs
theorem Ks:fC Go.Proofs.Tryz.prog 2=some false:=by kernel_rfl
theorem Kq:fC Go.Proofs.Tryz.prog 4=some false:=by kernel_rfl
theorem Ku:fC Go.Proofs.Tryz.prog 24=some true:=by kernel_rfl
theorem SN {rs:List RV} (h:jr Go.Proofs.Tryz.prog 1 2 rs):∃ i:Int,nu Go.Proofs.Tryz.prog 2 rs = .rv (.int .i64 i):=by
 obtain ⟨i,rfl⟩:=pS h
 exact ⟨i,xz Ks⟩
theorem SL {rs:List RV} (h:jr Go.Proofs.Tryz.prog 1 4 rs):∃ i:Bool,nu Go.Proofs.Tryz.prog 4 rs = .rv (.bool i):=by
 obtain ⟨i,rfl⟩:=uK h
 exact ⟨i,xz Kq⟩
theorem SP {rs:List RV} (h:jr Go.Proofs.Tryz.prog 2 24 rs):∃ x:Sz,nu Go.Proofs.Tryz.prog 24 rs=x.sv:=by
 have h:=zV Tryz.underlying24 h
 obtain ⟨_,_,rfl,h1,_,_,rfl,h2,rfl⟩:=h
 obtain ⟨a,rfl⟩:=uK h1
 obtain ⟨b,rfl⟩:=pS h2
 exact ⟨⟨a,b⟩,KE Ku⟩
end Go.aL

namespace Go.aL
open Go
theorem QM:aU Go.Proofs.Tryz.prog 97 51 (fc Go.Proofs.Tryz.prog 97 51 [(.t 4),(.t 5)]) [(.t 4),(.t 5)]:=bl (by kernel_rfl)
theorem QL:aU Go.Proofs.Tryz.prog 124 25 (fc Go.Proofs.Tryz.prog 124 25 [(.t 2)]) [(.t 2)]:=bl (by kernel_rfl)
theorem QK:aU Go.Proofs.Tryz.prog 118 6 (fc Go.Proofs.Tryz.prog 118 6 [(.t 2)]) [(.t 2)]:=bl (by kernel_rfl)
theorem wrap_u64 {n:Int} (h1:0≤n) (h2:n<18446744073709551616):IntKind.u64.wrap n=n:=by
 have:IntKind.u64.wrap n=n % 18446744073709551616:=by rfl
 rw [this];omega
theorem Dt (a:Int):IntKind.u64.wrap ((@BitVec.toNat 64 (@HAnd.hAnd (BitVec 64) (BitVec 64) (BitVec 64) (@instHAndOfAndOp (BitVec IntKind.u64.bits) (@BitVec.instAndOp IntKind.u64.bits)) (BitVec.ofInt 64 a) (BitVec.ofInt 64 4294967295)):Nat):Int)=a % 4294967296:=by
 have h1:(BitVec.ofInt 64 a &&& BitVec.ofInt 64 4294967295).toNat=(BitVec.ofInt 64 a).toNat % 4294967296:=by
  show (BitVec.ofInt 64 a &&& BitVec.ofInt 64 4294967295).toNat=_
  rw [BitVec.toNat_and]
  exact Nat.and_two_pow_sub_one_eq_mod _ 32
 have h2:(((BitVec.ofInt 64 a).toNat % 4294967296:Nat):Int)=a % 4294967296:=by
  rw [BitVec.toNat_ofInt]
  omega
 have h3:((BitVec.ofInt 64 a &&& BitVec.ofInt 64 4294967295).toNat:Int)=a % 4294967296:=by rw [h1,h2]
 exact (congrArg IntKind.u64.wrap h3).trans (wrap_u64 (by omega) (by omega))
theorem TM (a:Int):a.fdiv (2 ^ min 32 64)=a / 4294967296:=by
 rw [Int.fdiv_eq_ediv_of_nonneg _ (by decide)];rfl
theorem Cn {a b A B:Int} (h0:0≤a) (h:a≤A) (h1:0≤b) (h2:b≤B):0≤a*b∧a*b≤A*B:=
 ⟨Int.mul_nonneg h0 h1,Int.mul_le_mul h h2 h1 (by omega)⟩
theorem Ix (x y:Int) (hx:0≤x) (WJ:x≤1125899906842624) (hy:0≤y) (yS:y≤1000000):aI Go.Proofs.Tryz.prog 97 [.rv (.int .u64 x),.rv (.int .u64 y)] [] [] (.aP [.rv (.int .u64 (x*y / 18446744073709551616)),.rv (.int .u64 (x*y % 18446744073709551616))]):=by
 refine bt QM [.rv (.int .u64 x),.rv (.int .u64 y)] _ (by simp) (by simp [aO,aW,bp,aS,bg,aC.sv,Ln.sv,Nd.sv]) (fun K hK=>?_)
 have y0:y % 4294967296=y:=by omega
 have y1:y / 4294967296=0:=by omega
 have m1:=Cn (a:=x % 4294967296) (b:=y) (A:=4294967295) (B:=1000000) (by omega) (by omega) hy yS
 have m2:=Cn (a:=x / 4294967296) (b:=y) (A:=262144) (B:=1000000) (by omega) (by omega) hy yS
 have e:x*y=x / 4294967296*y*4294967296+x % 4294967296*y:=by
  conv=>lhs;rw [← Int.mul_ediv_add_emod x 4294967296]
  rw [Int.add_mul,Int.mul_comm 4294967296,Int.mul_assoc,Int.mul_comm 4294967296,Int.mul_assoc]
 generalize hA:x % 4294967296*y=A at *
 generalize hB:x / 4294967296*y=B at *
 have w1:IntKind.u64.wrap A=A:=wrap_u64 (by omega) (by omega)
 have w2:IntKind.u64.wrap B=B:=wrap_u64 (by omega) (by omega)
 have w3:IntKind.u64.wrap (B+A / 4294967296)=B+A / 4294967296:=wrap_u64 (by omega) (by omega)
 have w4:IntKind.u64.wrap 0=0:=rfl
 have w5:IntKind.u64.wrap ((B+A / 4294967296) % 4294967296+0)=(B+A / 4294967296) % 4294967296:=by rw [Int.add_zero];exact wrap_u64 (by omega) (by omega)
 have w6:IntKind.u64.wrap (0+(B+A / 4294967296) / 4294967296)=(B+A / 4294967296) / 4294967296:=by rw [Int.zero_add];exact wrap_u64 (by omega) (by omega)
 have w7:IntKind.u64.wrap ((B+A / 4294967296) / 4294967296+(B+A / 4294967296) % 4294967296 / 4294967296)=x*y / 18446744073709551616:=by rw [wrap_u64 (by omega) (by omega)];omega
 have w8:IntKind.u64.wrap (x*y)=x*y % 18446744073709551616:=rfl
 conv in fc _ _ _ _=>reduce
 simp -implicitDefEqProofs only [go_sem,Int.reduceNegSucc]
 repeat' (first | (simp -implicitDefEqProofs only [go_sem,Int.reduceNegSucc,Dt,TM,y0,y1,hA,hB,w1,w2,w3,Int.mul_zero,w4,w5,w6,w7,w8]) | (with_reducible refine aA ?_) | ((first | refine ai (fun hg=>?_) (fun hg=>?_) | refine ax (fun hg=>?_) (fun hg=>?_) | refine ay (fun hg=>?_) (fun hg=>?_)) <;> try simp -implicitDefEqProofs only [hg,Bool.not_true,Bool.not_false]) | ((with_reducible apply And.intro);focus (first | trivial | omega | decide | (simp -implicitDefEqProofs only [maxLen];omega) | (simp [maxLen,ah,ak,an,av,aj,au,aq] <;> omega))) | fail)
 exact (hK _ _ (gL rfl rfl)).2
theorem Um:aI Go.Proofs.Tryz.prog 124 [.rv (.int .u64 10000)] [] [] (.rv (.int .i64 14)):=by
 refine bt QL [.rv (.int .u64 10000)] _ (by simp) (by simp [aO,aW,bp,aS,bg,aC.sv,Ln.sv,Nd.sv]) (fun K hK=>?_)
 have g1:decide ((10000:Int)≥4294967296)=false:=rfl
 have g2:decide ((10000:Int)≥65536)=false:=rfl
 have g3:decide ((10000:Int)≥256)=true:=rfl
 have s1:(10000:Int).fdiv (2 ^ min 8 64)=39:=rfl
 have s2:IntKind.i64.wrap (0+8)=8:=rfl
 have s3:IntKind.u8.wrap 39=39:=rfl
 conv in fc _ _ _ _=>reduce
 simp -implicitDefEqProofs only [go_sem,Int.reduceNegSucc]
 repeat' (first | (simp -implicitDefEqProofs only [go_sem,Int.reduceNegSucc,g1,g2,g3,s1,s2,s3]) | (with_reducible refine aA ?_) | ((first | refine ai (fun hg=>?_) (fun hg=>?_) | refine ax (fun hg=>?_) (fun hg=>?_) | refine ay (fun hg=>?_) (fun hg=>?_)) <;> try simp -implicitDefEqProofs only [hg,Bool.not_true,Bool.not_false]) | ((with_reducible apply And.intro);focus (first | trivial | omega | decide | (simp -implicitDefEqProofs only [maxLen];omega) | (simp [maxLen,ah,ak,an,av,aj,au,aq] <;> omega))) | fail)
 exact (hK _ _ (bO (by rfl))).2
theorem Uk:aI Go.Proofs.Tryz.prog 118 [.rv (.int .u64 10000)] [] [] (.rv (.int .i64 50)):=by
 refine bt QK [.rv (.int .u64 10000)] _ (by simp) (by simp [aO,aW,bp,aS,bg,aC.sv,Ln.sv,Nd.sv]) (fun K hK=>?_)
 have h:=Um
 have s2:IntKind.i64.wrap (64 - 14)=50:=rfl
 conv in fc _ _ _ _=>reduce
 simp -implicitDefEqProofs only [go_sem,Int.reduceNegSucc]
 have aT:=h;repeat' (first | (simp -implicitDefEqProofs only [go_sem,Int.reduceNegSucc,s2]) | (with_reducible refine aA ?_) | (with_reducible first | refine af aT ?_ | refine ag aT ?_) | ((first | refine ai (fun hg=>?_) (fun hg=>?_) | refine ax (fun hg=>?_) (fun hg=>?_) | refine ay (fun hg=>?_) (fun hg=>?_)) <;> try simp -implicitDefEqProofs only [hg,Bool.not_true,Bool.not_false]) | ((with_reducible apply And.intro);focus (first | trivial | omega | decide | (simp -implicitDefEqProofs only [maxLen];omega) | (simp [maxLen,ah,ak,an,av,aj,au,aq] <;> omega))) | fail)
 exact (hK _ _ (bO rfl)).2
end Go.aL

namespace Go.aL
open Go
theorem QJ:aU Go.Proofs.Tryz.prog 98 135 (fc Go.Proofs.Tryz.prog 98 135 [(.t 6),(.t 7)]) [(.t 6),(.t 7)]:=bl (by kernel_rfl)
theorem Aa (n:Int):IntKind.u64.wrap n=n % 18446744073709551616:=rfl
theorem SR (a b:Nat) (hb:b<2 ^ 50) (ha:a<2 ^ 14):IntKind.u64.wrap ((@BitVec.toNat 64 (@HOr.hOr (BitVec 64) (BitVec 64) (BitVec 64) (@instHOrOfOrOp (BitVec IntKind.u64.bits) (@BitVec.instOrOp IntKind.u64.bits)) (BitVec.ofInt 64 ((a:Int)*1125899906842624)) (BitVec.ofInt 64 (b:Int))):Nat):Int)=(a:Int)*1125899906842624+b:=by
 have h1:(BitVec.ofInt 64 ((a:Int)*1125899906842624)).toNat=a <<< 50:=by
  rw [BitVec.toNat_ofInt,Nat.shiftLeft_eq];omega
 have h2:(BitVec.ofInt 64 (b:Int)).toNat=b:=by rw [BitVec.toNat_ofInt];omega
 have h3:(BitVec.ofInt 64 ((a:Int)*1125899906842624) ||| BitVec.ofInt 64 (b:Int)).toNat=a*2 ^ 50+b:=by
  rw [BitVec.toNat_or,h1,h2,← Nat.shiftLeft_add_eq_or_of_lt hb,Nat.shiftLeft_eq]
 have h4:((BitVec.ofInt 64 ((a:Int)*1125899906842624) ||| BitVec.ofInt 64 (b:Int)).toNat:Int)=(a:Int)*1125899906842624+b:=by rw [h3];omega
 exact (congrArg IntKind.u64.wrap h4).trans (wrap_u64 (by omega) (by omega))
theorem Iu (hi lo:Nat) (h1:hi<1024) (h2:lo<18446744073709551616):aI Go.Proofs.Tryz.prog 98 [.rv (.int .u64 hi),.rv (.int .u64 lo),.rv (.int .u64 10000)] [] []
 (.aP [.rv (.int .u64 (((hi:Int)*18446744073709551616+lo) / 10000)),.rv (.int .u64 (((hi:Int)*18446744073709551616+lo) % 10000))]):=by
 refine bt QJ [.rv (.int .u64 hi),.rv (.int .u64 lo),.rv (.int .u64 10000)] _ (by simp) (by simp [aO,aW,bp,aS,bg,aC.sv,Ln.sv,Nd.sv]) (fun K hK=>?_)
 have g1:((10000:Int) == 0)=false:=rfl
 have g2:decide ((10000:Int)≤hi)=false:=decide_eq_false (by omega)
 by_cases h0:hi=0
 ·subst h0
  have g3:(((0:Nat):Int) == 0)=true:=rfl
  have t1:(lo:Int).tdiv 10000=lo / 10000:=Int.tdiv_eq_ediv_of_nonneg (by omega)
  have t2:(lo:Int).tmod 10000=lo % 10000:=Int.tmod_eq_emod_of_nonneg (by omega)
  have w1:IntKind.u64.wrap ((lo:Int) / 10000)=lo / 10000:=wrap_u64 (by omega) (by omega)
  conv in fc _ _ _ _=>reduce
  simp -implicitDefEqProofs only [go_sem,Int.reduceNegSucc]
  repeat' (first | (simp -implicitDefEqProofs only [go_sem,Int.reduceNegSucc,g1,g2,g3,t1,t2,w1]) | (with_reducible refine aA ?_) | ((first | refine ai (fun hg=>?_) (fun hg=>?_) | refine ax (fun hg=>?_) (fun hg=>?_) | refine ay (fun hg=>?_) (fun hg=>?_)) <;> try simp -implicitDefEqProofs only [hg,Bool.not_true,Bool.not_false]) | ((with_reducible apply And.intro);focus (first | trivial | omega | decide | (simp -implicitDefEqProofs only [maxLen];omega) | (simp [maxLen,ah,ak,an,av,aj,au,aq] <;> omega))) | fail)
  exact (hK _ _ (gL (by simp [lk]) (by simp [lk]))).2
 ·have g3:((hi:Int) == 0)=false:=by rw [Bool.eq_false_iff];simp;omega
  have hz:=Uk
  conv in fc _ _ _ _=>reduce
  simp -implicitDefEqProofs only [go_sem,Int.reduceNegSucc]
  have c1:IntKind.u64.wrap 50=50:=rfl
  have c2:IntKind.u64.wrap (10000*2 ^ min 50 64)=11258999068426240000:=rfl
  have c3:(11258999068426240000:Int).fdiv (2 ^ min 32 64)=2621440000:=rfl
  have c4:(11258999068426240000:Int) % 4294967296=0:=rfl
  have c5:IntKind.u64.wrap (64 - 50)=14:=rfl
  have c6:IntKind.u64.wrap ((hi:Int)*2 ^ min 50 64)=(hi:Int)*1125899906842624:=wrap_u64 (by show 0≤(hi:Int)*1125899906842624;omega) (by show (hi:Int)*1125899906842624<_;omega)
  have c7:(lo:Int).fdiv (2 ^ min 14 64)=((lo / 16384:Nat):Int):=by rw [Int.fdiv_eq_ediv_of_nonneg _ (by decide)];rfl
  have c8:=SR hi (lo / 16384) (by omega) (by omega)
  have aT:=hz;repeat' (first | (simp -implicitDefEqProofs only [go_sem,Int.reduceNegSucc,g1,g2,g3,c1,c2,c3,Dt,c4,c5,c6,c7,c8]) | (with_reducible refine aA ?_) | (with_reducible first | refine af aT ?_ | refine ag aT ?_) | ((first | refine ai (fun hg=>?_) (fun hg=>?_) | refine ax (fun hg=>?_) (fun hg=>?_) | refine ay (fun hg=>?_) (fun hg=>?_)) <;> try simp -implicitDefEqProofs only [hg,Bool.not_true,Bool.not_false]) | ((with_reducible apply And.intro);focus (first | trivial | omega | decide | (simp -implicitDefEqProofs only [maxLen];omega) | (simp [maxLen,ah,ak,an,av,aj,au,aq] <;> omega))) | fail)
  have hV:(hi:Int)*18446744073709551616+lo=((hi:Int)*1125899906842624+((lo / 16384:Nat):Int))*16384+(lo:Int) % 16384:=by omega
  have Nm:0≤(hi:Int)*1125899906842624+((lo / 16384:Nat):Int):=by omega
  have Ww:(hi:Int)*1125899906842624+((lo / 16384:Nat):Int)<1152921504606846976:=by omega
  rw [hV] at hK
  have d4:IntKind.u64.wrap ((lo:Int)*2 ^ min 50 64)=(lo:Int) % 16384*1125899906842624:=by rw [show (2:Int) ^ min 50 64=1125899906842624 from rfl,Aa];omega
  have yQ:0≤(lo:Int) % 16384:=by omega
  have FG:(lo:Int) % 16384<16384:=by omega
  generalize (hi:Int)*1125899906842624+((lo / 16384:Nat):Int)=U at *
  generalize (lo:Int) % 16384=r at *
  have d5:(r*1125899906842624).fdiv (2 ^ min 32 64)=r*262144:=by rw [show (2:Int) ^ min 32 64=4294967296 from rfl,Int.fdiv_eq_ediv_of_nonneg _ (by decide)];omega
  have d6:r*1125899906842624 % 4294967296=0:=by omega
  have d1:IntKind.u64.wrap (U.tdiv 2621440000)=U / 2621440000:=by rw [Int.tdiv_eq_ediv_of_nonneg Nm];exact wrap_u64 (by omega) (by omega)
  have d2:IntKind.u64.wrap (U / 2621440000*2621440000)=U / 2621440000*2621440000:=wrap_u64 (by omega) (by omega)
  have d3:IntKind.u64.wrap (U - U / 2621440000*2621440000)=U % 2621440000:=by rw [wrap_u64 (by omega) (by omega)];omega
  have e0:decide (U / 2621440000≥4294967296)=false:=decide_eq_false (by omega)
  have e1:IntKind.u64.wrap 0=0:=rfl
  have e2:IntKind.u64.wrap (4294967296*(U % 2621440000))=4294967296*(U % 2621440000):=wrap_u64 (by omega) (by omega)
  have e3:IntKind.u64.wrap (4294967296*(U % 2621440000)+r*262144)=4294967296*(U % 2621440000)+r*262144:=wrap_u64 (by omega) (by omega)
  have e4:decide (0>4294967296*(U % 2621440000)+r*262144)=false:=decide_eq_false (by omega)
  have d10:IntKind.u64.wrap (IntKind.u64.wrap (IntKind.u64.wrap (U*4294967296)+r*262144) - IntKind.u64.wrap (U / 2621440000*11258999068426240000))=U % 2621440000*4294967296+r*262144:=by
   simp -implicitDefEqProofs only [Aa];omega
  obtain ⟨X,hX⟩:∃ X,X=U % 2621440000*4294967296+r*262144:=⟨_,rfl⟩
  rw [← hX] at d10
  have f0:IntKind.u64.wrap (X.tdiv 2621440000)=X / 2621440000:=by rw [Int.tdiv_eq_ediv_of_nonneg (by omega)];exact wrap_u64 (by omega) (by omega)
  have f1:IntKind.u64.wrap (X / 2621440000*2621440000)=X / 2621440000*2621440000:=wrap_u64 (by omega) (by omega)
  have f2:IntKind.u64.wrap (X - X / 2621440000*2621440000)=X % 2621440000:=by rw [wrap_u64 (by omega) (by omega)];omega
  have f3:decide (X / 2621440000≥4294967296)=false:=decide_eq_false (by omega)
  have f4:IntKind.u64.wrap (4294967296*(X % 2621440000))=4294967296*(X % 2621440000):=wrap_u64 (by omega) (by omega)
  have f6:decide (0>4294967296*(X % 2621440000))=false:=decide_eq_false (by omega)
  have f7:IntKind.u64.wrap (IntKind.u64.wrap (U / 2621440000*4294967296)+X / 2621440000)=(U*16384+r) / 10000:=by
   rw [wrap_u64 (n:=U / 2621440000*4294967296) (by omega) (by omega),wrap_u64 (by omega) (by omega)];omega
  have f8:IntKind.u64.wrap (IntKind.u64.wrap (X*4294967296) - IntKind.u64.wrap (X / 2621440000*11258999068426240000))=(U*16384+r) % 10000*1125899906842624:=by
   simp -implicitDefEqProofs only [Aa];omega
  have f9:IntKind.u64.wrap (IntKind.u64.wrap (X*4294967296))=IntKind.u64.wrap (X*4294967296):=by simp -implicitDefEqProofs only [Aa];omega
  have f10:((U*16384+r) % 10000*1125899906842624).fdiv (2 ^ min 50 64)=(U*16384+r) % 10000:=by rw [show (2:Int) ^ min 50 64=1125899906842624 from rfl,Int.fdiv_eq_ediv_of_nonneg _ (by decide)];omega
  simp -implicitDefEqProofs only [d1,d2,d3,d4,d5,d6]
  refine jH 2 ?_
  repeat' (first | (simp -implicitDefEqProofs only [go_sem,Int.reduceNegSucc,jM,jN,jO,jP,jQ,jR,jD,Int.reduceLT,decide_true,decide_false,Int.reduceToNat,Nat.reduceMul,e0,Int.mul_zero,e1,e2,e3,e4]) | (with_reducible refine aA ?_) | (with_reducible show G _ _ (It.l _ _::_) _ _ _;refine jG ?_) | ((first | refine ai (fun hg=>?_) (fun hg=>?_) | refine ax (fun hg=>?_) (fun hg=>?_) | refine ay (fun hg=>?_) (fun hg=>?_)) <;> try simp -implicitDefEqProofs only [hg,Bool.not_true,Bool.not_false]) | ((with_reducible apply And.intro);focus (first | trivial | omega | decide | (simp -implicitDefEqProofs only [maxLen];omega) | (simp [maxLen,ah,ak,an,av,aj,au,aq] <;> omega))) | fail)
  repeat' (first | (simp -implicitDefEqProofs only [go_sem,Int.reduceNegSucc,d10,f0,f1,f2]) | (with_reducible refine aA ?_) | ((first | refine ai (fun hg=>?_) (fun hg=>?_) | refine ax (fun hg=>?_) (fun hg=>?_) | refine ay (fun hg=>?_) (fun hg=>?_)) <;> try simp -implicitDefEqProofs only [hg,Bool.not_true,Bool.not_false]) | ((with_reducible apply And.intro);focus (first | trivial | omega | decide | (simp -implicitDefEqProofs only [maxLen];omega) | (simp [maxLen,ah,ak,an,av,aj,au,aq] <;> omega))) | fail)
  refine jH 2 ?_
  repeat' (first | (simp -implicitDefEqProofs only [go_sem,Int.reduceNegSucc,jM,jN,jO,jP,jQ,jR,jD,Int.reduceLT,decide_true,decide_false,Int.reduceToNat,Nat.reduceMul,f3,Int.mul_zero,e1,f4,Int.add_zero,f6,f7,f9,f8,f10]) | (with_reducible refine aA ?_) | (with_reducible show G _ _ (It.l _ _::_) _ _ _;refine jG ?_) | ((first | refine ai (fun hg=>?_) (fun hg=>?_) | refine ax (fun hg=>?_) (fun hg=>?_) | refine ay (fun hg=>?_) (fun hg=>?_)) <;> try simp -implicitDefEqProofs only [hg,Bool.not_true,Bool.not_false]) | ((with_reducible apply And.intro);focus (first | trivial | omega | decide | (simp -implicitDefEqProofs only [maxLen];omega) | (simp [maxLen,ah,ak,an,av,aj,au,aq] <;> omega))) | fail)
  exact (hK _ _ (gL (by simp -implicitDefEqProofs only [lk,↓reduceIte,Nat.reduceEqDiff]) (by simp -implicitDefEqProofs only [lk,↓reduceIte,Nat.reduceEqDiff]))).2
end Go.aL

namespace Go.aL
open Go
theorem wQ (a:Int):a.tdiv 10000=if 0≤a∨a % 10000=0 then a / 10000 else a / 10000+1:=by
 rw [Int.tdiv_eq_ediv]
 have:(10000:Int) ∣ a↔a % 10000=0:=Int.dvd_iff_emod_eq_zero
 simp -implicitDefEqProofs only [this]
 split <;> simp
theorem VM (a:Int):a.tmod 10000=if 0≤a∨a % 10000=0 then a % 10000 else a % 10000 - 10000:=by
 rw [Int.tmod_eq_emod]
 have:(10000:Int) ∣ a↔a % 10000=0:=Int.dvd_iff_emod_eq_zero
 simp -implicitDefEqProofs only [this]
 split <;> simp
theorem UF (a:Int) (h : -100000000000≤a) (h2:a≤100000000000):aI Go.Proofs.Tryz.prog 111 [.rv (.int .i64 a),.rv (.int .i64 10000)] [] [] (.rv (.int .i64 (a / 10000))):=by
 refine bt Qp [.rv (.int .i64 a),.rv (.int .i64 10000)] _ (by simp) (by simp [aO,aW,bp,aS,bg,aC.sv,Ln.sv,Nd.sv]) (fun K hK=>?_)
 have e1:IntKind.i64.wrap (a.tdiv 10000)=a.tdiv 10000:=wrap_i64 (by rw [wQ];split <;> omega) (by rw [wQ];split <;> omega)
 have e2:IntKind.i64.wrap (a.tdiv 10000 - 1)=a.tdiv 10000 - 1:=wrap_i64 (by rw [wQ];split <;> omega) (by rw [wQ];split <;> omega)
 conv in fc _ _ _ _=>reduce
 simp -implicitDefEqProofs only [go_sem,Int.reduceNegSucc]
 repeat' (first | (simp -implicitDefEqProofs only [go_sem,Int.reduceNegSucc,e1,e2]) | (with_reducible refine aA ?_) | ((first | refine ai (fun hg=>?_) (fun hg=>?_) | refine ax (fun hg=>?_) (fun hg=>?_) | refine ay (fun hg=>?_) (fun hg=>?_)) <;> try simp -implicitDefEqProofs only [hg,Bool.not_true,Bool.not_false]) | ((with_reducible apply And.intro);focus (first | trivial | omega | decide | (simp -implicitDefEqProofs only [maxLen];omega) | (simp [maxLen,ah,ak,an,av,aj,au,aq] <;> omega))) | fail)
 all_goals (refine (hK _ _ (bO ?_)).2;clear hK;simp -implicitDefEqProofs only [decide_eq_true_eq,decide_eq_false_iff_not,VM] at hg;simp [lk,wQ];split at hg <;>(try intros) <;>(try split) <;> omega)
theorem SX {b p:Int}:b / 10000*p+b % 10000*p / 10000=b*p / 10000:=by
 have h:b*p=b % 10000*p+10000*(b / 10000*p):=by
  conv=>lhs;rw [← Int.emod_add_mul_ediv b 10000]
  rw [Int.add_mul,Int.mul_assoc]
 rw [h,Int.add_mul_ediv_left _ _ (by decide)];omega
theorem GV {a b A B:Int} (h0:0≤a) (h:a≤A) (h1 : -B≤b) (h2:b≤B) : -(A*B)≤a*b∧a*b≤A*B:=by
 have hB:0≤B:=by omega
 have e1:=Int.mul_le_mul_of_nonneg_left h2 h0
 have e2:=Int.mul_le_mul_of_nonneg_right h hB
 have e3:=Int.mul_le_mul_of_nonneg_left h1 h0
 rw [Int.mul_neg] at e3
 omega
theorem UD (b p:Int):aI Go.Proofs.Tryz.prog 91 [.rv (.int .i64 b),.rv (.int .i64 p)] [] [] (.aP [.rv (.int .i64 (lM b p)),.rv (.bool (lg b p))]):=by
 refine bt Qn [.rv (.int .i64 b),.rv (.int .i64 p)] _ (by simp) (by simp [aO,aW,bp,aS,bg,aC.sv,Ln.sv,Nd.sv]) (fun K hK=>?_)
 conv in fc _ _ _ _=>reduce
 simp -implicitDefEqProofs only [go_sem,Int.reduceNegSucc]
 by_cases h:0≤b∧b≤1125899906842624∧-1000000≤p∧p≤1000000
 ·have g1:decide (b<0)=false:=decide_eq_false (by omega)
  have g2:decide (b>1125899906842624)=false:=decide_eq_false (by omega)
  have g3:decide (p < -1000000)=false:=decide_eq_false (by omega)
  have g4:decide (p>1000000)=false:=decide_eq_false (by omega)
  have q1:b.tdiv 10000=b / 10000:=Int.tdiv_eq_ediv_of_nonneg h.1
  have q2:b.tmod 10000=b % 10000:=Int.tmod_eq_emod_of_nonneg h.1
  have m1:=GV (a:=b % 10000) (b:=p) (A:=9999) (B:=1000000) (by omega) (by omega) h.2.2.1 h.2.2.2
  have m2:=GV (a:=b / 10000) (b:=p) (A:=112589990684) (B:=1000000) (by omega) (by omega) h.2.2.1 h.2.2.2
  have w1:IntKind.i64.wrap (b / 10000)=b / 10000:=wrap_i64 (by omega) (by omega)
  have w2:IntKind.i64.wrap (b % 10000*p)=b % 10000*p:=wrap_i64 (by omega) (by omega)
  have w3:IntKind.i64.wrap (b / 10000*p)=b / 10000*p:=wrap_i64 (by omega) (by omega)
  have w4:IntKind.i64.wrap (b / 10000*p+b % 10000*p / 10000)=b*p / 10000:=by rw [wrap_i64 (by omega) (by omega),SX]
  have hd:=UF (b % 10000*p) (by omega) (by omega)
  have hf:=mg (b*p / 10000)
  have e:lg b p=bR (b*p / 10000):=by simp [lg,h]
  have aT:=hd;have y_2:=hf;repeat' (first | (simp -implicitDefEqProofs only [go_sem,Int.reduceNegSucc,g1,g2,g3,g4,q1,q2,w1,w2,w3,w4]) | (with_reducible refine aA ?_) | (with_reducible first | refine af aT ?_ | refine ag aT ?_) | (with_reducible first | refine af y_2 ?_ | refine ag y_2 ?_) | ((first | refine ai (fun hg=>?_) (fun hg=>?_) | refine ax (fun hg=>?_) (fun hg=>?_) | refine ay (fun hg=>?_) (fun hg=>?_)) <;> try simp -implicitDefEqProofs only [hg,Bool.not_true,Bool.not_false]) | ((with_reducible apply And.intro);focus (first | trivial | omega | decide | (simp -implicitDefEqProofs only [maxLen];omega) | (simp [maxLen,ah,ak,an,av,aj,au,aq] <;> omega))) | fail)
  all_goals (refine (hK _ _ (gL ?_ ?_)).2 <;> clear hK <;> simp_all [lk,lM])
 ·have e:lg b p=false:=by simp [lg];intro a1 a2 a3 a4;exact absurd ⟨a1,a2,a3,a4⟩ h
  repeat' (first | (simp -implicitDefEqProofs only [go_sem,Int.reduceNegSucc]) | (with_reducible refine aA ?_) | ((first | refine ai (fun hg=>?_) (fun hg=>?_) | refine ax (fun hg=>?_) (fun hg=>?_) | refine ay (fun hg=>?_) (fun hg=>?_)) <;> try simp -implicitDefEqProofs only [hg,Bool.not_true,Bool.not_false]) | ((with_reducible apply And.intro);focus (first | trivial | omega | decide | (simp -implicitDefEqProofs only [maxLen];omega) | (simp [maxLen,ah,ak,an,av,aj,au,aq] <;> omega))) | fail)
  all_goals (first | (refine (hK _ _ (gL ?_ ?_)).2 <;> clear hK <;> simp [lk,lM,e];done) | (exfalso;simp at *;omega))
theorem rB (x:Ln) (b:Int) (has:Bool):aI Go.Proofs.Tryz.prog 63 [x.sv,.rv (.int .i64 b),.rv (.bool has)] [] [] (.aP [(fT x b has).sv,.rv (.bool (gX x b has))]):=by
 refine bt QU [x.sv,.rv (.int .i64 b),.rv (.bool has)] _ (by simp) (by simp [aO,aW,bp,aS,bg,aC.sv,Ln.sv,Nd.sv]) (fun K hK=>?_)
 have hf:=mg x.n
 have hp:=UD b x.n
 conv in fc _ _ _ _=>reduce
 simp -implicitDefEqProofs only [Ln.sv,Ln.cells,Sz.sv,Sz.cells,go_sem,Int.reduceNegSucc]
 have bA:=hf;have bC:=hp;repeat' (first | (simp -implicitDefEqProofs only [go_sem,Int.reduceNegSucc]) | (with_reducible refine aA ?_) | (with_reducible first | refine af bA ?_ | refine ag bA ?_) | (with_reducible first | refine af bC ?_ | refine ag bC ?_) | ((first | refine ai (fun hg=>?_) (fun hg=>?_) | refine ax (fun hg=>?_) (fun hg=>?_) | refine ay (fun hg=>?_) (fun hg=>?_)) <;> try simp -implicitDefEqProofs only [hg,Bool.not_true,Bool.not_false]) | ((with_reducible apply And.intro);focus (first | trivial | omega | decide | (simp -implicitDefEqProofs only [maxLen];omega) | (simp [maxLen,ah,ak,an,av,aj,au,aq] <;> omega))) | fail)
 all_goals (refine (hK _ _ ?_).2;clear hK;simp -implicitDefEqProofs only [go_sem,Int.reduceNegSucc,aQ,aR,aV,bf,aH,aG,aF,Sz.sv,Sz.cells,fT,gX] <;>(try simp_all [-Int.not_lt,-Int.not_le,aH,aG,aF,bB,Sz.sv,Sz.cells,fT,gX]) <;> try omega)
theorem IL (x:Ln) (b:Int) (has:Bool):aI Go.Proofs.Tryz.prog 64 [x.sv,.rv (.int .i64 b),.rv (.bool has)] [] [] (.aP [.rv (.int .i64 (bn (fT x b has) 0)),.rv (.bool (gX x b has))]):=by
 refine bt QS [x.sv,.rv (.int .i64 b),.rv (.bool has)] _ (by simp) (by simp [aO,aW,bp,aS,bg,aC.sv,Ln.sv,Nd.sv]) (fun K hK=>?_)
 have hf:=rB x b has
 have ho:=nj (fT x b has) 0
 conv in fc _ _ _ _=>reduce
 simp -implicitDefEqProofs only [Ln.sv,Ln.cells,Sz.sv,Sz.cells,go_sem,Int.reduceNegSucc] at *
 have bH:=hf;have bJ:=ho;repeat' (first | (simp -implicitDefEqProofs only [go_sem,Int.reduceNegSucc]) | (with_reducible refine aA ?_) | (with_reducible first | refine af bH ?_ | refine ag bH ?_) | (with_reducible first | refine af bJ ?_ | refine ag bJ ?_) | ((first | refine ai (fun hg=>?_) (fun hg=>?_) | refine ax (fun hg=>?_) (fun hg=>?_) | refine ay (fun hg=>?_) (fun hg=>?_)) <;> try simp -implicitDefEqProofs only [hg,Bool.not_true,Bool.not_false]) | ((with_reducible apply And.intro);focus (first | trivial | omega | decide | (simp -implicitDefEqProofs only [maxLen];omega) | (simp [maxLen,ah,ak,an,av,aj,au,aq] <;> omega))) | fail)
 exact (hK _ _ (gL rfl rfl)).2
theorem IM (x:Ln) (b:Int) (has:Bool):aI Go.Proofs.Tryz.prog 65 [x.sv,.rv (.int .i64 b),.rv (.bool has)] [] [] (.aP [.rv (.int .i64 (bn (fT x b has) 1125899906842624)),.rv (.bool (gX x b has))]):=by
 refine bt QT [x.sv,.rv (.int .i64 b),.rv (.bool has)] _ (by simp) (by simp [aO,aW,bp,aS,bg,aC.sv,Ln.sv,Nd.sv]) (fun K hK=>?_)
 have hf:=rB x b has
 have ho:=nj (fT x b has) 1125899906842624
 conv in fc _ _ _ _=>reduce
 simp -implicitDefEqProofs only [Ln.sv,Ln.cells,Sz.sv,Sz.cells,go_sem,Int.reduceNegSucc] at *
 have bL:=hf;have bQ:=ho;repeat' (first | (simp -implicitDefEqProofs only [go_sem,Int.reduceNegSucc]) | (with_reducible refine aA ?_) | (with_reducible first | refine af bL ?_ | refine ag bL ?_) | (with_reducible first | refine af bQ ?_ | refine ag bQ ?_) | ((first | refine ai (fun hg=>?_) (fun hg=>?_) | refine ax (fun hg=>?_) (fun hg=>?_) | refine ay (fun hg=>?_) (fun hg=>?_)) <;> try simp -implicitDefEqProofs only [hg,Bool.not_true,Bool.not_false]) | ((with_reducible apply And.intro);focus (first | trivial | omega | decide | (simp -implicitDefEqProofs only [maxLen];omega) | (simp [maxLen,ah,ak,an,av,aj,au,aq] <;> omega))) | fail)
 exact (hK _ _ (gL rfl rfl)).2
end Go.aL

namespace Go.aL
open Go
theorem PD:aU Go.Proofs.Tryz.prog 99 15 (fc Go.Proofs.Tryz.prog 99 15 [(.t 2)]) [(.t 2)]:=bl (by kernel_rfl)
theorem Cg:aU Go.Proofs.Tryz.prog 70 62 (fc Go.Proofs.Tryz.prog 70 62 [(.t 4),(.t 5)]) [(.t 4),(.t 5)]:=bl (by kernel_rfl)
theorem PU:aU Go.Proofs.Tryz.prog 35 48 (fc Go.Proofs.Tryz.prog 35 48 [(.c 6 2 true),(.t 7)]) [(.c 6 2 true),(.t 7)]:=bl (by kernel_rfl)
theorem PV:aU Go.Proofs.Tryz.prog 39 11 (fc Go.Proofs.Tryz.prog 39 11 [(.t 4)]) [(.t 4)]:=bl (by kernel_rfl)
theorem PT:aU Go.Proofs.Tryz.prog 36 37 (fc Go.Proofs.Tryz.prog 36 37 [(.t 8),(.t 9),(.t 10)]) [(.t 8),(.t 9),(.t 10)]:=bl (by kernel_rfl)
theorem PY:aU Go.Proofs.Tryz.prog 72 16 (fc Go.Proofs.Tryz.prog 72 16 [(.c 4 2 true)]) [(.c 4 2 true)]:=bl (by kernel_rfl)
theorem PZ:aU Go.Proofs.Tryz.prog 46 12 (fc Go.Proofs.Tryz.prog 46 12 [(.t 2),(.t 3)]) [(.t 2),(.t 3)]:=bl (by kernel_rfl)
theorem Qj:aU Go.Proofs.Tryz.prog 32 25 (fc Go.Proofs.Tryz.prog 32 25 [(.t 4)]) [(.t 4)]:=bl (by kernel_rfl)
theorem Va (x:Int) (h : -9223372036854775807≤x) (h2:x<9223372036854775808):aI Go.Proofs.Tryz.prog 99 [.rv (.int .i64 x)] [] [] (.rv (.int .i64 (x / 2))):=by
 refine bt PD [.rv (.int .i64 x)] _ (by simp) (by simp [aO,aW,bp,aS,bg,aC.sv,Ln.sv,Nd.sv]) (fun K hK=>?_)
 have t1:x.tdiv 2=if 0≤x∨x % 2=0 then x / 2 else x / 2+1:=by
  rw [Int.tdiv_eq_ediv]
  have:(2:Int) ∣ x↔x % 2=0:=Int.dvd_iff_emod_eq_zero
  simp -implicitDefEqProofs only [this];split <;> simp
 have t2:x.tmod 2=if 0≤x∨x % 2=0 then x % 2 else x % 2 - 2:=by
  rw [Int.tmod_eq_emod]
  have:(2:Int) ∣ x↔x % 2=0:=Int.dvd_iff_emod_eq_zero
  simp -implicitDefEqProofs only [this];split <;> simp
 have w1:IntKind.i64.wrap (x.tdiv 2)=x.tdiv 2:=wrap_i64 (by rw [t1];split <;> omega) (by rw [t1];split <;> omega)
 have w2:IntKind.i64.wrap (x.tdiv 2 - 1)=x.tdiv 2 - 1:=wrap_i64 (by rw [t1];split <;> omega) (by rw [t1];split <;> omega)
 conv in fc _ _ _ _=>reduce
 simp -implicitDefEqProofs only [go_sem,Int.reduceNegSucc]
 repeat' (first | (simp -implicitDefEqProofs only [go_sem,Int.reduceNegSucc,w1,w2]) | (with_reducible refine aA ?_) | ((first | refine ai (fun hg=>?_) (fun hg=>?_) | refine ax (fun hg=>?_) (fun hg=>?_) | refine ay (fun hg=>?_) (fun hg=>?_)) <;> try simp -implicitDefEqProofs only [hg,Bool.not_true,Bool.not_false]) | ((with_reducible apply And.intro);focus (first | trivial | omega | decide | (simp -implicitDefEqProofs only [maxLen];omega) | (simp [maxLen,ah,ak,an,av,aj,au,aq] <;> omega))) | fail)
 all_goals (refine (hK _ _ (bO ?_)).2;clear hK;simp -implicitDefEqProofs only [lk,↓reduceIte,Nat.reduceEqDiff,SV.rv.injEq,RV.int.injEq,true_and,t1,t2,decide_eq_true_eq,decide_eq_false_iff_not,bne_iff_ne,ne_eq,bne_eq_false_iff_eq,Bool.not_true,Bool.not_false] at *;clear w1 w2;(try split at hg) <;>(try split) <;> omega)
theorem oN (x:Sz) (d:Int):aI Go.Proofs.Tryz.prog 39 [x.sv,.rv (.int .i64 d)] [] [] (.rv (.int .i64 (bn x d))):=by
 refine bt PV [x.sv,.rv (.int .i64 d)] _ (by simp) (by simp [aO,aW,bp,aS,bg,aC.sv,Ln.sv,Nd.sv]) (fun K hK=>?_)
 conv in fc _ _ _ _=>reduce
 simp -implicitDefEqProofs only [Sz.sv,Sz.cells,go_sem,Int.reduceNegSucc]
 repeat' (first | (simp -implicitDefEqProofs only [go_sem,Int.reduceNegSucc]) | (with_reducible refine aA ?_) | ((first | refine ai (fun hg=>?_) (fun hg=>?_) | refine ax (fun hg=>?_) (fun hg=>?_) | refine ay (fun hg=>?_) (fun hg=>?_)) <;> try simp -implicitDefEqProofs only [hg,Bool.not_true,Bool.not_false]) | ((with_reducible apply And.intro);focus (first | trivial | omega | decide | (simp -implicitDefEqProofs only [maxLen];omega) | (simp [maxLen,ah,ak,an,av,aj,au,aq] <;> omega))) | fail)
 all_goals (refine (hK _ _ ?_).2;clear hK;simp -implicitDefEqProofs only [go_sem,Int.reduceNegSucc,aQ,aR,aV,bf,aH,aG,aF,bn] <;>(try simp_all [-Int.not_lt,-Int.not_le,aH,aG,aF,bB,bn]) <;> try omega)
theorem uH (a b:Su):aI Go.Proofs.Tryz.prog 72 [a.sv,b.sv] [] [] (fM a b).sv:=by
 refine bt PY [a.sv,b.sv] _ (by simp) (by simp [aO,aW,bp,aS,bg,aC.sv,Ln.sv,Nd.sv]) (fun K hK=>?_)
 conv in fc _ _ _ _=>reduce
 simp -implicitDefEqProofs only [Su.sv,Su.cells,go_sem,Int.reduceNegSucc]
 repeat' (first | (simp -implicitDefEqProofs only [go_sem,Int.reduceNegSucc]) | (with_reducible refine aA ?_) | ((first | refine ai (fun hg=>?_) (fun hg=>?_) | refine ax (fun hg=>?_) (fun hg=>?_) | refine ay (fun hg=>?_) (fun hg=>?_)) <;> try simp -implicitDefEqProofs only [hg,Bool.not_true,Bool.not_false]) | ((with_reducible apply And.intro);focus (first | trivial | omega | decide | (simp -implicitDefEqProofs only [maxLen];omega) | (simp [maxLen,ah,ak,an,av,aj,au,aq] <;> omega))) | fail)
 all_goals (refine (hK _ _ ?_).2;clear hK;simp -implicitDefEqProofs only [go_sem,Int.reduceNegSucc,aQ,aR,aV,bf,aH,aG,aF,Su.sv,Su.cells,fM] <;>(try simp_all [-Int.not_lt,-Int.not_le,aH,aG,aF,bB,Su.sv,Su.cells,fM]) <;> try omega)
theorem uG (id:Nat) (xs:List Int) (hb:xs.length≤1000):aI Go.Proofs.Tryz.prog 34 [.row id 0 xs.length] [(id,.row 1 0 (lT xs))] [] (.aP [.rv (.int .i64 (cv xs)),.rv (.bool (fV xs))]):=by
 have:=GC (id:=id) (v:=0) (n:=xs.length) (bs:=[]) (rs:=[.int .i64 (cv xs),.bool (fV xs)]) (Ve xs hb) (by simp;exact ⟨.int _ _,.bool _⟩) (by rw [aj]) (kN _)
 rw [BQ];exact this
theorem CV (a:Su):aI Go.Proofs.Tryz.prog 46 [a.sv] [] [] (.aP [.rv (.int .i64 (iT a)),.rv (.bool (nT a))]):=by
 refine bt PZ [a.sv] _ (by simp) (by simp [aO,aW,bp,aS,bg,aC.sv,Ln.sv,Nd.sv]) (fun K hK=>?_)
 have hs:=fun id=>uG id [a.p,a.n] (by simp)
 conv in fc _ _ _ _=>reduce
 simp -implicitDefEqProofs only [Su.sv,Su.cells,go_sem,Int.reduceNegSucc]
 simp [lT] at hs
 have aT:=hs;repeat' (first | (simp -implicitDefEqProofs only [go_sem,Int.reduceNegSucc]) | (with_reducible refine aA ?_) | ((first | refine bS (aT _) ?_ ?_ ?_ | refine ck (aT _) ?_ ?_ ?_ | fail);(focus (simp [aY,aB] <;> fail));(focus (simp [bq,aX] <;> fail))) | ((first | refine ai (fun hg=>?_) (fun hg=>?_) | refine ax (fun hg=>?_) (fun hg=>?_) | refine ay (fun hg=>?_) (fun hg=>?_)) <;> try simp -implicitDefEqProofs only [hg,Bool.not_true,Bool.not_false]) | ((with_reducible apply And.intro);focus (first | trivial | omega | decide | (simp -implicitDefEqProofs only [maxLen];omega) | (simp [maxLen,ah,ak,an,av,aj,au,aq] <;> omega))) | fail)
 all_goals (refine (hK _ _ ?_).2;clear hK;simp -implicitDefEqProofs only [go_sem,Int.reduceNegSucc,aQ,aR,aV,bf,aH,aG,aF,iT,nT] <;>(try simp_all [-Int.not_lt,-Int.not_le,aH,aG,aF,bB,iT,nT]) <;> try omega)
theorem CX (w:Int) (h:Sz):aI Go.Proofs.Tryz.prog 32 [.rv (.int .i64 w),h.sv] [] [] (.rv (.bool (iI w h))):=by
 refine bt Qj [.rv (.int .i64 w),h.sv] _ (by simp) (by simp [aO,aW,bp,aS,bg,aC.sv,Ln.sv,Nd.sv]) (fun K hK=>?_)
 conv in fc _ _ _ _=>reduce
 simp -implicitDefEqProofs only [Sz.sv,Sz.cells,go_sem,Int.reduceNegSucc]
 repeat' (first | (simp -implicitDefEqProofs only [go_sem,Int.reduceNegSucc]) | (with_reducible refine aA ?_) | ((first | refine ai (fun hg=>?_) (fun hg=>?_) | refine ax (fun hg=>?_) (fun hg=>?_) | refine ay (fun hg=>?_) (fun hg=>?_)) <;> try simp -implicitDefEqProofs only [hg,Bool.not_true,Bool.not_false]) | ((with_reducible apply And.intro);focus (first | trivial | omega | decide | (simp -implicitDefEqProofs only [maxLen];omega) | (simp [maxLen,ah,ak,an,av,aj,au,aq] <;> omega))) | fail)
 all_goals (refine (hK _ _ ?_).2;clear hK;simp -implicitDefEqProofs only [go_sem,Int.reduceNegSucc,aQ,aR,aV,bf,aH,aG,aF,iI] <;>(try simp_all [-Int.not_lt,-Int.not_le,aH,aG,aF,bB,iI]) <;> try omega)
end Go.aL

namespace Go.aL
open Go
theorem GW (b N:Int) (b0:0≤b) (b1:b≤1125899906842624) (h0:0≤N) (h1:N≤1000000):∃ (hi lo:Nat) (W:Int),b*N=W∧0≤W∧W≤1125899906842624000000∧
 b*N / 18446744073709551616=(hi:Int)∧b*N % 18446744073709551616=(lo:Int)∧hi<1024∧lo<18446744073709551616∧(hi:Int)*18446744073709551616+(lo:Int)=W:=by
 have m:=Cn (a:=b) (b:=N) (A:=1125899906842624) (B:=1000000) b0 b1 h0 h1
 generalize b*N=W at *
 exact ⟨(W / 18446744073709551616).toNat,(W % 18446744073709551616).toNat,W,rfl,m.1,by omega,by omega,by omega,by omega,by omega,by omega⟩
theorem HA {W:Int} (h0:0≤W) (h1:W≤1125899906842624000000):0≤W / 10000∧W / 10000≤112589990684262400∧0≤W % 10000∧W % 10000<10000:=by omega
theorem SY {W:Int}:(W % 10000>0→-W / 10000 = -(W / 10000+1))∧(¬ W % 10000>0→-W / 10000 = -(W / 10000)):=by omega
theorem Vc (b p:Int) (b0:0≤b) (b1:b≤1125899906842624) (p0 : -1000000≤p) (p1:p≤1000000) (hp:p<0):aI Go.Proofs.Tryz.prog 70 [.rv (.int .i64 b),.rv (.int .i64 p)] [] [] (.aP [.rv (.int .i64 (lM b p)),.rv (.bool (lg b p))]):=by
 refine bt Cg [.rv (.int .i64 b),.rv (.int .i64 p)] _ (by simp) (by simp [aO,aW,bp,aS,bg,aC.sv,Ln.sv,Nd.sv]) (fun K hK=>?_)
 have sw:lg b p=bR (b*p / 10000):=by simp [lg,b0,b1,p0,p1]
 have g1:decide (b<0)=false:=decide_eq_false (by omega)
 have g2:decide (b>1125899906842624)=false:=decide_eq_false (by omega)
 have g3:decide (p < -1000000)=false:=decide_eq_false (by omega)
 have g4:decide (p>1000000)=false:=decide_eq_false (by omega)
 have wb:IntKind.u64.wrap b=b:=wrap_u64 b0 (by omega)
 have g5:decide (p<0)=true:=decide_eq_true hp
 have w1:IntKind.i64.wrap (0 - p) = -p:=by rw [wrap_i64 (by omega) (by omega)] <;> try omega
 have w2:IntKind.u64.wrap (-p) = -p:=wrap_u64 (by omega) (by omega)
 have hm:=Ix b (-p) b0 b1 (by omega) (by omega)
 obtain ⟨hi,lo,W,e0,e1,e2,e3,e4,e5,e6,e7⟩:=GW b (-p) b0 b1 (by omega) (by omega)
 have hd:=Iu hi lo e5 e6
 rw [e3,e4] at hm
 rw [e7] at hd
 have e8:b*p = -W:=by rw [Int.mul_neg] at e0;omega
 have vp:lM b p=if bR (-W / 10000)=true then -W / 10000 else 0:=by simp -implicitDefEqProofs only [lM,sw,e8]
 rw [sw,vp,e8] at hK
 clear e0 e3 e4 e5 e6 e7 e8 sw vp
 conv in fc _ _ _ _=>reduce
 simp -implicitDefEqProofs only [go_sem,Int.reduceNegSucc]
 generalize (hi:Int)=H at *
 generalize (lo:Int)=L at *
 obtain ⟨q1,q2,q3,q4⟩:=HA e1 e2
 obtain ⟨r1,r2⟩:=SY (W:=W)
 generalize -W / 10000=X at *
 generalize W / 10000=Q at *
 generalize W % 10000=R at *
 clear e1 e2
 have w3:IntKind.u64.wrap (Q+1)=Q+1:=wrap_u64 (by omega) (by omega)
 have w4:IntKind.i64.wrap (Q+1)=Q+1:=by rw [wrap_i64 (by omega) (by omega)] <;> try omega
 have w5:IntKind.i64.wrap Q=Q:=by rw [wrap_i64 (by omega) (by omega)] <;> try omega
 have w6:IntKind.i64.wrap (0 - (Q+1)) = -(Q+1):=by rw [wrap_i64 (by omega) (by omega)] <;> try omega
 have w7:IntKind.i64.wrap (0 - Q) = -Q:=by rw [wrap_i64 (by omega) (by omega)] <;> try omega
 by_cases hr:R>0
 ·have g6:decide (R>0)=true:=decide_eq_true hr
  rw [r1 hr] at hK
  by_cases hq:Q+1>1125899906842624
  ·have g7:decide (Q+1>1125899906842624)=true:=decide_eq_true hq
   have hF:bR (-(Q+1))=false:=by rw [Bool.eq_false_iff,ne_eq,jf];omega
   rw [hF] at hK
   have aT:=hm;have y_2:=hd;repeat' (first | (simp -implicitDefEqProofs only [go_sem,Int.reduceNegSucc,g1,g2,g3,g4,g5,wb,w1,w2,w3,g6,g7]) | (with_reducible refine aA ?_) | (with_reducible first | refine af aT ?_ | refine ag aT ?_) | (with_reducible first | refine af y_2 ?_ | refine ag y_2 ?_) | ((first | refine ai (fun hg=>?_) (fun hg=>?_) | refine ax (fun hg=>?_) (fun hg=>?_) | refine ay (fun hg=>?_) (fun hg=>?_)) <;> try simp -implicitDefEqProofs only [hg,Bool.not_true,Bool.not_false]) | ((with_reducible apply And.intro);focus (first | trivial | omega | decide | (simp -implicitDefEqProofs only [maxLen];omega) | (simp [maxLen,ah,ak,an,av,aj,au,aq] <;> omega))) | fail)
   refine (hK _ _ (gL ?_ ?_)).2 <;> rfl
  ·have g7:decide (Q+1>1125899906842624)=false:=decide_eq_false hq
   have hF:bR (-(Q+1))=true:=by rw [jf];omega
   rw [hF] at hK
   have bA:=hm;have bC:=hd;repeat' (first | (simp -implicitDefEqProofs only [go_sem,Int.reduceNegSucc,g1,g2,g3,g4,g5,wb,w1,w2,w3,g6,g7,w4,w6]) | (with_reducible refine aA ?_) | (with_reducible first | refine af bA ?_ | refine ag bA ?_) | (with_reducible first | refine af bC ?_ | refine ag bC ?_) | ((first | refine ai (fun hg=>?_) (fun hg=>?_) | refine ax (fun hg=>?_) (fun hg=>?_) | refine ay (fun hg=>?_) (fun hg=>?_)) <;> try simp -implicitDefEqProofs only [hg,Bool.not_true,Bool.not_false]) | ((with_reducible apply And.intro);focus (first | trivial | omega | decide | (simp -implicitDefEqProofs only [maxLen];omega) | (simp [maxLen,ah,ak,an,av,aj,au,aq] <;> omega))) | fail)
   refine (hK _ _ (gL ?_ ?_)).2 <;> rfl
 ·have g6:decide (R>0)=false:=decide_eq_false hr
  rw [r2 hr] at hK
  by_cases hq:Q>1125899906842624
  ·have g7:decide (Q>1125899906842624)=true:=decide_eq_true hq
   have hF:bR (-Q)=false:=by rw [Bool.eq_false_iff,ne_eq,jf];omega
   rw [hF] at hK
   have bH:=hm;have bJ:=hd;repeat' (first | (simp -implicitDefEqProofs only [go_sem,Int.reduceNegSucc,g1,g2,g3,g4,g5,wb,w1,w2,w3,g6,g7]) | (with_reducible refine aA ?_) | (with_reducible first | refine af bH ?_ | refine ag bH ?_) | (with_reducible first | refine af bJ ?_ | refine ag bJ ?_) | ((first | refine ai (fun hg=>?_) (fun hg=>?_) | refine ax (fun hg=>?_) (fun hg=>?_) | refine ay (fun hg=>?_) (fun hg=>?_)) <;> try simp -implicitDefEqProofs only [hg,Bool.not_true,Bool.not_false]) | ((with_reducible apply And.intro);focus (first | trivial | omega | decide | (simp -implicitDefEqProofs only [maxLen];omega) | (simp [maxLen,ah,ak,an,av,aj,au,aq] <;> omega))) | fail)
   refine (hK _ _ (gL ?_ ?_)).2 <;> rfl
  ·have g7:decide (Q>1125899906842624)=false:=decide_eq_false hq
   have hF:bR (-Q)=true:=by rw [jf];omega
   rw [hF] at hK
   have bL:=hm;have bQ:=hd;repeat' (first | (simp -implicitDefEqProofs only [go_sem,Int.reduceNegSucc,g1,g2,g3,g4,g5,wb,w1,w2,w3,g6,g7,w5,w7]) | (with_reducible refine aA ?_) | (with_reducible first | refine af bL ?_ | refine ag bL ?_) | (with_reducible first | refine af bQ ?_ | refine ag bQ ?_) | ((first | refine ai (fun hg=>?_) (fun hg=>?_) | refine ax (fun hg=>?_) (fun hg=>?_) | refine ay (fun hg=>?_) (fun hg=>?_)) <;> try simp -implicitDefEqProofs only [hg,Bool.not_true,Bool.not_false]) | ((with_reducible apply And.intro);focus (first | trivial | omega | decide | (simp -implicitDefEqProofs only [maxLen];omega) | (simp [maxLen,ah,ak,an,av,aj,au,aq] <;> omega))) | fail)
   refine (hK _ _ (gL ?_ ?_)).2 <;> rfl
theorem Vd (b p:Int) (b0:0≤b) (b1:b≤1125899906842624) (p0 : -1000000≤p) (p1:p≤1000000) (hp:¬ p<0):aI Go.Proofs.Tryz.prog 70 [.rv (.int .i64 b),.rv (.int .i64 p)] [] [] (.aP [.rv (.int .i64 (lM b p)),.rv (.bool (lg b p))]):=by
 refine bt Cg [.rv (.int .i64 b),.rv (.int .i64 p)] _ (by simp) (by simp [aO,aW,bp,aS,bg,aC.sv,Ln.sv,Nd.sv]) (fun K hK=>?_)
 have sw:lg b p=bR (b*p / 10000):=by simp [lg,b0,b1,p0,p1]
 have g1:decide (b<0)=false:=decide_eq_false (by omega)
 have g2:decide (b>1125899906842624)=false:=decide_eq_false (by omega)
 have g3:decide (p < -1000000)=false:=decide_eq_false (by omega)
 have g4:decide (p>1000000)=false:=decide_eq_false (by omega)
 have wb:IntKind.u64.wrap b=b:=wrap_u64 b0 (by omega)
 have g5:decide (p<0)=false:=decide_eq_false hp
 have w2:IntKind.u64.wrap p=p:=wrap_u64 (by omega) (by omega)
 have hm:=Ix b p b0 b1 (by omega) (by omega)
 obtain ⟨hi,lo,W,e0,e1,e2,e3,e4,e5,e6,e7⟩:=GW b p b0 b1 (by omega) (by omega)
 have hd:=Iu hi lo e5 e6
 rw [e3,e4] at hm
 rw [e7] at hd
 have vp:lM b p=if bR (W / 10000)=true then W / 10000 else 0:=by simp -implicitDefEqProofs only [lM,sw,e0]
 rw [sw,vp,e0] at hK
 clear e0 e3 e4 e5 e6 e7 sw vp
 conv in fc _ _ _ _=>reduce
 simp -implicitDefEqProofs only [go_sem,Int.reduceNegSucc]
 generalize (hi:Int)=H at *
 generalize (lo:Int)=L at *
 obtain ⟨q1,q2,q3,q4⟩:=HA e1 e2
 generalize W / 10000=Q at *
 generalize W % 10000=R at *
 clear e1 e2
 have w5:IntKind.i64.wrap Q=Q:=by rw [wrap_i64 (by omega) (by omega)] <;> try omega
 by_cases hq:Q>1125899906842624
 ·have g7:decide (Q>1125899906842624)=true:=decide_eq_true hq
  have hF:bR Q=false:=by rw [Bool.eq_false_iff,ne_eq,jf];omega
  rw [hF] at hK
  have bZ:=hm;have cm:=hd;repeat' (first | (simp -implicitDefEqProofs only [go_sem,Int.reduceNegSucc,g1,g2,g3,g4,g5,wb,w2,g7]) | (with_reducible refine aA ?_) | (with_reducible first | refine af bZ ?_ | refine ag bZ ?_) | (with_reducible first | refine af cm ?_ | refine ag cm ?_) | ((first | refine ai (fun hg=>?_) (fun hg=>?_) | refine ax (fun hg=>?_) (fun hg=>?_) | refine ay (fun hg=>?_) (fun hg=>?_)) <;> try simp -implicitDefEqProofs only [hg,Bool.not_true,Bool.not_false]) | ((with_reducible apply And.intro);focus (first | trivial | omega | decide | (simp -implicitDefEqProofs only [maxLen];omega) | (simp [maxLen,ah,ak,an,av,aj,au,aq] <;> omega))) | fail)
  refine (hK _ _ (gL ?_ ?_)).2 <;> rfl
 ·have g7:decide (Q>1125899906842624)=false:=decide_eq_false hq
  have hF:bR Q=true:=by rw [jf];omega
  rw [hF] at hK
  have fO:=hm;have gj:=hd;repeat' (first | (simp -implicitDefEqProofs only [go_sem,Int.reduceNegSucc,g1,g2,g3,g4,g5,wb,w2,w5,g7]) | (with_reducible refine aA ?_) | (with_reducible first | refine af fO ?_ | refine ag fO ?_) | (with_reducible first | refine af gj ?_ | refine ag gj ?_) | ((first | refine ai (fun hg=>?_) (fun hg=>?_) | refine ax (fun hg=>?_) (fun hg=>?_) | refine ay (fun hg=>?_) (fun hg=>?_)) <;> try simp -implicitDefEqProofs only [hg,Bool.not_true,Bool.not_false]) | ((with_reducible apply And.intro);focus (first | trivial | omega | decide | (simp -implicitDefEqProofs only [maxLen];omega) | (simp [maxLen,ah,ak,an,av,aj,au,aq] <;> omega))) | fail)
  refine (hK _ _ (gL ?_ ?_)).2 <;> rfl
theorem Vb (b p:Int):aI Go.Proofs.Tryz.prog 70 [.rv (.int .i64 b),.rv (.int .i64 p)] [] [] (.aP [.rv (.int .i64 (lM b p)),.rv (.bool (lg b p))]):=by
 by_cases h:0≤b∧b≤1125899906842624∧-1000000≤p∧p≤1000000
 ·obtain ⟨b0,b1,p0,p1⟩:=h
  by_cases hp:p<0
  ·exact Vc b p b0 b1 p0 p1 hp
  ·exact Vd b p b0 b1 p0 p1 hp
 ·refine bt Cg [.rv (.int .i64 b),.rv (.int .i64 p)] _ (by simp) (by simp [aO,aW,bp,aS,bg,aC.sv,Ln.sv,Nd.sv]) (fun K hK=>?_)
  have e:lg b p=false:=by simp [lg];intro a1 a2 a3 a4;exact absurd ⟨a1,a2,a3,a4⟩ h
  have e2:lM b p=0:=by simp [lM,e]
  rw [e,e2] at hK
  by_cases g1:b<0
  ·have sq:decide (b<0)=true:=decide_eq_true g1
   conv in fc _ _ _ _=>reduce
   simp -implicitDefEqProofs only [go_sem,Int.reduceNegSucc]
   repeat' (first | (simp -implicitDefEqProofs only [go_sem,Int.reduceNegSucc,sq]) | (with_reducible refine aA ?_) | ((first | refine ai (fun hg=>?_) (fun hg=>?_) | refine ax (fun hg=>?_) (fun hg=>?_) | refine ay (fun hg=>?_) (fun hg=>?_)) <;> try simp -implicitDefEqProofs only [hg,Bool.not_true,Bool.not_false]) | ((with_reducible apply And.intro);focus (first | trivial | omega | decide | (simp -implicitDefEqProofs only [maxLen];omega) | (simp [maxLen,ah,ak,an,av,aj,au,aq] <;> omega))) | fail)
   refine (hK _ _ (gL ?_ ?_)).2 <;> rfl
  by_cases g2:b>1125899906842624
  ·have sq:decide (b<0)=false:=decide_eq_false g1
   have vn:decide (b>1125899906842624)=true:=decide_eq_true g2
   conv in fc _ _ _ _=>reduce
   simp -implicitDefEqProofs only [go_sem,Int.reduceNegSucc]
   repeat' (first | (simp -implicitDefEqProofs only [go_sem,Int.reduceNegSucc,sq,vn]) | (with_reducible refine aA ?_) | ((first | refine ai (fun hg=>?_) (fun hg=>?_) | refine ax (fun hg=>?_) (fun hg=>?_) | refine ay (fun hg=>?_) (fun hg=>?_)) <;> try simp -implicitDefEqProofs only [hg,Bool.not_true,Bool.not_false]) | ((with_reducible apply And.intro);focus (first | trivial | omega | decide | (simp -implicitDefEqProofs only [maxLen];omega) | (simp [maxLen,ah,ak,an,av,aj,au,aq] <;> omega))) | fail)
   refine (hK _ _ (gL ?_ ?_)).2 <;> rfl
  by_cases g3:p < -1000000
  ·have sq:decide (b<0)=false:=decide_eq_false g1
   have vn:decide (b>1125899906842624)=false:=decide_eq_false g2
   have Bb:decide (p < -1000000)=true:=decide_eq_true g3
   conv in fc _ _ _ _=>reduce
   simp -implicitDefEqProofs only [go_sem,Int.reduceNegSucc]
   repeat' (first | (simp -implicitDefEqProofs only [go_sem,Int.reduceNegSucc,sq,vn,Bb]) | (with_reducible refine aA ?_) | ((first | refine ai (fun hg=>?_) (fun hg=>?_) | refine ax (fun hg=>?_) (fun hg=>?_) | refine ay (fun hg=>?_) (fun hg=>?_)) <;> try simp -implicitDefEqProofs only [hg,Bool.not_true,Bool.not_false]) | ((with_reducible apply And.intro);focus (first | trivial | omega | decide | (simp -implicitDefEqProofs only [maxLen];omega) | (simp [maxLen,ah,ak,an,av,aj,au,aq] <;> omega))) | fail)
   refine (hK _ _ (gL ?_ ?_)).2 <;> rfl
  ·have sq:decide (b<0)=false:=decide_eq_false g1
   have vn:decide (b>1125899906842624)=false:=decide_eq_false g2
   have Bb:decide (p < -1000000)=false:=decide_eq_false g3
   have Ml:decide (p>1000000)=true:=decide_eq_true (by omega)
   conv in fc _ _ _ _=>reduce
   simp -implicitDefEqProofs only [go_sem,Int.reduceNegSucc]
   repeat' (first | (simp -implicitDefEqProofs only [go_sem,Int.reduceNegSucc,sq,vn,Bb,Ml]) | (with_reducible refine aA ?_) | ((first | refine ai (fun hg=>?_) (fun hg=>?_) | refine ax (fun hg=>?_) (fun hg=>?_) | refine ay (fun hg=>?_) (fun hg=>?_)) <;> try simp -implicitDefEqProofs only [hg,Bool.not_true,Bool.not_false]) | ((with_reducible apply And.intro);focus (first | trivial | omega | decide | (simp -implicitDefEqProofs only [maxLen];omega) | (simp [maxLen,ah,ak,an,av,aj,au,aq] <;> omega))) | fail)
   refine (hK _ _ (gL ?_ ?_)).2 <;> rfl
end Go.aL

namespace Go.aL
open Go
theorem QW:aU Go.Proofs.Tryz.prog 89 30 (fc Go.Proofs.Tryz.prog 89 30 [(.c 4 8 true),(.t 5)]) [(.c 4 8 true),(.t 5)]:=bl (by kernel_rfl)
theorem QZ:aU Go.Proofs.Tryz.prog 90 9 (fc Go.Proofs.Tryz.prog 90 9 [(.t 4)]) [(.t 4)]:=bl (by kernel_rfl)
theorem Rd:aU Go.Proofs.Tryz.prog 110 19 (fc Go.Proofs.Tryz.prog 110 19 [(.t 4)]) [(.t 4)]:=bl (by kernel_rfl)
theorem Qu:aU Go.Proofs.Tryz.prog 61 137 (fc Go.Proofs.Tryz.prog 61 137 [(.c 8 28 true),(.t 9)]) [(.c 8 28 true),(.t 9)]:=bl (by kernel_rfl)
theorem Gn:aU Go.Proofs.Tryz.prog 62 30 (fc Go.Proofs.Tryz.prog 62 30 [(.t 6),(.t 7)]) [(.t 6),(.t 7)]:=bl (by kernel_rfl)
theorem Pn:aU Go.Proofs.Tryz.prog 113 24 (fc Go.Proofs.Tryz.prog 113 24 [(.t 4)]) [(.t 4)]:=bl (by kernel_rfl)
theorem Po:aU Go.Proofs.Tryz.prog 114 76 (fc Go.Proofs.Tryz.prog 114 76 [(.t 4),(.t 5)]) [(.t 4),(.t 5)]:=bl (by kernel_rfl)
def Q4.hU (q:Q4 Sz):List RV:=[.bool q.a.auto,.int .i64 q.a.n,.bool q.b.auto,.int .i64 q.b.n,.bool q.c.auto,.int .i64 q.c.n,.bool q.d.auto,.int .i64 q.d.n]
def wN (q:Q4 Ln) (b:Int):Q4 Sz:=⟨fT q.a b true,fT q.b b true,fT q.c b true,fT q.d b true⟩
def oM (q:Q4 Ln) (b:Int):Bool:=gX q.a b true && gX q.b b true && gX q.c b true && gX q.d b true
def mM (q:Q4 Ln) (b:Int):Q4 Sz:=if oM q b=true then wN q b else ⟨⟨false,0⟩,⟨false,0⟩,⟨false,0⟩,⟨false,0⟩⟩
theorem IN (q:Q4 Ln) (b:Int):aI Go.Proofs.Tryz.prog 89 [.agg (q.pO.map .rv),.rv (.int .i64 b)] [] [] (.aP [.agg ((mM q b).hU.map .rv),.rv (.bool (oM q b))]):=by
 refine bt QW [.agg (q.pO.map .rv),.rv (.int .i64 b)] _ (by simp) (by simp [aO,aW,bp,aS,bg,aC.sv,Ln.sv,Nd.sv]) (fun K hK=>?_)
 have ha:=rB q.a b true
 have hb:=rB q.b b true
 have hc:=rB q.c b true
 have hd:=rB q.d b true
 conv in fc _ _ _ _=>reduce
 simp -implicitDefEqProofs only [Q4.pO,Ln.sv,Ln.cells,Sz.sv,Sz.cells,go_sem,Int.reduceNegSucc] at *
 repeat' (first | (simp -implicitDefEqProofs only [go_sem,Int.reduceNegSucc]) | (with_reducible refine aA ?_) | ((first | refine ai (fun hg=>?_) (fun hg=>?_) | refine ax (fun hg=>?_) (fun hg=>?_) | refine ay (fun hg=>?_) (fun hg=>?_)) <;> try simp -implicitDefEqProofs only [hg,Bool.not_true,Bool.not_false]) | ((with_reducible apply And.intro);focus (first | trivial | omega | decide | (simp -implicitDefEqProofs only [maxLen];omega) | (simp [maxLen,ah,ak,an,av,aj,au,aq] <;> omega))) | fail)
 refine jH 5 ?_
 have aT:=ha;have y_2:=hb;have bA:=hc;have bC:=hd;repeat' (first | (simp -implicitDefEqProofs only [go_sem,Int.reduceNegSucc,jM,jN,jO,jP,jQ,jR,jD,Int.reduceLT,decide_true,decide_false,Int.reduceToNat,Nat.reduceMul]) | (with_reducible refine aA ?_) | (with_reducible show G _ _ (It.l _ _::_) _ _ _;refine jG ?_) | (with_reducible first | refine af aT ?_ | refine ag aT ?_) | (with_reducible first | refine af y_2 ?_ | refine ag y_2 ?_) | (with_reducible first | refine af bA ?_ | refine ag bA ?_) | (with_reducible first | refine af bC ?_ | refine ag bC ?_) | ((first | refine ai (fun hg=>?_) (fun hg=>?_) | refine ax (fun hg=>?_) (fun hg=>?_) | refine ay (fun hg=>?_) (fun hg=>?_)) <;> try simp -implicitDefEqProofs only [hg,Bool.not_true,Bool.not_false]) | ((with_reducible apply And.intro);focus (first | trivial | omega | decide | (simp -implicitDefEqProofs only [maxLen];omega) | (simp [maxLen,ah,ak,an,av,aj,au,aq] <;> omega))) | fail)
 all_goals (refine (hK _ _ ?_).2;clear hK;simp -implicitDefEqProofs only [go_sem,Int.reduceNegSucc,aQ,aR,aV,bf,aH,aG,aF,mM,oM,wN,Q4.hU] <;>(try simp_all [-Int.not_lt,-Int.not_le,aH,aG,aF,bB,mM,oM,wN,Q4.hU]) <;> try omega)
def BW (a b c d e:Bool):Int:=if a=false then 0 else if b=false then 1 else if c=false then 2 else if d=false then 3 else if e=false then 4 else -1
theorem Uh (a b c d e:Bool):aI Go.Proofs.Tryz.prog 110 [.rv (.sl 1 [[.bool a],[.bool b],[.bool c],[.bool d],[.bool e]]),.rv (.bool false)] [] [] (.rv (.int .i64 (BW a b c d e))):=by
 refine bt Rd [.rv (.sl 1 [[.bool a],[.bool b],[.bool c],[.bool d],[.bool e]]),.rv (.bool false)] _ (by simp) (by simp [aO,aW,bp,aS,bg,aC.sv,Ln.sv,Nd.sv]) (fun K hK=>?_)
 conv in fc _ _ _ _=>reduce
 simp -implicitDefEqProofs only [go_sem,Int.reduceNegSucc]
 repeat' (first | (simp -implicitDefEqProofs only [go_sem,Int.reduceNegSucc]) | (with_reducible refine aA ?_) | ((first | refine ai (fun hg=>?_) (fun hg=>?_) | refine ax (fun hg=>?_) (fun hg=>?_) | refine ay (fun hg=>?_) (fun hg=>?_)) <;> try simp -implicitDefEqProofs only [hg,Bool.not_true,Bool.not_false]) | ((with_reducible apply And.intro);focus (first | trivial | omega | decide | (simp -implicitDefEqProofs only [maxLen];omega) | (simp [maxLen,ah,ak,an,av,aj,au,aq] <;> omega))) | fail)
 refine jH 6 ?_
 repeat' (first | (simp -implicitDefEqProofs only [go_sem,Int.reduceNegSucc,jM,jN,jO,jP,jQ,jR,jD,Int.reduceLT,decide_true,decide_false,Int.reduceToNat,Nat.reduceMul]) | (with_reducible refine aA ?_) | (with_reducible show G _ _ (It.l _ _::_) _ _ _;refine jG ?_) | ((first | refine ai (fun hg=>?_) (fun hg=>?_) | refine ax (fun hg=>?_) (fun hg=>?_) | refine ay (fun hg=>?_) (fun hg=>?_)) <;> try simp -implicitDefEqProofs only [hg,Bool.not_true,Bool.not_false]) | ((with_reducible apply And.intro);focus (first | trivial | omega | decide | (simp -implicitDefEqProofs only [maxLen];omega) | (simp [maxLen,ah,ak,an,av,aj,au,aq] <;> omega))) | fail)
 all_goals (refine (hK _ _ (bO ?_)).2;clear hK;simp_all [lk,BW])
theorem Ua (a b c d e:Bool):aI Go.Proofs.Tryz.prog 90 [.rv (.sl 1 [[.bool a],[.bool b],[.bool c],[.bool d],[.bool e]]),.rv (.bool false)] [] [] (.rv (.bool !(a && b && c && d && e))):=by
 refine bt QZ [.rv (.sl 1 [[.bool a],[.bool b],[.bool c],[.bool d],[.bool e]]),.rv (.bool false)] _ (by simp) (by simp [aO,aW,bp,aS,bg,aC.sv,Ln.sv,Nd.sv]) (fun K hK=>?_)
 have hi:=Uh a b c d e
 have h5:decide (BW a b c d e≥0) = !(a && b && c && d && e):=by cases a <;> cases b <;> cases c <;> cases d <;> cases e <;> rfl
 conv in fc _ _ _ _=>reduce
 simp -implicitDefEqProofs only [go_sem,Int.reduceNegSucc]
 have bH:=hi;repeat' (first | (simp -implicitDefEqProofs only [go_sem,Int.reduceNegSucc,h5]) | (with_reducible refine aA ?_) | (with_reducible first | refine af bH ?_ | refine ag bH ?_) | ((first | refine ai (fun hg=>?_) (fun hg=>?_) | refine ax (fun hg=>?_) (fun hg=>?_) | refine ay (fun hg=>?_) (fun hg=>?_)) <;> try simp -implicitDefEqProofs only [hg,Bool.not_true,Bool.not_false]) | ((with_reducible apply And.intro);focus (first | trivial | omega | decide | (simp -implicitDefEqProofs only [maxLen];omega) | (simp [maxLen,ah,ak,an,av,aj,au,aq] <;> omega))) | fail)
 exact (hK _ _ (bO rfl)).2
theorem Ub (j v:Nat) (a b c d e:Bool):aI Go.Proofs.Tryz.prog 90 [.win j v 0 5,.rv (.bool false)] [(j,.var [.rv (.bool a),.rv (.bool b),.rv (.bool c),.rv (.bool d),.rv (.bool e)])] [] (.rv (.bool !(a && b && c && d && e))):=by
 refine xM (rs:=[.sl 1 [[.bool a],[.bool b],[.bool c],[.bool d],[.bool e]],.bool false]) (Ua a b c d e) (fun hp hpre=>⟨?_,.rv _,trivial⟩) rfl (.rv _ (.bool _)) (by simp)
 refine .win j v 0 1 5 [.rv (.bool a),.rv (.bool b),.rv (.bool c),.rv (.bool d),.rv (.bool e)] _ rfl (hpre _ (.head _)) rfl (by simp) (by simp) (fun i r k q hi hk=>?_) (fun i r k y q hi hy hk=>?_)
 ·match i,k with
  | 0,0 | 1,0 | 2,0 | 3,0 | 4,0=>cases hi;cases hk;rfl
  | 0,k+1 | 1,k+1 | 2,k+1 | 3,k+1 | 4,k+1=>cases hi;simp at hk
  | i+5,k=>simp at hi
 ·match i,k with
  | 0,0 | 1,0 | 2,0 | 3,0 | 4,0=>cases hi;cases hk;cases hy;exact .rv _
  | 0,k+1 | 1,k+1 | 2,k+1 | 3,k+1 | 4,k+1=>cases hi;simp at hk
  | i+5,k=>simp at hi
structure Ed where
 bF:Q4 Sz
 pad:Q4 Sz
 bD:Q4 Int
 high:Sz
 least:Int
 most:Int
 alone:Bool
 flat:Bool
 nN:Bool
 lK:Bool
def Ed.cells (e:Ed):List RV:=e.bF.hU++e.pad.hU++e.bD.ints++[.bool e.high.auto,.int .i64 e.high.n,.int .i64 e.least,.int .i64 e.most,.bool e.alone,.bool e.flat,.bool e.nN,.bool e.lK]
def rF (s:aC) (w:Int):Bool:=(s.bD.a == 0) && ((mM s.pad w).a.n == 0)
def qE (s:aC) (w:Int):Bool:=(s.bD.c == 0) && ((mM s.pad w).c.n == 0)
def wq (s:aC) (h:Sz):Int:=bn (fT s.kg h.n (!h.auto)) 0
def vh (s:aC) (w:Int) (h:Sz) (alone:Bool):Ed:=
 ⟨mM s.bF w,mM s.pad w,s.bD,fT s.height h.n (!h.auto),wq s h,bn (fT s.kf h.n (!h.auto)) 1125899906842624,alone,
  !alone && rF s w && qE s w && (wq s h == 0),!alone && rF s w,!alone && qE s w && (fT s.height h.n (!h.auto)).auto && (wq s h == 0)⟩
def rZ (s:aC) (w:Int) (h:Sz):Bool:=oM s.bF w && oM s.pad w && gX s.height h.n (!h.auto) && gX s.kg h.n (!h.auto) && gX s.kf h.n (!h.auto)
theorem UA (s:aC) (w:Int) (h:Sz) (alone:Bool):aI Go.Proofs.Tryz.prog 61 [s.sv,.rv (.int .i64 w),h.sv,.rv (.bool alone)] [] [] (.aP [.agg ((vh s w h alone).cells.map .rv),.rv (.bool (rZ s w h))]):=by
 refine bt Qu [s.sv,.rv (.int .i64 w),h.sv,.rv (.bool alone)] _ (by simp) (by simp [aO,aW,bp,aS,bg,aC.sv,Ln.sv,Nd.sv]) (fun K hK=>?_)
 have h1:=IN s.bF w
 have h2:=IN s.pad w
 have h3:=rB s.height h.n (!h.auto)
 have h4:=IL s.kg h.n (!h.auto)
 have h5:=IM s.kf h.n (!h.auto)
 have h6:=fun j=>Ub j 0 (oM s.bF w) (oM s.pad w) (gX s.height h.n (!h.auto)) (gX s.kg h.n (!h.auto)) (gX s.kf h.n (!h.auto))
 simp -implicitDefEqProofs only [vh,rF,qE,wq,rZ] at hK
 simp -implicitDefEqProofs only [Q4.hU,Sz.sv,Sz.cells,List.map_cons,List.map_nil] at h1 h2 h3 h4 h5
 generalize mM s.bF w=M at *
 generalize mM s.pad w=D at *
 generalize fT s.height h.n (!h.auto)=H at *
 generalize bn (fT s.kg h.n (!h.auto)) 0=L at *
 generalize bn (fT s.kf h.n (!h.auto)) 1125899906842624=X at *
 conv in fc _ _ _ _=>reduce
 simp -implicitDefEqProofs only [Sz.sv,Sz.cells,go_sem,Int.reduceNegSucc]
 cases alone <;>(have bJ:=h1;have bL:=h2;have bQ:=h3;have bZ:=h4;have cm:=h5;have fO:=h6;repeat' (first | (simp -implicitDefEqProofs only [go_sem,Int.reduceNegSucc,cD,dY,cE,dZ,cP,eA,dc,eM,dy,eY,dI,fq,dJ,fu,dK,fy,dL,fA,dM,fB,cF,ec,cG,ee,cH,eg,cI,ek,cJ,ep,cK,er,cL,eu,cM,ew,cN,ey,cO,ez,cQ,eC,cR,eD,cS,eE,cT,eF,cU,eG,cV,eH,cW,eI,cX,eJ,cY,eK,cZ,eL,de,eN,dg,eO,dh,eP,di,eR,dj,eS,dm,eT,dn,eU,dr,eV,dw,eW,dx,eX,dz,eZ,dA,fe,cB,ff,dB,fh,dD,fj,dF,fk,dG,fm,dH,fo,dS,dN,dO,dP,dQ,dR,dU,dV,dW,dX,cC,cA,ah,Q4.ints]) | (with_reducible refine aA ?_) | (with_reducible first | refine af bJ ?_ | refine ag bJ ?_) | (with_reducible first | refine af bL ?_ | refine ag bL ?_) | (with_reducible first | refine af bQ ?_ | refine ag bQ ?_) | (with_reducible first | refine af bZ ?_ | refine ag bZ ?_) | (with_reducible first | refine af cm ?_ | refine ag cm ?_) | ((first | refine bS (fO _) ?_ ?_ ?_ | refine ck (fO _) ?_ ?_ ?_ | fail);(focus (simp [aY,aB] <;> fail));(focus (simp [bq,aX] <;> fail))) | ((first | refine ai (fun hg=>?_) (fun hg=>?_) | refine ax (fun hg=>?_) (fun hg=>?_) | refine ay (fun hg=>?_) (fun hg=>?_)) <;> try simp -implicitDefEqProofs only [hg,Bool.not_true,Bool.not_false]) | ((with_reducible apply And.intro);focus (first | trivial | omega | decide | (simp -implicitDefEqProofs only [maxLen];omega) | (simp [maxLen,ah,ak,an,av,aj,au,aq] <;> omega))) | fail))
 all_goals (refine (hK _ _ ?_).2;clear hK;simp -implicitDefEqProofs only [go_sem,Int.reduceNegSucc,aQ,aR,aV,bf,aH,aG,aF,Ed.cells,Q4.hU,Q4.ints] <;>(try simp_all [-Int.not_lt,-Int.not_le,aH,aG,aF,bB,Ed.cells,Q4.hU,Q4.ints]) <;> try omega)
end Go.aL

namespace Go.aL
open Go
def Xa (i j m k:Nat):Option Nat:=if k=j then some i else if k=i then none else if k<m then some k else none
def WZ (i j k:Nat):Nat:=if k=i then j else k
end Go.aL
