/- Part 3 of the proof: K3, K4, K5, K6, K7, K8, K9, K10, K11, K12, U1, P1, F1, FK, G1, G2, F2, G3, G4, F3, EngZe. -/
import Derived.Test.YtnaoehbodmiekaaGreatPlaceTells2
set_option linter.unusedSimpArgs false
set_option linter.unusedVariables false
set_option maxRecDepth 100000
set_option maxHeartbeats 16000000
namespace Go.aL
open Go
theorem QW:aU Go.Proofs.Tryz.prog 83 94 (fc Go.Proofs.Tryz.prog 83 94 [(.t 2)]) [(.t 2)]:=bl (by kernel_rfl)
theorem QX:aU Go.Proofs.Tryz.prog 58 63 (fc Go.Proofs.Tryz.prog 58 63 [(.t 2)]) [(.t 2)]:=bl (by kernel_rfl)
theorem Gf (s:aC) {k:Nat} (h:k<18):∃ o,nH[k]?=some o∧((s.cells.map SV.rv).drop o).take 2=((fP s)[k]'h).cells.map SV.rv∧o+2≤48:=by
 have:k=0∨k=1∨k=2∨k=3∨k=4∨k=5∨k=6∨k=7∨k=8∨k=9∨k=10∨k=11∨k=12∨k=13∨k=14∨k=15∨k=16∨k=17:=by omega
 rcases this with rfl | rfl | rfl | rfl | rfl | rfl | rfl | rfl | rfl | rfl | rfl | rfl | rfl | rfl | rfl | rfl | rfl | rfl <;> exact ⟨_,rfl,rfl,by decide⟩
theorem Ry (s:aC) {k o:Nat} (h:k<18) (ho:nH[k]?=some o):(s.cells.map SV.rv)[o]?=some (.rv (.int .i64 ((fP s)[k]'h).kind))∧(s.cells.map SV.rv)[o+1]?=some (.rv (.int .i64 ((fP s)[k]'h).n)):=by
 have:k=0∨k=1∨k=2∨k=3∨k=4∨k=5∨k=6∨k=7∨k=8∨k=9∨k=10∨k=11∨k=12∨k=13∨k=14∨k=15∨k=16∨k=17:=by omega
 rcases this with rfl | rfl | rfl | rfl | rfl | rfl | rfl | rfl | rfl | rfl | rfl | rfl | rfl | rfl | rfl | rfl | rfl | rfl <;>(cases ho;exact ⟨rfl,rfl⟩)
theorem Hw {k:Nat} {i o:Nat} (h:nH[k]?=some o):(gU i nH)[k]?.getD []=[.ptr i o]:=by
 simp [gU,List.getElem?_map,h]
def rj (s:aC):List Ln:=[s.width,s.height,s.jo,s.jn,s.jM,s.jL]
def qW (s:aC) (k:Nat):Bool:=(List.range k).all fun j=>lS (nL s.pad j) (nL s.bD j)
theorem SH (s:aC) (k:Nat):qW s (k+1)=(qW s k && lS (nL s.pad k) (nL s.bD k)):=by simp [qW,List.range_succ]
theorem SG (s:aC):qW s 4=(lS s.pad.a s.bD.a && lS s.pad.b s.bD.b && lS s.pad.c s.bD.c && lS s.pad.d s.bD.d):=by
 simp [qW,List.range_succ,nL,Bool.and_assoc]
theorem Iy (s:aC):aK Go.Proofs.Tryz.prog 83 [s.sv] [] [] (.rv (.bool (jg s))):=by
 refine bu QW [s.sv] _ (by simp) (by simp [aP,aY,bq,aW,bk,aC.sv,Ln.sv,Nd.sv]) (fun K hK=>?_)
 have bad:∀ e h,lk e 2 = .rv (.bool false)→jg s=false→K .ret ⟨e,h⟩:=fun e h l2 hf=>(hK _ _ (bS (by rw [l2,hf]))).2
 conv in fc _ _ _ _=>reduce
 simp -implicitDefEqProofs only [aC.sv,go_sem,Int.reduceNegSucc]
 refine bQ (Il 0 1 s (by decide)) (by simp [aT,aB]) (by simp [aZ,aR]) ?_
 simp -implicitDefEqProofs only [go_sem,Int.reduceNegSucc]
 refine fH (ι:=Nat) (fun k=>[(10,.rv (.int .i64 k)),(9,.rv (.int .i64 18)),(8,.row 1 13 18),(1,.ptr 0 0)]) (fun k=>[some (.var (s.cells.map .rv)),some (.row 1 13 (gU 0 nH))]) (fun k=>k≤18∧((fP s).drop k).all oF=(fP s).all oF) (fun k=>18 - k) 0 (by simp) (bg (by simp [lk])) (fun k hk K' hN hX hR=>?_)
 obtain ⟨fJ,hk2⟩:=hk
 simp -implicitDefEqProofs only [go_sem,Int.reduceNegSucc]
 refine ai (fun hg=>?_) (fun hg=>?_)
 ·have aE:k<18:=by simp at hg;omega
  obtain ⟨o,ho,nD,vA⟩:=Gf s aE
  have gd:=Hw (i:=0) ho
  have qg:(gU 0 nH).length=18:=rfl
  have bf:=Vd ((fP s)[k]'aE);repeat' (first | (simp -implicitDefEqProofs only [go_sem,Int.reduceNegSucc,gd,qg,nD]) | (with_reducible refine aA ?_) | (with_reducible first | refine ag bf ?_ | refine ah bf ?_) | ((first | refine ai (fun hg=>?_) (fun hg=>?_) | refine ax (fun hg=>?_) (fun hg=>?_) | refine ay (fun hg=>?_) (fun hg=>?_)) <;> try simp -implicitDefEqProofs only [hg,Bool.not_true,Bool.not_false]) | ((with_reducible apply And.intro);focus (first | trivial | omega | decide | (simp -implicitDefEqProofs only [maxLen];omega) | (simp [maxLen,af,ak,an,av,aj,au,aq] <;> omega))) | fail)
  ·refine hR _ _ (bad _ _ rfl ?_)
   simp -implicitDefEqProofs only [jg,oU aE hk2 (by simpa using hg),Bool.false_and]
  ·rw [fB (by omega)]
   exact hN (k+1) _ _ ⟨by omega,oV aE hk2 (by simpa using hg)⟩ (by omega) (bg (by simp [lk]))
 ·have aE:k=18:=by simp at hg;omega
  subst aE
  have hall:=oT (by rw [aq];omega) hk2
  simp -implicitDefEqProofs only [go_sem,Int.reduceNegSucc]
  refine hX _ _ _ ?_
  repeat' (first | (simp -implicitDefEqProofs only [go_sem,Int.reduceNegSucc,cC,dX,cD,dY,cO,ez,cZ,eL,dx,eX,dH,fo,dI,fq,dJ,fu,dK,fy,dL,fA,cE,dZ,cF,ec,cG,ee,cH,eg,cI,ek,cJ,ep,cK,er,cL,eu,cM,ew,cN,ey,cP,eA,cQ,eC,cR,eD,cS,eE,cT,eF,cU,eG,cV,eH,cW,eI,cX,eJ,cY,eK,dc,eM,de,eN,dg,eO,dh,eP,di,eR,dj,eS,dm,eT,dn,eU,dr,eV,dw,eW,dy,eY,dz,eZ,cA,fe,dA,ff,dB,fh,dD,fj,dF,fk,dG,fm,dR,dM,dN,dO,dP,dQ,dS,dU,dV,dW,cB,cz,af,Ln.cells]) | (with_reducible refine aA ?_) | ((first | refine ai (fun hg=>?_) (fun hg=>?_) | refine ax (fun hg=>?_) (fun hg=>?_) | refine ay (fun hg=>?_) (fun hg=>?_)) <;> try simp -implicitDefEqProofs only [hg,Bool.not_true,Bool.not_false]) | ((with_reducible apply And.intro);focus (first | trivial | omega | decide | (simp -implicitDefEqProofs only [maxLen];omega) | (simp [maxLen,af,ak,an,av,aj,au,aq] <;> omega))) | fail)
  refine fH (ι:=Nat) (fun k=>[(34,.rv (.int .i64 k)),(33,.rv (.int .i64 6)),(32,.row 2 0 6),(1,.ptr 0 0)]) (fun k=>[some (.var (s.cells.map .rv)),some (.row 1 13 (gU 0 nH)),some (.row 2 0 (aN (lR (rj s))))]) (fun k=>k≤6∧((rj s).drop k).all (fun x=>decide (0≤x.n))=(rj s).all (fun x=>decide (0≤x.n))) (fun k=>6 - k) 0 (by simp) (bg (by simp [lk])) (fun k hk K' hN hX hR=>?_)
  obtain ⟨fJ,hk2⟩:=hk
  simp -implicitDefEqProofs only [go_sem,Int.reduceNegSucc]
  refine ai (fun hg=>?_) (fun hg=>?_)
  ·have aE:k<6:=by simp at hg;omega
   have hx:=BV (l:=rj s) aE
   have ND:(lR (rj s)).length=6:=rfl
   repeat' (first | (simp -implicitDefEqProofs only [go_sem,Int.reduceNegSucc,hx,ND,Ln.cells]) | (with_reducible refine aA ?_) | ((first | refine ai (fun hg=>?_) (fun hg=>?_) | refine ax (fun hg=>?_) (fun hg=>?_) | refine ay (fun hg=>?_) (fun hg=>?_)) <;> try simp -implicitDefEqProofs only [hg,Bool.not_true,Bool.not_false]) | ((with_reducible apply And.intro);focus (first | trivial | omega | decide | (simp -implicitDefEqProofs only [maxLen];omega) | (simp [maxLen,af,ak,an,av,aj,au,aq] <;> omega))) | fail)
   ·refine hR _ _ (bad _ _ rfl ?_)
    simp -implicitDefEqProofs only [jg]
    rw [show [s.width,s.height,s.jo,s.jn,s.jM,s.jL]=rj s from rfl,oU aE hk2 (by simp at hg ⊢;omega)]
    simp
   ·rw [fB (by omega)]
    exact hN (k+1) _ _ ⟨by omega,oV aE hk2 (by simp at hg ⊢;omega)⟩ (by omega) (tK _ (by simp) (by simp [qk,aB,fW,fX,zB,gW,gD]) (by simp [lk,aG,gX,gw,gD]))
  ·have aE:k=6:=by simp at hg;omega
   subst aE
   have Na:=oT (by simp [rj]) hk2
   simp -implicitDefEqProofs only [go_sem,Int.reduceNegSucc]
   refine hX _ _ _ ?_
   repeat' (first | (simp -implicitDefEqProofs only [go_sem,Int.reduceNegSucc]) | (with_reducible refine aA ?_) | ((first | refine ai (fun hg=>?_) (fun hg=>?_) | refine ax (fun hg=>?_) (fun hg=>?_) | refine ay (fun hg=>?_) (fun hg=>?_)) <;> try simp -implicitDefEqProofs only [hg,Bool.not_true,Bool.not_false]) | ((with_reducible apply And.intro);focus (first | trivial | omega | decide | (simp -implicitDefEqProofs only [maxLen];omega) | (simp [maxLen,af,ak,an,av,aj,au,aq] <;> omega))) | fail)
   refine fH (ι:=Nat) (fun k=>[(42,.rv (.int .i64 k)),(1,.ptr 0 0)]) (fun k=>[some (.var (s.cells.map .rv))]) (fun k=>k≤4∧qW s k=true) (fun k=>4 - k) 0 (by simp [qW]) (tK _ (by simp) (by simp [qk,aB,fW,fX,gD]) (by simp [lk,aG,gX,gw,gD])) (fun k hk K' hN hX hR=>?_)
   obtain ⟨fJ,hk2⟩:=hk
   simp -implicitDefEqProofs only [go_sem,Int.reduceNegSucc]
   refine ai (fun hg=>?_) (fun hg=>?_)
   ·have aE:k<4:=by simp at hg;omega
    have hn:lS (nL s.pad k) (nL s.bD k)=true→qW s (k+1)=true:=fun h=>by rw [SH,hk2,h];rfl
    have hb:lS (nL s.pad k) (nL s.bD k)=false→jg s=false:=fun h=>by
     have:k=0∨k=1∨k=2∨k=3:=by omega
     rcases this with rfl | rfl | rfl | rfl <;> simp_all [jg,nL]
    have:k=0∨k=1∨k=2∨k=3:=by omega
    rcases this with rfl | rfl | rfl | rfl
    all_goals
     repeat' (first | (simp -implicitDefEqProofs only [go_sem,Int.reduceNegSucc,cC,dX,cD,dY,cO,ez,cZ,eL,dx,eX,dH,fo,dI,fq,dJ,fu,dK,fy,dL,fA,cE,dZ,cF,ec,cG,ee,cH,eg,cI,ek,cJ,ep,cK,er,cL,eu,cM,ew,cN,ey,cP,eA,cQ,eC,cR,eD,cS,eE,cT,eF,cU,eG,cV,eH,cW,eI,cX,eJ,cY,eK,dc,eM,de,eN,dg,eO,dh,eP,di,eR,dj,eS,dm,eT,dn,eU,dr,eV,dw,eW,dy,eY,dz,eZ,cA,fe,dA,ff,dB,fh,dD,fj,dF,fk,dG,fm,dR,dM,dN,dO,dP,dQ,dS,dU,dV,dW,cB,cz,af]) | (with_reducible refine aA ?_) | ((first | refine ai (fun hg=>?_) (fun hg=>?_) | refine ax (fun hg=>?_) (fun hg=>?_) | refine ay (fun hg=>?_) (fun hg=>?_)) <;> try simp -implicitDefEqProofs only [hg,Bool.not_true,Bool.not_false]) | ((with_reducible apply And.intro);focus (first | trivial | omega | decide | (simp -implicitDefEqProofs only [maxLen];omega) | (simp [maxLen,af,ak,an,av,aj,au,aq] <;> omega))) | fail)
    all_goals first
     | (refine hR _ _ (bad _ _ rfl (hb ?_));clear hN hX hR hb hn bad hK;simp_all [lS,nL,bA];done)
     | (rw [fB (by omega)];refine hN _ _ _ ⟨by omega,hn ?_⟩ (by omega) (bg (by simp [lk]));clear hN hX hR hb hn bad hK;simp_all [lS,nL,bA];done)
   ·have aE:k=4:=by simp at hg;omega
    subst aE
    rw [SG] at hk2
    simp -implicitDefEqProofs only [go_sem,Int.reduceNegSucc]
    refine hX _ _ _ ?_
    have fin:∀ e h,lk e 2 = .rv (.bool (tc s))→K .ret ⟨e,h⟩:=fun e h l2=>(hK _ _ (bS (by rw [l2,jg,hall,hk2];rw [show [s.width,s.height,s.jo,s.jn,s.jM,s.jL]=rj s from rfl,Na];rfl))).2
    clear hK hN hX hR bad
    repeat' (first | (simp -implicitDefEqProofs only [go_sem,Int.reduceNegSucc,cC,dX,cD,dY,cO,ez,cZ,eL,dx,eX,dH,fo,dI,fq,dJ,fu,dK,fy,dL,fA,cE,dZ,cF,ec,cG,ee,cH,eg,cI,ek,cJ,ep,cK,er,cL,eu,cM,ew,cN,ey,cP,eA,cQ,eC,cR,eD,cS,eE,cT,eF,cU,eG,cV,eH,cW,eI,cX,eJ,cY,eK,dc,eM,de,eN,dg,eO,dh,eP,di,eR,dj,eS,dm,eT,dn,eU,dr,eV,dw,eW,dy,eY,dz,eZ,cA,fe,dA,ff,dB,fh,dD,fj,dF,fk,dG,fm,dR,dM,dN,dO,dP,dQ,dS,dU,dV,dW,cB,cz,af]) | (with_reducible refine aA ?_) | ((first | refine ai (fun hg=>?_) (fun hg=>?_) | refine ax (fun hg=>?_) (fun hg=>?_) | refine ay (fun hg=>?_) (fun hg=>?_)) <;> try simp -implicitDefEqProofs only [hg,Bool.not_true,Bool.not_false]) | ((with_reducible apply And.intro);focus (first | trivial | omega | decide | (simp -implicitDefEqProofs only [maxLen];omega) | (simp [maxLen,af,ak,an,av,aj,au,aq] <;> omega))) | fail)
    all_goals (refine fin _ _ ?_;(simp_all [lk,tc,bA]) <;>(try (intros;omega)))
theorem Vc (s:aC):aK Go.Proofs.Tryz.prog 58 [s.sv] [] [] (.rv (.bool (kY s))):=by
 refine bu QX [s.sv] _ (by simp) (by simp [aP,aY,bq,aW,bk,aC.sv,Ln.sv,Nd.sv]) (fun K hK=>?_)
 have bad:∀ e h,lk e 2 = .rv (.bool false)→kY s=false→K .ret ⟨e,h⟩:=fun e h l2 hf=>(hK _ _ (bS (by rw [l2,hf]))).2
 conv in fc _ _ _ _=>reduce
 simp -implicitDefEqProofs only [aC.sv,go_sem,Int.reduceNegSucc]
 refine bQ (Il 0 1 s (by decide)) (by simp [aT,aB]) (by simp [aZ,aR]) ?_
 simp -implicitDefEqProofs only [go_sem,Int.reduceNegSucc]
 refine fH (ι:=Nat) (fun k=>[(9,.rv (.int .i64 k)),(8,.rv (.int .i64 18)),(7,.row 1 13 18),(1,.ptr 0 0)]) (fun k=>[some (.var (s.cells.map .rv)),some (.row 1 13 (gU 0 nH))]) (fun k=>k≤18∧((fP s).drop k).all pL=(fP s).all pL) (fun k=>18 - k) 0 (by simp) (bg (by simp [lk])) (fun k hk K' hN hX hR=>?_)
 obtain ⟨fJ,hk2⟩:=hk
 simp -implicitDefEqProofs only [go_sem,Int.reduceNegSucc]
 refine ai (fun hg=>?_) (fun hg=>?_)
 ·have aE:k<18:=by simp at hg;omega
  obtain ⟨o,ho,nD,vA⟩:=Gf s aE
  have gd:=Hw (i:=0) ho
  have qg:(gU 0 nH).length=18:=rfl
  obtain ⟨hc0,qI⟩:=Ry s aE ho
  have vB:o<48:=by omega
  have NH:o+1<48:=by omega
  have kN:∀ e h,lk e 2 = .rv (.bool false)→pL ((fP s)[k]'aE)=false→K .ret ⟨e,h⟩:=fun e h l2 hf=>bad e h l2 (by simp -implicitDefEqProofs only [kY,oU aE hk2 hf,Bool.false_and])
  have nx:∀ e h,pL ((fP s)[k]'aE)=true→fV 0 ⟨e,h⟩ ⟨[(9,.rv (.int .i64 (k+1:Nat))),(8,.rv (.int .i64 18)),(7,.row 1 13 18),(1,.ptr 0 0)],[some (.var (s.cells.map .rv)),some (.row 1 13 (gU 0 nH))]⟩→K' .normal ⟨e,h⟩:=fun e h hf he=>hN (k+1) _ _ ⟨by omega,oV aE hk2 hf⟩ (by omega) he
  have wu:=fB (k:=k) (by omega)
  generalize (fP s)[k]'aE=x at *
  have y_2:=CH x.n 1099511627776 (by decide) (by decide);have bB:=CH x.n 1000000 (by decide) (by decide);repeat' (first | (simp -implicitDefEqProofs only [go_sem,Int.reduceNegSucc,gd,qg,hc0,qI,wu]) | (with_reducible refine aA ?_) | (with_reducible first | refine ag y_2 ?_ | refine ah y_2 ?_) | (with_reducible first | refine ag bB ?_ | refine ah bB ?_) | ((first | refine ai (fun hg=>?_) (fun hg=>?_) | refine ax (fun hg=>?_) (fun hg=>?_) | refine ay (fun hg=>?_) (fun hg=>?_)) <;> try simp -implicitDefEqProofs only [hg,Bool.not_true,Bool.not_false]) | ((with_reducible apply And.intro);focus (first | trivial | omega | decide | (simp -implicitDefEqProofs only [maxLen];omega) | (simp [maxLen,af,ak,an,av,aj,au,aq] <;> omega))) | fail)
  all_goals first
   | (refine hR _ _ (kN _ _ rfl ?_);clear hN hX hR bad kN nx hK;simp_all [pL,bA];done)
   | (refine nx _ _ ?_ (bg (by simp [lk]));clear hN hX hR bad kN nx hK;simp_all [pL,bA];done)
 ·have aE:k=18:=by simp at hg;omega
  subst aE
  have hall:=oT (by rw [aq];omega) hk2
  simp -implicitDefEqProofs only [go_sem,Int.reduceNegSucc]
  refine hX _ _ _ ?_
  repeat' (first | (simp -implicitDefEqProofs only [go_sem,Int.reduceNegSucc,cC,dX,cD,dY,cO,ez,cZ,eL,dx,eX,dH,fo,dI,fq,dJ,fu,dK,fy,dL,fA,cE,dZ,cF,ec,cG,ee,cH,eg,cI,ek,cJ,ep,cK,er,cL,eu,cM,ew,cN,ey,cP,eA,cQ,eC,cR,eD,cS,eE,cT,eF,cU,eG,cV,eH,cW,eI,cX,eJ,cY,eK,dc,eM,de,eN,dg,eO,dh,eP,di,eR,dj,eS,dm,eT,dn,eU,dr,eV,dw,eW,dy,eY,dz,eZ,cA,fe,dA,ff,dB,fh,dD,fj,dF,fk,dG,fm,dR,dM,dN,dO,dP,dQ,dS,dU,dV,dW,cB,cz,af]) | (with_reducible refine aA ?_) | ((first | refine ai (fun hg=>?_) (fun hg=>?_) | refine ax (fun hg=>?_) (fun hg=>?_) | refine ay (fun hg=>?_) (fun hg=>?_)) <;> try simp -implicitDefEqProofs only [hg,Bool.not_true,Bool.not_false]) | ((with_reducible apply And.intro);focus (first | trivial | omega | decide | (simp -implicitDefEqProofs only [maxLen];omega) | (simp [maxLen,af,ak,an,av,aj,au,aq] <;> omega))) | fail)
  refine fH (ι:=Nat) (fun k=>[(44,.rv (.int .i64 k)),(43,.agg (s.bD.ints.map .rv)),(1,.ptr 0 0)]) (fun k=>[some (.var (s.cells.map .rv))]) (fun k=>k≤4∧(s.bD.list.drop k).all (fun n=>decide (n≤1099511627776))=s.bD.list.all (fun n=>decide (n≤1099511627776))) (fun k=>4 - k) 0 (by simp) (tK _ (by simp) (by simp [qk,aB,fW,fX,gD]) (by simp [lk,aG,gX,gw,aI,fX,gD])) (fun k hk K' hN hX hR=>?_)
  obtain ⟨fJ,hk2⟩:=hk
  simp -implicitDefEqProofs only [go_sem,Int.reduceNegSucc]
  refine ai (fun hg=>?_) (fun hg=>?_)
  ·have aE:k<4:=by simp at hg;omega
   have hx:(s.bD.ints.map SV.rv)[k*1]?.getD .dead = .rv (.int .i64 (s.bD.list[k]'aE)):=by
    have:k=0∨k=1∨k=2∨k=3:=by omega
    rcases this with rfl | rfl | rfl | rfl <;> rfl
   have NC:s.bD.ints.length=4:=rfl
   repeat' (first | (simp -implicitDefEqProofs only [go_sem,Int.reduceNegSucc,hx,NC]) | (with_reducible refine aA ?_) | ((first | refine ai (fun hg=>?_) (fun hg=>?_) | refine ax (fun hg=>?_) (fun hg=>?_) | refine ay (fun hg=>?_) (fun hg=>?_)) <;> try simp -implicitDefEqProofs only [hg,Bool.not_true,Bool.not_false]) | ((with_reducible apply And.intro);focus (first | trivial | omega | decide | (simp -implicitDefEqProofs only [maxLen];omega) | (simp [maxLen,af,ak,an,av,aj,au,aq] <;> omega))) | fail)
   ·refine hR _ _ (bad _ _ rfl ?_)
    simp -implicitDefEqProofs only [kY]
    rw [oU (l:=s.bD.list) aE hk2 (by simp at hg ⊢;omega)]
    simp
   ·rw [fB (by omega)]
    exact hN (k+1) _ _ ⟨by omega,oV (l:=s.bD.list) aE hk2 (by simp at hg ⊢;omega)⟩ (by omega) (bg (by simp [lk]))
  ·have aE:k=4:=by simp at hg;omega
   subst aE
   have hb:=oT (l:=s.bD.list) (by simp [Q4.list]) hk2
   simp -implicitDefEqProofs only [go_sem,Int.reduceNegSucc]
   refine hX _ _ _ ?_
   have fin:∀ e h,lk e 2 = .rv (.bool (qO s.z 1073741824 && decide (s.back≤16777216) && decide (s.line≤16777216)))→K .ret ⟨e,h⟩:=fun e h l2=>(hK _ _ (bS (by rw [l2,kY,hall,hb];rfl))).2
   clear hK hN hX hR bad
   have bG:=CH s.z 1073741824 (by decide) (by decide);repeat' (first | (simp -implicitDefEqProofs only [go_sem,Int.reduceNegSucc,cC,dX,cD,dY,cO,ez,cZ,eL,dx,eX,dH,fo,dI,fq,dJ,fu,dK,fy,dL,fA,cE,dZ,cF,ec,cG,ee,cH,eg,cI,ek,cJ,ep,cK,er,cL,eu,cM,ew,cN,ey,cP,eA,cQ,eC,cR,eD,cS,eE,cT,eF,cU,eG,cV,eH,cW,eI,cX,eJ,cY,eK,dc,eM,de,eN,dg,eO,dh,eP,di,eR,dj,eS,dm,eT,dn,eU,dr,eV,dw,eW,dy,eY,dz,eZ,cA,fe,dA,ff,dB,fh,dD,fj,dF,fk,dG,fm,dR,dM,dN,dO,dP,dQ,dS,dU,dV,dW,cB,cz,af]) | (with_reducible refine aA ?_) | (with_reducible first | refine ag bG ?_ | refine ah bG ?_) | ((first | refine ai (fun hg=>?_) (fun hg=>?_) | refine ax (fun hg=>?_) (fun hg=>?_) | refine ay (fun hg=>?_) (fun hg=>?_)) <;> try simp -implicitDefEqProofs only [hg,Bool.not_true,Bool.not_false]) | ((with_reducible apply And.intro);focus (first | trivial | omega | decide | (simp -implicitDefEqProofs only [maxLen];omega) | (simp [maxLen,af,ak,an,av,aj,au,aq] <;> omega))) | fail)
   all_goals (refine fin _ _ ?_;(simp_all [lk,bA]) <;>(try (intros;omega)))
end Go.aL

namespace Go.aL
open Go
theorem Pr:aU Go.Proofs.Tryz.prog 53 31 (fc Go.Proofs.Tryz.prog 53 31 [(.t 2)]) [(.t 2)]:=bl (by kernel_rfl)
theorem Pq:aU Go.Proofs.Tryz.prog 52 110 (fc Go.Proofs.Tryz.prog 52 110 [(.t 2)]) [(.t 2)]:=bl (by kernel_rfl)
theorem Pt:aU Go.Proofs.Tryz.prog 24 89 (fc Go.Proofs.Tryz.prog 24 89 [(.t 2)]) [(.t 2)]:=bl (by kernel_rfl)
theorem RG (l:List Ln):∀ x∈lR l,∀ r∈x,r.one=true:=by
 intro x hx r hr
 obtain ⟨n,_,rfl⟩:=List.mem_map.1 hx
 simp [Ln.cells] at hr
 rcases hr with rfl | rfl <;> rfl
theorem Im (s:aC):aK Go.Proofs.Tryz.prog 53 [s.sv] [] [] (.rv (.sl 2 (lR (fP s)))):=by
 refine bu Pr [s.sv] _ (by simp) (by simp [aP,aY,bq,aW,bk,aC.sv,Ln.sv,Nd.sv]) (fun K hK=>?_)
 conv in fc _ _ _ _=>reduce
 simp -implicitDefEqProofs only [aC.sv,go_sem,Int.reduceNegSucc]
 repeat' (first | (simp -implicitDefEqProofs only [go_sem,Int.reduceNegSucc,af]) | (with_reducible refine aA ?_) | ((first | refine ai (fun hg=>?_) (fun hg=>?_) | refine ax (fun hg=>?_) (fun hg=>?_) | refine ay (fun hg=>?_) (fun hg=>?_)) <;> try simp -implicitDefEqProofs only [hg,Bool.not_true,Bool.not_false]) | ((with_reducible apply And.intro);focus (first | trivial | omega | decide | (simp -implicitDefEqProofs only [maxLen];omega) | (simp [maxLen,af,ak,an,av,aj,au,aq] <;> omega))) | fail)
 exact (hK _ _ ⟨trivial,pN (xs:=lR (fP s)) rfl rfl rfl (RG _)⟩).2
def gJ (k:Nat) (x:Ln):Bool:=!(decide (x.kind<0) || decide (x.kind>2) || (decide (x.kind=0) && !decide (x.n=0))) && !((decide (x.n<0) && ((decide (4≤k) && decide (k<10)) || decide (14≤k))) || (decide (14≤k) && decide (x.kind=0)))
def qm (s:aC) (k:Nat):Bool:=(List.range k).all fun j=>gJ j ((fP s).getD j default)
theorem Sn {s:aC} {k:Nat} (h:k<18):qm s (k+1)=(qm s k && gJ k ((fP s)[k]'h)):=by
 have:(fP s).getD k default=(fP s)[k]'h:=by rw [List.getD_eq_getElem?_getD,List.getElem?_eq_getElem h];rfl
 simp -implicitDefEqProofs only [qm,List.range_succ,List.all_append,List.all_cons,List.all_nil,Bool.and_true,this]
theorem Sm {s:aC} {k:Nat} (h:k<18) (hf:gJ k ((fP s)[k]'h)=false):qm s 18=false:=by
 have:(fP s).getD k default=(fP s)[k]'h:=by rw [List.getD_eq_getElem?_getD,List.getElem?_eq_getElem h];rfl
 rw [Bool.eq_false_iff]
 intro ht
 have:=List.all_eq_true.1 ht k (by simp;omega)
 simp_all
theorem CL (s:aC):jg s=(qm s 18 && (s.bD.list.all fun n=>!decide (n<0)) && tc s):=by
 have:qm s 18=(gJ 0 s.off.a && gJ 1 s.off.b && gJ 2 s.off.c && gJ 3 s.off.d && gJ 4 s.width && gJ 5 s.height && gJ 6 s.jo && gJ 7 s.jn && gJ 8 s.jM && gJ 9 s.jL && gJ 10 s.bC.a && gJ 11 s.bC.b && gJ 12 s.bC.c && gJ 13 s.bC.d && gJ 14 s.pad.a && gJ 15 s.pad.b && gJ 16 s.pad.c && gJ 17 s.pad.d):=by
  simp [qm,List.range_succ,fP,Q4.list,Bool.and_assoc]
 rw [this]
 have e1:∀ k x,(k<4∨(10≤k∧k<14))→gJ k x=oF x:=fun k x hk=>by
  have h1:decide (14≤k)=false:=decide_eq_false (by omega)
  have h2:(decide (4≤k) && decide (k<10))=false:=by simp;omega
  simp -implicitDefEqProofs only [gJ,oF,h1,h2]
  rw [Bool.eq_iff_iff];simp;omega
 have e2:∀ k x,(4≤k∧k<10)→gJ k x=(oF x && decide (0≤x.n)):=fun k x hk=>by
  have h1:decide (14≤k)=false:=decide_eq_false (by omega)
  have h2:(decide (4≤k) && decide (k<10))=true:=by simp;omega
  simp -implicitDefEqProofs only [gJ,oF,h1,h2]
  rw [Bool.eq_iff_iff];simp;omega
 have e3:∀ k x,14≤k→gJ k x=(oF x && !(decide (x.kind=0) || decide (x.n<0))):=fun k x hk=>by
  have h1:decide (14≤k)=true:=decide_eq_true (by omega)
  simp -implicitDefEqProofs only [gJ,oF,h1]
  rw [Bool.eq_iff_iff];simp;omega
 rw [e1 0 _ (by omega),e1 1 _ (by omega),e1 2 _ (by omega),e1 3 _ (by omega),e2 4 _ (by omega),e2 5 _ (by omega),e2 6 _ (by omega),e2 7 _ (by omega),e2 8 _ (by omega),e2 9 _ (by omega),e1 10 _ (by omega),e1 11 _ (by omega),e1 12 _ (by omega),e1 13 _ (by omega),e3 14 _ (by omega),e3 15 _ (by omega),e3 16 _ (by omega),e3 17 _ (by omega)]
 rw [Bool.eq_iff_iff]
 simp -implicitDefEqProofs only [jg,fP,Q4.list,lS,List.all_append,List.all_cons,List.all_nil,Bool.and_true,Bool.and_eq_true,Bool.not_eq_true',Bool.or_eq_false_iff,decide_eq_true_eq,decide_eq_false_iff_not]
 constructor <;>(intro h;simp -implicitDefEqProofs only [h,not_false_eq_true,and_self])
theorem UH (s:aC):aK Go.Proofs.Tryz.prog 52 [s.sv] [] [] (.rv (.bool (jg s))):=by
 refine bu Pq [s.sv] _ (by simp) (by simp [aP,aY,bq,aW,bk,aC.sv,Ln.sv,Nd.sv]) (fun K hK=>?_)
 have bad:∀ e h,lk e 2 = .rv (.bool false)→jg s=false→K .ret ⟨e,h⟩:=fun e h l2 hf=>(hK _ _ (bS (by rw [l2,hf]))).2
 conv in fc _ _ _ _=>reduce
 simp -implicitDefEqProofs only [aC.sv,go_sem,Int.reduceNegSucc]
 have bf:=Im s;repeat' (first | (simp -implicitDefEqProofs only [go_sem,Int.reduceNegSucc,cC,dX,cD,dY,cO,ez,cZ,eL,dx,eX,dH,fo,dI,fq,dJ,fu,dK,fy,dL,fA,cE,dZ,cF,ec,cG,ee,cH,eg,cI,ek,cJ,ep,cK,er,cL,eu,cM,ew,cN,ey,cP,eA,cQ,eC,cR,eD,cS,eE,cT,eF,cU,eG,cV,eH,cW,eI,cX,eJ,cY,eK,dc,eM,de,eN,dg,eO,dh,eP,di,eR,dj,eS,dm,eT,dn,eU,dr,eV,dw,eW,dy,eY,dz,eZ,cA,fe,dA,ff,dB,fh,dD,fj,dF,fk,dG,fm,dR,dM,dN,dO,dP,dQ,dS,dU,dV,dW,cB,cz,af,av,aq]) | (with_reducible refine aA ?_) | (with_reducible first | refine ag bf ?_ | refine ah bf ?_) | ((first | refine ai (fun hg=>?_) (fun hg=>?_) | refine ax (fun hg=>?_) (fun hg=>?_) | refine ay (fun hg=>?_) (fun hg=>?_)) <;> try simp -implicitDefEqProofs only [hg,Bool.not_true,Bool.not_false]) | ((with_reducible apply And.intro);focus (first | trivial | omega | decide | (simp -implicitDefEqProofs only [maxLen];omega) | (simp [maxLen,af,ak,an,av,aj,au,aq] <;> omega))) | fail)
 refine fH (ι:=Nat) (fun k=>[(10,.rv (.int .i64 k)),(9,.rv (.int .i64 18)),(3,.rv (.sl 2 (lR (fP s)))),(1,.ptr 0 0)]) (fun k=>[some (.var (s.cells.map .rv))]) (fun k=>k≤18∧qm s k=true) (fun k=>18 - k) 0 (by simp [qm]) (bg (by simp [lk])) (fun k hk K' hN hX hR=>?_)
 obtain ⟨fJ,hk2⟩:=hk
 simp -implicitDefEqProofs only [go_sem,Int.reduceNegSucc]
 refine ai (fun hg=>?_) (fun hg=>?_)
 ·have aE:k<18:=by simp at hg;omega
  have hx:=BV (l:=fP s) aE
  have kN:∀ e h,lk e 2 = .rv (.bool false)→gJ k ((fP s)[k]'aE)=false→K .ret ⟨e,h⟩:=fun e h l2 hf=>bad e h l2 (by rw [CL,Sm aE hf];rfl)
  have nx:∀ e h,gJ k ((fP s)[k]'aE)=true→fV 0 ⟨e,h⟩ ⟨[(10,.rv (.int .i64 (k+1:Nat))),(9,.rv (.int .i64 18)),(3,.rv (.sl 2 (lR (fP s)))),(1,.ptr 0 0)],[some (.var (s.cells.map .rv))]⟩→K' .normal ⟨e,h⟩:=fun e h hf he=>hN (k+1) _ _ ⟨by omega,by rw [Sn aE,hk2,hf];rfl⟩ (by omega) he
  have wu:=fB (k:=k) (by omega)
  have pG:(lR (fP s)).length=18:=rfl
  clear hN hX hK bad
  generalize NZ:(fP s)[k]'aE=x at *
  repeat' (first | (simp -implicitDefEqProofs only [go_sem,Int.reduceNegSucc,hx,pG,Ln.cells,wu]) | (with_reducible refine aA ?_) | ((first | refine ai (fun hg=>?_) (fun hg=>?_) | refine ax (fun hg=>?_) (fun hg=>?_) | refine ay (fun hg=>?_) (fun hg=>?_)) <;> try simp -implicitDefEqProofs only [hg,Bool.not_true,Bool.not_false]) | ((with_reducible apply And.intro);focus (first | trivial | omega | decide | (simp -implicitDefEqProofs only [maxLen];omega) | (simp [maxLen,af,ak,an,av,aj,au,aq] <;> omega))) | fail)
  all_goals first
   | (refine hR _ _ (kN _ _ rfl ?_);clear hR kN nx;simp_all [gJ,bA];done)
   | (refine nx _ _ ?_ (bg (by simp [lk]));clear hR kN nx;simp_all [gJ,bA];done)
   | (refine hR _ _ (kN _ _ rfl ?_);clear hR kN nx;simp_all [gJ,bA];omega)
   | (refine nx _ _ ?_ (bg (by simp [lk]));clear hR kN nx;simp_all [gJ,bA];omega)
 ·have aE:k=18:=by simp at hg;omega
  subst aE
  simp -implicitDefEqProofs only [go_sem,Int.reduceNegSucc]
  refine hX _ _ _ ?_
  repeat' (first | (simp -implicitDefEqProofs only [go_sem,Int.reduceNegSucc,cC,dX,cD,dY,cO,ez,cZ,eL,dx,eX,dH,fo,dI,fq,dJ,fu,dK,fy,dL,fA,cE,dZ,cF,ec,cG,ee,cH,eg,cI,ek,cJ,ep,cK,er,cL,eu,cM,ew,cN,ey,cP,eA,cQ,eC,cR,eD,cS,eE,cT,eF,cU,eG,cV,eH,cW,eI,cX,eJ,cY,eK,dc,eM,de,eN,dg,eO,dh,eP,di,eR,dj,eS,dm,eT,dn,eU,dr,eV,dw,eW,dy,eY,dz,eZ,cA,fe,dA,ff,dB,fh,dD,fj,dF,fk,dG,fm,dR,dM,dN,dO,dP,dQ,dS,dU,dV,dW,cB,cz,af]) | (with_reducible refine aA ?_) | ((first | refine ai (fun hg=>?_) (fun hg=>?_) | refine ax (fun hg=>?_) (fun hg=>?_) | refine ay (fun hg=>?_) (fun hg=>?_)) <;> try simp -implicitDefEqProofs only [hg,Bool.not_true,Bool.not_false]) | ((with_reducible apply And.intro);focus (first | trivial | omega | decide | (simp -implicitDefEqProofs only [maxLen];omega) | (simp [maxLen,af,ak,an,av,aj,au,aq] <;> omega))) | fail)
  refine fH (ι:=Nat) (fun k=>[(74,.rv (.int .i64 k)),(1,.ptr 0 0)]) (fun k=>[some (.var (s.cells.map .rv))]) (fun k=>k≤4∧(s.bD.list.drop k).all (fun n=>!decide (n<0))=s.bD.list.all (fun n=>!decide (n<0))) (fun k=>4 - k) 0 (by simp) (bg (by simp [lk])) (fun k hk K' hN hX hR=>?_)
  obtain ⟨fJ,ga⟩:=hk
  simp -implicitDefEqProofs only [go_sem,Int.reduceNegSucc]
  refine ai (fun hg=>?_) (fun hg=>?_)
  ·have aE:k<4:=by simp at hg;omega
   have hx:(s.cells.map SV.rv)[38+k*1]?=some (.rv (.int .i64 (s.bD.list[k]'aE))):=by
    have:k=0∨k=1∨k=2∨k=3:=by omega
    rcases this with rfl | rfl | rfl | rfl <;> rfl
   repeat' (first | (simp -implicitDefEqProofs only [go_sem,Int.reduceNegSucc,hx,af]) | (with_reducible refine aA ?_) | ((first | refine ai (fun hg=>?_) (fun hg=>?_) | refine ax (fun hg=>?_) (fun hg=>?_) | refine ay (fun hg=>?_) (fun hg=>?_)) <;> try simp -implicitDefEqProofs only [hg,Bool.not_true,Bool.not_false]) | ((with_reducible apply And.intro);focus (first | trivial | omega | decide | (simp -implicitDefEqProofs only [maxLen];omega) | (simp [maxLen,af,ak,an,av,aj,au,aq] <;> omega))) | fail)
   ·refine hR _ _ (bad _ _ rfl ?_)
    rw [CL,oU (l:=s.bD.list) aE ga (by simp at hg ⊢;omega)]
    simp
   ·rw [fB (by omega)]
    exact hN (k+1) _ _ ⟨by omega,oV (l:=s.bD.list) aE ga (by simp at hg ⊢;omega)⟩ (by omega) (bg (by simp [lk]))
  ·have aE:k=4:=by simp at hg;omega
   subst aE
   have hb:=oT (l:=s.bD.list) (by simp [Q4.list]) ga
   simp -implicitDefEqProofs only [go_sem,Int.reduceNegSucc]
   refine hX _ _ _ ?_
   have fin:∀ e h,lk e 2 = .rv (.bool (tc s))→K .ret ⟨e,h⟩:=fun e h l2=>(hK _ _ (bS (by rw [l2,CL,hk2,hb];rfl))).2
   clear hK hN hX hR bad
   repeat' (first | (simp -implicitDefEqProofs only [go_sem,Int.reduceNegSucc,cC,dX,cD,dY,cO,ez,cZ,eL,dx,eX,dH,fo,dI,fq,dJ,fu,dK,fy,dL,fA,cE,dZ,cF,ec,cG,ee,cH,eg,cI,ek,cJ,ep,cK,er,cL,eu,cM,ew,cN,ey,cP,eA,cQ,eC,cR,eD,cS,eE,cT,eF,cU,eG,cV,eH,cW,eI,cX,eJ,cY,eK,dc,eM,de,eN,dg,eO,dh,eP,di,eR,dj,eS,dm,eT,dn,eU,dr,eV,dw,eW,dy,eY,dz,eZ,cA,fe,dA,ff,dB,fh,dD,fj,dF,fk,dG,fm,dR,dM,dN,dO,dP,dQ,dS,dU,dV,dW,cB,cz,af]) | (with_reducible refine aA ?_) | ((first | refine ai (fun hg=>?_) (fun hg=>?_) | refine ax (fun hg=>?_) (fun hg=>?_) | refine ay (fun hg=>?_) (fun hg=>?_)) <;> try simp -implicitDefEqProofs only [hg,Bool.not_true,Bool.not_false]) | ((with_reducible apply And.intro);focus (first | trivial | omega | decide | (simp -implicitDefEqProofs only [maxLen];omega) | (simp [maxLen,af,ak,an,av,aj,au,aq] <;> omega))) | fail)
   all_goals (refine fin _ _ ?_;(simp_all [lk,tc,bA]) <;>(try (intros;omega)))
def nI (x:Ln):Bool:=!(((!decide (x.kind=0) && decide (x.kind<3)) && decide (x.kind>0)) && (decide (x.n>if x.kind=2 then 1000000 else 1099511627776) || decide (x.n < - if x.kind=2 then 1000000 else 1099511627776)))
theorem RE (x:Ln):pL x=nI x:=by
 rw [Bool.eq_iff_iff]
 unfold pL nI qO
 by_cases h2:x.kind=2
 ·simp [h2];omega
 ·by_cases h1:x.kind=1
  ·simp [h1];omega
  ·simp [h1,h2];omega
theorem IG (s:aC):kY s=((fP s).all nI && (s.bD.list.all fun n=>decide (n≤1099511627776)) && (decide (s.z≤1073741824) && decide (s.z≥-1073741824) && decide (s.back≤16777216) && decide (s.line≤16777216))):=by
 unfold kY
 rw [show pL=nI from funext RE]
 rw [Bool.eq_iff_iff]
 simp [qO];omega
theorem UI (s:aC):aK Go.Proofs.Tryz.prog 24 [s.sv] [] [] (.rv (.bool (kY s))):=by
 refine bu Pt [s.sv] _ (by simp) (by simp [aP,aY,bq,aW,bk,aC.sv,Ln.sv,Nd.sv]) (fun K hK=>?_)
 have bad:∀ e h,lk e 2 = .rv (.bool false)→kY s=false→K .ret ⟨e,h⟩:=fun e h l2 hf=>(hK _ _ (bS (by rw [l2,hf]))).2
 conv in fc _ _ _ _=>reduce
 simp -implicitDefEqProofs only [aC.sv,go_sem,Int.reduceNegSucc]
 have y_2:=Im s;repeat' (first | (simp -implicitDefEqProofs only [go_sem,Int.reduceNegSucc,cC,dX,cD,dY,cO,ez,cZ,eL,dx,eX,dH,fo,dI,fq,dJ,fu,dK,fy,dL,fA,cE,dZ,cF,ec,cG,ee,cH,eg,cI,ek,cJ,ep,cK,er,cL,eu,cM,ew,cN,ey,cP,eA,cQ,eC,cR,eD,cS,eE,cT,eF,cU,eG,cV,eH,cW,eI,cX,eJ,cY,eK,dc,eM,de,eN,dg,eO,dh,eP,di,eR,dj,eS,dm,eT,dn,eU,dr,eV,dw,eW,dy,eY,dz,eZ,cA,fe,dA,ff,dB,fh,dD,fj,dF,fk,dG,fm,dR,dM,dN,dO,dP,dQ,dS,dU,dV,dW,cB,cz,af,av,aq]) | (with_reducible refine aA ?_) | (with_reducible first | refine ag y_2 ?_ | refine ah y_2 ?_) | ((first | refine ai (fun hg=>?_) (fun hg=>?_) | refine ax (fun hg=>?_) (fun hg=>?_) | refine ay (fun hg=>?_) (fun hg=>?_)) <;> try simp -implicitDefEqProofs only [hg,Bool.not_true,Bool.not_false]) | ((with_reducible apply And.intro);focus (first | trivial | omega | decide | (simp -implicitDefEqProofs only [maxLen];omega) | (simp [maxLen,af,ak,an,av,aj,au,aq] <;> omega))) | fail)
 refine fH (ι:=Nat) (fun k=>[(11,.rv (.int .i64 k)),(10,.rv (.int .i64 18)),(3,.rv (.sl 2 (lR (fP s)))),(1,.ptr 0 0)]) (fun k=>[some (.var (s.cells.map .rv))]) (fun k=>k≤18∧((fP s).drop k).all nI=(fP s).all nI) (fun k=>18 - k) 0 (by simp) (bg (by simp [lk])) (fun k hk K' hN hX hR=>?_)
 obtain ⟨fJ,hk2⟩:=hk
 simp -implicitDefEqProofs only [go_sem,Int.reduceNegSucc]
 refine ai (fun hg=>?_) (fun hg=>?_)
 ·have aE:k<18:=by simp at hg;omega
  have hx:=BV (l:=fP s) aE
  have kN:∀ e h,lk e 2 = .rv (.bool false)→nI ((fP s)[k]'aE)=false→K .ret ⟨e,h⟩:=fun e h l2 hf=>bad e h l2 (by rw [IG,oU aE hk2 hf];rfl)
  have nx:∀ e h,nI ((fP s)[k]'aE)=true→fV 0 ⟨e,h⟩ ⟨[(11,.rv (.int .i64 (k+1:Nat))),(10,.rv (.int .i64 18)),(3,.rv (.sl 2 (lR (fP s)))),(1,.ptr 0 0)],[some (.var (s.cells.map .rv))]⟩→K' .normal ⟨e,h⟩:=fun e h hf he=>hN (k+1) _ _ ⟨by omega,oV aE hk2 hf⟩ (by omega) he
  have wu:=fB (k:=k) (by omega)
  have pG:(lR (fP s)).length=18:=rfl
  have w1:=Jg (m:=1000000) (by decide) (by decide)
  have w2:=Jg (m:=1099511627776) (by decide) (by decide)
  clear hN hX hK bad
  generalize NZ:(fP s)[k]'aE=x at *
  repeat' (first | (simp -implicitDefEqProofs only [go_sem,Int.reduceNegSucc,hx,pG,Ln.cells,wu,w1,w2]) | (with_reducible refine aA ?_) | ((first | refine ai (fun hg=>?_) (fun hg=>?_) | refine ax (fun hg=>?_) (fun hg=>?_) | refine ay (fun hg=>?_) (fun hg=>?_)) <;> try simp -implicitDefEqProofs only [hg,Bool.not_true,Bool.not_false]) | ((with_reducible apply And.intro);focus (first | trivial | omega | decide | (simp -implicitDefEqProofs only [maxLen];omega) | (simp [maxLen,af,ak,an,av,aj,au,aq] <;> omega))) | fail)
  all_goals first
   | (refine hR _ _ (kN _ _ rfl ?_);clear hR kN nx;simp_all [nI,bA];done)
   | (refine nx _ _ ?_ (bg (by simp [lk]));clear hR kN nx;simp_all [nI,bA];done)
   | (refine hR _ _ (kN _ _ rfl ?_);clear hR kN nx;simp_all [nI,bA];omega)
   | (refine nx _ _ ?_ (bg (by simp [lk]));clear hR kN nx;simp_all [nI,bA];omega)
 ·have aE:k=18:=by simp at hg;omega
  subst aE
  have hall:=oT (by rw [aq];omega) hk2
  simp -implicitDefEqProofs only [go_sem,Int.reduceNegSucc]
  refine hX _ _ _ ?_
  repeat' (first | (simp -implicitDefEqProofs only [go_sem,Int.reduceNegSucc,cC,dX,cD,dY,cO,ez,cZ,eL,dx,eX,dH,fo,dI,fq,dJ,fu,dK,fy,dL,fA,cE,dZ,cF,ec,cG,ee,cH,eg,cI,ek,cJ,ep,cK,er,cL,eu,cM,ew,cN,ey,cP,eA,cQ,eC,cR,eD,cS,eE,cT,eF,cU,eG,cV,eH,cW,eI,cX,eJ,cY,eK,dc,eM,de,eN,dg,eO,dh,eP,di,eR,dj,eS,dm,eT,dn,eU,dr,eV,dw,eW,dy,eY,dz,eZ,cA,fe,dA,ff,dB,fh,dD,fj,dF,fk,dG,fm,dR,dM,dN,dO,dP,dQ,dS,dU,dV,dW,cB,cz,af]) | (with_reducible refine aA ?_) | ((first | refine ai (fun hg=>?_) (fun hg=>?_) | refine ax (fun hg=>?_) (fun hg=>?_) | refine ay (fun hg=>?_) (fun hg=>?_)) <;> try simp -implicitDefEqProofs only [hg,Bool.not_true,Bool.not_false]) | ((with_reducible apply And.intro);focus (first | trivial | omega | decide | (simp -implicitDefEqProofs only [maxLen];omega) | (simp [maxLen,af,ak,an,av,aj,au,aq] <;> omega))) | fail)
  refine fH (ι:=Nat) (fun k=>[(62,.rv (.int .i64 k)),(1,.ptr 0 0)]) (fun k=>[some (.var (s.cells.map .rv))]) (fun k=>k≤4∧(s.bD.list.drop k).all (fun n=>decide (n≤1099511627776))=s.bD.list.all (fun n=>decide (n≤1099511627776))) (fun k=>4 - k) 0 (by simp) (bg (by simp [lk])) (fun k hk K' hN hX hR=>?_)
  obtain ⟨fJ,ga⟩:=hk
  simp -implicitDefEqProofs only [go_sem,Int.reduceNegSucc]
  refine ai (fun hg=>?_) (fun hg=>?_)
  ·have aE:k<4:=by simp at hg;omega
   have hx:(s.cells.map SV.rv)[38+k*1]?=some (.rv (.int .i64 (s.bD.list[k]'aE))):=by
    have:k=0∨k=1∨k=2∨k=3:=by omega
    rcases this with rfl | rfl | rfl | rfl <;> rfl
   repeat' (first | (simp -implicitDefEqProofs only [go_sem,Int.reduceNegSucc,hx,af]) | (with_reducible refine aA ?_) | ((first | refine ai (fun hg=>?_) (fun hg=>?_) | refine ax (fun hg=>?_) (fun hg=>?_) | refine ay (fun hg=>?_) (fun hg=>?_)) <;> try simp -implicitDefEqProofs only [hg,Bool.not_true,Bool.not_false]) | ((with_reducible apply And.intro);focus (first | trivial | omega | decide | (simp -implicitDefEqProofs only [maxLen];omega) | (simp [maxLen,af,ak,an,av,aj,au,aq] <;> omega))) | fail)
   ·refine hR _ _ (bad _ _ rfl ?_)
    simp -implicitDefEqProofs only [kY]
    rw [oU (l:=s.bD.list) aE ga (by simp at hg ⊢;omega)]
    simp
   ·rw [fB (by omega)]
    exact hN (k+1) _ _ ⟨by omega,oV (l:=s.bD.list) aE ga (by simp at hg ⊢;omega)⟩ (by omega) (bg (by simp [lk]))
  ·have aE:k=4:=by simp at hg;omega
   subst aE
   have hb:=oT (l:=s.bD.list) (by simp [Q4.list]) ga
   simp -implicitDefEqProofs only [go_sem,Int.reduceNegSucc]
   refine hX _ _ _ ?_
   have fin:∀ e h,lk e 2 = .rv (.bool (decide (s.z≤1073741824) && decide (s.z≥-1073741824) && decide (s.back≤16777216) && decide (s.line≤16777216)))→K .ret ⟨e,h⟩:=fun e h l2=>(hK _ _ (bS (by rw [l2,IG,hall,hb];rfl))).2
   clear hK hN hX hR bad
   repeat' (first | (simp -implicitDefEqProofs only [go_sem,Int.reduceNegSucc,cC,dX,cD,dY,cO,ez,cZ,eL,dx,eX,dH,fo,dI,fq,dJ,fu,dK,fy,dL,fA,cE,dZ,cF,ec,cG,ee,cH,eg,cI,ek,cJ,ep,cK,er,cL,eu,cM,ew,cN,ey,cP,eA,cQ,eC,cR,eD,cS,eE,cT,eF,cU,eG,cV,eH,cW,eI,cX,eJ,cY,eK,dc,eM,de,eN,dg,eO,dh,eP,di,eR,dj,eS,dm,eT,dn,eU,dr,eV,dw,eW,dy,eY,dz,eZ,cA,fe,dA,ff,dB,fh,dD,fj,dF,fk,dG,fm,dR,dM,dN,dO,dP,dQ,dS,dU,dV,dW,cB,cz,af]) | (with_reducible refine aA ?_) | ((first | refine ai (fun hg=>?_) (fun hg=>?_) | refine ax (fun hg=>?_) (fun hg=>?_) | refine ay (fun hg=>?_) (fun hg=>?_)) <;> try simp -implicitDefEqProofs only [hg,Bool.not_true,Bool.not_false]) | ((with_reducible apply And.intro);focus (first | trivial | omega | decide | (simp -implicitDefEqProofs only [maxLen];omega) | (simp [maxLen,af,ak,an,av,aj,au,aq] <;> omega))) | fail)
   all_goals (refine fin _ _ ?_;(simp_all [lk,bA]) <;>(try (intros;omega)))
end Go.aL

namespace Go.aL
open Go
theorem Rg:aU Go.Proofs.Tryz.prog 82 27 (fc Go.Proofs.Tryz.prog 82 27 [(.t 4),(.t 5)]) [(.t 4),(.t 5)]:=bl (by kernel_rfl)
theorem Re:aU Go.Proofs.Tryz.prog 54 39 (fc Go.Proofs.Tryz.prog 54 39 [(.t 2)]) [(.t 2)]:=bl (by kernel_rfl)
theorem kJ (x:Nd):(x.cells.drop 48)[0]?=some (.int .i64 x.parent):=rfl
theorem wo (x:Nd):(x.cells.take 48).map SV.rv=x.s.cells.map SV.rv:=rfl
theorem Vh (l:List Nd) (k:Nat) (h0:0<k) (hk:k<l.length) (hw:WF l k) (hb:l.length≤8589934592) :
 aK Go.Proofs.Tryz.prog 82 [.rv (.sl 49 (br l)),.rv (.int .i64 k)] [] [] (.aO [.rv (.int .i64 ((nq l k).getD 0:Nat)),.rv (.bool (nq l k).isSome)]):=by
 refine bu Rg [.rv (.sl 49 (br l)),.rv (.int .i64 k)] _ (by simp) (by simp [aP,aY,bq,aW,bk,aC.sv,Ln.sv,Nd.sv]) (fun K hK=>?_)
 have wd:=uI h0 (by omega)
 have NX:=iM hk
 have hlen:=an l
 have hpk:=lU hk
 conv in fc _ _ _ _=>reduce
 simp -implicitDefEqProofs only [wd,go_sem,Int.reduceNegSucc]
 refine fH (ι:=Nat) (fun i=>[(7,.rv (.int .i64 (kF (bt l (k - 1)) i))),(6,.rv (.int .i64 i)),(0,.rv (.sl 49 (br l))),(1,.rv (.int .i64 k))]) (fun _=>[]) (fun i=>i≤(bt l (k - 1)).length∧∀ j,(h:j<(bt l (k - 1)).length)→j<i→(((bt l (k - 1))[j]'h:Nat):Int)≠bz l k) (fun i=>(bt l (k - 1)).length - i) 0 (by simp) (by rw [uO];exact bg (by simp [lk])) (fun i hi K' hN hX hR=>?_)
 obtain ⟨hi1,hi2⟩:=hi
 have gd:=uq (l:=l) (k - 1)
 simp -implicitDefEqProofs only [go_sem,Int.reduceNegSucc]
 refine ai (fun hg=>?_) (fun hg=>?_)
 ·have fG:i<(bt l (k - 1)).length:=qz.1 (by simpa using hg)
  have iR:=uN fG
  have hlt:(bt l (k - 1))[i]<k:=zw (by omega) fG
  have hx:=iM (l:=l) (i:=(bt l (k - 1))[i]) (by omega)
  have hpar:=lU (l:=l) (n:=(bt l (k - 1))[i]) (by omega)
  have ov:=zn hw (k - 1) (by omega) i fG
  repeat' (first | (simp -implicitDefEqProofs only [go_sem,Int.reduceNegSucc,NX,hlen,ak,kJ,hpk,iR,hx,hpar,ov]) | (with_reducible refine aA ?_) | ((first | refine ai (fun hg=>?_) (fun hg=>?_) | refine ax (fun hg=>?_) (fun hg=>?_) | refine ay (fun hg=>?_) (fun hg=>?_)) <;> try simp -implicitDefEqProofs only [hg,Bool.not_true,Bool.not_false]) | ((with_reducible apply And.intro);focus (first | trivial | omega | decide | (simp -implicitDefEqProofs only [maxLen];omega) | (simp [maxLen,af,ak,an,av,aj,au,aq] <;> omega))) | fail)
  ·refine hR _ _ (hK _ _ ?_).2
   rw [Vz fG (by simpa using hg) hi2]
   exact gj rfl rfl
  ·rw [fB (by omega)]
   refine hN (i+1) _ _ ⟨by omega,fun j hj hji=>?_⟩ (by omega) (bg (by simp [lk]))
   rcases Nat.lt_or_ge j i with h | h
   ·exact hi2 j hj h
   ·obtain rfl:j=i:=by omega
    simpa using hg
 ·simp -implicitDefEqProofs only [go_sem,Int.reduceNegSucc]
  refine hX _ _ _ ?_
  repeat' (first | (simp -implicitDefEqProofs only [go_sem,Int.reduceNegSucc]) | (with_reducible refine aA ?_) | ((first | refine ai (fun hg=>?_) (fun hg=>?_) | refine ax (fun hg=>?_) (fun hg=>?_) | refine ay (fun hg=>?_) (fun hg=>?_)) <;> try simp -implicitDefEqProofs only [hg,Bool.not_true,Bool.not_false]) | ((with_reducible apply And.intro);focus (first | trivial | omega | decide | (simp -implicitDefEqProofs only [maxLen];omega) | (simp [maxLen,af,ak,an,av,aj,au,aq] <;> omega))) | fail)
  refine (hK _ _ ?_).2
  have fG:¬ i<(bt l (k - 1)).length:=fun h=>by have:=qz.2 h;simp at hg;omega
  rw [VA fun j hj=>hi2 j hj (by omega)]
  exact gj rfl rfl
theorem IA (l:List Nd) (hb:l.length≤8589934592):aK Go.Proofs.Tryz.prog 54 [.rv (.sl 49 (br l))] [] [] (.rv (.bool (fT l))):=by
 refine bu Re [.rv (.sl 49 (br l))] _ (by simp) (by simp [aP,aY,bq,aW,bk,aC.sv,Ln.sv,Nd.sv]) (fun K hK=>?_)
 have bad:∀ e h,lk e 2 = .rv (.bool false)→fT l=false→K .ret ⟨e,h⟩:=fun e h l2 hf=>(hK _ _ (bS (by rw [l2,hf]))).2
 have hlen:=an l
 conv in fc _ _ _ _=>reduce
 simp -implicitDefEqProofs only [hlen,go_sem,Int.reduceNegSucc]
 by_cases pF:l.length=0
 ·have e0:(((l.length:Nat):Int) == 0)=true:=by simp [pF]
  repeat' (first | (simp -implicitDefEqProofs only [go_sem,Int.reduceNegSucc,e0,hlen]) | (with_reducible refine aA ?_) | ((first | refine ai (fun hg=>?_) (fun hg=>?_) | refine ax (fun hg=>?_) (fun hg=>?_) | refine ay (fun hg=>?_) (fun hg=>?_)) <;> try simp -implicitDefEqProofs only [hg,Bool.not_true,Bool.not_false]) | ((with_reducible apply And.intro);focus (first | trivial | omega | decide | (simp -implicitDefEqProofs only [maxLen];omega) | (simp [maxLen,af,ak,an,av,aj,au,aq] <;> omega))) | fail)
  exact bad _ _ rfl (by simp [fT,kX,pF])
 ·have e0:(((l.length:Nat):Int) == 0)=false:=by simp [pF]
  have hx0:=iM (l:=l) (i:=0) (by omega)
  have jY:=lU (l:=l) (n:=0) (by omega)
  repeat' (first | (simp -implicitDefEqProofs only [go_sem,Int.reduceNegSucc,e0,hlen,hx0,ak,kJ,jY]) | (with_reducible refine aA ?_) | ((first | refine ai (fun hg=>?_) (fun hg=>?_) | refine ax (fun hg=>?_) (fun hg=>?_) | refine ay (fun hg=>?_) (fun hg=>?_)) <;> try simp -implicitDefEqProofs only [hg,Bool.not_true,Bool.not_false]) | ((with_reducible apply And.intro);focus (first | trivial | omega | decide | (simp -implicitDefEqProofs only [maxLen];omega) | (simp [maxLen,af,ak,an,av,aj,au,aq] <;> omega))) | fail)
  ·exact bad _ _ rfl (by simp [fT,kX];intro _ h;simp at hg;exact absurd h hg)
  ·have vG:bz l 0 = -1:=by simpa using hg
   refine fH (ι:=Nat) (fun k=>[(18,.rv (.int .i64 k)),(17,.rv (.int .i64 l.length)),(0,.rv (.sl 49 (br l)))]) (fun _=>[]) (fun k=>k≤l.length∧(∀ j,j<k→jA l j=true)∧((l.drop k).all fun x=>jg x.s)=l.all fun x=>jg x.s) (fun k=>l.length - k) 0 (by simp) (bg (by simp [lk])) (fun k hk K' hN hX hR=>?_)
   obtain ⟨fJ,hk2,ga⟩:=hk
   have hw:=Je vG hk2
   simp -implicitDefEqProofs only [go_sem,Int.reduceNegSucc]
   refine ai (fun hg=>?_) (fun hg=>?_)
   ·have aE:k<l.length:=by simp at hg;omega
    have hx:=iM aE
    have h48:(l[k]'aE).cells.drop 0=(l[k]'aE).cells:=rfl
    have uQ:jA l k=false→fT l=false:=fun h=>by
     simp -implicitDefEqProofs only [fT,Bool.and_eq_false_iff]
     left
     rw [Bool.eq_false_iff]
     intro ht
     simp -implicitDefEqProofs only [kX,Bool.and_eq_true,List.all_eq_true,List.mem_range] at ht
     have:=ht.2 k aE
     rw [h] at this;cases this
    have Dm:jg (l[k]'aE).s=false→fT l=false:=fun h=>by
     have:(l.all fun x=>jg x.s)=false:=oU aE ga h
     simp -implicitDefEqProofs only [fT,this,Bool.and_false]
    have nx:∀ e h,jA l k=true→jg (l[k]'aE).s=true→fV 0 ⟨e,h⟩ ⟨[(18,.rv (.int .i64 (k+1:Nat))),(17,.rv (.int .i64 l.length)),(0,.rv (.sl 49 (br l)))],[]⟩→K' .normal ⟨e,h⟩:=fun e h h1 h2 he=>hN (k+1) _ _ ⟨by omega,fun j hj=>by
     rcases Nat.lt_or_ge j k with h | h
     ·exact hk2 j h
     ·obtain rfl:j=k:=by omega
      exact h1,oV aE ga h2⟩ (by omega) he
    have wu:=fB (k:=k) (by omega)
    clear hN hX hK
    by_cases gA:0<k
    ·have hn:jA l k=(nq l k).isSome:=by simp [jA];intro h;omega
     have hgt:decide ((k:Int)>0)=true:=decide_eq_true (by omega)
     have bf:=Vh l k gA aE hw hb;have y_2:=Iy (l[k]'aE).s;repeat' (first | (simp -implicitDefEqProofs only [go_sem,Int.reduceNegSucc,hgt,hlen,hx,ak,kJ,wo,wu]) | (with_reducible refine aA ?_) | (with_reducible first | refine ag bf ?_ | refine ah bf ?_) | (with_reducible first | refine ag y_2 ?_ | refine ah y_2 ?_) | ((first | refine ai (fun hg=>?_) (fun hg=>?_) | refine ax (fun hg=>?_) (fun hg=>?_) | refine ay (fun hg=>?_) (fun hg=>?_)) <;> try simp -implicitDefEqProofs only [hg,Bool.not_true,Bool.not_false]) | ((with_reducible apply And.intro);focus (first | trivial | omega | decide | (simp -implicitDefEqProofs only [maxLen];omega) | (simp [maxLen,af,ak,an,av,aj,au,aq] <;> omega))) | fail)
     all_goals first
      | (refine hR _ _ (bad _ _ rfl (uQ ?_));rw [hn];simpa using hg;done)
      | (refine hR _ _ (bad _ _ rfl (Dm ?_));simpa using hg;done)
      | (refine nx _ _ ?_ ?_ (bg (by simp [lk])) <;> simp_all;done)
    ·obtain rfl:k=0:=by omega
     have hn:jA l 0=true:=by simp [jA]
     have hgt:decide (((0:Nat):Int)>0)=false:=rfl
     have bB:=Iy (l[0]'aE).s;repeat' (first | (simp -implicitDefEqProofs only [go_sem,Int.reduceNegSucc,hgt,hlen,hx,ak,kJ,wo,wu]) | (with_reducible refine aA ?_) | (with_reducible first | refine ag bB ?_ | refine ah bB ?_) | ((first | refine ai (fun hg=>?_) (fun hg=>?_) | refine ax (fun hg=>?_) (fun hg=>?_) | refine ay (fun hg=>?_) (fun hg=>?_)) <;> try simp -implicitDefEqProofs only [hg,Bool.not_true,Bool.not_false]) | ((with_reducible apply And.intro);focus (first | trivial | omega | decide | (simp -implicitDefEqProofs only [maxLen];omega) | (simp [maxLen,af,ak,an,av,aj,au,aq] <;> omega))) | fail)
     all_goals first
      | (refine hR _ _ (bad _ _ rfl (Dm ?_));simpa using hg;done)
      | (refine nx _ _ hn ?_ (bg (by simp [lk]));simpa using hg)
   ·have aE:k=l.length:=by simp at hg;omega
    subst aE
    have hall:=oT (Nat.le_refl _) ga
    have hs:kX l=true:=by
     simp -implicitDefEqProofs only [kX,Bool.and_eq_true,decide_eq_true_eq,List.all_eq_true,List.mem_range]
     exact ⟨⟨by omega,vG⟩,hk2⟩
    simp -implicitDefEqProofs only [go_sem,Int.reduceNegSucc]
    refine hX _ _ _ ?_
    repeat' (first | (simp -implicitDefEqProofs only [go_sem,Int.reduceNegSucc]) | (with_reducible refine aA ?_) | ((first | refine ai (fun hg=>?_) (fun hg=>?_) | refine ax (fun hg=>?_) (fun hg=>?_) | refine ay (fun hg=>?_) (fun hg=>?_)) <;> try simp -implicitDefEqProofs only [hg,Bool.not_true,Bool.not_false]) | ((with_reducible apply And.intro);focus (first | trivial | omega | decide | (simp -implicitDefEqProofs only [maxLen];omega) | (simp [maxLen,af,ak,an,av,aj,au,aq] <;> omega))) | fail)
    exact (hK _ _ (bS (by rw [fT,hs,hall];rfl))).2
end Go.aL

namespace Go.aL
open Go
theorem QO:aU Go.Proofs.Tryz.prog 84 25 (fc Go.Proofs.Tryz.prog 84 25 [(.t 2)]) [(.t 2)]:=bl (by kernel_rfl)
theorem Rf:aU Go.Proofs.Tryz.prog 55 33 (fc Go.Proofs.Tryz.prog 55 33 [(.t 2)]) [(.t 2)]:=bl (by kernel_rfl)
theorem Rd:aU Go.Proofs.Tryz.prog 57 7 (fc Go.Proofs.Tryz.prog 57 7 [(.t 2)]) [(.t 2)]:=bl (by kernel_rfl)
theorem QL:aU Go.Proofs.Tryz.prog 85 19 (fc Go.Proofs.Tryz.prog 85 19 [(.t 4)]) [(.t 4)]:=bl (by kernel_rfl)
theorem QI:aU Go.Proofs.Tryz.prog 56 9 (fc Go.Proofs.Tryz.prog 56 9 [(.t 4)]) [(.t 4)]:=bl (by kernel_rfl)
theorem Rc:aU Go.Proofs.Tryz.prog 26 18 (fc Go.Proofs.Tryz.prog 26 18 [(.t 2)]) [(.t 2)]:=bl (by kernel_rfl)
def oH (ys:List Int) (m:Int) (k:Nat):Int:=(ys.drop k).foldl (fun a b=>if b>a then b else a) m
theorem Sd {ys:List Int} {m:Int} {k:Nat} (h:k<ys.length):oH ys m k=oH ys (if ys[k]'h>m then ys[k]'h else m) (k+1):=by
 unfold oH;rw [List.drop_eq_getElem_cons h];rfl
theorem Sb {ys:List Int} {m:Int} {k:Nat} (h:ys.length≤k):oH ys m k=m:=by
 unfold oH;rw [List.drop_of_length_le h];rfl
theorem TW (ys:List Int) (h0:0<ys.length) (hb:ys.length≤8589934592):aK Go.Proofs.Tryz.prog 84 [.rv (.sl 1 (aM ys))] [] [] (.rv (.int .i64 (oH ys (ys[0]'h0) 1))):=by
 refine bu QO [.rv (.sl 1 (aM ys))] _ (by simp) (by simp [aP,aY,bq,aW,bk,aC.sv,Ln.sv,Nd.sv]) (fun K hK=>?_)
 have hlen:=aj ys
 have e0:decide (((ys.length:Nat):Int)<1)=false:=decide_eq_false (by omega)
 have hx0:=pK h0
 conv in fc _ _ _ _=>reduce
 simp -implicitDefEqProofs only [go_sem,Int.reduceNegSucc]
 repeat' (first | (simp -implicitDefEqProofs only [go_sem,Int.reduceNegSucc,hlen,e0,hx0]) | (with_reducible refine aA ?_) | ((first | refine ai (fun hg=>?_) (fun hg=>?_) | refine ax (fun hg=>?_) (fun hg=>?_) | refine ay (fun hg=>?_) (fun hg=>?_)) <;> try simp -implicitDefEqProofs only [hg,Bool.not_true,Bool.not_false]) | ((with_reducible apply And.intro);focus (first | trivial | omega | decide | (simp -implicitDefEqProofs only [maxLen];omega) | (simp [maxLen,af,ak,an,av,aj,au,aq] <;> omega))) | fail)
 refine fH (ι:=Nat×Int) (fun i=>[(4,.rv (.int .i64 i.1)),(3,.rv (.int .i64 i.2)),(0,.rv (.sl 1 (aM ys)))]) (fun _=>[]) (fun i=>i.1≤ys.length∧oH ys i.2 i.1=oH ys (ys[0]'h0) 1) (fun i=>ys.length - i.1) (1,ys[0]'h0) ⟨by dsimp only;omega,rfl⟩ (bg (by simp [lk])) (fun i hi K' hN hX hR=>?_)
 obtain ⟨k,m⟩:=i
 obtain ⟨fJ,hk2⟩:=hi
 dsimp only at fJ hk2 ⊢
 simp -implicitDefEqProofs only [hlen,go_sem,Int.reduceNegSucc]
 refine ai (fun hg=>?_) (fun hg=>?_)
 ·have aE:k<ys.length:=by simp at hg;omega
  have hx:=pK aE
  repeat' (first | (simp -implicitDefEqProofs only [go_sem,Int.reduceNegSucc,hlen,hx]) | (with_reducible refine aA ?_) | ((first | refine ai (fun hg=>?_) (fun hg=>?_) | refine ax (fun hg=>?_) (fun hg=>?_) | refine ay (fun hg=>?_) (fun hg=>?_)) <;> try simp -implicitDefEqProofs only [hg,Bool.not_true,Bool.not_false]) | ((with_reducible apply And.intro);focus (first | trivial | omega | decide | (simp -implicitDefEqProofs only [maxLen];omega) | (simp [maxLen,af,ak,an,av,aj,au,aq] <;> omega))) | fail)
  rw [fB (by omega)]
  exact hN (k+1,if ys[k]'aE>m then ys[k]'aE else m) _ _ ⟨by dsimp only;omega,by rw [← hk2];exact (Sd aE).symm⟩ (by dsimp only;omega) (bg (by simp [lk]))
 ·simp -implicitDefEqProofs only [go_sem,Int.reduceNegSucc]
  refine hX _ _ _ ?_
  repeat' (first | (simp -implicitDefEqProofs only [go_sem,Int.reduceNegSucc]) | (with_reducible refine aA ?_) | ((first | refine ai (fun hg=>?_) (fun hg=>?_) | refine ax (fun hg=>?_) (fun hg=>?_) | refine ay (fun hg=>?_) (fun hg=>?_)) <;> try simp -implicitDefEqProofs only [hg,Bool.not_true,Bool.not_false]) | ((with_reducible apply And.intro);focus (first | trivial | omega | decide | (simp -implicitDefEqProofs only [maxLen];omega) | (simp [maxLen,af,ak,an,av,aj,au,aq] <;> omega))) | fail)
  refine (hK _ _ (bS ?_)).2
  rw [← hk2,Sb (by simp at hg;omega)];rfl
def cj (l:List Nd) (k:Nat):List Int:=(List.range l.length).map fun j=>if j<k then (depth l j:Int) else 0
theorem tH (l:List Nd) (k:Nat):(cj l k).length=l.length:=by simp [cj]
theorem xY {l:List Nd} {k:Nat} (hk:k<l.length):(cj l k).set k (depth l k)=cj l (k+1):=by
 refine List.ext_getElem (by simp [cj]) (fun i h1 h2=>?_)
 simp -implicitDefEqProofs only [List.getElem_set,cj,List.getElem_map,List.getElem_range]
 by_cases h:k=i
 ·subst h;simp
 ·rw [if_neg h]
  by_cases hi:i<k
  ·rw [if_pos hi,if_pos (by omega)]
  ·rw [if_neg hi,if_neg (by omega)]
theorem Av (l:List Nd):cj l 0=List.replicate l.length 0:=by
 refine List.ext_getElem (by simp [cj]) (fun i h1 h2=>?_)
 simp [cj]
theorem At {l:List Nd} {k j:Nat} (hj:j<k) (hl:j<l.length):((cj l k).set k 1).getD j 0=depth l j:=by
 rw [List.getD_eq_getElem?_getD,List.getElem?_set_ne (by omega)]
 simp [cj,hl,hj]
theorem Au {l:List Nd} {k:Nat} (hk:k<l.length):((cj l k).set k 1).set k (depth l k)=cj l (k+1):=by
 rw [List.set_set,xY hk]
def uW (l:List Nd):Int:=oH (cj l l.length) ((cj l l.length).getD 0 0) 1
theorem Vg (l:List Nd) (h0:0<l.length) (hw:WF l l.length) (hb:l.length≤8589934592):aK Go.Proofs.Tryz.prog 55 [.rv (.sl 49 (br l))] [] [] (.rv (.int .i64 (uW l))):=by
 refine bu Rf [.rv (.sl 49 (br l))] _ (by simp) (by simp [aP,aY,bq,aW,bk,aC.sv,Ln.sv,Nd.sv]) (fun K hK=>?_)
 have hlen:=an l
 conv in fc _ _ _ _=>reduce
 simp -implicitDefEqProofs only [go_sem,Int.reduceNegSucc]
 repeat' (first | (simp -implicitDefEqProofs only [go_sem,Int.reduceNegSucc,hlen,zF]) | (with_reducible refine aA ?_) | ((first | refine ai (fun hg=>?_) (fun hg=>?_) | refine ax (fun hg=>?_) (fun hg=>?_) | refine ay (fun hg=>?_) (fun hg=>?_)) <;> try simp -implicitDefEqProofs only [hg,Bool.not_true,Bool.not_false]) | ((with_reducible apply And.intro);focus (first | trivial | omega | decide | (simp -implicitDefEqProofs only [maxLen];omega) | (simp [maxLen,af,ak,an,av,aj,au,aq] <;> omega))) | fail)
 refine fH (ι:=Nat) (fun k=>[(11,.rv (.int .i64 k)),(10,.rv (.int .i64 l.length)),(9,.rv (.sl 49 (br l))),(3,.row 0 0 l.length)]) (fun k=>[some (.row 1 0 (aN (aM (cj l k))))]) (fun k=>k≤l.length) (fun k=>l.length - k) 0 (by simp) (by rw [Av];exact bg (by simp [lk])) (fun k hk K' hN hX hR=>?_)
 simp -implicitDefEqProofs only [go_sem,Int.reduceNegSucc]
 refine ai (fun hg=>?_) (fun hg=>?_)
 ·have aE:k<l.length:=by simp at hg;omega
  have hx:=iM aE
  have hdl:=tH l k
  have oZ:=kU (l:=cj l k) (i:=k) (by omega)
  have lA:=aj (cj l k)
  have nE:((cj l k).set k 1).length=l.length:=by simp [hdl]
  have hpk:=lU aE
  have wu:=fB (k:=k) (by omega)
  have nx:∀ e,fV 0 ⟨e,[some (.row 1 0 (aN (aM (cj l (k+1))))),some (.var ((l[k]'aE).cells.map .rv))]⟩ ⟨[(11,.rv (.int .i64 (k+1:Nat))),(10,.rv (.int .i64 l.length)),(9,.rv (.sl 49 (br l))),(3,.row 0 0 l.length)],[some (.row 1 0 (aN (aM (cj l (k+1)))))]⟩→K' .normal ⟨e,_⟩:=fun e he=>hN (k+1) _ _ (by omega) (by omega) he
  have hds:=xY aE
  have sy:=Au aE
  by_cases gA:0<k
  ·have hgt:decide ((k:Int)>0)=true:=decide_eq_true (by omega)
   obtain ⟨p1,p2⟩:=hw.2 k gA aE
   obtain ⟨p,hp⟩:∃ p:Nat,bz l k=p:=⟨(bz l k).toNat,by omega⟩
   have pe:=kU (l:=(cj l k).set k 1) (i:=p) (by omega)
   have sx:=kU (l:=(cj l k).set k 1) (i:=k) (by omega)
   rw [At (by omega) (by omega)] at pe
   have sA:=aj ((cj l k).set k 1)
   have qK:=Aw hw gA aE
   rw [hp,Int.toNat_natCast] at qK
   have wd:=fB (k:=depth l p) (by have:=uq (l:=l) p;unfold depth;omega)
   rw [← qK] at wd
   repeat' (first | (simp -implicitDefEqProofs only [go_sem,Int.reduceNegSucc,hgt,hlen,hx,ak,uh,ql,wu,oZ,hdl,lA,nh,hpk,hp,pe,sx,nE,sA,wd,sy]) | (with_reducible refine aA ?_) | ((first | refine ai (fun hg=>?_) (fun hg=>?_) | refine ax (fun hg=>?_) (fun hg=>?_) | refine ay (fun hg=>?_) (fun hg=>?_)) <;> try simp -implicitDefEqProofs only [hg,Bool.not_true,Bool.not_false]) | ((with_reducible apply And.intro);focus (first | trivial | omega | decide | (simp -implicitDefEqProofs only [maxLen];omega) | (simp [maxLen,af,ak,an,av,aj,au,aq] <;> omega))) | fail)
   exact nx _ (tK _ (by simp) (by simp [qk,aB,fW,gW]) (by simp [lk,aG,gw,gD]))
  ·obtain rfl:k=0:=by omega
   have hgt:decide (((0:Nat):Int)>0)=false:=rfl
   rw [Ax] at hds
   repeat' (first | (simp -implicitDefEqProofs only [go_sem,Int.reduceNegSucc,hgt,hlen,hx,ak,uh,ql,wu,oZ,hdl,lA,nh]) | (with_reducible refine aA ?_) | ((first | refine ai (fun hg=>?_) (fun hg=>?_) | refine ax (fun hg=>?_) (fun hg=>?_) | refine ay (fun hg=>?_) (fun hg=>?_)) <;> try simp -implicitDefEqProofs only [hg,Bool.not_true,Bool.not_false]) | ((with_reducible apply And.intro);focus (first | trivial | omega | decide | (simp -implicitDefEqProofs only [maxLen];omega) | (simp [maxLen,af,ak,an,av,aj,au,aq] <;> omega))) | fail)
   rw [show (1:Int)=((1:Nat):Int) from rfl,hds]
   exact nx _ (tK _ (by simp) (by simp [qk,aB,fW,gW]) (by simp [lk,aG,gw,gD]))
 ·have aE:k=l.length:=by simp at hg;omega
  subst aE
  have hpos:0<(cj l l.length).length:=by rw [tH];exact h0
  have hm:=TW (cj l l.length) hpos (by rw [tH];exact hb)
  have hml:=Gh (id:=0) (v:=0) (n:=l.length) (bs:=[]) hm (.int _ _) (by simp [aM,cj]) (kI _)
  simp -implicitDefEqProofs only [go_sem,Int.reduceNegSucc]
  refine hX _ _ _ ?_
  have bf:=hml;repeat' (first | (simp -implicitDefEqProofs only [go_sem,Int.reduceNegSucc]) | (with_reducible refine aA ?_) | (refine bQ bf ?_ ?_ ?_;(focus (simp [aT,aB] <;> fail));(focus (simp [aZ,aR] <;> fail))) | (refine bV bf ?_ ?_ ?_;(focus (simp [aT,aB] <;> fail));(focus (simp [aZ,aR] <;> fail))) | ((first | refine ai (fun hg=>?_) (fun hg=>?_) | refine ax (fun hg=>?_) (fun hg=>?_) | refine ay (fun hg=>?_) (fun hg=>?_)) <;> try simp -implicitDefEqProofs only [hg,Bool.not_true,Bool.not_false]) | ((with_reducible apply And.intro);focus (first | trivial | omega | decide | (simp -implicitDefEqProofs only [maxLen];omega) | (simp [maxLen,af,ak,an,av,aj,au,aq] <;> omega))) | fail)
  refine (hK _ _ (bS ?_)).2
  rw [uW,List.getD_eq_getElem?_getD,List.getElem?_eq_getElem hpos];rfl
theorem Sc {ys:List Int} {m b:Int} {k:Nat}:oH ys m k≤b↔m≤b∧∀ x∈ys.drop k,x≤b:=by
 unfold oH
 induction ys.drop k generalizing m with
 | nil=>simp
 | cons a r ih=>
   rw [List.foldl_cons,ih]
   by_cases h:a>m
   ·rw [if_pos h];simp;intro _;omega
   ·rw [if_neg h];simp;intro _ _;omega
theorem Ll (l:List Nd) (h0:0<l.length):decide (uW l>256)=(List.range l.length).any (fun k=>decide (depth l k>256)):=by
 have hg:∀ k,k<l.length→(cj l l.length)[k]?=some (depth l k:Int):=fun k hk=>by simp [cj,hk]
 have:uW l≤256↔∀ k,k<l.length→depth l k≤256:=by
  rw [uW,Sc]
  constructor
  ·rintro ⟨h1,h2⟩ k hk
   rcases Nat.eq_zero_or_pos k with rfl | gA
   ·rw [List.getD_eq_getElem?_getD,hg 0 hk] at h1;simp at h1;omega
   ·have:=h2 (depth l k) (List.mem_iff_getElem?.2 ⟨k - 1,by rw [List.getElem?_drop,show 1+(k - 1)=k by omega,hg k hk]⟩)
    omega
  ·intro h
   refine ⟨by rw [List.getD_eq_getElem?_getD,hg 0 h0];have:=h 0 h0;simp;omega,fun x hx=>?_⟩
   obtain ⟨i,hi⟩:=List.mem_iff_getElem?.1 hx
   rw [List.getElem?_drop] at hi
   have hlt:1+i<l.length:=by have:=(List.getElem?_eq_some_iff.1 hi).1;rwa [tH] at this
   rw [hg _ hlt] at hi
   have:=h _ hlt
   simp at hi;omega
 rw [Bool.eq_iff_iff]
 simp -implicitDefEqProofs only [decide_eq_true_eq,List.any_eq_true,List.mem_range]
 constructor
 ·intro h
  apply Classical.byContradiction
  intro hn
  have:=this.2 (fun k hk=>by apply Classical.byContradiction;intro h2;exact hn ⟨k,hk,by omega⟩)
  omega
 ·rintro ⟨k,hk,h⟩
  apply Classical.byContradiction
  intro hn
  have:=this.1 (by omega) k hk
  omega
theorem Vf (x:Nd):aK Go.Proofs.Tryz.prog 57 [x.sv] [] [] (.rv (.bool (!kY x.s))):=by
 refine bu Rd [x.sv] _ (by simp) (by simp [aP,aY,bq,aW,bk,aC.sv,Ln.sv,Nd.sv]) (fun K hK=>?_)
 conv in fc _ _ _ _=>reduce
 simp -implicitDefEqProofs only [go_sem,Int.reduceNegSucc]
 have h48:(x.cells.map SV.rv).take 48=x.s.cells.map SV.rv:=rfl
 have y_2:=Vc x.s;repeat' (first | (simp -implicitDefEqProofs only [go_sem,Int.reduceNegSucc,ak,h48]) | (with_reducible refine aA ?_) | (with_reducible first | refine ag y_2 ?_ | refine ah y_2 ?_) | ((first | refine ai (fun hg=>?_) (fun hg=>?_) | refine ax (fun hg=>?_) (fun hg=>?_) | refine ay (fun hg=>?_) (fun hg=>?_)) <;> try simp -implicitDefEqProofs only [hg,Bool.not_true,Bool.not_false]) | ((with_reducible apply And.intro);focus (first | trivial | omega | decide | (simp -implicitDefEqProofs only [maxLen];omega) | (simp [maxLen,af,ak,an,av,aj,au,aq] <;> omega))) | fail)
 exact (hK _ _ (bS rfl)).2
theorem TN (l:List Nd) (f:Nat) (p:Nd→Bool) (hf:∀ x:Nd,aK Go.Proofs.Tryz.prog f [x.sv] [] [] (.rv (.bool (p x)))) (hb:l.length≤8589934592) :
 aK Go.Proofs.Tryz.prog 85 [.rv (.sl 49 (br l)),.fn f []] [] [] (.rv (.int .i64 (match l.findIdx? p with | some i=>((i:Nat):Int) | none=>-1))):=by
 refine bu QL [.rv (.sl 49 (br l)),.fn f []] _ (by simp) (by simp [aP,aY,bq,aW,bk,aC.sv,Ln.sv,Nd.sv]) (fun K hK=>?_)
 have hlen:=an l
 conv in fc _ _ _ _=>reduce
 simp -implicitDefEqProofs only [hlen,go_sem,Int.reduceNegSucc]
 refine fH (ι:=Nat) (fun k=>[(8,.rv (.int .i64 k)),(7,.rv (.int .i64 l.length)),(0,.rv (.sl 49 (br l))),(1,.fn f [])]) (fun _=>[]) (fun k=>k≤l.length∧∀ j,(h:j<l.length)→j<k→p (l[j]'h)=false) (fun k=>l.length - k) 0 (by simp) (bg (by simp [lk])) (fun k hk K' hN hX hR=>?_)
 obtain ⟨fJ,hk2⟩:=hk
 simp -implicitDefEqProofs only [go_sem,Int.reduceNegSucc]
 refine ai (fun hg=>?_) (fun hg=>?_)
 ·have aE:k<l.length:=by simp at hg;omega
  have hx:=iM aE
  have bB:=hf (l[k]'aE);repeat' (first | (simp -implicitDefEqProofs only [go_sem,Int.reduceNegSucc,hlen,hx,ak,ql]) | (with_reducible refine aA ?_) | (with_reducible first | refine ag bB ?_ | refine ah bB ?_) | ((first | refine ai (fun hg=>?_) (fun hg=>?_) | refine ax (fun hg=>?_) (fun hg=>?_) | refine ay (fun hg=>?_) (fun hg=>?_)) <;> try simp -implicitDefEqProofs only [hg,Bool.not_true,Bool.not_false]) | ((with_reducible apply And.intro);focus (first | trivial | omega | decide | (simp -implicitDefEqProofs only [maxLen];omega) | (simp [maxLen,af,ak,an,av,aj,au,aq] <;> omega))) | fail)
  ·refine hR _ _ (hK _ _ (bS ?_)).2
   have:l.findIdx? p=some k:=by
    rw [List.findIdx?_eq_some_iff_getElem]
    exact ⟨aE,by simpa using hg,fun j hj=>by rw [hk2 j (by omega) hj];simp⟩
   rw [this];rfl
  ·rw [fB (by omega)]
   refine hN (k+1) _ _ ⟨by omega,fun j hj hji=>?_⟩ (by omega) (bg (by simp [lk]))
   rcases Nat.lt_or_ge j k with h | h
   ·exact hk2 j hj h
   ·obtain rfl:j=k:=by omega
    simpa using hg
 ·have aE:k=l.length:=by simp at hg;omega
  subst aE
  simp -implicitDefEqProofs only [go_sem,Int.reduceNegSucc]
  refine hX _ _ _ ?_
  repeat' (first | (simp -implicitDefEqProofs only [go_sem,Int.reduceNegSucc]) | (with_reducible refine aA ?_) | ((first | refine ai (fun hg=>?_) (fun hg=>?_) | refine ax (fun hg=>?_) (fun hg=>?_) | refine ay (fun hg=>?_) (fun hg=>?_)) <;> try simp -implicitDefEqProofs only [hg,Bool.not_true,Bool.not_false]) | ((with_reducible apply And.intro);focus (first | trivial | omega | decide | (simp -implicitDefEqProofs only [maxLen];omega) | (simp [maxLen,af,ak,an,av,aj,au,aq] <;> omega))) | fail)
  refine (hK _ _ (bS ?_)).2
  have:l.findIdx? p=none:=by
   rw [List.findIdx?_eq_none_iff]
   intro x hx
   obtain ⟨j,hj,rfl⟩:=List.getElem_of_mem hx
   exact hk2 j hj hj
  rw [this];rfl
theorem TI (l:List Nd) (f:Nat) (p:Nd→Bool) (hf:∀ x:Nd,aK Go.Proofs.Tryz.prog f [x.sv] [] [] (.rv (.bool (p x)))) (hb:l.length≤8589934592) :
 aK Go.Proofs.Tryz.prog 56 [.rv (.sl 49 (br l)),.fn f []] [] [] (.rv (.bool (l.any p))):=by
 refine bu QI [.rv (.sl 49 (br l)),.fn f []] _ (by simp) (by simp [aP,aY,bq,aW,bk,aC.sv,Ln.sv,Nd.sv]) (fun K hK=>?_)
 conv in fc _ _ _ _=>reduce
 simp -implicitDefEqProofs only [go_sem,Int.reduceNegSucc]
 have bG:=TN l f p hf hb;repeat' (first | (simp -implicitDefEqProofs only [go_sem,Int.reduceNegSucc]) | (with_reducible refine aA ?_) | (with_reducible first | refine ag bG ?_ | refine ah bG ?_) | ((first | refine ai (fun hg=>?_) (fun hg=>?_) | refine ax (fun hg=>?_) (fun hg=>?_) | refine ay (fun hg=>?_) (fun hg=>?_)) <;> try simp -implicitDefEqProofs only [hg,Bool.not_true,Bool.not_false]) | ((with_reducible apply And.intro);focus (first | trivial | omega | decide | (simp -implicitDefEqProofs only [maxLen];omega) | (simp [maxLen,af,ak,an,av,aj,au,aq] <;> omega))) | fail)
 refine (hK _ _ (bS ?_)).2
 have:(l.findIdx? p).isSome=l.any p:=List.findIdx?_isSome
 rw [← this]
 cases l.findIdx? p <;> simp [lk]
theorem Iz (l:List Nd) (hb:l.length≤8589934592):aK Go.Proofs.Tryz.prog 26 [.rv (.sl 49 (br l))] [] [] (.rv (.int .i64 (kO l))):=by
 refine bu Rc [.rv (.sl 49 (br l))] _ (by simp) (by simp [aP,aY,bq,aW,bk,aC.sv,Ln.sv,Nd.sv]) (fun K hK=>?_)
 have hlen:=an l
 conv in fc _ _ _ _=>reduce
 simp -implicitDefEqProofs only [go_sem,Int.reduceNegSucc]
 cases ht:fT l with
 | false=>
   have hc:=IA l hb
   rw [ht] at hc
   have bI:=hc;repeat' (first | (simp -implicitDefEqProofs only [go_sem,Int.reduceNegSucc]) | (with_reducible refine aA ?_) | (with_reducible first | refine ag bI ?_ | refine ah bI ?_) | ((first | refine ai (fun hg=>?_) (fun hg=>?_) | refine ax (fun hg=>?_) (fun hg=>?_) | refine ay (fun hg=>?_) (fun hg=>?_)) <;> try simp -implicitDefEqProofs only [hg,Bool.not_true,Bool.not_false]) | ((with_reducible apply And.intro);focus (first | trivial | omega | decide | (simp -implicitDefEqProofs only [maxLen];omega) | (simp [maxLen,af,ak,an,av,aj,au,aq] <;> omega))) | fail)
   exact (hK _ _ (bS (by simp [kO,ht,lk]))).2
 | true=>
   have hc:=IA l hb
   rw [ht] at hc
   have hs:gF l:=wG.1 (by unfold fT at ht;simp -implicitDefEqProofs only [Bool.and_eq_true] at ht;exact ht.1)
   have hd:=Ll l hs.pos
   have bK:=hc;have bL:=Vg l hs.pos hs.wf hb;have bO:=TI l 57 (fun x=>!kY x.s) Vf hb;repeat' (first | (simp -implicitDefEqProofs only [go_sem,Int.reduceNegSucc,hlen]) | (with_reducible refine aA ?_) | (with_reducible first | refine ag bK ?_ | refine ah bK ?_) | (with_reducible first | refine ag bL ?_ | refine ah bL ?_) | (with_reducible first | refine ag bO ?_ | refine ah bO ?_) | ((first | refine ai (fun hg=>?_) (fun hg=>?_) | refine ax (fun hg=>?_) (fun hg=>?_) | refine ay (fun hg=>?_) (fun hg=>?_)) <;> try simp -implicitDefEqProofs only [hg,Bool.not_true,Bool.not_false]) | ((with_reducible apply And.intro);focus (first | trivial | omega | decide | (simp -implicitDefEqProofs only [maxLen];omega) | (simp [maxLen,af,ak,an,av,aj,au,aq] <;> omega))) | fail)
   all_goals (refine (hK _ _ (bS ?_)).2;clear hK;(simp_all [kO,lk]) <;>(try (intros;omega)))
end Go.aL

namespace Go.aL
open Go
theorem Pu:aU Go.Proofs.Tryz.prog 81 17 (fc Go.Proofs.Tryz.prog 81 17 [(.t 6)]) [(.t 6)]:=bl (by kernel_rfl)
theorem Py:aU Go.Proofs.Tryz.prog 51 41 (fc Go.Proofs.Tryz.prog 51 41 [(.t 2)]) [(.t 2)]:=bl (by kernel_rfl)
theorem Px:aU Go.Proofs.Tryz.prog 23 20 (fc Go.Proofs.Tryz.prog 23 20 [(.t 2)]) [(.t 2)]:=bl (by kernel_rfl)
theorem Pw:aU Go.Proofs.Tryz.prog 25 16 (fc Go.Proofs.Tryz.prog 25 16 [(.t 4)]) [(.t 4)]:=bl (by kernel_rfl)
theorem Pv:aU Go.Proofs.Tryz.prog 8 29 (fc Go.Proofs.Tryz.prog 8 29 [(.t 2)]) [(.t 2)]:=bl (by kernel_rfl)
def pR (l:List Nd) (a:Int) (n:Nat):Bool:=(bt l n).any fun (j:Nat)=>decide ((j:Int)=a)
theorem JY {l:List Nd} {a:Int} {n i:Nat} (h:i<(bt l n).length) (hp:(((bt l n)[i]'h:Nat):Int)=a):pR l a n=true:=by
 unfold pR;rw [List.any_eq_true];exact ⟨_,List.getElem_mem h,by simpa using hp⟩
theorem JZ {l:List Nd} {a:Int} {n:Nat} (hn:∀ j,(h:j<(bt l n).length)→(((bt l n)[j]'h:Nat):Int)≠a):pR l a n=false:=by
 unfold pR;rw [List.any_eq_false]
 intro x hx
 obtain ⟨j,hj,rfl⟩:=List.getElem_of_mem hx
 simpa using hn j hj
theorem UJ (l:List Nd) (a:Int) (n:Nat) (hw:WF l (n+1)) (hn:n<l.length) (hb:l.length≤8589934592) :
 aK Go.Proofs.Tryz.prog 81 [.rv (.sl 49 (br l)),.rv (.int .i64 a),.rv (.int .i64 n)] [] [] (.rv (.bool (pR l a n))):=by
 refine bu Pu [.rv (.sl 49 (br l)),.rv (.int .i64 a),.rv (.int .i64 n)] _ (by simp) (by simp [aP,aY,bq,aW,bk,aC.sv,Ln.sv,Nd.sv]) (fun K hK=>?_)
 have hlen:=an l
 conv in fc _ _ _ _=>reduce
 simp -implicitDefEqProofs only [go_sem,Int.reduceNegSucc]
 refine fH (ι:=Nat) (fun i=>[(2,.rv (.int .i64 (kF (bt l n) i))),(0,.rv (.sl 49 (br l))),(1,.rv (.int .i64 a))]) (fun _=>[]) (fun i=>i≤(bt l n).length∧∀ j,(h:j<(bt l n).length)→j<i→(((bt l n)[j]'h:Nat):Int)≠a) (fun i=>(bt l n).length - i) 0 (by simp) (by rw [uO];exact bg (by simp [lk])) (fun i hi K' hN hX hR=>?_)
 obtain ⟨hi1,hi2⟩:=hi
 have gd:=uq (l:=l) n
 simp -implicitDefEqProofs only [go_sem,Int.reduceNegSucc]
 refine ai (fun hg=>?_) (fun hg=>?_)
 ·have fG:i<(bt l n).length:=qz.1 (by simpa using hg)
  have iR:=uN fG
  have hlt:(bt l n)[i]<n+1:=zw (by omega) fG
  have hx:=iM (l:=l) (i:=(bt l n)[i]) (by omega)
  have hpar:=lU (l:=l) (n:=(bt l n)[i]) (by omega)
  have ov:=zn hw n (by omega) i fG
  repeat' (first | (simp -implicitDefEqProofs only [go_sem,Int.reduceNegSucc,hlen,ak,kJ,iR,hx,hpar,ov]) | (with_reducible refine aA ?_) | ((first | refine ai (fun hg=>?_) (fun hg=>?_) | refine ax (fun hg=>?_) (fun hg=>?_) | refine ay (fun hg=>?_) (fun hg=>?_)) <;> try simp -implicitDefEqProofs only [hg,Bool.not_true,Bool.not_false]) | ((with_reducible apply And.intro);focus (first | trivial | omega | decide | (simp -implicitDefEqProofs only [maxLen];omega) | (simp [maxLen,af,ak,an,av,aj,au,aq] <;> omega))) | fail)
  ·exact hR _ _ (hK _ _ (bS (by rw [JY fG (by simpa using hg)];rfl))).2
  ·refine hN (i+1) _ _ ⟨by omega,fun j hj hji=>?_⟩ (by omega) (bg (by simp [lk]))
   rcases Nat.lt_or_ge j i with h | h
   ·exact hi2 j hj h
   ·obtain rfl:j=i:=by omega
    simpa using hg
 ·have fG:¬ i<(bt l n).length:=fun h=>by have:=qz.2 h;simp at hg;omega
  simp -implicitDefEqProofs only [go_sem,Int.reduceNegSucc]
  refine hX _ _ _ ?_
  repeat' (first | (simp -implicitDefEqProofs only [go_sem,Int.reduceNegSucc]) | (with_reducible refine aA ?_) | ((first | refine ai (fun hg=>?_) (fun hg=>?_) | refine ax (fun hg=>?_) (fun hg=>?_) | refine ay (fun hg=>?_) (fun hg=>?_)) <;> try simp -implicitDefEqProofs only [hg,Bool.not_true,Bool.not_false]) | ((with_reducible apply And.intro);focus (first | trivial | omega | decide | (simp -implicitDefEqProofs only [maxLen];omega) | (simp [maxLen,af,ak,an,av,aj,au,aq] <;> omega))) | fail)
  exact (hK _ _ (bS (by rw [JZ fun j hj=>hi2 j hj (by omega)];rfl))).2
theorem Sk {l:List Nd} {k:Nat} (hk:0<k):jA l k=(!(decide (bz l k<0) || decide (bz l k≥k) || !pR l (bz l k) (k - 1))):=by
 have h1:jA l k=pR l (bz l k) (k - 1):=by
  have:decide (k=0)=false:=decide_eq_false (by omega)
  simp -implicitDefEqProofs only [jA,this,Bool.false_or,nq,pR,List.findIdx?_isSome]
 rw [h1]
 cases h:pR l (bz l k) (k - 1) with
 | false=>simp
 | true=>
   rw [← h1] at h
   have gA:¬ k=0:=by omega
   simp [jA,gA] at h
   obtain ⟨a,b,_⟩:=CT h
   simp;omega
theorem UN (l:List Nd) (hb:l.length≤8589934592):aK Go.Proofs.Tryz.prog 51 [.rv (.sl 49 (br l))] [] [] (.rv (.bool (kX l))):=by
 refine bu Py [.rv (.sl 49 (br l))] _ (by simp) (by simp [aP,aY,bq,aW,bk,aC.sv,Ln.sv,Nd.sv]) (fun K hK=>?_)
 have bad:∀ e h,lk e 2 = .rv (.bool false)→kX l=false→K .ret ⟨e,h⟩:=fun e h l2 hf=>(hK _ _ (bS (by rw [l2,hf]))).2
 have hlen:=an l
 conv in fc _ _ _ _=>reduce
 simp -implicitDefEqProofs only [hlen,go_sem,Int.reduceNegSucc]
 by_cases pF:l.length=0
 ·have e0:(((l.length:Nat):Int) == 0)=true:=by simp [pF]
  repeat' (first | (simp -implicitDefEqProofs only [go_sem,Int.reduceNegSucc,e0,hlen]) | (with_reducible refine aA ?_) | ((first | refine ai (fun hg=>?_) (fun hg=>?_) | refine ax (fun hg=>?_) (fun hg=>?_) | refine ay (fun hg=>?_) (fun hg=>?_)) <;> try simp -implicitDefEqProofs only [hg,Bool.not_true,Bool.not_false]) | ((with_reducible apply And.intro);focus (first | trivial | omega | decide | (simp -implicitDefEqProofs only [maxLen];omega) | (simp [maxLen,af,ak,an,av,aj,au,aq] <;> omega))) | fail)
  exact bad _ _ rfl (by simp [kX,pF])
 ·have e0:(((l.length:Nat):Int) == 0)=false:=by simp [pF]
  have hx0:=iM (l:=l) (i:=0) (by omega)
  have jY:=lU (l:=l) (n:=0) (by omega)
  repeat' (first | (simp -implicitDefEqProofs only [go_sem,Int.reduceNegSucc,e0,hlen,hx0,ak,kJ,jY]) | (with_reducible refine aA ?_) | ((first | refine ai (fun hg=>?_) (fun hg=>?_) | refine ax (fun hg=>?_) (fun hg=>?_) | refine ay (fun hg=>?_) (fun hg=>?_)) <;> try simp -implicitDefEqProofs only [hg,Bool.not_true,Bool.not_false]) | ((with_reducible apply And.intro);focus (first | trivial | omega | decide | (simp -implicitDefEqProofs only [maxLen];omega) | (simp [maxLen,af,ak,an,av,aj,au,aq] <;> omega))) | fail)
  ·exact bad _ _ rfl (by simp [kX];intro _ h;simp at hg;exact absurd h hg)
  ·have vG:bz l 0 = -1:=by simpa using hg
   refine fH (ι:=Nat) (fun k=>[(3,.rv (.int .i64 k)),(0,.rv (.sl 49 (br l)))]) (fun _=>[]) (fun k=>0<k∧k≤l.length∧(∀ j,j<k→jA l j=true)) (fun k=>l.length - k) 1 ⟨by omega,by omega,fun j hj=>by simp [jA];omega⟩ (bg (by simp [lk])) (fun k hk K' hN hX hR=>?_)
   obtain ⟨gA,fJ,hk2⟩:=hk
   have hw:=Je vG hk2
   simp -implicitDefEqProofs only [hlen,go_sem,Int.reduceNegSucc]
   refine ai (fun hg=>?_) (fun hg=>?_)
   ·have aE:k<l.length:=by simp at hg;omega
    have hx:=iM aE
    have hpk:=lU aE
    have wd:=uI gA (by omega)
    have wu:=fB (k:=k) (by omega)
    have yI:=Sk (l:=l) gA
    have uQ:jA l k=false→kX l=false:=fun h=>by
     rw [Bool.eq_false_iff]
     intro ht
     simp -implicitDefEqProofs only [kX,Bool.and_eq_true,List.all_eq_true,List.mem_range] at ht
     have:=ht.2 k aE
     rw [h] at this;cases this
    have nx:∀ e h,jA l k=true→fV 0 ⟨e,h⟩ ⟨[(3,.rv (.int .i64 (k+1:Nat))),(0,.rv (.sl 49 (br l)))],[]⟩→K' .normal ⟨e,h⟩:=fun e h h1 he=>hN (k+1) _ _ ⟨by omega,by omega,fun j hj=>by
     rcases Nat.lt_or_ge j k with h | h
     ·exact hk2 j h
     ·obtain rfl:j=k:=by omega
      exact h1⟩ (by omega) he
    have hwk:WF l (k - 1+1):=by rw [show k - 1+1=k by omega];exact hw
    have bf:=UJ l (bz l k) (k - 1) hwk (by omega) hb;repeat' (first | (simp -implicitDefEqProofs only [go_sem,Int.reduceNegSucc,hlen,hx,hpk,ak,kJ,wd,wu]) | (with_reducible refine aA ?_) | (with_reducible first | refine ag bf ?_ | refine ah bf ?_) | ((first | refine ai (fun hg=>?_) (fun hg=>?_) | refine ax (fun hg=>?_) (fun hg=>?_) | refine ay (fun hg=>?_) (fun hg=>?_)) <;> try simp -implicitDefEqProofs only [hg,Bool.not_true,Bool.not_false]) | ((with_reducible apply And.intro);focus (first | trivial | omega | decide | (simp -implicitDefEqProofs only [maxLen];omega) | (simp [maxLen,af,ak,an,av,aj,au,aq] <;> omega))) | fail)
    all_goals first
     | (refine hR _ _ (bad _ _ rfl (uQ ?_));rw [yI];clear yI uQ nx hK hN hX hR bad;simp_all;done)
     | (refine nx _ _ ?_ (bg (by simp [lk]));rw [yI];clear yI uQ nx hK hN hX hR bad;(simp_all) <;> omega)
   ·have aE:k=l.length:=by simp at hg;omega
    subst aE
    simp -implicitDefEqProofs only [go_sem,Int.reduceNegSucc]
    refine hX _ _ _ ?_
    repeat' (first | (simp -implicitDefEqProofs only [go_sem,Int.reduceNegSucc]) | (with_reducible refine aA ?_) | ((first | refine ai (fun hg=>?_) (fun hg=>?_) | refine ax (fun hg=>?_) (fun hg=>?_) | refine ay (fun hg=>?_) (fun hg=>?_)) <;> try simp -implicitDefEqProofs only [hg,Bool.not_true,Bool.not_false]) | ((with_reducible apply And.intro);focus (first | trivial | omega | decide | (simp -implicitDefEqProofs only [maxLen];omega) | (simp [maxLen,af,ak,an,av,aj,au,aq] <;> omega))) | fail)
    refine (hK _ _ (bS ?_)).2
    have hs:kX l=true:=by
     simp -implicitDefEqProofs only [kX,Bool.and_eq_true,decide_eq_true_eq,List.all_eq_true,List.mem_range]
     exact ⟨⟨by omega,vG⟩,hk2⟩
    rw [hs];rfl
theorem UM (l:List Nd) (hb:l.length≤8589934592):aK Go.Proofs.Tryz.prog 23 [.rv (.sl 49 (br l))] [] [] (.rv (.bool (fT l))):=by
 refine bu Px [.rv (.sl 49 (br l))] _ (by simp) (by simp [aP,aY,bq,aW,bk,aC.sv,Ln.sv,Nd.sv]) (fun K hK=>?_)
 have bad:∀ e h,lk e 2 = .rv (.bool false)→fT l=false→K .ret ⟨e,h⟩:=fun e h l2 hf=>(hK _ _ (bS (by rw [l2,hf]))).2
 have hlen:=an l
 conv in fc _ _ _ _=>reduce
 simp -implicitDefEqProofs only [go_sem,Int.reduceNegSucc]
 have y_2:=UN l hb;repeat' (first | (simp -implicitDefEqProofs only [go_sem,Int.reduceNegSucc]) | (with_reducible refine aA ?_) | (with_reducible first | refine ag y_2 ?_ | refine ah y_2 ?_) | ((first | refine ai (fun hg=>?_) (fun hg=>?_) | refine ax (fun hg=>?_) (fun hg=>?_) | refine ay (fun hg=>?_) (fun hg=>?_)) <;> try simp -implicitDefEqProofs only [hg,Bool.not_true,Bool.not_false]) | ((with_reducible apply And.intro);focus (first | trivial | omega | decide | (simp -implicitDefEqProofs only [maxLen];omega) | (simp [maxLen,af,ak,an,av,aj,au,aq] <;> omega))) | fail)
 ·exact bad _ _ rfl (by simp at hg;simp [fT,hg])
 ·have hs:kX l=true:=by simpa using hg
  simp -implicitDefEqProofs only [hlen,go_sem,Int.reduceNegSucc]
  refine fH (ι:=Nat) (fun k=>[(9,.rv (.int .i64 k)),(8,.rv (.int .i64 l.length)),(0,.rv (.sl 49 (br l)))]) (fun _=>[]) (fun k=>k≤l.length∧((l.drop k).all fun x=>jg x.s)=l.all fun x=>jg x.s) (fun k=>l.length - k) 0 (by simp) (bg (by simp [lk])) (fun k hk K' hN hX hR=>?_)
  obtain ⟨fJ,ga⟩:=hk
  simp -implicitDefEqProofs only [go_sem,Int.reduceNegSucc]
  refine ai (fun hg=>?_) (fun hg=>?_)
  ·have aE:k<l.length:=by simp at hg;omega
   have hx:=iM aE
   have wu:=fB (k:=k) (by omega)
   have bB:=UH (l[k]'aE).s;repeat' (first | (simp -implicitDefEqProofs only [go_sem,Int.reduceNegSucc,hlen,hx,ak,kJ,wo,wu]) | (with_reducible refine aA ?_) | (with_reducible first | refine ag bB ?_ | refine ah bB ?_) | ((first | refine ai (fun hg=>?_) (fun hg=>?_) | refine ax (fun hg=>?_) (fun hg=>?_) | refine ay (fun hg=>?_) (fun hg=>?_)) <;> try simp -implicitDefEqProofs only [hg,Bool.not_true,Bool.not_false]) | ((with_reducible apply And.intro);focus (first | trivial | omega | decide | (simp -implicitDefEqProofs only [maxLen];omega) | (simp [maxLen,af,ak,an,av,aj,au,aq] <;> omega))) | fail)
   ·refine hR _ _ (bad _ _ rfl ?_)
    have:(l.all fun x=>jg x.s)=false:=oU aE ga (by simpa using hg)
    simp -implicitDefEqProofs only [fT,this,Bool.and_false]
   ·exact hN (k+1) _ _ ⟨by omega,oV aE ga (by simpa using hg)⟩ (by omega) (bg (by simp [lk]))
  ·have aE:k=l.length:=by simp at hg;omega
   subst aE
   have hall:=oT (Nat.le_refl _) ga
   simp -implicitDefEqProofs only [go_sem,Int.reduceNegSucc]
   refine hX _ _ _ ?_
   repeat' (first | (simp -implicitDefEqProofs only [go_sem,Int.reduceNegSucc]) | (with_reducible refine aA ?_) | ((first | refine ai (fun hg=>?_) (fun hg=>?_) | refine ax (fun hg=>?_) (fun hg=>?_) | refine ay (fun hg=>?_) (fun hg=>?_)) <;> try simp -implicitDefEqProofs only [hg,Bool.not_true,Bool.not_false]) | ((with_reducible apply And.intro);focus (first | trivial | omega | decide | (simp -implicitDefEqProofs only [maxLen];omega) | (simp [maxLen,af,ak,an,av,aj,au,aq] <;> omega))) | fail)
   exact (hK _ _ (bS (by rw [fT,hs,hall];rfl))).2
theorem UL (l:List Nd) (n:Nat) (hw:WF l (n+1)) (hn:n<l.length) (hb:l.length≤8589934592) :
 aK Go.Proofs.Tryz.prog 25 [.rv (.sl 49 (br l)),.rv (.int .i64 n)] [] [] (.rv (.int .i64 (depth l n))):=by
 refine bu Pw [.rv (.sl 49 (br l)),.rv (.int .i64 n)] _ (by simp) (by simp [aP,aY,bq,aW,bk,aC.sv,Ln.sv,Nd.sv]) (fun K hK=>?_)
 have hlen:=an l
 conv in fc _ _ _ _=>reduce
 simp -implicitDefEqProofs only [go_sem,Int.reduceNegSucc]
 refine fH (ι:=Nat) (fun i=>[(1,.rv (.int .i64 (kF (bt l n) i))),(0,.rv (.sl 49 (br l))),(5,.rv (.int .i64 i))]) (fun _=>[]) (fun i=>i≤(bt l n).length) (fun i=>(bt l n).length - i) 0 (by simp) (by rw [uO];exact bg (by simp [lk])) (fun i hi1 K' hN hX hR=>?_)
 have gd:=uq (l:=l) n
 simp -implicitDefEqProofs only [go_sem,Int.reduceNegSucc]
 refine ai (fun hg=>?_) (fun hg=>?_)
 ·have fG:i<(bt l n).length:=qz.1 (by simpa using hg)
  have iR:=uN fG
  have hlt:(bt l n)[i]<n+1:=zw (by omega) fG
  have hx:=iM (l:=l) (i:=(bt l n)[i]) (by omega)
  have hpar:=lU (l:=l) (n:=(bt l n)[i]) (by omega)
  have ov:=zn hw n (by omega) i fG
  have wu:=fB (k:=i) (by omega)
  repeat' (first | (simp -implicitDefEqProofs only [go_sem,Int.reduceNegSucc,hlen,ak,kJ,iR,hx,hpar,ov,wu]) | (with_reducible refine aA ?_) | ((first | refine ai (fun hg=>?_) (fun hg=>?_) | refine ax (fun hg=>?_) (fun hg=>?_) | refine ay (fun hg=>?_) (fun hg=>?_)) <;> try simp -implicitDefEqProofs only [hg,Bool.not_true,Bool.not_false]) | ((with_reducible apply And.intro);focus (first | trivial | omega | decide | (simp -implicitDefEqProofs only [maxLen];omega) | (simp [maxLen,af,ak,an,av,aj,au,aq] <;> omega))) | fail)
  exact hN (i+1) _ _ (by omega) (by omega) (bg (by simp [lk]))
 ·have fG:¬ i<(bt l n).length:=fun h=>by have:=qz.2 h;simp at hg;omega
  have:i=(bt l n).length:=by omega
  subst this
  simp -implicitDefEqProofs only [go_sem,Int.reduceNegSucc]
  refine hX _ _ _ ?_
  repeat' (first | (simp -implicitDefEqProofs only [go_sem,Int.reduceNegSucc]) | (with_reducible refine aA ?_) | ((first | refine ai (fun hg=>?_) (fun hg=>?_) | refine ax (fun hg=>?_) (fun hg=>?_) | refine ay (fun hg=>?_) (fun hg=>?_)) <;> try simp -implicitDefEqProofs only [hg,Bool.not_true,Bool.not_false]) | ((with_reducible apply And.intro);focus (first | trivial | omega | decide | (simp -implicitDefEqProofs only [maxLen];omega) | (simp [maxLen,af,ak,an,av,aj,au,aq] <;> omega))) | fail)
  exact (hK _ _ (bS rfl)).2
theorem UK (l:List Nd) (hb:l.length≤8589934592):aK Go.Proofs.Tryz.prog 8 [.rv (.sl 49 (br l))] [] [] (.rv (.int .i64 (kO l))):=by
 refine bu Pv [.rv (.sl 49 (br l))] _ (by simp) (by simp [aP,aY,bq,aW,bk,aC.sv,Ln.sv,Nd.sv]) (fun K hK=>?_)
 have hlen:=an l
 conv in fc _ _ _ _=>reduce
 simp -implicitDefEqProofs only [go_sem,Int.reduceNegSucc]
 have bG:=UM l hb;repeat' (first | (simp -implicitDefEqProofs only [go_sem,Int.reduceNegSucc]) | (with_reducible refine aA ?_) | (with_reducible first | refine ag bG ?_ | refine ah bG ?_) | ((first | refine ai (fun hg=>?_) (fun hg=>?_) | refine ax (fun hg=>?_) (fun hg=>?_) | refine ay (fun hg=>?_) (fun hg=>?_)) <;> try simp -implicitDefEqProofs only [hg,Bool.not_true,Bool.not_false]) | ((with_reducible apply And.intro);focus (first | trivial | omega | decide | (simp -implicitDefEqProofs only [maxLen];omega) | (simp [maxLen,af,ak,an,av,aj,au,aq] <;> omega))) | fail)
 ·exact (hK _ _ (bS (by simp at hg;simp [kO,hg,lk]))).2
 ·have ht:fT l=true:=by simpa using hg
  have hs:gF l:=wG.1 (by unfold fT at ht;simp -implicitDefEqProofs only [Bool.and_eq_true] at ht;exact ht.1)
  simp -implicitDefEqProofs only [hlen,go_sem,Int.reduceNegSucc]
  refine fH (ι:=Nat) (fun k=>[(9,.rv (.int .i64 k)),(8,.rv (.int .i64 l.length)),(0,.rv (.sl 49 (br l)))]) (fun _=>[]) (fun k=>k≤l.length∧∀ j,(h:j<l.length)→j<k→kY (l[j]'h).s=true∧depth l j≤256) (fun k=>l.length - k) 0 (by simp) (bg (by simp [lk])) (fun k hk K' hN hX hR=>?_)
  obtain ⟨fJ,ga⟩:=hk
  simp -implicitDefEqProofs only [go_sem,Int.reduceNegSucc]
  refine ai (fun hg=>?_) (fun hg=>?_)
  ·have aE:k<l.length:=by simp at hg;omega
   have hx:=iM aE
   have wu:=fB (k:=k) (by omega)
   have bad:∀ e h,lk e 2 = .rv (.int .i64 3)→(kY (l[k]'aE).s=false∨depth l k>256)→K' .ret ⟨e,h⟩:=fun e h l2 hf=>hR _ _ (hK _ _ (bS (by
    rw [l2];unfold kO
    rw [if_neg (by rw [ht];simp),if_pos]
    simp -implicitDefEqProofs only [Bool.or_eq_true,List.any_eq_true,List.mem_range,decide_eq_true_eq,Bool.not_eq_true']
    rcases hf with h | h
    ·exact .inr ⟨_,List.getElem_mem aE,h⟩
    ·exact .inl (.inr ⟨k,aE,h⟩)))).2
   have nx:∀ e h,kY (l[k]'aE).s=true→depth l k≤256→fV 0 ⟨e,h⟩ ⟨[(9,.rv (.int .i64 (k+1:Nat))),(8,.rv (.int .i64 l.length)),(0,.rv (.sl 49 (br l)))],[]⟩→K' .normal ⟨e,h⟩:=fun e h h1 h2 he=>hN (k+1) _ _ ⟨by omega,fun j hj hji=>by
    rcases Nat.lt_or_ge j k with h | h
    ·exact ga j hj h
    ·obtain rfl:j=k:=by omega
     exact ⟨h1,h2⟩⟩ (by omega) he
   have bI:=UI (l[k]'aE).s;have bK:=UL l k (hs.wf.mono (by omega)) aE hb;repeat' (first | (simp -implicitDefEqProofs only [go_sem,Int.reduceNegSucc,hlen,hx,ak,kJ,wo,wu]) | (with_reducible refine aA ?_) | (with_reducible first | refine ag bI ?_ | refine ah bI ?_) | (with_reducible first | refine ag bK ?_ | refine ah bK ?_) | ((first | refine ai (fun hg=>?_) (fun hg=>?_) | refine ax (fun hg=>?_) (fun hg=>?_) | refine ay (fun hg=>?_) (fun hg=>?_)) <;> try simp -implicitDefEqProofs only [hg,Bool.not_true,Bool.not_false]) | ((with_reducible apply And.intro);focus (first | trivial | omega | decide | (simp -implicitDefEqProofs only [maxLen];omega) | (simp [maxLen,af,ak,an,av,aj,au,aq] <;> omega))) | fail)
   all_goals first
    | (refine bad _ _ rfl ?_;clear bad nx hK hN hX hR;(simp_all) <;> omega)
    | (refine nx _ _ ?_ ?_ (bg (by simp [lk])) <;> clear bad nx hK hN hX hR <;>(simp_all) <;> omega)
  ·have aE:k=l.length:=by simp at hg;omega
   subst aE
   simp -implicitDefEqProofs only [go_sem,Int.reduceNegSucc]
   refine hX _ _ _ ?_
   have hno:((List.range l.length).any (fun k=>decide (depth l k>256)) || l.any fun x=>!kY x.s)=false:=by
    rw [Bool.or_eq_false_iff,List.any_eq_false,List.any_eq_false]
    refine ⟨fun k hk=>?_,fun x hx=>?_⟩
    ·have:=(ga k (by simpa using hk) (by simpa using hk)).2;simp;omega
    ·obtain ⟨j,hj,rfl⟩:=List.getElem_of_mem hx
     simp [(ga j hj hj).1]
   have fin:kO l=if (l.length:Int)>65535 then 3 else 0:=by
    unfold kO
    rw [if_neg (by rw [ht];simp),Bool.or_assoc,hno]
    by_cases h:l.length>65535
    ·have:(l.length:Int)>65535:=by omega
     simp [h,this]
    ·have:¬ (l.length:Int)>65535:=by omega
     simp [h,this]
   repeat' (first | (simp -implicitDefEqProofs only [go_sem,Int.reduceNegSucc,hlen]) | (with_reducible refine aA ?_) | ((first | refine ai (fun hg=>?_) (fun hg=>?_) | refine ax (fun hg=>?_) (fun hg=>?_) | refine ay (fun hg=>?_) (fun hg=>?_)) <;> try simp -implicitDefEqProofs only [hg,Bool.not_true,Bool.not_false]) | ((with_reducible apply And.intro);focus (first | trivial | omega | decide | (simp -implicitDefEqProofs only [maxLen];omega) | (simp [maxLen,af,ak,an,av,aj,au,aq] <;> omega))) | fail)
   all_goals (refine (hK _ _ (bS ?_)).2;rw [fin];clear fin hK hN hX hR;(simp_all [lk]) <;> omega)
end Go.aL

namespace Go.aL
open Go
theorem FX:aU Go.Proofs.Tryz.prog 27 8 (fc Go.Proofs.Tryz.prog 27 8 [(.t 2)]) [(.t 2)]:=bl (by kernel_rfl)
theorem FY:aU Go.Proofs.Tryz.prog 120 8 (fc Go.Proofs.Tryz.prog 120 8 [(.t 2)]) [(.t 2)]:=bl (by kernel_rfl)
theorem HW (xs:List (List RV)) (m:Nat) (hb:xs.length≤8589934592):aK Go.Proofs.Tryz.prog 27 [.rv (.sl 49 xs)] [] [(m,.row 49 1 (aN xs))] (.row m 1 xs.length):=by
 have nz:∀ r:RV,(r = .mH∧xs=[])∨(r = .sl 49 xs∧0<xs.length)→aK Go.Proofs.Tryz.prog 27 [.rv r] [] [(m,.row 49 1 (aN xs))] (.row m 1 xs.length):=fun r hr=>by
  refine mU FX [] [] [] [.rv r] [.rv r] _ _ (by simp) (by simp [aP,lI,lu,aW,aY,nW,bk,nX,nV,hD,nP,bW]) rfl (by simp [bW]) (by simp [hD]) (fun K hK=>?_)
  conv in fc _ _ _ _=>reduce
  simp -implicitDefEqProofs only [go_sem,Int.reduceNegSucc]
  rcases hr with ⟨rfl,rfl⟩ | ⟨rfl,h0⟩
  ·repeat' (first | (simp -implicitDefEqProofs only [go_sem,Int.reduceNegSucc]) | (with_reducible refine aA ?_) | ((first | refine ai (fun hg=>?_) (fun hg=>?_) | refine ax (fun hg=>?_) (fun hg=>?_) | refine ay (fun hg=>?_) (fun hg=>?_)) <;> try simp -implicitDefEqProofs only [hg,Bool.not_true,Bool.not_false]) | ((with_reducible apply And.intro);focus (first | trivial | omega | decide | (simp -implicitDefEqProofs only [maxLen];omega) | (simp [maxLen,af,ak,an,av,aj,au,aq] <;> omega))) | fail)
   refine (hK _ _ _ _ [some m] (gM _ _) ?_).2
   simp [gV,bW,newL,gY,gN,aS,aQ,lk,aX,fW,gk,fZ,iz,iy,aB,gW,bn,aG,gw,gX,iG,aI,iF,aF,gB,fX]
   exact ⟨by simp [aN],fun i x y hx=>by simp at hx⟩
  ·repeat' (first | (simp -implicitDefEqProofs only [go_sem,Int.reduceNegSucc,Cw]) | (with_reducible refine aA ?_) | ((first | refine ai (fun hg=>?_) (fun hg=>?_) | refine ax (fun hg=>?_) (fun hg=>?_) | refine ay (fun hg=>?_) (fun hg=>?_)) <;> try simp -implicitDefEqProofs only [hg,Bool.not_true,Bool.not_false]) | ((with_reducible apply And.intro);focus (first | trivial | omega | decide | (simp -implicitDefEqProofs only [maxLen];omega) | (simp [maxLen,af,ak,an,av,aj,au,aq] <;> omega))) | fail)
   refine (hK _ _ _ _ [some m] (gM _ _) ?_).2
   simp [gV,bW,newL,gY,gN,aS,aQ,lk,aX,fW,gk,fZ,iz,iy,aB,gW,bn,aG,gw,gX,iG,aI,iF,aF,gB,fX]
 by_cases h0:xs=[]
 ·subst h0
  refine @Dw _ _ _ [] [] _ _ _ ?_ (nz _ (.inl ⟨rfl,rfl⟩))
  show aK _ _ [.rv .cw] _ _ _
  refine mU FX [] [] [] [.rv .cw] [.rv .cw] _ _ (by simp) (by simp [aP,lI,lu,aW,aY,nW,bk,nX,nV,hD,nP,bW]) rfl (by simp [bW]) (by simp [hD]) (fun K hK=>?_)
  conv in fc _ _ _ _=>reduce
  simp -implicitDefEqProofs only [go_sem,Int.reduceNegSucc]
  repeat' (first | (simp -implicitDefEqProofs only [go_sem,Int.reduceNegSucc]) | (with_reducible refine aA ?_) | ((first | refine ai (fun hg=>?_) (fun hg=>?_) | refine ax (fun hg=>?_) (fun hg=>?_) | refine ay (fun hg=>?_) (fun hg=>?_)) <;> try simp -implicitDefEqProofs only [hg,Bool.not_true,Bool.not_false]) | ((with_reducible apply And.intro);focus (first | trivial | omega | decide | (simp -implicitDefEqProofs only [maxLen];omega) | (simp [maxLen,af,ak,an,av,aj,au,aq] <;> omega))) | fail)
  refine (hK _ _ _ _ [some m] (qG 2 49 1 rfl) ?_).2
  simp [gV,bW,newL,gY,gN,aS,aQ,lk,aX,fW,gk,fZ,iz,iy,aB,gW,bn,aG,gw,gX,iG,aI,iF,aF,gB,fX]
  exact ⟨by simp [aN],fun i x y hx=>by simp at hx⟩
 ·exact nz _ (.inr ⟨rfl,List.length_pos_iff.2 h0⟩)
theorem TH (xs:List (List RV)) (m:Nat) (hb:xs.length≤8589934592):aK Go.Proofs.Tryz.prog 120 [.rv (.sl 1 xs)] [] [(m,.row 1 1 (aN xs))] (.row m 1 xs.length):=by
 have nz:∀ r:RV,(r = .mH∧xs=[])∨(r = .sl 1 xs∧0<xs.length)→aK Go.Proofs.Tryz.prog 120 [.rv r] [] [(m,.row 1 1 (aN xs))] (.row m 1 xs.length):=fun r hr=>by
  refine mU FY [] [] [] [.rv r] [.rv r] _ _ (by simp) (by simp [aP,lI,lu,aW,aY,nW,bk,nX,nV,hD,nP,bW]) rfl (by simp [bW]) (by simp [hD]) (fun K hK=>?_)
  conv in fc _ _ _ _=>reduce
  simp -implicitDefEqProofs only [go_sem,Int.reduceNegSucc]
  rcases hr with ⟨rfl,rfl⟩ | ⟨rfl,h0⟩
  ·repeat' (first | (simp -implicitDefEqProofs only [go_sem,Int.reduceNegSucc]) | (with_reducible refine aA ?_) | ((first | refine ai (fun hg=>?_) (fun hg=>?_) | refine ax (fun hg=>?_) (fun hg=>?_) | refine ay (fun hg=>?_) (fun hg=>?_)) <;> try simp -implicitDefEqProofs only [hg,Bool.not_true,Bool.not_false]) | ((with_reducible apply And.intro);focus (first | trivial | omega | decide | (simp -implicitDefEqProofs only [maxLen];omega) | (simp [maxLen,af,ak,an,av,aj,au,aq] <;> omega))) | fail)
   refine (hK _ _ _ _ [some m] (gM _ _) ?_).2
   simp [gV,bW,newL,gY,gN,aS,aQ,lk,aX,fW,gk,fZ,iz,iy,aB,gW,bn,aG,gw,gX,iG,aI,iF,aF,gB,fX]
   exact ⟨by simp [aN],fun i x y hx=>by simp at hx⟩
  ·repeat' (first | (simp -implicitDefEqProofs only [go_sem,Int.reduceNegSucc,Cw]) | (with_reducible refine aA ?_) | ((first | refine ai (fun hg=>?_) (fun hg=>?_) | refine ax (fun hg=>?_) (fun hg=>?_) | refine ay (fun hg=>?_) (fun hg=>?_)) <;> try simp -implicitDefEqProofs only [hg,Bool.not_true,Bool.not_false]) | ((with_reducible apply And.intro);focus (first | trivial | omega | decide | (simp -implicitDefEqProofs only [maxLen];omega) | (simp [maxLen,af,ak,an,av,aj,au,aq] <;> omega))) | fail)
   refine (hK _ _ _ _ [some m] (gM _ _) ?_).2
   simp [gV,bW,newL,gY,gN,aS,aQ,lk,aX,fW,gk,fZ,iz,iy,aB,gW,bn,aG,gw,gX,iG,aI,iF,aF,gB,fX]
 by_cases h0:xs=[]
 ·subst h0
  refine @Dw _ _ _ [] [] _ _ _ ?_ (nz _ (.inl ⟨rfl,rfl⟩))
  show aK _ _ [.rv .cw] _ _ _
  refine mU FY [] [] [] [.rv .cw] [.rv .cw] _ _ (by simp) (by simp [aP,lI,lu,aW,aY,nW,bk,nX,nV,hD,nP,bW]) rfl (by simp [bW]) (by simp [hD]) (fun K hK=>?_)
  conv in fc _ _ _ _=>reduce
  simp -implicitDefEqProofs only [go_sem,Int.reduceNegSucc]
  repeat' (first | (simp -implicitDefEqProofs only [go_sem,Int.reduceNegSucc]) | (with_reducible refine aA ?_) | ((first | refine ai (fun hg=>?_) (fun hg=>?_) | refine ax (fun hg=>?_) (fun hg=>?_) | refine ay (fun hg=>?_) (fun hg=>?_)) <;> try simp -implicitDefEqProofs only [hg,Bool.not_true,Bool.not_false]) | ((with_reducible apply And.intro);focus (first | trivial | omega | decide | (simp -implicitDefEqProofs only [maxLen];omega) | (simp [maxLen,af,ak,an,av,aj,au,aq] <;> omega))) | fail)
  refine (hK _ _ _ _ [some m] (qG 2 1 1 rfl) ?_).2
  simp [gV,bW,newL,gY,gN,aS,aQ,lk,aX,fW,gk,fZ,iz,iy,aB,gW,bn,aG,gw,gX,iG,aI,iF,aF,gB,fX]
  exact ⟨by simp [aN],fun i x y hx=>by simp at hx⟩
 ·exact nz _ (.inr ⟨rfl,List.length_pos_iff.2 h0⟩)
end Go.aL

namespace Go.aL
open Go
theorem FW:aU Go.Proofs.Tryz.prog 9 157 (fc Go.Proofs.Tryz.prog 9 157 [(.t 2),(.t 3)]) [(.t 2),(.t 3)]:=bl (by kernel_rfl)
def bp (l:List Nat):List Int:=l.map fun (n:Nat)=>(n:Int)
def jv (bs:List Bool):List (List RV):=bs.map fun b=>[.bool b]
theorem xD (bs:List Bool):(jv bs).length=bs.length:=by simp [jv]
theorem tv {bs:List Bool} {i:Nat} (h:i<bs.length):(jv bs)[i]?.getD []=[.bool (bs.getD i false)]:=by simp [jv,h]
theorem uy {ys:List Bool} {k:Nat} {v:Bool}:(aN (jv ys)).set k [.rv (.bool v)]=aN (jv (ys.set k v)):=by simp [aN,jv,List.map_set]
theorem HQ {n:Nat}:List.replicate n [SV.rv (.bool false)]=aN (jv (List.replicate n false)):=by simp [aN,jv]
theorem Dt (l:List Bool):∀ x∈jv l,∀ r∈x,r.one=true:=by
 intro x hx r hr
 obtain ⟨n,_,rfl⟩:=List.mem_map.1 hx
 simp at hr;rw [hr];rfl
def fQ (l:List Nd) (k:Nat):List Bool:=(List.range l.length).map fun j=>if j<k then mD l j else false
theorem Gu (l:List Nd) (k:Nat):(fQ l k).length=l.length:=by simp [fQ]
theorem Gv (l:List Nd):fQ l 0=List.replicate l.length false:=by
 refine List.ext_getElem (by simp [fQ]) (fun i h1 h2=>?_)
 simp [fQ]
theorem za {l:List Nd} {k:Nat} (hk:k<l.length):(fQ l k).set k (mD l k)=fQ l (k+1):=by
 refine List.ext_getElem (by simp [fQ]) (fun i h1 h2=>?_)
 simp -implicitDefEqProofs only [List.getElem_set,fQ,List.getElem_map,List.getElem_range]
 by_cases h:k=i
 ·subst h;simp
 ·rw [if_neg h]
  by_cases hi:i<k
  ·rw [if_pos hi,if_pos (by omega)]
  ·rw [if_neg hi,if_neg (by omega)]
theorem Gt {l:List Nd} {k j:Nat} {b:Bool} (hj:j<k) (hl:j<l.length):((fQ l k).set k b).getD j false=mD l j:=by
 rw [List.getD_eq_getElem?_getD,List.getElem?_set_ne (by omega)]
 simp [fQ,hl,hj]
def iT (l:List Nd) (k:Nat):List (List SV):=(List.range l.length).map fun p=>[.row (p+6) (bE l k p).length (bE l k p).length]
def iJ (l:List Nd) (k:Nat):List (Option HB):=(List.range l.length).map fun p=>some (.row 1 (bE l k p).length (aN (aM (bp (bE l k p)))))
theorem vU (l:List Nd) (k:Nat):(iT l k).length=l.length:=by simp [iT]
theorem nF (l:List Nd) (k:Nat):(iJ l k).length=l.length:=by simp [iJ]
theorem FQ {l:List Nd} {k p:Nat} (hp:p<l.length):(iT l k)[p]?.getD []=[.row (p+6) (bE l k p).length (bE l k p).length]:=by simp [iT,hp]
theorem BN {l:List Nd} {k p:Nat} {C:List (Option HB)} (hp:p<l.length):aB (iJ l k++C) p=some (.row 1 (bE l k p).length (aN (aM (bp (bE l k p))))):=by
 unfold aB
 rw [List.getElem?_append_left (by rw [nF];exact hp)]
 simp [iJ,hp]
theorem BL {l:List Nd} {k:Nat} {x:Option HB} {C:List (Option HB)}:aB (iJ l k++x::C) l.length=x:=by
 unfold aB
 rw [List.getElem?_append_right (by rw [nF];exact Nat.le_refl _),nF]
 simp
theorem FM {l:List Nd} {k:Nat} {x y:Option HB} {C:List (Option HB)}:aB (iJ l k++x::y::C) (l.length+1)=y:=by
 unfold aB
 rw [List.getElem?_append_right (by rw [nF];omega),nF,show l.length+1 - l.length=1 by omega]
 simp
theorem FO {l:List Nd} {k p:Nat} {hb:Option HB} {x y:Option HB} {C:List (Option HB)}:aB ((iJ l k).set p hb++x::C) l.length=x:=by
 unfold aB
 rw [List.getElem?_append_right (by rw [List.length_set,nF];exact Nat.le_refl _),List.length_set,nF]
 simp
theorem BP {l:List Nd} {k:Nat} {x y:Option HB} {C:List (Option HB)}:(iJ l k++x::C).set l.length y=iJ l k++y::C:=by
 rw [List.set_append_right _ _ (by rw [nF];exact Nat.le_refl _),nF,Nat.sub_self];rfl
theorem OP {l:List Nd} {k p:Nat} {y:Option HB} {C:List (Option HB)} (hp:p<l.length):(iJ l k++C).set p y=(iJ l k).set p y++C:=by
 rw [List.set_append_left _ _ (by rw [nF];exact hp)]
theorem OR (l:List Nd):iJ l 0=iQ l.length 1:=by
 refine List.ext_getElem (by simp [iJ,iQ]) (fun i h1 h2=>?_)
 simp [iJ,iQ,ue,bp,aM,aN]
theorem FT (l:List Nd):iT l 0=iC 6 l.length l.length:=by
 refine List.ext_getElem (by simp [iT,iC]) (fun i h1 h2=>?_)
 simp [iT] at h1
 simp [iT,iC,ue,h1];omega
theorem ON {l:List Nd} {k p:Nat} (h0:0<k) (hp:bz l k=p) (hl:p<l.length) :
 (iJ l k).set p (some (.row 1 ((bE l k p).length+1) (aN (aM (bp (bE l k p)++[(k:Int)])))))=iJ l (k+1):=by
 refine List.ext_getElem (by simp [iJ]) (fun i h1 h2=>?_)
 simp -implicitDefEqProofs only [List.getElem_set,iJ,List.getElem_map,List.getElem_range,ud]
 by_cases h:p=i
 ·subst h;simp [h0,hp,bp]
 ·rw [if_neg h,if_neg (by rw [hp];omega)];simp
theorem OW {l:List Nd} {k p:Nat} (h0:0<k) (hp:bz l k=p) (hl:p<l.length) :
 (iT l k).set p [.row (p+6) ((bE l k p).length+1) ((bE l k p).length+1)]=iT l (k+1):=by
 refine List.ext_getElem (by simp [iT]) (fun i h1 h2=>?_)
 simp -implicitDefEqProofs only [List.getElem_set,iT,List.getElem_map,List.getElem_range,ud]
 by_cases h:p=i
 ·subst h;simp [h0,hp]
 ·rw [if_neg h,if_neg (by rw [hp];omega)];simp
theorem OL (l:List Nd):iJ l 1=iJ l 0:=by
 refine List.ext_getElem (by simp [iJ]) (fun i h1 h2=>?_)
 simp [iJ,bE,List.range_succ]
theorem OU (l:List Nd):iT l 1=iT l 0:=by
 refine List.ext_getElem (by simp [iT]) (fun i h1 h2=>?_)
 simp [iT,bE,List.range_succ]
def lP (l:List Nd):List (List RV):=(List.range l.length).map fun p=>[.sl 1 (aM (bp (ie l p)))]
def rZ (l:List Nd):List Int:=(List.range l.length).map fun n=>(hU l n:Int)
abbrev cv (l:List Nd):RV:=.rop [.sl 49 (br l),.sl 1 (lP l),.sl 1 (aM (rZ l)),.sl 1 (aM (cj l l.length)),.sl 1 (jv (fQ l l.length))]
def qS (l:List Nd) (k:Nat) (es ds:List Int) (bs:List Bool):List (Option HB):=some (.row 49 1 (aN (br l)))::some (.row 1 0 (iT l k))::some (.row 1 0 (aN (aM es)))::some (.row 1 0 (aN (aM ds)))::some (.row 1 0 (aN (jv bs)))::some (.var [.row 0 1 l.length,.row 1 0 l.length,.row 2 0 l.length,.row 3 0 l.length,.row 4 0 l.length])::iJ l k
theorem FK {l:List Nd} {k:Nat} {es ds:List Int} {bs:List Bool}:(qS l k es ds bs).length=l.length+6:=by simp [qS,nF]
theorem OJ {l:List Nd} {k:Nat} {es ds:List Int} {bs:List Bool}:lf (mP (l.length+6)) (qS l k es ds bs):=by
 refine ⟨iP,fun i x hx=>?_,iP,iP,iP,by simp [mP,mO,jx],lf.of fun j x hx=>?_⟩
 ·obtain ⟨hl,rfl⟩:=List.getElem?_eq_some_iff.1 hx
  simp [vU] at hl
  simp [iT,mO,jx,hl]
 ·obtain ⟨hl,rfl⟩:=List.getElem?_eq_some_iff.1 hx
  exact ⟨.row 1 (bE l k j).length (aN (aM (bp (bE l k j)))),by simp [iJ],iP⟩
theorem BJ {l:List Nd} {k:Nat} {es ds:List Int} {bs:List Bool} {env env':List (Nat×SV)} {C:List (Option HB)} (he:hJ (l.length+6) env env'):fV 0 ⟨env,qS l k es ds bs++C⟩ ⟨env',qS l k es ds bs⟩:=
 ny (Nat.zero_le _) (by rw [FK];exact OJ) (by rw [FK];exact he)
def gL (l:List Nd) (k:Nat):List Int:=(List.range l.length).map fun j=>if k≤j then (hU l j:Int) else 0
theorem DY (l:List Nd) (k:Nat):(gL l k).length=l.length:=by simp [gL]
theorem Ea (l:List Nd):gL l l.length=List.replicate l.length 0:=by
 refine List.ext_getElem (by simp [gL]) (fun i h1 h2=>?_)
 simp [gL] at h1
 simp [gL];omega
theorem Eb (l:List Nd):gL l 0=rZ l:=by simp [gL,rZ]
theorem DZ {l:List Nd} {k:Nat} (hk:0<k) (hl:k≤l.length):(gL l k).set (k - 1) (hU l (k - 1))=gL l (k - 1):=by
 refine List.ext_getElem (by simp [gL]) (fun i h1 h2=>?_)
 simp -implicitDefEqProofs only [List.getElem_set,gL,List.getElem_map,List.getElem_range]
 by_cases h:k - 1=i
 ·subst h;simp
 ·rw [if_neg h]
  by_cases hi:k≤i
  ·rw [if_pos hi,if_pos (by omega)]
  ·rw [if_neg hi,if_neg (by omega)]
theorem DX {l:List Nd} {k j:Nat} {v:Int} (hj:k≤j) (hk:0<k) (hl:j<l.length):((gL l k).set (k - 1) v).getD j 0=hU l j:=by
 rw [List.getD_eq_getElem?_getD,List.getElem?_set_ne (by omega)]
 simp [gL,hl,hj]
theorem oh {τ:Nat→Option Nat} {h:Hp} {j e az len:Nat} {xs:List (List RV)} (hj:h j=some (.row e az (aN xs))) (lO:τ j=none) (hl:len=xs.length) (h1:∀ x∈xs,∀ r∈x,r.one=true):Fz τ h (.row j az len) (.sl e xs):=by
 have:=og (τ:=τ) hj lO (len:=len) (by omega) h1
 rw [hl,List.take_length] at this
 rw [hl];exact this
theorem Rq (l:List Nd):Fz (fun _=>none) (aB (qS l l.length (rZ l) (cj l l.length) (fQ l l.length))) (.ptr 5 0) (cv l):=by
 refine .ptr 5 [.row 0 1 l.length,.row 1 0 l.length,.row 2 0 l.length,.row 3 0 l.length,.row 4 0 l.length] _ rfl rfl rfl (fun i r hr=>?_) (fun i x r hx hr=>?_)
 ·match i with
  | 0=>cases hr;rfl
  | 1=>cases hr;rfl
  | 2=>cases hr;rfl
  | 3=>cases hr;rfl
  | 4=>cases hr;rfl
  | i+5=>simp at hr
 ·match i with
  | 0=>cases hx;cases hr;exact oh rfl rfl (by simp [br]) (zg l)
  | 1=>
    cases hx;cases hr
    refine .row 1 1 0 l.length (iT l l.length) (lP l) rfl rfl (by simp [lP]) (by rw [vU];exact Nat.le_refl _) (fun i x r hx hr=>?_) (fun i r k q hr hq=>?_) (fun i x r k y q hx hr hy hq=>?_)
    ·obtain ⟨_,rfl⟩:=List.getElem?_eq_some_iff.1 hx
     obtain ⟨_,rfl⟩:=List.getElem?_eq_some_iff.1 hr
     simp [iT,lP]
    ·obtain ⟨_,rfl⟩:=List.getElem?_eq_some_iff.1 hr
     have:=List.mem_of_getElem? hq
     simp [lP] at this
     rw [this];rfl
    ·obtain ⟨hl,rfl⟩:=List.getElem?_eq_some_iff.1 hx
     obtain ⟨_,rfl⟩:=List.getElem?_eq_some_iff.1 hr
     rw [vU] at hl
     cases k with
     | succ k=>simp [iT] at hy
     | zero=>
       simp [iT] at hy
       simp [lP] at hq
       subst hy;subst hq
       refine oh (xs:=aM (bp (ie l i))) ?_ rfl (by simp [aM,bp,ie]) (kI _)
       have:=BN (k:=l.length) (C:=[]) hl
       rw [List.append_nil] at this
       exact this
  | 2=>cases hx;cases hr;exact oh rfl rfl (by simp [aM,rZ]) (kI _)
  | 3=>cases hx;cases hr;exact oh rfl rfl (by simp [aM,cj]) (kI _)
  | 4=>cases hx;cases hr;exact oh rfl rfl (by simp [jv,fQ]) (Dt _)
  | i+5=>simp at hx
theorem ug (x:Nd):(x.cells.map SV.rv)[0]?=some (.rv (.bool x.s.shown)):=rfl
theorem Uu (l:List Nd) (hb:l.length≤8589934592) (hc:kO l=0):aK Go.Proofs.Tryz.prog 9 [.rv (.sl 49 (br l))] [] [] (.aO [.rv (cv l),.rv (.int .i64 0)]):=by
 refine bu FW [.rv (.sl 49 (br l))] _ (by simp) (by simp [aP,aY,bq,aW,bk,aC.sv,Ln.sv,Nd.sv]) (fun K hK=>?_)
 have hlen:=an l
 have qJ:=Iz l hb
 rw [hc] at qJ
 have ht:fT l=true:=by
  unfold kO at hc
  cases h:fT l with
  | true=>rfl
  | false=>rw [h] at hc;simp at hc
 have hs:gF l:=wG.1 (by unfold fT at ht;simp -implicitDefEqProofs only [Bool.and_eq_true] at ht;exact ht.1)
 have rV:(((0:Int)) != 0)=false:=rfl
 conv in fc _ _ _ _=>reduce
 simp -implicitDefEqProofs only [go_sem,Int.reduceNegSucc]
 have hb2:(br l).length≤8589934592:=by rw [hlen];exact hb
 have bf:=qJ;have y_2:=HW (br l) 0 hb2;repeat' (first | (simp -implicitDefEqProofs only [go_sem,Int.reduceNegSucc,rV,hlen,zF,HQ]) | (with_reducible refine aA ?_) | (with_reducible first | refine ag bf ?_ | refine ah bf ?_) | (refine bQ y_2 ?_ ?_ ?_;(focus (simp [aT,aB] <;> fail));(focus (simp [aZ,aR] <;> fail))) | (refine bV y_2 ?_ ?_ ?_;(focus (simp [aT,aB] <;> fail));(focus (simp [aZ,aR] <;> fail))) | ((first | refine ai (fun hg=>?_) (fun hg=>?_) | refine ax (fun hg=>?_) (fun hg=>?_) | refine ay (fun hg=>?_) (fun hg=>?_)) <;> try simp -implicitDefEqProofs only [hg,Bool.not_true,Bool.not_false]) | ((with_reducible apply And.intro);focus (first | trivial | omega | decide | (simp -implicitDefEqProofs only [maxLen];omega) | (simp [maxLen,af,ak,an,av,aj,au,aq] <;> omega))) | fail)
 have NB:∀ n:Nat,iT l 0=iC 6 l.length l.length:=fun _=>FT l
 let ev:Nat→List (Nat×SV):=fun k=>[(33,.rv (.int .i64 k)),(32,.rv (.int .i64 l.length)),(31,.rv (.sl 49 (br l))),(5,.ptr 5 0),(0,.rv (.sl 49 (br l)))]
 refine fH (ι:=Nat) (fun k=>[(33,.rv (.int .i64 k)),(32,.rv (.int .i64 l.length)),(31,.rv (.sl 49 (br l))),(5,.ptr 5 0),(0,.rv (.sl 49 (br l)))]) (fun k=>some (.row 49 1 (aN (br l)))::some (.row 1 0 (iT l k))::some (.row 1 0 (aN (aM (List.replicate l.length 0))))::some (.row 1 0 (aN (aM (cj l k))))::some (.row 1 0 (aN (jv (fQ l k))))::some (.var [.row 0 1 l.length,.row 1 0 l.length,.row 2 0 l.length,.row 3 0 l.length,.row 4 0 l.length])::iJ l k) (fun k=>k≤l.length) (fun k=>l.length - k) 0 (by simp) ?_ (fun k hk K' hN hX hR=>?_)
 ·refine (bg (env':=[(33,.rv (.int .i64 0)),(32,.rv (.int .i64 l.length)),(31,.rv (.sl 49 (br l))),(5,.ptr 5 0),(0,.rv (.sl 49 (br l)))]) (by simp [lk])).trans ?_
  rw [FT,OR,Av,Gv]
  exact Ec (r:=1) (v:=0) (n:=l.length) (e:=1) rfl
 simp -implicitDefEqProofs only [go_sem,Int.reduceNegSucc]
 refine ai (fun hg=>?_) (fun hg=>?_)
 ·have aE:k<l.length:=by simp at hg;omega
  have hx:=iM aE
  have sM:=nF l k
  have hdl:=tH l k
  have lA:=aj (cj l k)
  have oZ:=kU (l:=cj l k) (i:=k) (by omega)
  have hml:=Gu l k
  have sG:=xD (fQ l k)
  have sF:=tv (bs:=fQ l k) (i:=k) (by omega)
  have hsh:=Cy aE
  have e1:(l.length=l.length+1)=False:=eq_false (by omega)
  have e2:(l.length=l.length+2)=False:=eq_false (by omega)
  have hds:=xY aE
  have sy:=Au aE
  have wu:=fB (k:=k) (by omega)
  by_cases gA:0<k
  ·have hgt:decide ((k:Int)>0)=true:=decide_eq_true (by omega)
   obtain ⟨p1,p2⟩:=hs.wf.2 k gA aE
   obtain ⟨p,hp⟩:∃ p:Nat,bz l k=p:=⟨(bz l k).toNat,by omega⟩
   have gd:p<l.length:=by omega
   have q0:(p=l.length)=False:=eq_false (by omega)
   have q1:(p=l.length+1)=False:=eq_false (by omega)
   have q2:(p=l.length+2)=False:=eq_false (by omega)
   have hpk:=lU aE
   have Nm:(cj l k).set k 1=(cj l k).set k 1:=rfl
   have sA:((cj l k).set k 1).length=l.length:=by simp [hdl]
   have vl:=aj ((cj l k).set k 1)
   have pe:=kU (l:=(cj l k).set k 1) (i:=p) (by omega)
   have sx:=kU (l:=(cj l k).set k 1) (i:=k) (by omega)
   rw [At (by omega) (by omega)] at pe
   have qK:=Aw hs.wf gA aE
   rw [hp,Int.toNat_natCast] at qK
   have wd:=fB (k:=depth l p) (by have:=uq (l:=l) p;unfold depth;omega)
   rw [← qK] at wd
   obtain ⟨b,sJ⟩:∃ b,pO l k=b:=⟨_,rfl⟩
   have hmp:=tv (bs:=(fQ l k).set k b) (i:=p) (by simp [hml];omega)
   have hmk:=tv (bs:=(fQ l k).set k b) (i:=k) (by simp [hml];omega)
   rw [Gt (by omega) (by omega)] at hmp
   have vv:((fQ l k).set k b).length=l.length:=by simp [hml]
   have vw:=xD ((fQ l k).set k b)
   have mY:((fQ l k).set k b).set k (b && mD l p)=fQ l (k+1):=by
    have:=Gr hs.wf gA aE
    rw [hp,Int.toNat_natCast,sJ] at this
    rw [List.set_set,← this,za aE]
   have ou:=vU l k
   have oq:=FQ (k:=k) gd
   have mX:=fun C=>BN (k:=k) (C:=C) gd
   have hkn:=ON gA hp gd
   have htn:=OW gA hp gd
   have hsp:=fun (y:Option HB) C=>OP (k:=k) (y:=y) (C:=C) gd
   have gI:(bp (bE l k p)).length=(bE l k p).length:=by simp [bp]
   have oo:=aj (bp (bE l k p))
   have jc:(aM (bp (bE l k p))).take (bE l k p).length=aM (bp (bE l k p)):=List.take_of_length_le (by rw [oo,gI];exact Nat.le_refl _)
   have hkk:=sL (l:=l) (k:=k) (p:=p)
   cases b
   all_goals simp -implicitDefEqProofs only [Bool.false_and,Bool.true_and] at mY
   ·repeat' (first | (simp -implicitDefEqProofs only [go_sem,Int.reduceNegSucc,hlen,hx,sM,ak,ql,Nat.add_assoc,BL,List.append_assoc,hdl,lA,oZ,hml,sG,sF,nh,uy,ug,hsh,sJ,e1,e2,BP,hgt,hpk,hp,uh,ou,oq,mX,q0,q1,q2,hsp,FM,FO,gI,oo,jc,mF,hkn,htn,sA,vl,pe,sx,wd,sy,wu,hmp,hmk,vv,vw]) | (with_reducible refine aA ?_) | ((first | refine ai (fun hg=>?_) (fun hg=>?_) | refine ax (fun hg=>?_) (fun hg=>?_) | refine ay (fun hg=>?_) (fun hg=>?_)) <;> try simp -implicitDefEqProofs only [hg,Bool.not_true,Bool.not_false]) | ((with_reducible apply And.intro);focus (first | trivial | omega | decide | (simp -implicitDefEqProofs only [maxLen];omega) | (simp [maxLen,af,ak,an,av,aj,au,aq] <;> omega) | (simp (decide:=true) [oW,qE,mQ,pW,Nat.testBit,q0,q1,q2];done))) | fail)
    rw [mY]
    exact hN (k+1) _ _ (by omega) (by omega) (BJ (l:=l) (k:=k+1) (by simp [hJ,lk,jE,lJ]))
   ·repeat' (first | (simp -implicitDefEqProofs only [go_sem,Int.reduceNegSucc,hlen,hx,sM,ak,ql,Nat.add_assoc,BL,List.append_assoc,hdl,lA,oZ,hml,sG,sF,nh,uy,ug,hsh,sJ,e1,e2,BP,hgt,hpk,hp,uh,ou,oq,mX,q0,q1,q2,hsp,FM,FO,gI,oo,jc,mF,hkn,htn,sA,vl,pe,sx,wd,sy,wu,hmp,hmk,vv,vw]) | (with_reducible refine aA ?_) | ((first | refine ai (fun hg=>?_) (fun hg=>?_) | refine ax (fun hg=>?_) (fun hg=>?_) | refine ay (fun hg=>?_) (fun hg=>?_)) <;> try simp -implicitDefEqProofs only [hg,Bool.not_true,Bool.not_false]) | ((with_reducible apply And.intro);focus (first | trivial | omega | decide | (simp -implicitDefEqProofs only [maxLen];omega) | (simp [maxLen,af,ak,an,av,aj,au,aq] <;> omega) | (simp (decide:=true) [oW,qE,mQ,pW,Nat.testBit,q0,q1,q2];done))) | fail)
    rw [mY]
    exact hN (k+1) _ _ (by omega) (by omega) (BJ (l:=l) (k:=k+1) (by simp [hJ,lk,jE,lJ]))
  ·obtain rfl:k=0:=by omega
   have hgt:decide (((0:Nat):Int)>0)=false:=rfl
   rw [Ax] at hds
   have mY:=za aE
   rw [Gs] at mY
   have Bb:(cj l 0).set 0 1=cj l (0+1):=hds
   repeat' (first | (simp -implicitDefEqProofs only [go_sem,Int.reduceNegSucc,hlen,hx,sM,ak,ql,Nat.add_assoc,BL,List.append_assoc,hdl,lA,oZ,hml,sG,sF,nh,uy,ug,hsh,e1,e2,BP,hgt,wu,mY,Bb]) | (with_reducible refine aA ?_) | ((first | refine ai (fun hg=>?_) (fun hg=>?_) | refine ax (fun hg=>?_) (fun hg=>?_) | refine ay (fun hg=>?_) (fun hg=>?_)) <;> try simp -implicitDefEqProofs only [hg,Bool.not_true,Bool.not_false]) | ((with_reducible apply And.intro);focus (first | trivial | omega | decide | (simp -implicitDefEqProofs only [maxLen];omega) | (simp [maxLen,af,ak,an,av,aj,au,aq] <;> omega))) | fail)
   refine hN 1 _ _ (by omega) (by omega) ?_
   rw [OU,OL]
   exact BJ (l:=l) (k:=0) (es:=List.replicate l.length 0) (ds:=cj l (0+1)) (bs:=fQ l (0+1)) (C:=[some (.var ((l[0]'aE).cells.map .rv))]) (by simp [hJ,lk,jE,lJ])
 ·have aE:k=l.length:=by simp at hg;omega
  subst aE
  simp -implicitDefEqProofs only [go_sem,Int.reduceNegSucc]
  refine hX _ _ _ ?_
  have wl:=uI hs.pos (by omega)
  repeat' (first | (simp -implicitDefEqProofs only [go_sem,Int.reduceNegSucc,hlen,wl]) | (with_reducible refine aA ?_) | ((first | refine ai (fun hg=>?_) (fun hg=>?_) | refine ax (fun hg=>?_) (fun hg=>?_) | refine ay (fun hg=>?_) (fun hg=>?_)) <;> try simp -implicitDefEqProofs only [hg,Bool.not_true,Bool.not_false]) | ((with_reducible apply And.intro);focus (first | trivial | omega | decide | (simp -implicitDefEqProofs only [maxLen];omega) | (simp [maxLen,af,ak,an,av,aj,au,aq] <;> omega))) | fail)
  clear hN hX hR
  refine fH (ι:=Nat) (fun k=>[(8,.rv (.int .i64 ((k:Int) - 1))),(5,.ptr 5 0)]) (fun k=>qS l l.length (gL l k) (cj l l.length) (fQ l l.length)) (fun k=>k≤l.length) (fun k=>k) l.length (Nat.le_refl _) (by rw [Ea];exact bg (by simp [lk];have:=hs.pos;omega)) (fun k hk K' hN hX hR=>?_)
  simp -implicitDefEqProofs only [qS,go_sem,Int.reduceNegSucc]
  refine ai (fun hg=>?_) (fun hg=>?_)
  ·have gA:0<k:=by simp at hg;omega
   obtain ⟨j,rfl⟩:∃ j,k=j+1:=⟨k - 1,by omega⟩
   have ej:(((j+1:Nat):Int) - 1)=(j:Int):=by omega
   have wj:=fB (k:=j) (by omega)
   have hjl:j<l.length:=by omega
   have hel:=DY l (j+1)
   have vn:=aj (gL l (j+1))
   have sB:=kU (l:=gL l (j+1)) (i:=j) (by omega)
   have ou:=vU l l.length
   have oq:=FQ (k:=l.length) hjl
   have mX:=BN (k:=l.length) (C:=[]) hjl
   simp -implicitDefEqProofs only [List.append_nil] at mX
   have gI:(bp (bE l l.length j)).length=(bE l l.length j).length:=by simp [bp]
   have oo:=aj (bp (bE l l.length j))
   have hkk:=sL (l:=l) (k:=l.length) (p:=j)
   have nE:((gL l (j+1)).set j ((j+1:Nat):Int)).length=l.length:=by simp [hel]
   have Bx:=aj ((gL l (j+1)).set j ((j+1:Nat):Int))
   have jb:=DZ (l:=l) (k:=j+1) (by omega) (by omega)
   simp -implicitDefEqProofs only [Nat.add_sub_cancel] at jb
   have wd:IntKind.i64.wrap ((j:Int) - 1)=((j:Int) - 1):=wrap_i64 (by omega) (by omega)
   by_cases fJ:bE l l.length j=[]
   ·have hm0:decide ((((bE l l.length j).length:Nat):Int)>0)=false:=by rw [fJ];rfl
    have he:=AD fJ
    rw [he] at jb
    repeat' (first | (simp -implicitDefEqProofs only [go_sem,Int.reduceNegSucc,hel,vn,sB,ou,oq,mX,ej,wj,hm0,nh,jb,wd]) | (with_reducible refine aA ?_) | ((first | refine ai (fun hg=>?_) (fun hg=>?_) | refine ax (fun hg=>?_) (fun hg=>?_) | refine ay (fun hg=>?_) (fun hg=>?_)) <;> try simp -implicitDefEqProofs only [hg,Bool.not_true,Bool.not_false]) | ((with_reducible apply And.intro);focus (first | trivial | omega | decide | (simp -implicitDefEqProofs only [maxLen];omega) | (simp [maxLen,af,ak,an,av,aj,au,aq] <;> omega))) | fail)
    refine hN j _ _ (by omega) (by omega) (bg (by simp [lk]))
   ·obtain ⟨c,hc⟩:∃ c,(bE l l.length j).getLast?=some c:=by
     cases h:(bE l l.length j).getLast? with
     | none=>exact absurd (List.getLast?_eq_none_iff.1 h) fJ
     | some c=>exact ⟨c,rfl⟩
    have hpos:0<(bE l l.length j).length:=List.length_pos_iff.2 fJ
    have hm0:decide ((((bE l l.length j).length:Nat):Int)>0)=true:=decide_eq_true (by omega)
    have mW:c∈ie l j:=List.mem_of_getLast? hc
    obtain ⟨c1,c2,c3⟩:=qV.1 mW
    have AW:j<c:=by have:=(hs.wf.2 c c1 c2).2;omega
    have he:=AB hc AW c2
    rw [he] at jb
    have wm:=uI hpos (by omega)
    have AV:(bp (bE l l.length j)).getD ((bE l l.length j).length - 1) 0=(c:Int):=by
     rw [List.getLast?_eq_getElem?] at hc
     simp [bp,List.getD_eq_getElem?_getD,hc]
    have jI:=kU (l:=bp (bE l l.length j)) (i:=(bE l l.length j).length - 1) (by omega)
    rw [AV] at jI
    have vm:=kU (l:=(gL l (j+1)).set j ((j+1:Nat):Int)) (i:=c) (by omega)
    have qd:=DX (l:=l) (k:=j+1) (j:=c) (v:=((j+1:Nat):Int)) (by omega) (by omega) c2
    simp -implicitDefEqProofs only [Nat.add_sub_cancel] at qd
    rw [qd] at vm
    have Be:=kU (l:=(gL l (j+1)).set j ((j+1:Nat):Int)) (i:=j) (by omega)
    have vH:((gL l (j+1)).set j ((j+1:Nat):Int)).set j (hU l c)=gL l j:=by rw [List.set_set,jb]
    repeat' (first | (simp -implicitDefEqProofs only [go_sem,Int.reduceNegSucc,hel,vn,sB,ou,oq,mX,ej,wj,hm0,nh,wd,wm,jI,vm,Be,vH,nE,Bx,gI,oo]) | (with_reducible refine aA ?_) | ((first | refine ai (fun hg=>?_) (fun hg=>?_) | refine ax (fun hg=>?_) (fun hg=>?_) | refine ay (fun hg=>?_) (fun hg=>?_)) <;> try simp -implicitDefEqProofs only [hg,Bool.not_true,Bool.not_false]) | ((with_reducible apply And.intro);focus (first | trivial | omega | decide | (simp -implicitDefEqProofs only [maxLen];omega) | (simp [maxLen,af,ak,an,av,aj,au,aq] <;> omega))) | fail)
    refine hN j _ _ (by omega) (by omega) (bg (by simp [lk]))
  ·obtain rfl:k=0:=by simp at hg;omega
   simp -implicitDefEqProofs only [go_sem,Int.reduceNegSucc]
   refine hX _ _ _ ?_
   repeat' (first | (simp -implicitDefEqProofs only [go_sem,Int.reduceNegSucc]) | (with_reducible refine aA ?_) | ((first | refine ai (fun hg=>?_) (fun hg=>?_) | refine ax (fun hg=>?_) (fun hg=>?_) | refine ay (fun hg=>?_) (fun hg=>?_)) <;> try simp -implicitDefEqProofs only [hg,Bool.not_true,Bool.not_false]) | ((with_reducible apply And.intro);focus (first | trivial | omega | decide | (simp -implicitDefEqProofs only [maxLen];omega) | (simp [maxLen,af,ak,an,av,aj,au,aq] <;> omega))) | fail)
   refine (hK _ _ ?_).2
   rw [Eb]
   exact ⟨trivial,bn.2 ⟨.fz _ _ (Rq l),aG.2 rfl,trivial⟩⟩
end Go.aL

namespace Go.aL
open Go
theorem Qo:aU Go.Proofs.Tryz.prog 88 10 (fc Go.Proofs.Tryz.prog 88 10 [(.t 2)]) [(.t 2)]:=bl (by kernel_rfl)
theorem Qt:aU Go.Proofs.Tryz.prog 59 13 (fc Go.Proofs.Tryz.prog 59 13 [(.t 4)]) [(.t 4)]:=bl (by kernel_rfl)
theorem Qs:aU Go.Proofs.Tryz.prog 60 18 (fc Go.Proofs.Tryz.prog 60 18 [(.c 4 48 true)]) [(.c 4 48 true)]:=bl (by kernel_rfl)
theorem Qr:aU Go.Proofs.Tryz.prog 50 17 (fc Go.Proofs.Tryz.prog 50 17 [(.t 4)]) [(.t 4)]:=bl (by kernel_rfl)
theorem Qp:aU Go.Proofs.Tryz.prog 28 17 (fc Go.Proofs.Tryz.prog 28 17 [(.t 4)]) [(.t 4)]:=bl (by kernel_rfl)
theorem Qq:aU Go.Proofs.Tryz.prog 48 36 (fc Go.Proofs.Tryz.prog 48 36 [(.t 4)]) [(.t 4)]:=bl (by kernel_rfl)
def ia (l:List Nd) (n:Int):Bool:=decide (n≥0) && decide (n<l.length)
theorem qi {l:List Nd} {n:Int} (h:ia l n=true):∃ k:Nat,n=k∧k<l.length:=by
 simp [ia] at h;exact ⟨n.toNat,by omega,by omega⟩
theorem sK {l:List Nd} {k:Nat} (h:k<l.length):ia l k=true:=by simp [ia,h]
def bN (l:List Nd) (n:Int):aC:=if ia l n=true then (l.getD n.toNat default).s else default
def lT (l:List Nd) (n:Int):Int:=if ia l n=true then bz l n.toNat else -1
def AA (l:List Nd) (n:Int):Int:=if ia l n=true then hU l n.toNat else 0
def VQ (l:List Nd) (n:Int):Int:=if ia l n=true then depth l n.toNat else 0
def iE (l:List Nd) (n:Int):Bool:=ia l n && mD l n.toNat
def jO (l:List Nd) (n:Int):Bool:=iE l n && decide (n>0) && (decide ((bN l n).position=2) || decide ((bN l n).position=3))
def VO (l:List Nd) (a n:Int):Bool:=ia l a && ia l n && decide (n≥a) && decide (n<AA l a)
theorem Rk (l:List Nd):(lP l).length=l.length:=by simp [lP]
theorem Rj {l:List Nd} {k:Nat} (h:k<l.length):(lP l)[k]?.getD []=[.sl 1 (aM (bp (ie l k)))]:=by simp [lP,h]
theorem Sa (l:List Nd):(jv (fQ l l.length)).length=l.length:=by simp [jv,fQ]
theorem RZ {l:List Nd} {k:Nat} (h:k<l.length):(jv (fQ l l.length))[k]?.getD []=[.bool (mD l k)]:=by simp [jv,fQ,h]
theorem Cq {τ:Nat→Option Nat} {h:List (Option HB)} {env:List (Nat×SV)} {a n id:Nat} {rs:List RV} (hl:lk env a = .ptr id 0) (hh:aB h id=some (.var (rs.map .rv))) (hn:rs.length=n):aS τ (aB h) (.agg (rs.map .rv)) (aQ (lk env) (aB h) [.c a n true]):=by
 simp [aQ,aS,aX,hl,ij,hh,hn]
 rw [List.take_of_length_le (by simp [hn])];exact aI.2 (fX.2 rfl)
section
variable (l:List Nd) (hb:l.length≤8589934592) (n:Int)
theorem TU:aK Go.Proofs.Tryz.prog 88 [.rv (cv l)] [] [] (.rv (.int .i64 l.length)):=by
 refine bu Qo [.rv (cv l)] _ (by simp) (by simp [aP,aY,bq,aW,bk,aC.sv,Ln.sv,Nd.sv]) (fun K hK=>?_)
 conv in fc _ _ _ _=>reduce
 simp -implicitDefEqProofs only [go_sem,Int.reduceNegSucc]
 repeat' (first | (simp -implicitDefEqProofs only [go_sem,Int.reduceNegSucc,an,cv]) | (with_reducible refine aA ?_) | ((first | refine ai (fun hg=>?_) (fun hg=>?_) | refine ax (fun hg=>?_) (fun hg=>?_) | refine ay (fun hg=>?_) (fun hg=>?_)) <;> try simp -implicitDefEqProofs only [hg,Bool.not_true,Bool.not_false]) | ((with_reducible apply And.intro);focus (first | trivial | omega | decide | (simp -implicitDefEqProofs only [maxLen];omega) | (simp [maxLen,af,ak,an,av,aj,au,aq] <;> omega))) | fail)
 exact (hK _ _ (bS rfl)).2
theorem zJ:aK Go.Proofs.Tryz.prog 59 [.rv (cv l),.rv (.int .i64 n)] [] [] (.rv (.bool (ia l n))):=by
 refine bu Qt [.rv (cv l),.rv (.int .i64 n)] _ (by simp) (by simp [aP,aY,bq,aW,bk,aC.sv,Ln.sv,Nd.sv]) (fun K hK=>?_)
 conv in fc _ _ _ _=>reduce
 simp -implicitDefEqProofs only [go_sem,Int.reduceNegSucc]
 have bf:=TU l;repeat' (first | (simp -implicitDefEqProofs only [go_sem,Int.reduceNegSucc]) | (with_reducible refine aA ?_) | (with_reducible first | refine ag bf ?_ | refine ah bf ?_) | ((first | refine ai (fun hg=>?_) (fun hg=>?_) | refine ax (fun hg=>?_) (fun hg=>?_) | refine ay (fun hg=>?_) (fun hg=>?_)) <;> try simp -implicitDefEqProofs only [hg,Bool.not_true,Bool.not_false]) | ((with_reducible apply And.intro);focus (first | trivial | omega | decide | (simp -implicitDefEqProofs only [maxLen];omega) | (simp [maxLen,af,ak,an,av,aj,au,aq] <;> omega))) | fail)
 all_goals (try ((first | refine (hK _ _ _ _ [] (gM _ _) ?_).2 | refine (hK _ _ ?_).2 | refine (hK _ _ _ _ [] (gM _ _) ?_).1 | refine (hK _ _ ?_).1 | fail);clear hK;(simp_all [gV,bW,newL,gY,gN,aS,aQ,lk,aX,fW,gk,fZ,iz,iy,aB,gW,bn,aG,gw,gX,iG,aI,iF,aF,gB,fX,bA,ia]) <;> try omega))
theorem Ie:aK Go.Proofs.Tryz.prog 60 [.rv (cv l),.rv (.int .i64 n)] [] [] (bN l n).sv:=by
 refine bu Qs [.rv (cv l),.rv (.int .i64 n)] _ (by simp) (by simp [aP,aY,bq,aW,bk,aC.sv,Ln.sv,Nd.sv]) (fun K hK=>?_)
 have hh:=zJ l n
 conv in fc _ _ _ _=>reduce
 simp -implicitDefEqProofs only [go_sem,Int.reduceNegSucc]
 cases hi:ia l n with
 | false=>
   rw [hi] at hh
   have y_2:=hh;repeat' (first | (simp -implicitDefEqProofs only [go_sem,Int.reduceNegSucc]) | (with_reducible refine aA ?_) | (with_reducible first | refine ag y_2 ?_ | refine ah y_2 ?_) | ((first | refine ai (fun hg=>?_) (fun hg=>?_) | refine ax (fun hg=>?_) (fun hg=>?_) | refine ay (fun hg=>?_) (fun hg=>?_)) <;> try simp -implicitDefEqProofs only [hg,Bool.not_true,Bool.not_false]) | ((with_reducible apply And.intro);focus (first | trivial | omega | decide | (simp -implicitDefEqProofs only [maxLen];omega) | (simp [maxLen,af,ak,an,av,aj,au,aq] <;> omega) | (rfl;done) | (exact ⟨rfl,by decide⟩;done))) | fail)
   have Bw:bN l n=default:=by simp [bN,hi]
   rw [Bw] at hK
   exact (hK _ _ (Cq rfl rfl rfl)).2
 | true=>
   rw [hi] at hh
   obtain ⟨k,rfl,hk⟩:=qi hi
   have hx:=iM hk
   have hlen:=an l
   have bB:=hh;repeat' (first | (simp -implicitDefEqProofs only [go_sem,Int.reduceNegSucc,hx,hlen,ak,af,wo,cv]) | (with_reducible refine aA ?_) | (with_reducible first | refine ag bB ?_ | refine ah bB ?_) | ((first | refine ai (fun hg=>?_) (fun hg=>?_) | refine ax (fun hg=>?_) (fun hg=>?_) | refine ay (fun hg=>?_) (fun hg=>?_)) <;> try simp -implicitDefEqProofs only [hg,Bool.not_true,Bool.not_false]) | ((with_reducible apply And.intro);focus (first | trivial | omega | decide | (simp -implicitDefEqProofs only [maxLen];omega) | (simp [maxLen,af,ak,an,av,aj,au,aq] <;> omega))) | fail)
   have Bw:bN l k=(l[k]'hk).s:=by simp [bN,hi,hk]
   rw [Bw] at hK
   exact (hK _ _ (Cq rfl rfl rfl)).2
theorem TX:aK Go.Proofs.Tryz.prog 50 [.rv (cv l),.rv (.int .i64 n)] [] [] (.rv (.int .i64 (lT l n))):=by
 refine bu Qr [.rv (cv l),.rv (.int .i64 n)] _ (by simp) (by simp [aP,aY,bq,aW,bk,aC.sv,Ln.sv,Nd.sv]) (fun K hK=>?_)
 have hh:=zJ l n
 conv in fc _ _ _ _=>reduce
 simp -implicitDefEqProofs only [go_sem,Int.reduceNegSucc]
 cases hi:ia l n with
 | false=>
   rw [hi] at hh
   have bG:=hh;repeat' (first | (simp -implicitDefEqProofs only [go_sem,Int.reduceNegSucc]) | (with_reducible refine aA ?_) | (with_reducible first | refine ag bG ?_ | refine ah bG ?_) | ((first | refine ai (fun hg=>?_) (fun hg=>?_) | refine ax (fun hg=>?_) (fun hg=>?_) | refine ay (fun hg=>?_) (fun hg=>?_)) <;> try simp -implicitDefEqProofs only [hg,Bool.not_true,Bool.not_false]) | ((with_reducible apply And.intro);focus (first | trivial | omega | decide | (simp -implicitDefEqProofs only [maxLen];omega) | (simp [maxLen,af,ak,an,av,aj,au,aq] <;> omega))) | fail)
   exact (hK _ _ (bS (by simp [lT,hi,lk]))).2
 | true=>
   rw [hi] at hh
   obtain ⟨k,rfl,hk⟩:=qi hi
   have hx:=iM hk
   have hlen:=an l
   have hp:=lU hk
   have bI:=hh;repeat' (first | (simp -implicitDefEqProofs only [go_sem,Int.reduceNegSucc,hx,hlen,ak,cv,kJ,hp]) | (with_reducible refine aA ?_) | (with_reducible first | refine ag bI ?_ | refine ah bI ?_) | ((first | refine ai (fun hg=>?_) (fun hg=>?_) | refine ax (fun hg=>?_) (fun hg=>?_) | refine ay (fun hg=>?_) (fun hg=>?_)) <;> try simp -implicitDefEqProofs only [hg,Bool.not_true,Bool.not_false]) | ((with_reducible apply And.intro);focus (first | trivial | omega | decide | (simp -implicitDefEqProofs only [maxLen];omega) | (simp [maxLen,af,ak,an,av,aj,au,aq] <;> omega))) | fail)
   exact (hK _ _ (bS (by simp [lT,hi,lk]))).2
theorem Ia:aK Go.Proofs.Tryz.prog 28 [.rv (cv l),.rv (.int .i64 n)] [] [] (.rv (.bool (iE l n))):=by
 refine bu Qp [.rv (cv l),.rv (.int .i64 n)] _ (by simp) (by simp [aP,aY,bq,aW,bk,aC.sv,Ln.sv,Nd.sv]) (fun K hK=>?_)
 have hh:=zJ l n
 conv in fc _ _ _ _=>reduce
 simp -implicitDefEqProofs only [go_sem,Int.reduceNegSucc]
 cases hi:ia l n with
 | false=>
   rw [hi] at hh
   have bK:=hh;repeat' (first | (simp -implicitDefEqProofs only [go_sem,Int.reduceNegSucc]) | (with_reducible refine aA ?_) | (with_reducible first | refine ag bK ?_ | refine ah bK ?_) | ((first | refine ai (fun hg=>?_) (fun hg=>?_) | refine ax (fun hg=>?_) (fun hg=>?_) | refine ay (fun hg=>?_) (fun hg=>?_)) <;> try simp -implicitDefEqProofs only [hg,Bool.not_true,Bool.not_false]) | ((with_reducible apply And.intro);focus (first | trivial | omega | decide | (simp -implicitDefEqProofs only [maxLen];omega) | (simp [maxLen,af,ak,an,av,aj,au,aq] <;> omega))) | fail)
   exact (hK _ _ (bS (by simp [iE,hi,lk]))).2
 | true=>
   rw [hi] at hh
   obtain ⟨k,rfl,hk⟩:=qi hi
   have bL:=hh;repeat' (first | (simp -implicitDefEqProofs only [go_sem,Int.reduceNegSucc,Sa,RZ hk,cv]) | (with_reducible refine aA ?_) | (with_reducible first | refine ag bL ?_ | refine ah bL ?_) | ((first | refine ai (fun hg=>?_) (fun hg=>?_) | refine ax (fun hg=>?_) (fun hg=>?_) | refine ay (fun hg=>?_) (fun hg=>?_)) <;> try simp -implicitDefEqProofs only [hg,Bool.not_true,Bool.not_false]) | ((with_reducible apply And.intro);focus (first | trivial | omega | decide | (simp -implicitDefEqProofs only [maxLen];omega) | (simp [maxLen,af,ak,an,av,aj,au,aq] <;> omega))) | fail)
   exact (hK _ _ (bS (by simp [iE,hi,lk]))).2
theorem Ic:aK Go.Proofs.Tryz.prog 48 [.rv (cv l),.rv (.int .i64 n)] [] [] (.rv (.bool (jO l n))):=by
 refine bu Qq [.rv (cv l),.rv (.int .i64 n)] _ (by simp) (by simp [aP,aY,bq,aW,bk,aC.sv,Ln.sv,Nd.sv]) (fun K hK=>?_)
 have hh:=Ia l n
 conv in fc _ _ _ _=>reduce
 simp -implicitDefEqProofs only [go_sem,Int.reduceNegSucc]
 cases hi:iE l n with
 | false=>
   rw [hi] at hh
   have bO:=hh;repeat' (first | (simp -implicitDefEqProofs only [go_sem,Int.reduceNegSucc]) | (with_reducible refine aA ?_) | (with_reducible first | refine ag bO ?_ | refine ah bO ?_) | ((first | refine ai (fun hg=>?_) (fun hg=>?_) | refine ax (fun hg=>?_) (fun hg=>?_) | refine ay (fun hg=>?_) (fun hg=>?_)) <;> try simp -implicitDefEqProofs only [hg,Bool.not_true,Bool.not_false]) | ((with_reducible apply And.intro);focus (first | trivial | omega | decide | (simp -implicitDefEqProofs only [maxLen];omega) | (simp [maxLen,af,ak,an,av,aj,au,aq] <;> omega))) | fail)
   exact (hK _ _ (bS (by simp [jO,hi,lk]))).2
 | true=>
   rw [hi] at hh
   have hin:ia l n=true:=by simp [iE] at hi;exact hi.1
   obtain ⟨k,rfl,hk⟩:=qi hin
   have hx:=iM hk
   have hlen:=an l
   have hs:bN l k=(l[k]'hk).s:=by simp [bN,hin,hk]
   have hp:((l[k]'hk).cells.drop 1)[0]?=some (.int .i64 (l[k]'hk).s.position):=rfl
   have cl:=hh;repeat' (first | (simp -implicitDefEqProofs only [go_sem,Int.reduceNegSucc,hx,hlen,ak,cv,hp]) | (with_reducible refine aA ?_) | (with_reducible first | refine ag cl ?_ | refine ah cl ?_) | ((first | refine ai (fun hg=>?_) (fun hg=>?_) | refine ax (fun hg=>?_) (fun hg=>?_) | refine ay (fun hg=>?_) (fun hg=>?_)) <;> try simp -implicitDefEqProofs only [hg,Bool.not_true,Bool.not_false]) | ((with_reducible apply And.intro);focus (first | trivial | omega | decide | (simp -implicitDefEqProofs only [maxLen];omega) | (simp [maxLen,af,ak,an,av,aj,au,aq] <;> omega))) | fail)
   all_goals (refine (hK _ _ (bS ?_)).2;rw [jO,hi,hs];clear hK hs hp;simp_all [lk,bA])
end
end Go.aL

namespace Go.aL
open Go
theorem Qn:aU Go.Proofs.Tryz.prog 101 17 (fc Go.Proofs.Tryz.prog 101 17 [(.t 4)]) [(.t 4)]:=bl (by kernel_rfl)
theorem Ql:aU Go.Proofs.Tryz.prog 76 10 (fc Go.Proofs.Tryz.prog 76 10 [(.t 4)]) [(.t 4)]:=bl (by kernel_rfl)
theorem Qm:aU Go.Proofs.Tryz.prog 102 13 (fc Go.Proofs.Tryz.prog 102 13 [(.t 3)]) [(.t 3)]:=bl (by kernel_rfl)
theorem QM:aU Go.Proofs.Tryz.prog 119 19 (fc Go.Proofs.Tryz.prog 119 19 [(.t 4)]) [(.t 4)]:=bl (by kernel_rfl)
theorem QK:aU Go.Proofs.Tryz.prog 100 42 (fc Go.Proofs.Tryz.prog 100 42 [(.t 4)]) [(.t 4)]:=bl (by kernel_rfl)
def ic (l:List Nd) (n:Int):List Nat:=if ia l n=true then ie l n.toNat else []
def Wu (l:List Nd) (n:Int):List Nat:=if ia l n=true then (bt l n.toNat).drop 1 else []
def iA (l:List Nd) (m:Int):Bool:=iE l m && !jO l m
def bw (l:List Nd) (n:Int):List Nat:=(ic l n).filter fun (m:Nat)=>iA l m
theorem GC (l:List Nat):(bp l).length=l.length:=by simp [bp]
theorem Gc (l:List Nd) (n:Int):(ic l n).length≤l.length:=by
 unfold ic;split
 ·exact sL
 ·simp
section
variable (l:List Nd) (hb:l.length≤8589934592) (n:Int)
theorem TS (m:Nat) (hb:l.length≤8589934592):aK Go.Proofs.Tryz.prog 101 [.rv (cv l),.rv (.int .i64 n)] [] [(m,.row 1 1 (aN (aM (bp (ic l n)))))] (.row m 1 (ic l n).length):=by
 refine mU Qn [] [] [] [.rv (cv l),.rv (.int .i64 n)] [.rv (cv l),.rv (.int .i64 n)] _ _ (by simp) (by simp [aP,aW]) rfl (by simp [bW]) (by simp [hD]) (fun K hK=>?_)
 have hh:=zJ l n
 conv in fc _ _ _ _=>reduce
 simp -implicitDefEqProofs only [go_sem,Int.reduceNegSucc]
 cases hi:ia l n with
 | false=>
   rw [hi] at hh
   have gA:ic l n=[]:=by simp [ic,hi]
   have bf:=hh;repeat' (first | (simp -implicitDefEqProofs only [go_sem,Int.reduceNegSucc]) | (with_reducible refine aA ?_) | (with_reducible first | refine ag bf ?_ | refine ah bf ?_) | ((first | refine ai (fun hg=>?_) (fun hg=>?_) | refine ax (fun hg=>?_) (fun hg=>?_) | refine ay (fun hg=>?_) (fun hg=>?_)) <;> try simp -implicitDefEqProofs only [hg,Bool.not_true,Bool.not_false]) | ((with_reducible apply And.intro);focus (first | trivial | omega | decide | (simp -implicitDefEqProofs only [maxLen];omega) | (simp [maxLen,af,ak,an,av,aj,au,aq] <;> omega))) | fail)
   refine (hK _ _ _ _ [some m] (qG 4 1 1 rfl) ?_).2
   rw [gA]
   simp [gV,bW,newL,gY,gN,aS,aQ,lk,aX,fW,gk,fZ,iz,iy,aB,gW,bn,aG,gw,gX,iG,aI,iF,aF,gB,fX]
   exact ⟨by simp [aN,aM,bp],fun i x y hx=>by simp at hx⟩
 | true=>
   rw [hi] at hh
   obtain ⟨k,rfl,hk⟩:=qi hi
   have gA:ic l k=ie l k:=by simp [ic,hi]
   have gI:=sL (l:=l) (k:=l.length) (p:=k)
   have hlen:(aM (bp (ie l k))).length=(ie l k).length:=by simp [aM,bp]
   have hlb:(aM (bp (ie l k))).length≤8589934592:=by rw [hlen];unfold ie;omega
   have Nz:=Rj hk
   have y_2:=hh;have bB:=TH (aM (bp (ie l k))) 0 hlb;repeat' (first | (simp -implicitDefEqProofs only [go_sem,Int.reduceNegSucc,Rk,Nz,cv]) | (with_reducible refine aA ?_) | (with_reducible first | refine ag y_2 ?_ | refine ah y_2 ?_) | (refine bQ bB ?_ ?_ ?_;(focus (simp [aT,aB] <;> fail));(focus (simp [aZ,aR] <;> fail))) | (refine bV bB ?_ ?_ ?_;(focus (simp [aT,aB] <;> fail));(focus (simp [aZ,aR] <;> fail))) | ((first | refine ai (fun hg=>?_) (fun hg=>?_) | refine ax (fun hg=>?_) (fun hg=>?_) | refine ay (fun hg=>?_) (fun hg=>?_)) <;> try simp -implicitDefEqProofs only [hg,Bool.not_true,Bool.not_false]) | ((with_reducible apply And.intro);focus (first | trivial | omega | decide | (simp -implicitDefEqProofs only [maxLen];omega) | (simp [maxLen,af,ak,an,av,aj,au,aq] <;> omega))) | fail)
   refine (hK _ _ _ _ [some m] (gM _ _) ?_).2
   rw [gA]
   simp [gV,bW,newL,gY,gN,aS,aQ,lk,aX,fW,gk,fZ,iz,iy,aB,gW,bn,aG,gw,gX,iG,aI,iF,aF,gB,fX,hlen]
theorem TM (m:Int) (j:Nat):aK Go.Proofs.Tryz.prog 102 [.rv (.int .i64 m),.ptr j 0] [(j,.var [.rv (cv l)])] [] (.rv (.bool (!iA l m))):=by
 refine mU Qm [j] [.var [.rv (cv l)]] [.var [.rv (cv l)]] [.rv (.int .i64 m),.ptr 0 0] [.rv (.int .i64 m),.ptr j 0] _ _ (by simp) (by simp [aP,lI,lu,aW,aY,nW,bk,nX,nV,hD,nP,bW]) rfl (by simp [bW]) (by simp [aP,lI,lu,aW,aY,nW,bk,nX,nV,hD,nP,bW]) (fun K hK=>?_)
 conv in fc _ _ _ _=>reduce
 simp -implicitDefEqProofs only [go_sem,Int.reduceNegSucc]
 have bG:=Ia l m;have bI:=Ic l m;repeat' (first | (simp -implicitDefEqProofs only [go_sem,Int.reduceNegSucc]) | (with_reducible refine aA ?_) | (with_reducible first | refine ag bG ?_ | refine ah bG ?_) | (with_reducible first | refine ag bI ?_ | refine ah bI ?_) | ((first | refine ai (fun hg=>?_) (fun hg=>?_) | refine ax (fun hg=>?_) (fun hg=>?_) | refine ay (fun hg=>?_) (fun hg=>?_)) <;> try simp -implicitDefEqProofs only [hg,Bool.not_true,Bool.not_false]) | ((with_reducible apply And.intro);focus (first | trivial | omega | decide | (simp -implicitDefEqProofs only [maxLen];omega) | (simp [maxLen,af,ak,an,av,aj,au,aq] <;> omega))) | fail)
 all_goals (refine (hK _ _ _ _ [] (gM _ _) ?_).2;clear hK;simp_all [gV,bW,newL,gY,gN,aS,aQ,lk,aX,fW,gk,fZ,iz,iy,aB,gW,bn,aG,gw,gX,iG,aI,iF,aF,gB,fX,iA])
end
section
variable (f:Nat) (i j v:Nat) (cap:RV) (p:Int→Bool) (hij:i≠j) (hf:∀ (m:Int) (j:Nat),aK Go.Proofs.Tryz.prog f [.rv (.int .i64 m),.ptr j 0] [(j,.var [.rv cap])] [] (.rv (.bool (p m))))
include hij hf
theorem TO (ys:List Int) (hb:ys.length≤8589934592) :
 aK Go.Proofs.Tryz.prog 119 [.row i v ys.length,.fn f [.ptr j 0]] [(i,.row 1 v (aN (aM ys))),(j,.var [.rv cap])] [] (.rv (.int .i64 (match ys.findIdx? p with | some k=>((k:Nat):Int) | none=>-1))):=by
 refine xH QM [i,j] [.row 1 v (aN (aM ys)),.var [.rv cap]] [.row 1 v (aN (aM ys)),.var [.rv cap]] [.row 0 v ys.length,.fn f [.ptr 1 0]] [.row i v ys.length,.fn f [.ptr j 0]] _ _ (by simp) (by simp [aP,lu,bk,lI]) rfl (by simp [bW,hij]) rfl (Da Dr (Ad (by simp [aP,lI,lu,aW,aY,nW,bk,nX,nV,hD,nP,bW]))) (fun K hK=>?_)
 have hlen:=aj ys
 conv in fc _ _ _ _=>reduce
 simp -implicitDefEqProofs only [go_sem,Int.reduceNegSucc]
 refine fH (ι:=Nat) (fun k=>[(8,.rv (.int .i64 k)),(7,.rv (.int .i64 ys.length)),(0,.row 0 v ys.length),(1,.fn f [.ptr 1 0])]) (fun _=>[some (.row 1 v (aN (aM ys))),some (.var [.rv cap])]) (fun k=>k≤ys.length∧∀ j,(h:j<ys.length)→j<k→p (ys[j]'h)=false) (fun k=>ys.length - k) 0 (by simp) (bg (by simp [lk])) (fun k hk K' hN hX hR=>?_)
 obtain ⟨fJ,hk2⟩:=hk
 simp -implicitDefEqProofs only [go_sem,Int.reduceNegSucc]
 refine ai (fun hg=>?_) (fun hg=>?_)
 ·have aE:k<ys.length:=by simp at hg;omega
  have hx:=pK aE
  have bK:=hf (ys[k]'aE) 1;repeat' (first | (simp -implicitDefEqProofs only [go_sem,Int.reduceNegSucc,hlen,hx]) | (with_reducible refine aA ?_) | (refine bQ bK ?_ ?_ ?_;(focus (simp [aT,aB] <;> fail));(focus (simp [aZ,aR] <;> fail))) | (refine bV bK ?_ ?_ ?_;(focus (simp [aT,aB] <;> fail));(focus (simp [aZ,aR] <;> fail))) | ((first | refine ai (fun hg=>?_) (fun hg=>?_) | refine ax (fun hg=>?_) (fun hg=>?_) | refine ay (fun hg=>?_) (fun hg=>?_)) <;> try simp -implicitDefEqProofs only [hg,Bool.not_true,Bool.not_false]) | ((with_reducible apply And.intro);focus (first | trivial | omega | decide | (simp -implicitDefEqProofs only [maxLen];omega) | (simp [maxLen,af,ak,an,av,aj,au,aq] <;> omega))) | fail)
  ·refine hR _ _ (hK _ _ _ _ [] (gM _ _) ?_).2
   have:ys.findIdx? p=some k:=by
    rw [List.findIdx?_eq_some_iff_getElem]
    exact ⟨aE,by simpa using hg,fun j hj=>by rw [hk2 j (by omega) hj];simp⟩
   rw [this]
   simp [gV,bW,newL,gY,gN,aS,aQ,lk,aX,fW,gk,fZ,iz,iy,aB,gW,bn,aG,gw,gX,iG,aI,iF,aF,gB,fX,hij,Ne.symm hij]
  ·rw [fB (by omega)]
   refine hN (k+1) _ _ ⟨by omega,fun j hj hji=>?_⟩ (by omega) (bg (by simp [lk]))
   rcases Nat.lt_or_ge j k with h | h
   ·exact hk2 j hj h
   ·obtain rfl:j=k:=by omega
    simpa using hg
 ·have aE:k=ys.length:=by simp at hg;omega
  subst aE
  simp -implicitDefEqProofs only [go_sem,Int.reduceNegSucc]
  refine hX _ _ _ ?_
  repeat' (first | (simp -implicitDefEqProofs only [go_sem,Int.reduceNegSucc]) | (with_reducible refine aA ?_) | ((first | refine ai (fun hg=>?_) (fun hg=>?_) | refine ax (fun hg=>?_) (fun hg=>?_) | refine ay (fun hg=>?_) (fun hg=>?_)) <;> try simp -implicitDefEqProofs only [hg,Bool.not_true,Bool.not_false]) | ((with_reducible apply And.intro);focus (first | trivial | omega | decide | (simp -implicitDefEqProofs only [maxLen];omega) | (simp [maxLen,af,ak,an,av,aj,au,aq] <;> omega))) | fail)
  refine (hK _ _ _ _ [] (gM _ _) ?_).2
  have:ys.findIdx? p=none:=by
   rw [List.findIdx?_eq_none_iff]
   intro x hx
   obtain ⟨j,hj,rfl⟩:=List.getElem_of_mem hx
   exact hk2 j hj hj
  rw [this]
  simp [gV,bW,newL,gY,gN,aS,aQ,lk,aX,fW,gk,fZ,iz,iy,aB,gW,bn,aG,gw,gX,iG,aI,iF,aF,gB,fX,hij,Ne.symm hij]
def ig (ys:List Int) (p:Int→Bool):List Int:=ys.filter fun y=>!p y
def mj (ys:List Int) (p:Int→Bool):List Int:=ig ys p++List.replicate (ys.length - (ig ys p).length) 0
theorem TL (ys:List Int) (hb:ys.length≤8589934592) :
 aK Go.Proofs.Tryz.prog 100 [.row i v ys.length,.fn f [.ptr j 0]] [(i,.row 1 v (aN (aM ys))),(j,.var [.rv cap])] [(i,.row 1 v (aN (aM (mj ys p))))] (.row i v (ig ys p).length):=by
 refine xH QK [i,j] [.row 1 v (aN (aM ys)),.var [.rv cap]] [.row 1 v (aN (aM ys)),.var [.rv cap]] [.row 0 v ys.length,.fn f [.ptr 1 0]] [.row i v ys.length,.fn f [.ptr j 0]] _ _ (by simp) (by simp [aP,lu,bk,lI]) rfl (by simp [bW,hij]) rfl (Da Dr (Ad (by simp [aP,lI,lu,aW,aY,nW,bk,nX,nV,hD,nP,bW]))) (fun K hK=>?_)
 have yC:=TO f 0 1 v cap p (by decide) hf ys hb
 conv in fc _ _ _ _=>reduce
 simp -implicitDefEqProofs only [go_sem,Int.reduceNegSucc]
 cases pg:ys.findIdx? p with
 | none=>
   rw [pg] at yC
   have hno:ig ys p=ys:=by
    rw [List.findIdx?_eq_none_iff] at pg
    exact List.filter_eq_self.2 fun a ha=>by rw [pg a ha];rfl
   have e1:((-1:Int) == -1)=true:=rfl
   have bL:=yC;repeat' (first | (simp -implicitDefEqProofs only [go_sem,Int.reduceNegSucc,e1]) | (with_reducible refine aA ?_) | (refine bQ bL ?_ ?_ ?_;(focus (simp [aT,aB] <;> fail));(focus (simp [aZ,aR] <;> fail))) | (refine bV bL ?_ ?_ ?_;(focus (simp [aT,aB] <;> fail));(focus (simp [aZ,aR] <;> fail))) | ((first | refine ai (fun hg=>?_) (fun hg=>?_) | refine ax (fun hg=>?_) (fun hg=>?_) | refine ay (fun hg=>?_) (fun hg=>?_)) <;> try simp -implicitDefEqProofs only [hg,Bool.not_true,Bool.not_false]) | ((with_reducible apply And.intro);focus (first | trivial | omega | decide | (simp -implicitDefEqProofs only [maxLen];omega) | (simp [maxLen,af,ak,an,av,aj,au,aq] <;> omega))) | fail)
   refine (hK _ _ _ _ [] (gM _ _) ?_).2
   simp [gV,bW,newL,gY,gN,aS,aQ,lk,aX,fW,gk,fZ,iz,iy,aB,gW,bn,aG,gw,gX,iG,aI,iF,aF,gB,fX,hij,Ne.symm hij,hno,mj]
 | some k0=>
   rw [pg] at yC
   rw [List.findIdx?_eq_some_iff_getElem] at pg
   obtain ⟨gA,jY,qg⟩:=pg
   have e1:(((k0:Nat):Int) == -1)=false:=by simp
   have w0:=fB (k:=k0) (by omega)
   have bO:=yC;repeat' (first | (simp -implicitDefEqProofs only [go_sem,Int.reduceNegSucc,e1,w0]) | (with_reducible refine aA ?_) | (refine bQ bO ?_ ?_ ?_;(focus (simp [aT,aB] <;> fail));(focus (simp [aZ,aR] <;> fail))) | (refine bV bO ?_ ?_ ?_;(focus (simp [aT,aB] <;> fail));(focus (simp [aZ,aR] <;> fail))) | ((first | refine ai (fun hg=>?_) (fun hg=>?_) | refine ax (fun hg=>?_) (fun hg=>?_) | refine ay (fun hg=>?_) (fun hg=>?_)) <;> try simp -implicitDefEqProofs only [hg,Bool.not_true,Bool.not_false]) | ((with_reducible apply And.intro);focus (first | trivial | omega | decide | (simp -implicitDefEqProofs only [maxLen];omega) | (simp [maxLen,af,ak,an,av,aj,au,aq] <;> omega))) | fail)
   let kept:Nat→List Int:=fun j=>ig (ys.take j) p
   have Ri:∀ j,(kept j).length≤j:=fun j=>by
    have:=List.length_filter_le (fun y=>!p y) (ys.take j)
    simp -implicitDefEqProofs only [List.length_take] at this
    show (ig (ys.take j) p).length≤j
    unfold ig;omega
   have Gb:∀ j (h:j<ys.length),kept (j+1)=kept j++if p (ys[j]'h)=true then [] else [ys[j]'h]:=fun j h=>by
    show ig _ _=ig _ _++_
    rw [List.take_succ_eq_append_getElem h]
    unfold ig
    rw [List.filter_append]
    cases ja:p (ys[j]'h) <;> simp [ja]
   have Rh:kept k0=ys.take k0:=List.filter_eq_self.2 fun a ha=>by
    obtain ⟨q,hq,rfl⟩:=List.getElem_of_mem ha
    have NK:q<k0:=by simp at hq;omega
    have:=qg q NK
    simp -implicitDefEqProofs only [Bool.not_eq_true] at this
    simp [this]
   have BS:kept (k0+1)=ys.take k0:=by rw [Gb k0 gA,Rh,jY];simp
   refine fH (ι:=List Int×Nat) (fun q=>[(6,.rv (.int .i64 q.2)),(5,.rv (.int .i64 (kept q.2).length)),(0,.row 0 v ys.length),(1,.fn f [.ptr 1 0])]) (fun q=>[some (.row 1 v (aN (aM q.1))),some (.var [.rv cap])]) (fun q=>q.1.length=ys.length∧q.2≤ys.length∧(kept q.2).length<q.2∧q.1.take (kept q.2).length=kept q.2∧q.1.drop q.2=ys.drop q.2) (fun q=>ys.length - q.2) (ys,k0+1) ⟨rfl,gA,?_,?_,rfl⟩ (bg ?_) (fun q hq K' hN hX hR=>?_)
   ·show (kept (k0+1)).length<k0+1
    rw [BS];simp;omega
   ·show ys.take (kept (k0+1)).length=kept (k0+1)
    rw [BS];simp
   ·have:(kept (k0+1)).length=k0:=by rw [BS];simp;omega
    simp [lk,this]
   obtain ⟨zs,j⟩:=q
   obtain ⟨q1,q2,q3,q4,q5⟩:=hq
   dsimp only at q1 q2 q3 q4 q5 ⊢
   simp -implicitDefEqProofs only [go_sem,Int.reduceNegSucc]
   refine ai (fun hg=>?_) (fun hg=>?_)
   ·have hj:j<ys.length:=by simp at hg;omega
    have Bl:zs[j]'(by omega)=ys[j]'hj:=by
     have h1:=List.getElem_drop (xs:=zs) (i:=j) (j:=0) (h:=by simp;omega)
     have h2:=List.getElem_drop (xs:=ys) (i:=j) (j:=0) (h:=by simp;omega)
     simp -implicitDefEqProofs only [Nat.add_zero] at h1 h2
     rw [← h1,← h2]
     congr 1
    have hx:=pK (l:=zs) (i:=j) (by omega)
    rw [Bl] at hx
    have hzl:=aj zs
    have pI:=Gb j hj
    have wj:=fB (k:=j) (by omega)
    have wi:=fB (k:=(kept j).length) (by omega)
    have ke:=pK (l:=zs) (i:=(kept j).length) (by omega)
    have cl:=hf (ys[j]'hj) 1;repeat' (first | (simp -implicitDefEqProofs only [go_sem,Int.reduceNegSucc,hx,hzl,q1,ke,nh,wj,wi]) | (with_reducible refine aA ?_) | (refine bQ cl ?_ ?_ ?_;(focus (simp [aT,aB] <;> fail));(focus (simp [aZ,aR] <;> fail))) | (refine bV cl ?_ ?_ ?_;(focus (simp [aT,aB] <;> fail));(focus (simp [aZ,aR] <;> fail))) | ((first | refine ai (fun hg=>?_) (fun hg=>?_) | refine ax (fun hg=>?_) (fun hg=>?_) | refine ay (fun hg=>?_) (fun hg=>?_)) <;> try simp -implicitDefEqProofs only [hg,Bool.not_true,Bool.not_false]) | ((with_reducible apply And.intro);focus (first | trivial | omega | decide | (simp -implicitDefEqProofs only [maxLen];omega) | (simp [maxLen,af,ak,an,av,aj,au,aq] <;> omega))) | fail)
    ·have ja:p (ys[j]'hj)=false:=by simpa using hg
     rw [ja] at pI
     simp -implicitDefEqProofs only [Bool.false_eq_true,if_false] at pI
     refine hN (zs.set (kept j).length (ys[j]'hj),j+1) _ _ ⟨by simp [q1],by omega,?_,?_,?_⟩ (by dsimp only;omega) (bg (by simp [lk,pI]))
     ·show (kept (j+1)).length<j+1
      rw [pI];simp;omega
     ·show (zs.set (kept j).length (ys[j]'hj)).take (kept (j+1)).length=kept (j+1)
      rw [pI]
      simp -implicitDefEqProofs only [List.length_append,List.length_singleton]
      rw [List.take_succ_eq_append_getElem (by simp;omega),List.take_set_of_le (by omega),q4]
      simp
     ·show (zs.set (kept j).length (ys[j]'hj)).drop (j+1)=ys.drop (j+1)
      rw [List.drop_set_of_lt (by omega),← List.drop_drop,q5,List.drop_drop]
    ·have ja:p (ys[j]'hj)=true:=by simpa using hg
     rw [ja] at pI
     simp -implicitDefEqProofs only [if_true,List.append_nil] at pI
     refine hN (zs,j+1) _ _ ⟨q1,by omega,?_,?_,?_⟩ (by dsimp only;omega) (bg (by simp [lk,pI]))
     ·show (kept (j+1)).length<j+1
      rw [pI];omega
     ·show zs.take (kept (j+1)).length=kept (j+1)
      rw [pI];exact q4
     ·show zs.drop (j+1)=ys.drop (j+1)
      rw [← List.drop_drop,q5,List.drop_drop]
   ·have hj:j=ys.length:=by simp at hg;omega
    subst hj
    have hkk:kept ys.length=ig ys p:=by show ig (ys.take ys.length) p=_;rw [List.take_length]
    have gI:=Ri ys.length
    rw [hkk] at gI q4 q3
    simp -implicitDefEqProofs only [hkk,go_sem,Int.reduceNegSucc]
    refine hX _ _ _ ?_
    have hnz:(((ig ys p).length:Int)=0)=((ig ys p).length=0):=propext (by omega)
    repeat' (first | (simp -implicitDefEqProofs only [go_sem,Int.reduceNegSucc]) | (with_reducible refine aA ?_) | ((first | refine ai (fun hg=>?_) (fun hg=>?_) | refine ax (fun hg=>?_) (fun hg=>?_) | refine ay (fun hg=>?_) (fun hg=>?_)) <;> try simp -implicitDefEqProofs only [hg,Bool.not_true,Bool.not_false]) | ((with_reducible apply And.intro);focus (first | trivial | omega | decide | (simp -implicitDefEqProofs only [maxLen];omega) | (simp [maxLen,af,ak,an,av,aj,au,aq] <;> omega))) | fail)
    have hrow:aN (List.take (ig ys p).length (aM zs))++List.replicate (ys.length - (ig ys p).length) [SV.rv (.int .i64 0)]++List.drop ((ig ys p).length+(List.replicate (ys.length - (ig ys p).length) [SV.rv (.int .i64 0)]).length) (aN (aM zs))=aN (aM (mj ys p)):=by
     rw [List.drop_of_length_le (by simp [au,aj];omega),List.append_nil,zF,show List.take (ig ys p).length (aM zs)=aM (zs.take (ig ys p).length) by simp [aM,List.map_take],q4,HP]
     simp [aM,mj]
    rw [hrow]
    refine (hK _ _ _ _ [] (gM _ _) ?_).2
    simp [gV,bW,newL,gY,gN,aS,aQ,lk,aX,fW,gk,fZ,iz,iy,aB,gW,bn,aG,gw,gX,iG,aI,iF,aF,gB,fX,hij,Ne.symm hij]
end
section
variable (l:List Nd) (n:Int)
theorem HY (hb:l.length≤8589934592) (m:Nat):aK Go.Proofs.Tryz.prog 76 [.rv (cv l),.rv (.int .i64 n)] [] [(m,.row 1 1 (aN (aM (mj (bp (ic l n)) fun m=>!iA l m))))] (.row m 1 (bw l n).length):=by
 refine mU Ql [] [] [] [.rv (cv l),.rv (.int .i64 n)] [.rv (cv l),.rv (.int .i64 n)] _ _ (by simp) (by simp [aP,aW]) rfl (by simp [bW]) (by simp [hD]) (fun K hK=>?_)
 have gI:=Gc l n
 have hkn:=GC (ic l n)
 have hd:=TL 102 1 0 1 (cv l) (fun m=>!iA l m) (by decide) (fun m j=>TM l m j) (bp (ic l n)) (by rw [hkn];omega)
 rw [hkn] at hd
 have hfl:(ig (bp (ic l n)) fun m=>!iA l m).length=(bw l n).length:=by
  unfold ig bw bp
  rw [List.filter_map,List.length_map]
  simp [Function.comp_def]
 rw [hfl] at hd
 conv in fc _ _ _ _=>reduce
 simp -implicitDefEqProofs only [go_sem,Int.reduceNegSucc]
 refine bQ (TS l n 1 hb) (by simp [aT,aB]) (by simp [aZ,aR]) ?_
 have cr:=hd;repeat' (first | (simp -implicitDefEqProofs only [go_sem,Int.reduceNegSucc]) | (with_reducible refine aA ?_) | (refine bQ cr ?_ ?_ ?_;(focus (simp [aT,aB] <;> fail));(focus (simp [aZ,aR] <;> fail))) | (refine bV cr ?_ ?_ ?_;(focus (simp [aT,aB] <;> fail));(focus (simp [aZ,aR] <;> fail))) | ((first | refine ai (fun hg=>?_) (fun hg=>?_) | refine ax (fun hg=>?_) (fun hg=>?_) | refine ay (fun hg=>?_) (fun hg=>?_)) <;> try simp -implicitDefEqProofs only [hg,Bool.not_true,Bool.not_false]) | ((with_reducible apply And.intro);focus (first | trivial | omega | decide | (simp -implicitDefEqProofs only [maxLen];omega) | (simp [maxLen,af,ak,an,av,aj,au,aq] <;> omega))) | fail)
 refine (hK _ _ _ _ [none,some m] (gM _ _) ?_).2
 simp [gV,bW,newL,gY,gN,aS,aQ,lk,aX,fW,gk,fZ,iz,iy,aB,gW,bn,aG,gw,gX,iG,aI,iF,aF,gB,fX]
theorem HZ (hb:l.length≤8589934592):aK Go.Proofs.Tryz.prog 76 [.rv (cv l),.rv (.int .i64 n)] [] [] (.rv (.sl 1 (aM (bp (bw l n))))):=by
 refine KK (rs:=[cv l,.int .i64 n]) (HY l n hb 0) ?_ ⟨_,.inl rfl⟩
 have hfl:(ig (bp (ic l n)) fun m=>!iA l m)=bp (bw l n):=by
  unfold ig bw bp
  rw [List.filter_map]
  simp [Function.comp_def]
 have pG:(bw l n).length=(bp (bw l n)).length:=by simp [bp]
 refine .fz _ _ ?_
 have h1:=og (τ:=fun _=>none) (h:=bM (fun _=>none) [(0,HB.row 1 1 (aN (aM (mj (bp (ic l n)) fun m=>!iA l m))))]) (j:=0) (e:=1) (az:=1) (len:=(bw l n).length) (xs:=aM (mj (bp (ic l n)) fun m=>!iA l m)) (by simp [bM,up]) rfl (by rw [aj,mj,List.length_append,hfl,← pG];omega) (kI _)
 rw [show (aM (mj (bp (ic l n)) fun m=>!iA l m)).take (bw l n).length=aM (bp (bw l n)) by
  rw [pG]
  simp -implicitDefEqProofs only [aM,← List.map_take,mj,hfl]
  rw [List.take_left]] at h1
 exact h1
end
end Go.aL

namespace Go.aL
open Go
theorem PA:aU Go.Proofs.Tryz.prog 31 27 (fc Go.Proofs.Tryz.prog 31 27 [(.t 4)]) [(.t 4)]:=bl (by kernel_rfl)
theorem PB:aU Go.Proofs.Tryz.prog 17 21 (fc Go.Proofs.Tryz.prog 17 21 [(.t 4)]) [(.t 4)]:=bl (by kernel_rfl)
theorem Pz:aU Go.Proofs.Tryz.prog 69 40 (fc Go.Proofs.Tryz.prog 69 40 [(.t 4)]) [(.t 4)]:=bl (by kernel_rfl)
theorem CQ {l:List Nd} (ht:fT l=true):gF l:=wG.1 (by unfold fT at ht;simp -implicitDefEqProofs only [Bool.and_eq_true] at ht;exact ht.1)
theorem Vs {l:List Nd} (ht:fT l=true) {k:Nat} (hk:k<l.length):jg (l[k]'hk).s=true:=by
 unfold fT at ht
 simp -implicitDefEqProofs only [Bool.and_eq_true,List.all_eq_true] at ht
 exact ht.2 _ (List.getElem_mem hk)
theorem Vq {s:aC} (h:jg s=true):0≤s.position∧s.position≤3:=by
 unfold jg tc at h
 simp -implicitDefEqProofs only [Bool.and_eq_true,decide_eq_true_eq] at h
 exact ⟨h.2.1.1.1.1,h.2.1.1.1.2⟩
theorem DG {l:List Nd} (h:kO l=0):fT l=true:=by
 unfold kO at h
 cases ht:fT l with
 | true=>rfl
 | false=>rw [ht] at h;simp at h
theorem Od (l:List Nd) (n:Int):(n<0∧ia l n=false)∨((l.length:Int)≤n∧0≤n∧ia l n=false)∨∃ k:Nat,n=k∧k<l.length∧ia l n=true:=by
 by_cases h0:n<0
 ·exact .inl ⟨h0,by simp [ia];omega⟩
 ·by_cases h1:n<l.length
  ·exact .inr (.inr ⟨n.toNat,by omega,by omega,by simp [ia];omega⟩)
  ·exact .inr (.inl ⟨by omega,by omega,by simp [ia];omega⟩)
theorem zK (l:List Nd) (ht:fT l=true) (n:Int):aK Go.Proofs.Tryz.prog 31 [.rv (.sl 49 (br l)),.rv (.int .i64 n)] [] [] (.rv (.bool (iE l n))):=by
 refine bu PA [.rv (.sl 49 (br l)),.rv (.int .i64 n)] _ (by simp) (by simp [aP,aY,bq,aW,bk,aC.sv,Ln.sv,Nd.sv]) (fun K hK=>?_)
 have hlen:=an l
 have hs:=CQ ht
 conv in fc _ _ _ _=>reduce
 simp -implicitDefEqProofs only [go_sem,Int.reduceNegSucc]
 rcases Od l n with ⟨h1,hi⟩ | ⟨h1,h0,hi⟩ | ⟨k,rfl,hk,hi⟩
 ·have e1:decide (n<0)=true:=decide_eq_true h1
  repeat' (first | (simp -implicitDefEqProofs only [go_sem,Int.reduceNegSucc,e1,hlen]) | (with_reducible refine aA ?_) | ((first | refine ai (fun hg=>?_) (fun hg=>?_) | refine ax (fun hg=>?_) (fun hg=>?_) | refine ay (fun hg=>?_) (fun hg=>?_)) <;> try simp -implicitDefEqProofs only [hg,Bool.not_true,Bool.not_false]) | ((with_reducible apply And.intro);focus (first | trivial | omega | decide | (simp -implicitDefEqProofs only [maxLen];omega) | (simp [maxLen,af,ak,an,av,aj,au,aq] <;> omega))) | fail)
  exact (hK _ _ (bS (by simp [iE,hi,lk]))).2
 ·have e1:decide (n<0)=false:=decide_eq_false (by omega)
  have e2:decide (n≥(l.length:Int))=true:=decide_eq_true h1
  repeat' (first | (simp -implicitDefEqProofs only [go_sem,Int.reduceNegSucc,e1,e2,hlen]) | (with_reducible refine aA ?_) | ((first | refine ai (fun hg=>?_) (fun hg=>?_) | refine ax (fun hg=>?_) (fun hg=>?_) | refine ay (fun hg=>?_) (fun hg=>?_)) <;> try simp -implicitDefEqProofs only [hg,Bool.not_true,Bool.not_false]) | ((with_reducible apply And.intro);focus (first | trivial | omega | decide | (simp -implicitDefEqProofs only [maxLen];omega) | (simp [maxLen,af,ak,an,av,aj,au,aq] <;> omega))) | fail)
  exact (hK _ _ (bS (by simp [iE,hi,lk]))).2
 ·have e1:decide ((k:Int)<0)=false:=decide_eq_false (by omega)
  have e2:decide ((k:Int)≥(l.length:Int))=false:=decide_eq_false (by omega)
  repeat' (first | (simp -implicitDefEqProofs only [go_sem,Int.reduceNegSucc,e1,e2,hlen]) | (with_reducible refine aA ?_) | ((first | refine ai (fun hg=>?_) (fun hg=>?_) | refine ax (fun hg=>?_) (fun hg=>?_) | refine ay (fun hg=>?_) (fun hg=>?_)) <;> try simp -implicitDefEqProofs only [hg,Bool.not_true,Bool.not_false]) | ((with_reducible apply And.intro);focus (first | trivial | omega | decide | (simp -implicitDefEqProofs only [maxLen];omega) | (simp [maxLen,af,ak,an,av,aj,au,aq] <;> omega))) | fail)
  refine fH (ι:=Nat) (fun i=>[(1,.rv (.int .i64 (kF (bt l k) i))),(0,.rv (.sl 49 (br l)))]) (fun _=>[]) (fun i=>i≤(bt l k).length∧((bt l k).drop i).all (pO l)=(bt l k).all (pO l)) (fun i=>(bt l k).length - i) 0 (by simp) (by rw [uO];exact bg (by simp [lk])) (fun i hi' K' hN hX hR=>?_)
  obtain ⟨hi1,hi2⟩:=hi'
  simp -implicitDefEqProofs only [go_sem,Int.reduceNegSucc]
  refine ai (fun hg=>?_) (fun hg=>?_)
  ·have fG:i<(bt l k).length:=qz.1 (by simpa using hg)
   have iR:=uN fG
   have hlt:(bt l k)[i]<l.length:=zw hk fG
   have hx:=iM hlt
   have hpar:=lU hlt
   have ov:=zn hs.wf k hk i fG
   have hsh:=Cy hlt
   have hs0:((l[(bt l k)[i]]'hlt).cells)[0]?=some (.bool (l[(bt l k)[i]]'hlt).s.shown):=rfl
   repeat' (first | (simp -implicitDefEqProofs only [go_sem,Int.reduceNegSucc,hlen,ak,kJ,iR,hx,hpar,ov,hs0,hsh]) | (with_reducible refine aA ?_) | ((first | refine ai (fun hg=>?_) (fun hg=>?_) | refine ax (fun hg=>?_) (fun hg=>?_) | refine ay (fun hg=>?_) (fun hg=>?_)) <;> try simp -implicitDefEqProofs only [hg,Bool.not_true,Bool.not_false]) | ((with_reducible apply And.intro);focus (first | trivial | omega | decide | (simp -implicitDefEqProofs only [maxLen];omega) | (simp [maxLen,af,ak,an,av,aj,au,aq] <;> omega))) | fail)
   ·refine hR _ _ (hK _ _ (bS ?_)).2
    have:(bt l k).all (pO l)=false:=oU fG hi2 (by simpa using hg)
    simp [iE,hi,mD,this,lk]
   ·exact hN (i+1) _ _ ⟨by omega,oV fG hi2 (by simpa using hg)⟩ (by omega) (bg (by simp [lk]))
  ·have fG:¬ i<(bt l k).length:=fun h=>by have:=qz.2 h;simp at hg;omega
   simp -implicitDefEqProofs only [go_sem,Int.reduceNegSucc]
   refine hX _ _ _ ?_
   repeat' (first | (simp -implicitDefEqProofs only [go_sem,Int.reduceNegSucc]) | (with_reducible refine aA ?_) | ((first | refine ai (fun hg=>?_) (fun hg=>?_) | refine ax (fun hg=>?_) (fun hg=>?_) | refine ay (fun hg=>?_) (fun hg=>?_)) <;> try simp -implicitDefEqProofs only [hg,Bool.not_true,Bool.not_false]) | ((with_reducible apply And.intro);focus (first | trivial | omega | decide | (simp -implicitDefEqProofs only [maxLen];omega) | (simp [maxLen,af,ak,an,av,aj,au,aq] <;> omega))) | fail)
   refine (hK _ _ (bS ?_)).2
   have:=oT (by omega) hi2
   simp [iE,hi,mD,this,lk]
theorem CC (l:List Nd) (ht:fT l=true) (n:Int):aK Go.Proofs.Tryz.prog 17 [.rv (.sl 49 (br l)),.rv (.int .i64 n)] [] [] (.rv (.bool (jO l n))):=by
 refine bu PB [.rv (.sl 49 (br l)),.rv (.int .i64 n)] _ (by simp) (by simp [aP,aY,bq,aW,bk,aC.sv,Ln.sv,Nd.sv]) (fun K hK=>?_)
 have hlen:=an l
 have hm:=zK l ht n
 conv in fc _ _ _ _=>reduce
 simp -implicitDefEqProofs only [go_sem,Int.reduceNegSucc]
 cases hi:iE l n with
 | false=>
   rw [hi] at hm
   have bf:=hm;repeat' (first | (simp -implicitDefEqProofs only [go_sem,Int.reduceNegSucc]) | (with_reducible refine aA ?_) | (with_reducible first | refine ag bf ?_ | refine ah bf ?_) | ((first | refine ai (fun hg=>?_) (fun hg=>?_) | refine ax (fun hg=>?_) (fun hg=>?_) | refine ay (fun hg=>?_) (fun hg=>?_)) <;> try simp -implicitDefEqProofs only [hg,Bool.not_true,Bool.not_false]) | ((with_reducible apply And.intro);focus (first | trivial | omega | decide | (simp -implicitDefEqProofs only [maxLen];omega) | (simp [maxLen,af,ak,an,av,aj,au,aq] <;> omega))) | fail)
   all_goals exact (hK _ _ (bS (by simp [jO,hi,lk]))).2
 | true=>
   rw [hi] at hm
   have hin:ia l n=true:=by simp [iE] at hi;exact hi.1
   obtain ⟨k,rfl,hk⟩:=qi hin
   have hx:=iM hk
   have hs:bN l k=(l[k]'hk).s:=by simp [bN,hin,hk]
   obtain ⟨q1,q2⟩:=Vq (Vs ht hk)
   have hp:((l[k]'hk).cells.drop 1)[0]?=some (.int .i64 (l[k]'hk).s.position):=rfl
   have y_2:=hm;repeat' (first | (simp -implicitDefEqProofs only [go_sem,Int.reduceNegSucc,hx,hlen,ak,hp]) | (with_reducible refine aA ?_) | (with_reducible first | refine ag y_2 ?_ | refine ah y_2 ?_) | ((first | refine ai (fun hg=>?_) (fun hg=>?_) | refine ax (fun hg=>?_) (fun hg=>?_) | refine ay (fun hg=>?_) (fun hg=>?_)) <;> try simp -implicitDefEqProofs only [hg,Bool.not_true,Bool.not_false]) | ((with_reducible apply And.intro);focus (first | trivial | omega | decide | (simp -implicitDefEqProofs only [maxLen];omega) | (simp [maxLen,af,ak,an,av,aj,au,aq] <;> omega))) | fail)
   ·refine (hK _ _ (bS ?_)).2
    simp -implicitDefEqProofs only [lk,if_true,jO,hi,hs]
    clear hK hs hp
    simp at hg
    congr 2
    rw [Bool.eq_iff_iff];simp;omega
   ·refine (hK _ _ (bS ?_)).2
    simp -implicitDefEqProofs only [lk,if_true,jO,hi,hs]
    clear hK hs hp
    simp at hg
    simp [hg]
def gz (l:List Nd) (k p:Nat):List Nat:=(bE l k p).filter fun (m:Nat)=>iA l m
theorem LO {l:List Nd} {k p:Nat}:(gz l k p).length≤k:=by
 have:=List.length_filter_le (fun (m:Nat)=>iA l m) (bE l k p)
 have:=sL (l:=l) (k:=k) (p:=p)
 unfold gz;omega
theorem UO (l:List Nd) (ht:fT l=true) (hb:l.length≤8589934592) (n:Nat) (hn:n<l.length):aK Go.Proofs.Tryz.prog 69 [.rv (.sl 49 (br l)),.rv (.int .i64 n)] [] [] (.rv (.sl 1 (aM (bp (bw l n))))):=by
 refine bu Pz [.rv (.sl 49 (br l)),.rv (.int .i64 n)] _ (by simp) (by simp [aP,aY,bq,aW,bk,aC.sv,Ln.sv,Nd.sv]) (fun K hK=>?_)
 have hlen:=an l
 conv in fc _ _ _ _=>reduce
 simp -implicitDefEqProofs only [hlen,go_sem,Int.reduceNegSucc]
 refine fH (ι:=Nat) (fun k=>[(9,.rv (.int .i64 k)),(8,.rv (.int .i64 l.length)),(5,.row 0 (gz l k n).length (gz l k n).length),(0,.rv (.sl 49 (br l))),(1,.rv (.int .i64 n))]) (fun k=>[some (.row 1 (gz l k n).length (aN (aM (bp (gz l k n)))))]) (fun k=>k≤l.length) (fun k=>l.length - k) 0 (by simp) ((qG 5 1 0 rfl).trans (bg (by simp [lk,gz,ue]))) (fun k hk K' hN hX hR=>?_)
 simp -implicitDefEqProofs only [go_sem,Int.reduceNegSucc]
 refine ai (fun hg=>?_) (fun hg=>?_)
 ·have aE:k<l.length:=by simp at hg;omega
  have hx:=iM aE
  have hpk:=lU aE
  have wu:=fB (k:=k) (by omega)
  have gI:=LO (l:=l) (k:=k) (p:=n)
  have hs:=ud (l:=l) (k:=k) (p:=n)
  have hm:=zK l ht k
  have ho:=CC l ht k
  have stay:gz l (k+1) n=gz l k n→∀ e,hJ 1 e [(9,.rv (.int .i64 (k+1:Nat))),(8,.rv (.int .i64 l.length)),(5,.row 0 (gz l k n).length (gz l k n).length),(0,.rv (.sl 49 (br l))),(1,.rv (.int .i64 n))]→K' .normal ⟨e,[some (.row 1 (gz l k n).length (aN (aM (bp (gz l k n)))))]⟩:=fun hs e he=>by
   refine hN (k+1) _ _ (by omega) (by omega) ?_
   rw [hs]
   have:=ny (n0:=0) (env:=e) (h':=[some (.row 1 (gz l k n).length (aN (aM (bp (gz l k n)))))]) (C:=[]) (by simp) ⟨iP,trivial⟩ he
   simpa using this
  by_cases hc:0<k∧bz l k=n
  ·rw [if_pos hc] at hs
   have e1:decide ((k:Int)>0)=true:=decide_eq_true (by omega)
   have e2:(bz l k ==(n:Int))=true:=by simp [hc.2]
   have fs:gz l (k+1) n=gz l k n++if iA l k=true then [k] else []:=by
    unfold gz
    rw [hs,List.filter_append]
    cases hst:iA l k <;> simp [hst]
   cases hmk:iE l k with
   | false=>
     rw [hmk] at hm
     have bB:=hm;repeat' (first | (simp -implicitDefEqProofs only [go_sem,Int.reduceNegSucc,e1,e2,hlen,hx,ak,kJ,hpk,wu]) | (with_reducible refine aA ?_) | (with_reducible first | refine ag bB ?_ | refine ah bB ?_) | ((first | refine ai (fun hg=>?_) (fun hg=>?_) | refine ax (fun hg=>?_) (fun hg=>?_) | refine ay (fun hg=>?_) (fun hg=>?_)) <;> try simp -implicitDefEqProofs only [hg,Bool.not_true,Bool.not_false]) | ((with_reducible apply And.intro);focus (first | trivial | omega | decide | (simp -implicitDefEqProofs only [maxLen];omega) | (simp [maxLen,af,ak,an,av,aj,au,aq] <;> omega))) | fail)
     refine stay ?_ _ (by simp [hJ,lk,jE,jx])
     rw [fs];simp [iA,hmk]
   | true=>
     rw [hmk] at hm
     cases hok:jO l k with
     | true=>
       rw [hok] at ho
       have bG:=hm;have bI:=ho;repeat' (first | (simp -implicitDefEqProofs only [go_sem,Int.reduceNegSucc,e1,e2,hlen,hx,ak,kJ,hpk,wu]) | (with_reducible refine aA ?_) | (with_reducible first | refine ag bG ?_ | refine ah bG ?_) | (with_reducible first | refine ag bI ?_ | refine ah bI ?_) | ((first | refine ai (fun hg=>?_) (fun hg=>?_) | refine ax (fun hg=>?_) (fun hg=>?_) | refine ay (fun hg=>?_) (fun hg=>?_)) <;> try simp -implicitDefEqProofs only [hg,Bool.not_true,Bool.not_false]) | ((with_reducible apply And.intro);focus (first | trivial | omega | decide | (simp -implicitDefEqProofs only [maxLen];omega) | (simp [maxLen,af,ak,an,av,aj,au,aq] <;> omega))) | fail)
       refine stay ?_ _ (by simp [hJ,lk,jE,jx])
       rw [fs];simp [iA,hok]
     | false=>
       rw [hok] at ho
       have hst:iA l k=true:=by simp [iA,hmk,hok]
       rw [hst] at fs
       simp -implicitDefEqProofs only [if_true] at fs
       have htl:(aM (bp (gz l k n))).length=(gz l k n).length:=by simp [aM,bp]
       have jc:(aM (bp (gz l k n))).take (gz l k n).length=aM (bp (gz l k n)):=List.take_of_length_le (by omega)
       have hap:bp (gz l k n)++[(k:Int)]=bp (gz l (k+1) n):=by rw [fs];simp [bp]
       have pG:(gz l (k+1) n).length=(gz l k n).length+1:=by rw [fs];simp
       have bK:=hm;have bL:=ho;repeat' (first | (simp -implicitDefEqProofs only [go_sem,Int.reduceNegSucc,e1,e2,hlen,hx,ak,kJ,hpk,wu,htl,jc,mF,hap]) | (with_reducible refine aA ?_) | (with_reducible first | refine ag bK ?_ | refine ah bK ?_) | (with_reducible first | refine ag bL ?_ | refine ah bL ?_) | ((first | refine ai (fun hg=>?_) (fun hg=>?_) | refine ax (fun hg=>?_) (fun hg=>?_) | refine ay (fun hg=>?_) (fun hg=>?_)) <;> try simp -implicitDefEqProofs only [hg,Bool.not_true,Bool.not_false]) | ((with_reducible apply And.intro);focus (first | trivial | omega | decide | (simp -implicitDefEqProofs only [maxLen];omega) | (simp [maxLen,af,ak,an,av,aj,au,aq] <;> omega))) | fail)
       refine hN (k+1) _ _ (by omega) (by omega) ?_
       rw [pG]
       exact ny (h':=[some (.row 1 ((gz l k n).length+1) (aN (aM (bp (gz l (k+1) n)))))]) (C:=[some (.row 1 0 [[.rv (.int .i64 k)]])]) (by simp) ⟨iP,trivial⟩ (by simp [hJ,lk,jE,jx])
  ·rw [if_neg hc,List.append_nil] at hs
   have hs':gz l (k+1) n=gz l k n:=by unfold gz;rw [hs]
   by_cases h0:0<k
   ·have e1:decide ((k:Int)>0)=true:=decide_eq_true (by omega)
    have e2:(bz l k ==(n:Int))=false:=by
     rw [Bool.eq_false_iff];intro h;exact hc ⟨h0,by simpa using h⟩
    repeat' (first | (simp -implicitDefEqProofs only [go_sem,Int.reduceNegSucc,e1,e2,hlen,hx,ak,kJ,hpk,wu]) | (with_reducible refine aA ?_) | ((first | refine ai (fun hg=>?_) (fun hg=>?_) | refine ax (fun hg=>?_) (fun hg=>?_) | refine ay (fun hg=>?_) (fun hg=>?_)) <;> try simp -implicitDefEqProofs only [hg,Bool.not_true,Bool.not_false]) | ((with_reducible apply And.intro);focus (first | trivial | omega | decide | (simp -implicitDefEqProofs only [maxLen];omega) | (simp [maxLen,af,ak,an,av,aj,au,aq] <;> omega))) | fail)
    exact stay hs' _ (by simp [hJ,lk,jE,jx])
   ·have e1:decide ((k:Int)>0)=false:=decide_eq_false (by omega)
    repeat' (first | (simp -implicitDefEqProofs only [go_sem,Int.reduceNegSucc,e1,wu]) | (with_reducible refine aA ?_) | ((first | refine ai (fun hg=>?_) (fun hg=>?_) | refine ax (fun hg=>?_) (fun hg=>?_) | refine ay (fun hg=>?_) (fun hg=>?_)) <;> try simp -implicitDefEqProofs only [hg,Bool.not_true,Bool.not_false]) | ((with_reducible apply And.intro);focus (first | trivial | omega | decide | (simp -implicitDefEqProofs only [maxLen];omega) | (simp [maxLen,af,ak,an,av,aj,au,aq] <;> omega))) | fail)
    exact stay hs' _ (by simp [hJ,lk,jE,jx])
 ·have aE:k=l.length:=by simp at hg;omega
  subst aE
  have hfa:gz l l.length n=bw l n:=by
   unfold gz bw ic
   rw [if_pos (sK hn)];rfl
  simp -implicitDefEqProofs only [go_sem,Int.reduceNegSucc]
  refine hX _ _ _ ?_
  repeat' (first | (simp -implicitDefEqProofs only [go_sem,Int.reduceNegSucc]) | (with_reducible refine aA ?_) | ((first | refine ai (fun hg=>?_) (fun hg=>?_) | refine ax (fun hg=>?_) (fun hg=>?_) | refine ay (fun hg=>?_) (fun hg=>?_)) <;> try simp -implicitDefEqProofs only [hg,Bool.not_true,Bool.not_false]) | ((with_reducible apply And.intro);focus (first | trivial | omega | decide | (simp -implicitDefEqProofs only [maxLen];omega) | (simp [maxLen,af,ak,an,av,aj,au,aq] <;> omega))) | fail)
  rw [hfa]
  exact (hK _ _ ⟨trivial,pN (xs:=aM (bp (bw l n))) rfl rfl (by simp [aM,bp]) (kI _)⟩).2
def Wr (l:List Nd) (n:Int) (i:Nat):Int:=if ia l n=true∧n<i then (if (i:Int)<AA l n then (i:Int) else AA l n) else 0
end Go.aL

namespace Go.aL
open Go
theorem zf (xs:List Nat):(aM (bp xs)).length=xs.length:=by simp [aM,bp]
def VZ (p:Int→Bool) (xs:List Nat):Int:=match xs.find? (fun (m:Nat)=>p m) with
 | some k=>k
 | none=>-1
end Go.aL

namespace Go.aL
open Go
theorem PY:aU Go.Proofs.Tryz.prog 74 9 (fc Go.Proofs.Tryz.prog 74 9 [(.t 2)]) [(.t 2)]:=bl (by kernel_rfl)
theorem Qb:aU Go.Proofs.Tryz.prog 44 47 (fc Go.Proofs.Tryz.prog 44 47 [(.t 2),(.t 3)]) [(.t 2),(.t 3)]:=bl (by kernel_rfl)
theorem PX:aU Go.Proofs.Tryz.prog 95 12 (fc Go.Proofs.Tryz.prog 95 12 [(.t 6)]) [(.t 6)]:=bl (by kernel_rfl)
theorem Pn:aU Go.Proofs.Tryz.prog 47 9 (fc Go.Proofs.Tryz.prog 47 9 [(.t 2)]) [(.t 2)]:=bl (by kernel_rfl)
theorem Pp:aU Go.Proofs.Tryz.prog 34 30 (fc Go.Proofs.Tryz.prog 34 30 [(.t 2),(.t 3)]) [(.t 2),(.t 3)]:=bl (by kernel_rfl)
theorem Pm:aU Go.Proofs.Tryz.prog 38 16 (fc Go.Proofs.Tryz.prog 38 16 [(.t 6)]) [(.t 6)]:=bl (by kernel_rfl)
def bP (x:Int):Bool:=decide (x≥-1125899906842624) && decide (x≤1125899906842624)
theorem iZ {x:Int}:bP x=true↔-1125899906842624≤x∧x≤1125899906842624:=by simp [bP]
def fS (xs:List Int):Bool:=xs.all bP && bP xs.sum
def ct (xs:List Int):Int:=if fS xs=true then xs.sum else 0
theorem wH (a:Int):a.fdiv (2 ^ min 25 64)=a / 33554432:=by
 rw [Int.fdiv_eq_ediv_of_nonneg _ (by decide)];rfl
theorem Ki (a:Int):IntKind.i64.wrap ((BitVec.ofInt 64 a &&& BitVec.ofInt 64 33554431).toNat:Int)=a % 33554432:=by
 have h1:(BitVec.ofInt 64 a &&& BitVec.ofInt 64 33554431).toNat=(BitVec.ofInt 64 a).toNat % 33554432:=by
  show (BitVec.ofInt 64 a &&& BitVec.ofInt 64 33554431).toNat=_
  rw [BitVec.toNat_and]
  exact Nat.and_two_pow_sub_one_eq_mod _ 25
 have h2:(((BitVec.ofInt 64 a).toNat % 33554432:Nat):Int)=a % 33554432:=by
  rw [BitVec.toNat_ofInt]
  omega
 rw [h1,h2,wrap_i64 (by omega) (by omega)]
theorem uM (a:Int):IntKind.i64.wrap ((@BitVec.toNat 64 (@HAnd.hAnd (BitVec 64) (BitVec 64) (BitVec 64) (@instHAndOfAndOp (BitVec IntKind.i64.bits) (@BitVec.instAndOp IntKind.i64.bits)) (BitVec.ofInt 64 a) (BitVec.ofInt 64 33554431)):Nat):Int)=a % 33554432:=Ki a
theorem lY (x:Int):aK Go.Proofs.Tryz.prog 74 [.rv (.int .i64 x)] [] [] (.rv (.bool (bP x))):=by
 refine bu PY [.rv (.int .i64 x)] _ (by simp) (by simp [aP,aY,bq,aW,bk,aC.sv,Ln.sv,Nd.sv]) (fun K hK=>?_)
 conv in fc _ _ _ _=>reduce
 simp -implicitDefEqProofs only [go_sem,Int.reduceNegSucc]
 repeat' (first | (simp -implicitDefEqProofs only [go_sem,Int.reduceNegSucc]) | (with_reducible refine aA ?_) | ((first | refine ai (fun hg=>?_) (fun hg=>?_) | refine ax (fun hg=>?_) (fun hg=>?_) | refine ay (fun hg=>?_) (fun hg=>?_)) <;> try simp -implicitDefEqProofs only [hg,Bool.not_true,Bool.not_false]) | ((with_reducible apply And.intro);focus (first | trivial | omega | decide | (simp -implicitDefEqProofs only [maxLen];omega) | (simp [maxLen,af,ak,an,av,aj,au,aq] <;> omega))) | fail)
 all_goals (refine (hK _ _ (bS ?_)).2;clear hK;simp_all [lk,bP];try (intro _;omega))
theorem jP (x:Int):aK Go.Proofs.Tryz.prog 47 [.rv (.int .i64 x)] [] [] (.rv (.bool (bP x))):=by
 refine bu Pn [.rv (.int .i64 x)] _ (by simp) (by simp [aP,aY,bq,aW,bk,aC.sv,Ln.sv,Nd.sv]) (fun K hK=>?_)
 conv in fc _ _ _ _=>reduce
 simp -implicitDefEqProofs only [go_sem,Int.reduceNegSucc]
 repeat' (first | (simp -implicitDefEqProofs only [go_sem,Int.reduceNegSucc]) | (with_reducible refine aA ?_) | ((first | refine ai (fun hg=>?_) (fun hg=>?_) | refine ax (fun hg=>?_) (fun hg=>?_) | refine ay (fun hg=>?_) (fun hg=>?_)) <;> try simp -implicitDefEqProofs only [hg,Bool.not_true,Bool.not_false]) | ((with_reducible apply And.intro);focus (first | trivial | omega | decide | (simp -implicitDefEqProofs only [maxLen];omega) | (simp [maxLen,af,ak,an,av,aj,au,aq] <;> omega))) | fail)
 all_goals (refine (hK _ _ (bS ?_)).2;clear hK;simp_all [lk,bP];try (intro _;omega))
def Wt (x:Ln) (d:Int):Int:=if x.kind=1 then x.n else d
def jF (v lo hi:Int):Int:=if (if v>hi then hi else v)<lo then lo else (if v>hi then hi else v)
theorem UB (v lo hi:Int):aK Go.Proofs.Tryz.prog 38 [.rv (.int .i64 v),.rv (.int .i64 lo),.rv (.int .i64 hi)] [] [] (.rv (.int .i64 (jF v lo hi))):=by
 refine bu Pm [.rv (.int .i64 v),.rv (.int .i64 lo),.rv (.int .i64 hi)] _ (by simp) (by simp [aP,aY,bq,aW,bk,aC.sv,Ln.sv,Nd.sv]) (fun K hK=>?_)
 conv in fc _ _ _ _=>reduce
 simp -implicitDefEqProofs only [go_sem,Int.reduceNegSucc]
 repeat' (first | (simp -implicitDefEqProofs only [go_sem,Int.reduceNegSucc]) | (with_reducible refine aA ?_) | ((first | refine ai (fun hg=>?_) (fun hg=>?_) | refine ax (fun hg=>?_) (fun hg=>?_) | refine ay (fun hg=>?_) (fun hg=>?_)) <;> try simp -implicitDefEqProofs only [hg,Bool.not_true,Bool.not_false]) | ((with_reducible apply And.intro);focus (first | trivial | omega | decide | (simp -implicitDefEqProofs only [maxLen];omega) | (simp [maxLen,af,ak,an,av,aj,au,aq] <;> omega))) | fail)
 all_goals (refine (hK _ _ (bS ?_)).2;clear hK;simp_all [lk,jF];try omega)
theorem Ii (v lo hi:Int):aK Go.Proofs.Tryz.prog 95 [.rv (.int .i64 v),.rv (.int .i64 lo),.rv (.int .i64 hi)] [] [] (.rv (.int .i64 (jF v lo hi))):=by
 refine bu PX [.rv (.int .i64 v),.rv (.int .i64 lo),.rv (.int .i64 hi)] _ (by simp) (by simp [aP,aY,bq,aW,bk,aC.sv,Ln.sv,Nd.sv]) (fun K hK=>?_)
 conv in fc _ _ _ _=>reduce
 simp -implicitDefEqProofs only [go_sem,Int.reduceNegSucc]
 repeat' (first | (simp -implicitDefEqProofs only [go_sem,Int.reduceNegSucc]) | (with_reducible refine aA ?_) | ((first | refine ai (fun hg=>?_) (fun hg=>?_) | refine ax (fun hg=>?_) (fun hg=>?_) | refine ay (fun hg=>?_) (fun hg=>?_)) <;> try simp -implicitDefEqProofs only [hg,Bool.not_true,Bool.not_false]) | ((with_reducible apply And.intro);focus (first | trivial | omega | decide | (simp -implicitDefEqProofs only [maxLen];omega) | (simp [maxLen,af,ak,an,av,aj,au,aq] <;> omega))) | fail)
 exact (hK _ _ (bS rfl)).2
theorem Dd {p:Int→Bool} {xs:List Int} (h:∀ i,(h:i<xs.length)→p xs[i]=true):xs.all p=true:=by
 rw [List.all_eq_true];intro x hx
 obtain ⟨i,hi,rfl⟩:=List.getElem_of_mem hx
 exact h i hi
theorem CM {xs:List Int} {k:Nat} (h:k<xs.length):(xs.take (k+1)).sum=(xs.take k).sum+xs[k]:=by
 rw [List.take_succ_eq_append_getElem h,List.sum_append];simp
theorem GG {xs:List Int} {i:Nat} (h:i<xs.length) (hf:bP xs[i]=false):fS xs=false:=by
 unfold fS
 rw [show xs.all bP=false from by
  rw [List.all_eq_false];exact ⟨_,List.getElem_mem h,by simp [hf]⟩]
 rfl
theorem UG (xs:List Int) (hb:xs.length≤1000):aK Go.Proofs.Tryz.prog 34 [.rv (.sl 1 (aM xs))] [] [] (.aO [.rv (.int .i64 (ct xs)),.rv (.bool (fS xs))]):=by
 refine bu Pp [.rv (.sl 1 (aM xs))] _ (by simp) (by simp [aP,aY,bq,aW,bk,aC.sv,Ln.sv,Nd.sv]) (fun K hK=>?_)
 have hl:=aj xs
 conv in fc _ _ _ _=>reduce
 simp -implicitDefEqProofs only [hl,go_sem,Int.reduceNegSucc]
 repeat' (first | (simp -implicitDefEqProofs only [go_sem,Int.reduceNegSucc,hl]) | (with_reducible refine aA ?_) | ((first | refine ai (fun hg=>?_) (fun hg=>?_) | refine ax (fun hg=>?_) (fun hg=>?_) | refine ay (fun hg=>?_) (fun hg=>?_)) <;> try simp -implicitDefEqProofs only [hg,Bool.not_true,Bool.not_false]) | ((with_reducible apply And.intro);focus (first | trivial | omega | decide | (simp -implicitDefEqProofs only [maxLen];omega) | (simp [maxLen,af,ak,an,av,aj,au,aq] <;> omega))) | fail)
 refine fH (ι:=Nat) (fun k=>[(9,.rv (.int .i64 k)),(8,.rv (.int .i64 xs.length)),(4,.rv (.int .i64 (xs.take k).sum)),(5,.rv (.bool true)),(0,.rv (.sl 1 (aM xs)))]) (fun _=>[]) (fun k=>k≤xs.length∧(∀ i,(h:i<xs.length)→i<k→bP xs[i]=true)∧-(1125899906842624*k)≤(xs.take k).sum∧(xs.take k).sum≤1125899906842624*k) (fun k=>xs.length - k) 0 ⟨by simp,fun i _ h=>absurd h (by omega),by simp,by simp⟩ (bg (by simp [lk])) (fun k hk K' hN hX hR=>?_)
 obtain ⟨fJ,hk2,ga,Fa⟩:=hk
 simp -implicitDefEqProofs only [go_sem,Int.reduceNegSucc]
 refine ai (fun hg=>?_) (fun hg=>?_)
 ·have aE:k<xs.length:=by simp at hg;omega
  have hx:=pK aE
  have wu:=fB (k:=k) (by omega)
  have hf:=jP xs[k]
  cases jz:bP xs[k] with
  | false=>
    rw [jz] at hf
    have bf:=hf;repeat' (first | (simp -implicitDefEqProofs only [go_sem,Int.reduceNegSucc,hx,hl,wu]) | (with_reducible refine aA ?_) | (with_reducible first | refine ag bf ?_ | refine ah bf ?_) | ((first | refine ai (fun hg=>?_) (fun hg=>?_) | refine ax (fun hg=>?_) (fun hg=>?_) | refine ay (fun hg=>?_) (fun hg=>?_)) <;> try simp -implicitDefEqProofs only [hg,Bool.not_true,Bool.not_false]) | ((with_reducible apply And.intro);focus (first | trivial | omega | decide | (simp -implicitDefEqProofs only [maxLen];omega) | (simp [maxLen,af,ak,an,av,aj,au,aq] <;> omega))) | fail)
    refine hR _ _ (hK _ _ ?_).2
    have:=GG aE jz
    exact gj (by simp [lk,ct,this]) (by simp [lk,this])
  | true=>
    rw [jz] at hf
    have pg:=iZ.1 jz
    have hst:=CM aE
    have ws:IntKind.i64.wrap ((xs.take k).sum+xs[k])=(xs.take (k+1)).sum:=by rw [wrap_i64 (by omega) (by omega),hst]
    have y_2:=hf;repeat' (first | (simp -implicitDefEqProofs only [go_sem,Int.reduceNegSucc,hx,hl,wu,ws]) | (with_reducible refine aA ?_) | (with_reducible first | refine ag y_2 ?_ | refine ah y_2 ?_) | ((first | refine ai (fun hg=>?_) (fun hg=>?_) | refine ax (fun hg=>?_) (fun hg=>?_) | refine ay (fun hg=>?_) (fun hg=>?_)) <;> try simp -implicitDefEqProofs only [hg,Bool.not_true,Bool.not_false]) | ((with_reducible apply And.intro);focus (first | trivial | omega | decide | (simp -implicitDefEqProofs only [maxLen];omega) | (simp [maxLen,af,ak,an,av,aj,au,aq] <;> omega))) | fail)
    refine hN (k+1) _ _ ⟨by omega,fun i h hi=>?_,by omega,by omega⟩ (by omega) (bg (by simp [lk]))
    by_cases e:i=k
    ·subst e;exact jz
    ·exact hk2 i h (by omega)
 ·have aE:k=xs.length:=by simp at hg;omega
  subst aE
  simp -implicitDefEqProofs only [go_sem,Int.reduceNegSucc]
  refine hX _ _ _ ?_
  have hall:=Dd (fun i h=>hk2 i h h)
  rw [List.take_length] at *
  have hf:=jP xs.sum
  cases jz:bP xs.sum with
  | false=>
    rw [jz] at hf
    have:fS xs=false:=by simp [fS,jz]
    have bB:=hf;repeat' (first | (simp -implicitDefEqProofs only [go_sem,Int.reduceNegSucc]) | (with_reducible refine aA ?_) | (with_reducible first | refine ag bB ?_ | refine ah bB ?_) | ((first | refine ai (fun hg=>?_) (fun hg=>?_) | refine ax (fun hg=>?_) (fun hg=>?_) | refine ay (fun hg=>?_) (fun hg=>?_)) <;> try simp -implicitDefEqProofs only [hg,Bool.not_true,Bool.not_false]) | ((with_reducible apply And.intro);focus (first | trivial | omega | decide | (simp -implicitDefEqProofs only [maxLen];omega) | (simp [maxLen,af,ak,an,av,aj,au,aq] <;> omega))) | fail)
    refine (hK _ _ ?_).2
    exact gj (by simp [lk,ct,this]) (by simp [lk,this])
  | true=>
    rw [jz] at hf
    have:fS xs=true:=by simp [fS,jz,hall]
    have bG:=hf;repeat' (first | (simp -implicitDefEqProofs only [go_sem,Int.reduceNegSucc]) | (with_reducible refine aA ?_) | (with_reducible first | refine ag bG ?_ | refine ah bG ?_) | ((first | refine ai (fun hg=>?_) (fun hg=>?_) | refine ax (fun hg=>?_) (fun hg=>?_) | refine ay (fun hg=>?_) (fun hg=>?_)) <;> try simp -implicitDefEqProofs only [hg,Bool.not_true,Bool.not_false]) | ((with_reducible apply And.intro);focus (first | trivial | omega | decide | (simp -implicitDefEqProofs only [maxLen];omega) | (simp [maxLen,af,ak,an,av,aj,au,aq] <;> omega))) | fail)
    refine (hK _ _ ?_).2
    exact gj (by simp [lk,ct,this]) (by simp [lk,this])
theorem Uo (xs:List Int) (hb:xs.length≤1000):aK Go.Proofs.Tryz.prog 44 [.rv (.sl 1 (aM xs))] [] [] (.aO [.rv (.int .i64 (ct xs)),.rv (.bool (fS xs))]):=by
 refine bu Qb [.rv (.sl 1 (aM xs))] _ (by simp) (by simp [aP,aY,bq,aW,bk,aC.sv,Ln.sv,Nd.sv]) (fun K hK=>?_)
 have hl:=aj xs
 conv in fc _ _ _ _=>reduce
 simp -implicitDefEqProofs only [hl,go_sem,Int.reduceNegSucc]
 repeat' (first | (simp -implicitDefEqProofs only [go_sem,Int.reduceNegSucc,hl]) | (with_reducible refine aA ?_) | ((first | refine ai (fun hg=>?_) (fun hg=>?_) | refine ax (fun hg=>?_) (fun hg=>?_) | refine ay (fun hg=>?_) (fun hg=>?_)) <;> try simp -implicitDefEqProofs only [hg,Bool.not_true,Bool.not_false]) | ((with_reducible apply And.intro);focus (first | trivial | omega | decide | (simp -implicitDefEqProofs only [maxLen];omega) | (simp [maxLen,af,ak,an,av,aj,au,aq] <;> omega))) | fail)
 refine fH (ι:=Nat×Int×Int) (fun q=>[(11,.rv (.int .i64 q.1)),(10,.rv (.int .i64 xs.length)),(9,.rv (.sl 1 (aM xs))),(4,.rv (.int .i64 q.2.1)),(5,.rv (.int .i64 q.2.2))]) (fun _=>[]) (fun q=>q.1≤xs.length∧(∀ i,(h:i<xs.length)→i<q.1→bP xs[i]=true)∧q.2.1*33554432+q.2.2=(xs.take q.1).sum∧-(33554432*q.1)≤q.2.1∧q.2.1≤33554432*q.1∧0≤q.2.2∧q.2.2≤33554432*q.1) (fun q=>xs.length - q.1) (0,0,0) ⟨by simp,fun i _ h=>absurd h (by simp),by simp,by simp,by simp,by simp,by simp⟩ (bg (by simp [lk])) (fun q hk K' hN hX hR=>?_)
 obtain ⟨k,hi,lo⟩:=q
 obtain ⟨fJ,hk2,ga,Fa,Nw,Nx,Ny⟩:=hk
 dsimp only at fJ hk2 ga Fa Nw Nx Ny ⊢
 simp -implicitDefEqProofs only [go_sem,Int.reduceNegSucc]
 refine ai (fun hg=>?_) (fun hg=>?_)
 ·have aE:k<xs.length:=by simp at hg;omega
  have hx:=pK aE
  have wu:=fB (k:=k) (by omega)
  have hf:=lY xs[k]
  cases jz:bP xs[k] with
  | false=>
    rw [jz] at hf
    have bI:=hf;repeat' (first | (simp -implicitDefEqProofs only [go_sem,Int.reduceNegSucc,hx,hl,wu]) | (with_reducible refine aA ?_) | (with_reducible first | refine ag bI ?_ | refine ah bI ?_) | ((first | refine ai (fun hg=>?_) (fun hg=>?_) | refine ax (fun hg=>?_) (fun hg=>?_) | refine ay (fun hg=>?_) (fun hg=>?_)) <;> try simp -implicitDefEqProofs only [hg,Bool.not_true,Bool.not_false]) | ((with_reducible apply And.intro);focus (first | trivial | omega | decide | (simp -implicitDefEqProofs only [maxLen];omega) | (simp [maxLen,af,ak,an,av,aj,au,aq] <;> omega))) | fail)
    refine hR _ _ (hK _ _ ?_).2
    have:=GG aE jz
    exact gj (by simp [lk,ct,this]) (by simp [lk,this])
  | true=>
    rw [jz] at hf
    have pg:=iZ.1 jz
    have hst:=CM aE
    have w1:IntKind.i64.wrap (hi+xs[k] / 33554432)=hi+xs[k] / 33554432:=by rw [wrap_i64 (by omega) (by omega)]
    have w2:IntKind.i64.wrap (lo+xs[k] % 33554432)=lo+xs[k] % 33554432:=by rw [wrap_i64 (by omega) (by omega)]
    have bK:=hf;repeat' (first | (simp -implicitDefEqProofs only [go_sem,Int.reduceNegSucc,hx,hl,wu,wH,uM,w1,w2]) | (with_reducible refine aA ?_) | (with_reducible first | refine ag bK ?_ | refine ah bK ?_) | ((first | refine ai (fun hg=>?_) (fun hg=>?_) | refine ax (fun hg=>?_) (fun hg=>?_) | refine ay (fun hg=>?_) (fun hg=>?_)) <;> try simp -implicitDefEqProofs only [hg,Bool.not_true,Bool.not_false]) | ((with_reducible apply And.intro);focus (first | trivial | omega | decide | (simp -implicitDefEqProofs only [maxLen];omega) | (simp [maxLen,af,ak,an,av,aj,au,aq] <;> omega))) | fail)
    refine hN (k+1,hi+xs[k] / 33554432,lo+xs[k] % 33554432) _ _ ⟨by dsimp only;omega,fun i h hi=>?_,by dsimp only;omega,by dsimp only;omega,by dsimp only;omega,by dsimp only;omega,by dsimp only;omega⟩ (by dsimp only;omega) (bg (by simp [lk]))
    dsimp only at hi
    by_cases e:i=k
    ·subst e;exact jz
    ·exact hk2 i h (by omega)
 ·have aE:k=xs.length:=by simp at hg;omega
  subst aE
  simp -implicitDefEqProofs only [go_sem,Int.reduceNegSucc]
  refine hX _ _ _ ?_
  have hall:=Dd (fun i h=>hk2 i h h)
  rw [List.take_length] at *
  have w1:IntKind.i64.wrap (hi+lo / 33554432)=hi+lo / 33554432:=by rw [wrap_i64 (by omega) (by omega)]
  by_cases h1:hi+lo / 33554432 < -33554432
  ·have e1:decide (hi+lo / 33554432 < -33554432)=true:=decide_eq_true h1
   have:fS xs=false:=by
    have:bP xs.sum=false:=by rw [Bool.eq_false_iff];intro h;have:=iZ.1 h;omega
    simp [fS,this]
   repeat' (first | (simp -implicitDefEqProofs only [go_sem,Int.reduceNegSucc,wH,uM,w1,e1]) | (with_reducible refine aA ?_) | ((first | refine ai (fun hg=>?_) (fun hg=>?_) | refine ax (fun hg=>?_) (fun hg=>?_) | refine ay (fun hg=>?_) (fun hg=>?_)) <;> try simp -implicitDefEqProofs only [hg,Bool.not_true,Bool.not_false]) | ((with_reducible apply And.intro);focus (first | trivial | omega | decide | (simp -implicitDefEqProofs only [maxLen];omega) | (simp [maxLen,af,ak,an,av,aj,au,aq] <;> omega))) | fail)
   refine (hK _ _ ?_).2
   exact gj (by simp [lk,ct,this]) (by simp [lk,this])
  ·have e1:decide (hi+lo / 33554432 < -33554432)=false:=decide_eq_false h1
   by_cases h2:hi+lo / 33554432>33554432
   ·have e2:decide (hi+lo / 33554432>33554432)=true:=decide_eq_true h2
    have:fS xs=false:=by
     have:bP xs.sum=false:=by rw [Bool.eq_false_iff];intro h;have:=iZ.1 h;omega
     simp [fS,this]
    repeat' (first | (simp -implicitDefEqProofs only [go_sem,Int.reduceNegSucc,wH,uM,w1,e1,e2]) | (with_reducible refine aA ?_) | ((first | refine ai (fun hg=>?_) (fun hg=>?_) | refine ax (fun hg=>?_) (fun hg=>?_) | refine ay (fun hg=>?_) (fun hg=>?_)) <;> try simp -implicitDefEqProofs only [hg,Bool.not_true,Bool.not_false]) | ((with_reducible apply And.intro);focus (first | trivial | omega | decide | (simp -implicitDefEqProofs only [maxLen];omega) | (simp [maxLen,af,ak,an,av,aj,au,aq] <;> omega))) | fail)
    refine (hK _ _ ?_).2
    exact gj (by simp [lk,ct,this]) (by simp [lk,this])
   ·have e2:decide (hi+lo / 33554432>33554432)=false:=decide_eq_false h2
    have hf:=lY xs.sum
    have w2:IntKind.i64.wrap (IntKind.i64.wrap ((hi+lo / 33554432)*2 ^ min 25 64)+lo % 33554432)=xs.sum:=by
     rw [show (2:Int) ^ min 25 64=33554432 from rfl,wrap_i64 (n:=(hi+lo / 33554432)*33554432) (by omega) (by omega),wrap_i64 (by omega) (by omega)]
     omega
    cases jz:bP xs.sum with
    | false=>
      rw [jz] at hf
      have:fS xs=false:=by simp [fS,jz]
      have bL:=hf;repeat' (first | (simp -implicitDefEqProofs only [go_sem,Int.reduceNegSucc,wH,uM,w1,e1,e2,w2]) | (with_reducible refine aA ?_) | (with_reducible first | refine ag bL ?_ | refine ah bL ?_) | ((first | refine ai (fun hg=>?_) (fun hg=>?_) | refine ax (fun hg=>?_) (fun hg=>?_) | refine ay (fun hg=>?_) (fun hg=>?_)) <;> try simp -implicitDefEqProofs only [hg,Bool.not_true,Bool.not_false]) | ((with_reducible apply And.intro);focus (first | trivial | omega | decide | (simp -implicitDefEqProofs only [maxLen];omega) | (simp [maxLen,af,ak,an,av,aj,au,aq] <;> omega))) | fail)
      refine (hK _ _ ?_).2
      exact gj (by simp [lk,ct,this]) (by simp [lk,this])
    | true=>
      rw [jz] at hf
      have:fS xs=true:=by simp [fS,jz,hall]
      have bO:=hf;repeat' (first | (simp -implicitDefEqProofs only [go_sem,Int.reduceNegSucc,wH,uM,w1,e1,e2,w2]) | (with_reducible refine aA ?_) | (with_reducible first | refine ag bO ?_ | refine ah bO ?_) | ((first | refine ai (fun hg=>?_) (fun hg=>?_) | refine ax (fun hg=>?_) (fun hg=>?_) | refine ay (fun hg=>?_) (fun hg=>?_)) <;> try simp -implicitDefEqProofs only [hg,Bool.not_true,Bool.not_false]) | ((with_reducible apply And.intro);focus (first | trivial | omega | decide | (simp -implicitDefEqProofs only [maxLen];omega) | (simp [maxLen,af,ak,an,av,aj,au,aq] <;> omega))) | fail)
      refine (hK _ _ ?_).2
      exact gj (by simp [lk,ct,this]) (by simp [lk,this])
end Go.aL

namespace Go.aL
open Go
theorem QE:aU Go.Proofs.Tryz.prog 63 49 (fc Go.Proofs.Tryz.prog 63 49 [(.c 6 2 true),(.t 7)]) [(.c 6 2 true),(.t 7)]:=bl (by kernel_rfl)
theorem QC:aU Go.Proofs.Tryz.prog 64 20 (fc Go.Proofs.Tryz.prog 64 20 [(.t 6),(.t 7)]) [(.t 6),(.t 7)]:=bl (by kernel_rfl)
theorem QD:aU Go.Proofs.Tryz.prog 65 20 (fc Go.Proofs.Tryz.prog 65 20 [(.t 6),(.t 7)]) [(.t 6),(.t 7)]:=bl (by kernel_rfl)
theorem QF:aU Go.Proofs.Tryz.prog 92 10 (fc Go.Proofs.Tryz.prog 92 10 [(.t 4)]) [(.t 4)]:=bl (by kernel_rfl)
theorem Qa:aU Go.Proofs.Tryz.prog 91 35 (fc Go.Proofs.Tryz.prog 91 35 [(.t 4),(.t 5)]) [(.t 4),(.t 5)]:=bl (by kernel_rfl)
theorem Qc:aU Go.Proofs.Tryz.prog 111 16 (fc Go.Proofs.Tryz.prog 111 16 [(.t 4)]) [(.t 4)]:=bl (by kernel_rfl)
theorem QU:aU Go.Proofs.Tryz.prog 115 8 (fc Go.Proofs.Tryz.prog 115 8 [(.c 2 2 true)]) [(.c 2 2 true)]:=bl (by kernel_rfl)
theorem QT:aU Go.Proofs.Tryz.prog 116 16 (fc Go.Proofs.Tryz.prog 116 16 [(.c 4 2 true)]) [(.c 4 2 true)]:=bl (by kernel_rfl)
theorem QV:aU Go.Proofs.Tryz.prog 80 12 (fc Go.Proofs.Tryz.prog 80 12 [(.t 2),(.t 3)]) [(.t 2),(.t 3)]:=bl (by kernel_rfl)
theorem PZ:aU Go.Proofs.Tryz.prog 123 5 (fc Go.Proofs.Tryz.prog 123 5 [(.t 2)]) [(.t 2)]:=bl (by kernel_rfl)
theorem Qk:aU Go.Proofs.Tryz.prog 29 25 (fc Go.Proofs.Tryz.prog 29 25 [(.t 4)]) [(.t 4)]:=bl (by kernel_rfl)
structure Sz where
 auto:Bool
 n:Int
 deriving DecidableEq,Inhabited
def Sz.cells (x:Sz):List RV:=[.bool x.auto,.int .i64 x.n]
abbrev Sz.sv (x:Sz):SV:=.agg (x.cells.map .rv)
structure Su where
 p:Int
 n:Int
 deriving DecidableEq,Inhabited
def Su.cells (x:Su):List RV:=[.int .i64 x.p,.int .i64 x.n]
abbrev Su.sv (x:Su):SV:=.agg (x.cells.map .rv)
def kW (b p:Int):Bool:=decide (0≤b∧b≤1125899906842624∧-1000000≤p∧p≤1000000) && bP (b*p / 10000)
def lF (b p:Int):Int:=if kW b p=true then b*p / 10000 else 0
def fR (x:Ln) (b:Int) (has:Bool):Sz:=if x.kind=0∨x.kind=2∧has=false then ⟨true,0⟩ else if x.kind=1∧bP x.n=true then ⟨false,x.n⟩ else if x.kind=2 then ⟨false,lF b x.n⟩ else ⟨false,0⟩
def gS (x:Ln) (b:Int) (has:Bool):Bool:=decide (x.kind=0) || decide (x.kind=2) && (!has || kW b x.n) || decide (x.kind=1) && bP x.n
def bh (x:Sz) (d:Int):Int:=if x.auto=true then d else x.n
def fM (a b:Su):Su:=⟨max a.p b.p,min a.n b.n⟩
def iN (a:Su):Int:=ct [a.p,a.n]
def nS (a:Su):Bool:=fS [a.p,a.n]
def iL (w:Int) (h:Sz):Bool:=decide (0≤w∧w≤1125899906842624) && (h.auto || decide (0≤h.n∧h.n≤1125899906842624))
theorem Um (x:Int):aK Go.Proofs.Tryz.prog 123 [.rv (.int .i64 x)] [] [] (.rv (.int .i64 (x / 2))):=by
 refine bu PZ [.rv (.int .i64 x)] _ (by simp) (by simp [aP,aY,bq,aW,bk,aC.sv,Ln.sv,Nd.sv]) (fun K hK=>?_)
 conv in fc _ _ _ _=>reduce
 simp -implicitDefEqProofs only [go_sem,Int.reduceNegSucc]
 repeat' (first | (simp -implicitDefEqProofs only [go_sem,Int.reduceNegSucc]) | (with_reducible refine aA ?_) | ((first | refine ai (fun hg=>?_) (fun hg=>?_) | refine ax (fun hg=>?_) (fun hg=>?_) | refine ay (fun hg=>?_) (fun hg=>?_)) <;> try simp -implicitDefEqProofs only [hg,Bool.not_true,Bool.not_false]) | ((with_reducible apply And.intro);focus (first | trivial | omega | decide | (simp -implicitDefEqProofs only [maxLen];omega) | (simp [maxLen,af,ak,an,av,aj,au,aq] <;> omega))) | fail)
 refine (hK _ _ (bS ?_)).2
 simp [lk]
 exact Int.fdiv_eq_ediv_of_nonneg _ (by decide)
theorem ni (x:Sz) (d:Int):aK Go.Proofs.Tryz.prog 92 [x.sv,.rv (.int .i64 d)] [] [] (.rv (.int .i64 (bh x d))):=by
 refine bu QF [x.sv,.rv (.int .i64 d)] _ (by simp) (by simp [aP,aY,bq,aW,bk,aC.sv,Ln.sv,Nd.sv]) (fun K hK=>?_)
 conv in fc _ _ _ _=>reduce
 simp -implicitDefEqProofs only [Sz.sv,Sz.cells,go_sem,Int.reduceNegSucc]
 repeat' (first | (simp -implicitDefEqProofs only [go_sem,Int.reduceNegSucc]) | (with_reducible refine aA ?_) | ((first | refine ai (fun hg=>?_) (fun hg=>?_) | refine ax (fun hg=>?_) (fun hg=>?_) | refine ay (fun hg=>?_) (fun hg=>?_)) <;> try simp -implicitDefEqProofs only [hg,Bool.not_true,Bool.not_false]) | ((with_reducible apply And.intro);focus (first | trivial | omega | decide | (simp -implicitDefEqProofs only [maxLen];omega) | (simp [maxLen,af,ak,an,av,aj,au,aq] <;> omega))) | fail)
 all_goals (refine (hK _ _ ?_).2;clear hK;simp -implicitDefEqProofs only [go_sem,Int.reduceNegSucc,aQ,aS,aX,bn,aI,aG,aF,bh] <;>(try simp_all [-Int.not_lt,-Int.not_le,aI,aG,aF,bA,bh]) <;> try omega)
theorem Ix (x:Int):aK Go.Proofs.Tryz.prog 115 [.rv (.int .i64 x)] [] [] (Su.sv ⟨max x 0,min x 0⟩):=by
 refine bu QU [.rv (.int .i64 x)] _ (by simp) (by simp [aP,aY,bq,aW,bk,aC.sv,Ln.sv,Nd.sv]) (fun K hK=>?_)
 conv in fc _ _ _ _=>reduce
 simp -implicitDefEqProofs only [Su.sv,Su.cells,go_sem,Int.reduceNegSucc]
 repeat' (first | (simp -implicitDefEqProofs only [go_sem,Int.reduceNegSucc]) | (with_reducible refine aA ?_) | ((first | refine ai (fun hg=>?_) (fun hg=>?_) | refine ax (fun hg=>?_) (fun hg=>?_) | refine ay (fun hg=>?_) (fun hg=>?_)) <;> try simp -implicitDefEqProofs only [hg,Bool.not_true,Bool.not_false]) | ((with_reducible apply And.intro);focus (first | trivial | omega | decide | (simp -implicitDefEqProofs only [maxLen];omega) | (simp [maxLen,af,ak,an,av,aj,au,aq] <;> omega))) | fail)
 all_goals (refine (hK _ _ ?_).2;clear hK;simp -implicitDefEqProofs only [go_sem,Int.reduceNegSucc,aQ,aS,aX,bn,aI,aG,aF,Su.sv,Su.cells] <;>(try simp_all [-Int.not_lt,-Int.not_le,aI,aG,aF,bA,Su.sv,Su.cells]) <;> try omega)
theorem uC (a b:Su):aK Go.Proofs.Tryz.prog 116 [a.sv,b.sv] [] [] (fM a b).sv:=by
 refine bu QT [a.sv,b.sv] _ (by simp) (by simp [aP,aY,bq,aW,bk,aC.sv,Ln.sv,Nd.sv]) (fun K hK=>?_)
 conv in fc _ _ _ _=>reduce
 simp -implicitDefEqProofs only [Su.sv,Su.cells,go_sem,Int.reduceNegSucc]
 repeat' (first | (simp -implicitDefEqProofs only [go_sem,Int.reduceNegSucc]) | (with_reducible refine aA ?_) | ((first | refine ai (fun hg=>?_) (fun hg=>?_) | refine ax (fun hg=>?_) (fun hg=>?_) | refine ay (fun hg=>?_) (fun hg=>?_)) <;> try simp -implicitDefEqProofs only [hg,Bool.not_true,Bool.not_false]) | ((with_reducible apply And.intro);focus (first | trivial | omega | decide | (simp -implicitDefEqProofs only [maxLen];omega) | (simp [maxLen,af,ak,an,av,aj,au,aq] <;> omega))) | fail)
 all_goals (refine (hK _ _ ?_).2;clear hK;simp -implicitDefEqProofs only [go_sem,Int.reduceNegSucc,aQ,aS,aX,bn,aI,aG,aF,Su.sv,Su.cells,fM] <;>(try simp_all [-Int.not_lt,-Int.not_le,aI,aG,aF,bA,Su.sv,Su.cells,fM]) <;> try omega)
def kS (xs:List Int):List (List SV):=xs.map fun x=>[.rv (.int .i64 x)]
theorem BE (xs:List Int):kS xs=aN (aM xs):=by simp [kS,aN,aM]
theorem sZ (id:Nat) (xs:List Int) (hb:xs.length≤1000):aK Go.Proofs.Tryz.prog 44 [.row id 0 xs.length] [(id,.row 1 0 (kS xs))] [] (.aO [.rv (.int .i64 (ct xs)),.rv (.bool (fS xs))]):=by
 have:=Gi (id:=id) (v:=0) (n:=xs.length) (bs:=[]) (rs:=[.int .i64 (ct xs),.bool (fS xs)]) (Uo xs hb) (by simp;exact ⟨.int _ _,.bool _⟩) (by rw [aj]) (kI _)
 rw [BE];exact this
theorem CG (a:Su):aK Go.Proofs.Tryz.prog 80 [a.sv] [] [] (.aO [.rv (.int .i64 (iN a)),.rv (.bool (nS a))]):=by
 refine bu QV [a.sv] _ (by simp) (by simp [aP,aY,bq,aW,bk,aC.sv,Ln.sv,Nd.sv]) (fun K hK=>?_)
 have hs:=fun id=>sZ id [a.p,a.n] (by simp)
 conv in fc _ _ _ _=>reduce
 simp -implicitDefEqProofs only [Su.sv,Su.cells,go_sem,Int.reduceNegSucc]
 simp [kS] at hs
 have bf:=hs;repeat' (first | (simp -implicitDefEqProofs only [go_sem,Int.reduceNegSucc]) | (with_reducible refine aA ?_) | ((first | refine bQ (bf _) ?_ ?_ ?_ | refine bV (bf _) ?_ ?_ ?_ | fail);(focus (simp [aT,aB] <;> fail));(focus (simp [aZ,aR] <;> fail))) | ((first | refine ai (fun hg=>?_) (fun hg=>?_) | refine ax (fun hg=>?_) (fun hg=>?_) | refine ay (fun hg=>?_) (fun hg=>?_)) <;> try simp -implicitDefEqProofs only [hg,Bool.not_true,Bool.not_false]) | ((with_reducible apply And.intro);focus (first | trivial | omega | decide | (simp -implicitDefEqProofs only [maxLen];omega) | (simp [maxLen,af,ak,an,av,aj,au,aq] <;> omega))) | fail)
 all_goals (refine (hK _ _ ?_).2;clear hK;simp -implicitDefEqProofs only [go_sem,Int.reduceNegSucc,aQ,aS,aX,bn,aI,aG,aF,iN,nS] <;>(try simp_all [-Int.not_lt,-Int.not_le,aI,aG,aF,bA,iN,nS]) <;> try omega)
theorem Ij (w:Int) (h:Sz):aK Go.Proofs.Tryz.prog 29 [.rv (.int .i64 w),h.sv] [] [] (.rv (.bool (iL w h))):=by
 refine bu Qk [.rv (.int .i64 w),h.sv] _ (by simp) (by simp [aP,aY,bq,aW,bk,aC.sv,Ln.sv,Nd.sv]) (fun K hK=>?_)
 conv in fc _ _ _ _=>reduce
 simp -implicitDefEqProofs only [Sz.sv,Sz.cells,go_sem,Int.reduceNegSucc]
 repeat' (first | (simp -implicitDefEqProofs only [go_sem,Int.reduceNegSucc]) | (with_reducible refine aA ?_) | ((first | refine ai (fun hg=>?_) (fun hg=>?_) | refine ax (fun hg=>?_) (fun hg=>?_) | refine ay (fun hg=>?_) (fun hg=>?_)) <;> try simp -implicitDefEqProofs only [hg,Bool.not_true,Bool.not_false]) | ((with_reducible apply And.intro);focus (first | trivial | omega | decide | (simp -implicitDefEqProofs only [maxLen];omega) | (simp [maxLen,af,ak,an,av,aj,au,aq] <;> omega))) | fail)
 all_goals (refine (hK _ _ ?_).2;clear hK;simp -implicitDefEqProofs only [go_sem,Int.reduceNegSucc,aQ,aS,aX,bn,aI,aG,aF,iL] <;>(try simp_all [-Int.not_lt,-Int.not_le,aI,aG,aF,bA,iL]) <;> try omega)
end Go.aL

namespace Go.aL
open Go Go.Proofs
theorem Kc:fC Go.Proofs.Tryz.prog 2=some false:=by kernel_rfl
theorem Ka:fC Go.Proofs.Tryz.prog 4=some false:=by kernel_rfl
theorem Ke:fC Go.Proofs.Tryz.prog 24=some true:=by kernel_rfl
theorem SA {rs:List RV} (h:jk Go.Proofs.Tryz.prog 1 2 rs):∃ i:Int,nt Go.Proofs.Tryz.prog 2 rs = .rv (.int .i64 i):=by
 obtain ⟨i,rfl⟩:=pP h
 exact ⟨i,xu Kc⟩
theorem Sx {rs:List RV} (h:jk Go.Proofs.Tryz.prog 1 4 rs):∃ i:Bool,nt Go.Proofs.Tryz.prog 4 rs = .rv (.bool i):=by
 obtain ⟨i,rfl⟩:=uE h
 exact ⟨i,xu Ka⟩
theorem SC {rs:List RV} (h:jk Go.Proofs.Tryz.prog 2 24 rs):∃ x:Sz,nt Go.Proofs.Tryz.prog 24 rs=x.sv:=by
 have h:=zP Tryz.underlying24 h
 obtain ⟨_,_,rfl,h1,_,_,rfl,h2,rfl⟩:=h
 obtain ⟨a,rfl⟩:=uE h1
 obtain ⟨b,rfl⟩:=pP h2
 exact ⟨⟨a,b⟩,Kp Ke⟩
end Go.aL

namespace Go.aL
open Go
theorem Qx:aU Go.Proofs.Tryz.prog 97 51 (fc Go.Proofs.Tryz.prog 97 51 [(.t 4),(.t 5)]) [(.t 4),(.t 5)]:=bl (by kernel_rfl)
theorem Qw:aU Go.Proofs.Tryz.prog 124 25 (fc Go.Proofs.Tryz.prog 124 25 [(.t 2)]) [(.t 2)]:=bl (by kernel_rfl)
theorem Qv:aU Go.Proofs.Tryz.prog 118 6 (fc Go.Proofs.Tryz.prog 118 6 [(.t 2)]) [(.t 2)]:=bl (by kernel_rfl)
theorem wrap_u64 {n:Int} (h1:0≤n) (h2:n<18446744073709551616):IntKind.u64.wrap n=n:=by
 have:IntKind.u64.wrap n=n % 18446744073709551616:=by rfl
 rw [this];omega
theorem De (a:Int):IntKind.u64.wrap ((@BitVec.toNat 64 (@HAnd.hAnd (BitVec 64) (BitVec 64) (BitVec 64) (@instHAndOfAndOp (BitVec IntKind.u64.bits) (@BitVec.instAndOp IntKind.u64.bits)) (BitVec.ofInt 64 a) (BitVec.ofInt 64 4294967295)):Nat):Int)=a % 4294967296:=by
 have h1:(BitVec.ofInt 64 a &&& BitVec.ofInt 64 4294967295).toNat=(BitVec.ofInt 64 a).toNat % 4294967296:=by
  show (BitVec.ofInt 64 a &&& BitVec.ofInt 64 4294967295).toNat=_
  rw [BitVec.toNat_and]
  exact Nat.and_two_pow_sub_one_eq_mod _ 32
 have h2:(((BitVec.ofInt 64 a).toNat % 4294967296:Nat):Int)=a % 4294967296:=by
  rw [BitVec.toNat_ofInt]
  omega
 have h3:((BitVec.ofInt 64 a &&& BitVec.ofInt 64 4294967295).toNat:Int)=a % 4294967296:=by rw [h1,h2]
 exact (congrArg IntKind.u64.wrap h3).trans (wrap_u64 (by omega) (by omega))
theorem Tu (a:Int):a.fdiv (2 ^ min 32 64)=a / 4294967296:=by
 rw [Int.fdiv_eq_ediv_of_nonneg _ (by decide)];rfl
theorem BY {a b A B:Int} (h0:0≤a) (h:a≤A) (h1:0≤b) (h2:b≤B):0≤a*b∧a*b≤A*B:=
 ⟨Int.mul_nonneg h0 h1,Int.mul_le_mul h h2 h1 (by omega)⟩
theorem Ib (x y:Int) (hx:0≤x) (Wo:x≤1125899906842624) (hy:0≤y) (yO:y≤1000000):aK Go.Proofs.Tryz.prog 97 [.rv (.int .u64 x),.rv (.int .u64 y)] [] [] (.aO [.rv (.int .u64 (x*y / 18446744073709551616)),.rv (.int .u64 (x*y % 18446744073709551616))]):=by
 refine bu Qx [.rv (.int .u64 x),.rv (.int .u64 y)] _ (by simp) (by simp [aP,aY,bq,aW,bk,aC.sv,Ln.sv,Nd.sv]) (fun K hK=>?_)
 have y0:y % 4294967296=y:=by omega
 have y1:y / 4294967296=0:=by omega
 have m1:=BY (a:=x % 4294967296) (b:=y) (A:=4294967295) (B:=1000000) (by omega) (by omega) hy yO
 have m2:=BY (a:=x / 4294967296) (b:=y) (A:=262144) (B:=1000000) (by omega) (by omega) hy yO
 have e:x*y=x / 4294967296*y*4294967296+x % 4294967296*y:=by
  conv=>lhs;rw [← Int.mul_ediv_add_emod x 4294967296]
  rw [Int.add_mul,Int.mul_comm 4294967296,Int.mul_assoc,Int.mul_comm 4294967296,Int.mul_assoc]
 generalize hA:x % 4294967296*y=A at *
 generalize hB:x / 4294967296*y=B at *
 have w1:IntKind.u64.wrap A=A:=wrap_u64 (by omega) (by omega)
 have w2:IntKind.u64.wrap B=B:=wrap_u64 (by omega) (by omega)
 have w3:IntKind.u64.wrap (B+A / 4294967296)=B+A / 4294967296:=wrap_u64 (by omega) (by omega)
 have w4:IntKind.u64.wrap 0=0:=rfl
 have w5:IntKind.u64.wrap ((B+A / 4294967296) % 4294967296+0)=(B+A / 4294967296) % 4294967296:=by rw [Int.add_zero];exact wrap_u64 (by omega) (by omega)
 have w6:IntKind.u64.wrap (0+(B+A / 4294967296) / 4294967296)=(B+A / 4294967296) / 4294967296:=by rw [Int.zero_add];exact wrap_u64 (by omega) (by omega)
 have w7:IntKind.u64.wrap ((B+A / 4294967296) / 4294967296+(B+A / 4294967296) % 4294967296 / 4294967296)=x*y / 18446744073709551616:=by rw [wrap_u64 (by omega) (by omega)];omega
 have w8:IntKind.u64.wrap (x*y)=x*y % 18446744073709551616:=rfl
 conv in fc _ _ _ _=>reduce
 simp -implicitDefEqProofs only [go_sem,Int.reduceNegSucc]
 repeat' (first | (simp -implicitDefEqProofs only [go_sem,Int.reduceNegSucc,De,Tu,y0,y1,hA,hB,w1,w2,w3,Int.mul_zero,w4,w5,w6,w7,w8]) | (with_reducible refine aA ?_) | ((first | refine ai (fun hg=>?_) (fun hg=>?_) | refine ax (fun hg=>?_) (fun hg=>?_) | refine ay (fun hg=>?_) (fun hg=>?_)) <;> try simp -implicitDefEqProofs only [hg,Bool.not_true,Bool.not_false]) | ((with_reducible apply And.intro);focus (first | trivial | omega | decide | (simp -implicitDefEqProofs only [maxLen];omega) | (simp [maxLen,af,ak,an,av,aj,au,aq] <;> omega))) | fail)
 exact (hK _ _ (gj rfl rfl)).2
theorem TV:aK Go.Proofs.Tryz.prog 124 [.rv (.int .u64 10000)] [] [] (.rv (.int .i64 14)):=by
 refine bu Qw [.rv (.int .u64 10000)] _ (by simp) (by simp [aP,aY,bq,aW,bk,aC.sv,Ln.sv,Nd.sv]) (fun K hK=>?_)
 have g1:decide ((10000:Int)≥4294967296)=false:=rfl
 have g2:decide ((10000:Int)≥65536)=false:=rfl
 have g3:decide ((10000:Int)≥256)=true:=rfl
 have s1:(10000:Int).fdiv (2 ^ min 8 64)=39:=rfl
 have s2:IntKind.i64.wrap (0+8)=8:=rfl
 have s3:IntKind.u8.wrap 39=39:=rfl
 conv in fc _ _ _ _=>reduce
 simp -implicitDefEqProofs only [go_sem,Int.reduceNegSucc]
 repeat' (first | (simp -implicitDefEqProofs only [go_sem,Int.reduceNegSucc,g1,g2,g3,s1,s2,s3]) | (with_reducible refine aA ?_) | ((first | refine ai (fun hg=>?_) (fun hg=>?_) | refine ax (fun hg=>?_) (fun hg=>?_) | refine ay (fun hg=>?_) (fun hg=>?_)) <;> try simp -implicitDefEqProofs only [hg,Bool.not_true,Bool.not_false]) | ((with_reducible apply And.intro);focus (first | trivial | omega | decide | (simp -implicitDefEqProofs only [maxLen];omega) | (simp [maxLen,af,ak,an,av,aj,au,aq] <;> omega))) | fail)
 exact (hK _ _ (bS (by rfl))).2
theorem TT:aK Go.Proofs.Tryz.prog 118 [.rv (.int .u64 10000)] [] [] (.rv (.int .i64 50)):=by
 refine bu Qv [.rv (.int .u64 10000)] _ (by simp) (by simp [aP,aY,bq,aW,bk,aC.sv,Ln.sv,Nd.sv]) (fun K hK=>?_)
 have h:=TV
 have s2:IntKind.i64.wrap (64 - 14)=50:=rfl
 conv in fc _ _ _ _=>reduce
 simp -implicitDefEqProofs only [go_sem,Int.reduceNegSucc]
 have bf:=h;repeat' (first | (simp -implicitDefEqProofs only [go_sem,Int.reduceNegSucc,s2]) | (with_reducible refine aA ?_) | (with_reducible first | refine ag bf ?_ | refine ah bf ?_) | ((first | refine ai (fun hg=>?_) (fun hg=>?_) | refine ax (fun hg=>?_) (fun hg=>?_) | refine ay (fun hg=>?_) (fun hg=>?_)) <;> try simp -implicitDefEqProofs only [hg,Bool.not_true,Bool.not_false]) | ((with_reducible apply And.intro);focus (first | trivial | omega | decide | (simp -implicitDefEqProofs only [maxLen];omega) | (simp [maxLen,af,ak,an,av,aj,au,aq] <;> omega))) | fail)
 exact (hK _ _ (bS rfl)).2
end Go.aL

namespace Go.aL
open Go
theorem Qu:aU Go.Proofs.Tryz.prog 98 135 (fc Go.Proofs.Tryz.prog 98 135 [(.t 6),(.t 7)]) [(.t 6),(.t 7)]:=bl (by kernel_rfl)
theorem zU (n:Int):IntKind.u64.wrap n=n % 18446744073709551616:=rfl
theorem SE (a b:Nat) (hb:b<2 ^ 50) (ha:a<2 ^ 14):IntKind.u64.wrap ((@BitVec.toNat 64 (@HOr.hOr (BitVec 64) (BitVec 64) (BitVec 64) (@instHOrOfOrOp (BitVec IntKind.u64.bits) (@BitVec.instOrOp IntKind.u64.bits)) (BitVec.ofInt 64 ((a:Int)*1125899906842624)) (BitVec.ofInt 64 (b:Int))):Nat):Int)=(a:Int)*1125899906842624+b:=by
 have h1:(BitVec.ofInt 64 ((a:Int)*1125899906842624)).toNat=a <<< 50:=by
  rw [BitVec.toNat_ofInt,Nat.shiftLeft_eq];omega
 have h2:(BitVec.ofInt 64 (b:Int)).toNat=b:=by rw [BitVec.toNat_ofInt];omega
 have h3:(BitVec.ofInt 64 ((a:Int)*1125899906842624) ||| BitVec.ofInt 64 (b:Int)).toNat=a*2 ^ 50+b:=by
  rw [BitVec.toNat_or,h1,h2,← Nat.shiftLeft_add_eq_or_of_lt hb,Nat.shiftLeft_eq]
 have h4:((BitVec.ofInt 64 ((a:Int)*1125899906842624) ||| BitVec.ofInt 64 (b:Int)).toNat:Int)=(a:Int)*1125899906842624+b:=by rw [h3];omega
 exact (congrArg IntKind.u64.wrap h4).trans (wrap_u64 (by omega) (by omega))
theorem HX (hi lo:Nat) (h1:hi<1024) (h2:lo<18446744073709551616):aK Go.Proofs.Tryz.prog 98 [.rv (.int .u64 hi),.rv (.int .u64 lo),.rv (.int .u64 10000)] [] []
 (.aO [.rv (.int .u64 (((hi:Int)*18446744073709551616+lo) / 10000)),.rv (.int .u64 (((hi:Int)*18446744073709551616+lo) % 10000))]):=by
 refine bu Qu [.rv (.int .u64 hi),.rv (.int .u64 lo),.rv (.int .u64 10000)] _ (by simp) (by simp [aP,aY,bq,aW,bk,aC.sv,Ln.sv,Nd.sv]) (fun K hK=>?_)
 have g1:((10000:Int) == 0)=false:=rfl
 have g2:decide ((10000:Int)≤hi)=false:=decide_eq_false (by omega)
 by_cases h0:hi=0
 ·subst h0
  have g3:(((0:Nat):Int) == 0)=true:=rfl
  have t1:(lo:Int).tdiv 10000=lo / 10000:=Int.tdiv_eq_ediv_of_nonneg (by omega)
  have t2:(lo:Int).tmod 10000=lo % 10000:=Int.tmod_eq_emod_of_nonneg (by omega)
  have w1:IntKind.u64.wrap ((lo:Int) / 10000)=lo / 10000:=wrap_u64 (by omega) (by omega)
  conv in fc _ _ _ _=>reduce
  simp -implicitDefEqProofs only [go_sem,Int.reduceNegSucc]
  repeat' (first | (simp -implicitDefEqProofs only [go_sem,Int.reduceNegSucc,g1,g2,g3,t1,t2,w1]) | (with_reducible refine aA ?_) | ((first | refine ai (fun hg=>?_) (fun hg=>?_) | refine ax (fun hg=>?_) (fun hg=>?_) | refine ay (fun hg=>?_) (fun hg=>?_)) <;> try simp -implicitDefEqProofs only [hg,Bool.not_true,Bool.not_false]) | ((with_reducible apply And.intro);focus (first | trivial | omega | decide | (simp -implicitDefEqProofs only [maxLen];omega) | (simp [maxLen,af,ak,an,av,aj,au,aq] <;> omega))) | fail)
  exact (hK _ _ (gj (by simp [lk]) (by simp [lk]))).2
 ·have g3:((hi:Int) == 0)=false:=by rw [Bool.eq_false_iff];simp;omega
  have hz:=TT
  conv in fc _ _ _ _=>reduce
  simp -implicitDefEqProofs only [go_sem,Int.reduceNegSucc]
  have c1:IntKind.u64.wrap 50=50:=rfl
  have c2:IntKind.u64.wrap (10000*2 ^ min 50 64)=11258999068426240000:=rfl
  have c3:(11258999068426240000:Int).fdiv (2 ^ min 32 64)=2621440000:=rfl
  have c4:(11258999068426240000:Int) % 4294967296=0:=rfl
  have c5:IntKind.u64.wrap (64 - 50)=14:=rfl
  have c6:IntKind.u64.wrap ((hi:Int)*2 ^ min 50 64)=(hi:Int)*1125899906842624:=wrap_u64 (by show 0≤(hi:Int)*1125899906842624;omega) (by show (hi:Int)*1125899906842624<_;omega)
  have c7:(lo:Int).fdiv (2 ^ min 14 64)=((lo / 16384:Nat):Int):=by rw [Int.fdiv_eq_ediv_of_nonneg _ (by decide)];rfl
  have c8:=SE hi (lo / 16384) (by omega) (by omega)
  have bf:=hz;repeat' (first | (simp -implicitDefEqProofs only [go_sem,Int.reduceNegSucc,g1,g2,g3,c1,c2,c3,De,c4,c5,c6,c7,c8]) | (with_reducible refine aA ?_) | (with_reducible first | refine ag bf ?_ | refine ah bf ?_) | ((first | refine ai (fun hg=>?_) (fun hg=>?_) | refine ax (fun hg=>?_) (fun hg=>?_) | refine ay (fun hg=>?_) (fun hg=>?_)) <;> try simp -implicitDefEqProofs only [hg,Bool.not_true,Bool.not_false]) | ((with_reducible apply And.intro);focus (first | trivial | omega | decide | (simp -implicitDefEqProofs only [maxLen];omega) | (simp [maxLen,af,ak,an,av,aj,au,aq] <;> omega))) | fail)
  have hV:(hi:Int)*18446744073709551616+lo=((hi:Int)*1125899906842624+((lo / 16384:Nat):Int))*16384+(lo:Int) % 16384:=by omega
  have MW:0≤(hi:Int)*1125899906842624+((lo / 16384:Nat):Int):=by omega
  have Wc:(hi:Int)*1125899906842624+((lo / 16384:Nat):Int)<1152921504606846976:=by omega
  rw [hV] at hK
  have d4:IntKind.u64.wrap ((lo:Int)*2 ^ min 50 64)=(lo:Int) % 16384*1125899906842624:=by rw [show (2:Int) ^ min 50 64=1125899906842624 from rfl,zU];omega
  have yN:0≤(lo:Int) % 16384:=by omega
  have Fk:(lo:Int) % 16384<16384:=by omega
  generalize (hi:Int)*1125899906842624+((lo / 16384:Nat):Int)=U at *
  generalize (lo:Int) % 16384=r at *
  have d5:(r*1125899906842624).fdiv (2 ^ min 32 64)=r*262144:=by rw [show (2:Int) ^ min 32 64=4294967296 from rfl,Int.fdiv_eq_ediv_of_nonneg _ (by decide)];omega
  have d6:r*1125899906842624 % 4294967296=0:=by omega
  have d1:IntKind.u64.wrap (U.tdiv 2621440000)=U / 2621440000:=by rw [Int.tdiv_eq_ediv_of_nonneg MW];exact wrap_u64 (by omega) (by omega)
  have d2:IntKind.u64.wrap (U / 2621440000*2621440000)=U / 2621440000*2621440000:=wrap_u64 (by omega) (by omega)
  have d3:IntKind.u64.wrap (U - U / 2621440000*2621440000)=U % 2621440000:=by rw [wrap_u64 (by omega) (by omega)];omega
  have e0:decide (U / 2621440000≥4294967296)=false:=decide_eq_false (by omega)
  have e1:IntKind.u64.wrap 0=0:=rfl
  have e2:IntKind.u64.wrap (4294967296*(U % 2621440000))=4294967296*(U % 2621440000):=wrap_u64 (by omega) (by omega)
  have e3:IntKind.u64.wrap (4294967296*(U % 2621440000)+r*262144)=4294967296*(U % 2621440000)+r*262144:=wrap_u64 (by omega) (by omega)
  have e4:decide (0>4294967296*(U % 2621440000)+r*262144)=false:=decide_eq_false (by omega)
  have d10:IntKind.u64.wrap (IntKind.u64.wrap (IntKind.u64.wrap (U*4294967296)+r*262144) - IntKind.u64.wrap (U / 2621440000*11258999068426240000))=U % 2621440000*4294967296+r*262144:=by
   simp -implicitDefEqProofs only [zU];omega
  obtain ⟨X,hX⟩:∃ X,X=U % 2621440000*4294967296+r*262144:=⟨_,rfl⟩
  rw [← hX] at d10
  have f0:IntKind.u64.wrap (X.tdiv 2621440000)=X / 2621440000:=by rw [Int.tdiv_eq_ediv_of_nonneg (by omega)];exact wrap_u64 (by omega) (by omega)
  have f1:IntKind.u64.wrap (X / 2621440000*2621440000)=X / 2621440000*2621440000:=wrap_u64 (by omega) (by omega)
  have f2:IntKind.u64.wrap (X - X / 2621440000*2621440000)=X % 2621440000:=by rw [wrap_u64 (by omega) (by omega)];omega
  have f3:decide (X / 2621440000≥4294967296)=false:=decide_eq_false (by omega)
  have f4:IntKind.u64.wrap (4294967296*(X % 2621440000))=4294967296*(X % 2621440000):=wrap_u64 (by omega) (by omega)
  have f6:decide (0>4294967296*(X % 2621440000))=false:=decide_eq_false (by omega)
  have f7:IntKind.u64.wrap (IntKind.u64.wrap (U / 2621440000*4294967296)+X / 2621440000)=(U*16384+r) / 10000:=by
   rw [wrap_u64 (n:=U / 2621440000*4294967296) (by omega) (by omega),wrap_u64 (by omega) (by omega)];omega
  have f8:IntKind.u64.wrap (IntKind.u64.wrap (X*4294967296) - IntKind.u64.wrap (X / 2621440000*11258999068426240000))=(U*16384+r) % 10000*1125899906842624:=by
   simp -implicitDefEqProofs only [zU];omega
  have f9:IntKind.u64.wrap (IntKind.u64.wrap (X*4294967296))=IntKind.u64.wrap (X*4294967296):=by simp -implicitDefEqProofs only [zU];omega
  have f10:((U*16384+r) % 10000*1125899906842624).fdiv (2 ^ min 50 64)=(U*16384+r) % 10000:=by rw [show (2:Int) ^ min 50 64=1125899906842624 from rfl,Int.fdiv_eq_ediv_of_nonneg _ (by decide)];omega
  simp -implicitDefEqProofs only [d1,d2,d3,d4,d5,d6]
  refine jX 2 ?_
  repeat' (first | (simp -implicitDefEqProofs only [go_sem,Int.reduceNegSucc,kj,kk,ko,kr,ku,kz,jT,Int.reduceLT,decide_true,decide_false,Int.reduceToNat,Nat.reduceMul,e0,Int.mul_zero,e1,e2,e3,e4]) | (with_reducible refine aA ?_) | (with_reducible show G _ _ (It.l _ _::_) _ _ _;refine jW ?_) | ((first | refine ai (fun hg=>?_) (fun hg=>?_) | refine ax (fun hg=>?_) (fun hg=>?_) | refine ay (fun hg=>?_) (fun hg=>?_)) <;> try simp -implicitDefEqProofs only [hg,Bool.not_true,Bool.not_false]) | ((with_reducible apply And.intro);focus (first | trivial | omega | decide | (simp -implicitDefEqProofs only [maxLen];omega) | (simp [maxLen,af,ak,an,av,aj,au,aq] <;> omega))) | fail)
  repeat' (first | (simp -implicitDefEqProofs only [go_sem,Int.reduceNegSucc,d10,f0,f1,f2]) | (with_reducible refine aA ?_) | ((first | refine ai (fun hg=>?_) (fun hg=>?_) | refine ax (fun hg=>?_) (fun hg=>?_) | refine ay (fun hg=>?_) (fun hg=>?_)) <;> try simp -implicitDefEqProofs only [hg,Bool.not_true,Bool.not_false]) | ((with_reducible apply And.intro);focus (first | trivial | omega | decide | (simp -implicitDefEqProofs only [maxLen];omega) | (simp [maxLen,af,ak,an,av,aj,au,aq] <;> omega))) | fail)
  refine jX 2 ?_
  repeat' (first | (simp -implicitDefEqProofs only [go_sem,Int.reduceNegSucc,kj,kk,ko,kr,ku,kz,jT,Int.reduceLT,decide_true,decide_false,Int.reduceToNat,Nat.reduceMul,f3,Int.mul_zero,e1,f4,Int.add_zero,f6,f7,f9,f8,f10]) | (with_reducible refine aA ?_) | (with_reducible show G _ _ (It.l _ _::_) _ _ _;refine jW ?_) | ((first | refine ai (fun hg=>?_) (fun hg=>?_) | refine ax (fun hg=>?_) (fun hg=>?_) | refine ay (fun hg=>?_) (fun hg=>?_)) <;> try simp -implicitDefEqProofs only [hg,Bool.not_true,Bool.not_false]) | ((with_reducible apply And.intro);focus (first | trivial | omega | decide | (simp -implicitDefEqProofs only [maxLen];omega) | (simp [maxLen,af,ak,an,av,aj,au,aq] <;> omega))) | fail)
  exact (hK _ _ (gj (by simp -implicitDefEqProofs only [lk,↓reduceIte,Nat.reduceEqDiff]) (by simp -implicitDefEqProofs only [lk,↓reduceIte,Nat.reduceEqDiff]))).2
end Go.aL

namespace Go.aL
open Go
theorem wL (a:Int):a.tdiv 10000=if 0≤a∨a % 10000=0 then a / 10000 else a / 10000+1:=by
 rw [Int.tdiv_eq_ediv]
 have:(10000:Int) ∣ a↔a % 10000=0:=Int.dvd_iff_emod_eq_zero
 simp -implicitDefEqProofs only [this]
 split <;> simp
theorem Vr (a:Int):a.tmod 10000=if 0≤a∨a % 10000=0 then a % 10000 else a % 10000 - 10000:=by
 rw [Int.tmod_eq_emod]
 have:(10000:Int) ∣ a↔a % 10000=0:=Int.dvd_iff_emod_eq_zero
 simp -implicitDefEqProofs only [this]
 split <;> simp
theorem Up (a:Int) (h : -100000000000≤a) (h2:a≤100000000000):aK Go.Proofs.Tryz.prog 111 [.rv (.int .i64 a),.rv (.int .i64 10000)] [] [] (.rv (.int .i64 (a / 10000))):=by
 refine bu Qc [.rv (.int .i64 a),.rv (.int .i64 10000)] _ (by simp) (by simp [aP,aY,bq,aW,bk,aC.sv,Ln.sv,Nd.sv]) (fun K hK=>?_)
 have e1:IntKind.i64.wrap (a.tdiv 10000)=a.tdiv 10000:=wrap_i64 (by rw [wL];split <;> omega) (by rw [wL];split <;> omega)
 have e2:IntKind.i64.wrap (a.tdiv 10000 - 1)=a.tdiv 10000 - 1:=wrap_i64 (by rw [wL];split <;> omega) (by rw [wL];split <;> omega)
 conv in fc _ _ _ _=>reduce
 simp -implicitDefEqProofs only [go_sem,Int.reduceNegSucc]
 repeat' (first | (simp -implicitDefEqProofs only [go_sem,Int.reduceNegSucc,e1,e2]) | (with_reducible refine aA ?_) | ((first | refine ai (fun hg=>?_) (fun hg=>?_) | refine ax (fun hg=>?_) (fun hg=>?_) | refine ay (fun hg=>?_) (fun hg=>?_)) <;> try simp -implicitDefEqProofs only [hg,Bool.not_true,Bool.not_false]) | ((with_reducible apply And.intro);focus (first | trivial | omega | decide | (simp -implicitDefEqProofs only [maxLen];omega) | (simp [maxLen,af,ak,an,av,aj,au,aq] <;> omega))) | fail)
 all_goals (refine (hK _ _ (bS ?_)).2;clear hK;simp -implicitDefEqProofs only [decide_eq_true_eq,decide_eq_false_iff_not,Vr] at hg;simp [lk,wL];split at hg <;>(try intros) <;>(try split) <;> omega)
theorem SI {b p:Int}:b / 10000*p+b % 10000*p / 10000=b*p / 10000:=by
 have h:b*p=b % 10000*p+10000*(b / 10000*p):=by
  conv=>lhs;rw [← Int.emod_add_mul_ediv b 10000]
  rw [Int.add_mul,Int.mul_assoc]
 rw [h,Int.add_mul_ediv_left _ _ (by decide)];omega
theorem GA {a b A B:Int} (h0:0≤a) (h:a≤A) (h1 : -B≤b) (h2:b≤B) : -(A*B)≤a*b∧a*b≤A*B:=by
 have hB:0≤B:=by omega
 have e1:=Int.mul_le_mul_of_nonneg_left h2 h0
 have e2:=Int.mul_le_mul_of_nonneg_right h hB
 have e3:=Int.mul_le_mul_of_nonneg_left h1 h0
 rw [Int.mul_neg] at e3
 omega
theorem Un (b p:Int):aK Go.Proofs.Tryz.prog 91 [.rv (.int .i64 b),.rv (.int .i64 p)] [] [] (.aO [.rv (.int .i64 (lF b p)),.rv (.bool (kW b p))]):=by
 refine bu Qa [.rv (.int .i64 b),.rv (.int .i64 p)] _ (by simp) (by simp [aP,aY,bq,aW,bk,aC.sv,Ln.sv,Nd.sv]) (fun K hK=>?_)
 conv in fc _ _ _ _=>reduce
 simp -implicitDefEqProofs only [go_sem,Int.reduceNegSucc]
 by_cases h:0≤b∧b≤1125899906842624∧-1000000≤p∧p≤1000000
 ·have g1:decide (b<0)=false:=decide_eq_false (by omega)
  have g2:decide (b>1125899906842624)=false:=decide_eq_false (by omega)
  have g3:decide (p < -1000000)=false:=decide_eq_false (by omega)
  have g4:decide (p>1000000)=false:=decide_eq_false (by omega)
  have q1:b.tdiv 10000=b / 10000:=Int.tdiv_eq_ediv_of_nonneg h.1
  have q2:b.tmod 10000=b % 10000:=Int.tmod_eq_emod_of_nonneg h.1
  have m1:=GA (a:=b % 10000) (b:=p) (A:=9999) (B:=1000000) (by omega) (by omega) h.2.2.1 h.2.2.2
  have m2:=GA (a:=b / 10000) (b:=p) (A:=112589990684) (B:=1000000) (by omega) (by omega) h.2.2.1 h.2.2.2
  have w1:IntKind.i64.wrap (b / 10000)=b / 10000:=wrap_i64 (by omega) (by omega)
  have w2:IntKind.i64.wrap (b % 10000*p)=b % 10000*p:=wrap_i64 (by omega) (by omega)
  have w3:IntKind.i64.wrap (b / 10000*p)=b / 10000*p:=wrap_i64 (by omega) (by omega)
  have w4:IntKind.i64.wrap (b / 10000*p+b % 10000*p / 10000)=b*p / 10000:=by rw [wrap_i64 (by omega) (by omega),SI]
  have hd:=Up (b % 10000*p) (by omega) (by omega)
  have hf:=lY (b*p / 10000)
  have e:kW b p=bP (b*p / 10000):=by simp [kW,h]
  have bf:=hd;have y_2:=hf;repeat' (first | (simp -implicitDefEqProofs only [go_sem,Int.reduceNegSucc,g1,g2,g3,g4,q1,q2,w1,w2,w3,w4]) | (with_reducible refine aA ?_) | (with_reducible first | refine ag bf ?_ | refine ah bf ?_) | (with_reducible first | refine ag y_2 ?_ | refine ah y_2 ?_) | ((first | refine ai (fun hg=>?_) (fun hg=>?_) | refine ax (fun hg=>?_) (fun hg=>?_) | refine ay (fun hg=>?_) (fun hg=>?_)) <;> try simp -implicitDefEqProofs only [hg,Bool.not_true,Bool.not_false]) | ((with_reducible apply And.intro);focus (first | trivial | omega | decide | (simp -implicitDefEqProofs only [maxLen];omega) | (simp [maxLen,af,ak,an,av,aj,au,aq] <;> omega))) | fail)
  all_goals (refine (hK _ _ (gj ?_ ?_)).2 <;> clear hK <;> simp_all [lk,lF])
 ·have e:kW b p=false:=by simp [kW];intro a1 a2 a3 a4;exact absurd ⟨a1,a2,a3,a4⟩ h
  repeat' (first | (simp -implicitDefEqProofs only [go_sem,Int.reduceNegSucc]) | (with_reducible refine aA ?_) | ((first | refine ai (fun hg=>?_) (fun hg=>?_) | refine ax (fun hg=>?_) (fun hg=>?_) | refine ay (fun hg=>?_) (fun hg=>?_)) <;> try simp -implicitDefEqProofs only [hg,Bool.not_true,Bool.not_false]) | ((with_reducible apply And.intro);focus (first | trivial | omega | decide | (simp -implicitDefEqProofs only [maxLen];omega) | (simp [maxLen,af,ak,an,av,aj,au,aq] <;> omega))) | fail)
  all_goals (first | (refine (hK _ _ (gj ?_ ?_)).2 <;> clear hK <;> simp [lk,lF,e];done) | (exfalso;simp at *;omega))
theorem ry (x:Ln) (b:Int) (has:Bool):aK Go.Proofs.Tryz.prog 63 [x.sv,.rv (.int .i64 b),.rv (.bool has)] [] [] (.aO [(fR x b has).sv,.rv (.bool (gS x b has))]):=by
 refine bu QE [x.sv,.rv (.int .i64 b),.rv (.bool has)] _ (by simp) (by simp [aP,aY,bq,aW,bk,aC.sv,Ln.sv,Nd.sv]) (fun K hK=>?_)
 have hf:=lY x.n
 have hp:=Un b x.n
 conv in fc _ _ _ _=>reduce
 simp -implicitDefEqProofs only [Ln.sv,Ln.cells,Sz.sv,Sz.cells,go_sem,Int.reduceNegSucc]
 have bB:=hf;have bG:=hp;repeat' (first | (simp -implicitDefEqProofs only [go_sem,Int.reduceNegSucc]) | (with_reducible refine aA ?_) | (with_reducible first | refine ag bB ?_ | refine ah bB ?_) | (with_reducible first | refine ag bG ?_ | refine ah bG ?_) | ((first | refine ai (fun hg=>?_) (fun hg=>?_) | refine ax (fun hg=>?_) (fun hg=>?_) | refine ay (fun hg=>?_) (fun hg=>?_)) <;> try simp -implicitDefEqProofs only [hg,Bool.not_true,Bool.not_false]) | ((with_reducible apply And.intro);focus (first | trivial | omega | decide | (simp -implicitDefEqProofs only [maxLen];omega) | (simp [maxLen,af,ak,an,av,aj,au,aq] <;> omega))) | fail)
 all_goals (refine (hK _ _ ?_).2;clear hK;simp -implicitDefEqProofs only [go_sem,Int.reduceNegSucc,aQ,aS,aX,bn,aI,aG,aF,Sz.sv,Sz.cells,fR,gS] <;>(try simp_all [-Int.not_lt,-Int.not_le,aI,aG,aF,bA,Sz.sv,Sz.cells,fR,gS]) <;> try omega)
theorem Iu (x:Ln) (b:Int) (has:Bool):aK Go.Proofs.Tryz.prog 64 [x.sv,.rv (.int .i64 b),.rv (.bool has)] [] [] (.aO [.rv (.int .i64 (bh (fR x b has) 0)),.rv (.bool (gS x b has))]):=by
 refine bu QC [x.sv,.rv (.int .i64 b),.rv (.bool has)] _ (by simp) (by simp [aP,aY,bq,aW,bk,aC.sv,Ln.sv,Nd.sv]) (fun K hK=>?_)
 have hf:=ry x b has
 have ho:=ni (fR x b has) 0
 conv in fc _ _ _ _=>reduce
 simp -implicitDefEqProofs only [Ln.sv,Ln.cells,Sz.sv,Sz.cells,go_sem,Int.reduceNegSucc] at *
 have bI:=hf;have bK:=ho;repeat' (first | (simp -implicitDefEqProofs only [go_sem,Int.reduceNegSucc]) | (with_reducible refine aA ?_) | (with_reducible first | refine ag bI ?_ | refine ah bI ?_) | (with_reducible first | refine ag bK ?_ | refine ah bK ?_) | ((first | refine ai (fun hg=>?_) (fun hg=>?_) | refine ax (fun hg=>?_) (fun hg=>?_) | refine ay (fun hg=>?_) (fun hg=>?_)) <;> try simp -implicitDefEqProofs only [hg,Bool.not_true,Bool.not_false]) | ((with_reducible apply And.intro);focus (first | trivial | omega | decide | (simp -implicitDefEqProofs only [maxLen];omega) | (simp [maxLen,af,ak,an,av,aj,au,aq] <;> omega))) | fail)
 exact (hK _ _ (gj rfl rfl)).2
theorem Iv (x:Ln) (b:Int) (has:Bool):aK Go.Proofs.Tryz.prog 65 [x.sv,.rv (.int .i64 b),.rv (.bool has)] [] [] (.aO [.rv (.int .i64 (bh (fR x b has) 1125899906842624)),.rv (.bool (gS x b has))]):=by
 refine bu QD [x.sv,.rv (.int .i64 b),.rv (.bool has)] _ (by simp) (by simp [aP,aY,bq,aW,bk,aC.sv,Ln.sv,Nd.sv]) (fun K hK=>?_)
 have hf:=ry x b has
 have ho:=ni (fR x b has) 1125899906842624
 conv in fc _ _ _ _=>reduce
 simp -implicitDefEqProofs only [Ln.sv,Ln.cells,Sz.sv,Sz.cells,go_sem,Int.reduceNegSucc] at *
 have bL:=hf;have bO:=ho;repeat' (first | (simp -implicitDefEqProofs only [go_sem,Int.reduceNegSucc]) | (with_reducible refine aA ?_) | (with_reducible first | refine ag bL ?_ | refine ah bL ?_) | (with_reducible first | refine ag bO ?_ | refine ah bO ?_) | ((first | refine ai (fun hg=>?_) (fun hg=>?_) | refine ax (fun hg=>?_) (fun hg=>?_) | refine ay (fun hg=>?_) (fun hg=>?_)) <;> try simp -implicitDefEqProofs only [hg,Bool.not_true,Bool.not_false]) | ((with_reducible apply And.intro);focus (first | trivial | omega | decide | (simp -implicitDefEqProofs only [maxLen];omega) | (simp [maxLen,af,ak,an,av,aj,au,aq] <;> omega))) | fail)
 exact (hK _ _ (gj rfl rfl)).2
end Go.aL

namespace Go.aL
open Go
theorem Po:aU Go.Proofs.Tryz.prog 99 15 (fc Go.Proofs.Tryz.prog 99 15 [(.t 2)]) [(.t 2)]:=bl (by kernel_rfl)
theorem BR:aU Go.Proofs.Tryz.prog 70 62 (fc Go.Proofs.Tryz.prog 70 62 [(.t 4),(.t 5)]) [(.t 4),(.t 5)]:=bl (by kernel_rfl)
theorem PD:aU Go.Proofs.Tryz.prog 35 48 (fc Go.Proofs.Tryz.prog 35 48 [(.c 6 2 true),(.t 7)]) [(.c 6 2 true),(.t 7)]:=bl (by kernel_rfl)
theorem PE:aU Go.Proofs.Tryz.prog 39 11 (fc Go.Proofs.Tryz.prog 39 11 [(.t 4)]) [(.t 4)]:=bl (by kernel_rfl)
theorem PC:aU Go.Proofs.Tryz.prog 36 37 (fc Go.Proofs.Tryz.prog 36 37 [(.t 8),(.t 9),(.t 10)]) [(.t 8),(.t 9),(.t 10)]:=bl (by kernel_rfl)
theorem PI:aU Go.Proofs.Tryz.prog 72 16 (fc Go.Proofs.Tryz.prog 72 16 [(.c 4 2 true)]) [(.c 4 2 true)]:=bl (by kernel_rfl)
theorem PJ:aU Go.Proofs.Tryz.prog 46 12 (fc Go.Proofs.Tryz.prog 46 12 [(.t 2),(.t 3)]) [(.t 2),(.t 3)]:=bl (by kernel_rfl)
theorem PV:aU Go.Proofs.Tryz.prog 32 25 (fc Go.Proofs.Tryz.prog 32 25 [(.t 4)]) [(.t 4)]:=bl (by kernel_rfl)
theorem UC (x:Int) (h : -9223372036854775807≤x) (h2:x<9223372036854775808):aK Go.Proofs.Tryz.prog 99 [.rv (.int .i64 x)] [] [] (.rv (.int .i64 (x / 2))):=by
 refine bu Po [.rv (.int .i64 x)] _ (by simp) (by simp [aP,aY,bq,aW,bk,aC.sv,Ln.sv,Nd.sv]) (fun K hK=>?_)
 have t1:x.tdiv 2=if 0≤x∨x % 2=0 then x / 2 else x / 2+1:=by
  rw [Int.tdiv_eq_ediv]
  have:(2:Int) ∣ x↔x % 2=0:=Int.dvd_iff_emod_eq_zero
  simp -implicitDefEqProofs only [this];split <;> simp
 have t2:x.tmod 2=if 0≤x∨x % 2=0 then x % 2 else x % 2 - 2:=by
  rw [Int.tmod_eq_emod]
  have:(2:Int) ∣ x↔x % 2=0:=Int.dvd_iff_emod_eq_zero
  simp -implicitDefEqProofs only [this];split <;> simp
 have w1:IntKind.i64.wrap (x.tdiv 2)=x.tdiv 2:=wrap_i64 (by rw [t1];split <;> omega) (by rw [t1];split <;> omega)
 have w2:IntKind.i64.wrap (x.tdiv 2 - 1)=x.tdiv 2 - 1:=wrap_i64 (by rw [t1];split <;> omega) (by rw [t1];split <;> omega)
 conv in fc _ _ _ _=>reduce
 simp -implicitDefEqProofs only [go_sem,Int.reduceNegSucc]
 repeat' (first | (simp -implicitDefEqProofs only [go_sem,Int.reduceNegSucc,w1,w2]) | (with_reducible refine aA ?_) | ((first | refine ai (fun hg=>?_) (fun hg=>?_) | refine ax (fun hg=>?_) (fun hg=>?_) | refine ay (fun hg=>?_) (fun hg=>?_)) <;> try simp -implicitDefEqProofs only [hg,Bool.not_true,Bool.not_false]) | ((with_reducible apply And.intro);focus (first | trivial | omega | decide | (simp -implicitDefEqProofs only [maxLen];omega) | (simp [maxLen,af,ak,an,av,aj,au,aq] <;> omega))) | fail)
 all_goals (refine (hK _ _ (bS ?_)).2;clear hK;simp -implicitDefEqProofs only [lk,↓reduceIte,Nat.reduceEqDiff,SV.rv.injEq,RV.int.injEq,true_and,t1,t2,decide_eq_true_eq,decide_eq_false_iff_not,bne_iff_ne,ne_eq,bne_eq_false_iff_eq,Bool.not_true,Bool.not_false] at *;clear w1 w2;(try split at hg) <;>(try split) <;> omega)
theorem oM (x:Sz) (d:Int):aK Go.Proofs.Tryz.prog 39 [x.sv,.rv (.int .i64 d)] [] [] (.rv (.int .i64 (bh x d))):=by
 refine bu PE [x.sv,.rv (.int .i64 d)] _ (by simp) (by simp [aP,aY,bq,aW,bk,aC.sv,Ln.sv,Nd.sv]) (fun K hK=>?_)
 conv in fc _ _ _ _=>reduce
 simp -implicitDefEqProofs only [Sz.sv,Sz.cells,go_sem,Int.reduceNegSucc]
 repeat' (first | (simp -implicitDefEqProofs only [go_sem,Int.reduceNegSucc]) | (with_reducible refine aA ?_) | ((first | refine ai (fun hg=>?_) (fun hg=>?_) | refine ax (fun hg=>?_) (fun hg=>?_) | refine ay (fun hg=>?_) (fun hg=>?_)) <;> try simp -implicitDefEqProofs only [hg,Bool.not_true,Bool.not_false]) | ((with_reducible apply And.intro);focus (first | trivial | omega | decide | (simp -implicitDefEqProofs only [maxLen];omega) | (simp [maxLen,af,ak,an,av,aj,au,aq] <;> omega))) | fail)
 all_goals (refine (hK _ _ ?_).2;clear hK;simp -implicitDefEqProofs only [go_sem,Int.reduceNegSucc,aQ,aS,aX,bn,aI,aG,aF,bh] <;>(try simp_all [-Int.not_lt,-Int.not_le,aI,aG,aF,bA,bh]) <;> try omega)
theorem uB (a b:Su):aK Go.Proofs.Tryz.prog 72 [a.sv,b.sv] [] [] (fM a b).sv:=by
 refine bu PI [a.sv,b.sv] _ (by simp) (by simp [aP,aY,bq,aW,bk,aC.sv,Ln.sv,Nd.sv]) (fun K hK=>?_)
 conv in fc _ _ _ _=>reduce
 simp -implicitDefEqProofs only [Su.sv,Su.cells,go_sem,Int.reduceNegSucc]
 repeat' (first | (simp -implicitDefEqProofs only [go_sem,Int.reduceNegSucc]) | (with_reducible refine aA ?_) | ((first | refine ai (fun hg=>?_) (fun hg=>?_) | refine ax (fun hg=>?_) (fun hg=>?_) | refine ay (fun hg=>?_) (fun hg=>?_)) <;> try simp -implicitDefEqProofs only [hg,Bool.not_true,Bool.not_false]) | ((with_reducible apply And.intro);focus (first | trivial | omega | decide | (simp -implicitDefEqProofs only [maxLen];omega) | (simp [maxLen,af,ak,an,av,aj,au,aq] <;> omega))) | fail)
 all_goals (refine (hK _ _ ?_).2;clear hK;simp -implicitDefEqProofs only [go_sem,Int.reduceNegSucc,aQ,aS,aX,bn,aI,aG,aF,Su.sv,Su.cells,fM] <;>(try simp_all [-Int.not_lt,-Int.not_le,aI,aG,aF,bA,Su.sv,Su.cells,fM]) <;> try omega)
theorem ta (id:Nat) (xs:List Int) (hb:xs.length≤1000):aK Go.Proofs.Tryz.prog 34 [.row id 0 xs.length] [(id,.row 1 0 (kS xs))] [] (.aO [.rv (.int .i64 (ct xs)),.rv (.bool (fS xs))]):=by
 have:=Gi (id:=id) (v:=0) (n:=xs.length) (bs:=[]) (rs:=[.int .i64 (ct xs),.bool (fS xs)]) (UG xs hb) (by simp;exact ⟨.int _ _,.bool _⟩) (by rw [aj]) (kI _)
 rw [BE];exact this
theorem CD (a:Su):aK Go.Proofs.Tryz.prog 46 [a.sv] [] [] (.aO [.rv (.int .i64 (iN a)),.rv (.bool (nS a))]):=by
 refine bu PJ [a.sv] _ (by simp) (by simp [aP,aY,bq,aW,bk,aC.sv,Ln.sv,Nd.sv]) (fun K hK=>?_)
 have hs:=fun id=>ta id [a.p,a.n] (by simp)
 conv in fc _ _ _ _=>reduce
 simp -implicitDefEqProofs only [Su.sv,Su.cells,go_sem,Int.reduceNegSucc]
 simp [kS] at hs
 have bf:=hs;repeat' (first | (simp -implicitDefEqProofs only [go_sem,Int.reduceNegSucc]) | (with_reducible refine aA ?_) | ((first | refine bQ (bf _) ?_ ?_ ?_ | refine bV (bf _) ?_ ?_ ?_ | fail);(focus (simp [aT,aB] <;> fail));(focus (simp [aZ,aR] <;> fail))) | ((first | refine ai (fun hg=>?_) (fun hg=>?_) | refine ax (fun hg=>?_) (fun hg=>?_) | refine ay (fun hg=>?_) (fun hg=>?_)) <;> try simp -implicitDefEqProofs only [hg,Bool.not_true,Bool.not_false]) | ((with_reducible apply And.intro);focus (first | trivial | omega | decide | (simp -implicitDefEqProofs only [maxLen];omega) | (simp [maxLen,af,ak,an,av,aj,au,aq] <;> omega))) | fail)
 all_goals (refine (hK _ _ ?_).2;clear hK;simp -implicitDefEqProofs only [go_sem,Int.reduceNegSucc,aQ,aS,aX,bn,aI,aG,aF,iN,nS] <;>(try simp_all [-Int.not_lt,-Int.not_le,aI,aG,aF,bA,iN,nS]) <;> try omega)
theorem CF (w:Int) (h:Sz):aK Go.Proofs.Tryz.prog 32 [.rv (.int .i64 w),h.sv] [] [] (.rv (.bool (iL w h))):=by
 refine bu PV [.rv (.int .i64 w),h.sv] _ (by simp) (by simp [aP,aY,bq,aW,bk,aC.sv,Ln.sv,Nd.sv]) (fun K hK=>?_)
 conv in fc _ _ _ _=>reduce
 simp -implicitDefEqProofs only [Sz.sv,Sz.cells,go_sem,Int.reduceNegSucc]
 repeat' (first | (simp -implicitDefEqProofs only [go_sem,Int.reduceNegSucc]) | (with_reducible refine aA ?_) | ((first | refine ai (fun hg=>?_) (fun hg=>?_) | refine ax (fun hg=>?_) (fun hg=>?_) | refine ay (fun hg=>?_) (fun hg=>?_)) <;> try simp -implicitDefEqProofs only [hg,Bool.not_true,Bool.not_false]) | ((with_reducible apply And.intro);focus (first | trivial | omega | decide | (simp -implicitDefEqProofs only [maxLen];omega) | (simp [maxLen,af,ak,an,av,aj,au,aq] <;> omega))) | fail)
 all_goals (refine (hK _ _ ?_).2;clear hK;simp -implicitDefEqProofs only [go_sem,Int.reduceNegSucc,aQ,aS,aX,bn,aI,aG,aF,iL] <;>(try simp_all [-Int.not_lt,-Int.not_le,aI,aG,aF,bA,iL]) <;> try omega)
end Go.aL

namespace Go.aL
open Go
theorem GB (b N:Int) (b0:0≤b) (b1:b≤1125899906842624) (h0:0≤N) (h1:N≤1000000):∃ (hi lo:Nat) (W:Int),b*N=W∧0≤W∧W≤1125899906842624000000∧
 b*N / 18446744073709551616=(hi:Int)∧b*N % 18446744073709551616=(lo:Int)∧hi<1024∧lo<18446744073709551616∧(hi:Int)*18446744073709551616+(lo:Int)=W:=by
 have m:=BY (a:=b) (b:=N) (A:=1125899906842624) (B:=1000000) b0 b1 h0 h1
 generalize b*N=W at *
 exact ⟨(W / 18446744073709551616).toNat,(W % 18446744073709551616).toNat,W,rfl,m.1,by omega,by omega,by omega,by omega,by omega,by omega⟩
theorem GY {W:Int} (h0:0≤W) (h1:W≤1125899906842624000000):0≤W / 10000∧W / 10000≤112589990684262400∧0≤W % 10000∧W % 10000<10000:=by omega
theorem SJ {W:Int}:(W % 10000>0→-W / 10000 = -(W / 10000+1))∧(¬ W % 10000>0→-W / 10000 = -(W / 10000)):=by omega
theorem UE (b p:Int) (b0:0≤b) (b1:b≤1125899906842624) (p0 : -1000000≤p) (p1:p≤1000000) (hp:p<0):aK Go.Proofs.Tryz.prog 70 [.rv (.int .i64 b),.rv (.int .i64 p)] [] [] (.aO [.rv (.int .i64 (lF b p)),.rv (.bool (kW b p))]):=by
 refine bu BR [.rv (.int .i64 b),.rv (.int .i64 p)] _ (by simp) (by simp [aP,aY,bq,aW,bk,aC.sv,Ln.sv,Nd.sv]) (fun K hK=>?_)
 have sr:kW b p=bP (b*p / 10000):=by simp [kW,b0,b1,p0,p1]
 have g1:decide (b<0)=false:=decide_eq_false (by omega)
 have g2:decide (b>1125899906842624)=false:=decide_eq_false (by omega)
 have g3:decide (p < -1000000)=false:=decide_eq_false (by omega)
 have g4:decide (p>1000000)=false:=decide_eq_false (by omega)
 have wb:IntKind.u64.wrap b=b:=wrap_u64 b0 (by omega)
 have g5:decide (p<0)=true:=decide_eq_true hp
 have w1:IntKind.i64.wrap (0 - p) = -p:=by rw [wrap_i64 (by omega) (by omega)] <;> try omega
 have w2:IntKind.u64.wrap (-p) = -p:=wrap_u64 (by omega) (by omega)
 have hm:=Ib b (-p) b0 b1 (by omega) (by omega)
 obtain ⟨hi,lo,W,e0,e1,e2,e3,e4,e5,e6,e7⟩:=GB b (-p) b0 b1 (by omega) (by omega)
 have hd:=HX hi lo e5 e6
 rw [e3,e4] at hm
 rw [e7] at hd
 have e8:b*p = -W:=by rw [Int.mul_neg] at e0;omega
 have vj:lF b p=if bP (-W / 10000)=true then -W / 10000 else 0:=by simp -implicitDefEqProofs only [lF,sr,e8]
 rw [sr,vj,e8] at hK
 clear e0 e3 e4 e5 e6 e7 e8 sr vj
 conv in fc _ _ _ _=>reduce
 simp -implicitDefEqProofs only [go_sem,Int.reduceNegSucc]
 generalize (hi:Int)=H at *
 generalize (lo:Int)=L at *
 obtain ⟨q1,q2,q3,q4⟩:=GY e1 e2
 obtain ⟨r1,r2⟩:=SJ (W:=W)
 generalize -W / 10000=X at *
 generalize W / 10000=Q at *
 generalize W % 10000=R at *
 clear e1 e2
 have w3:IntKind.u64.wrap (Q+1)=Q+1:=wrap_u64 (by omega) (by omega)
 have w4:IntKind.i64.wrap (Q+1)=Q+1:=by rw [wrap_i64 (by omega) (by omega)] <;> try omega
 have w5:IntKind.i64.wrap Q=Q:=by rw [wrap_i64 (by omega) (by omega)] <;> try omega
 have w6:IntKind.i64.wrap (0 - (Q+1)) = -(Q+1):=by rw [wrap_i64 (by omega) (by omega)] <;> try omega
 have w7:IntKind.i64.wrap (0 - Q) = -Q:=by rw [wrap_i64 (by omega) (by omega)] <;> try omega
 by_cases hr:R>0
 ·have g6:decide (R>0)=true:=decide_eq_true hr
  rw [r1 hr] at hK
  by_cases hq:Q+1>1125899906842624
  ·have g7:decide (Q+1>1125899906842624)=true:=decide_eq_true hq
   have hF:bP (-(Q+1))=false:=by rw [Bool.eq_false_iff,ne_eq,iZ];omega
   rw [hF] at hK
   have bf:=hm;have y_2:=hd;repeat' (first | (simp -implicitDefEqProofs only [go_sem,Int.reduceNegSucc,g1,g2,g3,g4,g5,wb,w1,w2,w3,g6,g7]) | (with_reducible refine aA ?_) | (with_reducible first | refine ag bf ?_ | refine ah bf ?_) | (with_reducible first | refine ag y_2 ?_ | refine ah y_2 ?_) | ((first | refine ai (fun hg=>?_) (fun hg=>?_) | refine ax (fun hg=>?_) (fun hg=>?_) | refine ay (fun hg=>?_) (fun hg=>?_)) <;> try simp -implicitDefEqProofs only [hg,Bool.not_true,Bool.not_false]) | ((with_reducible apply And.intro);focus (first | trivial | omega | decide | (simp -implicitDefEqProofs only [maxLen];omega) | (simp [maxLen,af,ak,an,av,aj,au,aq] <;> omega))) | fail)
   refine (hK _ _ (gj ?_ ?_)).2 <;> rfl
  ·have g7:decide (Q+1>1125899906842624)=false:=decide_eq_false hq
   have hF:bP (-(Q+1))=true:=by rw [iZ];omega
   rw [hF] at hK
   have bB:=hm;have bG:=hd;repeat' (first | (simp -implicitDefEqProofs only [go_sem,Int.reduceNegSucc,g1,g2,g3,g4,g5,wb,w1,w2,w3,g6,g7,w4,w6]) | (with_reducible refine aA ?_) | (with_reducible first | refine ag bB ?_ | refine ah bB ?_) | (with_reducible first | refine ag bG ?_ | refine ah bG ?_) | ((first | refine ai (fun hg=>?_) (fun hg=>?_) | refine ax (fun hg=>?_) (fun hg=>?_) | refine ay (fun hg=>?_) (fun hg=>?_)) <;> try simp -implicitDefEqProofs only [hg,Bool.not_true,Bool.not_false]) | ((with_reducible apply And.intro);focus (first | trivial | omega | decide | (simp -implicitDefEqProofs only [maxLen];omega) | (simp [maxLen,af,ak,an,av,aj,au,aq] <;> omega))) | fail)
   refine (hK _ _ (gj ?_ ?_)).2 <;> rfl
 ·have g6:decide (R>0)=false:=decide_eq_false hr
  rw [r2 hr] at hK
  by_cases hq:Q>1125899906842624
  ·have g7:decide (Q>1125899906842624)=true:=decide_eq_true hq
   have hF:bP (-Q)=false:=by rw [Bool.eq_false_iff,ne_eq,iZ];omega
   rw [hF] at hK
   have bI:=hm;have bK:=hd;repeat' (first | (simp -implicitDefEqProofs only [go_sem,Int.reduceNegSucc,g1,g2,g3,g4,g5,wb,w1,w2,w3,g6,g7]) | (with_reducible refine aA ?_) | (with_reducible first | refine ag bI ?_ | refine ah bI ?_) | (with_reducible first | refine ag bK ?_ | refine ah bK ?_) | ((first | refine ai (fun hg=>?_) (fun hg=>?_) | refine ax (fun hg=>?_) (fun hg=>?_) | refine ay (fun hg=>?_) (fun hg=>?_)) <;> try simp -implicitDefEqProofs only [hg,Bool.not_true,Bool.not_false]) | ((with_reducible apply And.intro);focus (first | trivial | omega | decide | (simp -implicitDefEqProofs only [maxLen];omega) | (simp [maxLen,af,ak,an,av,aj,au,aq] <;> omega))) | fail)
   refine (hK _ _ (gj ?_ ?_)).2 <;> rfl
  ·have g7:decide (Q>1125899906842624)=false:=decide_eq_false hq
   have hF:bP (-Q)=true:=by rw [iZ];omega
   rw [hF] at hK
   have bL:=hm;have bO:=hd;repeat' (first | (simp -implicitDefEqProofs only [go_sem,Int.reduceNegSucc,g1,g2,g3,g4,g5,wb,w1,w2,w3,g6,g7,w5,w7]) | (with_reducible refine aA ?_) | (with_reducible first | refine ag bL ?_ | refine ah bL ?_) | (with_reducible first | refine ag bO ?_ | refine ah bO ?_) | ((first | refine ai (fun hg=>?_) (fun hg=>?_) | refine ax (fun hg=>?_) (fun hg=>?_) | refine ay (fun hg=>?_) (fun hg=>?_)) <;> try simp -implicitDefEqProofs only [hg,Bool.not_true,Bool.not_false]) | ((with_reducible apply And.intro);focus (first | trivial | omega | decide | (simp -implicitDefEqProofs only [maxLen];omega) | (simp [maxLen,af,ak,an,av,aj,au,aq] <;> omega))) | fail)
   refine (hK _ _ (gj ?_ ?_)).2 <;> rfl
theorem UF (b p:Int) (b0:0≤b) (b1:b≤1125899906842624) (p0 : -1000000≤p) (p1:p≤1000000) (hp:¬ p<0):aK Go.Proofs.Tryz.prog 70 [.rv (.int .i64 b),.rv (.int .i64 p)] [] [] (.aO [.rv (.int .i64 (lF b p)),.rv (.bool (kW b p))]):=by
 refine bu BR [.rv (.int .i64 b),.rv (.int .i64 p)] _ (by simp) (by simp [aP,aY,bq,aW,bk,aC.sv,Ln.sv,Nd.sv]) (fun K hK=>?_)
 have sr:kW b p=bP (b*p / 10000):=by simp [kW,b0,b1,p0,p1]
 have g1:decide (b<0)=false:=decide_eq_false (by omega)
 have g2:decide (b>1125899906842624)=false:=decide_eq_false (by omega)
 have g3:decide (p < -1000000)=false:=decide_eq_false (by omega)
 have g4:decide (p>1000000)=false:=decide_eq_false (by omega)
 have wb:IntKind.u64.wrap b=b:=wrap_u64 b0 (by omega)
 have g5:decide (p<0)=false:=decide_eq_false hp
 have w2:IntKind.u64.wrap p=p:=wrap_u64 (by omega) (by omega)
 have hm:=Ib b p b0 b1 (by omega) (by omega)
 obtain ⟨hi,lo,W,e0,e1,e2,e3,e4,e5,e6,e7⟩:=GB b p b0 b1 (by omega) (by omega)
 have hd:=HX hi lo e5 e6
 rw [e3,e4] at hm
 rw [e7] at hd
 have vj:lF b p=if bP (W / 10000)=true then W / 10000 else 0:=by simp -implicitDefEqProofs only [lF,sr,e0]
 rw [sr,vj,e0] at hK
 clear e0 e3 e4 e5 e6 e7 sr vj
 conv in fc _ _ _ _=>reduce
 simp -implicitDefEqProofs only [go_sem,Int.reduceNegSucc]
 generalize (hi:Int)=H at *
 generalize (lo:Int)=L at *
 obtain ⟨q1,q2,q3,q4⟩:=GY e1 e2
 generalize W / 10000=Q at *
 generalize W % 10000=R at *
 clear e1 e2
 have w5:IntKind.i64.wrap Q=Q:=by rw [wrap_i64 (by omega) (by omega)] <;> try omega
 by_cases hq:Q>1125899906842624
 ·have g7:decide (Q>1125899906842624)=true:=decide_eq_true hq
  have hF:bP Q=false:=by rw [Bool.eq_false_iff,ne_eq,iZ];omega
  rw [hF] at hK
  have cl:=hm;have cr:=hd;repeat' (first | (simp -implicitDefEqProofs only [go_sem,Int.reduceNegSucc,g1,g2,g3,g4,g5,wb,w2,g7]) | (with_reducible refine aA ?_) | (with_reducible first | refine ag cl ?_ | refine ah cl ?_) | (with_reducible first | refine ag cr ?_ | refine ah cr ?_) | ((first | refine ai (fun hg=>?_) (fun hg=>?_) | refine ax (fun hg=>?_) (fun hg=>?_) | refine ay (fun hg=>?_) (fun hg=>?_)) <;> try simp -implicitDefEqProofs only [hg,Bool.not_true,Bool.not_false]) | ((with_reducible apply And.intro);focus (first | trivial | omega | decide | (simp -implicitDefEqProofs only [maxLen];omega) | (simp [maxLen,af,ak,an,av,aj,au,aq] <;> omega))) | fail)
  refine (hK _ _ (gj ?_ ?_)).2 <;> rfl
 ·have g7:decide (Q>1125899906842624)=false:=decide_eq_false hq
  have hF:bP Q=true:=by rw [iZ];omega
  rw [hF] at hK
  have fU:=hm;have gx:=hd;repeat' (first | (simp -implicitDefEqProofs only [go_sem,Int.reduceNegSucc,g1,g2,g3,g4,g5,wb,w2,w5,g7]) | (with_reducible refine aA ?_) | (with_reducible first | refine ag fU ?_ | refine ah fU ?_) | (with_reducible first | refine ag gx ?_ | refine ah gx ?_) | ((first | refine ai (fun hg=>?_) (fun hg=>?_) | refine ax (fun hg=>?_) (fun hg=>?_) | refine ay (fun hg=>?_) (fun hg=>?_)) <;> try simp -implicitDefEqProofs only [hg,Bool.not_true,Bool.not_false]) | ((with_reducible apply And.intro);focus (first | trivial | omega | decide | (simp -implicitDefEqProofs only [maxLen];omega) | (simp [maxLen,af,ak,an,av,aj,au,aq] <;> omega))) | fail)
  refine (hK _ _ (gj ?_ ?_)).2 <;> rfl
theorem UD (b p:Int):aK Go.Proofs.Tryz.prog 70 [.rv (.int .i64 b),.rv (.int .i64 p)] [] [] (.aO [.rv (.int .i64 (lF b p)),.rv (.bool (kW b p))]):=by
 by_cases h:0≤b∧b≤1125899906842624∧-1000000≤p∧p≤1000000
 ·obtain ⟨b0,b1,p0,p1⟩:=h
  by_cases hp:p<0
  ·exact UE b p b0 b1 p0 p1 hp
  ·exact UF b p b0 b1 p0 p1 hp
 ·refine bu BR [.rv (.int .i64 b),.rv (.int .i64 p)] _ (by simp) (by simp [aP,aY,bq,aW,bk,aC.sv,Ln.sv,Nd.sv]) (fun K hK=>?_)
  have e:kW b p=false:=by simp [kW];intro a1 a2 a3 a4;exact absurd ⟨a1,a2,a3,a4⟩ h
  have e2:lF b p=0:=by simp [lF,e]
  rw [e,e2] at hK
  by_cases g1:b<0
  ·have sn:decide (b<0)=true:=decide_eq_true g1
   conv in fc _ _ _ _=>reduce
   simp -implicitDefEqProofs only [go_sem,Int.reduceNegSucc]
   repeat' (first | (simp -implicitDefEqProofs only [go_sem,Int.reduceNegSucc,sn]) | (with_reducible refine aA ?_) | ((first | refine ai (fun hg=>?_) (fun hg=>?_) | refine ax (fun hg=>?_) (fun hg=>?_) | refine ay (fun hg=>?_) (fun hg=>?_)) <;> try simp -implicitDefEqProofs only [hg,Bool.not_true,Bool.not_false]) | ((with_reducible apply And.intro);focus (first | trivial | omega | decide | (simp -implicitDefEqProofs only [maxLen];omega) | (simp [maxLen,af,ak,an,av,aj,au,aq] <;> omega))) | fail)
   refine (hK _ _ (gj ?_ ?_)).2 <;> rfl
  by_cases g2:b>1125899906842624
  ·have sn:decide (b<0)=false:=decide_eq_false g1
   have vh:decide (b>1125899906842624)=true:=decide_eq_true g2
   conv in fc _ _ _ _=>reduce
   simp -implicitDefEqProofs only [go_sem,Int.reduceNegSucc]
   repeat' (first | (simp -implicitDefEqProofs only [go_sem,Int.reduceNegSucc,sn,vh]) | (with_reducible refine aA ?_) | ((first | refine ai (fun hg=>?_) (fun hg=>?_) | refine ax (fun hg=>?_) (fun hg=>?_) | refine ay (fun hg=>?_) (fun hg=>?_)) <;> try simp -implicitDefEqProofs only [hg,Bool.not_true,Bool.not_false]) | ((with_reducible apply And.intro);focus (first | trivial | omega | decide | (simp -implicitDefEqProofs only [maxLen];omega) | (simp [maxLen,af,ak,an,av,aj,au,aq] <;> omega))) | fail)
   refine (hK _ _ (gj ?_ ?_)).2 <;> rfl
  by_cases g3:p < -1000000
  ·have sn:decide (b<0)=false:=decide_eq_false g1
   have vh:decide (b>1125899906842624)=false:=decide_eq_false g2
   have AP:decide (p < -1000000)=true:=decide_eq_true g3
   conv in fc _ _ _ _=>reduce
   simp -implicitDefEqProofs only [go_sem,Int.reduceNegSucc]
   repeat' (first | (simp -implicitDefEqProofs only [go_sem,Int.reduceNegSucc,sn,vh,AP]) | (with_reducible refine aA ?_) | ((first | refine ai (fun hg=>?_) (fun hg=>?_) | refine ax (fun hg=>?_) (fun hg=>?_) | refine ay (fun hg=>?_) (fun hg=>?_)) <;> try simp -implicitDefEqProofs only [hg,Bool.not_true,Bool.not_false]) | ((with_reducible apply And.intro);focus (first | trivial | omega | decide | (simp -implicitDefEqProofs only [maxLen];omega) | (simp [maxLen,af,ak,an,av,aj,au,aq] <;> omega))) | fail)
   refine (hK _ _ (gj ?_ ?_)).2 <;> rfl
  ·have sn:decide (b<0)=false:=decide_eq_false g1
   have vh:decide (b>1125899906842624)=false:=decide_eq_false g2
   have AP:decide (p < -1000000)=false:=decide_eq_false g3
   have LX:decide (p>1000000)=true:=decide_eq_true (by omega)
   conv in fc _ _ _ _=>reduce
   simp -implicitDefEqProofs only [go_sem,Int.reduceNegSucc]
   repeat' (first | (simp -implicitDefEqProofs only [go_sem,Int.reduceNegSucc,sn,vh,AP,LX]) | (with_reducible refine aA ?_) | ((first | refine ai (fun hg=>?_) (fun hg=>?_) | refine ax (fun hg=>?_) (fun hg=>?_) | refine ay (fun hg=>?_) (fun hg=>?_)) <;> try simp -implicitDefEqProofs only [hg,Bool.not_true,Bool.not_false]) | ((with_reducible apply And.intro);focus (first | trivial | omega | decide | (simp -implicitDefEqProofs only [maxLen];omega) | (simp [maxLen,af,ak,an,av,aj,au,aq] <;> omega))) | fail)
   refine (hK _ _ (gj ?_ ?_)).2 <;> rfl
end Go.aL

namespace Go.aL
open Go
theorem QG:aU Go.Proofs.Tryz.prog 89 30 (fc Go.Proofs.Tryz.prog 89 30 [(.c 4 8 true),(.t 5)]) [(.c 4 8 true),(.t 5)]:=bl (by kernel_rfl)
theorem QJ:aU Go.Proofs.Tryz.prog 90 9 (fc Go.Proofs.Tryz.prog 90 9 [(.t 4)]) [(.t 4)]:=bl (by kernel_rfl)
theorem QN:aU Go.Proofs.Tryz.prog 110 19 (fc Go.Proofs.Tryz.prog 110 19 [(.t 4)]) [(.t 4)]:=bl (by kernel_rfl)
theorem Qf:aU Go.Proofs.Tryz.prog 61 137 (fc Go.Proofs.Tryz.prog 61 137 [(.c 8 28 true),(.t 9)]) [(.c 8 28 true),(.t 9)]:=bl (by kernel_rfl)
theorem FV:aU Go.Proofs.Tryz.prog 62 30 (fc Go.Proofs.Tryz.prog 62 30 [(.t 6),(.t 7)]) [(.t 6),(.t 7)]:=bl (by kernel_rfl)
theorem OY:aU Go.Proofs.Tryz.prog 113 24 (fc Go.Proofs.Tryz.prog 113 24 [(.t 4)]) [(.t 4)]:=bl (by kernel_rfl)
theorem OZ:aU Go.Proofs.Tryz.prog 114 76 (fc Go.Proofs.Tryz.prog 114 76 [(.t 4),(.t 5)]) [(.t 4),(.t 5)]:=bl (by kernel_rfl)
def Q4.gZ (q:Q4 Sz):List RV:=[.bool q.a.auto,.int .i64 q.a.n,.bool q.b.auto,.int .i64 q.b.n,.bool q.c.auto,.int .i64 q.c.n,.bool q.d.auto,.int .i64 q.d.n]
def wI (q:Q4 Ln) (b:Int):Q4 Sz:=⟨fR q.a b true,fR q.b b true,fR q.c b true,fR q.d b true⟩
def oL (q:Q4 Ln) (b:Int):Bool:=gS q.a b true && gS q.b b true && gS q.c b true && gS q.d b true
def mG (q:Q4 Ln) (b:Int):Q4 Sz:=if oL q b=true then wI q b else ⟨⟨false,0⟩,⟨false,0⟩,⟨false,0⟩,⟨false,0⟩⟩
theorem Iw (q:Q4 Ln) (b:Int):aK Go.Proofs.Tryz.prog 89 [.agg (q.oG.map .rv),.rv (.int .i64 b)] [] [] (.aO [.agg ((mG q b).gZ.map .rv),.rv (.bool (oL q b))]):=by
 refine bu QG [.agg (q.oG.map .rv),.rv (.int .i64 b)] _ (by simp) (by simp [aP,aY,bq,aW,bk,aC.sv,Ln.sv,Nd.sv]) (fun K hK=>?_)
 have ha:=ry q.a b true
 have hb:=ry q.b b true
 have hc:=ry q.c b true
 have hd:=ry q.d b true
 conv in fc _ _ _ _=>reduce
 simp -implicitDefEqProofs only [Q4.oG,Ln.sv,Ln.cells,Sz.sv,Sz.cells,go_sem,Int.reduceNegSucc] at *
 repeat' (first | (simp -implicitDefEqProofs only [go_sem,Int.reduceNegSucc]) | (with_reducible refine aA ?_) | ((first | refine ai (fun hg=>?_) (fun hg=>?_) | refine ax (fun hg=>?_) (fun hg=>?_) | refine ay (fun hg=>?_) (fun hg=>?_)) <;> try simp -implicitDefEqProofs only [hg,Bool.not_true,Bool.not_false]) | ((with_reducible apply And.intro);focus (first | trivial | omega | decide | (simp -implicitDefEqProofs only [maxLen];omega) | (simp [maxLen,af,ak,an,av,aj,au,aq] <;> omega))) | fail)
 refine jX 5 ?_
 have bf:=ha;have y_2:=hb;have bB:=hc;have bG:=hd;repeat' (first | (simp -implicitDefEqProofs only [go_sem,Int.reduceNegSucc,kj,kk,ko,kr,ku,kz,jT,Int.reduceLT,decide_true,decide_false,Int.reduceToNat,Nat.reduceMul]) | (with_reducible refine aA ?_) | (with_reducible show G _ _ (It.l _ _::_) _ _ _;refine jW ?_) | (with_reducible first | refine ag bf ?_ | refine ah bf ?_) | (with_reducible first | refine ag y_2 ?_ | refine ah y_2 ?_) | (with_reducible first | refine ag bB ?_ | refine ah bB ?_) | (with_reducible first | refine ag bG ?_ | refine ah bG ?_) | ((first | refine ai (fun hg=>?_) (fun hg=>?_) | refine ax (fun hg=>?_) (fun hg=>?_) | refine ay (fun hg=>?_) (fun hg=>?_)) <;> try simp -implicitDefEqProofs only [hg,Bool.not_true,Bool.not_false]) | ((with_reducible apply And.intro);focus (first | trivial | omega | decide | (simp -implicitDefEqProofs only [maxLen];omega) | (simp [maxLen,af,ak,an,av,aj,au,aq] <;> omega))) | fail)
 all_goals (refine (hK _ _ ?_).2;clear hK;simp -implicitDefEqProofs only [go_sem,Int.reduceNegSucc,aQ,aS,aX,bn,aI,aG,aF,mG,oL,wI,Q4.gZ] <;>(try simp_all [-Int.not_lt,-Int.not_le,aI,aG,aF,bA,mG,oL,wI,Q4.gZ]) <;> try omega)
def BH (a b c d e:Bool):Int:=if a=false then 0 else if b=false then 1 else if c=false then 2 else if d=false then 3 else if e=false then 4 else -1
theorem TQ (a b c d e:Bool):aK Go.Proofs.Tryz.prog 110 [.rv (.sl 1 [[.bool a],[.bool b],[.bool c],[.bool d],[.bool e]]),.rv (.bool false)] [] [] (.rv (.int .i64 (BH a b c d e))):=by
 refine bu QN [.rv (.sl 1 [[.bool a],[.bool b],[.bool c],[.bool d],[.bool e]]),.rv (.bool false)] _ (by simp) (by simp [aP,aY,bq,aW,bk,aC.sv,Ln.sv,Nd.sv]) (fun K hK=>?_)
 conv in fc _ _ _ _=>reduce
 simp -implicitDefEqProofs only [go_sem,Int.reduceNegSucc]
 repeat' (first | (simp -implicitDefEqProofs only [go_sem,Int.reduceNegSucc]) | (with_reducible refine aA ?_) | ((first | refine ai (fun hg=>?_) (fun hg=>?_) | refine ax (fun hg=>?_) (fun hg=>?_) | refine ay (fun hg=>?_) (fun hg=>?_)) <;> try simp -implicitDefEqProofs only [hg,Bool.not_true,Bool.not_false]) | ((with_reducible apply And.intro);focus (first | trivial | omega | decide | (simp -implicitDefEqProofs only [maxLen];omega) | (simp [maxLen,af,ak,an,av,aj,au,aq] <;> omega))) | fail)
 refine jX 6 ?_
 repeat' (first | (simp -implicitDefEqProofs only [go_sem,Int.reduceNegSucc,kj,kk,ko,kr,ku,kz,jT,Int.reduceLT,decide_true,decide_false,Int.reduceToNat,Nat.reduceMul]) | (with_reducible refine aA ?_) | (with_reducible show G _ _ (It.l _ _::_) _ _ _;refine jW ?_) | ((first | refine ai (fun hg=>?_) (fun hg=>?_) | refine ax (fun hg=>?_) (fun hg=>?_) | refine ay (fun hg=>?_) (fun hg=>?_)) <;> try simp -implicitDefEqProofs only [hg,Bool.not_true,Bool.not_false]) | ((with_reducible apply And.intro);focus (first | trivial | omega | decide | (simp -implicitDefEqProofs only [maxLen];omega) | (simp [maxLen,af,ak,an,av,aj,au,aq] <;> omega))) | fail)
 all_goals (refine (hK _ _ (bS ?_)).2;clear hK;simp_all [lk,BH])
theorem TJ (a b c d e:Bool):aK Go.Proofs.Tryz.prog 90 [.rv (.sl 1 [[.bool a],[.bool b],[.bool c],[.bool d],[.bool e]]),.rv (.bool false)] [] [] (.rv (.bool !(a && b && c && d && e))):=by
 refine bu QJ [.rv (.sl 1 [[.bool a],[.bool b],[.bool c],[.bool d],[.bool e]]),.rv (.bool false)] _ (by simp) (by simp [aP,aY,bq,aW,bk,aC.sv,Ln.sv,Nd.sv]) (fun K hK=>?_)
 have hi:=TQ a b c d e
 have h5:decide (BH a b c d e≥0) = !(a && b && c && d && e):=by cases a <;> cases b <;> cases c <;> cases d <;> cases e <;> rfl
 conv in fc _ _ _ _=>reduce
 simp -implicitDefEqProofs only [go_sem,Int.reduceNegSucc]
 have bI:=hi;repeat' (first | (simp -implicitDefEqProofs only [go_sem,Int.reduceNegSucc,h5]) | (with_reducible refine aA ?_) | (with_reducible first | refine ag bI ?_ | refine ah bI ?_) | ((first | refine ai (fun hg=>?_) (fun hg=>?_) | refine ax (fun hg=>?_) (fun hg=>?_) | refine ay (fun hg=>?_) (fun hg=>?_)) <;> try simp -implicitDefEqProofs only [hg,Bool.not_true,Bool.not_false]) | ((with_reducible apply And.intro);focus (first | trivial | omega | decide | (simp -implicitDefEqProofs only [maxLen];omega) | (simp [maxLen,af,ak,an,av,aj,au,aq] <;> omega))) | fail)
 exact (hK _ _ (bS rfl)).2
theorem TK (j v:Nat) (a b c d e:Bool):aK Go.Proofs.Tryz.prog 90 [.win j v 0 5,.rv (.bool false)] [(j,.var [.rv (.bool a),.rv (.bool b),.rv (.bool c),.rv (.bool d),.rv (.bool e)])] [] (.rv (.bool !(a && b && c && d && e))):=by
 refine xI (rs:=[.sl 1 [[.bool a],[.bool b],[.bool c],[.bool d],[.bool e]],.bool false]) (TJ a b c d e) (fun hp hpre=>⟨?_,.rv _,trivial⟩) rfl (.rv _ (.bool _)) (by simp)
 refine .win j v 0 1 5 [.rv (.bool a),.rv (.bool b),.rv (.bool c),.rv (.bool d),.rv (.bool e)] _ rfl (hpre _ (.head _)) rfl (by simp) (by simp) (fun i r k q hi hk=>?_) (fun i r k y q hi hy hk=>?_)
 ·match i,k with
  | 0,0 | 1,0 | 2,0 | 3,0 | 4,0=>cases hi;cases hk;rfl
  | 0,k+1 | 1,k+1 | 2,k+1 | 3,k+1 | 4,k+1=>cases hi;simp at hk
  | i+5,k=>simp at hi
 ·match i,k with
  | 0,0 | 1,0 | 2,0 | 3,0 | 4,0=>cases hi;cases hk;cases hy;exact .rv _
  | 0,k+1 | 1,k+1 | 2,k+1 | 3,k+1 | 4,k+1=>cases hi;simp at hk
  | i+5,k=>simp at hi
structure Ed where
 bC:Q4 Sz
 pad:Q4 Sz
 bD:Q4 Int
 high:Sz
 least:Int
 most:Int
 alone:Bool
 flat:Bool
 nM:Bool
 lE:Bool
def Ed.cells (e:Ed):List RV:=e.bC.gZ++e.pad.gZ++e.bD.ints++[.bool e.high.auto,.int .i64 e.high.n,.int .i64 e.least,.int .i64 e.most,.bool e.alone,.bool e.flat,.bool e.nM,.bool e.lE]
def rC (s:aC) (w:Int):Bool:=(s.bD.a == 0) && ((mG s.pad w).a.n == 0)
def qA (s:aC) (w:Int):Bool:=(s.bD.c == 0) && ((mG s.pad w).c.n == 0)
def we (s:aC) (h:Sz):Int:=bh (fR s.jM h.n (!h.auto)) 0
def uX (s:aC) (w:Int) (h:Sz) (alone:Bool):Ed:=
 ⟨mG s.bC w,mG s.pad w,s.bD,fR s.height h.n (!h.auto),we s h,bh (fR s.jL h.n (!h.auto)) 1125899906842624,alone,
  !alone && rC s w && qA s w && (we s h == 0),!alone && rC s w,!alone && qA s w && (fR s.height h.n (!h.auto)).auto && (we s h == 0)⟩
def rW (s:aC) (w:Int) (h:Sz):Bool:=oL s.bC w && oL s.pad w && gS s.height h.n (!h.auto) && gS s.jM h.n (!h.auto) && gS s.jL h.n (!h.auto)
theorem Uk (s:aC) (w:Int) (h:Sz) (alone:Bool):aK Go.Proofs.Tryz.prog 61 [s.sv,.rv (.int .i64 w),h.sv,.rv (.bool alone)] [] [] (.aO [.agg ((uX s w h alone).cells.map .rv),.rv (.bool (rW s w h))]):=by
 refine bu Qf [s.sv,.rv (.int .i64 w),h.sv,.rv (.bool alone)] _ (by simp) (by simp [aP,aY,bq,aW,bk,aC.sv,Ln.sv,Nd.sv]) (fun K hK=>?_)
 have h1:=Iw s.bC w
 have h2:=Iw s.pad w
 have h3:=ry s.height h.n (!h.auto)
 have h4:=Iu s.jM h.n (!h.auto)
 have h5:=Iv s.jL h.n (!h.auto)
 have h6:=fun j=>TK j 0 (oL s.bC w) (oL s.pad w) (gS s.height h.n (!h.auto)) (gS s.jM h.n (!h.auto)) (gS s.jL h.n (!h.auto))
 simp -implicitDefEqProofs only [uX,rC,qA,we,rW] at hK
 simp -implicitDefEqProofs only [Q4.gZ,Sz.sv,Sz.cells,List.map_cons,List.map_nil] at h1 h2 h3 h4 h5
 generalize mG s.bC w=M at *
 generalize mG s.pad w=D at *
 generalize fR s.height h.n (!h.auto)=H at *
 generalize bh (fR s.jM h.n (!h.auto)) 0=L at *
 generalize bh (fR s.jL h.n (!h.auto)) 1125899906842624=X at *
 conv in fc _ _ _ _=>reduce
 simp -implicitDefEqProofs only [Sz.sv,Sz.cells,go_sem,Int.reduceNegSucc]
 cases alone <;>(have bK:=h1;have bL:=h2;have bO:=h3;have cl:=h4;have cr:=h5;have fU:=h6;repeat' (first | (simp -implicitDefEqProofs only [go_sem,Int.reduceNegSucc,cC,dX,cD,dY,cO,ez,cZ,eL,dx,eX,dH,fo,dI,fq,dJ,fu,dK,fy,dL,fA,cE,dZ,cF,ec,cG,ee,cH,eg,cI,ek,cJ,ep,cK,er,cL,eu,cM,ew,cN,ey,cP,eA,cQ,eC,cR,eD,cS,eE,cT,eF,cU,eG,cV,eH,cW,eI,cX,eJ,cY,eK,dc,eM,de,eN,dg,eO,dh,eP,di,eR,dj,eS,dm,eT,dn,eU,dr,eV,dw,eW,dy,eY,dz,eZ,cA,fe,dA,ff,dB,fh,dD,fj,dF,fk,dG,fm,dR,dM,dN,dO,dP,dQ,dS,dU,dV,dW,cB,cz,af,Q4.ints]) | (with_reducible refine aA ?_) | (with_reducible first | refine ag bK ?_ | refine ah bK ?_) | (with_reducible first | refine ag bL ?_ | refine ah bL ?_) | (with_reducible first | refine ag bO ?_ | refine ah bO ?_) | (with_reducible first | refine ag cl ?_ | refine ah cl ?_) | (with_reducible first | refine ag cr ?_ | refine ah cr ?_) | ((first | refine bQ (fU _) ?_ ?_ ?_ | refine bV (fU _) ?_ ?_ ?_ | fail);(focus (simp [aT,aB] <;> fail));(focus (simp [aZ,aR] <;> fail))) | ((first | refine ai (fun hg=>?_) (fun hg=>?_) | refine ax (fun hg=>?_) (fun hg=>?_) | refine ay (fun hg=>?_) (fun hg=>?_)) <;> try simp -implicitDefEqProofs only [hg,Bool.not_true,Bool.not_false]) | ((with_reducible apply And.intro);focus (first | trivial | omega | decide | (simp -implicitDefEqProofs only [maxLen];omega) | (simp [maxLen,af,ak,an,av,aj,au,aq] <;> omega))) | fail))
 all_goals (refine (hK _ _ ?_).2;clear hK;simp -implicitDefEqProofs only [go_sem,Int.reduceNegSucc,aQ,aS,aX,bn,aI,aG,aF,Ed.cells,Q4.gZ,Q4.ints] <;>(try simp_all [-Int.not_lt,-Int.not_le,aI,aG,aF,bA,Ed.cells,Q4.gZ,Q4.ints]) <;> try omega)
end Go.aL

namespace Go.aL
open Go
def WC (i j m k:Nat):Option Nat:=if k=j then some i else if k=i then none else if k<m then some k else none
def WB (i j k:Nat):Nat:=if k=i then j else k
end Go.aL
